/- A part of the proof that a law answers true for every input of its row: own work, by an AI agent. -/
import Derived.Test.YtcpepibkopbhgaaB01
import Derived.Shelf.SlSortCmp.NoneTotal
set_option linter.unusedSimpArgs false
set_option linter.unusedVariables false
set_option linter.defProp false
namespace Go.Proofs.B
open Go Go.AH
set_option maxRecDepth 4000
set_option linter.unusedSimpArgs false
set_option linter.unusedVariables false
theorem c_Or (l : (List Int)) (h_l : l.length ≤ 1048576) : PC Try.prog 31 [.sl l.length (l.map eI)] (.int .i64 (orL l)) := by
 intro H0
 refine ACalls.of_body' (n := 18) rfl rfl rfl rfl ?_
 have m0 := Mono.refl H0
 refine AWP.seq ?_
 refine AWP.region (l := [0]) rfl ?_
 refine AOps.cons rfl rfl (AOp.assign (.int .i64 0) rfl rfl ?_)
 refine AOps.nil ?_
 change AWP _ _ _ _ _ _
 refine AWP.seq ?_
 refine AWP.region (l := [0]) rfl ?_
 refine AOps.cons rfl rfl (AOp.assign (.int .i64 0) rfl rfl ?_)
 refine AOps.nil ?_
 change AWP _ _ _ _ _ _
 refine AWP.seq ?_
 refine AWP.seq ?_
 refine AWP.region (l := [0, 1, 2]) rfl ?_
 refine AOps.cons rfl rfl (AOp.move (.sl l.length (l.map eI)) rfl rfl ?_)
 refine AOps.cons rfl rfl (AOp.len (m := l.length) rfl rfl (.inr (.inl ⟨_, rfl⟩)) u_27 ?_)
 refine AOps.cons rfl rfl (AOp.move (.int .i64 0) rfl rfl ?_)
 refine AOps.nil ?_
 change AWP _ _ _ _ _ _
 refine AWP.block ?_
 refine AWP.loop (fun q1 fq Hq => ∃ (i : Int), q1 = (((l.length : Int) : Int) - i).toNat ∧ fq 8 = .int .i64 i ∧ fq 3 = .int .i64 0 ∧ fq 6 = .sl l.length (l.map eI) ∧ fq 7 = .int .i64 (l.length : Int) ∧ Mono H0 Hq ∧ (0 ≤ i) ∧ (i ≤ (l.length : Int)) ∧ (orL (l.drop i.toNat) = orL l)) (k := (((l.length : Int) : Int) - 0).toNat) ?_ ?_
 ·
  exact ⟨0, rfl, rfl, rfl, rfl, rfl, m0, by omega, by omega, by rfl⟩
 ·
  rintro _ f3 H2 ⟨i, rfl, s4, s5, s6, s7, m8, hi0, hi1, hf⟩
  refine AWP.seq ?_
  refine AWP.region (l := [0]) rfl ?_
  refine AOps.cons rfl rfl (AOp.bin (.bool (decide (i < (l.length : Int)))) rfl s4 s7 rfl ?_)
  refine AOps.nil ?_
  change AWP _ _ _ _ _ _
  refine AWP.seq ?_
  by_cases b9 : i < (l.length : Int)
  ·
   refine AWP.condT rfl (decide_eq_true b9) ?_
   refine AWP.skip ?_
   change AWP _ _ _ _ _ _
   refine AWP.seq ?_
   refine AWP.block ?_
   refine AWP.seq ?_
   refine AWP.region (l := [0, 1, 2]) rfl ?_
   refine AOps.cons rfl rfl (AOp.indexAddrS rfl s6 s4 sl_27 (by omega) (by omega) ?_)
   refine AOps.cons rfl rfl (AOp.loadF (.int .i64 (at_ l i)) rfl rfl ty_3 (ld1 (by omega) (by omega)) ?_)
   refine AOps.cons rfl rfl (AOp.assign (.int .i64 (at_ l i)) rfl rfl ?_)
   refine AOps.nil ?_
   change AWP _ _ _ _ _ _
   refine AWP.seq ?_
   refine AWP.region (l := [0, 1, 2]) rfl ?_
   refine AOps.cons rfl rfl (AOp.move (.int .i64 (at_ l i)) rfl rfl ?_)
   refine AOps.cons rfl rfl (AOp.move (.int .i64 0) rfl s5 ?_)
   refine AOps.cons rfl rfl (AOp.bin (.bool (!decide (at_ l i = 0))) rfl rfl rfl ine ?_)
   refine AOps.nil ?_
   change AWP _ _ _ _ _ _
   by_cases b10 : at_ l i = 0
   ·
    refine AWP.condF rfl (nb (decide_eq_true b10)) ?_
    refine AWP.skip ?_
    change AWP _ _ _ _ _ _
    refine AWP.region (l := [0, 1]) rfl ?_
    refine AOps.cons rfl rfl (AOp.bin (.int .i64 (i + 1)) rfl s4 rfl (iadd (by omega)) ?_)
    refine AOps.cons rfl rfl (AOp.move (.int .i64 (i + 1)) rfl rfl ?_)
    refine AOps.nil ?_
    exact ⟨_, by omega, i + 1, rfl, rfl, s5, s6, s7, m8, by omega, by omega, by rw [← hf]; exact (orL_step hi0 (by omega) (by omega)).symm⟩
   ·
    refine AWP.condT rfl (nb (decide_eq_false b10)) ?_
    refine AWP.seq ?_
    refine AWP.region (l := [0, 1]) rfl ?_
    refine AOps.cons rfl rfl (AOp.move (.int .i64 (at_ l i)) rfl rfl ?_)
    refine AOps.cons rfl rfl (AOp.assign (.int .i64 (at_ l i)) rfl rfl ?_)
    refine AOps.nil ?_
    change AWP _ _ _ _ _ _
    refine AWP.ret ?_
    refine ⟨_, _, Ghost.refl, .inr rfl, _, Res.one rfl rfl, ?_, m8⟩
    exact (congrArg (AV.int .i64) (show (at_ l i : Int) = orL l from by rw [← hf]; exact (orL_hit hi0 (by omega) (by omega)).symm))
  ·
   refine AWP.condF rfl (decide_eq_false b9) ?_
   refine AWP.exit ?_
   change AWP _ _ _ _ _ _
   refine AWP.seq ?_
   refine AWP.region (l := [0, 1]) rfl ?_
   refine AOps.cons rfl rfl (AOp.move (.int .i64 0) rfl s5 ?_)
   refine AOps.cons rfl rfl (AOp.assign (.int .i64 0) rfl rfl ?_)
   refine AOps.nil ?_
   change AWP _ _ _ _ _ _
   refine AWP.ret ?_
   refine ⟨_, _, Ghost.refl, .inr rfl, _, Res.one rfl rfl, ?_, m8⟩
   exact (congrArg (AV.int .i64) (show (0 : Int) = orL l from by rw [← hf]; exact (orL_end (by omega)).symm))
def R_wide_right (p : FracT) : Bool :=
  if p.D > 0 then true else decide (p = (FracT.mk 1 0))
theorem c_wide_right (p : FracT) (hp : (-4611686018427387904 ≤ p.N ∧ p.N ≤ 4611686018427387904) ∧ -4611686018427387904 ≤ p.D ∧ p.D ≤ 4611686018427387904) : PC Try.prog 47 [.agg [.int .i64 p.N, .int .i64 p.D]] (.bool (R_wide_right p)) := by
 intro H0
 refine ACalls.of_body' (n := 11) rfl rfl rfl rfl ?_
 have m0 := Mono.refl H0
 refine AWP.seq ?_
 refine AWP.region (l := [0, 1]) rfl ?_
 refine AOps.cons rfl rfl (AOp.box (.agg [.int .i64 p.N, .int .i64 p.D]) rfl rfl rfl ?_)
 intro i1 H2 n3 h4 k5
 have z6 := Mono.free m0 n3
 have m7 := Mono.new m0 n3 k5
 refine AOps.cons rfl rfl (AOp.assign (.bool false) rfl rfl ?_)
 refine AOps.nil ?_
 change AWP _ _ _ _ _ _
 refine AWP.seq ?_
 refine AWP.frzP 1 h4 z6 rfl m7 fun H8 m9 k10 => ?_
 refine AWP.region (l := [0, 1, 2, 3, 4, 5, 6, 7, 8]) rfl ?_
 refine AOps.cons rfl rfl (AOp.fieldAddrF rfl rfl fl_46_1 ?_)
 refine AOps.cons rfl rfl (AOp.loadF (.int .i64 p.D) rfl rfl ty_3 rfl ?_)
 refine AOps.cons rfl rfl (AOp.bin (.bool (decide (p.D > 0))) rfl rfl rfl rfl ?_)
 refine AOps.cons rfl rfl (AOp.move (.bool (decide (p.D > 0))) rfl rfl ?_)
 by_cases b11 : p.D > 0
 ·
  refine AOps.no rfl rfl rfl rfl rfl rfl rfl (ble_of (decide_eq_true b11) (by decide)) ?_
  refine AOps.no rfl rfl rfl rfl rfl rfl rfl (ble_of (decide_eq_true b11) (by decide)) ?_
  refine AOps.no rfl rfl rfl rfl rfl rfl rfl (ble_of (decide_eq_true b11) (by decide)) ?_
  refine AOps.cons rfl rfl (AOp.pickT (.bool true) rfl rfl (decide_eq_true b11) rfl ?_)
  refine AOps.cons rfl rfl (AOp.assign (.bool true) rfl rfl ?_)
  refine AOps.nil ?_
  change AWP _ _ _ _ _ _
  refine AWP.ret ?_
  refine ⟨_, _, Ghost.refl, .inr rfl, _, Res.one rfl rfl, ?_, m9⟩
  have hR : R_wide_right p = true := by unfold R_wide_right; rw [if_pos b11]
  exact (congrArg (fun r : Bool => (.bool r : AV)) hR).symm
 ·
  refine AOps.yes rfl rfl rfl rfl rfl rfl rfl (decide_eq_false b11) (AOp.loadF (.agg [.int .i64 p.N, .int .i64 p.D]) rfl rfl ty_46 rfl ?_)
  refine AOps.yes rfl rfl rfl rfl rfl rfl rfl (decide_eq_false b11) (AOp.build (cells := [.int .i64 1, .int .i64 0]) rfl tz_46 pl_46 rfl rfl ?_)
  refine AOps.yes rfl rfl rfl rfl rfl rfl rfl (decide_eq_false b11) (AOp.eqAggD rfl rfl rfl teq46 (kokF (v := p) (by constructor <;> (unfold inR; omega))) (kokF (v := (FracT.mk 1 0)) (by constructor <;> (unfold inR; constructor <;> decide))) (eFrac_iff p (FracT.mk 1 0)) ?_)
  refine AOps.cons rfl rfl (AOp.pickF (.bool (decide (p = (FracT.mk 1 0)))) rfl rfl (decide_eq_false b11) rfl ?_)
  refine AOps.cons rfl rfl (AOp.assign (.bool (decide (p = (FracT.mk 1 0)))) rfl rfl ?_)
  refine AOps.nil ?_
  change AWP _ _ _ _ _ _
  refine AWP.ret ?_
  refine ⟨_, _, Ghost.refl, .inr rfl, _, Res.one rfl rfl, ?_, m9⟩
  have hR : R_wide_right p = decide (p = (FracT.mk 1 0)) := by unfold R_wide_right; rw [if_neg b11]
  exact (congrArg (fun r : Bool => (.bool r : AV)) hR).symm
theorem c_Mul (a b : Int) (ha : i64R a) (hb : i64R b) : PC Try.prog 49 [.int .i64 a, .int .i64 b] (.agg [.int .i64 ((mulW a b).Hi), .int .u64 ((mulW a b).Lo)]) := by
 intro H0
 refine ACalls.of_body' (n := 31) rfl rfl rfl rfl ?_
 have m0 := Mono.refl H0
 refine AWP.seq ?_
 refine AWP.region (l := [0]) rfl ?_
 refine AOps.cons rfl rfl (AOp.alloc rfl tz_86 ?_)
 intro i1 H2 n3 h4 k5
 have z6 := Mono.free m0 n3
 have m7 := Mono.new m0 n3 k5
 refine AOps.nil ?_
 change AWP _ _ _ _ _ _
 refine AWP.seq ?_
 have e1 := wrapU a
 have e2 := wrapU b
 refine AWP.region (l := [0, 1, 2, 3, 4, 5, 6, 7, 8, 9]) rfl ?_
 refine AOps.cons rfl rfl (AOp.move (.int .i64 a) rfl rfl ?_)
 refine AOps.cons rfl rfl (AOp.convInt rfl rfl u_3 u_84 ?_)
 refine AOps.cons rfl rfl (AOp.move (.int .i64 b) rfl rfl ?_)
 refine AOps.cons rfl rfl (AOp.convInt rfl rfl u_3 u_84 ?_)
 refine AOps.cons rfl rfl (AOp.pcall («as» := [.int .u64 (IntKind.wrap .u64 a), .int .u64 (IntKind.wrap .u64 b)]) rfl rfl (rfl) tf_66 (c_Mul64 _ _ (by omega) (by omega)) ?_)
 intro H8 m9
 have h10 := m9 _ _ h4
 have m11 := m7.trans m9
 refine AOps.cons rfl rfl (AOp.move (.tup [.int .u64 ((IntKind.wrap .u64 a) * (IntKind.wrap .u64 b) / 18446744073709551616), .int .u64 ((IntKind.wrap .u64 a) * (IntKind.wrap .u64 b) % 18446744073709551616)]) rfl rfl ?_)
 refine AOps.cons rfl rfl (AOp.extract (.int .u64 ((IntKind.wrap .u64 a) * (IntKind.wrap .u64 b) / 18446744073709551616)) rfl rfl rfl ?_)
 refine AOps.cons rfl rfl (AOp.extract (.int .u64 ((IntKind.wrap .u64 a) * (IntKind.wrap .u64 b) % 18446744073709551616)) rfl rfl rfl ?_)
 refine AOps.cons rfl rfl (AOp.assign (.int .u64 ((IntKind.wrap .u64 a) * (IntKind.wrap .u64 b) / 18446744073709551616)) rfl rfl ?_)
 refine AOps.cons rfl rfl (AOp.assign (.int .u64 ((IntKind.wrap .u64 a) * (IntKind.wrap .u64 b) % 18446744073709551616)) rfl rfl ?_)
 refine AOps.nil ?_
 change AWP _ _ _ _ _ _
 refine AWP.seq ?_
 refine AWP.seq ?_
 refine AWP.region (l := [0, 1]) rfl ?_
 refine AOps.cons rfl rfl (AOp.move (.int .i64 a) rfl rfl ?_)
 refine AOps.cons rfl rfl (AOp.bin (.bool (decide (a < 0))) rfl rfl rfl rfl ?_)
 refine AOps.nil ?_
 change AWP _ _ _ _ _ _
 by_cases b12 : a < 0
 ·
  refine AWP.condT rfl (decide_eq_true b12) ?_
  refine AWP.region (l := [0, 1, 2, 3, 4]) rfl ?_
  refine AOps.cons rfl rfl (AOp.move (.int .u64 ((IntKind.wrap .u64 a) * (IntKind.wrap .u64 b) / 18446744073709551616)) rfl rfl ?_)
  refine AOps.cons rfl rfl (AOp.move (.int .i64 b) rfl rfl ?_)
  refine AOps.cons rfl rfl (AOp.convInt rfl rfl u_3 u_84 ?_)
  refine AOps.cons rfl rfl (AOp.bin (.int .u64 (IntKind.wrap .u64 (((IntKind.wrap .u64 a) * (IntKind.wrap .u64 b) / 18446744073709551616) - (IntKind.wrap .u64 b)))) rfl rfl rfl rfl ?_)
  refine AOps.cons rfl rfl (AOp.assign (.int .u64 (IntKind.wrap .u64 (((IntKind.wrap .u64 a) * (IntKind.wrap .u64 b) / 18446744073709551616) - (IntKind.wrap .u64 b)))) rfl rfl ?_)
  refine AOps.nil ?_
  change AWP _ _ _ _ _ _
  refine AWP.seq ?_
  refine AWP.seq ?_
  refine AWP.region (l := [0, 1]) rfl ?_
  refine AOps.cons rfl rfl (AOp.move (.int .i64 b) rfl rfl ?_)
  refine AOps.cons rfl rfl (AOp.bin (.bool (decide (b < 0))) rfl rfl rfl rfl ?_)
  refine AOps.nil ?_
  change AWP _ _ _ _ _ _
  by_cases b13 : b < 0
  ·
   refine AWP.condT rfl (decide_eq_true b13) ?_
   refine AWP.region (l := [0, 1, 2, 3, 4]) rfl ?_
   refine AOps.cons rfl rfl (AOp.move (.int .u64 (IntKind.wrap .u64 (((IntKind.wrap .u64 a) * (IntKind.wrap .u64 b) / 18446744073709551616) - (IntKind.wrap .u64 b)))) rfl rfl ?_)
   refine AOps.cons rfl rfl (AOp.move (.int .i64 a) rfl rfl ?_)
   refine AOps.cons rfl rfl (AOp.convInt rfl rfl u_3 u_84 ?_)
   refine AOps.cons rfl rfl (AOp.bin (.int .u64 (IntKind.wrap .u64 ((IntKind.wrap .u64 (((IntKind.wrap .u64 a) * (IntKind.wrap .u64 b) / 18446744073709551616) - (IntKind.wrap .u64 b))) - (IntKind.wrap .u64 a)))) rfl rfl rfl rfl ?_)
   refine AOps.cons rfl rfl (AOp.assign (.int .u64 (IntKind.wrap .u64 ((IntKind.wrap .u64 (((IntKind.wrap .u64 a) * (IntKind.wrap .u64 b) / 18446744073709551616) - (IntKind.wrap .u64 b))) - (IntKind.wrap .u64 a)))) rfl rfl ?_)
   refine AOps.nil ?_
   change AWP _ _ _ _ _ _
   refine AWP.seq ?_
   refine AWP.region (l := [0, 1, 2, 3, 4]) rfl ?_
   refine AOps.cons rfl rfl (AOp.move (.int .u64 (IntKind.wrap .u64 ((IntKind.wrap .u64 (((IntKind.wrap .u64 a) * (IntKind.wrap .u64 b) / 18446744073709551616) - (IntKind.wrap .u64 b))) - (IntKind.wrap .u64 a)))) rfl rfl ?_)
   refine AOps.cons rfl rfl (AOp.convInt rfl rfl u_84 u_2 ?_)
   refine AOps.cons rfl rfl (AOp.move (.int .u64 ((IntKind.wrap .u64 a) * (IntKind.wrap .u64 b) % 18446744073709551616)) rfl rfl ?_)
   refine AOps.cons rfl rfl (AOp.build (cells := [.int .i64 (IntKind.wrap .i64 (IntKind.wrap .u64 ((IntKind.wrap .u64 (((IntKind.wrap .u64 a) * (IntKind.wrap .u64 b) / 18446744073709551616) - (IntKind.wrap .u64 b))) - (IntKind.wrap .u64 a)))), .int .u64 ((IntKind.wrap .u64 a) * (IntKind.wrap .u64 b) % 18446744073709551616)]) rfl tz_86 pl_86 rfl rfl ?_)
   refine AOps.cons rfl rfl (AOp.store' (cells' := [.int .i64 (IntKind.wrap .i64 (IntKind.wrap .u64 ((IntKind.wrap .u64 (((IntKind.wrap .u64 a) * (IntKind.wrap .u64 b) / 18446744073709551616) - (IntKind.wrap .u64 b))) - (IntKind.wrap .u64 a)))), .int .u64 ((IntKind.wrap .u64 a) * (IntKind.wrap .u64 b) % 18446744073709551616)]) (.agg [.int .i64 (IntKind.wrap .i64 (IntKind.wrap .u64 ((IntKind.wrap .u64 (((IntKind.wrap .u64 a) * (IntKind.wrap .u64 b) / 18446744073709551616) - (IntKind.wrap .u64 b))) - (IntKind.wrap .u64 a)))), .int .u64 ((IntKind.wrap .u64 a) * (IntKind.wrap .u64 b) % 18446744073709551616)]) rfl rfl ts_86 h10 rfl rfl rfl rfl ?_)
   intro H14 h15 k16
   have m18 := Mono.set m11 z6 k16
   refine AOps.nil ?_
   change AWP _ _ _ _ _ _
   refine AWP.ret ?_
   refine ⟨_, _, Ghost.refl, .inr rfl, _, Res.list1 rfl (.cell (v := .agg [.int .i64 (IntKind.wrap .i64 (IntKind.wrap .u64 ((IntKind.wrap .u64 (((IntKind.wrap .u64 a) * (IntKind.wrap .u64 b) / 18446744073709551616) - (IntKind.wrap .u64 b))) - (IntKind.wrap .u64 a)))), .int .u64 ((IntKind.wrap .u64 a) * (IntKind.wrap .u64 b) % 18446744073709551616)]) rfl ty_86 h15 rfl (.nil)), ?_, m18⟩
   exact (congrArg AV.agg (lc (congrArg (AV.int .i64) (show (IntKind.wrap .i64 (IntKind.wrap .u64 ((IntKind.wrap .u64 (((IntKind.wrap .u64 a) * (IntKind.wrap .u64 b) / 18446744073709551616) - (IntKind.wrap .u64 b))) - (IntKind.wrap .u64 a))) : Int) = (mulW a b).Hi from by exact mul_hi ha hb rfl (by simp only [*, if_true, if_false]))) (lc (congrArg (AV.int .u64) (show ((IntKind.wrap .u64 a) * (IntKind.wrap .u64 b) % 18446744073709551616 : Int) = (mulW a b).Lo from by rw [wrapU, wrapU]; exact (mul_uu ha hb).2)) rfl)))
  ·
   refine AWP.condF rfl (decide_eq_false b13) ?_
   refine AWP.skip ?_
   change AWP _ _ _ _ _ _
   refine AWP.seq ?_
   refine AWP.region (l := [0, 1, 2, 3, 4]) rfl ?_
   refine AOps.cons rfl rfl (AOp.move (.int .u64 (IntKind.wrap .u64 (((IntKind.wrap .u64 a) * (IntKind.wrap .u64 b) / 18446744073709551616) - (IntKind.wrap .u64 b)))) rfl rfl ?_)
   refine AOps.cons rfl rfl (AOp.convInt rfl rfl u_84 u_2 ?_)
   refine AOps.cons rfl rfl (AOp.move (.int .u64 ((IntKind.wrap .u64 a) * (IntKind.wrap .u64 b) % 18446744073709551616)) rfl rfl ?_)
   refine AOps.cons rfl rfl (AOp.build (cells := [.int .i64 (IntKind.wrap .i64 (IntKind.wrap .u64 (((IntKind.wrap .u64 a) * (IntKind.wrap .u64 b) / 18446744073709551616) - (IntKind.wrap .u64 b)))), .int .u64 ((IntKind.wrap .u64 a) * (IntKind.wrap .u64 b) % 18446744073709551616)]) rfl tz_86 pl_86 rfl rfl ?_)
   refine AOps.cons rfl rfl (AOp.store' (cells' := [.int .i64 (IntKind.wrap .i64 (IntKind.wrap .u64 (((IntKind.wrap .u64 a) * (IntKind.wrap .u64 b) / 18446744073709551616) - (IntKind.wrap .u64 b)))), .int .u64 ((IntKind.wrap .u64 a) * (IntKind.wrap .u64 b) % 18446744073709551616)]) (.agg [.int .i64 (IntKind.wrap .i64 (IntKind.wrap .u64 (((IntKind.wrap .u64 a) * (IntKind.wrap .u64 b) / 18446744073709551616) - (IntKind.wrap .u64 b)))), .int .u64 ((IntKind.wrap .u64 a) * (IntKind.wrap .u64 b) % 18446744073709551616)]) rfl rfl ts_86 h10 rfl rfl rfl rfl ?_)
   intro H19 h20 k21
   have m23 := Mono.set m11 z6 k21
   refine AOps.nil ?_
   change AWP _ _ _ _ _ _
   refine AWP.ret ?_
   refine ⟨_, _, Ghost.refl, .inr rfl, _, Res.list1 rfl (.cell (v := .agg [.int .i64 (IntKind.wrap .i64 (IntKind.wrap .u64 (((IntKind.wrap .u64 a) * (IntKind.wrap .u64 b) / 18446744073709551616) - (IntKind.wrap .u64 b)))), .int .u64 ((IntKind.wrap .u64 a) * (IntKind.wrap .u64 b) % 18446744073709551616)]) rfl ty_86 h20 rfl (.nil)), ?_, m23⟩
   exact (congrArg AV.agg (lc (congrArg (AV.int .i64) (show (IntKind.wrap .i64 (IntKind.wrap .u64 (((IntKind.wrap .u64 a) * (IntKind.wrap .u64 b) / 18446744073709551616) - (IntKind.wrap .u64 b))) : Int) = (mulW a b).Hi from by exact mul_hi ha hb rfl (by simp only [*, if_true, if_false]))) (lc (congrArg (AV.int .u64) (show ((IntKind.wrap .u64 a) * (IntKind.wrap .u64 b) % 18446744073709551616 : Int) = (mulW a b).Lo from by rw [wrapU, wrapU]; exact (mul_uu ha hb).2)) rfl)))
 ·
  refine AWP.condF rfl (decide_eq_false b12) ?_
  refine AWP.skip ?_
  change AWP _ _ _ _ _ _
  refine AWP.seq ?_
  refine AWP.seq ?_
  refine AWP.region (l := [0, 1]) rfl ?_
  refine AOps.cons rfl rfl (AOp.move (.int .i64 b) rfl rfl ?_)
  refine AOps.cons rfl rfl (AOp.bin (.bool (decide (b < 0))) rfl rfl rfl rfl ?_)
  refine AOps.nil ?_
  change AWP _ _ _ _ _ _
  by_cases b24 : b < 0
  ·
   refine AWP.condT rfl (decide_eq_true b24) ?_
   refine AWP.region (l := [0, 1, 2, 3, 4]) rfl ?_
   refine AOps.cons rfl rfl (AOp.move (.int .u64 ((IntKind.wrap .u64 a) * (IntKind.wrap .u64 b) / 18446744073709551616)) rfl rfl ?_)
   refine AOps.cons rfl rfl (AOp.move (.int .i64 a) rfl rfl ?_)
   refine AOps.cons rfl rfl (AOp.convInt rfl rfl u_3 u_84 ?_)
   refine AOps.cons rfl rfl (AOp.bin (.int .u64 (IntKind.wrap .u64 (((IntKind.wrap .u64 a) * (IntKind.wrap .u64 b) / 18446744073709551616) - (IntKind.wrap .u64 a)))) rfl rfl rfl rfl ?_)
   refine AOps.cons rfl rfl (AOp.assign (.int .u64 (IntKind.wrap .u64 (((IntKind.wrap .u64 a) * (IntKind.wrap .u64 b) / 18446744073709551616) - (IntKind.wrap .u64 a)))) rfl rfl ?_)
   refine AOps.nil ?_
   change AWP _ _ _ _ _ _
   refine AWP.seq ?_
   refine AWP.region (l := [0, 1, 2, 3, 4]) rfl ?_
   refine AOps.cons rfl rfl (AOp.move (.int .u64 (IntKind.wrap .u64 (((IntKind.wrap .u64 a) * (IntKind.wrap .u64 b) / 18446744073709551616) - (IntKind.wrap .u64 a)))) rfl rfl ?_)
   refine AOps.cons rfl rfl (AOp.convInt rfl rfl u_84 u_2 ?_)
   refine AOps.cons rfl rfl (AOp.move (.int .u64 ((IntKind.wrap .u64 a) * (IntKind.wrap .u64 b) % 18446744073709551616)) rfl rfl ?_)
   refine AOps.cons rfl rfl (AOp.build (cells := [.int .i64 (IntKind.wrap .i64 (IntKind.wrap .u64 (((IntKind.wrap .u64 a) * (IntKind.wrap .u64 b) / 18446744073709551616) - (IntKind.wrap .u64 a)))), .int .u64 ((IntKind.wrap .u64 a) * (IntKind.wrap .u64 b) % 18446744073709551616)]) rfl tz_86 pl_86 rfl rfl ?_)
   refine AOps.cons rfl rfl (AOp.store' (cells' := [.int .i64 (IntKind.wrap .i64 (IntKind.wrap .u64 (((IntKind.wrap .u64 a) * (IntKind.wrap .u64 b) / 18446744073709551616) - (IntKind.wrap .u64 a)))), .int .u64 ((IntKind.wrap .u64 a) * (IntKind.wrap .u64 b) % 18446744073709551616)]) (.agg [.int .i64 (IntKind.wrap .i64 (IntKind.wrap .u64 (((IntKind.wrap .u64 a) * (IntKind.wrap .u64 b) / 18446744073709551616) - (IntKind.wrap .u64 a)))), .int .u64 ((IntKind.wrap .u64 a) * (IntKind.wrap .u64 b) % 18446744073709551616)]) rfl rfl ts_86 h10 rfl rfl rfl rfl ?_)
   intro H25 h26 k27
   have m29 := Mono.set m11 z6 k27
   refine AOps.nil ?_
   change AWP _ _ _ _ _ _
   refine AWP.ret ?_
   refine ⟨_, _, Ghost.refl, .inr rfl, _, Res.list1 rfl (.cell (v := .agg [.int .i64 (IntKind.wrap .i64 (IntKind.wrap .u64 (((IntKind.wrap .u64 a) * (IntKind.wrap .u64 b) / 18446744073709551616) - (IntKind.wrap .u64 a)))), .int .u64 ((IntKind.wrap .u64 a) * (IntKind.wrap .u64 b) % 18446744073709551616)]) rfl ty_86 h26 rfl (.nil)), ?_, m29⟩
   exact (congrArg AV.agg (lc (congrArg (AV.int .i64) (show (IntKind.wrap .i64 (IntKind.wrap .u64 (((IntKind.wrap .u64 a) * (IntKind.wrap .u64 b) / 18446744073709551616) - (IntKind.wrap .u64 a))) : Int) = (mulW a b).Hi from by exact mul_hi ha hb rfl (by simp only [*, if_true, if_false]))) (lc (congrArg (AV.int .u64) (show ((IntKind.wrap .u64 a) * (IntKind.wrap .u64 b) % 18446744073709551616 : Int) = (mulW a b).Lo from by rw [wrapU, wrapU]; exact (mul_uu ha hb).2)) rfl)))
  ·
   refine AWP.condF rfl (decide_eq_false b24) ?_
   refine AWP.skip ?_
   change AWP _ _ _ _ _ _
   refine AWP.seq ?_
   refine AWP.region (l := [0, 1, 2, 3, 4]) rfl ?_
   refine AOps.cons rfl rfl (AOp.move (.int .u64 ((IntKind.wrap .u64 a) * (IntKind.wrap .u64 b) / 18446744073709551616)) rfl rfl ?_)
   refine AOps.cons rfl rfl (AOp.convInt rfl rfl u_84 u_2 ?_)
   refine AOps.cons rfl rfl (AOp.move (.int .u64 ((IntKind.wrap .u64 a) * (IntKind.wrap .u64 b) % 18446744073709551616)) rfl rfl ?_)
   refine AOps.cons rfl rfl (AOp.build (cells := [.int .i64 (IntKind.wrap .i64 ((IntKind.wrap .u64 a) * (IntKind.wrap .u64 b) / 18446744073709551616)), .int .u64 ((IntKind.wrap .u64 a) * (IntKind.wrap .u64 b) % 18446744073709551616)]) rfl tz_86 pl_86 rfl rfl ?_)
   refine AOps.cons rfl rfl (AOp.store' (cells' := [.int .i64 (IntKind.wrap .i64 ((IntKind.wrap .u64 a) * (IntKind.wrap .u64 b) / 18446744073709551616)), .int .u64 ((IntKind.wrap .u64 a) * (IntKind.wrap .u64 b) % 18446744073709551616)]) (.agg [.int .i64 (IntKind.wrap .i64 ((IntKind.wrap .u64 a) * (IntKind.wrap .u64 b) / 18446744073709551616)), .int .u64 ((IntKind.wrap .u64 a) * (IntKind.wrap .u64 b) % 18446744073709551616)]) rfl rfl ts_86 h10 rfl rfl rfl rfl ?_)
   intro H30 h31 k32
   have m34 := Mono.set m11 z6 k32
   refine AOps.nil ?_
   change AWP _ _ _ _ _ _
   refine AWP.ret ?_
   refine ⟨_, _, Ghost.refl, .inr rfl, _, Res.list1 rfl (.cell (v := .agg [.int .i64 (IntKind.wrap .i64 ((IntKind.wrap .u64 a) * (IntKind.wrap .u64 b) / 18446744073709551616)), .int .u64 ((IntKind.wrap .u64 a) * (IntKind.wrap .u64 b) % 18446744073709551616)]) rfl ty_86 h31 rfl (.nil)), ?_, m34⟩
   exact (congrArg AV.agg (lc (congrArg (AV.int .i64) (show (IntKind.wrap .i64 ((IntKind.wrap .u64 a) * (IntKind.wrap .u64 b) / 18446744073709551616) : Int) = (mulW a b).Hi from by exact mul_hi ha hb rfl (by simp only [*, if_true, if_false]))) (lc (congrArg (AV.int .u64) (show ((IntKind.wrap .u64 a) * (IntKind.wrap .u64 b) % 18446744073709551616 : Int) = (mulW a b).Lo from by rw [wrapU, wrapU]; exact (mul_uu ha hb).2)) rfl)))
def R_wide_Cmp (a : WideT) (b : WideT) : Int :=
  orL ([cmpI a.Hi b.Hi, cmpI a.Lo b.Lo] : List Int)
theorem c_wide_Cmp (a : WideT) (b : WideT) : PC Try.prog 48 [.agg [.int .i64 a.Hi, .int .u64 a.Lo], .agg [.int .i64 b.Hi, .int .u64 b.Lo]] (.int .i64 (R_wide_Cmp a b)) := by
 intro H0
 refine ACalls.of_body' (n := 17) rfl rfl rfl rfl ?_
 have m0 := Mono.refl H0
 refine AWP.seq ?_
 refine AWP.region (l := [0, 1, 2]) rfl ?_
 refine AOps.cons rfl rfl (AOp.box (.agg [.int .i64 a.Hi, .int .u64 a.Lo]) rfl rfl rfl ?_)
 intro i1 H2 n3 h4 k5
 have z6 := Mono.free m0 n3
 have m7 := Mono.new m0 n3 k5
 refine AOps.cons rfl rfl (AOp.box (.agg [.int .i64 b.Hi, .int .u64 b.Lo]) rfl rfl rfl ?_)
 intro i8 H9 n10 h11 k12
 have e13 := ne_new h4 n10
 have z14 := Mono.free m7 n10
 have h15 := keep k12 (ne_new h4 n10) h4
 have m16 := Mono.new m7 n10 k12
 refine AOps.cons rfl rfl (AOp.assign (.int .i64 0) rfl rfl ?_)
 refine AOps.nil ?_
 change AWP _ _ _ _ _ _
 refine AWP.seq ?_
 refine AWP.frzP 2 h15 z6 rfl m16 fun H17 m18 k19 => ?_
 have h20 := (k19 _ (Ne.symm e13)).trans h11
 refine AWP.frzP 3 h20 z14 rfl m18 fun H21 m22 k23 => ?_
 refine AWP.region_quiet mixed (by kernel_rfl) 10 [10, 11, 12] rfl (by kernel_rfl) (Mono H21) (Mono.refl _) ?_
 refine QE.op rfl rfl (.inl ⟨rfl, fun f' H' hf hM => AOp.fieldAddrF rfl ((hf 2 rfl).trans rfl) fl_86_0 ⟨rfl, hM⟩⟩) ?_
 refine QE.op rfl rfl (.inl ⟨rfl, fun f' H' hf hM => AOp.loadF (.int .i64 a.Hi) rfl ((hf 5 rfl).trans rfl) ty_2 rfl ⟨rfl, hM⟩⟩) ?_
 refine QE.op rfl rfl (.inl ⟨rfl, fun f' H' hf hM => AOp.fieldAddrF rfl ((hf 3 rfl).trans rfl) fl_86_0 ⟨rfl, hM⟩⟩) ?_
 refine QE.op rfl rfl (.inl ⟨rfl, fun f' H' hf hM => AOp.loadF (.int .i64 b.Hi) rfl ((hf 7 rfl).trans rfl) ty_2 rfl ⟨rfl, hM⟩⟩) ?_
 refine QE.op rfl rfl (.inl ⟨rfl, fun f' H' hf hM => AOp.pcall («as» := [.int .i64 a.Hi, .int .i64 b.Hi]) rfl rfl (lapp (lcons ((hf 6 rfl).trans rfl) (lcons ((hf 8 rfl).trans rfl) rfl)) rfl) tf_64 (c_Compare_int64 _ _) fun H2 m2 => ⟨rfl, hM.trans m2⟩⟩) ?_
 refine QE.op rfl rfl (.inl ⟨rfl, fun f' H' hf hM => AOp.fieldAddrF rfl ((hf 2 rfl).trans rfl) fl_86_1 ⟨rfl, hM⟩⟩) ?_
 refine QE.op rfl rfl (.inl ⟨rfl, fun f' H' hf hM => AOp.loadF (.int .u64 a.Lo) rfl ((hf 10 rfl).trans rfl) ty_84 rfl ⟨rfl, hM⟩⟩) ?_
 refine QE.op rfl rfl (.inl ⟨rfl, fun f' H' hf hM => AOp.fieldAddrF rfl ((hf 3 rfl).trans rfl) fl_86_1 ⟨rfl, hM⟩⟩) ?_
 refine QE.op rfl rfl (.inl ⟨rfl, fun f' H' hf hM => AOp.loadF (.int .u64 b.Lo) rfl ((hf 12 rfl).trans rfl) ty_84 rfl ⟨rfl, hM⟩⟩) ?_
 refine QE.op rfl rfl (.inl ⟨rfl, fun f' H' hf hM => AOp.pcall («as» := [.int .u64 a.Lo, .int .u64 b.Lo]) rfl rfl (lapp (lcons ((hf 11 rfl).trans rfl) (lcons ((hf 13 rfl).trans rfl) rfl)) rfl) tf_65 (c_Compare_uint64 _ _) fun H2 m2 => ⟨rfl, hM.trans m2⟩⟩) ?_
 refine QE.done fun H24 m25 => ?_
 have m26 := m22.trans m25
 refine AOps.cons rfl rfl (AOp.buildSlice (cells := [.int .i64 (cmpI a.Hi b.Hi), .int .i64 (cmpI a.Lo b.Lo)]) rfl u_27 ts_3 tz_3 rfl rfl rfl ?_)
 intro i27 H28 n29 h30 k31
 have z32 := Mono.free m26 n29
 have m33 := Mono.new m26 n29 k31
 obtain ⟨v34, e35⟩ : ∃ v : AV, v = .slm i27 0 1 0 2 := ⟨_, rfl⟩
 have o36 : Own H0 H28 1 v34 2 [.int .i64 (cmpI a.Hi b.Hi), .int .i64 (cmpI a.Lo b.Lo)] := .inr ⟨_, _, e35, h30, z32, rfl⟩
 refine AOps.cons rfl rfl ?_
 refine AOp.frz 15 (o36) e35.symm m33 fun H37 m38 k39 => ?_
 refine AOp.pcall («as» := [.sl ([cmpI a.Hi b.Hi, cmpI a.Lo b.Lo] : List Int).length (([cmpI a.Hi b.Hi, cmpI a.Lo b.Lo] : List Int).map eI)]) rfl rfl (rfl) tf_31 (c_Or ([cmpI a.Hi b.Hi, cmpI a.Lo b.Lo] : List Int) (by first | omega | assumption | (simp; omega) | simp)) ?_
 intro H40 m41
 have m42 := m38.trans m41
 refine AOps.cons rfl rfl (AOp.assign (.int .i64 (orL ([cmpI a.Hi b.Hi, cmpI a.Lo b.Lo] : List Int))) rfl rfl ?_)
 refine AOps.nil ?_
 change AWP _ _ _ _ _ _
 refine AWP.ret ?_
 refine ⟨_, _, Ghost.refl, .inr rfl, _, Res.one rfl rfl, ?_, m42⟩
 have hR : R_wide_Cmp a b = orL ([cmpI a.Hi b.Hi, cmpI a.Lo b.Lo] : List Int) := rfl
 exact (congrArg (fun r : Int => (.int .i64 r : AV)) hR).symm
def R_wide_Order (p : FracT) (q : FracT) : Int × Bool :=
  if R_wide_right p = true then (if R_wide_right q = true then (R_wide_Cmp (mulW p.N q.D) (mulW q.N p.D), true) else (0, false)) else (0, false)
theorem c_wide_Order (p : FracT) (q : FracT) (hp : (-4611686018427387904 ≤ p.N ∧ p.N ≤ 4611686018427387904) ∧ -4611686018427387904 ≤ p.D ∧ p.D ≤ 4611686018427387904) (hq : (-4611686018427387904 ≤ q.N ∧ q.N ≤ 4611686018427387904) ∧ -4611686018427387904 ≤ q.D ∧ q.D ≤ 4611686018427387904) : PC Try.prog 39 [.agg [.int .i64 p.N, .int .i64 p.D], .agg [.int .i64 q.N, .int .i64 q.D]] (.tup [.int .i64 ((R_wide_Order p q).1), .bool ((R_wide_Order p q).2)]) := by
 intro H0
 refine ACalls.of_body' (n := 25) rfl rfl rfl rfl ?_
 have m0 := Mono.refl H0
 refine AWP.seq ?_
 refine AWP.region (l := [0, 1, 2, 3]) rfl ?_
 refine AOps.cons rfl rfl (AOp.box (.agg [.int .i64 p.N, .int .i64 p.D]) rfl rfl rfl ?_)
 intro i1 H2 n3 h4 k5
 have z6 := Mono.free m0 n3
 have m7 := Mono.new m0 n3 k5
 refine AOps.cons rfl rfl (AOp.box (.agg [.int .i64 q.N, .int .i64 q.D]) rfl rfl rfl ?_)
 intro i8 H9 n10 h11 k12
 have e13 := ne_new h4 n10
 have z14 := Mono.free m7 n10
 have h15 := keep k12 (ne_new h4 n10) h4
 have m16 := Mono.new m7 n10 k12
 refine AOps.cons rfl rfl (AOp.assign (.int .i64 0) rfl rfl ?_)
 refine AOps.cons rfl rfl (AOp.assign (.bool false) rfl rfl ?_)
 refine AOps.nil ?_
 change AWP _ _ _ _ _ _
 refine AWP.seq ?_
 refine AWP.seq ?_
 refine AWP.frzP 2 h15 z6 rfl m16 fun H17 m18 k19 => ?_
 have h20 := (k19 _ (Ne.symm e13)).trans h11
 refine AWP.frzP 3 h20 z14 rfl m18 fun H21 m22 k23 => ?_
 refine AWP.region (l := [0, 1, 2, 3, 4, 5, 6, 7]) rfl ?_
 refine AOps.cons rfl rfl (AOp.loadF (.agg [.int .i64 p.N, .int .i64 p.D]) rfl rfl ty_46 rfl ?_)
 refine AOps.cons rfl rfl (AOp.pcall («as» := [.agg [.int .i64 p.N, .int .i64 p.D]]) rfl rfl (rfl) tf_47 (c_wide_right p (by first | omega | assumption | (constructor <;> omega) | simp)) ?_)
 intro H24 m25
 have m26 := m22.trans m25
 refine AOps.cons rfl rfl (AOp.not rfl rfl ?_)
 refine AOps.cons rfl rfl (AOp.move (.bool (!(R_wide_right p))) rfl rfl ?_)
 rcases Bool.eq_false_or_eq_true (R_wide_right p) with b27 | b27
 ·
  refine AOps.yes rfl rfl rfl rfl rfl rfl rfl (nb b27) (AOp.loadF (.agg [.int .i64 q.N, .int .i64 q.D]) rfl rfl ty_46 rfl ?_)
  refine AOps.yes rfl rfl rfl rfl rfl rfl rfl (nb b27) (AOp.pcall («as» := [.agg [.int .i64 q.N, .int .i64 q.D]]) rfl rfl (rfl) tf_47 (c_wide_right q (by first | omega | assumption | (constructor <;> omega) | simp)) ?_)
  intro H28 m29
  have m30 := m26.trans m29
  refine AOps.yes rfl rfl rfl rfl rfl rfl rfl (nb b27) (AOp.not rfl rfl ?_)
  refine AOps.cons rfl rfl (AOp.pickF (.bool (!(R_wide_right q))) rfl rfl (nb b27) rfl ?_)
  refine AOps.nil ?_
  change AWP _ _ _ _ _ _
  rcases Bool.eq_false_or_eq_true (R_wide_right q) with b31 | b31
  ·
   refine AWP.condF rfl (nb b31) ?_
   refine AWP.skip ?_
   change AWP _ _ _ _ _ _
   refine AWP.seq ?_
   refine AWP.region_quiet mixed (by kernel_rfl) 13 [] rfl (by kernel_rfl) (Mono H28) (Mono.refl _) ?_
   refine QE.op rfl rfl (.inl ⟨rfl, fun f' H' hf hM => AOp.fieldAddrF rfl ((hf 2 rfl).trans rfl) fl_46_0 ⟨rfl, hM⟩⟩) ?_
   refine QE.op rfl rfl (.inl ⟨rfl, fun f' H' hf hM => AOp.loadF (.int .i64 p.N) rfl ((hf 14 rfl).trans rfl) ty_3 rfl ⟨rfl, hM⟩⟩) ?_
   refine QE.op rfl rfl (.inl ⟨rfl, fun f' H' hf hM => AOp.fieldAddrF rfl ((hf 3 rfl).trans rfl) fl_46_1 ⟨rfl, hM⟩⟩) ?_
   refine QE.op rfl rfl (.inl ⟨rfl, fun f' H' hf hM => AOp.loadF (.int .i64 q.D) rfl ((hf 16 rfl).trans rfl) ty_3 rfl ⟨rfl, hM⟩⟩) ?_
   refine QE.op rfl rfl (.inl ⟨rfl, fun f' H' hf hM => AOp.pcall («as» := [.int .i64 p.N, .int .i64 q.D]) rfl rfl (lapp (lcons ((hf 15 rfl).trans rfl) (lcons ((hf 17 rfl).trans rfl) rfl)) rfl) tf_49 (c_Mul _ _ (by first | assumption | (unfold i64R; omega)) (by first | assumption | (unfold i64R; omega))) fun H2 m2 => ⟨rfl, hM.trans m2⟩⟩) ?_
   refine QE.op rfl rfl (.inl ⟨rfl, fun f' H' hf hM => AOp.fieldAddrF rfl ((hf 3 rfl).trans rfl) fl_46_0 ⟨rfl, hM⟩⟩) ?_
   refine QE.op rfl rfl (.inl ⟨rfl, fun f' H' hf hM => AOp.loadF (.int .i64 q.N) rfl ((hf 19 rfl).trans rfl) ty_3 rfl ⟨rfl, hM⟩⟩) ?_
   refine QE.op rfl rfl (.inl ⟨rfl, fun f' H' hf hM => AOp.fieldAddrF rfl ((hf 2 rfl).trans rfl) fl_46_1 ⟨rfl, hM⟩⟩) ?_
   refine QE.op rfl rfl (.inl ⟨rfl, fun f' H' hf hM => AOp.loadF (.int .i64 p.D) rfl ((hf 21 rfl).trans rfl) ty_3 rfl ⟨rfl, hM⟩⟩) ?_
   refine QE.op rfl rfl (.inl ⟨rfl, fun f' H' hf hM => AOp.pcall («as» := [.int .i64 q.N, .int .i64 p.D]) rfl rfl (lapp (lcons ((hf 20 rfl).trans rfl) (lcons ((hf 22 rfl).trans rfl) rfl)) rfl) tf_49 (c_Mul _ _ (by first | assumption | (unfold i64R; omega)) (by first | assumption | (unfold i64R; omega))) fun H2 m2 => ⟨rfl, hM.trans m2⟩⟩) ?_
   refine QE.op rfl rfl (.inl ⟨rfl, fun f' H' hf hM => AOp.pcall («as» := [.agg [.int .i64 ((mulW p.N q.D).Hi), .int .u64 ((mulW p.N q.D).Lo)], .agg [.int .i64 ((mulW q.N p.D).Hi), .int .u64 ((mulW q.N p.D).Lo)]]) rfl rfl (lapp (lcons ((hf 18 rfl).trans rfl) (lcons ((hf 23 rfl).trans rfl) rfl)) rfl) tf_48 (c_wide_Cmp (mulW p.N q.D) (mulW q.N p.D)) fun H2 m2 => ⟨rfl, hM.trans m2⟩⟩) ?_
   refine QE.op rfl rfl (.inl ⟨rfl, fun f' H' hf hM => AOp.assign (.int .i64 (R_wide_Cmp (mulW p.N q.D) (mulW q.N p.D))) rfl ((hf 24 rfl).trans rfl) ⟨rfl, hM⟩⟩) ?_
   refine QE.op rfl rfl (.inl ⟨rfl, fun f' H' hf hM => AOp.assign (.bool true) rfl rfl ⟨rfl, hM⟩⟩) ?_
   refine QE.done fun H32 m33 => ?_
   have m34 := m30.trans m33
   refine AOps.nil ?_
   change AWP _ _ _ _ _ _
   refine AWP.ret ?_
   refine ⟨_, _, Ghost.refl, .inr rfl, _, Res.two rfl rfl rfl, ?_, m34⟩
   have hR : R_wide_Order p q = (R_wide_Cmp (mulW p.N q.D) (mulW q.N p.D), true) := by unfold R_wide_Order; rw [if_pos b27, if_pos b31]
   exact (congrArg (fun r : Int × Bool => (.tup [.int .i64 r.1, .bool r.2] : AV)) hR).symm
  ·
   refine AWP.condT rfl (nb b31) ?_
   refine AWP.seq ?_
   refine AWP.region (l := [0, 1]) rfl ?_
   refine AOps.cons rfl rfl (AOp.assign (.int .i64 0) rfl rfl ?_)
   refine AOps.cons rfl rfl (AOp.assign (.bool false) rfl rfl ?_)
   refine AOps.nil ?_
   change AWP _ _ _ _ _ _
   refine AWP.ret ?_
   refine ⟨_, _, Ghost.refl, .inr rfl, _, Res.two rfl rfl rfl, ?_, m30⟩
   have hR : R_wide_Order p q = (0, false) := by unfold R_wide_Order; rw [if_pos b27, if_neg (ff b31)]
   exact (congrArg (fun r : Int × Bool => (.tup [.int .i64 r.1, .bool r.2] : AV)) hR).symm
 ·
  refine AOps.no rfl rfl rfl rfl rfl rfl rfl (ble_of (nb b27) (by decide)) ?_
  refine AOps.no rfl rfl rfl rfl rfl rfl rfl (ble_of (nb b27) (by decide)) ?_
  refine AOps.no rfl rfl rfl rfl rfl rfl rfl (ble_of (nb b27) (by decide)) ?_
  refine AOps.cons rfl rfl (AOp.pickT (.bool true) rfl rfl (nb b27) rfl ?_)
  refine AOps.nil ?_
  change AWP _ _ _ _ _ _
  refine AWP.condT rfl rfl ?_
  refine AWP.seq ?_
  refine AWP.region (l := [0, 1]) rfl ?_
  refine AOps.cons rfl rfl (AOp.assign (.int .i64 0) rfl rfl ?_)
  refine AOps.cons rfl rfl (AOp.assign (.bool false) rfl rfl ?_)
  refine AOps.nil ?_
  change AWP _ _ _ _ _ _
  refine AWP.ret ?_
  refine ⟨_, _, Ghost.refl, .inr rfl, _, Res.two rfl rfl rfl, ?_, m26⟩
  have hR : R_wide_Order p q = (0, false) := by unfold R_wide_Order; rw [if_neg (ff b27)]
  exact (congrArg (fun r : Int × Bool => (.tup [.int .i64 r.1, .bool r.2] : AV)) hR).symm
def R_slab_less (a : FracT) (b : FracT) : Bool :=
  decide ((R_wide_Order a b).1 < 0)
theorem c_slab_less (a : FracT) (b : FracT) (ha : (-4611686018427387904 ≤ a.N ∧ a.N ≤ 4611686018427387904) ∧ -4611686018427387904 ≤ a.D ∧ a.D ≤ 4611686018427387904) (hb : (-4611686018427387904 ≤ b.N ∧ b.N ≤ 4611686018427387904) ∧ -4611686018427387904 ≤ b.D ∧ b.D ≤ 4611686018427387904) : PC Try.prog 26 [.agg [.int .i64 a.N, .int .i64 a.D], .agg [.int .i64 b.N, .int .i64 b.D]] (.bool (R_slab_less a b)) := by
 intro H0
 refine ACalls.of_body' (n := 15) rfl rfl rfl rfl ?_
 have m0 := Mono.refl H0
 refine AWP.seq ?_
 refine AWP.region (l := [0, 1, 2]) rfl ?_
 refine AOps.cons rfl rfl (AOp.box (.agg [.int .i64 a.N, .int .i64 a.D]) rfl rfl rfl ?_)
 intro i1 H2 n3 h4 k5
 have z6 := Mono.free m0 n3
 have m7 := Mono.new m0 n3 k5
 refine AOps.cons rfl rfl (AOp.box (.agg [.int .i64 b.N, .int .i64 b.D]) rfl rfl rfl ?_)
 intro i8 H9 n10 h11 k12
 have e13 := ne_new h4 n10
 have z14 := Mono.free m7 n10
 have h15 := keep k12 (ne_new h4 n10) h4
 have m16 := Mono.new m7 n10 k12
 refine AOps.cons rfl rfl (AOp.assign (.bool false) rfl rfl ?_)
 refine AOps.nil ?_
 change AWP _ _ _ _ _ _
 refine AWP.seq ?_
 refine AWP.frzP 2 h15 z6 rfl m16 fun H17 m18 k19 => ?_
 have h20 := (k19 _ (Ne.symm e13)).trans h11
 refine AWP.frzP 3 h20 z14 rfl m18 fun H21 m22 k23 => ?_
 refine AWP.region (l := [0, 1, 2, 3, 4, 5, 6, 7]) rfl ?_
 refine AOps.cons rfl rfl (AOp.loadF (.agg [.int .i64 a.N, .int .i64 a.D]) rfl rfl ty_46 rfl ?_)
 refine AOps.cons rfl rfl (AOp.loadF (.agg [.int .i64 b.N, .int .i64 b.D]) rfl rfl ty_46 rfl ?_)
 refine AOps.cons rfl rfl (AOp.pcall («as» := [.agg [.int .i64 a.N, .int .i64 a.D], .agg [.int .i64 b.N, .int .i64 b.D]]) rfl rfl (rfl) tf_39 (c_wide_Order a b (by first | omega | assumption | (constructor <;> omega) | simp) (by first | omega | assumption | (constructor <;> omega) | simp)) ?_)
 intro H24 m25
 have m26 := m22.trans m25
 refine AOps.cons rfl rfl (AOp.move (.tup [.int .i64 ((R_wide_Order a b).1), .bool ((R_wide_Order a b).2)]) rfl rfl ?_)
 refine AOps.cons rfl rfl (AOp.extract (.int .i64 ((R_wide_Order a b).1)) rfl rfl rfl ?_)
 refine AOps.cons rfl rfl (AOp.extract (.bool ((R_wide_Order a b).2)) rfl rfl rfl ?_)
 refine AOps.cons rfl rfl (AOp.assign (.int .i64 ((R_wide_Order a b).1)) rfl rfl ?_)
 refine AOps.cons rfl rfl (AOp.assign (.bool ((R_wide_Order a b).2)) rfl rfl ?_)
 refine AOps.nil ?_
 change AWP _ _ _ _ _ _
 refine AWP.seq ?_
 refine AWP.region (l := [0, 1, 2]) rfl ?_
 refine AOps.cons rfl rfl (AOp.move (.int .i64 ((R_wide_Order a b).1)) rfl rfl ?_)
 refine AOps.cons rfl rfl (AOp.bin (.bool (decide ((R_wide_Order a b).1 < 0))) rfl rfl rfl rfl ?_)
 refine AOps.cons rfl rfl (AOp.assign (.bool (decide ((R_wide_Order a b).1 < 0))) rfl rfl ?_)
 refine AOps.nil ?_
 change AWP _ _ _ _ _ _
 refine AWP.ret ?_
 refine ⟨_, _, Ghost.refl, .inr rfl, _, Res.one rfl rfl, ?_, m26⟩
 have hR : R_slab_less a b = decide ((R_wide_Order a b).1 < 0) := rfl
 exact (congrArg (fun r : Bool => (.bool r : AV)) hR).symm
def R_span (p : PartT) : FracT × FracT × Bool :=
  if p.step < 0 then (if -p.hi > -p.lo then ((FracT.mk 0 0), (FracT.mk 0 0), false) else (if -p.step = 0 then (if -p.fromF < -p.hi then ((FracT.mk 0 0), (FracT.mk 0 0), false) else (if -p.fromF > -p.lo then ((FracT.mk 0 0), (FracT.mk 0 0), false) else ((FracT.mk 0 1), (FracT.mk 1 0), true))) else ((FracT.mk (-p.hi - (-p.fromF)) (-p.step)), (FracT.mk (-p.lo - (-p.fromF)) (-p.step)), true))) else (if p.lo > p.hi then ((FracT.mk 0 0), (FracT.mk 0 0), false) else (if p.step = 0 then (if p.fromF < p.lo then ((FracT.mk 0 0), (FracT.mk 0 0), false) else (if p.fromF > p.hi then ((FracT.mk 0 0), (FracT.mk 0 0), false) else ((FracT.mk 0 1), (FracT.mk 1 0), true))) else ((FracT.mk (p.lo - p.fromF) p.step), (FracT.mk (p.hi - p.fromF) p.step), true)))
theorem c_span (p : PartT) (hp : (-1048576 ≤ p.fromF ∧ p.fromF ≤ 1048576) ∧ (-1048576 ≤ p.step ∧ p.step ≤ 1048576) ∧ (-1048576 ≤ p.lo ∧ p.lo ≤ 1048576) ∧ (-1048576 ≤ p.hi ∧ p.hi ≤ 1048576)) : PC Try.prog 25 [.agg [.int .i64 p.fromF, .int .i64 p.step, .int .i64 p.lo, .int .i64 p.hi]] (.tup [.agg [.int .i64 (((R_span p).1).N), .int .i64 (((R_span p).1).D)], .agg [.int .i64 (((R_span p).2.1).N), .int .i64 (((R_span p).2.1).D)], .bool ((R_span p).2.2)]) := by
 intro H0
 refine ACalls.of_body' (n := 68) rfl rfl rfl rfl ?_
 have m0 := Mono.refl H0
 refine AWP.seq ?_
 refine AWP.region (l := [0, 1, 2, 3]) rfl ?_
 refine AOps.cons rfl rfl (AOp.box (.agg [.int .i64 p.fromF, .int .i64 p.step, .int .i64 p.lo, .int .i64 p.hi]) rfl rfl rfl ?_)
 intro i1 H2 n3 h4 k5
 have z6 := Mono.free m0 n3
 have m7 := Mono.new m0 n3 k5
 refine AOps.cons rfl rfl (AOp.alloc rfl tz_46 ?_)
 intro i8 H9 n10 h11 k12
 have e13 := ne_new h4 n10
 have z14 := Mono.free m7 n10
 have h15 := keep k12 (ne_new h4 n10) h4
 have m16 := Mono.new m7 n10 k12
 refine AOps.cons rfl rfl (AOp.alloc rfl tz_46 ?_)
 intro i17 H18 n19 h20 k21
 have e22 := ne_new h15 n19
 have e23 := ne_new h11 n19
 have z24 := Mono.free m16 n19
 have h25 := keep k21 (ne_new h15 n19) h15
 have h26 := keep k21 (ne_new h11 n19) h11
 have m27 := Mono.new m16 n19 k21
 refine AOps.cons rfl rfl (AOp.assign (.bool false) rfl rfl ?_)
 refine AOps.nil ?_
 change AWP _ _ _ _ _ _
 refine AWP.seq ?_
 refine AWP.seq ?_
 refine AWP.region (l := [0, 1, 2]) rfl ?_
 refine AOps.cons rfl rfl (AOp.fieldAddr rfl rfl fl_61_1 ?_ (hid := ⟨_, h25⟩))
 refine AOps.cons rfl rfl (AOp.load (.int .i64 p.step) rfl rfl ty_3 h25 rfl ?_)
 refine AOps.cons rfl rfl (AOp.bin (.bool (decide (p.step < 0))) rfl rfl rfl rfl ?_)
 refine AOps.nil ?_
 change AWP _ _ _ _ _ _
 by_cases b28 : p.step < 0
 ·
  refine AWP.condT rfl (decide_eq_true b28) ?_
  refine AWP.region (l := [0, 1, 2, 3, 4, 5, 6, 7, 8, 9, 10, 11, 12, 13]) rfl ?_
  refine AOps.cons rfl rfl (AOp.fieldAddr rfl rfl fl_61_0 ?_ (hid := ⟨_, h25⟩))
  refine AOps.cons rfl rfl (AOp.load (.int .i64 p.fromF) rfl rfl ty_3 h25 rfl ?_)
  refine AOps.cons rfl rfl (AOp.negP rfl rfl (by omega) ?_)
  refine AOps.cons rfl rfl (AOp.fieldAddr rfl rfl fl_61_1 ?_ (hid := ⟨_, h25⟩))
  refine AOps.cons rfl rfl (AOp.load (.int .i64 p.step) rfl rfl ty_3 h25 rfl ?_)
  refine AOps.cons rfl rfl (AOp.negP rfl rfl (by omega) ?_)
  refine AOps.cons rfl rfl (AOp.fieldAddr rfl rfl fl_61_3 ?_ (hid := ⟨_, h25⟩))
  refine AOps.cons rfl rfl (AOp.load (.int .i64 p.hi) rfl rfl ty_3 h25 rfl ?_)
  refine AOps.cons rfl rfl (AOp.negP rfl rfl (by omega) ?_)
  refine AOps.cons rfl rfl (AOp.fieldAddr rfl rfl fl_61_2 ?_ (hid := ⟨_, h25⟩))
  refine AOps.cons rfl rfl (AOp.load (.int .i64 p.lo) rfl rfl ty_3 h25 rfl ?_)
  refine AOps.cons rfl rfl (AOp.negP rfl rfl (by omega) ?_)
  refine AOps.cons rfl rfl (AOp.build (cells := [.int .i64 (-p.fromF), .int .i64 (-p.step), .int .i64 (-p.hi), .int .i64 (-p.lo)]) rfl tz_61 pl_61 rfl rfl ?_)
  refine AOps.cons rfl rfl (AOp.store' (cells' := [.int .i64 (-p.fromF), .int .i64 (-p.step), .int .i64 (-p.hi), .int .i64 (-p.lo)]) (.agg [.int .i64 (-p.fromF), .int .i64 (-p.step), .int .i64 (-p.hi), .int .i64 (-p.lo)]) rfl rfl ts_61 h25 rfl rfl rfl rfl ?_)
  intro H29 h30 k31
  have h33 := keep k31 (Ne.symm e13) h26
  have h34 := keep k31 (Ne.symm e22) h20
  have m35 := Mono.set m27 z6 k31
  refine AOps.nil ?_
  change AWP _ _ _ _ _ _
  refine AWP.seq ?_
  refine AWP.seq ?_
  refine AWP.region (l := [0, 1, 2, 3, 4, 5, 6, 7, 8, 9, 10, 11, 12, 13, 14, 15, 16, 17, 18, 19, 20, 21, 22, 23]) rfl ?_
  refine AOps.cons rfl rfl (AOp.fieldAddr rfl rfl fl_61_2 ?_ (hid := ⟨_, h30⟩))
  refine AOps.cons rfl rfl (AOp.load (.int .i64 (-p.hi)) rfl rfl ty_3 h30 rfl ?_)
  refine AOps.cons rfl rfl (AOp.fieldAddr rfl rfl fl_61_3 ?_ (hid := ⟨_, h30⟩))
  refine AOps.cons rfl rfl (AOp.load (.int .i64 (-p.lo)) rfl rfl ty_3 h30 rfl ?_)
  refine AOps.cons rfl rfl (AOp.bin (.bool (decide (-p.hi > -p.lo))) rfl rfl rfl rfl ?_)
  refine AOps.cons rfl rfl (AOp.move (.bool (decide (-p.hi > -p.lo))) rfl rfl ?_)
  by_cases b36 : -p.hi > -p.lo
  ·
   refine AOps.no rfl rfl rfl rfl rfl rfl rfl (ble_of (decide_eq_true b36) (by decide)) ?_
   refine AOps.no rfl rfl rfl rfl rfl rfl rfl (ble_of (decide_eq_true b36) (by decide)) ?_
   refine AOps.no rfl rfl rfl rfl rfl rfl rfl (ble_of (decide_eq_true b36) (by decide)) ?_
   refine AOps.no rfl rfl rfl rfl rfl rfl rfl (ble_of (decide_eq_true b36) (by decide)) ?_
   refine AOps.un rfl rfl rfl rfl rfl rfl rfl ?_
   refine AOps.un rfl rfl rfl rfl rfl rfl rfl ?_
   refine AOps.un rfl rfl rfl rfl rfl rfl rfl ?_
   refine AOps.un rfl rfl rfl rfl rfl rfl rfl ?_
   refine AOps.un rfl rfl rfl rfl rfl rfl rfl ?_
   refine AOps.un rfl rfl rfl rfl rfl rfl rfl ?_
   refine AOps.un rfl rfl rfl rfl rfl rfl rfl ?_
   refine AOps.un rfl rfl rfl rfl rfl rfl rfl ?_
   refine AOps.un rfl rfl rfl rfl rfl rfl rfl ?_
   refine AOps.un rfl rfl rfl rfl rfl rfl rfl ?_
   refine AOps.un rfl rfl rfl rfl rfl rfl rfl ?_
   refine AOps.un rfl rfl rfl rfl rfl rfl rfl ?_
   refine AOps.no rfl rfl rfl rfl rfl rfl rfl (ble_of (decide_eq_true b36) (by decide)) ?_
   refine AOps.cons rfl rfl (AOp.pickT (.bool true) rfl rfl (decide_eq_true b36) rfl ?_)
   refine AOps.nil ?_
   change AWP _ _ _ _ _ _
   refine AWP.condT rfl rfl ?_
   refine AWP.seq ?_
   refine AWP.region (l := [0, 1, 2, 3, 4]) rfl ?_
   refine AOps.cons rfl rfl (AOp.build (cells := [.int .i64 0, .int .i64 0]) rfl tz_46 pl_46 rfl rfl ?_)
   refine AOps.cons rfl rfl (AOp.build (cells := [.int .i64 0, .int .i64 0]) rfl tz_46 pl_46 rfl rfl ?_)
   refine AOps.cons rfl rfl (AOp.store' (cells' := [.int .i64 0, .int .i64 0]) (.agg [.int .i64 0, .int .i64 0]) rfl rfl ts_46 h33 rfl rfl rfl rfl ?_)
   intro H37 h38 k39
   have h41 := keep k39 (Ne.symm e23) h34
   have h42 := keep k39 e13 h30
   have m43 := Mono.set m35 z14 k39
   refine AOps.cons rfl rfl (AOp.store' (cells' := [.int .i64 0, .int .i64 0]) (.agg [.int .i64 0, .int .i64 0]) rfl rfl ts_46 h41 rfl rfl rfl rfl ?_)
   intro H44 h45 k46
   have h48 := keep k46 e22 h42
   have h49 := keep k46 e23 h38
   have m50 := Mono.set m43 z24 k46
   refine AOps.cons rfl rfl (AOp.assign (.bool false) rfl rfl ?_)
   refine AOps.nil ?_
   change AWP _ _ _ _ _ _
   refine AWP.ret ?_
   refine ⟨_, _, Ghost.refl, .inr rfl, _, Res.list rfl rfl (.cell (v := .agg [.int .i64 0, .int .i64 0]) rfl ty_46 h49 rfl (.cell (v := .agg [.int .i64 0, .int .i64 0]) rfl ty_46 h45 rfl (.tmp rfl (.nil)))), ?_, m50⟩
   have hR : R_span p = ((FracT.mk 0 0), (FracT.mk 0 0), false) := by unfold R_span; rw [if_pos b28, if_pos b36]
   exact (congrArg (fun r : FracT × FracT × Bool => (.tup [.agg [.int .i64 r.1.N, .int .i64 r.1.D], .agg [.int .i64 r.2.1.N, .int .i64 r.2.1.D], .bool r.2.2] : AV)) hR).symm
  ·
   refine AOps.yes rfl rfl rfl rfl rfl rfl rfl (decide_eq_false b36) (AOp.fieldAddr rfl rfl fl_61_1 ?_ (hid := ⟨_, h30⟩))
   refine AOps.yes rfl rfl rfl rfl rfl rfl rfl (decide_eq_false b36) (AOp.load (.int .i64 (-p.step)) rfl rfl ty_3 h30 rfl ?_)
   refine AOps.yes rfl rfl rfl rfl rfl rfl rfl (decide_eq_false b36) (AOp.bin (.bool (decide (-p.step = 0))) rfl rfl rfl ieq ?_)
   refine AOps.yes rfl rfl rfl rfl rfl rfl rfl (decide_eq_false b36) (AOp.move (.bool (decide (-p.step = 0))) rfl rfl ?_)
   by_cases b51 : -p.step = 0
   ·
    refine AOps.yes rfl rfl rfl rfl rfl rfl rfl (decide_eq_true b51) (AOp.fieldAddr rfl rfl fl_61_0 ?_ (hid := ⟨_, h30⟩))
    refine AOps.yes rfl rfl rfl rfl rfl rfl rfl (decide_eq_true b51) (AOp.load (.int .i64 (-p.fromF)) rfl rfl ty_3 h30 rfl ?_)
    refine AOps.yes rfl rfl rfl rfl rfl rfl rfl (decide_eq_true b51) (AOp.fieldAddr rfl rfl fl_61_2 ?_ (hid := ⟨_, h30⟩))
    refine AOps.yes rfl rfl rfl rfl rfl rfl rfl (decide_eq_true b51) (AOp.load (.int .i64 (-p.hi)) rfl rfl ty_3 h30 rfl ?_)
    refine AOps.yes rfl rfl rfl rfl rfl rfl rfl (decide_eq_true b51) (AOp.bin (.bool (decide (-p.fromF < -p.hi))) rfl rfl rfl rfl ?_)
    refine AOps.yes rfl rfl rfl rfl rfl rfl rfl (decide_eq_true b51) (AOp.move (.bool (decide (-p.fromF < -p.hi))) rfl rfl ?_)
    by_cases b52 : -p.fromF < -p.hi
    ·
     refine AOps.no rfl rfl rfl rfl rfl rfl rfl (ble_of (decide_eq_true b52) (by decide)) ?_
     refine AOps.no rfl rfl rfl rfl rfl rfl rfl (ble_of (decide_eq_true b52) (by decide)) ?_
     refine AOps.no rfl rfl rfl rfl rfl rfl rfl (ble_of (decide_eq_true b52) (by decide)) ?_
     refine AOps.no rfl rfl rfl rfl rfl rfl rfl (ble_of (decide_eq_true b52) (by decide)) ?_
     refine AOps.no rfl rfl rfl rfl rfl rfl rfl (ble_of (decide_eq_true b52) (by decide)) ?_
     refine AOps.yes rfl rfl rfl rfl rfl rfl rfl (decide_eq_true b51) (AOp.pickT (.bool true) rfl rfl (decide_eq_true b52) rfl ?_)
     refine AOps.yes rfl rfl rfl rfl rfl rfl rfl (decide_eq_false b36) (AOp.pickT (.bool true) rfl rfl (decide_eq_true b51) rfl ?_)
     refine AOps.cons rfl rfl (AOp.pickF (.bool true) rfl rfl (decide_eq_false b36) rfl ?_)
     refine AOps.nil ?_
     change AWP _ _ _ _ _ _
     refine AWP.condT rfl rfl ?_
     refine AWP.seq ?_
     refine AWP.region (l := [0, 1, 2, 3, 4]) rfl ?_
     refine AOps.cons rfl rfl (AOp.build (cells := [.int .i64 0, .int .i64 0]) rfl tz_46 pl_46 rfl rfl ?_)
     refine AOps.cons rfl rfl (AOp.build (cells := [.int .i64 0, .int .i64 0]) rfl tz_46 pl_46 rfl rfl ?_)
     refine AOps.cons rfl rfl (AOp.store' (cells' := [.int .i64 0, .int .i64 0]) (.agg [.int .i64 0, .int .i64 0]) rfl rfl ts_46 h33 rfl rfl rfl rfl ?_)
     intro H53 h54 k55
     have h57 := keep k55 (Ne.symm e23) h34
     have h58 := keep k55 e13 h30
     have m59 := Mono.set m35 z14 k55
     refine AOps.cons rfl rfl (AOp.store' (cells' := [.int .i64 0, .int .i64 0]) (.agg [.int .i64 0, .int .i64 0]) rfl rfl ts_46 h57 rfl rfl rfl rfl ?_)
     intro H60 h61 k62
     have h64 := keep k62 e22 h58
     have h65 := keep k62 e23 h54
     have m66 := Mono.set m59 z24 k62
     refine AOps.cons rfl rfl (AOp.assign (.bool false) rfl rfl ?_)
     refine AOps.nil ?_
     change AWP _ _ _ _ _ _
     refine AWP.ret ?_
     refine ⟨_, _, Ghost.refl, .inr rfl, _, Res.list rfl rfl (.cell (v := .agg [.int .i64 0, .int .i64 0]) rfl ty_46 h65 rfl (.cell (v := .agg [.int .i64 0, .int .i64 0]) rfl ty_46 h61 rfl (.tmp rfl (.nil)))), ?_, m66⟩
     have hR : R_span p = ((FracT.mk 0 0), (FracT.mk 0 0), false) := by unfold R_span; rw [if_pos b28, if_neg b36, if_pos b51, if_pos b52]
     exact (congrArg (fun r : FracT × FracT × Bool => (.tup [.agg [.int .i64 r.1.N, .int .i64 r.1.D], .agg [.int .i64 r.2.1.N, .int .i64 r.2.1.D], .bool r.2.2] : AV)) hR).symm
    ·
     refine AOps.yes rfl rfl rfl rfl rfl rfl rfl (decide_eq_false b52) (AOp.fieldAddr rfl rfl fl_61_0 ?_ (hid := ⟨_, h30⟩))
     refine AOps.yes rfl rfl rfl rfl rfl rfl rfl (decide_eq_false b52) (AOp.load (.int .i64 (-p.fromF)) rfl rfl ty_3 h30 rfl ?_)
     refine AOps.yes rfl rfl rfl rfl rfl rfl rfl (decide_eq_false b52) (AOp.fieldAddr rfl rfl fl_61_3 ?_ (hid := ⟨_, h30⟩))
     refine AOps.yes rfl rfl rfl rfl rfl rfl rfl (decide_eq_false b52) (AOp.load (.int .i64 (-p.lo)) rfl rfl ty_3 h30 rfl ?_)
     refine AOps.yes rfl rfl rfl rfl rfl rfl rfl (decide_eq_false b52) (AOp.bin (.bool (decide (-p.fromF > -p.lo))) rfl rfl rfl rfl ?_)
     refine AOps.yes rfl rfl rfl rfl rfl rfl rfl (decide_eq_true b51) (AOp.pickF (.bool (decide (-p.fromF > -p.lo))) rfl rfl (decide_eq_false b52) rfl ?_)
     refine AOps.yes rfl rfl rfl rfl rfl rfl rfl (decide_eq_false b36) (AOp.pickT (.bool (decide (-p.fromF > -p.lo))) rfl rfl (decide_eq_true b51) rfl ?_)
     refine AOps.cons rfl rfl (AOp.pickF (.bool (decide (-p.fromF > -p.lo))) rfl rfl (decide_eq_false b36) rfl ?_)
     refine AOps.nil ?_
     change AWP _ _ _ _ _ _
     by_cases b67 : -p.fromF > -p.lo
     ·
      refine AWP.condT rfl (decide_eq_true b67) ?_
      refine AWP.seq ?_
      refine AWP.region (l := [0, 1, 2, 3, 4]) rfl ?_
      refine AOps.cons rfl rfl (AOp.build (cells := [.int .i64 0, .int .i64 0]) rfl tz_46 pl_46 rfl rfl ?_)
      refine AOps.cons rfl rfl (AOp.build (cells := [.int .i64 0, .int .i64 0]) rfl tz_46 pl_46 rfl rfl ?_)
      refine AOps.cons rfl rfl (AOp.store' (cells' := [.int .i64 0, .int .i64 0]) (.agg [.int .i64 0, .int .i64 0]) rfl rfl ts_46 h33 rfl rfl rfl rfl ?_)
      intro H68 h69 k70
      have h72 := keep k70 (Ne.symm e23) h34
      have h73 := keep k70 e13 h30
      have m74 := Mono.set m35 z14 k70
      refine AOps.cons rfl rfl (AOp.store' (cells' := [.int .i64 0, .int .i64 0]) (.agg [.int .i64 0, .int .i64 0]) rfl rfl ts_46 h72 rfl rfl rfl rfl ?_)
      intro H75 h76 k77
      have h79 := keep k77 e22 h73
      have h80 := keep k77 e23 h69
      have m81 := Mono.set m74 z24 k77
      refine AOps.cons rfl rfl (AOp.assign (.bool false) rfl rfl ?_)
      refine AOps.nil ?_
      change AWP _ _ _ _ _ _
      refine AWP.ret ?_
      refine ⟨_, _, Ghost.refl, .inr rfl, _, Res.list rfl rfl (.cell (v := .agg [.int .i64 0, .int .i64 0]) rfl ty_46 h80 rfl (.cell (v := .agg [.int .i64 0, .int .i64 0]) rfl ty_46 h76 rfl (.tmp rfl (.nil)))), ?_, m81⟩
      have hR : R_span p = ((FracT.mk 0 0), (FracT.mk 0 0), false) := by unfold R_span; rw [if_pos b28, if_neg b36, if_pos b51, if_neg b52, if_pos b67]
      exact (congrArg (fun r : FracT × FracT × Bool => (.tup [.agg [.int .i64 r.1.N, .int .i64 r.1.D], .agg [.int .i64 r.2.1.N, .int .i64 r.2.1.D], .bool r.2.2] : AV)) hR).symm
     ·
      refine AWP.condF rfl (decide_eq_false b67) ?_
      refine AWP.skip ?_
      change AWP _ _ _ _ _ _
      refine AWP.seq ?_
      refine AWP.seq ?_
      refine AWP.region (l := [0, 1, 2]) rfl ?_
      refine AOps.cons rfl rfl (AOp.fieldAddr rfl rfl fl_61_1 ?_ (hid := ⟨_, h30⟩))
      refine AOps.cons rfl rfl (AOp.load (.int .i64 (-p.step)) rfl rfl ty_3 h30 rfl ?_)
      refine AOps.cons rfl rfl (AOp.bin (.bool (decide (-p.step = 0))) rfl rfl rfl ieq ?_)
      refine AOps.nil ?_
      change AWP _ _ _ _ _ _
      refine AWP.condT rfl (decide_eq_true b51) ?_
      refine AWP.seq ?_
      refine AWP.region (l := [0, 1, 2, 3, 4]) rfl ?_
      refine AOps.cons rfl rfl (AOp.build (cells := [.int .i64 0, .int .i64 1]) rfl tz_46 pl_46 rfl rfl ?_)
      refine AOps.cons rfl rfl (AOp.build (cells := [.int .i64 1, .int .i64 0]) rfl tz_46 pl_46 rfl rfl ?_)
      refine AOps.cons rfl rfl (AOp.store' (cells' := [.int .i64 0, .int .i64 1]) (.agg [.int .i64 0, .int .i64 1]) rfl rfl ts_46 h33 rfl rfl rfl rfl ?_)
      intro H82 h83 k84
      have h86 := keep k84 (Ne.symm e23) h34
      have h87 := keep k84 e13 h30
      have m88 := Mono.set m35 z14 k84
      refine AOps.cons rfl rfl (AOp.store' (cells' := [.int .i64 1, .int .i64 0]) (.agg [.int .i64 1, .int .i64 0]) rfl rfl ts_46 h86 rfl rfl rfl rfl ?_)
      intro H89 h90 k91
      have h93 := keep k91 e22 h87
      have h94 := keep k91 e23 h83
      have m95 := Mono.set m88 z24 k91
      refine AOps.cons rfl rfl (AOp.assign (.bool true) rfl rfl ?_)
      refine AOps.nil ?_
      change AWP _ _ _ _ _ _
      refine AWP.ret ?_
      refine ⟨_, _, Ghost.refl, .inr rfl, _, Res.list rfl rfl (.cell (v := .agg [.int .i64 0, .int .i64 1]) rfl ty_46 h94 rfl (.cell (v := .agg [.int .i64 1, .int .i64 0]) rfl ty_46 h90 rfl (.tmp rfl (.nil)))), ?_, m95⟩
      have hR : R_span p = ((FracT.mk 0 1), (FracT.mk 1 0), true) := by unfold R_span; rw [if_pos b28, if_neg b36, if_pos b51, if_neg b52, if_neg b67]
      exact (congrArg (fun r : FracT × FracT × Bool => (.tup [.agg [.int .i64 r.1.N, .int .i64 r.1.D], .agg [.int .i64 r.2.1.N, .int .i64 r.2.1.D], .bool r.2.2] : AV)) hR).symm
   ·
    refine AOps.no rfl rfl rfl rfl rfl rfl rfl (ble_of (decide_eq_false b51) (by decide)) ?_
    refine AOps.no rfl rfl rfl rfl rfl rfl rfl (ble_of (decide_eq_false b51) (by decide)) ?_
    refine AOps.no rfl rfl rfl rfl rfl rfl rfl (ble_of (decide_eq_false b51) (by decide)) ?_
    refine AOps.no rfl rfl rfl rfl rfl rfl rfl (ble_of (decide_eq_false b51) (by decide)) ?_
    refine AOps.no rfl rfl rfl rfl rfl rfl rfl (ble_of (decide_eq_false b51) (by decide)) ?_
    refine AOps.no rfl rfl rfl rfl rfl rfl rfl (ble_of (decide_eq_false b51) (by decide)) ?_
    refine AOps.un rfl rfl rfl rfl rfl rfl rfl ?_
    refine AOps.un rfl rfl rfl rfl rfl rfl rfl ?_
    refine AOps.un rfl rfl rfl rfl rfl rfl rfl ?_
    refine AOps.un rfl rfl rfl rfl rfl rfl rfl ?_
    refine AOps.un rfl rfl rfl rfl rfl rfl rfl ?_
    refine AOps.no rfl rfl rfl rfl rfl rfl rfl (ble_of (decide_eq_false b51) (by decide)) ?_
    refine AOps.yes rfl rfl rfl rfl rfl rfl rfl (decide_eq_false b36) (AOp.pickF (.bool false) rfl rfl (decide_eq_false b51) rfl ?_)
    refine AOps.cons rfl rfl (AOp.pickF (.bool false) rfl rfl (decide_eq_false b36) rfl ?_)
    refine AOps.nil ?_
    change AWP _ _ _ _ _ _
    refine AWP.condF rfl rfl ?_
    refine AWP.skip ?_
    change AWP _ _ _ _ _ _
    refine AWP.seq ?_
    refine AWP.seq ?_
    refine AWP.region (l := [0, 1, 2]) rfl ?_
    refine AOps.cons rfl rfl (AOp.fieldAddr rfl rfl fl_61_1 ?_ (hid := ⟨_, h30⟩))
    refine AOps.cons rfl rfl (AOp.load (.int .i64 (-p.step)) rfl rfl ty_3 h30 rfl ?_)
    refine AOps.cons rfl rfl (AOp.bin (.bool (decide (-p.step = 0))) rfl rfl rfl ieq ?_)
    refine AOps.nil ?_
    change AWP _ _ _ _ _ _
    refine AWP.condF rfl (decide_eq_false b51) ?_
    refine AWP.skip ?_
    change AWP _ _ _ _ _ _
    refine AWP.seq ?_
    refine AWP.region_str mixed (by kernel_rfl) [(0, none), (1, none), (2, none), (3, none), (4, none), (5, none), (6, none), (7, none), (8, none), (9, none), (10, none), (11, none), (12, none), (13, none), (14, none), (15, none), (16, some [8, 9, 10, 11, 12, 13, 14, 15])] [17, 18] (by kernel_rfl) ?_
    refine STR.op rfl rfl (.inl ⟨rfl, fun H1 f' H' hf hN hM => AOp.fieldAddr rfl ((hf 1 rfl).trans rfl) fl_61_2 ⟨rfl, hN⟩ (hid := ⟨_, (hM _ _ h30)⟩)⟩) ?_
    refine STR.op rfl rfl (.inl ⟨rfl, fun H1 f' H' hf hN hM => AOp.load (.int .i64 (-p.hi)) rfl ((hf 52 rfl).trans rfl) ty_3 (hM _ _ h30) rfl ⟨rfl, hN⟩⟩) ?_
    refine STR.op rfl rfl (.inl ⟨rfl, fun H1 f' H' hf hN hM => AOp.fieldAddr rfl ((hf 1 rfl).trans rfl) fl_61_0 ⟨rfl, hN⟩ (hid := ⟨_, (hM _ _ h30)⟩)⟩) ?_
    refine STR.op rfl rfl (.inl ⟨rfl, fun H1 f' H' hf hN hM => AOp.load (.int .i64 (-p.fromF)) rfl ((hf 54 rfl).trans rfl) ty_3 (hM _ _ h30) rfl ⟨rfl, hN⟩⟩) ?_
    refine STR.op rfl rfl (.inl ⟨rfl, fun H1 f' H' hf hN hM => AOp.bin (.int .i64 (-p.hi - (-p.fromF))) rfl ((hf 53 rfl).trans rfl) ((hf 55 rfl).trans rfl) (isub (by omega)) ⟨rfl, hN⟩⟩) ?_
    refine STR.op rfl rfl (.inl ⟨rfl, fun H1 f' H' hf hN hM => AOp.fieldAddr rfl ((hf 1 rfl).trans rfl) fl_61_1 ⟨rfl, hN⟩ (hid := ⟨_, (hM _ _ h30)⟩)⟩) ?_
    refine STR.op rfl rfl (.inl ⟨rfl, fun H1 f' H' hf hN hM => AOp.load (.int .i64 (-p.step)) rfl ((hf 57 rfl).trans rfl) ty_3 (hM _ _ h30) rfl ⟨rfl, hN⟩⟩) ?_
    refine STR.op rfl rfl (.inl ⟨rfl, fun H1 f' H' hf hN hM => AOp.build (cells := [.int .i64 (-p.hi - (-p.fromF)), .int .i64 (-p.step)]) rfl tz_46 pl_46 (lconsP ((hf 56 rfl).trans rfl) (lconsP ((hf 58 rfl).trans rfl) rfl)) rfl ⟨rfl, hN⟩⟩) ?_
    refine STR.op rfl rfl (.inl ⟨rfl, fun H1 f' H' hf hN hM => AOp.fieldAddr rfl ((hf 1 rfl).trans rfl) fl_61_3 ⟨rfl, hN⟩ (hid := ⟨_, (hM _ _ h30)⟩)⟩) ?_
    refine STR.op rfl rfl (.inl ⟨rfl, fun H1 f' H' hf hN hM => AOp.load (.int .i64 (-p.lo)) rfl ((hf 60 rfl).trans rfl) ty_3 (hM _ _ h30) rfl ⟨rfl, hN⟩⟩) ?_
    refine STR.op rfl rfl (.inl ⟨rfl, fun H1 f' H' hf hN hM => AOp.fieldAddr rfl ((hf 1 rfl).trans rfl) fl_61_0 ⟨rfl, hN⟩ (hid := ⟨_, (hM _ _ h30)⟩)⟩) ?_
    refine STR.op rfl rfl (.inl ⟨rfl, fun H1 f' H' hf hN hM => AOp.load (.int .i64 (-p.fromF)) rfl ((hf 62 rfl).trans rfl) ty_3 (hM _ _ h30) rfl ⟨rfl, hN⟩⟩) ?_
    refine STR.op rfl rfl (.inl ⟨rfl, fun H1 f' H' hf hN hM => AOp.bin (.int .i64 (-p.lo - (-p.fromF))) rfl ((hf 61 rfl).trans rfl) ((hf 63 rfl).trans rfl) (isub (by omega)) ⟨rfl, hN⟩⟩) ?_
    refine STR.op rfl rfl (.inl ⟨rfl, fun H1 f' H' hf hN hM => AOp.fieldAddr rfl ((hf 1 rfl).trans rfl) fl_61_1 ⟨rfl, hN⟩ (hid := ⟨_, (hM _ _ h30)⟩)⟩) ?_
    refine STR.op rfl rfl (.inl ⟨rfl, fun H1 f' H' hf hN hM => AOp.load (.int .i64 (-p.step)) rfl ((hf 65 rfl).trans rfl) ty_3 (hM _ _ h30) rfl ⟨rfl, hN⟩⟩) ?_
    refine STR.op rfl rfl (.inl ⟨rfl, fun H1 f' H' hf hN hM => AOp.build (cells := [.int .i64 (-p.lo - (-p.fromF)), .int .i64 (-p.step)]) rfl tz_46 pl_46 (lconsP ((hf 64 rfl).trans rfl) (lconsP ((hf 66 rfl).trans rfl) rfl)) rfl ⟨rfl, hN⟩⟩) ?_
    refine STR.st rfl rfl rfl fun f96 H97 hf98 m99 => ?_
    have h100 := m99 _ _ h33
    have h101 := m99 _ _ h34
    have h102 := m99 _ _ h30
    have m103 := m35.trans m99
    refine AOp.store' (cells' := [.int .i64 (-p.hi - (-p.fromF)), .int .i64 (-p.step)]) (.agg [.int .i64 (-p.hi - (-p.fromF)), .int .i64 (-p.step)]) ((hf98 2 rfl).trans rfl) ((hf98 59 rfl).trans rfl) ts_46 h100 rfl rfl rfl rfl ?_
    intro H104 h105 k106
    have h108 := keep k106 (Ne.symm e23) h101
    have h109 := keep k106 e13 h102
    have m110 := Mono.set m103 z14 k106
    refine ⟨rfl, .inr (RevR.cons rfl (.inl ⟨rfl, fun H1 f' H' hf hN hM => AOp.build (cells := [.int .i64 (-p.lo - (-p.fromF)), .int .i64 (-p.step)]) rfl tz_46 pl_46 (lconsP ((hf 64 rfl).trans rfl) (lconsP ((hf 66 rfl).trans rfl) rfl)) rfl ⟨rfl, hN⟩⟩) (RevR.cons rfl (.inl ⟨rfl, fun H1 f' H' hf hN hM => AOp.load (.int .i64 (-p.step)) rfl ((hf 65 rfl).trans rfl) ty_3 (hM _ _ h109) rfl ⟨rfl, hN⟩⟩) (RevR.cons rfl (.inl ⟨rfl, fun H1 f' H' hf hN hM => AOp.fieldAddr rfl ((hf 1 rfl).trans rfl) fl_61_1 ⟨rfl, hN⟩ (hid := ⟨_, (hM _ _ h109)⟩)⟩) (RevR.cons rfl (.inl ⟨rfl, fun H1 f' H' hf hN hM => AOp.bin (.int .i64 (-p.lo - (-p.fromF))) rfl ((hf 61 rfl).trans rfl) ((hf 63 rfl).trans rfl) (isub (by omega)) ⟨rfl, hN⟩⟩) (RevR.cons rfl (.inl ⟨rfl, fun H1 f' H' hf hN hM => AOp.load (.int .i64 (-p.fromF)) rfl ((hf 62 rfl).trans rfl) ty_3 (hM _ _ h109) rfl ⟨rfl, hN⟩⟩) (RevR.cons rfl (.inl ⟨rfl, fun H1 f' H' hf hN hM => AOp.fieldAddr rfl ((hf 1 rfl).trans rfl) fl_61_0 ⟨rfl, hN⟩ (hid := ⟨_, (hM _ _ h109)⟩)⟩) (RevR.cons rfl (.inl ⟨rfl, fun H1 f' H' hf hN hM => AOp.load (.int .i64 (-p.lo)) rfl ((hf 60 rfl).trans rfl) ty_3 (hM _ _ h109) rfl ⟨rfl, hN⟩⟩) (RevR.cons rfl (.inl ⟨rfl, fun H1 f' H' hf hN hM => AOp.fieldAddr rfl ((hf 1 rfl).trans rfl) fl_61_3 ⟨rfl, hN⟩ (hid := ⟨_, (hM _ _ h109)⟩)⟩) (RevR.skip rfl (RevR.skip rfl (RevR.skip rfl (RevR.skip rfl (RevR.skip rfl (RevR.skip rfl (RevR.skip rfl (RevR.skip rfl RevR.nil)))))))))))))))), ?_⟩
    refine STR.done fun H111 m112 => ?_
    have h113 := m112 _ _ h108
    have h114 := m112 _ _ h109
    have h115 := m112 _ _ h105
    have m116 := m110.trans m112
    refine AOps.cons rfl rfl (AOp.store' (cells' := [.int .i64 (-p.lo - (-p.fromF)), .int .i64 (-p.step)]) (.agg [.int .i64 (-p.lo - (-p.fromF)), .int .i64 (-p.step)]) rfl rfl ts_46 h113 rfl rfl rfl rfl ?_)
    intro H117 h118 k119
    have h121 := keep k119 e22 h114
    have h122 := keep k119 e23 h115
    have m123 := Mono.set m116 z24 k119
    refine AOps.cons rfl rfl (AOp.assign (.bool true) rfl rfl ?_)
    refine AOps.nil ?_
    change AWP _ _ _ _ _ _
    refine AWP.ret ?_
    refine ⟨_, _, Ghost.refl, .inr rfl, _, Res.list rfl rfl (.cell (v := .agg [.int .i64 (-p.hi - (-p.fromF)), .int .i64 (-p.step)]) rfl ty_46 h122 rfl (.cell (v := .agg [.int .i64 (-p.lo - (-p.fromF)), .int .i64 (-p.step)]) rfl ty_46 h118 rfl (.tmp rfl (.nil)))), ?_, m123⟩
    have hR : R_span p = ((FracT.mk (-p.hi - (-p.fromF)) (-p.step)), (FracT.mk (-p.lo - (-p.fromF)) (-p.step)), true) := by unfold R_span; rw [if_pos b28, if_neg b36, if_neg b51]
    exact (congrArg (fun r : FracT × FracT × Bool => (.tup [.agg [.int .i64 r.1.N, .int .i64 r.1.D], .agg [.int .i64 r.2.1.N, .int .i64 r.2.1.D], .bool r.2.2] : AV)) hR).symm
 ·
  refine AWP.condF rfl (decide_eq_false b28) ?_
  refine AWP.skip ?_
  change AWP _ _ _ _ _ _
  refine AWP.seq ?_
  refine AWP.seq ?_
  refine AWP.region (l := [0, 1, 2, 3, 4, 5, 6, 7, 8, 9, 10, 11, 12, 13, 14, 15, 16, 17, 18, 19, 20, 21, 22, 23]) rfl ?_
  refine AOps.cons rfl rfl (AOp.fieldAddr rfl rfl fl_61_2 ?_ (hid := ⟨_, h25⟩))
  refine AOps.cons rfl rfl (AOp.load (.int .i64 p.lo) rfl rfl ty_3 h25 rfl ?_)
  refine AOps.cons rfl rfl (AOp.fieldAddr rfl rfl fl_61_3 ?_ (hid := ⟨_, h25⟩))
  refine AOps.cons rfl rfl (AOp.load (.int .i64 p.hi) rfl rfl ty_3 h25 rfl ?_)
  refine AOps.cons rfl rfl (AOp.bin (.bool (decide (p.lo > p.hi))) rfl rfl rfl rfl ?_)
  refine AOps.cons rfl rfl (AOp.move (.bool (decide (p.lo > p.hi))) rfl rfl ?_)
  by_cases b124 : p.lo > p.hi
  ·
   refine AOps.no rfl rfl rfl rfl rfl rfl rfl (ble_of (decide_eq_true b124) (by decide)) ?_
   refine AOps.no rfl rfl rfl rfl rfl rfl rfl (ble_of (decide_eq_true b124) (by decide)) ?_
   refine AOps.no rfl rfl rfl rfl rfl rfl rfl (ble_of (decide_eq_true b124) (by decide)) ?_
   refine AOps.no rfl rfl rfl rfl rfl rfl rfl (ble_of (decide_eq_true b124) (by decide)) ?_
   refine AOps.un rfl rfl rfl rfl rfl rfl rfl ?_
   refine AOps.un rfl rfl rfl rfl rfl rfl rfl ?_
   refine AOps.un rfl rfl rfl rfl rfl rfl rfl ?_
   refine AOps.un rfl rfl rfl rfl rfl rfl rfl ?_
   refine AOps.un rfl rfl rfl rfl rfl rfl rfl ?_
   refine AOps.un rfl rfl rfl rfl rfl rfl rfl ?_
   refine AOps.un rfl rfl rfl rfl rfl rfl rfl ?_
   refine AOps.un rfl rfl rfl rfl rfl rfl rfl ?_
   refine AOps.un rfl rfl rfl rfl rfl rfl rfl ?_
   refine AOps.un rfl rfl rfl rfl rfl rfl rfl ?_
   refine AOps.un rfl rfl rfl rfl rfl rfl rfl ?_
   refine AOps.un rfl rfl rfl rfl rfl rfl rfl ?_
   refine AOps.no rfl rfl rfl rfl rfl rfl rfl (ble_of (decide_eq_true b124) (by decide)) ?_
   refine AOps.cons rfl rfl (AOp.pickT (.bool true) rfl rfl (decide_eq_true b124) rfl ?_)
   refine AOps.nil ?_
   change AWP _ _ _ _ _ _
   refine AWP.condT rfl rfl ?_
   refine AWP.seq ?_
   refine AWP.region (l := [0, 1, 2, 3, 4]) rfl ?_
   refine AOps.cons rfl rfl (AOp.build (cells := [.int .i64 0, .int .i64 0]) rfl tz_46 pl_46 rfl rfl ?_)
   refine AOps.cons rfl rfl (AOp.build (cells := [.int .i64 0, .int .i64 0]) rfl tz_46 pl_46 rfl rfl ?_)
   refine AOps.cons rfl rfl (AOp.store' (cells' := [.int .i64 0, .int .i64 0]) (.agg [.int .i64 0, .int .i64 0]) rfl rfl ts_46 h26 rfl rfl rfl rfl ?_)
   intro H125 h126 k127
   have h128 := keep k127 e13 h25
   have h130 := keep k127 (Ne.symm e23) h20
   have m131 := Mono.set m27 z14 k127
   refine AOps.cons rfl rfl (AOp.store' (cells' := [.int .i64 0, .int .i64 0]) (.agg [.int .i64 0, .int .i64 0]) rfl rfl ts_46 h130 rfl rfl rfl rfl ?_)
   intro H132 h133 k134
   have h135 := keep k134 e22 h128
   have h137 := keep k134 e23 h126
   have m138 := Mono.set m131 z24 k134
   refine AOps.cons rfl rfl (AOp.assign (.bool false) rfl rfl ?_)
   refine AOps.nil ?_
   change AWP _ _ _ _ _ _
   refine AWP.ret ?_
   refine ⟨_, _, Ghost.refl, .inr rfl, _, Res.list rfl rfl (.cell (v := .agg [.int .i64 0, .int .i64 0]) rfl ty_46 h137 rfl (.cell (v := .agg [.int .i64 0, .int .i64 0]) rfl ty_46 h133 rfl (.tmp rfl (.nil)))), ?_, m138⟩
   have hR : R_span p = ((FracT.mk 0 0), (FracT.mk 0 0), false) := by unfold R_span; rw [if_neg b28, if_pos b124]
   exact (congrArg (fun r : FracT × FracT × Bool => (.tup [.agg [.int .i64 r.1.N, .int .i64 r.1.D], .agg [.int .i64 r.2.1.N, .int .i64 r.2.1.D], .bool r.2.2] : AV)) hR).symm
  ·
   refine AOps.yes rfl rfl rfl rfl rfl rfl rfl (decide_eq_false b124) (AOp.fieldAddr rfl rfl fl_61_1 ?_ (hid := ⟨_, h25⟩))
   refine AOps.yes rfl rfl rfl rfl rfl rfl rfl (decide_eq_false b124) (AOp.load (.int .i64 p.step) rfl rfl ty_3 h25 rfl ?_)
   refine AOps.yes rfl rfl rfl rfl rfl rfl rfl (decide_eq_false b124) (AOp.bin (.bool (decide (p.step = 0))) rfl rfl rfl ieq ?_)
   refine AOps.yes rfl rfl rfl rfl rfl rfl rfl (decide_eq_false b124) (AOp.move (.bool (decide (p.step = 0))) rfl rfl ?_)
   by_cases b139 : p.step = 0
   ·
    refine AOps.yes rfl rfl rfl rfl rfl rfl rfl (decide_eq_true b139) (AOp.fieldAddr rfl rfl fl_61_0 ?_ (hid := ⟨_, h25⟩))
    refine AOps.yes rfl rfl rfl rfl rfl rfl rfl (decide_eq_true b139) (AOp.load (.int .i64 p.fromF) rfl rfl ty_3 h25 rfl ?_)
    refine AOps.yes rfl rfl rfl rfl rfl rfl rfl (decide_eq_true b139) (AOp.fieldAddr rfl rfl fl_61_2 ?_ (hid := ⟨_, h25⟩))
    refine AOps.yes rfl rfl rfl rfl rfl rfl rfl (decide_eq_true b139) (AOp.load (.int .i64 p.lo) rfl rfl ty_3 h25 rfl ?_)
    refine AOps.yes rfl rfl rfl rfl rfl rfl rfl (decide_eq_true b139) (AOp.bin (.bool (decide (p.fromF < p.lo))) rfl rfl rfl rfl ?_)
    refine AOps.yes rfl rfl rfl rfl rfl rfl rfl (decide_eq_true b139) (AOp.move (.bool (decide (p.fromF < p.lo))) rfl rfl ?_)
    by_cases b140 : p.fromF < p.lo
    ·
     refine AOps.no rfl rfl rfl rfl rfl rfl rfl (ble_of (decide_eq_true b140) (by decide)) ?_
     refine AOps.no rfl rfl rfl rfl rfl rfl rfl (ble_of (decide_eq_true b140) (by decide)) ?_
     refine AOps.no rfl rfl rfl rfl rfl rfl rfl (ble_of (decide_eq_true b140) (by decide)) ?_
     refine AOps.no rfl rfl rfl rfl rfl rfl rfl (ble_of (decide_eq_true b140) (by decide)) ?_
     refine AOps.no rfl rfl rfl rfl rfl rfl rfl (ble_of (decide_eq_true b140) (by decide)) ?_
     refine AOps.yes rfl rfl rfl rfl rfl rfl rfl (decide_eq_true b139) (AOp.pickT (.bool true) rfl rfl (decide_eq_true b140) rfl ?_)
     refine AOps.yes rfl rfl rfl rfl rfl rfl rfl (decide_eq_false b124) (AOp.pickT (.bool true) rfl rfl (decide_eq_true b139) rfl ?_)
     refine AOps.cons rfl rfl (AOp.pickF (.bool true) rfl rfl (decide_eq_false b124) rfl ?_)
     refine AOps.nil ?_
     change AWP _ _ _ _ _ _
     refine AWP.condT rfl rfl ?_
     refine AWP.seq ?_
     refine AWP.region (l := [0, 1, 2, 3, 4]) rfl ?_
     refine AOps.cons rfl rfl (AOp.build (cells := [.int .i64 0, .int .i64 0]) rfl tz_46 pl_46 rfl rfl ?_)
     refine AOps.cons rfl rfl (AOp.build (cells := [.int .i64 0, .int .i64 0]) rfl tz_46 pl_46 rfl rfl ?_)
     refine AOps.cons rfl rfl (AOp.store' (cells' := [.int .i64 0, .int .i64 0]) (.agg [.int .i64 0, .int .i64 0]) rfl rfl ts_46 h26 rfl rfl rfl rfl ?_)
     intro H141 h142 k143
     have h144 := keep k143 e13 h25
     have h146 := keep k143 (Ne.symm e23) h20
     have m147 := Mono.set m27 z14 k143
     refine AOps.cons rfl rfl (AOp.store' (cells' := [.int .i64 0, .int .i64 0]) (.agg [.int .i64 0, .int .i64 0]) rfl rfl ts_46 h146 rfl rfl rfl rfl ?_)
     intro H148 h149 k150
     have h151 := keep k150 e22 h144
     have h153 := keep k150 e23 h142
     have m154 := Mono.set m147 z24 k150
     refine AOps.cons rfl rfl (AOp.assign (.bool false) rfl rfl ?_)
     refine AOps.nil ?_
     change AWP _ _ _ _ _ _
     refine AWP.ret ?_
     refine ⟨_, _, Ghost.refl, .inr rfl, _, Res.list rfl rfl (.cell (v := .agg [.int .i64 0, .int .i64 0]) rfl ty_46 h153 rfl (.cell (v := .agg [.int .i64 0, .int .i64 0]) rfl ty_46 h149 rfl (.tmp rfl (.nil)))), ?_, m154⟩
     have hR : R_span p = ((FracT.mk 0 0), (FracT.mk 0 0), false) := by unfold R_span; rw [if_neg b28, if_neg b124, if_pos b139, if_pos b140]
     exact (congrArg (fun r : FracT × FracT × Bool => (.tup [.agg [.int .i64 r.1.N, .int .i64 r.1.D], .agg [.int .i64 r.2.1.N, .int .i64 r.2.1.D], .bool r.2.2] : AV)) hR).symm
    ·
     refine AOps.yes rfl rfl rfl rfl rfl rfl rfl (decide_eq_false b140) (AOp.fieldAddr rfl rfl fl_61_0 ?_ (hid := ⟨_, h25⟩))
     refine AOps.yes rfl rfl rfl rfl rfl rfl rfl (decide_eq_false b140) (AOp.load (.int .i64 p.fromF) rfl rfl ty_3 h25 rfl ?_)
     refine AOps.yes rfl rfl rfl rfl rfl rfl rfl (decide_eq_false b140) (AOp.fieldAddr rfl rfl fl_61_3 ?_ (hid := ⟨_, h25⟩))
     refine AOps.yes rfl rfl rfl rfl rfl rfl rfl (decide_eq_false b140) (AOp.load (.int .i64 p.hi) rfl rfl ty_3 h25 rfl ?_)
     refine AOps.yes rfl rfl rfl rfl rfl rfl rfl (decide_eq_false b140) (AOp.bin (.bool (decide (p.fromF > p.hi))) rfl rfl rfl rfl ?_)
     refine AOps.yes rfl rfl rfl rfl rfl rfl rfl (decide_eq_true b139) (AOp.pickF (.bool (decide (p.fromF > p.hi))) rfl rfl (decide_eq_false b140) rfl ?_)
     refine AOps.yes rfl rfl rfl rfl rfl rfl rfl (decide_eq_false b124) (AOp.pickT (.bool (decide (p.fromF > p.hi))) rfl rfl (decide_eq_true b139) rfl ?_)
     refine AOps.cons rfl rfl (AOp.pickF (.bool (decide (p.fromF > p.hi))) rfl rfl (decide_eq_false b124) rfl ?_)
     refine AOps.nil ?_
     change AWP _ _ _ _ _ _
     by_cases b155 : p.fromF > p.hi
     ·
      refine AWP.condT rfl (decide_eq_true b155) ?_
      refine AWP.seq ?_
      refine AWP.region (l := [0, 1, 2, 3, 4]) rfl ?_
      refine AOps.cons rfl rfl (AOp.build (cells := [.int .i64 0, .int .i64 0]) rfl tz_46 pl_46 rfl rfl ?_)
      refine AOps.cons rfl rfl (AOp.build (cells := [.int .i64 0, .int .i64 0]) rfl tz_46 pl_46 rfl rfl ?_)
      refine AOps.cons rfl rfl (AOp.store' (cells' := [.int .i64 0, .int .i64 0]) (.agg [.int .i64 0, .int .i64 0]) rfl rfl ts_46 h26 rfl rfl rfl rfl ?_)
      intro H156 h157 k158
      have h159 := keep k158 e13 h25
      have h161 := keep k158 (Ne.symm e23) h20
      have m162 := Mono.set m27 z14 k158
      refine AOps.cons rfl rfl (AOp.store' (cells' := [.int .i64 0, .int .i64 0]) (.agg [.int .i64 0, .int .i64 0]) rfl rfl ts_46 h161 rfl rfl rfl rfl ?_)
      intro H163 h164 k165
      have h166 := keep k165 e22 h159
      have h168 := keep k165 e23 h157
      have m169 := Mono.set m162 z24 k165
      refine AOps.cons rfl rfl (AOp.assign (.bool false) rfl rfl ?_)
      refine AOps.nil ?_
      change AWP _ _ _ _ _ _
      refine AWP.ret ?_
      refine ⟨_, _, Ghost.refl, .inr rfl, _, Res.list rfl rfl (.cell (v := .agg [.int .i64 0, .int .i64 0]) rfl ty_46 h168 rfl (.cell (v := .agg [.int .i64 0, .int .i64 0]) rfl ty_46 h164 rfl (.tmp rfl (.nil)))), ?_, m169⟩
      have hR : R_span p = ((FracT.mk 0 0), (FracT.mk 0 0), false) := by unfold R_span; rw [if_neg b28, if_neg b124, if_pos b139, if_neg b140, if_pos b155]
      exact (congrArg (fun r : FracT × FracT × Bool => (.tup [.agg [.int .i64 r.1.N, .int .i64 r.1.D], .agg [.int .i64 r.2.1.N, .int .i64 r.2.1.D], .bool r.2.2] : AV)) hR).symm
     ·
      refine AWP.condF rfl (decide_eq_false b155) ?_
      refine AWP.skip ?_
      change AWP _ _ _ _ _ _
      refine AWP.seq ?_
      refine AWP.seq ?_
      refine AWP.region (l := [0, 1, 2]) rfl ?_
      refine AOps.cons rfl rfl (AOp.fieldAddr rfl rfl fl_61_1 ?_ (hid := ⟨_, h25⟩))
      refine AOps.cons rfl rfl (AOp.load (.int .i64 p.step) rfl rfl ty_3 h25 rfl ?_)
      refine AOps.cons rfl rfl (AOp.bin (.bool (decide (p.step = 0))) rfl rfl rfl ieq ?_)
      refine AOps.nil ?_
      change AWP _ _ _ _ _ _
      refine AWP.condT rfl (decide_eq_true b139) ?_
      refine AWP.seq ?_
      refine AWP.region (l := [0, 1, 2, 3, 4]) rfl ?_
      refine AOps.cons rfl rfl (AOp.build (cells := [.int .i64 0, .int .i64 1]) rfl tz_46 pl_46 rfl rfl ?_)
      refine AOps.cons rfl rfl (AOp.build (cells := [.int .i64 1, .int .i64 0]) rfl tz_46 pl_46 rfl rfl ?_)
      refine AOps.cons rfl rfl (AOp.store' (cells' := [.int .i64 0, .int .i64 1]) (.agg [.int .i64 0, .int .i64 1]) rfl rfl ts_46 h26 rfl rfl rfl rfl ?_)
      intro H170 h171 k172
      have h173 := keep k172 e13 h25
      have h175 := keep k172 (Ne.symm e23) h20
      have m176 := Mono.set m27 z14 k172
      refine AOps.cons rfl rfl (AOp.store' (cells' := [.int .i64 1, .int .i64 0]) (.agg [.int .i64 1, .int .i64 0]) rfl rfl ts_46 h175 rfl rfl rfl rfl ?_)
      intro H177 h178 k179
      have h180 := keep k179 e22 h173
      have h182 := keep k179 e23 h171
      have m183 := Mono.set m176 z24 k179
      refine AOps.cons rfl rfl (AOp.assign (.bool true) rfl rfl ?_)
      refine AOps.nil ?_
      change AWP _ _ _ _ _ _
      refine AWP.ret ?_
      refine ⟨_, _, Ghost.refl, .inr rfl, _, Res.list rfl rfl (.cell (v := .agg [.int .i64 0, .int .i64 1]) rfl ty_46 h182 rfl (.cell (v := .agg [.int .i64 1, .int .i64 0]) rfl ty_46 h178 rfl (.tmp rfl (.nil)))), ?_, m183⟩
      have hR : R_span p = ((FracT.mk 0 1), (FracT.mk 1 0), true) := by unfold R_span; rw [if_neg b28, if_neg b124, if_pos b139, if_neg b140, if_neg b155]
      exact (congrArg (fun r : FracT × FracT × Bool => (.tup [.agg [.int .i64 r.1.N, .int .i64 r.1.D], .agg [.int .i64 r.2.1.N, .int .i64 r.2.1.D], .bool r.2.2] : AV)) hR).symm
   ·
    refine AOps.no rfl rfl rfl rfl rfl rfl rfl (ble_of (decide_eq_false b139) (by decide)) ?_
    refine AOps.no rfl rfl rfl rfl rfl rfl rfl (ble_of (decide_eq_false b139) (by decide)) ?_
    refine AOps.no rfl rfl rfl rfl rfl rfl rfl (ble_of (decide_eq_false b139) (by decide)) ?_
    refine AOps.no rfl rfl rfl rfl rfl rfl rfl (ble_of (decide_eq_false b139) (by decide)) ?_
    refine AOps.no rfl rfl rfl rfl rfl rfl rfl (ble_of (decide_eq_false b139) (by decide)) ?_
    refine AOps.no rfl rfl rfl rfl rfl rfl rfl (ble_of (decide_eq_false b139) (by decide)) ?_
    refine AOps.un rfl rfl rfl rfl rfl rfl rfl ?_
    refine AOps.un rfl rfl rfl rfl rfl rfl rfl ?_
    refine AOps.un rfl rfl rfl rfl rfl rfl rfl ?_
    refine AOps.un rfl rfl rfl rfl rfl rfl rfl ?_
    refine AOps.un rfl rfl rfl rfl rfl rfl rfl ?_
    refine AOps.no rfl rfl rfl rfl rfl rfl rfl (ble_of (decide_eq_false b139) (by decide)) ?_
    refine AOps.yes rfl rfl rfl rfl rfl rfl rfl (decide_eq_false b124) (AOp.pickF (.bool false) rfl rfl (decide_eq_false b139) rfl ?_)
    refine AOps.cons rfl rfl (AOp.pickF (.bool false) rfl rfl (decide_eq_false b124) rfl ?_)
    refine AOps.nil ?_
    change AWP _ _ _ _ _ _
    refine AWP.condF rfl rfl ?_
    refine AWP.skip ?_
    change AWP _ _ _ _ _ _
    refine AWP.seq ?_
    refine AWP.seq ?_
    refine AWP.region (l := [0, 1, 2]) rfl ?_
    refine AOps.cons rfl rfl (AOp.fieldAddr rfl rfl fl_61_1 ?_ (hid := ⟨_, h25⟩))
    refine AOps.cons rfl rfl (AOp.load (.int .i64 p.step) rfl rfl ty_3 h25 rfl ?_)
    refine AOps.cons rfl rfl (AOp.bin (.bool (decide (p.step = 0))) rfl rfl rfl ieq ?_)
    refine AOps.nil ?_
    change AWP _ _ _ _ _ _
    refine AWP.condF rfl (decide_eq_false b139) ?_
    refine AWP.skip ?_
    change AWP _ _ _ _ _ _
    refine AWP.seq ?_
    refine AWP.region_str mixed (by kernel_rfl) [(0, none), (1, none), (2, none), (3, none), (4, none), (5, none), (6, none), (7, none), (8, none), (9, none), (10, none), (11, none), (12, none), (13, none), (14, none), (15, none), (16, some [8, 9, 10, 11, 12, 13, 14, 15])] [17, 18] (by kernel_rfl) ?_
    refine STR.op rfl rfl (.inl ⟨rfl, fun H1 f' H' hf hN hM => AOp.fieldAddr rfl ((hf 1 rfl).trans rfl) fl_61_2 ⟨rfl, hN⟩ (hid := ⟨_, (hM _ _ h25)⟩)⟩) ?_
    refine STR.op rfl rfl (.inl ⟨rfl, fun H1 f' H' hf hN hM => AOp.load (.int .i64 p.lo) rfl ((hf 52 rfl).trans rfl) ty_3 (hM _ _ h25) rfl ⟨rfl, hN⟩⟩) ?_
    refine STR.op rfl rfl (.inl ⟨rfl, fun H1 f' H' hf hN hM => AOp.fieldAddr rfl ((hf 1 rfl).trans rfl) fl_61_0 ⟨rfl, hN⟩ (hid := ⟨_, (hM _ _ h25)⟩)⟩) ?_
    refine STR.op rfl rfl (.inl ⟨rfl, fun H1 f' H' hf hN hM => AOp.load (.int .i64 p.fromF) rfl ((hf 54 rfl).trans rfl) ty_3 (hM _ _ h25) rfl ⟨rfl, hN⟩⟩) ?_
    refine STR.op rfl rfl (.inl ⟨rfl, fun H1 f' H' hf hN hM => AOp.bin (.int .i64 (p.lo - p.fromF)) rfl ((hf 53 rfl).trans rfl) ((hf 55 rfl).trans rfl) (isub (by omega)) ⟨rfl, hN⟩⟩) ?_
    refine STR.op rfl rfl (.inl ⟨rfl, fun H1 f' H' hf hN hM => AOp.fieldAddr rfl ((hf 1 rfl).trans rfl) fl_61_1 ⟨rfl, hN⟩ (hid := ⟨_, (hM _ _ h25)⟩)⟩) ?_
    refine STR.op rfl rfl (.inl ⟨rfl, fun H1 f' H' hf hN hM => AOp.load (.int .i64 p.step) rfl ((hf 57 rfl).trans rfl) ty_3 (hM _ _ h25) rfl ⟨rfl, hN⟩⟩) ?_
    refine STR.op rfl rfl (.inl ⟨rfl, fun H1 f' H' hf hN hM => AOp.build (cells := [.int .i64 (p.lo - p.fromF), .int .i64 p.step]) rfl tz_46 pl_46 (lconsP ((hf 56 rfl).trans rfl) (lconsP ((hf 58 rfl).trans rfl) rfl)) rfl ⟨rfl, hN⟩⟩) ?_
    refine STR.op rfl rfl (.inl ⟨rfl, fun H1 f' H' hf hN hM => AOp.fieldAddr rfl ((hf 1 rfl).trans rfl) fl_61_3 ⟨rfl, hN⟩ (hid := ⟨_, (hM _ _ h25)⟩)⟩) ?_
    refine STR.op rfl rfl (.inl ⟨rfl, fun H1 f' H' hf hN hM => AOp.load (.int .i64 p.hi) rfl ((hf 60 rfl).trans rfl) ty_3 (hM _ _ h25) rfl ⟨rfl, hN⟩⟩) ?_
    refine STR.op rfl rfl (.inl ⟨rfl, fun H1 f' H' hf hN hM => AOp.fieldAddr rfl ((hf 1 rfl).trans rfl) fl_61_0 ⟨rfl, hN⟩ (hid := ⟨_, (hM _ _ h25)⟩)⟩) ?_
    refine STR.op rfl rfl (.inl ⟨rfl, fun H1 f' H' hf hN hM => AOp.load (.int .i64 p.fromF) rfl ((hf 62 rfl).trans rfl) ty_3 (hM _ _ h25) rfl ⟨rfl, hN⟩⟩) ?_
    refine STR.op rfl rfl (.inl ⟨rfl, fun H1 f' H' hf hN hM => AOp.bin (.int .i64 (p.hi - p.fromF)) rfl ((hf 61 rfl).trans rfl) ((hf 63 rfl).trans rfl) (isub (by omega)) ⟨rfl, hN⟩⟩) ?_
    refine STR.op rfl rfl (.inl ⟨rfl, fun H1 f' H' hf hN hM => AOp.fieldAddr rfl ((hf 1 rfl).trans rfl) fl_61_1 ⟨rfl, hN⟩ (hid := ⟨_, (hM _ _ h25)⟩)⟩) ?_
    refine STR.op rfl rfl (.inl ⟨rfl, fun H1 f' H' hf hN hM => AOp.load (.int .i64 p.step) rfl ((hf 65 rfl).trans rfl) ty_3 (hM _ _ h25) rfl ⟨rfl, hN⟩⟩) ?_
    refine STR.op rfl rfl (.inl ⟨rfl, fun H1 f' H' hf hN hM => AOp.build (cells := [.int .i64 (p.hi - p.fromF), .int .i64 p.step]) rfl tz_46 pl_46 (lconsP ((hf 64 rfl).trans rfl) (lconsP ((hf 66 rfl).trans rfl) rfl)) rfl ⟨rfl, hN⟩⟩) ?_
    refine STR.st rfl rfl rfl fun f184 H185 hf186 m187 => ?_
    have h188 := m187 _ _ h25
    have h189 := m187 _ _ h26
    have h190 := m187 _ _ h20
    have m191 := m27.trans m187
    refine AOp.store' (cells' := [.int .i64 (p.lo - p.fromF), .int .i64 p.step]) (.agg [.int .i64 (p.lo - p.fromF), .int .i64 p.step]) ((hf186 2 rfl).trans rfl) ((hf186 59 rfl).trans rfl) ts_46 h189 rfl rfl rfl rfl ?_
    intro H192 h193 k194
    have h195 := keep k194 e13 h188
    have h197 := keep k194 (Ne.symm e23) h190
    have m198 := Mono.set m191 z14 k194
    refine ⟨rfl, .inr (RevR.cons rfl (.inl ⟨rfl, fun H1 f' H' hf hN hM => AOp.build (cells := [.int .i64 (p.hi - p.fromF), .int .i64 p.step]) rfl tz_46 pl_46 (lconsP ((hf 64 rfl).trans rfl) (lconsP ((hf 66 rfl).trans rfl) rfl)) rfl ⟨rfl, hN⟩⟩) (RevR.cons rfl (.inl ⟨rfl, fun H1 f' H' hf hN hM => AOp.load (.int .i64 p.step) rfl ((hf 65 rfl).trans rfl) ty_3 (hM _ _ h195) rfl ⟨rfl, hN⟩⟩) (RevR.cons rfl (.inl ⟨rfl, fun H1 f' H' hf hN hM => AOp.fieldAddr rfl ((hf 1 rfl).trans rfl) fl_61_1 ⟨rfl, hN⟩ (hid := ⟨_, (hM _ _ h195)⟩)⟩) (RevR.cons rfl (.inl ⟨rfl, fun H1 f' H' hf hN hM => AOp.bin (.int .i64 (p.hi - p.fromF)) rfl ((hf 61 rfl).trans rfl) ((hf 63 rfl).trans rfl) (isub (by omega)) ⟨rfl, hN⟩⟩) (RevR.cons rfl (.inl ⟨rfl, fun H1 f' H' hf hN hM => AOp.load (.int .i64 p.fromF) rfl ((hf 62 rfl).trans rfl) ty_3 (hM _ _ h195) rfl ⟨rfl, hN⟩⟩) (RevR.cons rfl (.inl ⟨rfl, fun H1 f' H' hf hN hM => AOp.fieldAddr rfl ((hf 1 rfl).trans rfl) fl_61_0 ⟨rfl, hN⟩ (hid := ⟨_, (hM _ _ h195)⟩)⟩) (RevR.cons rfl (.inl ⟨rfl, fun H1 f' H' hf hN hM => AOp.load (.int .i64 p.hi) rfl ((hf 60 rfl).trans rfl) ty_3 (hM _ _ h195) rfl ⟨rfl, hN⟩⟩) (RevR.cons rfl (.inl ⟨rfl, fun H1 f' H' hf hN hM => AOp.fieldAddr rfl ((hf 1 rfl).trans rfl) fl_61_3 ⟨rfl, hN⟩ (hid := ⟨_, (hM _ _ h195)⟩)⟩) (RevR.skip rfl (RevR.skip rfl (RevR.skip rfl (RevR.skip rfl (RevR.skip rfl (RevR.skip rfl (RevR.skip rfl (RevR.skip rfl RevR.nil)))))))))))))))), ?_⟩
    refine STR.done fun H199 m200 => ?_
    have h201 := m200 _ _ h195
    have h202 := m200 _ _ h197
    have h203 := m200 _ _ h193
    have m204 := m198.trans m200
    refine AOps.cons rfl rfl (AOp.store' (cells' := [.int .i64 (p.hi - p.fromF), .int .i64 p.step]) (.agg [.int .i64 (p.hi - p.fromF), .int .i64 p.step]) rfl rfl ts_46 h202 rfl rfl rfl rfl ?_)
    intro H205 h206 k207
    have h208 := keep k207 e22 h201
    have h210 := keep k207 e23 h203
    have m211 := Mono.set m204 z24 k207
    refine AOps.cons rfl rfl (AOp.assign (.bool true) rfl rfl ?_)
    refine AOps.nil ?_
    change AWP _ _ _ _ _ _
    refine AWP.ret ?_
    refine ⟨_, _, Ghost.refl, .inr rfl, _, Res.list rfl rfl (.cell (v := .agg [.int .i64 (p.lo - p.fromF), .int .i64 p.step]) rfl ty_46 h210 rfl (.cell (v := .agg [.int .i64 (p.hi - p.fromF), .int .i64 p.step]) rfl ty_46 h206 rfl (.tmp rfl (.nil)))), ?_, m211⟩
    have hR : R_span p = ((FracT.mk (p.lo - p.fromF) p.step), (FracT.mk (p.hi - p.fromF) p.step), true) := by unfold R_span; rw [if_neg b28, if_neg b124, if_neg b139]
    exact (congrArg (fun r : FracT × FracT × Bool => (.tup [.agg [.int .i64 r.1.N, .int .i64 r.1.D], .agg [.int .i64 r.2.1.N, .int .i64 r.2.1.D], .bool r.2.2] : AV)) hR).symm
end Go.Proofs.B
namespace Go.Proofs.B
open Go Go.AH
set_option maxRecDepth 4000
theorem within_iff {a : VT} {m : Int} : R_vec_Within a m = true ↔ inSp m a := by
  unfold R_vec_Within inSp
  split
  · simp only [decide_eq_true_eq]; omega
  · simp only [Bool.false_eq_true, false_iff]; omega
theorem span_eq (p : PartT) : R_span p = match spanR p.fromF p.step p.lo p.hi with | none => (⟨0, 0⟩, ⟨0, 0⟩, false) | some io => (io.1, io.2, true) := by
  unfold R_span spanR
  by_cases h1 : p.step < 0
  · simp only [h1, if_true]
    by_cases h2 : -p.hi > -p.lo
    · simp only [h2, if_true]
    · have h3 : ¬ -p.step = 0 := by omega
      simp only [h2, if_false, h3]
  · simp only [h1, if_false]
    by_cases h2 : p.lo > p.hi
    · simp only [h2, if_true]
    · simp only [h2, if_false]
      by_cases h3 : p.step = 0
      · simp only [h3, if_true]
        by_cases h4 : p.fromF < p.lo
        · simp only [h4, if_true, true_or]
        · by_cases h5 : p.fromF > p.hi
          · simp only [h4, h5, if_true, if_false, or_true]
          · simp only [h4, h5, if_false, or_self]
      · simp only [h3, if_false]
theorem right_up {f : FracT} (h : Up f) : R_wide_right f = true := by
  unfold R_wide_right
  obtain ⟨h1, h2⟩ := h
  split
  · rfl
  · rw [decide_eq_true_eq]
    obtain ⟨n, d⟩ := f
    simp only at h1 h2 ⊢
    have : d = 0 := by simp at *; omega
    subst this; rw [h2 rfl]
theorem pos_up {f : FracT} (h : Pos f) : Up f := by unfold Pos at h; exact ⟨by omega, fun e => by omega⟩
theorem less_eq {a b : FracT} (ha : Up a) (hb : Up b) : R_slab_less a b = lessF a b := by
  unfold R_slab_less R_wide_Order lessF
  rw [if_pos (right_up ha), if_pos (right_up hb)]
  simp only [R_wide_Cmp, mulW, cmpW_neg]
def badOD (o d : VT) : Bool := decide (d = ⟨0, 0, 0⟩) || !R_vec_Within o 65536 || !R_vec_Within d 32768
def boxIn (b : BoxT) : Bool := R_vec_Within b.Lo 131072 && R_vec_Within b.Hi 131072
def rangeF (o d : VT) (b : BoxT) : FracT × FracT × Bool × Int :=
  if (badOD o d || !boxIn b) = true then (⟨0, 0⟩, ⟨0, 0⟩, false, 21) else match rangeR o d b with | none => (⟨0, 0⟩, ⟨0, 0⟩, false, 0) | some s => (s.1, s.2, true, 0)
theorem boxIn_iff {b : BoxT} : boxIn b = true ↔ okBox b := by unfold boxIn okBox; rw [Bool.and_eq_true, within_iff, within_iff]
theorem rangeF_bad {o d : VT} {b : BoxT} (h : (badOD o d || !boxIn b) = true) : rangeF o d b = (⟨0, 0⟩, ⟨0, 0⟩, false, 21) := by unfold rangeF; rw [if_pos h]
theorem rangeF_ok {o d : VT} {b : BoxT} (h : (badOD o d || !boxIn b) = false) : rangeF o d b = match rangeR o d b with | none => (⟨0, 0⟩, ⟨0, 0⟩, false, 0) | some s => (s.1, s.2, true, 0) := by unfold rangeF; rw [if_neg (by rw [h]; decide)]
abbrev pL (o d : VT) (b : BoxT) : List PartT := [PartT.mk o.X d.X b.Lo.X b.Hi.X, PartT.mk o.Y d.Y b.Lo.Y b.Hi.Y, PartT.mk o.Z d.Z b.Lo.Z b.Hi.Z]
theorem parts_rng {o d : VT} {b : BoxT} (h1 : inSp 65536 o) (h2 : inSp 32768 d) (h3 : inSp 131072 b.Lo) (h4 : inSp 131072 b.Hi) {i : Int} (hi0 : 0 ≤ i) (hi1 : i < 3) :
    (-131072 ≤ (at_ (pL o d b) i).fromF ∧ (at_ (pL o d b) i).fromF ≤ 131072) ∧ (-131072 ≤ (at_ (pL o d b) i).step ∧ (at_ (pL o d b) i).step ≤ 131072) ∧ (-131072 ≤ (at_ (pL o d b) i).lo ∧ (at_ (pL o d b) i).lo ≤ 131072) ∧ (-131072 ≤ (at_ (pL o d b) i).hi ∧ (at_ (pL o d b) i).hi ≤ 131072) := by
  unfold inSp at *
  have : i = 0 ∨ i = 1 ∨ i = 2 := by omega
  rcases this with rfl | rfl | rfl <;> simp [at_] <;> omega
abbrev smF (f : FracT) : Prop := (-1048576 ≤ f.N ∧ f.N ≤ 1048576) ∧ -1048576 ≤ f.D ∧ f.D ≤ 1048576
theorem span_sm {p : PartT} (hp : (-131072 ≤ p.fromF ∧ p.fromF ≤ 131072) ∧ (-131072 ≤ p.step ∧ p.step ≤ 131072) ∧ (-131072 ≤ p.lo ∧ p.lo ≤ 131072) ∧ (-131072 ≤ p.hi ∧ p.hi ≤ 131072)) : smF (R_span p).1 ∧ smF (R_span p).2.1 := by
  unfold R_span
  repeat' split
  all_goals (simp only [smF]; omega)
theorem span_T {p : PartT} (h : (R_span p).2.2 = true) : Pos (R_span p).1 ∧ Up (R_span p).2.1 ∧ spanR p.fromF p.step p.lo p.hi = some ((R_span p).1, (R_span p).2.1) := by
  have e := span_eq p
  cases hs : spanR p.fromF p.step p.lo p.hi with
  | none => rw [hs] at e; rw [e] at h; cases h
  | some io =>
    rw [hs] at e
    have := span_up hs
    rw [e]; exact ⟨this.1, this.2, rfl⟩
theorem span_F {p : PartT} (h : (R_span p).2.2 = false) : spanR p.fromF p.step p.lo p.hi = none := by
  have e := span_eq p
  cases hs : spanR p.fromF p.step p.lo p.hi with
  | none => rfl
  | some io => rw [hs] at e; rw [e] at h; cases h
theorem fold_next {l : List PartT} {i : Int} {lo hi lo' hi' : FracT} {R : Option (FracT × FracT)} (hf : foldRng (l.drop i.toNat) (lo, hi) = R) (h0 : 0 ≤ i) (h1 : i < l.length) (hs : (R_span (at_ l i)).2.2 = true) (hp : Pos lo) (hu : Up hi)
    (e1 : lo' = if R_slab_less lo (R_span (at_ l i)).1 then (R_span (at_ l i)).1 else lo) (e2 : hi' = if R_slab_less (R_span (at_ l i)).2.1 hi then (R_span (at_ l i)).2.1 else hi) : foldRng (l.drop (i + 1).toNat) (lo', hi') = R ∧ Pos lo' ∧ Up hi' := by
  obtain ⟨g1, g2, g3⟩ := span_T hs
  rw [less_eq (pos_up hp) (pos_up g1)] at e1
  rw [less_eq g2 hu] at e2
  have e1' : lo' = mxF lo (R_span (at_ l i)).1 := e1
  have e2' : hi' = mnF (R_span (at_ l i)).2.1 hi := e2
  subst e1' e2'
  refine ⟨?_, max_pos hp g1, min_up g2 hu⟩
  rw [← hf, drop_at h0 h1]
  simp only [foldRng, stepRng, g3, Option.map_some, Option.bind_some]
theorem fold_stop {l : List PartT} {i : Int} {lo hi : FracT} {R : Option (FracT × FracT)} (hf : foldRng (l.drop i.toNat) (lo, hi) = R) (h0 : 0 ≤ i) (h1 : i < l.length) (hs : (R_span (at_ l i)).2.2 = false) : R = none := by
  rw [← hf, drop_at h0 h1]
  simp only [foldRng, stepRng, span_F hs, Option.map_none, Option.bind_none]
theorem fold_done {l : List PartT} {i : Int} {lo hi : FracT} {R : Option (FracT × FracT)} (hf : foldRng (l.drop i.toNat) (lo, hi) = R) (h1 : (l.length : Int) ≤ i) : R = some (lo, hi) := by
  rw [← hf, List.drop_eq_nil_of_le (by omega)]; rfl
theorem range_none {o d : VT} {b : BoxT} (h : foldRng (pL o d b) (⟨0, 1⟩, ⟨1, 0⟩) = none) : rangeR o d b = none := by
  unfold rangeR partsR; rw [h]; rfl
theorem range_some {o d : VT} {b : BoxT} {lo hi : FracT} (h : foldRng (pL o d b) (⟨0, 1⟩, ⟨1, 0⟩) = some (lo, hi)) (hp : Pos lo) (hu : Up hi) : rangeR o d b = if R_slab_less hi lo then none else some (lo, hi) := by
  rw [less_eq hu (pos_up hp)]
  unfold rangeR partsR; rw [h]; rfl
end Go.Proofs.B
namespace Go.Proofs.B
open Go Go.AH
set_option maxRecDepth 4000
set_option linter.unusedSimpArgs false
set_option linter.unusedVariables false
theorem c_Range (o d : VT) (b : BoxT) (ho : ranV d) : PC Try.prog 16 [.agg [.int .i64 o.X, .int .i64 o.Y, .int .i64 o.Z], .agg [.int .i64 d.X, .int .i64 d.Y, .int .i64 d.Z], .agg [.int .i64 b.Lo.X, .int .i64 b.Lo.Y, .int .i64 b.Lo.Z, .int .i64 b.Hi.X, .int .i64 b.Hi.Y, .int .i64 b.Hi.Z]] (.tup [.agg [.int .i64 (((rangeF o d b).1).N), .int .i64 (((rangeF o d b).1).D)], .agg [.int .i64 (((rangeF o d b).2.1).N), .int .i64 (((rangeF o d b).2.1).D)], .bool ((rangeF o d b).2.2.1), .int .i64 ((rangeF o d b).2.2.2)]) := by
 intro H0
 refine ACalls.of_body' (n := 109) rfl rfl rfl rfl ?_
 have m0 := Mono.refl H0
 refine AWP.seq ?_
 refine AWP.region (l := [0, 1, 2, 3, 4, 5, 6]) rfl ?_
 refine AOps.cons rfl rfl (AOp.box (.agg [.int .i64 o.X, .int .i64 o.Y, .int .i64 o.Z]) rfl rfl rfl ?_)
 intro i1 H2 n3 h4 k5
 have z6 := Mono.free m0 n3
 have m7 := Mono.new m0 n3 k5
 refine AOps.cons rfl rfl (AOp.box (.agg [.int .i64 d.X, .int .i64 d.Y, .int .i64 d.Z]) rfl rfl rfl ?_)
 intro i8 H9 n10 h11 k12
 have e13 := ne_new h4 n10
 have z14 := Mono.free m7 n10
 have h15 := keep k12 (ne_new h4 n10) h4
 have m16 := Mono.new m7 n10 k12
 refine AOps.cons rfl rfl (AOp.box (.agg [.int .i64 b.Lo.X, .int .i64 b.Lo.Y, .int .i64 b.Lo.Z, .int .i64 b.Hi.X, .int .i64 b.Hi.Y, .int .i64 b.Hi.Z]) rfl rfl rfl ?_)
 intro i17 H18 n19 h20 k21
 have e22 := ne_new h15 n19
 have e23 := ne_new h11 n19
 have z24 := Mono.free m16 n19
 have h25 := keep k21 (ne_new h15 n19) h15
 have h26 := keep k21 (ne_new h11 n19) h11
 have m27 := Mono.new m16 n19 k21
 refine AOps.cons rfl rfl (AOp.alloc rfl tz_46 ?_)
 intro i28 H29 n30 h31 k32
 have e33 := ne_new h25 n30
 have e34 := ne_new h26 n30
 have e35 := ne_new h20 n30
 have z36 := Mono.free m27 n30
 have h37 := keep k32 (ne_new h25 n30) h25
 have h38 := keep k32 (ne_new h26 n30) h26
 have h39 := keep k32 (ne_new h20 n30) h20
 have m40 := Mono.new m27 n30 k32
 refine AOps.cons rfl rfl (AOp.alloc rfl tz_46 ?_)
 intro i41 H42 n43 h44 k45
 have e46 := ne_new h37 n43
 have e47 := ne_new h38 n43
 have e48 := ne_new h39 n43
 have e49 := ne_new h31 n43
 have z50 := Mono.free m40 n43
 have h51 := keep k45 (ne_new h37 n43) h37
 have h52 := keep k45 (ne_new h38 n43) h38
 have h53 := keep k45 (ne_new h39 n43) h39
 have h54 := keep k45 (ne_new h31 n43) h31
 have m55 := Mono.new m40 n43 k45
 refine AOps.cons rfl rfl (AOp.assign (.bool false) rfl rfl ?_)
 refine AOps.cons rfl rfl (AOp.assign (.int .i64 0) rfl rfl ?_)
 refine AOps.nil ?_
 change AWP _ _ _ _ _ _
 refine AWP.seq ?_
 refine AWP.seq ?_
 refine AWP.frzP 3 h51 z6 rfl m55 fun H56 m57 k58 => ?_
 have h59 := (k58 _ (Ne.symm e13)).trans h52
 have h60 := (k58 _ (Ne.symm e22)).trans h53
 have h61 := (k58 _ (Ne.symm e33)).trans h54
 have h62 := (k58 _ (Ne.symm e46)).trans h44
 refine AWP.frzP 4 h59 z14 rfl m57 fun H63 m64 k65 => ?_
 have h66 := (k65 _ (Ne.symm e23)).trans h60
 have h67 := (k65 _ (Ne.symm e34)).trans h61
 have h68 := (k65 _ (Ne.symm e47)).trans h62
 refine AWP.frzP 5 h66 z24 rfl m64 fun H69 m70 k71 => ?_
 have h72 := (k71 _ (Ne.symm e35)).trans h67
 have h73 := (k71 _ (Ne.symm e48)).trans h68
 refine AWP.region (l := [0, 1, 2, 3, 4, 5, 6, 7, 8, 9, 10, 11, 12, 13, 14, 15, 16, 17, 18, 19, 20, 21, 22, 23, 24]) rfl ?_
 refine AOps.cons rfl rfl (AOp.loadF (.agg [.int .i64 d.X, .int .i64 d.Y, .int .i64 d.Z]) rfl rfl ty_24 rfl ?_)
 refine AOps.cons rfl rfl (AOp.build (cells := [.int .i64 0, .int .i64 0, .int .i64 0]) rfl tz_24 pl_24 rfl rfl ?_)
 refine AOps.cons rfl rfl (AOp.eqAggD rfl rfl rfl teq24 (kokV (v := d) ho) (kokV (v := (VT.mk 0 0 0)) (by refine ⟨?_, ?_, ?_⟩ <;> (unfold inR; constructor <;> decide))) (eV_iff d (VT.mk 0 0 0)) ?_)
 refine AOps.cons rfl rfl (AOp.move (.bool (decide (d = (VT.mk 0 0 0)))) rfl rfl ?_)
 by_cases b74 : d = (VT.mk 0 0 0)
 ·
  refine AOps.no rfl rfl rfl rfl rfl rfl rfl (ble_of (decide_eq_true b74) (by decide)) ?_
  refine AOps.no rfl rfl rfl rfl rfl rfl rfl (ble_of (decide_eq_true b74) (by decide)) ?_
  refine AOps.no rfl rfl rfl rfl rfl rfl rfl (ble_of (decide_eq_true b74) (by decide)) ?_
  refine AOps.cons rfl rfl (AOp.pickT (.bool true) rfl rfl (decide_eq_true b74) rfl ?_)
  refine AOps.cons rfl rfl (AOp.move (.bool true) rfl rfl ?_)
  refine AOps.no rfl rfl rfl rfl rfl rfl rfl (ble_of rfl (by decide)) ?_
  refine AOps.no rfl rfl rfl rfl rfl rfl rfl (ble_of rfl (by decide)) ?_
  refine AOps.no rfl rfl rfl rfl rfl rfl rfl (ble_of rfl (by decide)) ?_
  refine AOps.cons rfl rfl (AOp.pickT (.bool true) rfl rfl rfl rfl ?_)
  refine AOps.cons rfl rfl (AOp.move (.bool true) rfl rfl ?_)
  refine AOps.no rfl rfl rfl rfl rfl rfl rfl (ble_of rfl (by decide)) ?_
  refine AOps.no rfl rfl rfl rfl rfl rfl rfl (ble_of rfl (by decide)) ?_
  refine AOps.no rfl rfl rfl rfl rfl rfl rfl (ble_of rfl (by decide)) ?_
  refine AOps.no rfl rfl rfl rfl rfl rfl rfl (ble_of rfl (by decide)) ?_
  refine AOps.cons rfl rfl (AOp.pickT (.bool true) rfl rfl rfl rfl ?_)
  refine AOps.cons rfl rfl (AOp.move (.bool true) rfl rfl ?_)
  refine AOps.no rfl rfl rfl rfl rfl rfl rfl (ble_of rfl (by decide)) ?_
  refine AOps.no rfl rfl rfl rfl rfl rfl rfl (ble_of rfl (by decide)) ?_
  refine AOps.no rfl rfl rfl rfl rfl rfl rfl (ble_of rfl (by decide)) ?_
  refine AOps.no rfl rfl rfl rfl rfl rfl rfl (ble_of rfl (by decide)) ?_
  refine AOps.cons rfl rfl (AOp.pickT (.bool true) rfl rfl rfl rfl ?_)
  refine AOps.nil ?_
  change AWP _ _ _ _ _ _
  refine AWP.condT rfl rfl ?_
  refine AWP.seq ?_
  refine AWP.region (l := [0, 1, 2, 3, 4, 5]) rfl ?_
  refine AOps.cons rfl rfl (AOp.build (cells := [.int .i64 0, .int .i64 0]) rfl tz_46 pl_46 rfl rfl ?_)
  refine AOps.cons rfl rfl (AOp.build (cells := [.int .i64 0, .int .i64 0]) rfl tz_46 pl_46 rfl rfl ?_)
  refine AOps.cons rfl rfl (AOp.store' (cells' := [.int .i64 0, .int .i64 0]) (.agg [.int .i64 0, .int .i64 0]) rfl rfl ts_46 h72 rfl rfl rfl rfl ?_)
  intro H75 h76 k77
  have h79 := keep k77 (Ne.symm e49) h73
  have m80 := Mono.set m70 z36 k77
  refine AOps.cons rfl rfl (AOp.store' (cells' := [.int .i64 0, .int .i64 0]) (.agg [.int .i64 0, .int .i64 0]) rfl rfl ts_46 h79 rfl rfl rfl rfl ?_)
  intro H81 h82 k83
  have h85 := keep k83 e49 h76
  have m86 := Mono.set m80 z50 k83
  refine AOps.cons rfl rfl (AOp.assign (.bool false) rfl rfl ?_)
  refine AOps.cons rfl rfl (AOp.assign (.int .i64 21) rfl rfl ?_)
  refine AOps.nil ?_
  change AWP _ _ _ _ _ _
  refine AWP.ret ?_
  refine ⟨_, _, Ghost.refl, .inr rfl, _, Res.list rfl rfl (.cell (v := .agg [.int .i64 0, .int .i64 0]) rfl ty_46 h85 rfl (.cell (v := .agg [.int .i64 0, .int .i64 0]) rfl ty_46 h82 rfl (.tmp rfl (.tmp rfl (.nil))))), ?_, m86⟩
  exact congrArg AV.tup (lc (congrArg AV.agg (lc (congrArg (AV.int .i64) (show (0 : Int) = ((rangeF o d b).1).N from by rw [rangeF_bad (by unfold badOD boxIn; simp [b74])])) (lc (congrArg (AV.int .i64) (show (0 : Int) = ((rangeF o d b).1).D from by rw [rangeF_bad (by unfold badOD boxIn; simp [b74])])) rfl))) (lc (congrArg AV.agg (lc (congrArg (AV.int .i64) (show (0 : Int) = ((rangeF o d b).2.1).N from by rw [rangeF_bad (by unfold badOD boxIn; simp [b74])])) (lc (congrArg (AV.int .i64) (show (0 : Int) = ((rangeF o d b).2.1).D from by rw [rangeF_bad (by unfold badOD boxIn; simp [b74])])) rfl))) (lc (congrArg AV.bool (show (false : Bool) = (rangeF o d b).2.2.1 from by rw [rangeF_bad (by unfold badOD boxIn; simp [b74])])) (lc (congrArg (AV.int .i64) (show (21 : Int) = (rangeF o d b).2.2.2 from by rw [rangeF_bad (by unfold badOD boxIn; simp [b74])])) rfl))))
 ·
  refine AOps.yes rfl rfl rfl rfl rfl rfl rfl (decide_eq_false b74) (AOp.loadF (.agg [.int .i64 o.X, .int .i64 o.Y, .int .i64 o.Z]) rfl rfl ty_24 rfl ?_)
  refine AOps.yes rfl rfl rfl rfl rfl rfl rfl (decide_eq_false b74) (AOp.pcall («as» := [.agg [.int .i64 o.X, .int .i64 o.Y, .int .i64 o.Z], .int .i64 65536]) rfl rfl (rfl) tf_18 (c_vec_Within o 65536 (by omega)) ?_)
  intro H87 m88
  have h89 := m88 _ _ h72
  have h90 := m88 _ _ h73
  have m91 := m70.trans m88
  refine AOps.yes rfl rfl rfl rfl rfl rfl rfl (decide_eq_false b74) (AOp.not rfl rfl ?_)
  refine AOps.cons rfl rfl (AOp.pickF (.bool (!(R_vec_Within o 65536))) rfl rfl (decide_eq_false b74) rfl ?_)
  refine AOps.cons rfl rfl (AOp.move (.bool (!(R_vec_Within o 65536))) rfl rfl ?_)
  rcases Bool.eq_false_or_eq_true (R_vec_Within o 65536) with b92 | b92
  ·
   refine AOps.yes rfl rfl rfl rfl rfl rfl rfl (nb b92) (AOp.loadF (.agg [.int .i64 d.X, .int .i64 d.Y, .int .i64 d.Z]) rfl rfl ty_24 rfl ?_)
   refine AOps.yes rfl rfl rfl rfl rfl rfl rfl (nb b92) (AOp.pcall («as» := [.agg [.int .i64 d.X, .int .i64 d.Y, .int .i64 d.Z], .int .i64 32768]) rfl rfl (rfl) tf_18 (c_vec_Within d 32768 (by omega)) ?_)
   intro H93 m94
   have h95 := m94 _ _ h89
   have h96 := m94 _ _ h90
   have m97 := m91.trans m94
   refine AOps.yes rfl rfl rfl rfl rfl rfl rfl (nb b92) (AOp.not rfl rfl ?_)
   refine AOps.cons rfl rfl (AOp.pickF (.bool (!(R_vec_Within d 32768))) rfl rfl (nb b92) rfl ?_)
   refine AOps.cons rfl rfl (AOp.move (.bool (!(R_vec_Within d 32768))) rfl rfl ?_)
   rcases Bool.eq_false_or_eq_true (R_vec_Within d 32768) with b98 | b98
   ·
    refine AOps.yes rfl rfl rfl rfl rfl rfl rfl (nb b98) (AOp.fieldAddrF rfl rfl fl_37_0 ?_)
    refine AOps.yes rfl rfl rfl rfl rfl rfl rfl (nb b98) (AOp.loadF (.agg [.int .i64 b.Lo.X, .int .i64 b.Lo.Y, .int .i64 b.Lo.Z]) rfl rfl ty_24 rfl ?_)
    refine AOps.yes rfl rfl rfl rfl rfl rfl rfl (nb b98) (AOp.pcall («as» := [.agg [.int .i64 b.Lo.X, .int .i64 b.Lo.Y, .int .i64 b.Lo.Z], .int .i64 131072]) rfl rfl (rfl) tf_18 (c_vec_Within b.Lo 131072 (by omega)) ?_)
    intro H99 m100
    have h101 := m100 _ _ h95
    have h102 := m100 _ _ h96
    have m103 := m97.trans m100
    refine AOps.yes rfl rfl rfl rfl rfl rfl rfl (nb b98) (AOp.not rfl rfl ?_)
    refine AOps.cons rfl rfl (AOp.pickF (.bool (!(R_vec_Within b.Lo 131072))) rfl rfl (nb b98) rfl ?_)
    refine AOps.cons rfl rfl (AOp.move (.bool (!(R_vec_Within b.Lo 131072))) rfl rfl ?_)
    rcases Bool.eq_false_or_eq_true (R_vec_Within b.Lo 131072) with b104 | b104
    ·
     refine AOps.yes rfl rfl rfl rfl rfl rfl rfl (nb b104) (AOp.fieldAddrF rfl rfl fl_37_1 ?_)
     refine AOps.yes rfl rfl rfl rfl rfl rfl rfl (nb b104) (AOp.loadF (.agg [.int .i64 b.Hi.X, .int .i64 b.Hi.Y, .int .i64 b.Hi.Z]) rfl rfl ty_24 rfl ?_)
     refine AOps.yes rfl rfl rfl rfl rfl rfl rfl (nb b104) (AOp.pcall («as» := [.agg [.int .i64 b.Hi.X, .int .i64 b.Hi.Y, .int .i64 b.Hi.Z], .int .i64 131072]) rfl rfl (rfl) tf_18 (c_vec_Within b.Hi 131072 (by omega)) ?_)
     intro H105 m106
     have h107 := m106 _ _ h101
     have h108 := m106 _ _ h102
     have m109 := m103.trans m106
     refine AOps.yes rfl rfl rfl rfl rfl rfl rfl (nb b104) (AOp.not rfl rfl ?_)
     refine AOps.cons rfl rfl (AOp.pickF (.bool (!(R_vec_Within b.Hi 131072))) rfl rfl (nb b104) rfl ?_)
     refine AOps.nil ?_
     change AWP _ _ _ _ _ _
     rcases Bool.eq_false_or_eq_true (R_vec_Within b.Hi 131072) with b110 | b110
     ·
      refine AWP.condF rfl (nb b110) ?_
      refine AWP.skip ?_
      change AWP _ _ _ _ _ _
      refine AWP.seq ?_
      refine AWP.region (l := [0, 1, 2, 3, 4, 5]) rfl ?_
      refine AOps.cons rfl rfl (AOp.build (cells := [.int .i64 0, .int .i64 1]) rfl tz_46 pl_46 rfl rfl ?_)
      refine AOps.cons rfl rfl (AOp.build (cells := [.int .i64 1, .int .i64 0]) rfl tz_46 pl_46 rfl rfl ?_)
      refine AOps.cons rfl rfl (AOp.alloc rfl tz_46 ?_)
      intro i111 H112 n113 h114 k115
      have e116 := ne_new h107 n113
      have e117 := ne_new h108 n113
      have z118 := Mono.free m109 n113
      have h119 := keep k115 (ne_new h107 n113) h107
      have h120 := keep k115 (ne_new h108 n113) h108
      have m121 := Mono.new m109 n113 k115
      refine AOps.cons rfl rfl (AOp.alloc rfl tz_46 ?_)
      intro i122 H123 n124 h125 k126
      have e127 := ne_new h119 n124
      have e128 := ne_new h120 n124
      have e129 := ne_new h114 n124
      have z130 := Mono.free m121 n124
      have h131 := keep k126 (ne_new h119 n124) h119
      have h132 := keep k126 (ne_new h120 n124) h120
      have h133 := keep k126 (ne_new h114 n124) h114
      have m134 := Mono.new m121 n124 k126
      refine AOps.cons rfl rfl (AOp.store' (cells' := [.int .i64 0, .int .i64 1]) (.agg [.int .i64 0, .int .i64 1]) rfl rfl ts_46 h133 rfl rfl rfl rfl ?_)
      intro H135 h136 k137
      have h138 := keep k137 e116 h131
      have h139 := keep k137 e117 h132
      have h141 := keep k137 (Ne.symm e129) h125
      have m142 := Mono.set m134 z118 k137
      refine AOps.cons rfl rfl (AOp.store' (cells' := [.int .i64 1, .int .i64 0]) (.agg [.int .i64 1, .int .i64 0]) rfl rfl ts_46 h141 rfl rfl rfl rfl ?_)
      intro H143 h144 k145
      have h146 := keep k145 e127 h138
      have h147 := keep k145 e128 h139
      have h149 := keep k145 e129 h136
      have m150 := Mono.set m142 z130 k145
      refine AOps.nil ?_
      change AWP _ _ _ _ _ _
      refine AWP.seq ?_
      refine AWP.seq ?_
      have g1 := within_iff.1 b92
      have g2 := within_iff.1 b98
      have g3 := within_iff.1 b104
      have g4 := within_iff.1 b110
      skip
      refine AWP.region (l := [0, 1, 2, 3, 4, 5, 6, 7, 8, 9, 10, 11, 12, 13, 14, 15, 16, 17, 18, 19, 20, 21, 22, 23, 24, 25, 26, 27, 28, 29, 30, 31, 32, 33, 34]) rfl ?_
      refine AOps.cons rfl rfl (AOp.fieldAddrF rfl rfl fl_24_0 ?_)
      refine AOps.cons rfl rfl (AOp.loadF (.int .i64 o.X) rfl rfl ty_3 rfl ?_)
      refine AOps.cons rfl rfl (AOp.fieldAddrF rfl rfl fl_24_0 ?_)
      refine AOps.cons rfl rfl (AOp.loadF (.int .i64 d.X) rfl rfl ty_3 rfl ?_)
      refine AOps.cons rfl rfl (AOp.fieldAddrF rfl rfl fl_37_0 ?_)
      refine AOps.cons rfl rfl (AOp.fieldAddrF rfl rfl fl_24_0 ?_)
      refine AOps.cons rfl rfl (AOp.loadF (.int .i64 b.Lo.X) rfl rfl ty_3 rfl ?_)
      refine AOps.cons rfl rfl (AOp.fieldAddrF rfl rfl fl_37_1 ?_)
      refine AOps.cons rfl rfl (AOp.fieldAddrF rfl rfl fl_24_0 ?_)
      refine AOps.cons rfl rfl (AOp.loadF (.int .i64 b.Hi.X) rfl rfl ty_3 rfl ?_)
      refine AOps.cons rfl rfl (AOp.build (cells := [.int .i64 o.X, .int .i64 d.X, .int .i64 b.Lo.X, .int .i64 b.Hi.X]) rfl tz_61 pl_61 rfl rfl ?_)
      refine AOps.cons rfl rfl (AOp.fieldAddrF rfl rfl fl_24_1 ?_)
      refine AOps.cons rfl rfl (AOp.loadF (.int .i64 o.Y) rfl rfl ty_3 rfl ?_)
      refine AOps.cons rfl rfl (AOp.fieldAddrF rfl rfl fl_24_1 ?_)
      refine AOps.cons rfl rfl (AOp.loadF (.int .i64 d.Y) rfl rfl ty_3 rfl ?_)
      refine AOps.cons rfl rfl (AOp.fieldAddrF rfl rfl fl_37_0 ?_)
      refine AOps.cons rfl rfl (AOp.fieldAddrF rfl rfl fl_24_1 ?_)
      refine AOps.cons rfl rfl (AOp.loadF (.int .i64 b.Lo.Y) rfl rfl ty_3 rfl ?_)
      refine AOps.cons rfl rfl (AOp.fieldAddrF rfl rfl fl_37_1 ?_)
      refine AOps.cons rfl rfl (AOp.fieldAddrF rfl rfl fl_24_1 ?_)
      refine AOps.cons rfl rfl (AOp.loadF (.int .i64 b.Hi.Y) rfl rfl ty_3 rfl ?_)
      refine AOps.cons rfl rfl (AOp.build (cells := [.int .i64 o.Y, .int .i64 d.Y, .int .i64 b.Lo.Y, .int .i64 b.Hi.Y]) rfl tz_61 pl_61 rfl rfl ?_)
      refine AOps.cons rfl rfl (AOp.fieldAddrF rfl rfl fl_24_2 ?_)
      refine AOps.cons rfl rfl (AOp.loadF (.int .i64 o.Z) rfl rfl ty_3 rfl ?_)
      refine AOps.cons rfl rfl (AOp.fieldAddrF rfl rfl fl_24_2 ?_)
      refine AOps.cons rfl rfl (AOp.loadF (.int .i64 d.Z) rfl rfl ty_3 rfl ?_)
      refine AOps.cons rfl rfl (AOp.fieldAddrF rfl rfl fl_37_0 ?_)
      refine AOps.cons rfl rfl (AOp.fieldAddrF rfl rfl fl_24_2 ?_)
      refine AOps.cons rfl rfl (AOp.loadF (.int .i64 b.Lo.Z) rfl rfl ty_3 rfl ?_)
      refine AOps.cons rfl rfl (AOp.fieldAddrF rfl rfl fl_37_1 ?_)
      refine AOps.cons rfl rfl (AOp.fieldAddrF rfl rfl fl_24_2 ?_)
      refine AOps.cons rfl rfl (AOp.loadF (.int .i64 b.Hi.Z) rfl rfl ty_3 rfl ?_)
      refine AOps.cons rfl rfl (AOp.build (cells := [.int .i64 o.Z, .int .i64 d.Z, .int .i64 b.Lo.Z, .int .i64 b.Hi.Z]) rfl tz_61 pl_61 rfl rfl ?_)
      refine AOps.cons rfl rfl (AOp.build (cells := [.int .i64 o.X, .int .i64 d.X, .int .i64 b.Lo.X, .int .i64 b.Hi.X, .int .i64 o.Y, .int .i64 d.Y, .int .i64 b.Lo.Y, .int .i64 b.Hi.Y, .int .i64 o.Z, .int .i64 d.Z, .int .i64 b.Lo.Z, .int .i64 b.Hi.Z]) rfl tz_62 pl_62 rfl rfl ?_)
      refine AOps.cons rfl rfl (AOp.move (.int .i64 0) rfl rfl ?_)
      refine AOps.nil ?_
      change AWP _ _ _ _ _ _
      refine AWP.block ?_
      refine AWP.loop (fun q151 fq Hq => ∃ (i : Int) (lo : FracT) (hi : FracT), q151 = ((3 : Int) - i).toNat ∧ fq 80 = .int .i64 i ∧ fq 6 = .ptr i28 0 0 ∧ fq 7 = .ptr i41 0 0 ∧ fq 10 = .ptr i111 0 0 ∧ fq 11 = .ptr i122 0 0 ∧ fq 79 = .agg [.int .i64 o.X, .int .i64 d.X, .int .i64 b.Lo.X, .int .i64 b.Hi.X, .int .i64 o.Y, .int .i64 d.Y, .int .i64 b.Lo.Y, .int .i64 b.Hi.Y, .int .i64 o.Z, .int .i64 d.Z, .int .i64 b.Lo.Z, .int .i64 b.Hi.Z] ∧ Hq i28 = some (.row 0 ([.int .i64 0, .int .i64 0])) ∧ Hq i41 = some (.row 0 ([.int .i64 0, .int .i64 0])) ∧ Hq i111 = some (.row 0 ([.int .i64 lo.N, .int .i64 lo.D])) ∧ Hq i122 = some (.row 0 ([.int .i64 hi.N, .int .i64 hi.D])) ∧ Mono H0 Hq ∧ (0 ≤ i) ∧ (i ≤ 3) ∧ (foldRng ((([PartT.mk o.X d.X b.Lo.X b.Hi.X, PartT.mk o.Y d.Y b.Lo.Y b.Hi.Y, PartT.mk o.Z d.Z b.Lo.Z b.Hi.Z] : List PartT)).drop i.toNat) (lo, hi) = foldRng ([PartT.mk o.X d.X b.Lo.X b.Hi.X, PartT.mk o.Y d.Y b.Lo.Y b.Hi.Y, PartT.mk o.Z d.Z b.Lo.Z b.Hi.Z] : List PartT) (⟨0, 1⟩, ⟨1, 0⟩)) ∧ (Pos lo) ∧ (Up hi) ∧ ((-1048576 ≤ lo.N ∧ lo.N ≤ 1048576) ∧ -1048576 ≤ lo.D ∧ lo.D ≤ 1048576) ∧ ((-1048576 ≤ hi.N ∧ hi.N ≤ 1048576) ∧ -1048576 ≤ hi.D ∧ hi.D ≤ 1048576)) (k := ((3 : Int) - 0).toNat) ?_ ?_
      ·
       exact ⟨0, (FracT.mk 0 1), (FracT.mk 1 0), rfl, rfl, rfl, rfl, rfl, rfl, rfl, h146, h147, h149, h144, m150, by omega, by omega, by rfl, by simp [Pos], by simp [Up], by simp, by simp⟩
      ·
       rintro _ f153 H152 ⟨i, lo, hi, rfl, s154, s155, s156, s157, s158, s159, h160, h161, h162, h163, m164, hi0, hi1, hf, hp, hu, hls, hhs⟩
       refine AWP.seq ?_
       refine AWP.region (l := [0]) rfl ?_
       refine AOps.cons rfl rfl (AOp.bin (.bool (decide (i < 3))) rfl s154 rfl rfl ?_)
       refine AOps.nil ?_
       change AWP _ _ _ _ _ _
       refine AWP.seq ?_
       by_cases b165 : i < 3
       ·
        refine AWP.condT rfl (decide_eq_true b165) ?_
        refine AWP.skip ?_
        change AWP _ _ _ _ _ _
        refine AWP.seq ?_
        refine AWP.block ?_
        refine AWP.seq ?_
        have hpr := parts_rng g1 g2 g3 g4 hi0 (by omega)
        have hsp := span_sm hpr
        dsimp only [pL] at hpr
        dsimp only [pL, smF] at hsp
        refine AWP.region (l := [0, 1, 2]) rfl ?_
        refine AOps.cons rfl rfl (AOp.indexArr (.agg [.int .i64 ((at_ ([(PartT.mk o.X d.X b.Lo.X b.Hi.X), (PartT.mk o.Y d.Y b.Lo.Y b.Hi.Y), (PartT.mk o.Z d.Z b.Lo.Z b.Hi.Z)] : List PartT) i).fromF), .int .i64 ((at_ ([(PartT.mk o.X d.X b.Lo.X b.Hi.X), (PartT.mk o.Y d.Y b.Lo.Y b.Hi.Y), (PartT.mk o.Z d.Z b.Lo.Z b.Hi.Z)] : List PartT) i).step), .int .i64 ((at_ ([(PartT.mk o.X d.X b.Lo.X b.Hi.X), (PartT.mk o.Y d.Y b.Lo.Y b.Hi.Y), (PartT.mk o.Z d.Z b.Lo.Z b.Hi.Z)] : List PartT) i).lo), .int .i64 ((at_ ([(PartT.mk o.X d.X b.Lo.X b.Hi.X), (PartT.mk o.Y d.Y b.Lo.Y b.Hi.Y), (PartT.mk o.Z d.Z b.Lo.Z b.Hi.Z)] : List PartT) i).hi)]) rfl s159 s154 ar_62 (by omega) (by omega) (ldM ePart_len (i := i) (xs := ([(PartT.mk o.X d.X b.Lo.X b.Hi.X), (PartT.mk o.Y d.Y b.Lo.Y b.Hi.Y), (PartT.mk o.Z d.Z b.Lo.Z b.Hi.Z)] : List PartT)) (by omega) (by first | (have := (rfl : ([(PartT.mk o.X d.X b.Lo.X b.Hi.X), (PartT.mk o.Y d.Y b.Lo.Y b.Hi.Y), (PartT.mk o.Z d.Z b.Lo.Z b.Hi.Z)] : List PartT).length = 3); omega) | (simp; omega))) ?_)
        refine AOps.cons rfl rfl (AOp.alloc rfl tz_61 ?_)
        intro i166 H167 n168 h169 k170
        have e171 := ne_new h160 n168
        have e172 := ne_new h161 n168
        have e173 := ne_new h162 n168
        have e174 := ne_new h163 n168
        have z175 := Mono.free m164 n168
        have h176 := keep k170 (ne_new h160 n168) h160
        have h177 := keep k170 (ne_new h161 n168) h161
        have h178 := keep k170 (ne_new h162 n168) h162
        have h179 := keep k170 (ne_new h163 n168) h163
        have m180 := Mono.new m164 n168 k170
        refine AOps.cons rfl rfl (AOp.store' (cells' := [.int .i64 ((at_ ([(PartT.mk o.X d.X b.Lo.X b.Hi.X), (PartT.mk o.Y d.Y b.Lo.Y b.Hi.Y), (PartT.mk o.Z d.Z b.Lo.Z b.Hi.Z)] : List PartT) i).fromF), .int .i64 ((at_ ([(PartT.mk o.X d.X b.Lo.X b.Hi.X), (PartT.mk o.Y d.Y b.Lo.Y b.Hi.Y), (PartT.mk o.Z d.Z b.Lo.Z b.Hi.Z)] : List PartT) i).step), .int .i64 ((at_ ([(PartT.mk o.X d.X b.Lo.X b.Hi.X), (PartT.mk o.Y d.Y b.Lo.Y b.Hi.Y), (PartT.mk o.Z d.Z b.Lo.Z b.Hi.Z)] : List PartT) i).lo), .int .i64 ((at_ ([(PartT.mk o.X d.X b.Lo.X b.Hi.X), (PartT.mk o.Y d.Y b.Lo.Y b.Hi.Y), (PartT.mk o.Z d.Z b.Lo.Z b.Hi.Z)] : List PartT) i).hi)]) (.agg [.int .i64 ((at_ ([(PartT.mk o.X d.X b.Lo.X b.Hi.X), (PartT.mk o.Y d.Y b.Lo.Y b.Hi.Y), (PartT.mk o.Z d.Z b.Lo.Z b.Hi.Z)] : List PartT) i).fromF), .int .i64 ((at_ ([(PartT.mk o.X d.X b.Lo.X b.Hi.X), (PartT.mk o.Y d.Y b.Lo.Y b.Hi.Y), (PartT.mk o.Z d.Z b.Lo.Z b.Hi.Z)] : List PartT) i).step), .int .i64 ((at_ ([(PartT.mk o.X d.X b.Lo.X b.Hi.X), (PartT.mk o.Y d.Y b.Lo.Y b.Hi.Y), (PartT.mk o.Z d.Z b.Lo.Z b.Hi.Z)] : List PartT) i).lo), .int .i64 ((at_ ([(PartT.mk o.X d.X b.Lo.X b.Hi.X), (PartT.mk o.Y d.Y b.Lo.Y b.Hi.Y), (PartT.mk o.Z d.Z b.Lo.Z b.Hi.Z)] : List PartT) i).hi)]) rfl rfl ts_61 h169 rfl rfl rfl rfl ?_)
        intro H181 h182 k183
        have h184 := keep k183 e171 h176
        have h185 := keep k183 e172 h177
        have h186 := keep k183 e173 h178
        have h187 := keep k183 e174 h179
        have m189 := Mono.set m180 z175 k183
        refine AOps.nil ?_
        change AWP _ _ _ _ _ _
        refine AWP.seq ?_
        refine AWP.frzP 13 h182 z175 rfl m189 fun H190 m191 k192 => ?_
        have h193 := (k192 _ e171).trans h184
        have h194 := (k192 _ e172).trans h185
        have h195 := (k192 _ e173).trans h186
        have h196 := (k192 _ e174).trans h187
        refine AWP.region (l := [0, 1, 2, 3, 4, 5, 6, 7, 8, 9, 10]) rfl ?_
        refine AOps.cons rfl rfl (AOp.loadF (.agg [.int .i64 ((at_ ([(PartT.mk o.X d.X b.Lo.X b.Hi.X), (PartT.mk o.Y d.Y b.Lo.Y b.Hi.Y), (PartT.mk o.Z d.Z b.Lo.Z b.Hi.Z)] : List PartT) i).fromF), .int .i64 ((at_ ([(PartT.mk o.X d.X b.Lo.X b.Hi.X), (PartT.mk o.Y d.Y b.Lo.Y b.Hi.Y), (PartT.mk o.Z d.Z b.Lo.Z b.Hi.Z)] : List PartT) i).step), .int .i64 ((at_ ([(PartT.mk o.X d.X b.Lo.X b.Hi.X), (PartT.mk o.Y d.Y b.Lo.Y b.Hi.Y), (PartT.mk o.Z d.Z b.Lo.Z b.Hi.Z)] : List PartT) i).lo), .int .i64 ((at_ ([(PartT.mk o.X d.X b.Lo.X b.Hi.X), (PartT.mk o.Y d.Y b.Lo.Y b.Hi.Y), (PartT.mk o.Z d.Z b.Lo.Z b.Hi.Z)] : List PartT) i).hi)]) rfl rfl ty_61 rfl ?_)
        refine AOps.cons rfl rfl (AOp.pcall («as» := [.agg [.int .i64 ((at_ ([(PartT.mk o.X d.X b.Lo.X b.Hi.X), (PartT.mk o.Y d.Y b.Lo.Y b.Hi.Y), (PartT.mk o.Z d.Z b.Lo.Z b.Hi.Z)] : List PartT) i).fromF), .int .i64 ((at_ ([(PartT.mk o.X d.X b.Lo.X b.Hi.X), (PartT.mk o.Y d.Y b.Lo.Y b.Hi.Y), (PartT.mk o.Z d.Z b.Lo.Z b.Hi.Z)] : List PartT) i).step), .int .i64 ((at_ ([(PartT.mk o.X d.X b.Lo.X b.Hi.X), (PartT.mk o.Y d.Y b.Lo.Y b.Hi.Y), (PartT.mk o.Z d.Z b.Lo.Z b.Hi.Z)] : List PartT) i).lo), .int .i64 ((at_ ([(PartT.mk o.X d.X b.Lo.X b.Hi.X), (PartT.mk o.Y d.Y b.Lo.Y b.Hi.Y), (PartT.mk o.Z d.Z b.Lo.Z b.Hi.Z)] : List PartT) i).hi)]]) rfl rfl (rfl) tf_25 (c_span (at_ ([(PartT.mk o.X d.X b.Lo.X b.Hi.X), (PartT.mk o.Y d.Y b.Lo.Y b.Hi.Y), (PartT.mk o.Z d.Z b.Lo.Z b.Hi.Z)] : List PartT) i) (by first | omega | assumption | (constructor <;> omega) | simp)) ?_)
        intro H197 m198
        have h199 := m198 _ _ h193
        have h200 := m198 _ _ h194
        have h201 := m198 _ _ h195
        have h202 := m198 _ _ h196
        have m203 := m191.trans m198
        refine AOps.cons rfl rfl (AOp.move (.tup [.agg [.int .i64 (((R_span (at_ ([(PartT.mk o.X d.X b.Lo.X b.Hi.X), (PartT.mk o.Y d.Y b.Lo.Y b.Hi.Y), (PartT.mk o.Z d.Z b.Lo.Z b.Hi.Z)] : List PartT) i)).1).N), .int .i64 (((R_span (at_ ([(PartT.mk o.X d.X b.Lo.X b.Hi.X), (PartT.mk o.Y d.Y b.Lo.Y b.Hi.Y), (PartT.mk o.Z d.Z b.Lo.Z b.Hi.Z)] : List PartT) i)).1).D)], .agg [.int .i64 (((R_span (at_ ([(PartT.mk o.X d.X b.Lo.X b.Hi.X), (PartT.mk o.Y d.Y b.Lo.Y b.Hi.Y), (PartT.mk o.Z d.Z b.Lo.Z b.Hi.Z)] : List PartT) i)).2.1).N), .int .i64 (((R_span (at_ ([(PartT.mk o.X d.X b.Lo.X b.Hi.X), (PartT.mk o.Y d.Y b.Lo.Y b.Hi.Y), (PartT.mk o.Z d.Z b.Lo.Z b.Hi.Z)] : List PartT) i)).2.1).D)], .bool ((R_span (at_ ([(PartT.mk o.X d.X b.Lo.X b.Hi.X), (PartT.mk o.Y d.Y b.Lo.Y b.Hi.Y), (PartT.mk o.Z d.Z b.Lo.Z b.Hi.Z)] : List PartT) i)).2.2)]) rfl rfl ?_)
        refine AOps.cons rfl rfl (AOp.extract (.agg [.int .i64 (((R_span (at_ ([(PartT.mk o.X d.X b.Lo.X b.Hi.X), (PartT.mk o.Y d.Y b.Lo.Y b.Hi.Y), (PartT.mk o.Z d.Z b.Lo.Z b.Hi.Z)] : List PartT) i)).1).N), .int .i64 (((R_span (at_ ([(PartT.mk o.X d.X b.Lo.X b.Hi.X), (PartT.mk o.Y d.Y b.Lo.Y b.Hi.Y), (PartT.mk o.Z d.Z b.Lo.Z b.Hi.Z)] : List PartT) i)).1).D)]) rfl rfl rfl ?_)
        refine AOps.cons rfl rfl (AOp.extract (.agg [.int .i64 (((R_span (at_ ([(PartT.mk o.X d.X b.Lo.X b.Hi.X), (PartT.mk o.Y d.Y b.Lo.Y b.Hi.Y), (PartT.mk o.Z d.Z b.Lo.Z b.Hi.Z)] : List PartT) i)).2.1).N), .int .i64 (((R_span (at_ ([(PartT.mk o.X d.X b.Lo.X b.Hi.X), (PartT.mk o.Y d.Y b.Lo.Y b.Hi.Y), (PartT.mk o.Z d.Z b.Lo.Z b.Hi.Z)] : List PartT) i)).2.1).D)]) rfl rfl rfl ?_)
        refine AOps.cons rfl rfl (AOp.extract (.bool ((R_span (at_ ([(PartT.mk o.X d.X b.Lo.X b.Hi.X), (PartT.mk o.Y d.Y b.Lo.Y b.Hi.Y), (PartT.mk o.Z d.Z b.Lo.Z b.Hi.Z)] : List PartT) i)).2.2)) rfl rfl rfl ?_)
        refine AOps.cons rfl rfl (AOp.alloc rfl tz_46 ?_)
        intro i204 H205 n206 h207 k208
        have e209 := ne_new h199 n206
        have e210 := ne_new h200 n206
        have e211 := ne_new h201 n206
        have e212 := ne_new h202 n206
        have z213 := Mono.free m203 n206
        have h214 := keep k208 (ne_new h199 n206) h199
        have h215 := keep k208 (ne_new h200 n206) h200
        have h216 := keep k208 (ne_new h201 n206) h201
        have h217 := keep k208 (ne_new h202 n206) h202
        have m218 := Mono.new m203 n206 k208
        refine AOps.cons rfl rfl (AOp.alloc rfl tz_46 ?_)
        intro i219 H220 n221 h222 k223
        have e224 := ne_new h214 n221
        have e225 := ne_new h215 n221
        have e226 := ne_new h216 n221
        have e227 := ne_new h217 n221
        have e228 := ne_new h207 n221
        have z229 := Mono.free m218 n221
        have h230 := keep k223 (ne_new h214 n221) h214
        have h231 := keep k223 (ne_new h215 n221) h215
        have h232 := keep k223 (ne_new h216 n221) h216
        have h233 := keep k223 (ne_new h217 n221) h217
        have h234 := keep k223 (ne_new h207 n221) h207
        have m235 := Mono.new m218 n221 k223
        refine AOps.cons rfl rfl (AOp.store' (cells' := [.int .i64 (((R_span (at_ ([(PartT.mk o.X d.X b.Lo.X b.Hi.X), (PartT.mk o.Y d.Y b.Lo.Y b.Hi.Y), (PartT.mk o.Z d.Z b.Lo.Z b.Hi.Z)] : List PartT) i)).1).N), .int .i64 (((R_span (at_ ([(PartT.mk o.X d.X b.Lo.X b.Hi.X), (PartT.mk o.Y d.Y b.Lo.Y b.Hi.Y), (PartT.mk o.Z d.Z b.Lo.Z b.Hi.Z)] : List PartT) i)).1).D)]) (.agg [.int .i64 (((R_span (at_ ([(PartT.mk o.X d.X b.Lo.X b.Hi.X), (PartT.mk o.Y d.Y b.Lo.Y b.Hi.Y), (PartT.mk o.Z d.Z b.Lo.Z b.Hi.Z)] : List PartT) i)).1).N), .int .i64 (((R_span (at_ ([(PartT.mk o.X d.X b.Lo.X b.Hi.X), (PartT.mk o.Y d.Y b.Lo.Y b.Hi.Y), (PartT.mk o.Z d.Z b.Lo.Z b.Hi.Z)] : List PartT) i)).1).D)]) rfl rfl ts_46 h234 rfl rfl rfl rfl ?_)
        intro H236 h237 k238
        have h239 := keep k238 e209 h230
        have h240 := keep k238 e210 h231
        have h241 := keep k238 e211 h232
        have h242 := keep k238 e212 h233
        have h244 := keep k238 (Ne.symm e228) h222
        have m245 := Mono.set m235 z213 k238
        refine AOps.cons rfl rfl (AOp.store' (cells' := [.int .i64 (((R_span (at_ ([(PartT.mk o.X d.X b.Lo.X b.Hi.X), (PartT.mk o.Y d.Y b.Lo.Y b.Hi.Y), (PartT.mk o.Z d.Z b.Lo.Z b.Hi.Z)] : List PartT) i)).2.1).N), .int .i64 (((R_span (at_ ([(PartT.mk o.X d.X b.Lo.X b.Hi.X), (PartT.mk o.Y d.Y b.Lo.Y b.Hi.Y), (PartT.mk o.Z d.Z b.Lo.Z b.Hi.Z)] : List PartT) i)).2.1).D)]) (.agg [.int .i64 (((R_span (at_ ([(PartT.mk o.X d.X b.Lo.X b.Hi.X), (PartT.mk o.Y d.Y b.Lo.Y b.Hi.Y), (PartT.mk o.Z d.Z b.Lo.Z b.Hi.Z)] : List PartT) i)).2.1).N), .int .i64 (((R_span (at_ ([(PartT.mk o.X d.X b.Lo.X b.Hi.X), (PartT.mk o.Y d.Y b.Lo.Y b.Hi.Y), (PartT.mk o.Z d.Z b.Lo.Z b.Hi.Z)] : List PartT) i)).2.1).D)]) rfl rfl ts_46 h244 rfl rfl rfl rfl ?_)
        intro H246 h247 k248
        have h249 := keep k248 e224 h239
        have h250 := keep k248 e225 h240
        have h251 := keep k248 e226 h241
        have h252 := keep k248 e227 h242
        have h254 := keep k248 e228 h237
        have m255 := Mono.set m245 z229 k248
        refine AOps.cons rfl rfl (AOp.assign (.bool ((R_span (at_ ([(PartT.mk o.X d.X b.Lo.X b.Hi.X), (PartT.mk o.Y d.Y b.Lo.Y b.Hi.Y), (PartT.mk o.Z d.Z b.Lo.Z b.Hi.Z)] : List PartT) i)).2.2)) rfl rfl ?_)
        refine AOps.nil ?_
        change AWP _ _ _ _ _ _
        refine AWP.seq ?_
        refine AWP.seq ?_
        refine AWP.frzP 14 h254 z213 rfl m255 fun H256 m257 k258 => ?_
        have h259 := (k258 _ e209).trans h249
        have h260 := (k258 _ e210).trans h250
        have h261 := (k258 _ e211).trans h251
        have h262 := (k258 _ e212).trans h252
        have h263 := (k258 _ (Ne.symm e228)).trans h247
        refine AWP.frzP 15 h263 z229 rfl m257 fun H264 m265 k266 => ?_
        have h267 := (k266 _ e224).trans h259
        have h268 := (k266 _ e225).trans h260
        have h269 := (k266 _ e226).trans h261
        have h270 := (k266 _ e227).trans h262
        refine AWP.region (l := [0, 1]) rfl ?_
        refine AOps.cons rfl rfl (AOp.move (.bool ((R_span (at_ ([(PartT.mk o.X d.X b.Lo.X b.Hi.X), (PartT.mk o.Y d.Y b.Lo.Y b.Hi.Y), (PartT.mk o.Z d.Z b.Lo.Z b.Hi.Z)] : List PartT) i)).2.2)) rfl rfl ?_)
        refine AOps.cons rfl rfl (AOp.not rfl rfl ?_)
        refine AOps.nil ?_
        change AWP _ _ _ _ _ _
        rcases Bool.eq_false_or_eq_true ((R_span (at_ ([(PartT.mk o.X d.X b.Lo.X b.Hi.X), (PartT.mk o.Y d.Y b.Lo.Y b.Hi.Y), (PartT.mk o.Z d.Z b.Lo.Z b.Hi.Z)] : List PartT) i)).2.2) with b271 | b271
        ·
         refine AWP.condF rfl (nb b271) ?_
         refine AWP.skip ?_
         change AWP _ _ _ _ _ _
         refine AWP.seq ?_
         refine AWP.seq ?_
         refine AWP.region (l := [0, 1, 2]) rfl ?_
         refine AOps.cons rfl rfl (AOp.load (.agg [.int .i64 lo.N, .int .i64 lo.D]) rfl s157 ty_46 h269 rfl ?_)
         refine AOps.cons rfl rfl (AOp.loadF (.agg [.int .i64 (((R_span (at_ ([(PartT.mk o.X d.X b.Lo.X b.Hi.X), (PartT.mk o.Y d.Y b.Lo.Y b.Hi.Y), (PartT.mk o.Z d.Z b.Lo.Z b.Hi.Z)] : List PartT) i)).1).N), .int .i64 (((R_span (at_ ([(PartT.mk o.X d.X b.Lo.X b.Hi.X), (PartT.mk o.Y d.Y b.Lo.Y b.Hi.Y), (PartT.mk o.Z d.Z b.Lo.Z b.Hi.Z)] : List PartT) i)).1).D)]) rfl rfl ty_46 rfl ?_)
         refine AOps.cons rfl rfl (AOp.pcall («as» := [.agg [.int .i64 lo.N, .int .i64 lo.D], .agg [.int .i64 (((R_span (at_ ([(PartT.mk o.X d.X b.Lo.X b.Hi.X), (PartT.mk o.Y d.Y b.Lo.Y b.Hi.Y), (PartT.mk o.Z d.Z b.Lo.Z b.Hi.Z)] : List PartT) i)).1).N), .int .i64 (((R_span (at_ ([(PartT.mk o.X d.X b.Lo.X b.Hi.X), (PartT.mk o.Y d.Y b.Lo.Y b.Hi.Y), (PartT.mk o.Z d.Z b.Lo.Z b.Hi.Z)] : List PartT) i)).1).D)]]) rfl rfl (rfl) tf_26 (c_slab_less lo ((R_span (at_ ([(PartT.mk o.X d.X b.Lo.X b.Hi.X), (PartT.mk o.Y d.Y b.Lo.Y b.Hi.Y), (PartT.mk o.Z d.Z b.Lo.Z b.Hi.Z)] : List PartT) i)).1) (by first | omega | assumption | (constructor <;> omega) | simp) (by first | omega | assumption | (constructor <;> omega) | simp)) ?_)
         intro H272 m273
         have h274 := m273 _ _ h267
         have h275 := m273 _ _ h268
         have h276 := m273 _ _ h269
         have h277 := m273 _ _ h270
         have m278 := m265.trans m273
         refine AOps.nil ?_
         change AWP _ _ _ _ _ _
         rcases Bool.eq_false_or_eq_true (R_slab_less lo ((R_span (at_ ([(PartT.mk o.X d.X b.Lo.X b.Hi.X), (PartT.mk o.Y d.Y b.Lo.Y b.Hi.Y), (PartT.mk o.Z d.Z b.Lo.Z b.Hi.Z)] : List PartT) i)).1)) with b279 | b279
         ·
          refine AWP.condT rfl b279 ?_
          refine AWP.region (l := [0, 1]) rfl ?_
          refine AOps.cons rfl rfl (AOp.loadF (.agg [.int .i64 (((R_span (at_ ([(PartT.mk o.X d.X b.Lo.X b.Hi.X), (PartT.mk o.Y d.Y b.Lo.Y b.Hi.Y), (PartT.mk o.Z d.Z b.Lo.Z b.Hi.Z)] : List PartT) i)).1).N), .int .i64 (((R_span (at_ ([(PartT.mk o.X d.X b.Lo.X b.Hi.X), (PartT.mk o.Y d.Y b.Lo.Y b.Hi.Y), (PartT.mk o.Z d.Z b.Lo.Z b.Hi.Z)] : List PartT) i)).1).D)]) rfl rfl ty_46 rfl ?_)
          refine AOps.cons rfl rfl (AOp.store' (cells' := [.int .i64 (((R_span (at_ ([(PartT.mk o.X d.X b.Lo.X b.Hi.X), (PartT.mk o.Y d.Y b.Lo.Y b.Hi.Y), (PartT.mk o.Z d.Z b.Lo.Z b.Hi.Z)] : List PartT) i)).1).N), .int .i64 (((R_span (at_ ([(PartT.mk o.X d.X b.Lo.X b.Hi.X), (PartT.mk o.Y d.Y b.Lo.Y b.Hi.Y), (PartT.mk o.Z d.Z b.Lo.Z b.Hi.Z)] : List PartT) i)).1).D)]) (.agg [.int .i64 (((R_span (at_ ([(PartT.mk o.X d.X b.Lo.X b.Hi.X), (PartT.mk o.Y d.Y b.Lo.Y b.Hi.Y), (PartT.mk o.Z d.Z b.Lo.Z b.Hi.Z)] : List PartT) i)).1).N), .int .i64 (((R_span (at_ ([(PartT.mk o.X d.X b.Lo.X b.Hi.X), (PartT.mk o.Y d.Y b.Lo.Y b.Hi.Y), (PartT.mk o.Z d.Z b.Lo.Z b.Hi.Z)] : List PartT) i)).1).D)]) s157 rfl ts_46 h276 rfl rfl rfl rfl ?_)
          intro H280 h281 k282
          have h283 := keep k282 e116 h274
          have h284 := keep k282 e117 h275
          have h286 := keep k282 (Ne.symm e129) h277
          have m287 := Mono.set m278 z118 k282
          refine AOps.nil ?_
          change AWP _ _ _ _ _ _
          refine AWP.seq ?_
          refine AWP.region (l := [0, 1, 2]) rfl ?_
          refine AOps.cons rfl rfl (AOp.loadF (.agg [.int .i64 (((R_span (at_ ([(PartT.mk o.X d.X b.Lo.X b.Hi.X), (PartT.mk o.Y d.Y b.Lo.Y b.Hi.Y), (PartT.mk o.Z d.Z b.Lo.Z b.Hi.Z)] : List PartT) i)).2.1).N), .int .i64 (((R_span (at_ ([(PartT.mk o.X d.X b.Lo.X b.Hi.X), (PartT.mk o.Y d.Y b.Lo.Y b.Hi.Y), (PartT.mk o.Z d.Z b.Lo.Z b.Hi.Z)] : List PartT) i)).2.1).D)]) rfl rfl ty_46 rfl ?_)
          refine AOps.cons rfl rfl (AOp.load (.agg [.int .i64 hi.N, .int .i64 hi.D]) rfl s158 ty_46 h286 rfl ?_)
          refine AOps.cons rfl rfl (AOp.pcall («as» := [.agg [.int .i64 (((R_span (at_ ([(PartT.mk o.X d.X b.Lo.X b.Hi.X), (PartT.mk o.Y d.Y b.Lo.Y b.Hi.Y), (PartT.mk o.Z d.Z b.Lo.Z b.Hi.Z)] : List PartT) i)).2.1).N), .int .i64 (((R_span (at_ ([(PartT.mk o.X d.X b.Lo.X b.Hi.X), (PartT.mk o.Y d.Y b.Lo.Y b.Hi.Y), (PartT.mk o.Z d.Z b.Lo.Z b.Hi.Z)] : List PartT) i)).2.1).D)], .agg [.int .i64 hi.N, .int .i64 hi.D]]) rfl rfl (rfl) tf_26 (c_slab_less ((R_span (at_ ([(PartT.mk o.X d.X b.Lo.X b.Hi.X), (PartT.mk o.Y d.Y b.Lo.Y b.Hi.Y), (PartT.mk o.Z d.Z b.Lo.Z b.Hi.Z)] : List PartT) i)).2.1) hi (by first | omega | assumption | (constructor <;> omega) | simp) (by first | omega | assumption | (constructor <;> omega) | simp)) ?_)
          intro H288 m289
          have h290 := m289 _ _ h283
          have h291 := m289 _ _ h284
          have h292 := m289 _ _ h286
          have h293 := m289 _ _ h281
          have m294 := m287.trans m289
          refine AOps.nil ?_
          change AWP _ _ _ _ _ _
          rcases Bool.eq_false_or_eq_true (R_slab_less ((R_span (at_ ([(PartT.mk o.X d.X b.Lo.X b.Hi.X), (PartT.mk o.Y d.Y b.Lo.Y b.Hi.Y), (PartT.mk o.Z d.Z b.Lo.Z b.Hi.Z)] : List PartT) i)).2.1) hi) with b295 | b295
          ·
           refine AWP.condT rfl b295 ?_
           refine AWP.region (l := [0, 1]) rfl ?_
           refine AOps.cons rfl rfl (AOp.loadF (.agg [.int .i64 (((R_span (at_ ([(PartT.mk o.X d.X b.Lo.X b.Hi.X), (PartT.mk o.Y d.Y b.Lo.Y b.Hi.Y), (PartT.mk o.Z d.Z b.Lo.Z b.Hi.Z)] : List PartT) i)).2.1).N), .int .i64 (((R_span (at_ ([(PartT.mk o.X d.X b.Lo.X b.Hi.X), (PartT.mk o.Y d.Y b.Lo.Y b.Hi.Y), (PartT.mk o.Z d.Z b.Lo.Z b.Hi.Z)] : List PartT) i)).2.1).D)]) rfl rfl ty_46 rfl ?_)
           refine AOps.cons rfl rfl (AOp.store' (cells' := [.int .i64 (((R_span (at_ ([(PartT.mk o.X d.X b.Lo.X b.Hi.X), (PartT.mk o.Y d.Y b.Lo.Y b.Hi.Y), (PartT.mk o.Z d.Z b.Lo.Z b.Hi.Z)] : List PartT) i)).2.1).N), .int .i64 (((R_span (at_ ([(PartT.mk o.X d.X b.Lo.X b.Hi.X), (PartT.mk o.Y d.Y b.Lo.Y b.Hi.Y), (PartT.mk o.Z d.Z b.Lo.Z b.Hi.Z)] : List PartT) i)).2.1).D)]) (.agg [.int .i64 (((R_span (at_ ([(PartT.mk o.X d.X b.Lo.X b.Hi.X), (PartT.mk o.Y d.Y b.Lo.Y b.Hi.Y), (PartT.mk o.Z d.Z b.Lo.Z b.Hi.Z)] : List PartT) i)).2.1).N), .int .i64 (((R_span (at_ ([(PartT.mk o.X d.X b.Lo.X b.Hi.X), (PartT.mk o.Y d.Y b.Lo.Y b.Hi.Y), (PartT.mk o.Z d.Z b.Lo.Z b.Hi.Z)] : List PartT) i)).2.1).D)]) s158 rfl ts_46 h292 rfl rfl rfl rfl ?_)
           intro H296 h297 k298
           have h299 := keep k298 e127 h290
           have h300 := keep k298 e128 h291
           have h302 := keep k298 e129 h293
           have m303 := Mono.set m294 z130 k298
           refine AOps.nil ?_
           change AWP _ _ _ _ _ _
           refine AWP.region (l := [0, 1]) rfl ?_
           refine AOps.cons rfl rfl (AOp.bin (.int .i64 (i + 1)) rfl s154 rfl (iadd (by omega)) ?_)
           refine AOps.cons rfl rfl (AOp.move (.int .i64 (i + 1)) rfl rfl ?_)
           refine AOps.nil ?_
           exact ⟨_, by omega, i + 1, ((R_span (at_ ([(PartT.mk o.X d.X b.Lo.X b.Hi.X), (PartT.mk o.Y d.Y b.Lo.Y b.Hi.Y), (PartT.mk o.Z d.Z b.Lo.Z b.Hi.Z)] : List PartT) i)).1), ((R_span (at_ ([(PartT.mk o.X d.X b.Lo.X b.Hi.X), (PartT.mk o.Y d.Y b.Lo.Y b.Hi.Y), (PartT.mk o.Z d.Z b.Lo.Z b.Hi.Z)] : List PartT) i)).2.1), rfl, rfl, s155, s156, s157, s158, s159, h299, h300, h302, h297, m303, by omega, by omega, by exact (fold_next hf hi0 (by simp; omega) b271 hp hu (by rw [b279] <;> rfl) (by rw [b295] <;> rfl)).1, by exact (fold_next hf hi0 (by simp; omega) b271 hp hu (by rw [b279] <;> rfl) (by rw [b295] <;> rfl)).2.1, by exact (fold_next hf hi0 (by simp; omega) b271 hp hu (by rw [b279] <;> rfl) (by rw [b295] <;> rfl)).2.2, by first | assumption | exact hsp.1, by first | assumption | exact hsp.2⟩
          ·
           refine AWP.condF rfl b295 ?_
           refine AWP.skip ?_
           change AWP _ _ _ _ _ _
           refine AWP.region (l := [0, 1]) rfl ?_
           refine AOps.cons rfl rfl (AOp.bin (.int .i64 (i + 1)) rfl s154 rfl (iadd (by omega)) ?_)
           refine AOps.cons rfl rfl (AOp.move (.int .i64 (i + 1)) rfl rfl ?_)
           refine AOps.nil ?_
           exact ⟨_, by omega, i + 1, ((R_span (at_ ([(PartT.mk o.X d.X b.Lo.X b.Hi.X), (PartT.mk o.Y d.Y b.Lo.Y b.Hi.Y), (PartT.mk o.Z d.Z b.Lo.Z b.Hi.Z)] : List PartT) i)).1), hi, rfl, rfl, s155, s156, s157, s158, s159, h290, h291, h293, h292, m294, by omega, by omega, by exact (fold_next hf hi0 (by simp; omega) b271 hp hu (by rw [b279] <;> rfl) (by rw [b295] <;> rfl)).1, by exact (fold_next hf hi0 (by simp; omega) b271 hp hu (by rw [b279] <;> rfl) (by rw [b295] <;> rfl)).2.1, by exact (fold_next hf hi0 (by simp; omega) b271 hp hu (by rw [b279] <;> rfl) (by rw [b295] <;> rfl)).2.2, by first | assumption | exact hsp.1, by first | assumption | exact hsp.2⟩
         ·
          refine AWP.condF rfl b279 ?_
          refine AWP.skip ?_
          change AWP _ _ _ _ _ _
          refine AWP.seq ?_
          refine AWP.region (l := [0, 1, 2]) rfl ?_
          refine AOps.cons rfl rfl (AOp.loadF (.agg [.int .i64 (((R_span (at_ ([(PartT.mk o.X d.X b.Lo.X b.Hi.X), (PartT.mk o.Y d.Y b.Lo.Y b.Hi.Y), (PartT.mk o.Z d.Z b.Lo.Z b.Hi.Z)] : List PartT) i)).2.1).N), .int .i64 (((R_span (at_ ([(PartT.mk o.X d.X b.Lo.X b.Hi.X), (PartT.mk o.Y d.Y b.Lo.Y b.Hi.Y), (PartT.mk o.Z d.Z b.Lo.Z b.Hi.Z)] : List PartT) i)).2.1).D)]) rfl rfl ty_46 rfl ?_)
          refine AOps.cons rfl rfl (AOp.load (.agg [.int .i64 hi.N, .int .i64 hi.D]) rfl s158 ty_46 h277 rfl ?_)
          refine AOps.cons rfl rfl (AOp.pcall («as» := [.agg [.int .i64 (((R_span (at_ ([(PartT.mk o.X d.X b.Lo.X b.Hi.X), (PartT.mk o.Y d.Y b.Lo.Y b.Hi.Y), (PartT.mk o.Z d.Z b.Lo.Z b.Hi.Z)] : List PartT) i)).2.1).N), .int .i64 (((R_span (at_ ([(PartT.mk o.X d.X b.Lo.X b.Hi.X), (PartT.mk o.Y d.Y b.Lo.Y b.Hi.Y), (PartT.mk o.Z d.Z b.Lo.Z b.Hi.Z)] : List PartT) i)).2.1).D)], .agg [.int .i64 hi.N, .int .i64 hi.D]]) rfl rfl (rfl) tf_26 (c_slab_less ((R_span (at_ ([(PartT.mk o.X d.X b.Lo.X b.Hi.X), (PartT.mk o.Y d.Y b.Lo.Y b.Hi.Y), (PartT.mk o.Z d.Z b.Lo.Z b.Hi.Z)] : List PartT) i)).2.1) hi (by first | omega | assumption | (constructor <;> omega) | simp) (by first | omega | assumption | (constructor <;> omega) | simp)) ?_)
          intro H310 m311
          have h312 := m311 _ _ h274
          have h313 := m311 _ _ h275
          have h314 := m311 _ _ h276
          have h315 := m311 _ _ h277
          have m316 := m278.trans m311
          refine AOps.nil ?_
          change AWP _ _ _ _ _ _
          rcases Bool.eq_false_or_eq_true (R_slab_less ((R_span (at_ ([(PartT.mk o.X d.X b.Lo.X b.Hi.X), (PartT.mk o.Y d.Y b.Lo.Y b.Hi.Y), (PartT.mk o.Z d.Z b.Lo.Z b.Hi.Z)] : List PartT) i)).2.1) hi) with b317 | b317
          ·
           refine AWP.condT rfl b317 ?_
           refine AWP.region (l := [0, 1]) rfl ?_
           refine AOps.cons rfl rfl (AOp.loadF (.agg [.int .i64 (((R_span (at_ ([(PartT.mk o.X d.X b.Lo.X b.Hi.X), (PartT.mk o.Y d.Y b.Lo.Y b.Hi.Y), (PartT.mk o.Z d.Z b.Lo.Z b.Hi.Z)] : List PartT) i)).2.1).N), .int .i64 (((R_span (at_ ([(PartT.mk o.X d.X b.Lo.X b.Hi.X), (PartT.mk o.Y d.Y b.Lo.Y b.Hi.Y), (PartT.mk o.Z d.Z b.Lo.Z b.Hi.Z)] : List PartT) i)).2.1).D)]) rfl rfl ty_46 rfl ?_)
           refine AOps.cons rfl rfl (AOp.store' (cells' := [.int .i64 (((R_span (at_ ([(PartT.mk o.X d.X b.Lo.X b.Hi.X), (PartT.mk o.Y d.Y b.Lo.Y b.Hi.Y), (PartT.mk o.Z d.Z b.Lo.Z b.Hi.Z)] : List PartT) i)).2.1).N), .int .i64 (((R_span (at_ ([(PartT.mk o.X d.X b.Lo.X b.Hi.X), (PartT.mk o.Y d.Y b.Lo.Y b.Hi.Y), (PartT.mk o.Z d.Z b.Lo.Z b.Hi.Z)] : List PartT) i)).2.1).D)]) (.agg [.int .i64 (((R_span (at_ ([(PartT.mk o.X d.X b.Lo.X b.Hi.X), (PartT.mk o.Y d.Y b.Lo.Y b.Hi.Y), (PartT.mk o.Z d.Z b.Lo.Z b.Hi.Z)] : List PartT) i)).2.1).N), .int .i64 (((R_span (at_ ([(PartT.mk o.X d.X b.Lo.X b.Hi.X), (PartT.mk o.Y d.Y b.Lo.Y b.Hi.Y), (PartT.mk o.Z d.Z b.Lo.Z b.Hi.Z)] : List PartT) i)).2.1).D)]) s158 rfl ts_46 h315 rfl rfl rfl rfl ?_)
           intro H318 h319 k320
           have h321 := keep k320 e127 h312
           have h322 := keep k320 e128 h313
           have h323 := keep k320 e129 h314
           have m325 := Mono.set m316 z130 k320
           refine AOps.nil ?_
           change AWP _ _ _ _ _ _
           refine AWP.region (l := [0, 1]) rfl ?_
           refine AOps.cons rfl rfl (AOp.bin (.int .i64 (i + 1)) rfl s154 rfl (iadd (by omega)) ?_)
           refine AOps.cons rfl rfl (AOp.move (.int .i64 (i + 1)) rfl rfl ?_)
           refine AOps.nil ?_
           exact ⟨_, by omega, i + 1, lo, ((R_span (at_ ([(PartT.mk o.X d.X b.Lo.X b.Hi.X), (PartT.mk o.Y d.Y b.Lo.Y b.Hi.Y), (PartT.mk o.Z d.Z b.Lo.Z b.Hi.Z)] : List PartT) i)).2.1), rfl, rfl, s155, s156, s157, s158, s159, h321, h322, h323, h319, m325, by omega, by omega, by exact (fold_next hf hi0 (by simp; omega) b271 hp hu (by rw [b279] <;> rfl) (by rw [b317] <;> rfl)).1, by exact (fold_next hf hi0 (by simp; omega) b271 hp hu (by rw [b279] <;> rfl) (by rw [b317] <;> rfl)).2.1, by exact (fold_next hf hi0 (by simp; omega) b271 hp hu (by rw [b279] <;> rfl) (by rw [b317] <;> rfl)).2.2, by first | assumption | exact hsp.1, by first | assumption | exact hsp.2⟩
          ·
           refine AWP.condF rfl b317 ?_
           refine AWP.skip ?_
           change AWP _ _ _ _ _ _
           refine AWP.region (l := [0, 1]) rfl ?_
           refine AOps.cons rfl rfl (AOp.bin (.int .i64 (i + 1)) rfl s154 rfl (iadd (by omega)) ?_)
           refine AOps.cons rfl rfl (AOp.move (.int .i64 (i + 1)) rfl rfl ?_)
           refine AOps.nil ?_
           exact ⟨_, by omega, i + 1, lo, hi, rfl, rfl, s155, s156, s157, s158, s159, h312, h313, h314, h315, m316, by omega, by omega, by exact (fold_next hf hi0 (by simp; omega) b271 hp hu (by rw [b279] <;> rfl) (by rw [b317] <;> rfl)).1, by exact (fold_next hf hi0 (by simp; omega) b271 hp hu (by rw [b279] <;> rfl) (by rw [b317] <;> rfl)).2.1, by exact (fold_next hf hi0 (by simp; omega) b271 hp hu (by rw [b279] <;> rfl) (by rw [b317] <;> rfl)).2.2, by first | assumption | exact hsp.1, by first | assumption | exact hsp.2⟩
        ·
         refine AWP.condT rfl (nb b271) ?_
         refine AWP.seq ?_
         refine AWP.region (l := [0, 1, 2, 3, 4, 5]) rfl ?_
         refine AOps.cons rfl rfl (AOp.build (cells := [.int .i64 0, .int .i64 0]) rfl tz_46 pl_46 rfl rfl ?_)
         refine AOps.cons rfl rfl (AOp.build (cells := [.int .i64 0, .int .i64 0]) rfl tz_46 pl_46 rfl rfl ?_)
         refine AOps.cons rfl rfl (AOp.store' (cells' := [.int .i64 0, .int .i64 0]) (.agg [.int .i64 0, .int .i64 0]) s155 rfl ts_46 h267 rfl rfl rfl rfl ?_)
         intro H332 h333 k334
         have h336 := keep k334 (Ne.symm e49) h268
         have h337 := keep k334 (Ne.symm e116) h269
         have h338 := keep k334 (Ne.symm e127) h270
         have m339 := Mono.set m265 z36 k334
         refine AOps.cons rfl rfl (AOp.store' (cells' := [.int .i64 0, .int .i64 0]) (.agg [.int .i64 0, .int .i64 0]) s156 rfl ts_46 h336 rfl rfl rfl rfl ?_)
         intro H340 h341 k342
         have h344 := keep k342 (Ne.symm e117) h337
         have h345 := keep k342 (Ne.symm e128) h338
         have h346 := keep k342 e49 h333
         have m347 := Mono.set m339 z50 k342
         refine AOps.cons rfl rfl (AOp.assign (.bool false) rfl rfl ?_)
         refine AOps.cons rfl rfl (AOp.assign (.int .i64 0) rfl rfl ?_)
         refine AOps.nil ?_
         change AWP _ _ _ _ _ _
         refine AWP.ret ?_
         refine ⟨_, _, Ghost.refl, .inr rfl, _, Res.list rfl rfl (.cell (v := .agg [.int .i64 0, .int .i64 0]) s155 ty_46 h346 rfl (.cell (v := .agg [.int .i64 0, .int .i64 0]) s156 ty_46 h341 rfl (.tmp rfl (.tmp rfl (.nil))))), ?_, m347⟩
         exact congrArg AV.tup (lc (congrArg AV.agg (lc (congrArg (AV.int .i64) (show (0 : Int) = ((rangeF o d b).1).N from by rw [rangeF_ok (by unfold badOD boxIn; rw [b92, b98, b104, b110, decide_eq_false b74]; rfl), range_none (fold_stop hf hi0 (by simp; omega) b271)])) (lc (congrArg (AV.int .i64) (show (0 : Int) = ((rangeF o d b).1).D from by rw [rangeF_ok (by unfold badOD boxIn; rw [b92, b98, b104, b110, decide_eq_false b74]; rfl), range_none (fold_stop hf hi0 (by simp; omega) b271)])) rfl))) (lc (congrArg AV.agg (lc (congrArg (AV.int .i64) (show (0 : Int) = ((rangeF o d b).2.1).N from by rw [rangeF_ok (by unfold badOD boxIn; rw [b92, b98, b104, b110, decide_eq_false b74]; rfl), range_none (fold_stop hf hi0 (by simp; omega) b271)])) (lc (congrArg (AV.int .i64) (show (0 : Int) = ((rangeF o d b).2.1).D from by rw [rangeF_ok (by unfold badOD boxIn; rw [b92, b98, b104, b110, decide_eq_false b74]; rfl), range_none (fold_stop hf hi0 (by simp; omega) b271)])) rfl))) (lc (congrArg AV.bool (show (false : Bool) = (rangeF o d b).2.2.1 from by rw [rangeF_ok (by unfold badOD boxIn; rw [b92, b98, b104, b110, decide_eq_false b74]; rfl), range_none (fold_stop hf hi0 (by simp; omega) b271)])) (lc (congrArg (AV.int .i64) (show (0 : Int) = (rangeF o d b).2.2.2 from by rw [rangeF_ok (by unfold badOD boxIn; rw [b92, b98, b104, b110, decide_eq_false b74]; rfl), range_none (fold_stop hf hi0 (by simp; omega) b271)])) rfl))))
       ·
        refine AWP.condF rfl (decide_eq_false b165) ?_
        refine AWP.exit ?_
        change AWP _ _ _ _ _ _
        refine AWP.seq ?_
        refine AWP.seq ?_
        refine AWP.region (l := [0, 1, 2]) rfl ?_
        refine AOps.cons rfl rfl (AOp.load (.agg [.int .i64 hi.N, .int .i64 hi.D]) rfl s158 ty_46 h163 rfl ?_)
        refine AOps.cons rfl rfl (AOp.load (.agg [.int .i64 lo.N, .int .i64 lo.D]) rfl s157 ty_46 h162 rfl ?_)
        refine AOps.cons rfl rfl (AOp.pcall («as» := [.agg [.int .i64 hi.N, .int .i64 hi.D], .agg [.int .i64 lo.N, .int .i64 lo.D]]) rfl rfl (rfl) tf_26 (c_slab_less hi lo (by first | omega | assumption | (constructor <;> omega) | simp) (by first | omega | assumption | (constructor <;> omega) | simp)) ?_)
        intro H348 m349
        have h350 := m349 _ _ h160
        have h351 := m349 _ _ h161
        have h352 := m349 _ _ h162
        have h353 := m349 _ _ h163
        have m354 := m164.trans m349
        refine AOps.nil ?_
        change AWP _ _ _ _ _ _
        rcases Bool.eq_false_or_eq_true (R_slab_less hi lo) with b355 | b355
        ·
         refine AWP.condT rfl b355 ?_
         refine AWP.seq ?_
         refine AWP.region (l := [0, 1, 2, 3, 4, 5]) rfl ?_
         refine AOps.cons rfl rfl (AOp.build (cells := [.int .i64 0, .int .i64 0]) rfl tz_46 pl_46 rfl rfl ?_)
         refine AOps.cons rfl rfl (AOp.build (cells := [.int .i64 0, .int .i64 0]) rfl tz_46 pl_46 rfl rfl ?_)
         refine AOps.cons rfl rfl (AOp.store' (cells' := [.int .i64 0, .int .i64 0]) (.agg [.int .i64 0, .int .i64 0]) s155 rfl ts_46 h350 rfl rfl rfl rfl ?_)
         intro H356 h357 k358
         have h360 := keep k358 (Ne.symm e49) h351
         have h361 := keep k358 (Ne.symm e116) h352
         have h362 := keep k358 (Ne.symm e127) h353
         have m363 := Mono.set m354 z36 k358
         refine AOps.cons rfl rfl (AOp.store' (cells' := [.int .i64 0, .int .i64 0]) (.agg [.int .i64 0, .int .i64 0]) s156 rfl ts_46 h360 rfl rfl rfl rfl ?_)
         intro H364 h365 k366
         have h368 := keep k366 (Ne.symm e117) h361
         have h369 := keep k366 (Ne.symm e128) h362
         have h370 := keep k366 e49 h357
         have m371 := Mono.set m363 z50 k366
         refine AOps.cons rfl rfl (AOp.assign (.bool false) rfl rfl ?_)
         refine AOps.cons rfl rfl (AOp.assign (.int .i64 0) rfl rfl ?_)
         refine AOps.nil ?_
         change AWP _ _ _ _ _ _
         refine AWP.ret ?_
         refine ⟨_, _, Ghost.refl, .inr rfl, _, Res.list rfl rfl (.cell (v := .agg [.int .i64 0, .int .i64 0]) s155 ty_46 h370 rfl (.cell (v := .agg [.int .i64 0, .int .i64 0]) s156 ty_46 h365 rfl (.tmp rfl (.tmp rfl (.nil))))), ?_, m371⟩
         exact congrArg AV.tup (lc (congrArg AV.agg (lc (congrArg (AV.int .i64) (show (0 : Int) = ((rangeF o d b).1).N from by rw [rangeF_ok (by unfold badOD boxIn; rw [b92, b98, b104, b110, decide_eq_false b74]; rfl), range_some (fold_done hf (by simp; omega)) hp hu, if_pos b355])) (lc (congrArg (AV.int .i64) (show (0 : Int) = ((rangeF o d b).1).D from by rw [rangeF_ok (by unfold badOD boxIn; rw [b92, b98, b104, b110, decide_eq_false b74]; rfl), range_some (fold_done hf (by simp; omega)) hp hu, if_pos b355])) rfl))) (lc (congrArg AV.agg (lc (congrArg (AV.int .i64) (show (0 : Int) = ((rangeF o d b).2.1).N from by rw [rangeF_ok (by unfold badOD boxIn; rw [b92, b98, b104, b110, decide_eq_false b74]; rfl), range_some (fold_done hf (by simp; omega)) hp hu, if_pos b355])) (lc (congrArg (AV.int .i64) (show (0 : Int) = ((rangeF o d b).2.1).D from by rw [rangeF_ok (by unfold badOD boxIn; rw [b92, b98, b104, b110, decide_eq_false b74]; rfl), range_some (fold_done hf (by simp; omega)) hp hu, if_pos b355])) rfl))) (lc (congrArg AV.bool (show (false : Bool) = (rangeF o d b).2.2.1 from by rw [rangeF_ok (by unfold badOD boxIn; rw [b92, b98, b104, b110, decide_eq_false b74]; rfl), range_some (fold_done hf (by simp; omega)) hp hu, if_pos b355])) (lc (congrArg (AV.int .i64) (show (0 : Int) = (rangeF o d b).2.2.2 from by rw [rangeF_ok (by unfold badOD boxIn; rw [b92, b98, b104, b110, decide_eq_false b74]; rfl), range_some (fold_done hf (by simp; omega)) hp hu, if_pos b355])) rfl))))
        ·
         refine AWP.condF rfl b355 ?_
         refine AWP.skip ?_
         change AWP _ _ _ _ _ _
         refine AWP.seq ?_
         refine AWP.region_str mixed (by kernel_rfl) [(0, none), (1, none), (2, some [1])] [3, 4, 5] (by kernel_rfl) ?_
         refine STR.op rfl rfl (.inl ⟨rfl, fun H1 f' H' hf hN hM => AOp.load (.agg [.int .i64 lo.N, .int .i64 lo.D]) rfl ((hf 10 rfl).trans s157) ty_46 (hM _ _ h352) rfl ⟨rfl, hN⟩⟩) ?_
         refine STR.op rfl rfl (.inl ⟨rfl, fun H1 f' H' hf hN hM => AOp.load (.agg [.int .i64 hi.N, .int .i64 hi.D]) rfl ((hf 11 rfl).trans s158) ty_46 (hM _ _ h353) rfl ⟨rfl, hN⟩⟩) ?_
         refine STR.st rfl rfl rfl fun f372 H373 hf374 m375 => ?_
         have h376 := m375 _ _ h350
         have h377 := m375 _ _ h351
         have h378 := m375 _ _ h352
         have h379 := m375 _ _ h353
         have m380 := m354.trans m375
         refine AOp.store' (cells' := [.int .i64 lo.N, .int .i64 lo.D]) (.agg [.int .i64 lo.N, .int .i64 lo.D]) ((hf374 6 rfl).trans s155) ((hf374 107 rfl).trans rfl) ts_46 h376 rfl rfl rfl rfl ?_
         intro H381 h382 k383
         have h385 := keep k383 (Ne.symm e49) h377
         have h386 := keep k383 (Ne.symm e116) h378
         have h387 := keep k383 (Ne.symm e127) h379
         have m388 := Mono.set m380 z36 k383
         refine ⟨rfl, .inr (RevR.cons rfl (.inl ⟨rfl, fun H1 f' H' hf hN hM => AOp.load (.agg [.int .i64 hi.N, .int .i64 hi.D]) rfl ((hf 11 rfl).trans s158) ty_46 (hM _ _ h387) rfl ⟨rfl, hN⟩⟩) (RevR.skip rfl RevR.nil)), ?_⟩
         refine STR.done fun H389 m390 => ?_
         have h391 := m390 _ _ h385
         have h392 := m390 _ _ h386
         have h393 := m390 _ _ h387
         have h394 := m390 _ _ h382
         have m395 := m388.trans m390
         refine AOps.cons rfl rfl (AOp.store' (cells' := [.int .i64 hi.N, .int .i64 hi.D]) (.agg [.int .i64 hi.N, .int .i64 hi.D]) s156 rfl ts_46 h391 rfl rfl rfl rfl ?_)
         intro H396 h397 k398
         have h400 := keep k398 (Ne.symm e117) h392
         have h401 := keep k398 (Ne.symm e128) h393
         have h402 := keep k398 e49 h394
         have m403 := Mono.set m395 z50 k398
         refine AOps.cons rfl rfl (AOp.assign (.bool true) rfl rfl ?_)
         refine AOps.cons rfl rfl (AOp.assign (.int .i64 0) rfl rfl ?_)
         refine AOps.nil ?_
         change AWP _ _ _ _ _ _
         refine AWP.ret ?_
         refine ⟨_, _, Ghost.refl, .inr rfl, _, Res.list rfl rfl (.cell (v := .agg [.int .i64 lo.N, .int .i64 lo.D]) s155 ty_46 h402 rfl (.cell (v := .agg [.int .i64 hi.N, .int .i64 hi.D]) s156 ty_46 h397 rfl (.tmp rfl (.tmp rfl (.nil))))), ?_, m403⟩
         exact congrArg AV.tup (lc (congrArg AV.agg (lc (congrArg (AV.int .i64) (show (lo.N : Int) = ((rangeF o d b).1).N from by rw [rangeF_ok (by unfold badOD boxIn; rw [b92, b98, b104, b110, decide_eq_false b74]; rfl), range_some (fold_done hf (by simp; omega)) hp hu, if_neg (ff b355)])) (lc (congrArg (AV.int .i64) (show (lo.D : Int) = ((rangeF o d b).1).D from by rw [rangeF_ok (by unfold badOD boxIn; rw [b92, b98, b104, b110, decide_eq_false b74]; rfl), range_some (fold_done hf (by simp; omega)) hp hu, if_neg (ff b355)])) rfl))) (lc (congrArg AV.agg (lc (congrArg (AV.int .i64) (show (hi.N : Int) = ((rangeF o d b).2.1).N from by rw [rangeF_ok (by unfold badOD boxIn; rw [b92, b98, b104, b110, decide_eq_false b74]; rfl), range_some (fold_done hf (by simp; omega)) hp hu, if_neg (ff b355)])) (lc (congrArg (AV.int .i64) (show (hi.D : Int) = ((rangeF o d b).2.1).D from by rw [rangeF_ok (by unfold badOD boxIn; rw [b92, b98, b104, b110, decide_eq_false b74]; rfl), range_some (fold_done hf (by simp; omega)) hp hu, if_neg (ff b355)])) rfl))) (lc (congrArg AV.bool (show (true : Bool) = (rangeF o d b).2.2.1 from by rw [rangeF_ok (by unfold badOD boxIn; rw [b92, b98, b104, b110, decide_eq_false b74]; rfl), range_some (fold_done hf (by simp; omega)) hp hu, if_neg (ff b355)])) (lc (congrArg (AV.int .i64) (show (0 : Int) = (rangeF o d b).2.2.2 from by rw [rangeF_ok (by unfold badOD boxIn; rw [b92, b98, b104, b110, decide_eq_false b74]; rfl), range_some (fold_done hf (by simp; omega)) hp hu, if_neg (ff b355)])) rfl))))
     ·
      refine AWP.condT rfl (nb b110) ?_
      refine AWP.seq ?_
      refine AWP.region (l := [0, 1, 2, 3, 4, 5]) rfl ?_
      refine AOps.cons rfl rfl (AOp.build (cells := [.int .i64 0, .int .i64 0]) rfl tz_46 pl_46 rfl rfl ?_)
      refine AOps.cons rfl rfl (AOp.build (cells := [.int .i64 0, .int .i64 0]) rfl tz_46 pl_46 rfl rfl ?_)
      refine AOps.cons rfl rfl (AOp.store' (cells' := [.int .i64 0, .int .i64 0]) (.agg [.int .i64 0, .int .i64 0]) rfl rfl ts_46 h107 rfl rfl rfl rfl ?_)
      intro H404 h405 k406
      have h408 := keep k406 (Ne.symm e49) h108
      have m409 := Mono.set m109 z36 k406
      refine AOps.cons rfl rfl (AOp.store' (cells' := [.int .i64 0, .int .i64 0]) (.agg [.int .i64 0, .int .i64 0]) rfl rfl ts_46 h408 rfl rfl rfl rfl ?_)
      intro H410 h411 k412
      have h414 := keep k412 e49 h405
      have m415 := Mono.set m409 z50 k412
      refine AOps.cons rfl rfl (AOp.assign (.bool false) rfl rfl ?_)
      refine AOps.cons rfl rfl (AOp.assign (.int .i64 21) rfl rfl ?_)
      refine AOps.nil ?_
      change AWP _ _ _ _ _ _
      refine AWP.ret ?_
      refine ⟨_, _, Ghost.refl, .inr rfl, _, Res.list rfl rfl (.cell (v := .agg [.int .i64 0, .int .i64 0]) rfl ty_46 h414 rfl (.cell (v := .agg [.int .i64 0, .int .i64 0]) rfl ty_46 h411 rfl (.tmp rfl (.tmp rfl (.nil))))), ?_, m415⟩
      exact congrArg AV.tup (lc (congrArg AV.agg (lc (congrArg (AV.int .i64) (show (0 : Int) = ((rangeF o d b).1).N from by rw [rangeF_bad (by unfold badOD boxIn; simp [b74, b92, b98, b104, b110])])) (lc (congrArg (AV.int .i64) (show (0 : Int) = ((rangeF o d b).1).D from by rw [rangeF_bad (by unfold badOD boxIn; simp [b74, b92, b98, b104, b110])])) rfl))) (lc (congrArg AV.agg (lc (congrArg (AV.int .i64) (show (0 : Int) = ((rangeF o d b).2.1).N from by rw [rangeF_bad (by unfold badOD boxIn; simp [b74, b92, b98, b104, b110])])) (lc (congrArg (AV.int .i64) (show (0 : Int) = ((rangeF o d b).2.1).D from by rw [rangeF_bad (by unfold badOD boxIn; simp [b74, b92, b98, b104, b110])])) rfl))) (lc (congrArg AV.bool (show (false : Bool) = (rangeF o d b).2.2.1 from by rw [rangeF_bad (by unfold badOD boxIn; simp [b74, b92, b98, b104, b110])])) (lc (congrArg (AV.int .i64) (show (21 : Int) = (rangeF o d b).2.2.2 from by rw [rangeF_bad (by unfold badOD boxIn; simp [b74, b92, b98, b104, b110])])) rfl))))
    ·
     refine AOps.no rfl rfl rfl rfl rfl rfl rfl (ble_of (nb b104) (by decide)) ?_
     refine AOps.no rfl rfl rfl rfl rfl rfl rfl (ble_of (nb b104) (by decide)) ?_
     refine AOps.no rfl rfl rfl rfl rfl rfl rfl (ble_of (nb b104) (by decide)) ?_
     refine AOps.no rfl rfl rfl rfl rfl rfl rfl (ble_of (nb b104) (by decide)) ?_
     refine AOps.cons rfl rfl (AOp.pickT (.bool true) rfl rfl (nb b104) rfl ?_)
     refine AOps.nil ?_
     change AWP _ _ _ _ _ _
     refine AWP.condT rfl rfl ?_
     refine AWP.seq ?_
     refine AWP.region (l := [0, 1, 2, 3, 4, 5]) rfl ?_
     refine AOps.cons rfl rfl (AOp.build (cells := [.int .i64 0, .int .i64 0]) rfl tz_46 pl_46 rfl rfl ?_)
     refine AOps.cons rfl rfl (AOp.build (cells := [.int .i64 0, .int .i64 0]) rfl tz_46 pl_46 rfl rfl ?_)
     refine AOps.cons rfl rfl (AOp.store' (cells' := [.int .i64 0, .int .i64 0]) (.agg [.int .i64 0, .int .i64 0]) rfl rfl ts_46 h101 rfl rfl rfl rfl ?_)
     intro H416 h417 k418
     have h420 := keep k418 (Ne.symm e49) h102
     have m421 := Mono.set m103 z36 k418
     refine AOps.cons rfl rfl (AOp.store' (cells' := [.int .i64 0, .int .i64 0]) (.agg [.int .i64 0, .int .i64 0]) rfl rfl ts_46 h420 rfl rfl rfl rfl ?_)
     intro H422 h423 k424
     have h426 := keep k424 e49 h417
     have m427 := Mono.set m421 z50 k424
     refine AOps.cons rfl rfl (AOp.assign (.bool false) rfl rfl ?_)
     refine AOps.cons rfl rfl (AOp.assign (.int .i64 21) rfl rfl ?_)
     refine AOps.nil ?_
     change AWP _ _ _ _ _ _
     refine AWP.ret ?_
     refine ⟨_, _, Ghost.refl, .inr rfl, _, Res.list rfl rfl (.cell (v := .agg [.int .i64 0, .int .i64 0]) rfl ty_46 h426 rfl (.cell (v := .agg [.int .i64 0, .int .i64 0]) rfl ty_46 h423 rfl (.tmp rfl (.tmp rfl (.nil))))), ?_, m427⟩
     exact congrArg AV.tup (lc (congrArg AV.agg (lc (congrArg (AV.int .i64) (show (0 : Int) = ((rangeF o d b).1).N from by rw [rangeF_bad (by unfold badOD boxIn; simp [b74, b92, b98, b104])])) (lc (congrArg (AV.int .i64) (show (0 : Int) = ((rangeF o d b).1).D from by rw [rangeF_bad (by unfold badOD boxIn; simp [b74, b92, b98, b104])])) rfl))) (lc (congrArg AV.agg (lc (congrArg (AV.int .i64) (show (0 : Int) = ((rangeF o d b).2.1).N from by rw [rangeF_bad (by unfold badOD boxIn; simp [b74, b92, b98, b104])])) (lc (congrArg (AV.int .i64) (show (0 : Int) = ((rangeF o d b).2.1).D from by rw [rangeF_bad (by unfold badOD boxIn; simp [b74, b92, b98, b104])])) rfl))) (lc (congrArg AV.bool (show (false : Bool) = (rangeF o d b).2.2.1 from by rw [rangeF_bad (by unfold badOD boxIn; simp [b74, b92, b98, b104])])) (lc (congrArg (AV.int .i64) (show (21 : Int) = (rangeF o d b).2.2.2 from by rw [rangeF_bad (by unfold badOD boxIn; simp [b74, b92, b98, b104])])) rfl))))
   ·
    refine AOps.no rfl rfl rfl rfl rfl rfl rfl (ble_of (nb b98) (by decide)) ?_
    refine AOps.no rfl rfl rfl rfl rfl rfl rfl (ble_of (nb b98) (by decide)) ?_
    refine AOps.no rfl rfl rfl rfl rfl rfl rfl (ble_of (nb b98) (by decide)) ?_
    refine AOps.no rfl rfl rfl rfl rfl rfl rfl (ble_of (nb b98) (by decide)) ?_
    refine AOps.cons rfl rfl (AOp.pickT (.bool true) rfl rfl (nb b98) rfl ?_)
    refine AOps.cons rfl rfl (AOp.move (.bool true) rfl rfl ?_)
    refine AOps.no rfl rfl rfl rfl rfl rfl rfl (ble_of rfl (by decide)) ?_
    refine AOps.no rfl rfl rfl rfl rfl rfl rfl (ble_of rfl (by decide)) ?_
    refine AOps.no rfl rfl rfl rfl rfl rfl rfl (ble_of rfl (by decide)) ?_
    refine AOps.no rfl rfl rfl rfl rfl rfl rfl (ble_of rfl (by decide)) ?_
    refine AOps.cons rfl rfl (AOp.pickT (.bool true) rfl rfl rfl rfl ?_)
    refine AOps.nil ?_
    change AWP _ _ _ _ _ _
    refine AWP.condT rfl rfl ?_
    refine AWP.seq ?_
    refine AWP.region (l := [0, 1, 2, 3, 4, 5]) rfl ?_
    refine AOps.cons rfl rfl (AOp.build (cells := [.int .i64 0, .int .i64 0]) rfl tz_46 pl_46 rfl rfl ?_)
    refine AOps.cons rfl rfl (AOp.build (cells := [.int .i64 0, .int .i64 0]) rfl tz_46 pl_46 rfl rfl ?_)
    refine AOps.cons rfl rfl (AOp.store' (cells' := [.int .i64 0, .int .i64 0]) (.agg [.int .i64 0, .int .i64 0]) rfl rfl ts_46 h95 rfl rfl rfl rfl ?_)
    intro H428 h429 k430
    have h432 := keep k430 (Ne.symm e49) h96
    have m433 := Mono.set m97 z36 k430
    refine AOps.cons rfl rfl (AOp.store' (cells' := [.int .i64 0, .int .i64 0]) (.agg [.int .i64 0, .int .i64 0]) rfl rfl ts_46 h432 rfl rfl rfl rfl ?_)
    intro H434 h435 k436
    have h438 := keep k436 e49 h429
    have m439 := Mono.set m433 z50 k436
    refine AOps.cons rfl rfl (AOp.assign (.bool false) rfl rfl ?_)
    refine AOps.cons rfl rfl (AOp.assign (.int .i64 21) rfl rfl ?_)
    refine AOps.nil ?_
    change AWP _ _ _ _ _ _
    refine AWP.ret ?_
    refine ⟨_, _, Ghost.refl, .inr rfl, _, Res.list rfl rfl (.cell (v := .agg [.int .i64 0, .int .i64 0]) rfl ty_46 h438 rfl (.cell (v := .agg [.int .i64 0, .int .i64 0]) rfl ty_46 h435 rfl (.tmp rfl (.tmp rfl (.nil))))), ?_, m439⟩
    exact congrArg AV.tup (lc (congrArg AV.agg (lc (congrArg (AV.int .i64) (show (0 : Int) = ((rangeF o d b).1).N from by rw [rangeF_bad (by unfold badOD boxIn; simp [b74, b92, b98])])) (lc (congrArg (AV.int .i64) (show (0 : Int) = ((rangeF o d b).1).D from by rw [rangeF_bad (by unfold badOD boxIn; simp [b74, b92, b98])])) rfl))) (lc (congrArg AV.agg (lc (congrArg (AV.int .i64) (show (0 : Int) = ((rangeF o d b).2.1).N from by rw [rangeF_bad (by unfold badOD boxIn; simp [b74, b92, b98])])) (lc (congrArg (AV.int .i64) (show (0 : Int) = ((rangeF o d b).2.1).D from by rw [rangeF_bad (by unfold badOD boxIn; simp [b74, b92, b98])])) rfl))) (lc (congrArg AV.bool (show (false : Bool) = (rangeF o d b).2.2.1 from by rw [rangeF_bad (by unfold badOD boxIn; simp [b74, b92, b98])])) (lc (congrArg (AV.int .i64) (show (21 : Int) = (rangeF o d b).2.2.2 from by rw [rangeF_bad (by unfold badOD boxIn; simp [b74, b92, b98])])) rfl))))
  ·
   refine AOps.no rfl rfl rfl rfl rfl rfl rfl (ble_of (nb b92) (by decide)) ?_
   refine AOps.no rfl rfl rfl rfl rfl rfl rfl (ble_of (nb b92) (by decide)) ?_
   refine AOps.no rfl rfl rfl rfl rfl rfl rfl (ble_of (nb b92) (by decide)) ?_
   refine AOps.cons rfl rfl (AOp.pickT (.bool true) rfl rfl (nb b92) rfl ?_)
   refine AOps.cons rfl rfl (AOp.move (.bool true) rfl rfl ?_)
   refine AOps.no rfl rfl rfl rfl rfl rfl rfl (ble_of rfl (by decide)) ?_
   refine AOps.no rfl rfl rfl rfl rfl rfl rfl (ble_of rfl (by decide)) ?_
   refine AOps.no rfl rfl rfl rfl rfl rfl rfl (ble_of rfl (by decide)) ?_
   refine AOps.no rfl rfl rfl rfl rfl rfl rfl (ble_of rfl (by decide)) ?_
   refine AOps.cons rfl rfl (AOp.pickT (.bool true) rfl rfl rfl rfl ?_)
   refine AOps.cons rfl rfl (AOp.move (.bool true) rfl rfl ?_)
   refine AOps.no rfl rfl rfl rfl rfl rfl rfl (ble_of rfl (by decide)) ?_
   refine AOps.no rfl rfl rfl rfl rfl rfl rfl (ble_of rfl (by decide)) ?_
   refine AOps.no rfl rfl rfl rfl rfl rfl rfl (ble_of rfl (by decide)) ?_
   refine AOps.no rfl rfl rfl rfl rfl rfl rfl (ble_of rfl (by decide)) ?_
   refine AOps.cons rfl rfl (AOp.pickT (.bool true) rfl rfl rfl rfl ?_)
   refine AOps.nil ?_
   change AWP _ _ _ _ _ _
   refine AWP.condT rfl rfl ?_
   refine AWP.seq ?_
   refine AWP.region (l := [0, 1, 2, 3, 4, 5]) rfl ?_
   refine AOps.cons rfl rfl (AOp.build (cells := [.int .i64 0, .int .i64 0]) rfl tz_46 pl_46 rfl rfl ?_)
   refine AOps.cons rfl rfl (AOp.build (cells := [.int .i64 0, .int .i64 0]) rfl tz_46 pl_46 rfl rfl ?_)
   refine AOps.cons rfl rfl (AOp.store' (cells' := [.int .i64 0, .int .i64 0]) (.agg [.int .i64 0, .int .i64 0]) rfl rfl ts_46 h89 rfl rfl rfl rfl ?_)
   intro H440 h441 k442
   have h444 := keep k442 (Ne.symm e49) h90
   have m445 := Mono.set m91 z36 k442
   refine AOps.cons rfl rfl (AOp.store' (cells' := [.int .i64 0, .int .i64 0]) (.agg [.int .i64 0, .int .i64 0]) rfl rfl ts_46 h444 rfl rfl rfl rfl ?_)
   intro H446 h447 k448
   have h450 := keep k448 e49 h441
   have m451 := Mono.set m445 z50 k448
   refine AOps.cons rfl rfl (AOp.assign (.bool false) rfl rfl ?_)
   refine AOps.cons rfl rfl (AOp.assign (.int .i64 21) rfl rfl ?_)
   refine AOps.nil ?_
   change AWP _ _ _ _ _ _
   refine AWP.ret ?_
   refine ⟨_, _, Ghost.refl, .inr rfl, _, Res.list rfl rfl (.cell (v := .agg [.int .i64 0, .int .i64 0]) rfl ty_46 h450 rfl (.cell (v := .agg [.int .i64 0, .int .i64 0]) rfl ty_46 h447 rfl (.tmp rfl (.tmp rfl (.nil))))), ?_, m451⟩
   exact congrArg AV.tup (lc (congrArg AV.agg (lc (congrArg (AV.int .i64) (show (0 : Int) = ((rangeF o d b).1).N from by rw [rangeF_bad (by unfold badOD boxIn; simp [b74, b92])])) (lc (congrArg (AV.int .i64) (show (0 : Int) = ((rangeF o d b).1).D from by rw [rangeF_bad (by unfold badOD boxIn; simp [b74, b92])])) rfl))) (lc (congrArg AV.agg (lc (congrArg (AV.int .i64) (show (0 : Int) = ((rangeF o d b).2.1).N from by rw [rangeF_bad (by unfold badOD boxIn; simp [b74, b92])])) (lc (congrArg (AV.int .i64) (show (0 : Int) = ((rangeF o d b).2.1).D from by rw [rangeF_bad (by unfold badOD boxIn; simp [b74, b92])])) rfl))) (lc (congrArg AV.bool (show (false : Bool) = (rangeF o d b).2.2.1 from by rw [rangeF_bad (by unfold badOD boxIn; simp [b74, b92])])) (lc (congrArg (AV.int .i64) (show (21 : Int) = (rangeF o d b).2.2.2 from by rw [rangeF_bad (by unfold badOD boxIn; simp [b74, b92])])) rfl))))
end Go.Proofs.B
namespace Go.Proofs.B
open Go Go.AH
set_option maxRecDepth 4000
theorem mid_at {b : BoxT} {a : Int} (h0 : 0 ≤ a) (h1 : a ≤ 2) : at_ ([b.Lo.X + b.Hi.X, b.Lo.Y + b.Hi.Y, b.Lo.Z + b.Hi.Z] : List Int) a = mid a b := by
  have : a = 0 ∨ a = 1 ∨ a = 2 := by omega
  rcases this with rfl | rfl | rfl <;> rfl
theorem mid_rng {b : BoxT} (a : Int) (h : okBox b) : -262144 ≤ mid a b ∧ mid a b ≤ 262144 := by
  simp only [okBox, inSp] at h
  unfold mid; split
  · omega
  · split <;> omega
theorem take_all {α : Type} {l : List α} {i : Int} (h : (l.length : Int) ≤ i) : l.take i.toNat = l := List.take_of_length_le (by omega)
theorem maxL_ind {P : Int → Prop} {f : Int → Int → Int} (hf : ∀ x y, P x → P y → P (f x y)) : ∀ (l : List Int) (x : Int), P x → (∀ y ∈ l, P y) → P (l.foldl f x)
  | [], x, hx, _ => hx
  | y :: l, x, hx, h => maxL_ind hf l _ (hf x y hx (h y List.mem_cons_self)) fun z hz => h z (List.mem_cons_of_mem _ hz)
theorem maxL_eq {l : List Int} (h : l ≠ []) : (l.drop 1).foldl max (at_ l 0) = maxL l := by
  cases l with
  | nil => exact absurd rfl h
  | cons x xs => rfl
theorem minL_eq {l : List Int} (h : l ≠ []) : (l.drop 1).foldl min (at_ l 0) = minL l := by
  cases l with
  | nil => exact absurd rfl h
  | cons x xs => rfl
theorem take1_drop {l : List Int} {i : Int} (h0 : 1 ≤ i) (h1 : i < l.length) : ((l.take (i + 1).toNat).drop 1) = (l.take i.toNat).drop 1 ++ [at_ l i] := by
  rw [take_snoc (by omega) h1, List.drop_append_of_le_length (by simp; omega)]
theorem mx_rng {l : List Int} (h : l ≠ []) (hl : ∀ y ∈ l, -262144 ≤ y ∧ y ≤ 262144) : (-262144 ≤ maxL l ∧ maxL l ≤ 262144) ∧ -262144 ≤ minL l ∧ minL l ≤ 262144 := by
  cases l with
  | nil => exact absurd rfl h
  | cons x xs =>
    exact ⟨maxL_ind (P := fun y => -262144 ≤ y ∧ y ≤ 262144) (fun x y h g => by omega) xs x (hl x List.mem_cons_self) fun z hz => hl z (List.mem_cons_of_mem _ hz),
      maxL_ind (P := fun y => -262144 ≤ y ∧ y ≤ 262144) (fun x y h g => by omega) xs x (hl x List.mem_cons_self) fun z hz => hl z (List.mem_cons_of_mem _ hz)⟩
def midsF (bx : List BoxT) (a : Int) (its : List Int) : List Int := its.map fun k => mid a (at_ bx k)
theorem mids_step {bx : List BoxT} {a : Int} {its : List Int} {i : Int} (h0 : 0 ≤ i) (h1 : i < its.length) : midsF bx a (its.take i.toNat) ++ [mid a (at_ bx (at_ its i))] = midsF bx a (its.take (i + 1).toNat) := by
  unfold midsF; rw [take_snoc h0 h1, List.map_append]; rfl
theorem mids_all {bx : List BoxT} {a : Int} {its : List Int} {i : Int} (h : (its.length : Int) ≤ i) : midsF bx a (its.take i.toNat) = midsF bx a its := by rw [take_all h]
theorem mids_ne {bx : List BoxT} {a : Int} {its : List Int} (h : its ≠ []) : midsF bx a its ≠ [] := by simpa [midsF] using h
theorem mids_rng {bx : List BoxT} {a : Int} {its : List Int} (hok : ∀ b ∈ bx, okBox b) (hi : ∀ k ∈ its, 0 ≤ k ∧ k < bx.length) : ∀ y ∈ midsF bx a its, -262144 ≤ y ∧ y ≤ 262144 := by
  intro y hy
  obtain ⟨k, hk, rfl⟩ := List.mem_map.1 hy
  exact mid_rng a (hok _ (at_mem_l (hi k hk).1 (hi k hk).2))
theorem ax_stepT {bx : List BoxT} {its : List Int} {i best far : Int} (h : axFrom bx its i (best, far) = axFrom bx its 0 (0, -1)) (h0 : 0 ≤ i) (h1 : i < 3) (hl : spread bx its i > far) : axFrom bx its (i + 1) (i, spread bx its i) = axFrom bx its 0 (0, -1) := by
  rw [← h]
  have : i = 0 ∨ i = 1 ∨ i = 2 := by omega
  rcases this with rfl | rfl | rfl <;> simp [axFrom, axStep, hl]
theorem ax_stepF {bx : List BoxT} {its : List Int} {i best far : Int} (h : axFrom bx its i (best, far) = axFrom bx its 0 (0, -1)) (h0 : 0 ≤ i) (h1 : i < 3) (hl : ¬ spread bx its i > far) : axFrom bx its (i + 1) (best, far) = axFrom bx its 0 (0, -1) := by
  rw [← h]
  have : i = 0 ∨ i = 1 ∨ i = 2 := by omega
  rcases this with rfl | rfl | rfl <;> simp [axFrom, axStep, hl]
theorem ax_end {bx : List BoxT} {its : List Int} {i best far : Int} (h : axFrom bx its i (best, far) = axFrom bx its 0 (0, -1)) (h1 : 3 ≤ i) : best = axisR bx its := by
  unfold axisR; rw [← h]; unfold axFrom
  rw [if_neg (by omega), if_neg (by omega), if_neg (by omega)]
end Go.Proofs.B
namespace Go.Proofs.B
open Go Go.AH
set_option maxRecDepth 4000
set_option linter.unusedSimpArgs false
set_option linter.unusedVariables false
def R_vec_Add (a : VT) (b : VT) : VT :=
  (VT.mk (a.X + b.X) (a.Y + b.Y) (a.Z + b.Z))
theorem c_vec_Add (a : VT) (b : VT) (ha : (-131072 ≤ a.X ∧ a.X ≤ 131072) ∧ (-131072 ≤ a.Y ∧ a.Y ≤ 131072) ∧ (-131072 ≤ a.Z ∧ a.Z ≤ 131072)) (hb : (-131072 ≤ b.X ∧ b.X ≤ 131072) ∧ (-131072 ≤ b.Y ∧ b.Y ≤ 131072) ∧ (-131072 ≤ b.Z ∧ b.Z ≤ 131072)) : PC Try.prog 45 [.agg [.int .i64 a.X, .int .i64 a.Y, .int .i64 a.Z], .agg [.int .i64 b.X, .int .i64 b.Y, .int .i64 b.Z]] (.agg [.int .i64 ((R_vec_Add a b).X), .int .i64 ((R_vec_Add a b).Y), .int .i64 ((R_vec_Add a b).Z)]) := by
 intro H0
 refine ACalls.of_body' (n := 21) rfl rfl rfl rfl ?_
 have m0 := Mono.refl H0
 refine AWP.seq ?_
 refine AWP.region (l := [0, 1, 2]) rfl ?_
 refine AOps.cons rfl rfl (AOp.box (.agg [.int .i64 a.X, .int .i64 a.Y, .int .i64 a.Z]) rfl rfl rfl ?_)
 intro i1 H2 n3 h4 k5
 have z6 := Mono.free m0 n3
 have m7 := Mono.new m0 n3 k5
 refine AOps.cons rfl rfl (AOp.box (.agg [.int .i64 b.X, .int .i64 b.Y, .int .i64 b.Z]) rfl rfl rfl ?_)
 intro i8 H9 n10 h11 k12
 have e13 := ne_new h4 n10
 have z14 := Mono.free m7 n10
 have h15 := keep k12 (ne_new h4 n10) h4
 have m16 := Mono.new m7 n10 k12
 refine AOps.cons rfl rfl (AOp.alloc rfl tz_24 ?_)
 intro i17 H18 n19 h20 k21
 have e22 := ne_new h15 n19
 have e23 := ne_new h11 n19
 have z24 := Mono.free m16 n19
 have h25 := keep k21 (ne_new h15 n19) h15
 have h26 := keep k21 (ne_new h11 n19) h11
 have m27 := Mono.new m16 n19 k21
 refine AOps.nil ?_
 change AWP _ _ _ _ _ _
 refine AWP.seq ?_
 refine AWP.frzP 2 h25 z6 rfl m27 fun H28 m29 k30 => ?_
 have h31 := (k30 _ (Ne.symm e13)).trans h26
 have h32 := (k30 _ (Ne.symm e22)).trans h20
 refine AWP.frzP 3 h31 z14 rfl m29 fun H33 m34 k35 => ?_
 have h36 := (k35 _ (Ne.symm e23)).trans h32
 refine AWP.region (l := [0, 1, 2, 3, 4, 5, 6, 7, 8, 9, 10, 11, 12, 13, 14, 15, 16]) rfl ?_
 refine AOps.cons rfl rfl (AOp.fieldAddrF rfl rfl fl_24_0 ?_)
 refine AOps.cons rfl rfl (AOp.loadF (.int .i64 a.X) rfl rfl ty_3 rfl ?_)
 refine AOps.cons rfl rfl (AOp.fieldAddrF rfl rfl fl_24_0 ?_)
 refine AOps.cons rfl rfl (AOp.loadF (.int .i64 b.X) rfl rfl ty_3 rfl ?_)
 refine AOps.cons rfl rfl (AOp.bin (.int .i64 (a.X + b.X)) rfl rfl rfl (iadd (by omega)) ?_)
 refine AOps.cons rfl rfl (AOp.fieldAddrF rfl rfl fl_24_1 ?_)
 refine AOps.cons rfl rfl (AOp.loadF (.int .i64 a.Y) rfl rfl ty_3 rfl ?_)
 refine AOps.cons rfl rfl (AOp.fieldAddrF rfl rfl fl_24_1 ?_)
 refine AOps.cons rfl rfl (AOp.loadF (.int .i64 b.Y) rfl rfl ty_3 rfl ?_)
 refine AOps.cons rfl rfl (AOp.bin (.int .i64 (a.Y + b.Y)) rfl rfl rfl (iadd (by omega)) ?_)
 refine AOps.cons rfl rfl (AOp.fieldAddrF rfl rfl fl_24_2 ?_)
 refine AOps.cons rfl rfl (AOp.loadF (.int .i64 a.Z) rfl rfl ty_3 rfl ?_)
 refine AOps.cons rfl rfl (AOp.fieldAddrF rfl rfl fl_24_2 ?_)
 refine AOps.cons rfl rfl (AOp.loadF (.int .i64 b.Z) rfl rfl ty_3 rfl ?_)
 refine AOps.cons rfl rfl (AOp.bin (.int .i64 (a.Z + b.Z)) rfl rfl rfl (iadd (by omega)) ?_)
 refine AOps.cons rfl rfl (AOp.build (cells := [.int .i64 (a.X + b.X), .int .i64 (a.Y + b.Y), .int .i64 (a.Z + b.Z)]) rfl tz_24 pl_24 rfl rfl ?_)
 refine AOps.cons rfl rfl (AOp.store' (cells' := [.int .i64 (a.X + b.X), .int .i64 (a.Y + b.Y), .int .i64 (a.Z + b.Z)]) (.agg [.int .i64 (a.X + b.X), .int .i64 (a.Y + b.Y), .int .i64 (a.Z + b.Z)]) rfl rfl ts_24 h36 rfl rfl rfl rfl ?_)
 intro H37 h38 k39
 have m41 := Mono.set m34 z24 k39
 refine AOps.nil ?_
 change AWP _ _ _ _ _ _
 refine AWP.ret ?_
 refine ⟨_, _, Ghost.refl, .inr rfl, _, Res.list1 rfl (.cell (v := .agg [.int .i64 (a.X + b.X), .int .i64 (a.Y + b.Y), .int .i64 (a.Z + b.Z)]) rfl ty_24 h38 rfl (.nil)), ?_, m41⟩
 have hR : R_vec_Add a b = (VT.mk (a.X + b.X) (a.Y + b.Y) (a.Z + b.Z)) := rfl
 exact (congrArg (fun r : VT => (.agg [.int .i64 r.X, .int .i64 r.Y, .int .i64 r.Z] : AV)) hR).symm
theorem c_middle (b : BoxT) (hb : okBox b) : PC Try.prog 33 [.agg [.int .i64 b.Lo.X, .int .i64 b.Lo.Y, .int .i64 b.Lo.Z, .int .i64 b.Hi.X, .int .i64 b.Hi.Y, .int .i64 b.Hi.Z]] (.agg [.int .i64 (b.Lo.X + b.Hi.X), .int .i64 (b.Lo.Y + b.Hi.Y), .int .i64 (b.Lo.Z + b.Hi.Z)]) := by
 intro H0
 refine ACalls.of_body' (n := 16) rfl rfl rfl rfl ?_
 have m0 := Mono.refl H0
 refine AWP.seq ?_
 refine AWP.region (l := [0, 1]) rfl ?_
 refine AOps.cons rfl rfl (AOp.box (.agg [.int .i64 b.Lo.X, .int .i64 b.Lo.Y, .int .i64 b.Lo.Z, .int .i64 b.Hi.X, .int .i64 b.Hi.Y, .int .i64 b.Hi.Z]) rfl rfl rfl ?_)
 intro i1 H2 n3 h4 k5
 have z6 := Mono.free m0 n3
 have m7 := Mono.new m0 n3 k5
 refine AOps.cons rfl rfl (AOp.alloc rfl tz_70 ?_)
 intro i8 H9 n10 h11 k12
 have e13 := ne_new h4 n10
 have z14 := Mono.free m7 n10
 have h15 := keep k12 (ne_new h4 n10) h4
 have m16 := Mono.new m7 n10 k12
 refine AOps.nil ?_
 change AWP _ _ _ _ _ _
 refine AWP.seq ?_
 refine AWP.frzP 1 h15 z6 rfl m16 fun H17 m18 k19 => ?_
 have h20 := (k19 _ (Ne.symm e13)).trans h11
 simp only [okBox, inSp] at hb
 refine AWP.region (l := [0, 1, 2, 3, 4, 5, 6]) rfl ?_
 refine AOps.cons rfl rfl (AOp.fieldAddrF rfl rfl fl_37_0 ?_)
 refine AOps.cons rfl rfl (AOp.loadF (.agg [.int .i64 b.Lo.X, .int .i64 b.Lo.Y, .int .i64 b.Lo.Z]) rfl rfl ty_24 rfl ?_)
 refine AOps.cons rfl rfl (AOp.fieldAddrF rfl rfl fl_37_1 ?_)
 refine AOps.cons rfl rfl (AOp.loadF (.agg [.int .i64 b.Hi.X, .int .i64 b.Hi.Y, .int .i64 b.Hi.Z]) rfl rfl ty_24 rfl ?_)
 refine AOps.cons rfl rfl (AOp.pcall («as» := [.agg [.int .i64 b.Lo.X, .int .i64 b.Lo.Y, .int .i64 b.Lo.Z], .agg [.int .i64 b.Hi.X, .int .i64 b.Hi.Y, .int .i64 b.Hi.Z]]) rfl rfl (rfl) tf_45 (c_vec_Add b.Lo b.Hi (by first | omega | assumption | (constructor <;> omega) | simp) (by first | omega | assumption | (constructor <;> omega) | simp)) ?_)
 intro H21 m22
 have h23 := m22 _ _ h20
 have m24 := m18.trans m22
 refine AOps.cons rfl rfl (AOp.alloc rfl tz_24 ?_)
 intro i25 H26 n27 h28 k29
 have e30 := ne_new h23 n27
 have z31 := Mono.free m24 n27
 have h32 := keep k29 (ne_new h23 n27) h23
 have m33 := Mono.new m24 n27 k29
 refine AOps.cons rfl rfl (AOp.store' (cells' := [.int .i64 ((R_vec_Add b.Lo b.Hi).X), .int .i64 ((R_vec_Add b.Lo b.Hi).Y), .int .i64 ((R_vec_Add b.Lo b.Hi).Z)]) (.agg [.int .i64 ((R_vec_Add b.Lo b.Hi).X), .int .i64 ((R_vec_Add b.Lo b.Hi).Y), .int .i64 ((R_vec_Add b.Lo b.Hi).Z)]) rfl rfl ts_24 h28 rfl rfl rfl rfl ?_)
 intro H34 h35 k36
 have h37 := keep k36 e30 h32
 have m39 := Mono.set m33 z31 k36
 refine AOps.nil ?_
 change AWP _ _ _ _ _ _
 refine AWP.seq ?_
 refine AWP.frzP 3 h35 z31 rfl m39 fun H40 m41 k42 => ?_
 have h43 := (k42 _ e30).trans h37
 refine AWP.region (l := [0, 1, 2, 3, 4, 5, 6, 7]) rfl ?_
 refine AOps.cons rfl rfl (AOp.fieldAddrF rfl rfl fl_24_0 ?_)
 refine AOps.cons rfl rfl (AOp.loadF (.int .i64 ((R_vec_Add b.Lo b.Hi).X)) rfl rfl ty_3 rfl ?_)
 refine AOps.cons rfl rfl (AOp.fieldAddrF rfl rfl fl_24_1 ?_)
 refine AOps.cons rfl rfl (AOp.loadF (.int .i64 ((R_vec_Add b.Lo b.Hi).Y)) rfl rfl ty_3 rfl ?_)
 refine AOps.cons rfl rfl (AOp.fieldAddrF rfl rfl fl_24_2 ?_)
 refine AOps.cons rfl rfl (AOp.loadF (.int .i64 ((R_vec_Add b.Lo b.Hi).Z)) rfl rfl ty_3 rfl ?_)
 refine AOps.cons rfl rfl (AOp.build (cells := [.int .i64 ((R_vec_Add b.Lo b.Hi).X), .int .i64 ((R_vec_Add b.Lo b.Hi).Y), .int .i64 ((R_vec_Add b.Lo b.Hi).Z)]) rfl tz_70 pl_70 rfl rfl ?_)
 refine AOps.cons rfl rfl (AOp.store' (cells' := [.int .i64 ((R_vec_Add b.Lo b.Hi).X), .int .i64 ((R_vec_Add b.Lo b.Hi).Y), .int .i64 ((R_vec_Add b.Lo b.Hi).Z)]) (.agg [.int .i64 ((R_vec_Add b.Lo b.Hi).X), .int .i64 ((R_vec_Add b.Lo b.Hi).Y), .int .i64 ((R_vec_Add b.Lo b.Hi).Z)]) rfl rfl ts_70 h43 rfl rfl rfl rfl ?_)
 intro H44 h45 k46
 have m48 := Mono.set m41 z14 k46
 refine AOps.nil ?_
 change AWP _ _ _ _ _ _
 refine AWP.ret ?_
 refine ⟨_, _, Ghost.refl, .inr rfl, _, Res.list1 rfl (.cell (v := .agg [.int .i64 ((R_vec_Add b.Lo b.Hi).X), .int .i64 ((R_vec_Add b.Lo b.Hi).Y), .int .i64 ((R_vec_Add b.Lo b.Hi).Z)]) rfl ty_70 h45 rfl (.nil)), ?_, m48⟩
 exact (congrArg AV.agg (lc (congrArg (AV.int .i64) (show ((R_vec_Add b.Lo b.Hi).X : Int) = b.Lo.X + b.Hi.X from by rfl)) (lc (congrArg (AV.int .i64) (show ((R_vec_Add b.Lo b.Hi).Y : Int) = b.Lo.Y + b.Hi.Y from by rfl)) (lc (congrArg (AV.int .i64) (show ((R_vec_Add b.Lo b.Hi).Z : Int) = b.Lo.Z + b.Hi.Z from by rfl)) rfl))))
theorem c_cmp (bx : List BoxT) (hok : ∀ b ∈ bx, okBox b) (leaf a i k : Int) (ha : 0 ≤ a ∧ a ≤ 2) (hi : 0 ≤ i ∧ i < bx.length) (hk : 0 ≤ k ∧ k < bx.length) : PC Try.prog 30 [.int .i64 i, .int .i64 k, .fptr [.fptr [.undef, .undef, .sl bx.length (bx.flatMap eBox), .int .i64 leaf] 0] 0, .fptr [.int .i64 a] 0] (.int .i64 (orL [cmpI (mid a (at_ bx i)) (mid a (at_ bx k)), cmpI i k])) := by
 intro H0
 refine ACalls.of_body' (n := 33) rfl rfl rfl rfl ?_
 have m0 := Mono.refl H0
 refine AWP.seq ?_
 refine AWP.region (l := [0]) rfl ?_
 refine AOps.cons rfl rfl (AOp.assign (.int .i64 0) rfl rfl ?_)
 refine AOps.nil ?_
 change AWP _ _ _ _ _ _
 refine AWP.seq ?_
 refine AWP.region_quiet mixed (by kernel_rfl) 24 [24, 25, 26] rfl (by kernel_rfl) (Mono H0) (Mono.refl _) ?_
 refine QE.op rfl rfl (.inl ⟨rfl, fun f' H' hf hM => AOp.loadF (.fptr [.undef, .undef, .sl bx.length (bx.flatMap eBox), .int .i64 leaf] 0) rfl ((hf 2 rfl).trans rfl) ty_54 rfl ⟨rfl, hM⟩⟩) ?_
 refine QE.op rfl rfl (.inl ⟨rfl, fun f' H' hf hM => AOp.nilCheck (.fptr [.undef, .undef, .sl bx.length (bx.flatMap eBox), .int .i64 leaf] 0) rfl ((hf 7 rfl).trans rfl) rfl ⟨rfl, hM⟩⟩) ?_
 refine QE.op rfl rfl (.inl ⟨rfl, fun f' H' hf hM => AOp.fieldAddrF rfl ((hf 8 rfl).trans rfl) fl_56_1 ⟨rfl, hM⟩⟩) ?_
 refine QE.op rfl rfl (.inl ⟨rfl, fun f' H' hf hM => AOp.loadF (.sl bx.length (bx.flatMap eBox)) rfl ((hf 9 rfl).trans rfl) ty_22 rfl ⟨rfl, hM⟩⟩) ?_
 refine QE.op rfl rfl (.inl ⟨rfl, fun f' H' hf hM => AOp.move (.int .i64 i) rfl ((hf 0 rfl).trans rfl) ⟨rfl, hM⟩⟩) ?_
 refine QE.op rfl rfl (.inl ⟨rfl, fun f' H' hf hM => AOp.indexAddrS rfl ((hf 10 rfl).trans rfl) ((hf 11 rfl).trans rfl) sl_22 (by omega) (by omega) ⟨rfl, hM⟩⟩) ?_
 refine QE.op rfl rfl (.inl ⟨rfl, fun f' H' hf hM => AOp.loadF (.agg [.int .i64 (((at_ bx i).Lo).X), .int .i64 (((at_ bx i).Lo).Y), .int .i64 (((at_ bx i).Lo).Z), .int .i64 (((at_ bx i).Hi).X), .int .i64 (((at_ bx i).Hi).Y), .int .i64 (((at_ bx i).Hi).Z)]) rfl ((hf 12 rfl).trans rfl) ty_37 (ldM eBox_len (by omega) (by omega)) ⟨rfl, hM⟩⟩) ?_
 refine QE.op rfl rfl (.inl ⟨rfl, fun f' H' hf hM => AOp.pcall («as» := [.agg [.int .i64 (((at_ bx i).Lo).X), .int .i64 (((at_ bx i).Lo).Y), .int .i64 (((at_ bx i).Lo).Z), .int .i64 (((at_ bx i).Hi).X), .int .i64 (((at_ bx i).Hi).Y), .int .i64 (((at_ bx i).Hi).Z)]]) rfl rfl (lapp (lcons ((hf 13 rfl).trans rfl) rfl) rfl) tf_33 (c_middle (at_ bx i) (hok _ (at_mem_l (by omega) (by omega)))) fun H2 m2 => ⟨rfl, hM.trans m2⟩⟩) ?_
 refine QE.op rfl rfl (.inl ⟨rfl, fun f' H' hf hM => AOp.loadF (.int .i64 a) rfl ((hf 3 rfl).trans rfl) ty_3 rfl ⟨rfl, hM⟩⟩) ?_
 refine QE.op rfl rfl (.inl ⟨rfl, fun f' H' hf hM => AOp.indexArr (.int .i64 (at_ ([(at_ bx i).Lo.X + (at_ bx i).Hi.X, (at_ bx i).Lo.Y + (at_ bx i).Hi.Y, (at_ bx i).Lo.Z + (at_ bx i).Hi.Z] : List Int) a)) rfl ((hf 14 rfl).trans rfl) ((hf 15 rfl).trans rfl) ar_70 (by omega) (by omega) (ld1 (i := a) (xs := ([(at_ bx i).Lo.X + (at_ bx i).Hi.X, (at_ bx i).Lo.Y + (at_ bx i).Hi.Y, (at_ bx i).Lo.Z + (at_ bx i).Hi.Z] : List Int)) (by omega) (by first | (have := (rfl : ([(at_ bx i).Lo.X + (at_ bx i).Hi.X, (at_ bx i).Lo.Y + (at_ bx i).Hi.Y, (at_ bx i).Lo.Z + (at_ bx i).Hi.Z] : List Int).length = 3); omega) | (simp; omega))) ⟨rfl, hM⟩⟩) ?_
 refine QE.op rfl rfl (.inl ⟨rfl, fun f' H' hf hM => AOp.loadF (.fptr [.undef, .undef, .sl bx.length (bx.flatMap eBox), .int .i64 leaf] 0) rfl ((hf 2 rfl).trans rfl) ty_54 rfl ⟨rfl, hM⟩⟩) ?_
 refine QE.op rfl rfl (.inl ⟨rfl, fun f' H' hf hM => AOp.nilCheck (.fptr [.undef, .undef, .sl bx.length (bx.flatMap eBox), .int .i64 leaf] 0) rfl ((hf 17 rfl).trans rfl) rfl ⟨rfl, hM⟩⟩) ?_
 refine QE.op rfl rfl (.inl ⟨rfl, fun f' H' hf hM => AOp.fieldAddrF rfl ((hf 18 rfl).trans rfl) fl_56_1 ⟨rfl, hM⟩⟩) ?_
 refine QE.op rfl rfl (.inl ⟨rfl, fun f' H' hf hM => AOp.loadF (.sl bx.length (bx.flatMap eBox)) rfl ((hf 19 rfl).trans rfl) ty_22 rfl ⟨rfl, hM⟩⟩) ?_
 refine QE.op rfl rfl (.inl ⟨rfl, fun f' H' hf hM => AOp.move (.int .i64 k) rfl ((hf 1 rfl).trans rfl) ⟨rfl, hM⟩⟩) ?_
 refine QE.op rfl rfl (.inl ⟨rfl, fun f' H' hf hM => AOp.indexAddrS rfl ((hf 20 rfl).trans rfl) ((hf 21 rfl).trans rfl) sl_22 (by omega) (by omega) ⟨rfl, hM⟩⟩) ?_
 refine QE.op rfl rfl (.inl ⟨rfl, fun f' H' hf hM => AOp.loadF (.agg [.int .i64 (((at_ bx k).Lo).X), .int .i64 (((at_ bx k).Lo).Y), .int .i64 (((at_ bx k).Lo).Z), .int .i64 (((at_ bx k).Hi).X), .int .i64 (((at_ bx k).Hi).Y), .int .i64 (((at_ bx k).Hi).Z)]) rfl ((hf 22 rfl).trans rfl) ty_37 (ldM eBox_len (by omega) (by omega)) ⟨rfl, hM⟩⟩) ?_
 refine QE.op rfl rfl (.inl ⟨rfl, fun f' H' hf hM => AOp.pcall («as» := [.agg [.int .i64 (((at_ bx k).Lo).X), .int .i64 (((at_ bx k).Lo).Y), .int .i64 (((at_ bx k).Lo).Z), .int .i64 (((at_ bx k).Hi).X), .int .i64 (((at_ bx k).Hi).Y), .int .i64 (((at_ bx k).Hi).Z)]]) rfl rfl (lapp (lcons ((hf 23 rfl).trans rfl) rfl) rfl) tf_33 (c_middle (at_ bx k) (hok _ (at_mem_l (by omega) (by omega)))) fun H2 m2 => ⟨rfl, hM.trans m2⟩⟩) ?_
 refine QE.op rfl rfl (.inl ⟨rfl, fun f' H' hf hM => AOp.loadF (.int .i64 a) rfl ((hf 3 rfl).trans rfl) ty_3 rfl ⟨rfl, hM⟩⟩) ?_
 refine QE.op rfl rfl (.inl ⟨rfl, fun f' H' hf hM => AOp.indexArr (.int .i64 (at_ ([(at_ bx k).Lo.X + (at_ bx k).Hi.X, (at_ bx k).Lo.Y + (at_ bx k).Hi.Y, (at_ bx k).Lo.Z + (at_ bx k).Hi.Z] : List Int) a)) rfl ((hf 24 rfl).trans rfl) ((hf 25 rfl).trans rfl) ar_70 (by omega) (by omega) (ld1 (i := a) (xs := ([(at_ bx k).Lo.X + (at_ bx k).Hi.X, (at_ bx k).Lo.Y + (at_ bx k).Hi.Y, (at_ bx k).Lo.Z + (at_ bx k).Hi.Z] : List Int)) (by omega) (by first | (have := (rfl : ([(at_ bx k).Lo.X + (at_ bx k).Hi.X, (at_ bx k).Lo.Y + (at_ bx k).Hi.Y, (at_ bx k).Lo.Z + (at_ bx k).Hi.Z] : List Int).length = 3); omega) | (simp; omega))) ⟨rfl, hM⟩⟩) ?_
 refine QE.op rfl rfl (.inl ⟨rfl, fun f' H' hf hM => AOp.pcall («as» := [.int .i64 (at_ ([(at_ bx i).Lo.X + (at_ bx i).Hi.X, (at_ bx i).Lo.Y + (at_ bx i).Hi.Y, (at_ bx i).Lo.Z + (at_ bx i).Hi.Z] : List Int) a), .int .i64 (at_ ([(at_ bx k).Lo.X + (at_ bx k).Hi.X, (at_ bx k).Lo.Y + (at_ bx k).Hi.Y, (at_ bx k).Lo.Z + (at_ bx k).Hi.Z] : List Int) a)]) rfl rfl (lapp (lcons ((hf 16 rfl).trans rfl) (lcons ((hf 26 rfl).trans rfl) rfl)) rfl) tf_32 (c_Compare_int _ _) fun H2 m2 => ⟨rfl, hM.trans m2⟩⟩) ?_
 refine QE.op rfl rfl (.inl ⟨rfl, fun f' H' hf hM => AOp.move (.int .i64 i) rfl ((hf 0 rfl).trans rfl) ⟨rfl, hM⟩⟩) ?_
 refine QE.op rfl rfl (.inl ⟨rfl, fun f' H' hf hM => AOp.move (.int .i64 k) rfl ((hf 1 rfl).trans rfl) ⟨rfl, hM⟩⟩) ?_
 refine QE.op rfl rfl (.inl ⟨rfl, fun f' H' hf hM => AOp.pcall («as» := [.int .i64 i, .int .i64 k]) rfl rfl (lapp (lcons ((hf 28 rfl).trans rfl) (lcons ((hf 29 rfl).trans rfl) rfl)) rfl) tf_32 (c_Compare_int _ _) fun H2 m2 => ⟨rfl, hM.trans m2⟩⟩) ?_
 refine QE.done fun H1 m2 => ?_
 have m3 := m0.trans m2
 refine AOps.cons rfl rfl (AOp.buildSlice (cells := [.int .i64 (cmpI (at_ ([(at_ bx i).Lo.X + (at_ bx i).Hi.X, (at_ bx i).Lo.Y + (at_ bx i).Hi.Y, (at_ bx i).Lo.Z + (at_ bx i).Hi.Z] : List Int) a) (at_ ([(at_ bx k).Lo.X + (at_ bx k).Hi.X, (at_ bx k).Lo.Y + (at_ bx k).Hi.Y, (at_ bx k).Lo.Z + (at_ bx k).Hi.Z] : List Int) a)), .int .i64 (cmpI i k)]) rfl u_27 ts_3 tz_3 rfl rfl rfl ?_)
 intro i4 H5 n6 h7 k8
 have z9 := Mono.free m3 n6
 have m10 := Mono.new m3 n6 k8
 obtain ⟨v11, e12⟩ : ∃ v : AV, v = .slm i4 0 1 0 2 := ⟨_, rfl⟩
 have o13 : Own H0 H5 1 v11 2 [.int .i64 (cmpI (at_ ([(at_ bx i).Lo.X + (at_ bx i).Hi.X, (at_ bx i).Lo.Y + (at_ bx i).Hi.Y, (at_ bx i).Lo.Z + (at_ bx i).Hi.Z] : List Int) a) (at_ ([(at_ bx k).Lo.X + (at_ bx k).Hi.X, (at_ bx k).Lo.Y + (at_ bx k).Hi.Y, (at_ bx k).Lo.Z + (at_ bx k).Hi.Z] : List Int) a)), .int .i64 (cmpI i k)] := .inr ⟨_, _, e12, h7, z9, rfl⟩
 refine AOps.cons rfl rfl ?_
 refine AOp.frz 31 (o13) e12.symm m10 fun H14 m15 k16 => ?_
 refine AOp.pcall («as» := [.sl ([cmpI (at_ ([(at_ bx i).Lo.X + (at_ bx i).Hi.X, (at_ bx i).Lo.Y + (at_ bx i).Hi.Y, (at_ bx i).Lo.Z + (at_ bx i).Hi.Z] : List Int) a) (at_ ([(at_ bx k).Lo.X + (at_ bx k).Hi.X, (at_ bx k).Lo.Y + (at_ bx k).Hi.Y, (at_ bx k).Lo.Z + (at_ bx k).Hi.Z] : List Int) a), cmpI i k] : List Int).length (([cmpI (at_ ([(at_ bx i).Lo.X + (at_ bx i).Hi.X, (at_ bx i).Lo.Y + (at_ bx i).Hi.Y, (at_ bx i).Lo.Z + (at_ bx i).Hi.Z] : List Int) a) (at_ ([(at_ bx k).Lo.X + (at_ bx k).Hi.X, (at_ bx k).Lo.Y + (at_ bx k).Hi.Y, (at_ bx k).Lo.Z + (at_ bx k).Hi.Z] : List Int) a), cmpI i k] : List Int).map eI)]) rfl rfl (rfl) tf_31 (c_Or ([cmpI (at_ ([(at_ bx i).Lo.X + (at_ bx i).Hi.X, (at_ bx i).Lo.Y + (at_ bx i).Hi.Y, (at_ bx i).Lo.Z + (at_ bx i).Hi.Z] : List Int) a) (at_ ([(at_ bx k).Lo.X + (at_ bx k).Hi.X, (at_ bx k).Lo.Y + (at_ bx k).Hi.Y, (at_ bx k).Lo.Z + (at_ bx k).Hi.Z] : List Int) a), cmpI i k] : List Int) (by first | omega | assumption | (simp; omega) | simp)) ?_
 intro H17 m18
 have m19 := m15.trans m18
 refine AOps.cons rfl rfl (AOp.assign (.int .i64 (orL ([cmpI (at_ ([(at_ bx i).Lo.X + (at_ bx i).Hi.X, (at_ bx i).Lo.Y + (at_ bx i).Hi.Y, (at_ bx i).Lo.Z + (at_ bx i).Hi.Z] : List Int) a) (at_ ([(at_ bx k).Lo.X + (at_ bx k).Hi.X, (at_ bx k).Lo.Y + (at_ bx k).Hi.Y, (at_ bx k).Lo.Z + (at_ bx k).Hi.Z] : List Int) a), cmpI i k] : List Int))) rfl rfl ?_)
 refine AOps.nil ?_
 change AWP _ _ _ _ _ _
 refine AWP.ret ?_
 refine ⟨_, _, Ghost.refl, .inr rfl, _, Res.one rfl rfl, ?_, m19⟩
 exact (congrArg (AV.int .i64) (show (orL ([cmpI (at_ ([(at_ bx i).Lo.X + (at_ bx i).Hi.X, (at_ bx i).Lo.Y + (at_ bx i).Hi.Y, (at_ bx i).Lo.Z + (at_ bx i).Hi.Z] : List Int) a) (at_ ([(at_ bx k).Lo.X + (at_ bx k).Hi.X, (at_ bx k).Lo.Y + (at_ bx k).Hi.Y, (at_ bx k).Lo.Z + (at_ bx k).Hi.Z] : List Int) a), cmpI i k] : List Int) : Int) = orL [cmpI (mid a (at_ bx i)) (mid a (at_ bx k)), cmpI i k] from by rw [← mid_at (b := at_ bx i) ha.1 ha.2, ← mid_at (b := at_ bx k) ha.1 ha.2]))
theorem c_Max (l : (List Int)) (h_l : l.length ≤ 1048576) (h1 : 1 ≤ l.length) : PC Try.prog 40 [.sl l.length (l.map eI)] (.int .i64 (maxL l)) := by
 intro H0
 refine ACalls.of_body' (n := 25) rfl rfl rfl rfl ?_
 have m0 := Mono.refl H0
 refine AWP.seq ?_
 refine AWP.region (l := [0]) rfl ?_
 refine AOps.cons rfl rfl (AOp.assign (.int .i64 0) rfl rfl ?_)
 refine AOps.nil ?_
 change AWP _ _ _ _ _ _
 refine AWP.seq ?_
 refine AWP.seq ?_
 refine AWP.region (l := [0, 1, 2]) rfl ?_
 refine AOps.cons rfl rfl (AOp.move (.sl l.length (l.map eI)) rfl rfl ?_)
 refine AOps.cons rfl rfl (AOp.len (m := l.length) rfl rfl (.inr (.inl ⟨_, rfl⟩)) u_27 ?_)
 refine AOps.cons rfl rfl (AOp.bin (.bool (decide ((l.length : Int) < 1))) rfl rfl rfl rfl ?_)
 refine AOps.nil ?_
 change AWP _ _ _ _ _ _
 refine AWP.condF rfl (decide_eq_false ((by omega))) ?_
 refine AWP.skip ?_
 change AWP _ _ _ _ _ _
 refine AWP.seq ?_
 refine AWP.region (l := [0, 1, 2, 3]) rfl ?_
 refine AOps.cons rfl rfl (AOp.move (.sl l.length (l.map eI)) rfl rfl ?_)
 refine AOps.cons rfl rfl (AOp.indexAddrS rfl rfl rfl sl_27 (by omega) (by omega) ?_)
 refine AOps.cons rfl rfl (AOp.loadF (.int .i64 (at_ l 0)) rfl rfl ty_3 (ld1 (by omega) (by omega)) ?_)
 refine AOps.cons rfl rfl (AOp.assign (.int .i64 (at_ l 0)) rfl rfl ?_)
 refine AOps.nil ?_
 change AWP _ _ _ _ _ _
 refine AWP.seq ?_
 refine AWP.seq ?_
 refine AWP.region (l := [0]) rfl ?_
 refine AOps.cons rfl rfl (AOp.assign (.int .i64 1) rfl rfl ?_)
 refine AOps.nil ?_
 change AWP _ _ _ _ _ _
 refine AWP.block ?_
 refine AWP.loop (fun q1 fq Hq => ∃ (i : Int), q1 = (((l.length : Int) : Int) - i).toNat ∧ fq 4 = .int .i64 i ∧ fq 3 = .int .i64 (((l.take i.toNat).drop 1).foldl max (at_ l 0)) ∧ fq 0 = .sl l.length (l.map eI) ∧ fq 2 = .int .i64 0 ∧ Mono H0 Hq ∧ (0 ≤ i) ∧ (i ≤ (l.length : Int)) ∧ (1 ≤ i)) (k := (((l.length : Int) : Int) - 1).toNat) ?_ ?_
 ·
  exact ⟨1, rfl, rfl, (congrArg (AV.int .i64) (show (at_ l 0 : Int) = ((l.take (1 : Int).toNat).drop 1).foldl max (at_ l 0) from by first | rfl | (rw [List.drop_eq_nil_of_le (by simp; omega)]; rfl))), rfl, rfl, m0, by omega, by omega, by omega⟩
 ·
  rintro _ f3 H2 ⟨i, rfl, s4, s5, s6, s7, m8, hi0, hi1, hi2⟩
  refine AWP.seq ?_
  refine AWP.seq ?_
  refine AWP.region (l := [0, 1, 2, 3]) rfl ?_
  refine AOps.cons rfl rfl (AOp.move (.int .i64 i) rfl s4 ?_)
  refine AOps.cons rfl rfl (AOp.move (.sl l.length (l.map eI)) rfl s6 ?_)
  refine AOps.cons rfl rfl (AOp.len (m := l.length) rfl rfl (.inr (.inl ⟨_, rfl⟩)) u_27 ?_)
  refine AOps.cons rfl rfl (AOp.bin (.bool (decide (i < (l.length : Int)))) rfl rfl rfl rfl ?_)
  refine AOps.nil ?_
  change AWP _ _ _ _ _ _
  by_cases b9 : i < (l.length : Int)
  ·
   refine AWP.condT rfl (decide_eq_true b9) ?_
   refine AWP.skip ?_
   change AWP _ _ _ _ _ _
   refine AWP.seq ?_
   refine AWP.block ?_
   refine AWP.region (l := [0, 1, 2, 3, 4, 5, 6]) rfl ?_
   refine AOps.cons rfl rfl (AOp.move (.int .i64 (((l.take i.toNat).drop 1).foldl max (at_ l 0))) rfl s5 ?_)
   refine AOps.cons rfl rfl (AOp.move (.sl l.length (l.map eI)) rfl s6 ?_)
   refine AOps.cons rfl rfl (AOp.move (.int .i64 i) rfl s4 ?_)
   refine AOps.cons rfl rfl (AOp.indexAddrS rfl rfl rfl sl_27 (by omega) (by omega) ?_)
   refine AOps.cons rfl rfl (AOp.loadF (.int .i64 (at_ l i)) rfl rfl ty_3 (ld1 (by omega) (by omega)) ?_)
   refine AOps.cons rfl rfl (AOp.max2 rfl rfl rfl ?_)
   refine AOps.cons rfl rfl (AOp.assign (.int .i64 (max (((l.take i.toNat).drop 1).foldl max (at_ l 0)) (at_ l i))) rfl rfl ?_)
   refine AOps.nil ?_
   change AWP _ _ _ _ _ _
   refine AWP.region (l := [0, 1, 2]) rfl ?_
   refine AOps.cons rfl rfl (AOp.move (.int .i64 i) rfl s4 ?_)
   refine AOps.cons rfl rfl (AOp.bin (.int .i64 (i + 1)) rfl rfl rfl (iadd (by omega)) ?_)
   refine AOps.cons rfl rfl (AOp.assign (.int .i64 (i + 1)) rfl rfl ?_)
   refine AOps.nil ?_
   exact ⟨_, by omega, i + 1, rfl, rfl, (congrArg (AV.int .i64) (show (max (((l.take i.toNat).drop 1).foldl max (at_ l 0)) (at_ l i) : Int) = ((l.take (i + 1).toNat).drop 1).foldl max (at_ l 0) from by rw [take1_drop hi2 (by omega), List.foldl_append]; rfl)), s6, s7, m8, by omega, by omega, by omega⟩
  ·
   refine AWP.condF rfl (decide_eq_false b9) ?_
   refine AWP.exit ?_
   change AWP _ _ _ _ _ _
   refine AWP.seq ?_
   refine AWP.region (l := [0, 1]) rfl ?_
   refine AOps.cons rfl rfl (AOp.move (.int .i64 (((l.take i.toNat).drop 1).foldl max (at_ l 0))) rfl s5 ?_)
   refine AOps.cons rfl rfl (AOp.assign (.int .i64 (((l.take i.toNat).drop 1).foldl max (at_ l 0))) rfl rfl ?_)
   refine AOps.nil ?_
   change AWP _ _ _ _ _ _
   refine AWP.ret ?_
   refine ⟨_, _, Ghost.refl, .inr rfl, _, Res.one rfl rfl, ?_, m8⟩
   exact (congrArg (AV.int .i64) (show (((l.take i.toNat).drop 1).foldl max (at_ l 0) : Int) = maxL l from by rw [take_all (by omega)]; exact maxL_eq (by intro e; rw [e] at h1; simp at h1)))
theorem c_Min (l : (List Int)) (h_l : l.length ≤ 1048576) (h1 : 1 ≤ l.length) : PC Try.prog 41 [.sl l.length (l.map eI)] (.int .i64 (minL l)) := by
 intro H0
 refine ACalls.of_body' (n := 25) rfl rfl rfl rfl ?_
 have m0 := Mono.refl H0
 refine AWP.seq ?_
 refine AWP.region (l := [0]) rfl ?_
 refine AOps.cons rfl rfl (AOp.assign (.int .i64 0) rfl rfl ?_)
 refine AOps.nil ?_
 change AWP _ _ _ _ _ _
 refine AWP.seq ?_
 refine AWP.seq ?_
 refine AWP.region (l := [0, 1, 2]) rfl ?_
 refine AOps.cons rfl rfl (AOp.move (.sl l.length (l.map eI)) rfl rfl ?_)
 refine AOps.cons rfl rfl (AOp.len (m := l.length) rfl rfl (.inr (.inl ⟨_, rfl⟩)) u_27 ?_)
 refine AOps.cons rfl rfl (AOp.bin (.bool (decide ((l.length : Int) < 1))) rfl rfl rfl rfl ?_)
 refine AOps.nil ?_
 change AWP _ _ _ _ _ _
 refine AWP.condF rfl (decide_eq_false ((by omega))) ?_
 refine AWP.skip ?_
 change AWP _ _ _ _ _ _
 refine AWP.seq ?_
 refine AWP.region (l := [0, 1, 2, 3]) rfl ?_
 refine AOps.cons rfl rfl (AOp.move (.sl l.length (l.map eI)) rfl rfl ?_)
 refine AOps.cons rfl rfl (AOp.indexAddrS rfl rfl rfl sl_27 (by omega) (by omega) ?_)
 refine AOps.cons rfl rfl (AOp.loadF (.int .i64 (at_ l 0)) rfl rfl ty_3 (ld1 (by omega) (by omega)) ?_)
 refine AOps.cons rfl rfl (AOp.assign (.int .i64 (at_ l 0)) rfl rfl ?_)
 refine AOps.nil ?_
 change AWP _ _ _ _ _ _
 refine AWP.seq ?_
 refine AWP.seq ?_
 refine AWP.region (l := [0]) rfl ?_
 refine AOps.cons rfl rfl (AOp.assign (.int .i64 1) rfl rfl ?_)
 refine AOps.nil ?_
 change AWP _ _ _ _ _ _
 refine AWP.block ?_
 refine AWP.loop (fun q1 fq Hq => ∃ (i : Int), q1 = (((l.length : Int) : Int) - i).toNat ∧ fq 4 = .int .i64 i ∧ fq 3 = .int .i64 (((l.take i.toNat).drop 1).foldl min (at_ l 0)) ∧ fq 0 = .sl l.length (l.map eI) ∧ fq 2 = .int .i64 0 ∧ Mono H0 Hq ∧ (0 ≤ i) ∧ (i ≤ (l.length : Int)) ∧ (1 ≤ i)) (k := (((l.length : Int) : Int) - 1).toNat) ?_ ?_
 ·
  exact ⟨1, rfl, rfl, (congrArg (AV.int .i64) (show (at_ l 0 : Int) = ((l.take (1 : Int).toNat).drop 1).foldl min (at_ l 0) from by first | rfl | (rw [List.drop_eq_nil_of_le (by simp; omega)]; rfl))), rfl, rfl, m0, by omega, by omega, by omega⟩
 ·
  rintro _ f3 H2 ⟨i, rfl, s4, s5, s6, s7, m8, hi0, hi1, hi2⟩
  refine AWP.seq ?_
  refine AWP.seq ?_
  refine AWP.region (l := [0, 1, 2, 3]) rfl ?_
  refine AOps.cons rfl rfl (AOp.move (.int .i64 i) rfl s4 ?_)
  refine AOps.cons rfl rfl (AOp.move (.sl l.length (l.map eI)) rfl s6 ?_)
  refine AOps.cons rfl rfl (AOp.len (m := l.length) rfl rfl (.inr (.inl ⟨_, rfl⟩)) u_27 ?_)
  refine AOps.cons rfl rfl (AOp.bin (.bool (decide (i < (l.length : Int)))) rfl rfl rfl rfl ?_)
  refine AOps.nil ?_
  change AWP _ _ _ _ _ _
  by_cases b9 : i < (l.length : Int)
  ·
   refine AWP.condT rfl (decide_eq_true b9) ?_
   refine AWP.skip ?_
   change AWP _ _ _ _ _ _
   refine AWP.seq ?_
   refine AWP.block ?_
   refine AWP.region (l := [0, 1, 2, 3, 4, 5, 6]) rfl ?_
   refine AOps.cons rfl rfl (AOp.move (.int .i64 (((l.take i.toNat).drop 1).foldl min (at_ l 0))) rfl s5 ?_)
   refine AOps.cons rfl rfl (AOp.move (.sl l.length (l.map eI)) rfl s6 ?_)
   refine AOps.cons rfl rfl (AOp.move (.int .i64 i) rfl s4 ?_)
   refine AOps.cons rfl rfl (AOp.indexAddrS rfl rfl rfl sl_27 (by omega) (by omega) ?_)
   refine AOps.cons rfl rfl (AOp.loadF (.int .i64 (at_ l i)) rfl rfl ty_3 (ld1 (by omega) (by omega)) ?_)
   refine AOps.cons rfl rfl (AOp.min2 rfl rfl rfl ?_)
   refine AOps.cons rfl rfl (AOp.assign (.int .i64 (min (((l.take i.toNat).drop 1).foldl min (at_ l 0)) (at_ l i))) rfl rfl ?_)
   refine AOps.nil ?_
   change AWP _ _ _ _ _ _
   refine AWP.region (l := [0, 1, 2]) rfl ?_
   refine AOps.cons rfl rfl (AOp.move (.int .i64 i) rfl s4 ?_)
   refine AOps.cons rfl rfl (AOp.bin (.int .i64 (i + 1)) rfl rfl rfl (iadd (by omega)) ?_)
   refine AOps.cons rfl rfl (AOp.assign (.int .i64 (i + 1)) rfl rfl ?_)
   refine AOps.nil ?_
   exact ⟨_, by omega, i + 1, rfl, rfl, (congrArg (AV.int .i64) (show (min (((l.take i.toNat).drop 1).foldl min (at_ l 0)) (at_ l i) : Int) = ((l.take (i + 1).toNat).drop 1).foldl min (at_ l 0) from by rw [take1_drop hi2 (by omega), List.foldl_append]; rfl)), s6, s7, m8, by omega, by omega, by omega⟩
  ·
   refine AWP.condF rfl (decide_eq_false b9) ?_
   refine AWP.exit ?_
   change AWP _ _ _ _ _ _
   refine AWP.seq ?_
   refine AWP.region (l := [0, 1]) rfl ?_
   refine AOps.cons rfl rfl (AOp.move (.int .i64 (((l.take i.toNat).drop 1).foldl min (at_ l 0))) rfl s5 ?_)
   refine AOps.cons rfl rfl (AOp.assign (.int .i64 (((l.take i.toNat).drop 1).foldl min (at_ l 0))) rfl rfl ?_)
   refine AOps.nil ?_
   change AWP _ _ _ _ _ _
   refine AWP.ret ?_
   refine ⟨_, _, Ghost.refl, .inr rfl, _, Res.one rfl rfl, ?_, m8⟩
   exact (congrArg (AV.int .i64) (show (((l.take i.toNat).drop 1).foldl min (at_ l 0) : Int) = minL l from by rw [take_all (by omega)]; exact minL_eq (by intro e; rw [e] at h1; simp at h1)))
theorem c_axis (bx : List BoxT) (hok : ∀ b ∈ bx, okBox b) (leaf : Int) (its : List Int) (hl : its.length ≤ 1048576) (hne : its ≠ []) (hin : ∀ k ∈ its, 0 ≤ k ∧ k < bx.length) : PC Try.prog 28 [.fptr [.undef, .undef, .sl bx.length (bx.flatMap eBox), .int .i64 leaf] 0, .sl its.length (its.map eI)] (.int .i64 (axisR bx its)) := by
 intro H0
 refine ACalls.of_body' (n := 47) rfl rfl rfl rfl ?_
 have m0 := Mono.refl H0
 refine AWP.seq ?_
 refine AWP.region (l := [0]) rfl ?_
 refine AOps.cons rfl rfl (AOp.assign (.int .i64 0) rfl rfl ?_)
 refine AOps.nil ?_
 change AWP _ _ _ _ _ _
 refine AWP.seq ?_
 refine AWP.region (l := [0, 1]) rfl ?_
 refine AOps.cons rfl rfl (AOp.assign (.int .i64 0) rfl rfl ?_)
 refine AOps.cons rfl rfl (AOp.assign (.int .i64 (-1)) rfl rfl ?_)
 refine AOps.nil ?_
 change AWP _ _ _ _ _ _
 refine AWP.seq ?_
 refine AWP.seq ?_
 refine AWP.region (l := [0]) rfl ?_
 refine AOps.cons rfl rfl (AOp.move (.int .i64 0) rfl rfl ?_)
 refine AOps.nil ?_
 change AWP _ _ _ _ _ _
 refine AWP.block ?_
 refine AWP.loop (fun q1 fq Hq => ∃ (a : Int) (best : Int) (far : Int), q1 = ((3 : Int) - a).toNat ∧ fq 12 = .int .i64 a ∧ fq 5 = .int .i64 best ∧ fq 6 = .int .i64 far ∧ fq 0 = .fptr [.undef, .undef, .sl bx.length (bx.flatMap eBox), .int .i64 leaf] 0 ∧ fq 1 = .sl its.length (its.map eI) ∧ fq 4 = .int .i64 0 ∧ Mono H0 Hq ∧ (0 ≤ a) ∧ (a ≤ 3) ∧ (axFrom bx its a (best, far) = axFrom bx its 0 (0, -1)) ∧ (0 ≤ best ∧ best ≤ 2)) (k := ((3 : Int) - 0).toNat) ?_ ?_
 ·
  exact ⟨0, 0, -1, rfl, rfl, rfl, rfl, rfl, rfl, rfl, m0, by omega, by omega, by rfl, by omega⟩
 ·
  rintro _ f3 H2 ⟨a, best, far, rfl, s4, s5, s6, s7, s8, s9, m10, ha0, ha1, hax, hb⟩
  refine AWP.seq ?_
  refine AWP.region (l := [0]) rfl ?_
  refine AOps.cons rfl rfl (AOp.bin (.bool (decide (a < 3))) rfl s4 rfl rfl ?_)
  refine AOps.nil ?_
  change AWP _ _ _ _ _ _
  refine AWP.seq ?_
  by_cases b11 : a < 3
  ·
   refine AWP.condT rfl (decide_eq_true b11) ?_
   refine AWP.skip ?_
   change AWP _ _ _ _ _ _
   refine AWP.seq ?_
   refine AWP.block ?_
   refine AWP.seq ?_
   refine AWP.region (l := [0, 1]) rfl ?_
   refine AOps.cons rfl rfl (AOp.move (.int .i64 a) rfl s4 ?_)
   refine AOps.cons rfl rfl (AOp.assign (.int .i64 a) rfl rfl ?_)
   refine AOps.nil ?_
   change AWP _ _ _ _ _ _
   refine AWP.seq ?_
   refine AWP.region (l := [0]) rfl ?_
   refine AOps.cons rfl rfl (AOp.assign (.snil) rfl rfl ?_)
   refine AOps.nil ?_
   change AWP _ _ _ _ _ _
   refine AWP.seq ?_
   refine AWP.seq ?_
   refine AWP.region (l := [0, 1, 2]) rfl ?_
   refine AOps.cons rfl rfl (AOp.move (.sl its.length (its.map eI)) rfl s8 ?_)
   refine AOps.cons rfl rfl (AOp.len (m := its.length) rfl rfl (.inr (.inl ⟨_, rfl⟩)) u_27 ?_)
   refine AOps.cons rfl rfl (AOp.move (.int .i64 0) rfl rfl ?_)
   refine AOps.nil ?_
   change AWP _ _ _ _ _ _
   refine AWP.block ?_
   refine AWP.loop (fun q12 fq Hq => ∃ (i : Int) (w8 : AV), q12 = (((its.length : Int) : Int) - i).toNat ∧ fq 17 = .int .i64 i ∧ fq 12 = .int .i64 a ∧ fq 5 = .int .i64 best ∧ fq 6 = .int .i64 far ∧ fq 0 = .fptr [.undef, .undef, .sl bx.length (bx.flatMap eBox), .int .i64 leaf] 0 ∧ fq 1 = .sl its.length (its.map eI) ∧ fq 4 = .int .i64 0 ∧ fq 7 = .int .i64 a ∧ fq 15 = .sl its.length (its.map eI) ∧ fq 16 = .int .i64 (its.length : Int) ∧ fq 8 = w8 ∧ Own H0 Hq 1 w8 (midsF bx a (its.take i.toNat)).length ((midsF bx a (its.take i.toNat)).map eI) ∧ Mono H0 Hq ∧ (0 ≤ i) ∧ (i ≤ (its.length : Int))) (k := (((its.length : Int) : Int) - 0).toNat) ?_ ?_
   ·
    exact ⟨0, .snil, rfl, rfl, s4, s5, s6, s7, s8, s9, rfl, rfl, rfl, rfl, Own.nil _ _ _, m10, by omega, by omega⟩
   ·
    rintro _ f14 H13 ⟨i, w8, rfl, s15, s16, s17, s18, s19, s20, s21, s22, s23, s24, s25, o26, m27, hi0, hi1⟩
    refine AWP.seq ?_
    refine AWP.region (l := [0]) rfl ?_
    refine AOps.cons rfl rfl (AOp.bin (.bool (decide (i < (its.length : Int)))) rfl s15 s24 rfl ?_)
    refine AOps.nil ?_
    change AWP _ _ _ _ _ _
    refine AWP.seq ?_
    by_cases b28 : i < (its.length : Int)
    ·
     refine AWP.condT rfl (decide_eq_true b28) ?_
     refine AWP.skip ?_
     change AWP _ _ _ _ _ _
     refine AWP.seq ?_
     refine AWP.block ?_
     refine AWP.seq ?_
     have hkk := hin _ (at_mem_l hi0 (by omega : i < its.length))
     refine AWP.region (l := [0, 1, 2]) rfl ?_
     refine AOps.cons rfl rfl (AOp.indexAddrS rfl s23 s15 sl_27 (by omega) (by omega) ?_)
     refine AOps.cons rfl rfl (AOp.loadF (.int .i64 (at_ its i)) rfl rfl ty_3 (ld1 (by omega) (by omega)) ?_)
     refine AOps.cons rfl rfl (AOp.assign (.int .i64 (at_ its i)) rfl rfl ?_)
     refine AOps.nil ?_
     change AWP _ _ _ _ _ _
     have hmn : (midsF bx a (its.take i.toNat)).length ≤ 1048576 := by simp only [midsF, List.length_map, List.length_take]; omega
     refine AWP.region (l := [0, 1, 2, 3, 4, 5, 6, 7, 8, 9, 10, 11, 12, 13]) rfl ?_
     refine AOps.cons rfl rfl (AOp.move (w8) rfl s25 ?_)
     refine AOps.cons rfl rfl (AOp.move (.fptr [.undef, .undef, .sl bx.length (bx.flatMap eBox), .int .i64 leaf] 0) rfl s19 ?_)
     refine AOps.cons rfl rfl (AOp.nilCheck (.fptr [.undef, .undef, .sl bx.length (bx.flatMap eBox), .int .i64 leaf] 0) rfl rfl rfl ?_)
     refine AOps.cons rfl rfl (AOp.fieldAddrF rfl rfl fl_56_1 ?_)
     refine AOps.cons rfl rfl (AOp.loadF (.sl bx.length (bx.flatMap eBox)) rfl rfl ty_22 rfl ?_)
     refine AOps.cons rfl rfl (AOp.move (.int .i64 (at_ its i)) rfl rfl ?_)
     refine AOps.cons rfl rfl (AOp.indexAddrS rfl rfl rfl sl_22 (by omega) (by omega) ?_)
     refine AOps.cons rfl rfl (AOp.loadF (.agg [.int .i64 (((at_ bx (at_ its i)).Lo).X), .int .i64 (((at_ bx (at_ its i)).Lo).Y), .int .i64 (((at_ bx (at_ its i)).Lo).Z), .int .i64 (((at_ bx (at_ its i)).Hi).X), .int .i64 (((at_ bx (at_ its i)).Hi).Y), .int .i64 (((at_ bx (at_ its i)).Hi).Z)]) rfl rfl ty_37 (ldM eBox_len (by omega) (by omega)) ?_)
     refine AOps.cons rfl rfl (AOp.pcall («as» := [.agg [.int .i64 (((at_ bx (at_ its i)).Lo).X), .int .i64 (((at_ bx (at_ its i)).Lo).Y), .int .i64 (((at_ bx (at_ its i)).Lo).Z), .int .i64 (((at_ bx (at_ its i)).Hi).X), .int .i64 (((at_ bx (at_ its i)).Hi).Y), .int .i64 (((at_ bx (at_ its i)).Hi).Z)]]) rfl rfl (rfl) tf_33 (c_middle (at_ bx (at_ its i)) (hok _ (at_mem_l (by omega) (by omega)))) ?_)
     intro H29 m30
     have o31 := Own.mono o26 m30
     have m32 := m27.trans m30
     refine AOps.cons rfl rfl (AOp.move (.int .i64 a) rfl s22 ?_)
     refine AOps.cons rfl rfl (AOp.indexArr (.int .i64 (at_ ([(at_ bx (at_ its i)).Lo.X + (at_ bx (at_ its i)).Hi.X, (at_ bx (at_ its i)).Lo.Y + (at_ bx (at_ its i)).Hi.Y, (at_ bx (at_ its i)).Lo.Z + (at_ bx (at_ its i)).Hi.Z] : List Int) a)) rfl rfl rfl ar_70 (by omega) (by omega) (ld1 (i := a) (xs := ([(at_ bx (at_ its i)).Lo.X + (at_ bx (at_ its i)).Hi.X, (at_ bx (at_ its i)).Lo.Y + (at_ bx (at_ its i)).Hi.Y, (at_ bx (at_ its i)).Lo.Z + (at_ bx (at_ its i)).Hi.Z] : List Int)) (by omega) (by first | (have := (rfl : ([(at_ bx (at_ its i)).Lo.X + (at_ bx (at_ its i)).Hi.X, (at_ bx (at_ its i)).Lo.Y + (at_ bx (at_ its i)).Hi.Y, (at_ bx (at_ its i)).Lo.Z + (at_ bx (at_ its i)).Hi.Z] : List Int).length = 3); omega) | (simp; omega))) ?_)
     refine AOps.cons rfl rfl (AOp.buildSlice (cells := [.int .i64 (at_ ([(at_ bx (at_ its i)).Lo.X + (at_ bx (at_ its i)).Hi.X, (at_ bx (at_ its i)).Lo.Y + (at_ bx (at_ its i)).Hi.Y, (at_ bx (at_ its i)).Lo.Z + (at_ bx (at_ its i)).Hi.Z] : List Int) a)]) rfl u_27 ts_3 tz_3 rfl rfl rfl ?_)
     intro i33 H34 n35 h36 k37
     have z38 := Mono.free m32 n35
     have o39 := Own.keep o31 k37 (Own.notnew o31 n35)
     have no40 := Own.notnew o31 n35
     have m41 := Mono.new m32 n35 k37
     refine AOps.cons rfl rfl (AOp.append_own (es := 1) (m := 1) (len := ((midsF bx a (its.take i.toNat)).length)) (old := (midsF bx a (its.take i.toNat)).map eI) (cells := [.int .i64 (at_ ([(at_ bx (at_ its i)).Lo.X + (at_ bx (at_ its i)).Hi.X, (at_ bx (at_ its i)).Lo.Y + (at_ bx (at_ its i)).Hi.Y, (at_ bx (at_ its i)).Lo.Z + (at_ bx (at_ its i)).Hi.Z] : List Int) a)]) rfl u_27 ts_3 tzn_3 tb_3 (by decide) ni_27 rfl o39 m41 rfl (.slm h36 rfl) (one_of rfl) (by decide) (by first | omega | (simp; omega)) ?_)
     intro v42 H43 o44 m45 k46 j47
     have o48 := Own.snoc1 (xs := ((midsF bx a (its.take i.toNat)) : List Int)) (y := at_ ([(at_ bx (at_ its i)).Lo.X + (at_ bx (at_ its i)).Hi.X, (at_ bx (at_ its i)).Lo.Y + (at_ bx (at_ its i)).Hi.Y, (at_ bx (at_ its i)).Lo.Z + (at_ bx (at_ its i)).Hi.Z] : List Int) a) (e := eI) (by simp) o44
     refine AOps.cons rfl rfl (AOp.assign (v42) rfl rfl ?_)
     refine AOps.nil ?_
     change AWP _ _ _ _ _ _
     refine AWP.region (l := [0, 1]) rfl ?_
     refine AOps.cons rfl rfl (AOp.bin (.int .i64 (i + 1)) rfl s15 rfl (iadd (by omega)) ?_)
     refine AOps.cons rfl rfl (AOp.move (.int .i64 (i + 1)) rfl rfl ?_)
     refine AOps.nil ?_
     exact ⟨_, by omega, i + 1, v42, rfl, rfl, s16, s17, s18, s19, s20, s21, s22, s23, s24, rfl, (have hx : (((midsF bx a (its.take i.toNat)) ++ [at_ ([(at_ bx (at_ its i)).Lo.X + (at_ bx (at_ its i)).Hi.X, (at_ bx (at_ its i)).Lo.Y + (at_ bx (at_ its i)).Hi.Y, (at_ bx (at_ its i)).Lo.Z + (at_ bx (at_ its i)).Hi.Z] : List Int) a]) : List Int) = midsF bx a (its.take (i + 1).toNat) := (by rw [← mids_step hi0 (by omega), ← mid_at (by omega) (by omega)]); Own.re o48 (congrArg List.length hx) (congrArg (fun l : List Int => l.map eI) hx)), m45, by omega, by omega⟩
    ·
     refine AWP.condF rfl (decide_eq_false b28) ?_
     refine AWP.exit ?_
     change AWP _ _ _ _ _ _
     refine AWP.seq ?_
     refine AWP.frz 8 o26 s25 m27 fun H49 m50 k51 => ?_
     have hml := mids_all (bx := bx) (a := a) (show (its.length : Int) ≤ i by omega)
     have hmr := mx_rng (mids_ne (bx := bx) (a := a) hne) (mids_rng hok hin)
     rw [← hml] at hmr
     have hml1 : 1 ≤ (midsF bx a (its.take i.toNat)).length := by rw [hml]; exact List.length_pos_iff.2 (mids_ne hne)
     have hml2 : (midsF bx a (its.take i.toNat)).length ≤ 1048576 := by rw [hml]; simp only [midsF, List.length_map]; exact hl
     refine AWP.region (l := [0, 1, 2, 3, 4, 5]) rfl ?_
     refine AOps.cons rfl rfl (AOp.move (.sl (midsF bx a (its.take i.toNat)).length ((midsF bx a (its.take i.toNat)).map eI)) rfl rfl ?_)
     refine AOps.cons rfl rfl (AOp.pcall («as» := [.sl (midsF bx a (its.take i.toNat)).length ((midsF bx a (its.take i.toNat)).map eI)]) rfl rfl (rfl) tf_40 (c_Max (midsF bx a (its.take i.toNat)) (by first | omega | assumption | (simp; omega) | simp) (by first | omega | assumption | (constructor <;> omega) | simp)) ?_)
     intro H52 m53
     have m54 := m50.trans m53
     refine AOps.cons rfl rfl (AOp.move (.sl (midsF bx a (its.take i.toNat)).length ((midsF bx a (its.take i.toNat)).map eI)) rfl rfl ?_)
     refine AOps.cons rfl rfl (AOp.pcall («as» := [.sl (midsF bx a (its.take i.toNat)).length ((midsF bx a (its.take i.toNat)).map eI)]) rfl rfl (rfl) tf_41 (c_Min (midsF bx a (its.take i.toNat)) (by first | omega | assumption | (simp; omega) | simp) (by first | omega | assumption | (constructor <;> omega) | simp)) ?_)
     intro H55 m56
     have m57 := m54.trans m56
     refine AOps.cons rfl rfl (AOp.bin (.int .i64 (maxL (midsF bx a (its.take i.toNat)) - (minL (midsF bx a (its.take i.toNat))))) rfl rfl rfl (isub (by omega)) ?_)
     refine AOps.cons rfl rfl (AOp.assign (.int .i64 (maxL (midsF bx a (its.take i.toNat)) - (minL (midsF bx a (its.take i.toNat))))) rfl rfl ?_)
     refine AOps.nil ?_
     change AWP _ _ _ _ _ _
     refine AWP.seq ?_
     refine AWP.region (l := [0, 1, 2]) rfl ?_
     refine AOps.cons rfl rfl (AOp.move (.int .i64 (maxL (midsF bx a (its.take i.toNat)) - (minL (midsF bx a (its.take i.toNat))))) rfl rfl ?_)
     refine AOps.cons rfl rfl (AOp.move (.int .i64 far) rfl s18 ?_)
     refine AOps.cons rfl rfl (AOp.bin (.bool (decide (maxL (midsF bx a (its.take i.toNat)) - (minL (midsF bx a (its.take i.toNat))) > far))) rfl rfl rfl rfl ?_)
     refine AOps.nil ?_
     change AWP _ _ _ _ _ _
     by_cases b58 : maxL (midsF bx a (its.take i.toNat)) - (minL (midsF bx a (its.take i.toNat))) > far
     ·
      refine AWP.condT rfl (decide_eq_true b58) ?_
      refine AWP.region (l := [0, 1, 2, 3]) rfl ?_
      refine AOps.cons rfl rfl (AOp.move (.int .i64 a) rfl s22 ?_)
      refine AOps.cons rfl rfl (AOp.move (.int .i64 (maxL (midsF bx a (its.take i.toNat)) - (minL (midsF bx a (its.take i.toNat))))) rfl rfl ?_)
      refine AOps.cons rfl rfl (AOp.assign (.int .i64 a) rfl rfl ?_)
      refine AOps.cons rfl rfl (AOp.assign (.int .i64 (maxL (midsF bx a (its.take i.toNat)) - (minL (midsF bx a (its.take i.toNat))))) rfl rfl ?_)
      refine AOps.nil ?_
      change AWP _ _ _ _ _ _
      refine AWP.region (l := [0, 1]) rfl ?_
      refine AOps.cons rfl rfl (AOp.bin (.int .i64 (a + 1)) rfl s16 rfl (iadd (by omega)) ?_)
      refine AOps.cons rfl rfl (AOp.move (.int .i64 (a + 1)) rfl rfl ?_)
      refine AOps.nil ?_
      exact ⟨_, by omega, a + 1, a, spread bx its a, rfl, rfl, rfl, (congrArg (AV.int .i64) (show (maxL (midsF bx a (its.take i.toNat)) - (minL (midsF bx a (its.take i.toNat))) : Int) = (spread bx its a) from by first | rfl | (rw [hml]; rfl))), s19, s20, s21, m57, by omega, by omega, by exact ax_stepT hax ha0 (by omega) (by have hb_ := b58; rw [hml] at hb_; exact hb_), by omega⟩
     ·
      refine AWP.condF rfl (decide_eq_false b58) ?_
      refine AWP.skip ?_
      change AWP _ _ _ _ _ _
      refine AWP.region (l := [0, 1]) rfl ?_
      refine AOps.cons rfl rfl (AOp.bin (.int .i64 (a + 1)) rfl s16 rfl (iadd (by omega)) ?_)
      refine AOps.cons rfl rfl (AOp.move (.int .i64 (a + 1)) rfl rfl ?_)
      refine AOps.nil ?_
      exact ⟨_, by omega, a + 1, best, far, rfl, rfl, s17, s18, s19, s20, s21, m57, by omega, by omega, by exact ax_stepF hax ha0 (by omega) (by have hb_ := b58; rw [hml] at hb_; exact hb_), by omega⟩
  ·
   refine AWP.condF rfl (decide_eq_false b11) ?_
   refine AWP.exit ?_
   change AWP _ _ _ _ _ _
   refine AWP.seq ?_
   refine AWP.region (l := [0, 1]) rfl ?_
   refine AOps.cons rfl rfl (AOp.move (.int .i64 best) rfl s5 ?_)
   refine AOps.cons rfl rfl (AOp.assign (.int .i64 best) rfl rfl ?_)
   refine AOps.nil ?_
   change AWP _ _ _ _ _ _
   refine AWP.ret ?_
   refine ⟨_, _, Ghost.refl, .inr rfl, _, Res.one rfl rfl, ?_, m10⟩
   exact (congrArg (AV.int .i64) (show (best : Int) = axisR bx its from by exact ax_end hax (by omega)))
end Go.Proofs.B
namespace Go.AH
variable [Globs]
set_option linter.unusedSectionVars false
open Go Go.Maps Go.Sort Go.Shelf Go.Proofs

def noHeap : Heap := fun _ => none
def NoGlobs : Prop := ∀ g, Globs.val g = none ∧ Globs.blk g = none
theorem noHeap_HR (hn : NoGlobs) (w : World) (μ : Nat → Nat) : HR w μ noHeap where
  glob := ⟨fun g c h => (by rw [(hn g).1] at h; cases h), fun g c h => (by rw [(hn g).2] at h; cases h)⟩
  rows := fun _ _ _ h => by cases h
  maps := fun _ _ h => by cases h
  born := fun _ _ _ _ h => by cases h
  iters := fun _ _ h => by cases h
  inj := fun _ _ _ _ h => by cases h
  fin := ⟨0, fun _ _ => rfl⟩
theorem noHeap_owned {μ : Nat → Nat} {b : Nat} : ¬ Owned μ noHeap b := by
  rintro ⟨_, _, h, _⟩; cases h
theorem Ext.grown (tick : Tick) {w w' : World} {μ μ' : Nat → Nat} {H' : Heap} (h : Ext w μ noHeap w' μ' H') : ∃ q os', w' = grow (w.drewN q) os' := by
  obtain ⟨h1, h2, h3, h4⟩ := h.rest
  have h4 := h4 tick
  refine ⟨w'.drawn - w.drawn, w'.heap.extract w.heap.size w'.heap.size, ?_⟩
  have hh : w'.heap = w.heap ++ w'.heap.extract w.heap.size w'.heap.size := by
    have hs := h.size
    apply Array.ext_getElem?
    intro i
    rcases Nat.lt_or_ge i w.heap.size with hi | hi
    · rw [(h.frz i ⟨hi, noHeap_owned⟩).1, Array.getElem?_append_left hi]
    · rw [Array.getElem?_append_right hi, Array.getElem?_extract]
      by_cases g : i < w'.heap.size
      · rw [if_pos (by omega)]; congr 1; omega
      · rw [if_neg (by omega), Array.getElem?_eq_none (by omega)]
  unfold grow World.drewN
  cases w'
  simp only at h1 h2 h3 h4 hh ⊢
  rw [← hh, h1, h2, h3]
  congr 1
  omega
/-- A plain function: it hands back its value, draws, and lays blocks: no more. -/
theorem PC.plain (tick : Tick) (hn : NoGlobs) {P : Program} {g : FuncId} {args : List AV} {r : AV} (h : PC P g args r) {w : World} {vs : Array Value} {v : Value} (hv : VRs w (fun i => i) noHeap args vs.toList) (hr : ∀ w' μ' H' x, VR w' μ' H' r x → x = v) :
    Calls P g vs w fun e w' => e = .returned v ∧ ∃ q os', w' = grow (w.drewN q) os' :=
  (h noHeap (fun i => i) w vs (noHeap_HR hn _ _) hv).mono fun _ _ ⟨x, e, μ', H', r', _, h2, h3, h4, _⟩ => ⟨by rw [e, hr _ _ _ x (h4 ▸ h2)], h3.grown tick⟩

/-! ### Rows of structs -/
/-- Blocks behind what there is. -/
theorem grow_Ext {w : World} {μ : Nat → Nat} {H : Heap} (hr : HR w μ H) (n : Nat) (os : Array Obj) : Ext w μ H (grow (w.drewN n) os) μ H ∧ HR (grow (w.drewN n) os) μ H := by
  have hlt : ∀ id B, H id = some B → B.live = true → μ id < w.heap.size := fun id B h1 h2 => hr.lt h1 h2
  have hold : ∀ b, b < w.heap.size → (grow (w.drewN n) os).heap[b]? = w.heap[b]? := fun b hb => Array.getElem?_append_left hb
  have he : Ext w μ H (grow (w.drewN n) os) μ H := by
    refine ⟨by simp [grow, World.drewN], fun b hb => ⟨hold b hb.1, hb.2⟩, fun _ _ h => h, fun id ver _ ha => ⟨ha, rfl, ?_⟩, fun _ h => ⟨h, rfl⟩, fun _ h => ⟨h, rfl⟩, ⟨rfl, rfl, rfl, fun _ => by simp [grow, World.drewN]⟩⟩
    obtain ⟨c, hc⟩ := ha
    simp only [bsize, hold _ (hlt _ _ hc rfl)]
  refine ⟨he, ⟨fun id ver cells hi => ?_, fun id es hi => ?_, fun id es ents clock hi hw => ?_, fun id it hi => ?_, hr.inj, hr.fin, hr.glob.ext he⟩⟩
  · obtain ⟨cs, T, h1, h2, h3⟩ := hr.rows id ver cells hi
    exact ⟨cs, T, by rw [hold _ (hlt _ _ hi rfl)]; exact h1, h2, fun j x hx => let ⟨y, g1, g2⟩ := h3 j x hx; ⟨y, g1, g2.ext he⟩⟩
  · obtain ⟨h0, en, c, h1, h2, h3⟩ := hr.maps id es hi
    exact ⟨h0, en, c, by rw [hold _ (hlt _ _ hi rfl)]; exact h1, h2, fun j x e hx hy => ⟨(h3 j x e hx hy).1.ext he, (h3 j x e hx hy).2.ext he⟩⟩
  · rw [hold _ (hlt _ _ hi rfl)] at hw
    exact hr.born id es ents clock hi hw
  · rw [hold _ (hlt _ _ hi rfl)]
    exact hr.iters id it hi

section
variable {α : Type} [Inhabited α]
theorem concVR (w : World) (μ : Nat → Nat) (H : Heap) (a : AV) (v : Value) (h : concA a = some v) : VR w μ H a v := by
  cases a <;> simp [concA] at h <;> subst h <;> constructor
end
end Go.AH
namespace Go.AH
variable [Globs]
set_option linter.unusedSectionVars false
open Go Go.Maps Go.Sort Go.Shelf Go.Proofs

/-- A value that holds no block of its own. -/
inductive LowP : AV → Prop where
  | undef : LowP .undef
  | int (k : IntKind) (n : Int) : LowP (.int k n)
  | bool (b : Bool) : LowP (.bool b)
  | str (s : ByteArray) : LowP (.str s)
  | sl (len : Nat) (cells : List AV) (h : ∀ x ∈ cells, LowP x) : LowP (.sl len cells)

/-- It is the same in a world where one owned block alone has changed. -/
theorem VR.low {w w' : World} {μ μ' : Nat → Nat} {H : Heap} {b0 : Nat} (ho : Owned μ H b0) (hs : w.heap.size ≤ w'.heap.size) (hb : ∀ b, b < w.heap.size → b ≠ b0 → w'.heap[b]? = w.heap[b]?)
    {x : AV} {v : Value} (h : VR w μ H x v) (hl : LowP x) : VR w' μ' noHeap x v := by
  induction h with
  | undef v => exact .undef v
  | int k n => exact .int k n
  | bool b => exact .bool b
  | str s => exact .str s
  | sl0 a cap => exact .sl0 a cap
  | @sl _ _ b _ _ _ hlen hf hc _ ih =>
    cases hl with
    | sl _ _ hl =>
      have hne : b ≠ b0 := fun e => hf.2 (by rw [e]; exact ho)
      exact .sl hlen ⟨Nat.lt_of_lt_of_le hf.1 hs, noHeap_owned⟩ (fun j x hj => (cell_of_heap (hb _ hf.1 hne)).trans (hc j x hj)) fun j x hj => ih j x hj (hl x (List.mem_of_getElem? hj))
  | nilptr => cases hl
  | ptr _ _ => cases hl
  | iter _ => cases hl
  | fptr _ _ _ _ => cases hl
  | snil => cases hl
  | slm _ _ _ => cases hl
  | mapnil => cases hl
  | map _ => cases hl
  | nilfn => cases hl
  | fn _ _ _ => cases hl
  | nilIface => cases hl
  | iface _ _ => cases hl
  | agg _ _ _ => cases hl
  | tup _ _ _ => cases hl

/-- A pointer to a row of one's own, read by value. -/
theorem VR.thaw {w w' : World} {μ μ' : Nat → Nat} {H : Heap} (hr : HR w μ H) {id ver id0 : Nat} {B0 : AB} {cells cells0 : List AV} (hid : H id = some (.row ver cells)) (h0 : H id0 = some B0) (hlive : B0.live = true) (hne : id ≠ id0)
    (hs : w.heap.size ≤ w'.heap.size) (hb : ∀ b, b < w.heap.size → b ≠ μ id0 → w'.heap[b]? = w.heap[b]?) (hlen : cells0.length ≤ cells.length)
    (hc : ∀ (j : Nat) (x x0 : AV) (y : Value), cells[j]? = some x → cells0[j]? = some x0 → VR w μ H x y → VR w' μ' noHeap x0 y) {v : Value} (hv : VR w μ H (.ptr id ver 0) v) : VR w' μ' noHeap (.fptr cells0 0) v := by
  cases hv with
  | ptr hk ha =>
    have := ha ⟨cells, hid⟩
    subst this
    obtain ⟨cs, T, b1, b2, b3⟩ := hr.rows id ver cells hid
    have hlt : μ id < w.heap.size := hr.lt hid rfl
    have hmu : μ id ≠ μ id0 := fun e => hne (hr.inj _ _ _ _ hid h0 rfl hlive e)
    refine .fptr (b := μ id) (o := 0) (ys := fun j => cs.getD j Go.undef) ⟨Nat.lt_of_lt_of_le hlt hs, noHeap_owned⟩ (fun j x hj => ?_) fun j x hj => ?_
    · have hj' : j < cells.length := Nat.lt_of_lt_of_le (List.getElem?_eq_some_iff.1 hj).1 hlen
      obtain ⟨y, y1, _⟩ := b3 j _ (List.getElem?_eq_getElem hj')
      rw [cell_of_heap (hb _ hlt hmu)]
      simp only [World.cell?, b1, Option.isSome_none, Bool.false_eq_true, if_false, Nat.zero_add, Array.getD_eq_getD_getElem?, y1, Option.getD_some]
    · have hj' : j < cells.length := Nat.lt_of_lt_of_le (List.getElem?_eq_some_iff.1 hj).1 hlen
      obtain ⟨y, y1, y2⟩ := b3 j _ (List.getElem?_eq_getElem hj')
      have : cs.getD j Go.undef = y := by simp [Array.getD_eq_getD_getElem?, y1]
      simp only [this]
      exact hc j _ _ _ (List.getElem?_eq_getElem hj') hj y2

section
variable {α : Type} [Inhabited α]
theorem sort1_calls (tick : Tick) (hn : NoGlobs) {P : Program} {ρ : Ren} (L : SlLaysF.n6 P ρ) {cg : FuncId} {caps caps0 : List AV} {e : α → AV} {enc : α → Value} (he : ∀ x, concA (e x) = some (enc x)) (h1 : OneCell enc) {cf : α → α → Int} (hO : SWO (ltOf cf))
    (eg : ∀ args w, (callFunc cg args).run P w = .ok (.enter cg args) w)
    {H : Heap} {id ver off : Nat} {pre post : List AV} {its : List α} (hid : H id = some (.row ver (pre ++ (its.map e ++ post)))) (hoff : off = pre.length) (hbig : its.length < 4611686018427387904)
    (hcap : ∀ w μ vs, HR w μ H → VRs w μ H caps vs → ∀ w', w.heap.size ≤ w'.heap.size → (∀ b, b < w.heap.size → b ≠ μ id → w'.heap[b]? = w.heap[b]?) → VRs w' (fun i => i) noHeap caps0 vs)
    (hcmp : ∀ x y, PC P cg ([e x, e y] ++ caps0) (.int .i64 (cf x y))) :
    ACalls P (ρ.f 6) [.slm id ver 1 off its.length, .fn cg caps] H fun r H' => r = .tup [] ∧ ∃ its' : List α, its'.Perm its ∧ its'.Pairwise (fun x y => ltOf cf y x = false) ∧ H' id = some (.row ver (pre ++ (its'.map e ++ post))) ∧ ∀ i, i ≠ id → H' i = H i := by
  intro μ w vs hr hv
  obtain ⟨a, b, rfl, ha, hb⟩ := vs2 hv
  cases hb with
  | @fn _ _ vs' hl hb =>
    obtain ⟨cap, rfl, hcapp, hbs, _⟩ := ha.slm_inv ⟨_, hid⟩
    obtain ⟨cs, T, b1, b2, b3⟩ := hr.rows id ver _ hid
    have hlt : μ id < w.heap.size := hr.lt hid rfl
    have hlen : pre.length + (its.length + post.length) ≤ cs.size := by simpa using b2
    have hcell : ∀ t (ht : t < its.length), cs[off + t]? = some (enc its[t]) := by
      intro t ht
      have hx : (pre ++ (its.map e ++ post))[off + t]? = some (e its[t]) := by
        subst hoff
        rw [List.getElem?_append_right (by omega), Nat.add_sub_cancel_left, List.getElem?_append_left (by simpa using ht)]
        simp [ht]
      obtain ⟨y, y1, y2⟩ := b3 _ _ hx
      rw [y1, concA_VR y2 (he _)]
    have hH : Go.Sort.Holds enc w (μ id) off its.toArray := by
      intro t ht
      have ht' : t < its.length := by simpa using ht
      refine ⟨?_, by simp [World.frozen?, b1]⟩
      simp only [World.cell?, b1, Option.isSome_none, Bool.false_eq_true, if_false]
      rw [hcell t ht']; simp [ht']
    have hC : CmpLays1 P cg vs' enc cf (μ id) off its.toArray.size w := by
      intro m os dk hdk x y
      have hw' : w.heap.size ≤ (sortWorld enc w (μ id) off m dk os).heap.size := by simp [sortWorld, grow, putRow, mapBlock, Sort.ahead]
      have hb' : ∀ b, b < w.heap.size → b ≠ μ id → (sortWorld enc w (μ id) off m dk os).heap[b]? = w.heap[b]? := by
        intro b hb hne
        show (_ ++ os)[b]? = _
        rw [Array.getElem?_append_left (by simpa [putRow, mapBlock, Sort.ahead] using hb)]
        simp [putRow, mapBlock, Sort.ahead, Array.getElem?_modify, Ne.symm hne]
      have hvs := hcap w μ vs'.toList hr ⟨by simpa using hl, fun j p q h1 h2 => hb j p q h1 (by simpa using h2)⟩ _ hw' hb'
      refine PC.plain tick hn (hcmp x y) (vs := #[enc x, enc y] ++ vs') ?_ fun w' μ' H' x h => h.int_inv
      refine ⟨by simp [hvs.1], fun j p q h1 h2 => ?_⟩
      match j with
      | 0 => simp at h1 h2; subst h1 h2; exact concVR _ _ _ _ _ (he x)
      | 1 => simp at h1 h2; subst h1 h2; exact concVR _ _ _ _ _ (he y)
      | j + 2 => simp at h1 h2; exact hvs.2 j p q h1 (by simpa using h2)
    have hrun := Any.slices_SortFunc L enc h1 cf hO cg vs' (μ id) off cap its.toArray w eg hC hH hlt (by simpa using hbig)
    have hrun' : Calls P (ρ.f 6) #[.slice (some ⟨μ id, off, none⟩) its.length cap, .func (.func cg) #[] vs'] w fun ex w' =>
        ex = .returned (.tuple #[]) ∧ ∃ d' n os, PermIn 0 its.toArray.size its.toArray d' ∧ SortedIn (ltOf cf) 0 its.toArray.size d' ∧ w' = sortWorld enc w (μ id) off n d' os := by simpa using hrun
    refine hrun'.mono ?_
    rintro ex w' ⟨rfl, d', n, os, hp, hs, rfl⟩
    have hsz : d'.size = its.length := by simpa using hp.1
    have hperm : d'.toList.Perm its := by
      have := hp.2.2
      rw [Array.extract_size, show its.toArray.size = d'.size by simp [hsz], Array.extract_size] at this
      exact this
    have hset := setrow (w := w) (w' := putRow enc (Sort.ahead w n) (μ id) off d') (ver' := ver) (cells' := pre ++ (d'.toList.map e ++ post)) (cs' := putCells enc off d' cs) ⟨rfl, rfl, rfl, fun _ => by simp [putRow, mapBlock, Sort.ahead]⟩ hr (Nat.le_refl ver) hid b1
      (by simp [putRow, mapBlock, Sort.ahead, Array.getElem?_modify, b1, onCells]) (by simp [putCells]) (fun b hb => by simp [putRow, mapBlock, Sort.ahead, Array.getElem?_modify, Ne.symm hb]) (by simp [putRow, mapBlock, Sort.ahead])
      (by simp only [putCells, Array.size_mapIdx, List.length_append, List.length_map, Array.length_toList]; omega) (fun j x hx => by
        have hjl : j < pre.length + (its.length + post.length) := by
          have := (List.getElem?_eq_some_iff.1 hx).1; simp [hsz] at this; omega
        have hjc : j < cs.size := by omega
        by_cases g1 : off ≤ j ∧ j < off + its.length
        · have hd : j - off < d'.size := by omega
          have hx' : x = e d'[j - off] := by
            subst hoff
            rw [List.getElem?_append_right (by omega), List.getElem?_append_left (by simp; omega)] at hx
            simp [hd] at hx; exact hx.symm
          refine ⟨enc d'[j - off], ?_, ?_⟩
          · simp only [putCells, Array.getElem?_mapIdx, Array.getElem?_eq_getElem hjc, Option.map_some]
            rw [if_pos ⟨g1.1, by omega⟩]; simp [hd]
          · subst hx'; exact concVR _ _ _ _ _ (he _)
        · have hx0 : (pre ++ (its.map e ++ post))[j]? = some x := by
            rw [← hx]; subst hoff
            by_cases g2 : j < pre.length
            · rw [List.getElem?_append_left g2, List.getElem?_append_left g2]
            · have q1 : pre.length ≤ j := by omega
              have q2 : (its.map e).length ≤ j - pre.length := by rw [List.length_map]; omega
              have q3 : (d'.toList.map e).length ≤ j - pre.length := by rw [List.length_map, Array.length_toList, hsz]; omega
              rw [List.getElem?_append_right q1, List.getElem?_append_right q1, List.getElem?_append_right q2, List.getElem?_append_right q3]
              congr 1; simp [hsz]
          obtain ⟨y, y1, y2⟩ := b3 j x hx0
          refine ⟨y, ?_, y2⟩
          simp only [putCells, Array.getElem?_mapIdx, y1, Option.map_some]
          rw [if_neg (by omega)])
    obtain ⟨q1, q2⟩ := hset
    obtain ⟨t1, t2⟩ := grow_Ext q2 0 os
    have hE := q1.trans t1
    refine ⟨_, rfl, μ, _, .tup [], t2, .tup (cells := []) rfl (by simp), hE, rfl, d'.toList, hperm, ?_, updH_same _ _ _, fun i hi => updH_ne _ _ hi⟩
    rw [List.pairwise_iff_getElem]
    intro i j hi hj hij
    have := hs i j (Nat.zero_le _) hij (by simp at hj ⊢; omega)
    have hi' : i < d'.size := by simpa using hi
    have hj' : j < d'.size := by simpa using hj
    simpa [hi', hj'] using this
end
end Go.AH
namespace Go.AH
variable [Globs]
set_option linter.unusedSectionVars false
open Go Go.Maps Go.Sort Go.Shelf Go.Proofs

/-- A pointer to a row of one's own, read by value; nothing has changed. -/
theorem VR.thaw0 {w : World} {μ : Nat → Nat} {H : Heap} (hr : HR w μ H) {id ver : Nat} {cells cells0 : List AV} (hid : H id = some (.row ver cells)) (hlen : cells0.length ≤ cells.length)
    (hc : ∀ (j : Nat) (x x0 : AV) (y : Value), cells[j]? = some x → cells0[j]? = some x0 → VR w μ H x y → VR w (fun i => i) noHeap x0 y) {v : Value} (hv : VR w μ H (.ptr id ver 0) v) : VR w (fun i => i) noHeap (.fptr cells0 0) v := by
  cases hv with
  | ptr hk ha =>
    have := ha ⟨cells, hid⟩
    subst this
    obtain ⟨cs, T, b1, b2, b3⟩ := hr.rows id ver cells hid
    have hlt : μ id < w.heap.size := hr.lt hid rfl
    refine .fptr (b := μ id) (o := 0) (ys := fun j => cs.getD j Go.undef) ⟨hlt, noHeap_owned⟩ (fun j x hj => ?_) fun j x hj => ?_
    · have hj' : j < cells.length := Nat.lt_of_lt_of_le (List.getElem?_eq_some_iff.1 hj).1 hlen
      obtain ⟨y, y1, _⟩ := b3 j _ (List.getElem?_eq_getElem hj')
      simp only [World.cell?, b1, Option.isSome_none, Bool.false_eq_true, if_false, Nat.zero_add, Array.getD_eq_getD_getElem?, y1, Option.getD_some]
    · have hj' : j < cells.length := Nat.lt_of_lt_of_le (List.getElem?_eq_some_iff.1 hj).1 hlen
      obtain ⟨y, y1, y2⟩ := b3 j _ (List.getElem?_eq_getElem hj')
      have : cs.getD j Go.undef = y := by simp [Array.getD_eq_getD_getElem?, y1]
      simp only [this]
      exact hc j _ _ _ (List.getElem?_eq_getElem hj') hj y2
/-- It is the same where nothing has changed. -/
theorem VR.low0 {w : World} {μ μ' : Nat → Nat} {H : Heap} {x : AV} {v : Value} (h : VR w μ H x v) (hl : LowP x) : VR w μ' noHeap x v := by
  induction h with
  | undef v => exact .undef v
  | int k n => exact .int k n
  | bool b => exact .bool b
  | str s => exact .str s
  | sl0 a cap => exact .sl0 a cap
  | sl hlen hf hc _ ih =>
    cases hl with
    | sl _ _ hl => exact .sl hlen ⟨hf.1, noHeap_owned⟩ hc fun j x hj => ih j x hj (hl x (List.mem_of_getElem? hj))
  | nilptr => cases hl
  | ptr _ _ => cases hl
  | iter _ => cases hl
  | fptr _ _ _ _ => cases hl
  | snil => cases hl
  | slm _ _ _ => cases hl
  | mapnil => cases hl
  | map _ => cases hl
  | nilfn => cases hl
  | fn _ _ _ => cases hl
  | nilIface => cases hl
  | iface _ _ => cases hl
  | agg _ _ _ => cases hl
  | tup _ _ _ => cases hl
/-- A part of a row of one's own, by value. -/
theorem VR.thawS {w : World} {μ : Nat → Nat} {H : Heap} (hr : HR w μ H) {id ver off n : Nat} {pre mid post : List AV} (hid : H id = some (.row ver (pre ++ (mid ++ post)))) (hoff : off = pre.length) (hn : n = mid.length) (hl : ∀ x ∈ mid, LowP x)
    {v : Value} (hv : VR w μ H (.slm id ver 1 off n) v) : VR w (fun i => i) noHeap (.sl n mid) v := by
  obtain ⟨cap, rfl, hcap, hbs, _⟩ := hv.slm_inv ⟨_, hid⟩
  obtain ⟨cs, T, b1, b2, b3⟩ := hr.rows id ver _ hid
  have hlt : μ id < w.heap.size := hr.lt hid rfl
  have key : ∀ j x, mid[j]? = some x → ∃ y, cs[off + j]? = some y ∧ VR w μ H x y := fun j x hj => b3 (off + j) x (by
    subst hoff
    rw [List.getElem?_append_right (by omega), Nat.add_sub_cancel_left, List.getElem?_append_left (List.getElem?_eq_some_iff.1 hj).1]; exact hj)
  refine .sl (b := μ id) (o := off) (ys := fun j => cs.getD (off + j) Go.undef) (by omega) ⟨hlt, noHeap_owned⟩ (fun j x hj => ?_) fun j x hj => ?_
  · obtain ⟨y, y1, _⟩ := key j x hj
    simp only [World.cell?, b1, Option.isSome_none, Bool.false_eq_true, if_false, Array.getD_eq_getD_getElem?, y1, Option.getD_some]
  · obtain ⟨y, y1, y2⟩ := key j x hj
    have : cs.getD (off + j) Go.undef = y := by simp [Array.getD_eq_getD_getElem?, y1]
    simp only [this]
    exact y2.low0 (hl x (List.mem_of_getElem? hj))
theorem TFun.enters {P : Program} {g : FuncId} (h : TFun P g) (args : Array Value) (w : World) : (callFunc g args).run P w = .ok (.enter g args) w := by
  obtain ⟨fn, t1, t2, t3⟩ := h
  have t2' : fn.name ≠ "runtime.NumGoroutine" := by simpa using t2
  have t3' : fn.body ≠ none := fun h => by rw [h] at t3; cases t3
  simp [callFunc, t1, t2', t3']
/-- A plain function, called at values that lie in one's own blocks: nothing changes. -/
theorem PC.live (tick : Tick) (hn : NoGlobs) {P : Program} {g : FuncId} {args args0 : List AV} {k : IntKind} {z : Int} {H : Heap} (h : PC P g args0 (.int k z))
    (hv : ∀ w μ (vs : List Value), HR w μ H → VRs w μ H args vs → VRs w (fun i => i) noHeap args0 vs) : ACalls P g args H fun r H' => r = .int k z ∧ H' = H := by
  intro μ w vs hr hvs
  refine (PC.plain tick hn h (hv w μ _ hr hvs) (v := .int k z) fun _ _ _ _ h => h.int_inv).mono ?_
  rintro e w' ⟨rfl, q, os, rfl⟩
  obtain ⟨g1, g2⟩ := grow_Ext hr q os
  exact ⟨_, rfl, μ, H, _, g2, .int _ _, g1, rfl, rfl⟩
/-- An element of a part of a row. -/
theorem ld_seg {α : Type} [Inhabited α] {xs : List α} {e : α → AV} {pre post : List AV} {off : Nat} {i : Int} (hoff : off = pre.length) (h0 : 0 ≤ i) (h1 : i < xs.length) : loadv false 1 (off + i.toNat * 1) (pre ++ (xs.map e ++ post)) = some (e (at_ xs i)) := by
  have h : i.toNat < xs.length := by omega
  subst hoff
  simp only [loadv, Nat.mul_one]
  rw [List.getElem?_append_right (by omega), Nat.add_sub_cancel_left, List.getElem?_append_left (by simpa using h)]
  simp [at_, h]

/-! ### A slice that is made, of one cell an element -/
/-! ### A part of a frozen slice -/
theorem AOp.sliceSG1 {α : Type} {P : Program} {n : Nat} {f : Nat → AV} {H : Heap} {K : (Nat → AV) → Heap → Prop} {ty : TypeId} {pos : String} {after : Array Edge} {guard : Option (Nat × Bool)} {d : Nat} {xs : List α} {e : α → AV} {t : TypeId} {x : Operand} {lo hi : Option Operand} {l h : Int} (hn : Nat.ble (d + 1) n = true) (hx : ev f x = .sl xs.length (xs.map e)) (ht : TSlice P t 1)
    (hl : loOf f lo = some l) (hh : hiOf f xs.length hi = some h) (h0 : 0 ≤ l) (h1 : l ≤ h) (h2 : h ≤ xs.length)
    (hK : K (upd f d (.sl ((xs.drop l.toNat).take (h.toNat - l.toNat)).length (((xs.drop l.toNat).take (h.toNat - l.toNat)).map e))) H) : AOp P n ⟨some d, .slice t x lo hi none, ty, pos, after, guard⟩ K f H := by
  refine .sliceS (es := 1) hn hx (by simp) ht hl hh h0 h1 h2 ?_
  have e1 : ((xs.drop l.toNat).take (h.toNat - l.toNat)).length = h.toNat - l.toNat := by rw [List.length_take, List.length_drop]; omega
  rw [e1, List.map_take, List.map_drop] at hK
  rw [Nat.mul_one, Nat.mul_one]; exact hK
/-! ### A slice of one's own, cut short -/
theorem Ghost.forget {n : Nat} {f : Nat → AV} {H : Heap} {id ver : Nat} {cells : List AV} (k : Nat) (hid : H id = some (.row ver cells)) : Ghost n f H f (updH H id (.row ver (cells.take k))) := fun μ a w hs => by
  obtain ⟨cs, T, b1, b2, b3⟩ := hs.hr.rows id ver cells hid
  obtain ⟨h1, h2⟩ := setrow (w := w) (w' := w) (ver' := ver) (cells' := cells.take k) (.refl _) hs.hr (Nat.le_refl _) hid b1 b1 rfl (fun _ _ => rfl) rfl (by rw [List.length_take]; omega) fun j x hx => by
    rw [List.getElem?_take] at hx
    split at hx
    · exact b3 j x hx
    · cases hx
  exact ⟨hs.stay h1 h2, h1⟩
theorem AOp.slice_own {P : Program} {n : Nat} {f : Nat → AV} {H H0 : Heap} {K : (Nat → AV) → Heap → Prop} {ty : TypeId} {pos : String} {after : Array Edge} {guard : Option (Nat × Bool)} {d : Nat} {t : TypeId} {x : Operand} {hi : Option Operand} {es len : Nat} {h : Int} {v : AV} {cells : List AV}
    (hn : Nat.ble (d + 1) n = true) (hx : ev f x = v) (ht : TSlice P t es) (ho : Own H0 H es v len cells) (hm : Mono H0 H) (hpos : 0 < len) (hh : hiOf f len hi = some h) (h0 : 0 ≤ h) (h2 : h ≤ len)
    (hK : ∀ v' H', Own H0 H' es v' h.toNat (cells.take (h.toNat * es)) → Mono H0 H' → (∀ i, NotId v i → H i ≠ none → H' i = H i) → (∀ i, NotId v i → H i ≠ none → NotId v' i) → K (upd f d v') H') :
    AOp P n ⟨some d, .slice t x none hi none, ty, pos, after, guard⟩ K f H := by
  obtain ⟨id, ver, e, hid, hz, hl⟩ := ho.pos hpos
  subst e
  refine AOp.ghost (Ghost.forget (h.toNat * es) hid) ?_
  refine AOp.sliceM (l := 0) (h := h) hn hx ⟨_, updH_same _ _ _⟩ ht rfl hh (by omega) (by omega) h0 h2 ?_
  have e1 : (0 : Nat) + (0 : Int).toNat * es = 0 := by simp
  have e2 : h.toNat - (0 : Int).toNat = h.toNat := by simp
  rw [e1, e2]
  refine hK _ _ (.inr ⟨id, ver, rfl, updH_same _ _ _, hz, ?_⟩) (fun i B hB => ?_) (fun i hi _ => updH_ne _ _ (hi _ _ _ _ _ rfl)) fun i hi _ => ?_
  · rw [List.length_take, hl]
    have : h.toNat * es ≤ len * es := Nat.mul_le_mul_right _ (by omega)
    omega
  · have hne : i ≠ id := fun e => by rw [e, hz] at hB; cases hB
    rw [updH_ne _ _ hne]; exact hm i B hB
  · exact NotId.slm (hi _ _ _ _ _ rfl)
/-! ### Base heaps -/
open Classical in
/-- All but these. -/
noncomputable def baseOf (H : Heap) (l : List Nat) (Nv Iv : AV) : Heap := fun i => if i ∈ l ∨ ¬ NotId Nv i ∨ ¬ NotId Iv i then none else H i
theorem base_mono (H : Heap) (l : List Nat) (Nv Iv : AV) : Mono (baseOf H l Nv Iv) H := fun i B h => by
  unfold baseOf at h; split at h
  · cases h
  · exact h
theorem base_none {H : Heap} {l : List Nat} {Nv Iv : AV} {i : Nat} (h : i ∈ l) : baseOf H l Nv Iv i = none := by unfold baseOf; rw [if_pos (.inl h)]
theorem base_get {H : Heap} {l : List Nat} {Nv Iv : AV} {i : Nat} (h : i ∉ l) (h1 : NotId Nv i) (h2 : NotId Iv i) : baseOf H l Nv Iv i = H i := by
  unfold baseOf; rw [if_neg]; rintro (g | g | g)
  · exact h g
  · exact g h1
  · exact g h2
theorem Own.rebase {B B' H : Heap} {es len : Nat} {v : AV} {cells : List AV} (h : Own B H es v len cells) (hb : ∀ i, B i = none → NotId v i ∨ B' i = none) : Own B' H es v len cells := by
  rcases h with h | ⟨id, ver, h1, h2, h3, h4⟩
  · exact .inl h
  · refine .inr ⟨id, ver, h1, h2, ?_, h4⟩
    rcases hb id h3 with g | g
    · exact absurd rfl (g _ _ _ _ _ h1)
    · exact g
/-- One's own slices are one's own over the base that leaves them out. -/
theorem Own.toBase {B H : Heap} {es len : Nat} {v : AV} {cells : List AV} (h : Own B H es v len cells) {l : List Nat} {Nv Iv : AV} (hv : v = Nv ∨ v = Iv) : Own (baseOf H l Nv Iv) H es v len cells :=
  h.rebase fun i _ => by
    by_cases g : NotId v i
    · exact .inl g
    · refine .inr ?_
      unfold baseOf; rw [if_pos]
      rcases hv with rfl | rfl
      · exact .inr (.inl g)
      · exact .inr (.inr g)
/-- Over the base that leaves some out, over the base one had. -/
theorem Own.fromBase {B H H' : Heap} {es es1 es2 len n1 n2 : Nat} {v Nv Iv : AV} {cells c1 c2 : List AV} {l : List Nat} (h : Own (baseOf H l Nv Iv) H' es v len cells) (hm : Mono B H) (hl : ∀ i ∈ l, B i = none) (h1 : Own B H es1 Nv n1 c1) (h2 : Own B H es2 Iv n2 c2) : Own B H' es v len cells :=
  h.rebase fun i hi => .inr (by
    by_cases g : i ∈ l ∨ ¬ NotId Nv i ∨ ¬ NotId Iv i
    · rcases g with g | g | g
      · exact hl i g
      · rcases Classical.em (B i = none) with e | e
        · exact e
        · obtain ⟨X, hX⟩ := Option.ne_none_iff_exists'.1 e
          exact absurd (Own.free h1 hX) g
      · rcases Classical.em (B i = none) with e | e
        · exact e
        · obtain ⟨X, hX⟩ := Option.ne_none_iff_exists'.1 e
          exact absurd (Own.free h2 hX) g
    · unfold baseOf at hi; rw [if_neg g] at hi; exact hm.free hi)
theorem mono_fromBase {B H H' : Heap} {es1 es2 n1 n2 : Nat} {Nv Iv : AV} {c1 c2 : List AV} {l : List Nat} (h : Mono (baseOf H l Nv Iv) H') (hm : Mono B H) (hl : ∀ i ∈ l, B i = none) (h1 : Own B H es1 Nv n1 c1) (h2 : Own B H es2 Iv n2 c2) : Mono B H' := fun i X hX => by
  refine h i X ?_
  rw [base_get (fun g => by rw [hl i g] at hX; cases hX) (Own.free h1 hX) (Own.free h2 hX)]
  exact hm i X hX
end Go.AH
namespace Go.Proofs.B
open Go Go.AH Go.Sort Go.Proofs
set_option maxRecDepth 4000
theorem low_ints (l : List Int) : ∀ x ∈ l.map eI, LowP x := by
  intro x hx
  obtain ⟨k, _, rfl⟩ := List.mem_map.1 hx
  exact .int _ _
theorem low_boxes (bx : List BoxT) : LowP (.sl bx.length (bx.flatMap eBox)) := .sl _ _ fun x hx => by
  obtain ⟨b, _, hb⟩ := List.mem_flatMap.1 hx
  simp only [eBox, List.mem_cons, List.not_mem_nil, or_false] at hb
  rcases hb with rfl | rfl | rfl | rfl | rfl | rfl <;> exact .int _ _
/-- The builder's row, read by value. -/
theorem thaw_bld {w w' : World} {μ μ' : Nat → Nat} {H : Heap} {bx : List BoxT} {leaf : Int} {Nv Iv : AV} (hb : ∀ v, VR w μ H (.sl bx.length (bx.flatMap eBox)) v → VR w' μ' noHeap (.sl bx.length (bx.flatMap eBox)) v) :
    ∀ (j : Nat) (x x0 : AV) (y : Value), ([Nv, Iv, .sl bx.length (bx.flatMap eBox), .int .i64 leaf] : List AV)[j]? = some x → ([.undef, .undef, .sl bx.length (bx.flatMap eBox), .int .i64 leaf] : List AV)[j]? = some x0 → VR w μ H x y → VR w' μ' noHeap x0 y := by
  intro j x x0 y h1 h2 h3
  match j, h1, h2 with
  | 0, h1, h2 => cases h2; exact .undef _
  | 1, h1, h2 => cases h2; exact .undef _
  | 2, h1, h2 => cases h1; cases h2; exact hb _ h3
  | 3, h1, h2 => cases h1; cases h2; rw [h3.int_inv]; exact .int _ _
theorem vrs2 {w : World} {μ : Nat → Nat} {H : Heap} {x y : AV} {u v : Value} (h : VR w μ H x u) (g : VR w μ H y v) : VRs w μ H [x, y] [u, v] := ⟨rfl, fun j a b h1 h2 => by
  match j, h1, h2 with
  | 0, h1, h2 => cases h1; cases h2; exact h
  | 1, h1, h2 => cases h1; cases h2; exact g⟩
theorem vrs2_inv {w : World} {μ : Nat → Nat} {H : Heap} {x y : AV} {vs : List Value} (h : VRs w μ H [x, y] vs) : ∃ u v, vs = [u, v] ∧ VR w μ H x u ∧ VR w μ H y v := by
  obtain ⟨h1, h2⟩ := h
  match vs, h1, h2 with
  | [a, b], _, h2 => exact ⟨a, b, rfl, h2 0 _ _ rfl rfl, h2 1 _ _ rfl rfl⟩
theorem c_axisL (bx : List BoxT) (hok : ∀ b ∈ bx, okBox b) (leaf : Int) (its : List Int) (hl : its.length ≤ 1048576) (hne : its ≠ []) (hin : ∀ k ∈ its, 0 ≤ k ∧ k < bx.length) {H : Heap} {tid tv iid iv off : Nat} {Nv Iv : AV} {pre post : List AV}
    (ht : H tid = some (.row tv [Nv, Iv, .sl bx.length (bx.flatMap eBox), .int .i64 leaf])) (hi : H iid = some (.row iv (pre ++ (its.map eI ++ post)))) (hoff : off = pre.length) :
    ACalls Try.prog 28 [.ptr tid tv 0, .slm iid iv 1 off its.length] H fun r H' => r = .int .i64 (axisR bx its) ∧ Mono H H' :=
  ACalls.mono (PC.live trivial noG (c_axis bx hok leaf its hl hne hin) fun w μ vs hr hv => by
    obtain ⟨u, v, rfl, h1, h2⟩ := vrs2_inv hv
    refine vrs2 (VR.thaw0 hr ht (by simp) (thaw_bld fun v h => h.low0 (low_boxes bx)) h1) ?_
    exact VR.thawS hr hi hoff (by simp) (low_ints its) h2) fun r H' ⟨e1, e2⟩ => ⟨e1, e2 ▸ Mono.refl _⟩
/-! ### The sort -/
theorem fin_lift {n : Nat} : ∀ {l : List Int}, (∀ k ∈ l, 0 ≤ k ∧ k < (n : Int)) → ∃ m : List (Fin n), m.map (fun x => (x.val : Int)) = l
  | [], _ => ⟨[], rfl⟩
  | k :: l, h => by
    obtain ⟨m, rfl⟩ := fin_lift fun x hx => h x (List.mem_cons_of_mem _ hx)
    obtain ⟨h0, h1⟩ := h k List.mem_cons_self
    exact ⟨⟨k.toNat, by omega⟩ :: m, by simp; omega⟩
def cfB (bx : List BoxT) (a : Int) (i k : Int) : Int := orL [cmpI (mid a (at_ bx i)) (mid a (at_ bx k)), cmpI i k]
theorem cfB_lt (bx : List BoxT) (a i k : Int) : decide (cfB bx a i k < 0) = keyLt bx a i k := by
  unfold cfB keyLt
  rw [orL_cmp]
  by_cases h : mid a (at_ bx i) < mid a (at_ bx k) ∨ mid a (at_ bx i) = mid a (at_ bx k) ∧ i < k
  · simp [h]
  · rw [if_neg h]; simp only [h, decide_false]; split <;> simp
theorem c_sort (bx : List BoxT) (hok : ∀ b ∈ bx, okBox b) (leaf a : Int) (ha : 0 ≤ a ∧ a ≤ 2) (its : List Int) (hl : its.length ≤ 1048576) (hne : its ≠ []) (hin : ∀ k ∈ its, 0 ≤ k ∧ k < bx.length) {H : Heap} {tid tv iid iv off bid bv cid cv : Nat} {Nv Iv : AV} {pre post : List AV}
    (ht : H tid = some (.row tv [Nv, Iv, .sl bx.length (bx.flatMap eBox), .int .i64 leaf])) (hi : H iid = some (.row iv (pre ++ (its.map eI ++ post)))) (hoff : off = pre.length)
    (hb : H bid = some (.row bv [.ptr tid tv 0])) (hc : H cid = some (.row cv [.int .i64 a])) (n1 : tid ≠ iid) (n2 : bid ≠ iid) (n3 : cid ≠ iid) :
    ACalls Try.prog 29 [.slm iid iv 1 off its.length, .fn 30 [.ptr bid bv 0, .ptr cid cv 0]] H fun r H' => r = .tup [] ∧ H' iid = some (.row iv (pre ++ ((isort (keyLt bx a) its).map eI ++ post))) ∧ ∀ i, i ≠ iid → H' i = H i := by
  obtain ⟨m, rfl⟩ := fin_lift hin
  have hpos : 0 < bx.length := by
    cases m with
    | nil => simp at hne
    | cons x _ => exact Nat.lt_of_le_of_lt (Nat.zero_le _) x.isLt
  haveI : Inhabited (Fin bx.length) := ⟨⟨0, hpos⟩⟩
  have hmap : ∀ l : List (Fin bx.length), (l.map fun x => (x.val : Int)).map eI = l.map fun x => eI x.val := fun l => by rw [List.map_map]; rfl
  have hlt : ∀ x y : Fin bx.length, ltOf (fun x y : Fin bx.length => cfB bx a x.val y.val) x y = keyLt bx a x.val y.val := fun x y => cfB_lt bx a _ _
  have tot := keyLt_tot bx a
  have hO : SWO (ltOf (fun x y : Fin bx.length => cfB bx a x.val y.val)) := by
    refine ⟨fun x => ?_, fun x y z h1 h2 => ?_, fun x y z h1 h2 => ?_⟩
    · rw [hlt]; simp [keyLt]
    · rw [hlt] at *; simp only [keyLt, decide_eq_true_eq] at *; omega
    · rw [hlt] at *; simp only [keyLt, decide_eq_false_iff_not] at *; omega
  rw [hmap] at hi
  have hrun := sort1_calls (caps := [.ptr bid bv 0, .ptr cid cv 0]) (caps0 := [.fptr [.fptr [.undef, .undef, .sl bx.length (bx.flatMap eBox), .int .i64 leaf] 0] 0, .fptr [.int .i64 a] 0]) trivial noG Try.sortI (cg := 30) (α := Fin bx.length) (e := fun x => eI x.val) (enc := fun x => .int .i64 x.val) (fun x => rfl) (fun x => rfl) (cf := fun x y => cfB bx a x.val y.val) hO (fun args w => by
      exact TFun.enters tf_30 args w) hi hoff (by simp at hl; omega) (fun w μ vs hr hv w' hs hw => by
        obtain ⟨u, v, rfl, h1, h2⟩ := vrs2_inv hv
        have ho : Owned μ H (μ iid) := ⟨iid, _, hi, rfl, rfl⟩
        refine vrs2 (VR.thaw hr hb hi rfl n2 hs hw (by simp) (fun j x x0 y g1 g2 g3 => ?_) h1) (VR.thaw hr hc hi rfl n3 hs hw (by simp) (fun j x x0 y g1 g2 g3 => ?_) h2)
        · match j, g1, g2 with
          | 0, g1, g2 =>
            cases g1; cases g2
            exact VR.thaw hr ht hi rfl n1 hs hw (by simp) (thaw_bld fun v h => VR.low ho hs hw h (low_boxes bx)) g3
        · match j, g1, g2 with
          | 0, g1, g2 => cases g1; cases g2; rw [g3.int_inv]; exact .int _ _) (fun x y => c_cmp bx hok leaf a x.val y.val ha ⟨by omega, by have := x.isLt; omega⟩ ⟨by omega, by have := y.isLt; omega⟩)
  have hrun2 : ACalls Try.prog 29 [.slm iid iv 1 off m.length, .fn 30 [.ptr bid bv 0, .ptr cid cv 0]] H _ := hrun
  rw [List.length_map]
  refine hrun2.mono ?_
  rintro r H' ⟨rfl, its', hp, hs, h1, h2⟩
  refine ⟨rfl, ?_, h2⟩
  rw [h1, ← hmap its']
  congr 5
  refine sorted_unique tot ((hp.map _).trans (isort_perm _ _).symm) ?_ (isort_sorted tot _)
  unfold SortedL
  rw [List.pairwise_map]
  exact hs.imp fun {x y} h => by rw [hlt] at h; exact h
end Go.Proofs.B
