/- A part of the proof that a law answers true for every input of its row: own work, by an AI agent. -/
import Derived.Test.YtcpepibkopbhgaaB03
set_option linter.unusedSimpArgs false
set_option linter.unusedVariables false
set_option linter.defProp false
namespace Go.Proofs.B
open Go Go.AH
set_option maxRecDepth 4000
set_option linter.unusedSimpArgs false
set_option linter.unusedVariables false
theorem c_digits (n : Int) (hn : 0 ≤ n ∧ n < 18446744073709551616) : PC Try.prog 74 [.int .u64 n] (.agg ((digs 18 n).map eI)) := by
 intro H0
 refine ACalls.of_body' (n := 18) rfl rfl rfl rfl ?_
 have m0 := Mono.refl H0
 refine AWP.seq ?_
 refine AWP.region (l := [0]) rfl ?_
 refine AOps.cons rfl rfl (AOp.alloc rfl tz_99 ?_)
 intro i1 H2 n3 h4 k5
 have z6 := Mono.free m0 n3
 have m7 := Mono.new m0 n3 k5
 refine AOps.nil ?_
 change AWP _ _ _ _ _ _
 refine AWP.seq ?_
 refine AWP.region (l := [0, 1, 2]) rfl ?_
 refine AOps.cons rfl rfl (AOp.build (cells := [.int .i64 0, .int .i64 0, .int .i64 0, .int .i64 0, .int .i64 0, .int .i64 0, .int .i64 0, .int .i64 0, .int .i64 0, .int .i64 0, .int .i64 0, .int .i64 0, .int .i64 0, .int .i64 0, .int .i64 0, .int .i64 0, .int .i64 0, .int .i64 0]) rfl tz_99 pl_99 rfl rfl ?_)
 refine AOps.cons rfl rfl (AOp.alloc rfl tz_99 ?_)
 intro i8 H9 n10 h11 k12
 have e13 := ne_new h4 n10
 have z14 := Mono.free m7 n10
 have h15 := keep k12 (ne_new h4 n10) h4
 have m16 := Mono.new m7 n10 k12
 refine AOps.cons rfl rfl (AOp.store' (cells' := [.int .i64 0, .int .i64 0, .int .i64 0, .int .i64 0, .int .i64 0, .int .i64 0, .int .i64 0, .int .i64 0, .int .i64 0, .int .i64 0, .int .i64 0, .int .i64 0, .int .i64 0, .int .i64 0, .int .i64 0, .int .i64 0, .int .i64 0, .int .i64 0]) (.agg [.int .i64 0, .int .i64 0, .int .i64 0, .int .i64 0, .int .i64 0, .int .i64 0, .int .i64 0, .int .i64 0, .int .i64 0, .int .i64 0, .int .i64 0, .int .i64 0, .int .i64 0, .int .i64 0, .int .i64 0, .int .i64 0, .int .i64 0, .int .i64 0]) rfl rfl ts_99 h11 rfl rfl rfl rfl ?_)
 intro H17 h18 k19
 have h20 := keep k19 e13 h15
 have m22 := Mono.set m16 z14 k19
 refine AOps.nil ?_
 change AWP _ _ _ _ _ _
 refine AWP.seq ?_
 refine AWP.seq ?_
 refine AWP.region (l := [0]) rfl ?_
 refine AOps.cons rfl rfl (AOp.assign (.int .i64 0) rfl rfl ?_)
 refine AOps.nil ?_
 change AWP _ _ _ _ _ _
 refine AWP.block ?_
 refine AWP.loop (fun q23 fq Hq => ∃ (i : Int) (out : List Int), q23 = ((4 : Int) - i).toNat ∧ fq 4 = .int .i64 i ∧ fq 0 = .int .u64 (n / 65536 ^ i.toNat) ∧ fq 2 = .ptr i1 0 0 ∧ fq 3 = .ptr i8 0 0 ∧ Hq i1 = some (.row 0 ([.int .i64 0, .int .i64 0, .int .i64 0, .int .i64 0, .int .i64 0, .int .i64 0, .int .i64 0, .int .i64 0, .int .i64 0, .int .i64 0, .int .i64 0, .int .i64 0, .int .i64 0, .int .i64 0, .int .i64 0, .int .i64 0, .int .i64 0, .int .i64 0])) ∧ Hq i8 = some (.row 0 (out.map eI)) ∧ Mono H0 Hq ∧ (0 ≤ i) ∧ (i ≤ 4) ∧ (out.length = 18) ∧ (Dig out) ∧ (val out = n % 65536 ^ i.toNat) ∧ (∀ j : Int, i ≤ j → j < 18 → at_ out j = 0)) (k := ((4 : Int) - 0).toNat) ?_ ?_
 ·
  exact ⟨0, (List.replicate 18 0), rfl, rfl, (congrArg (AV.int .u64) (show (n : Int) = n / 65536 ^ (0 : Int).toNat from by simp)), rfl, rfl, h20, (h18.trans (congrArg (fun c => some (AB.row 0 c)) (show ([.int .i64 0, .int .i64 0, .int .i64 0, .int .i64 0, .int .i64 0, .int .i64 0, .int .i64 0, .int .i64 0, .int .i64 0, .int .i64 0, .int .i64 0, .int .i64 0, .int .i64 0, .int .i64 0, .int .i64 0, .int .i64 0, .int .i64 0, .int .i64 0] : List AV) = (List.replicate 18 0).map eI from by rfl))), m22, by omega, by omega, by rfl, by decide, by simp [val], by intro j h1 h2; exact rep_at h1 h2⟩
 ·
  rintro _ f25 H24 ⟨i, out, rfl, s26, s27, s28, s29, h30, h31, m32, hi0, hi1, hl, hr, hv, hz⟩
  refine AWP.seq ?_
  refine AWP.seq ?_
  refine AWP.region (l := [0, 1]) rfl ?_
  refine AOps.cons rfl rfl (AOp.move (.int .i64 i) rfl s26 ?_)
  refine AOps.cons rfl rfl (AOp.bin (.bool (decide (i < 4))) rfl rfl rfl rfl ?_)
  refine AOps.nil ?_
  change AWP _ _ _ _ _ _
  by_cases b33 : i < 4
  ·
   refine AWP.condT rfl (decide_eq_true b33) ?_
   refine AWP.skip ?_
   change AWP _ _ _ _ _ _
   refine AWP.seq ?_
   refine AWP.block ?_
   refine AWP.seq ?_
   have hq := pw_nn (n := n) hn.1 i.toNat
   have hq2 := pw_lt (n := n) hn.1 hn.2 i.toNat
   refine AWP.region (l := [0, 1, 2, 3, 4, 5]) rfl ?_
   refine AOps.cons rfl rfl (AOp.move (.int .i64 i) rfl s26 ?_)
   refine AOps.cons rfl rfl (AOp.move (.int .u64 (n / 65536 ^ i.toNat)) rfl s27 ?_)
   refine AOps.cons rfl rfl (AOp.remP rfl rfl rfl (by omega) (by omega) ?_)
   refine AOps.cons rfl rfl (AOp.convIntP rfl rfl u_84 u_3 (wrap64 (by omega)) ?_)
   refine AOps.cons rfl rfl (AOp.indexAddrA rfl s29 rfl ar_99 (by omega) (by omega) ⟨_, h31⟩ ?_)
   refine AOps.cons rfl rfl (AOp.store' (cells' := (out.set i.toNat ((n / 65536 ^ i.toNat) % 65536)).map eI) (.int .i64 ((n / 65536 ^ i.toNat) % 65536)) rfl rfl ts_3 h31 rfl rfl (blelen (len1 hl) (by omega)) (wr_off (by omega) (wr_set1 (xs := out) (i := i) (by omega) (by have := hl; omega))) ?_)
   intro H34 h35 k36
   have h37 := keep k36 e13 h30
   have m39 := Mono.set m32 z14 k36
   refine AOps.nil ?_
   change AWP _ _ _ _ _ _
   have hq := pw_nn (n := n) hn.1 i.toNat
   refine AWP.region (l := [0, 1, 2]) rfl ?_
   refine AOps.cons rfl rfl (AOp.move (.int .u64 (n / 65536 ^ i.toNat)) rfl s27 ?_)
   refine AOps.cons rfl rfl (Go.Proofs.B.AOp.quoU (p := n / 65536 ^ i.toNat) rfl rfl rfl (by omega) ?_)
   refine AOps.cons rfl rfl (AOp.assign (.int .u64 ((n / 65536 ^ i.toNat) / 65536)) rfl rfl ?_)
   refine AOps.nil ?_
   change AWP _ _ _ _ _ _
   refine AWP.region (l := [0, 1, 2]) rfl ?_
   refine AOps.cons rfl rfl (AOp.move (.int .i64 i) rfl s26 ?_)
   refine AOps.cons rfl rfl (AOp.bin (.int .i64 (i + 1)) rfl rfl rfl (iadd (by omega)) ?_)
   refine AOps.cons rfl rfl (AOp.assign (.int .i64 (i + 1)) rfl rfl ?_)
   refine AOps.nil ?_
   exact ⟨_, by omega, i + 1, (out.set i.toNat (n / 65536 ^ i.toNat % 65536)), rfl, rfl, (congrArg (AV.int .u64) (show ((n / 65536 ^ i.toNat) / 65536 : Int) = n / 65536 ^ (i + 1).toNat from by exact pw_div n hi0)), s28, s29, h37, (h35.trans (congrArg (fun c => some (AB.row 0 c)) (show ((out.set i.toNat ((n / 65536 ^ i.toNat) % 65536)).map eI : List AV) = (out.set i.toNat (n / 65536 ^ i.toNat % 65536)).map eI from by rfl))), m39, by omega, by omega, by rw [List.length_set]; exact hl, by exact set_dig hr (by omega), by  exact dig_step hi0 (by omega) hl hv hz, by exact dig_zero hi0 (by omega) hl hz⟩
  ·
   refine AWP.condF rfl (decide_eq_false b33) ?_
   refine AWP.exit ?_
   change AWP _ _ _ _ _ _
   refine AWP.seq ?_
   have hend := digs_eq hr hl (hv.trans (dig_end hn (by omega)))
   refine AWP.region (l := [0, 1]) rfl ?_
   refine AOps.cons rfl rfl (AOp.load (.agg (out.map eI)) rfl s29 ty_99 h31 (ld_all (len1 hl)) ?_)
   refine AOps.cons rfl rfl (AOp.store' (cells' := out.map eI) (.agg (out.map eI)) s28 rfl ts_99 h30 (by simp only [AV.cells, List.all_append, List.all_cons, List.all_nil, Bool.and_true, Bool.and_eq_true]; exact (all_one1 eI_one _)) (show (AV.cells (.agg (out.map eI))).length = 18 from (len1 hl)) rfl (wr_all rfl (len1 hl)) ?_)
   intro H40 h41 k42
   have h44 := keep k42 (Ne.symm e13) h31
   have m45 := Mono.set m32 z6 k42
   refine AOps.nil ?_
   change AWP _ _ _ _ _ _
   refine AWP.ret ?_
   refine ⟨_, _, Ghost.refl, .inr rfl, _, Res.list1 rfl (.cell (v := .agg (out.map eI)) s28 ty_99 h41 (ld_all (len1 hl)) (.nil)), ?_, m45⟩
   exact (show (.agg (out.map eI) : AV) = .agg ((digs 18 n).map eI) from by rw [← hend])
theorem c_FromInt (n : Int) (hn : -9223372036854775808 ≤ n ∧ n ≤ 9223372036854775807) : PC Try.prog 63 [.int .i64 n] (.agg ([.bool (decide (n < 0))] ++ ((digs 18 (n.natAbs : Int)).map eI))) := by
 intro H0
 refine ACalls.of_body' (n := 16) rfl rfl rfl rfl ?_
 have m0 := Mono.refl H0
 refine AWP.seq ?_
 refine AWP.region (l := [0]) rfl ?_
 refine AOps.cons rfl rfl (AOp.alloc rfl tz_101 ?_)
 intro i1 H2 n3 h4 k5
 have z6 := Mono.free m0 n3
 have m7 := Mono.new m0 n3 k5
 refine AOps.nil ?_
 change AWP _ _ _ _ _ _
 refine AWP.seq ?_
 refine AWP.seq ?_
 have hab := natAbs_U hn
 refine AWP.region (l := [0, 1]) rfl ?_
 refine AOps.cons rfl rfl (AOp.move (.int .i64 n) rfl rfl ?_)
 refine AOps.cons rfl rfl (AOp.bin (.bool (decide (n < 0))) rfl rfl rfl rfl ?_)
 refine AOps.nil ?_
 change AWP _ _ _ _ _ _
 by_cases b8 : n < 0
 ·
  refine AWP.condT rfl (decide_eq_true b8) ?_
  refine AWP.seq ?_
  refine AWP.region (l := [0, 1, 2, 3, 4, 5, 6, 7]) rfl ?_
  refine AOps.cons rfl rfl (AOp.move (.int .i64 n) rfl rfl ?_)
  refine AOps.cons rfl rfl (AOp.bin (.int .i64 (n + 1)) rfl rfl rfl (iadd (by omega)) ?_)
  refine AOps.cons rfl rfl (AOp.negP rfl rfl (by omega) ?_)
  refine AOps.cons rfl rfl (AOp.convIntP rfl rfl u_3 u_84 (IntWalk.u64_in _ (by omega)) ?_)
  refine AOps.cons rfl rfl (AOp.bin (.int .u64 (IntKind.wrap .u64 ((-(n + 1)) + 1))) rfl rfl rfl rfl ?_)
  refine AOps.cons rfl rfl (AOp.pcall («as» := [.int .u64 (IntKind.wrap .u64 ((-(n + 1)) + 1))]) rfl rfl (rfl) tf_74 (c_digits _ (by first | omega | (rw [wrapU]; omega))) ?_)
  intro H9 m10
  have h11 := m10 _ _ h4
  have m12 := m7.trans m10
  refine AOps.cons rfl rfl (AOp.build (ps := [(0, .bool true), (1, .agg ((digs 18 (IntKind.wrap .u64 ((-(n + 1)) + 1))).map eI))]) (cells := [.bool true] ++ ((digs 18 (IntKind.wrap .u64 ((-(n + 1)) + 1))).map eI)) rfl tz_101 pl_101 rfl (fill_step (c' := ([.bool true, .int .i64 0, .int .i64 0, .int .i64 0, .int .i64 0, .int .i64 0, .int .i64 0, .int .i64 0, .int .i64 0, .int .i64 0, .int .i64 0, .int .i64 0, .int .i64 0, .int .i64 0, .int .i64 0, .int .i64 0, .int .i64 0, .int .i64 0, .int .i64 0] : List AV)) rfl rfl rfl rfl rfl (fill_step (c' := (([.bool true] : List AV) ++ ((digs 18 (IntKind.wrap .u64 ((-(n + 1)) + 1))).map eI : List AV))) rfl rfl (show (AV.cells (.agg ((digs 18 (IntKind.wrap .u64 ((-(n + 1)) + 1))).map eI))).length = 18 from (len1 (digs_len 18 (IntKind.wrap .u64 ((-(n + 1)) + 1))))) rfl (wr_skip (A := ([.bool true] : List AV)) (B := ([.int .i64 0, .int .i64 0, .int .i64 0, .int .i64 0, .int .i64 0, .int .i64 0, .int .i64 0, .int .i64 0, .int .i64 0, .int .i64 0, .int .i64 0, .int .i64 0, .int .i64 0, .int .i64 0, .int .i64 0, .int .i64 0, .int .i64 0, .int .i64 0] : List AV)) (n := 1) (off' := 0) rfl (by omega) (wr_pre (len1 (digs_len 18 (IntKind.wrap .u64 ((-(n + 1)) + 1)))))) (rfl))) ?_)
  refine AOps.cons rfl rfl (AOp.store' (cells' := [.bool true] ++ ((digs 18 (IntKind.wrap .u64 ((-(n + 1)) + 1))).map eI)) (.agg ([.bool true] ++ ((digs 18 (IntKind.wrap .u64 ((-(n + 1)) + 1))).map eI))) rfl rfl ts_101 h11 (by simp only [AV.cells, List.all_append, List.all_cons, List.all_nil, Bool.and_true, Bool.and_eq_true]; exact ⟨rfl, (all_one1 eI_one _)⟩) (show (AV.cells (.agg ([.bool true] ++ ((digs 18 (IntKind.wrap .u64 ((-(n + 1)) + 1))).map eI)))).length = 19 from (len_app (m := 1) (n := 18) (k := 19) rfl (len1 (digs_len 18 (IntKind.wrap .u64 ((-(n + 1)) + 1)))) rfl)) rfl (wr_all rfl (len_app (m := 1) (n := 18) (k := 19) rfl (len1 (digs_len 18 (IntKind.wrap .u64 ((-(n + 1)) + 1)))) rfl)) ?_)
  intro H13 h14 k15
  have m17 := Mono.set m12 z6 k15
  refine AOps.nil ?_
  change AWP _ _ _ _ _ _
  refine AWP.ret ?_
  refine ⟨_, _, Ghost.refl, .inr rfl, _, Res.list1 rfl (.cell (v := .agg ([.bool true] ++ ((digs 18 (IntKind.wrap .u64 ((-(n + 1)) + 1))).map eI))) rfl ty_101 h14 (ld_all (len_app (m := 1) (n := 18) (k := 19) rfl (len1 (digs_len 18 (IntKind.wrap .u64 ((-(n + 1)) + 1)))) rfl)) (.nil)), ?_, m17⟩
  exact (show (.agg ([.bool true] ++ ((digs 18 (IntKind.wrap .u64 ((-(n + 1)) + 1))).map eI)) : AV) = .agg ([.bool (decide (n < 0))] ++ ((digs 18 (n.natAbs : Int)).map eI)) from by rw [show IntKind.wrap .u64 (-(n + 1) + 1) = (n.natAbs : Int) from (by rw [wrapU]; omega), decide_eq_true b8])
 ·
  refine AWP.condF rfl (decide_eq_false b8) ?_
  refine AWP.skip ?_
  change AWP _ _ _ _ _ _
  refine AWP.seq ?_
  refine AWP.region (l := [0, 1, 2, 3, 4]) rfl ?_
  refine AOps.cons rfl rfl (AOp.move (.int .i64 n) rfl rfl ?_)
  refine AOps.cons rfl rfl (AOp.convIntP rfl rfl u_3 u_84 (IntWalk.u64_in _ (by omega)) ?_)
  refine AOps.cons rfl rfl (AOp.pcall («as» := [.int .u64 n]) rfl rfl (rfl) tf_74 (c_digits _ (by first | omega | (rw [wrapU]; omega))) ?_)
  intro H18 m19
  have h20 := m19 _ _ h4
  have m21 := m7.trans m19
  refine AOps.cons rfl rfl (AOp.build (ps := [(1, .agg ((digs 18 n).map eI))]) (cells := [.bool false] ++ ((digs 18 n).map eI)) rfl tz_101 pl_101 rfl (fill_step (c' := (([.bool false] : List AV) ++ ((digs 18 n).map eI : List AV))) rfl rfl (show (AV.cells (.agg ((digs 18 n).map eI))).length = 18 from (len1 (digs_len 18 n))) rfl (wr_skip (A := ([.bool false] : List AV)) (B := ([.int .i64 0, .int .i64 0, .int .i64 0, .int .i64 0, .int .i64 0, .int .i64 0, .int .i64 0, .int .i64 0, .int .i64 0, .int .i64 0, .int .i64 0, .int .i64 0, .int .i64 0, .int .i64 0, .int .i64 0, .int .i64 0, .int .i64 0, .int .i64 0] : List AV)) (n := 1) (off' := 0) rfl (by omega) (wr_pre (len1 (digs_len 18 n)))) (rfl)) ?_)
  refine AOps.cons rfl rfl (AOp.store' (cells' := [.bool false] ++ ((digs 18 n).map eI)) (.agg ([.bool false] ++ ((digs 18 n).map eI))) rfl rfl ts_101 h20 (by simp only [AV.cells, List.all_append, List.all_cons, List.all_nil, Bool.and_true, Bool.and_eq_true]; exact ⟨rfl, (all_one1 eI_one _)⟩) (show (AV.cells (.agg ([.bool false] ++ ((digs 18 n).map eI)))).length = 19 from (len_app (m := 1) (n := 18) (k := 19) rfl (len1 (digs_len 18 n)) rfl)) rfl (wr_all rfl (len_app (m := 1) (n := 18) (k := 19) rfl (len1 (digs_len 18 n)) rfl)) ?_)
  intro H22 h23 k24
  have m26 := Mono.set m21 z6 k24
  refine AOps.nil ?_
  change AWP _ _ _ _ _ _
  refine AWP.ret ?_
  refine ⟨_, _, Ghost.refl, .inr rfl, _, Res.list1 rfl (.cell (v := .agg ([.bool false] ++ ((digs 18 n).map eI))) rfl ty_101 h23 (ld_all (len_app (m := 1) (n := 18) (k := 19) rfl (len1 (digs_len 18 n)) rfl)) (.nil)), ?_, m26⟩
  exact (show (.agg ([.bool false] ++ ((digs 18 n).map eI)) : AV) = .agg ([.bool (decide (n < 0))] ++ ((digs 18 (n.natAbs : Int)).map eI)) from by rw [decide_eq_false b8, show (n.natAbs : Int) = n from (by omega)])
theorem c_zero (u : Int) (hu : B18 u) : PC Try.prog 73 [.agg ((digs 18 u).map eI)] (.bool (decide (u = 0))) := by
 intro H0
 refine ACalls.of_body' (n := 6) rfl rfl rfl rfl ?_
 have m0 := Mono.refl H0
 refine AWP.seq ?_
 refine AWP.region (l := [0, 1]) rfl ?_
 refine AOps.cons rfl rfl (AOp.box (.agg ((digs 18 u).map eI)) rfl rfl rfl ?_)
 intro i1 H2 n3 h4 k5
 have z6 := Mono.free m0 n3
 have m7 := Mono.new m0 n3 k5
 refine AOps.cons rfl rfl (AOp.assign (.bool false) rfl rfl ?_)
 refine AOps.nil ?_
 change AWP _ _ _ _ _ _
 refine AWP.seq ?_
 refine AWP.frzP 1 h4 z6 rfl m7 fun H8 m9 k10 => ?_
 refine AWP.region (l := [0, 1, 2, 3]) rfl ?_
 refine AOps.cons rfl rfl (AOp.loadF (.agg ((digs 18 u).map eI)) rfl rfl ty_99 (ld_all (len1 (digs_len 18 u))) ?_)
 refine AOps.cons rfl rfl (AOp.build (cells := [.int .i64 0, .int .i64 0, .int .i64 0, .int .i64 0, .int .i64 0, .int .i64 0, .int .i64 0, .int .i64 0, .int .i64 0, .int .i64 0, .int .i64 0, .int .i64 0, .int .i64 0, .int .i64 0, .int .i64 0, .int .i64 0, .int .i64 0, .int .i64 0]) rfl tz_99 pl_99 rfl rfl ?_)
 refine AOps.cons rfl rfl (AOp.eqAggD rfl rfl rfl teq99 (kokD ⟨digs_len _ _, digs_rng _ _⟩) (kokD (l := ([0, 0, 0, 0, 0, 0, 0, 0, 0, 0, 0, 0, 0, 0, 0, 0, 0, 0] : List Int)) ⟨rfl, by decide⟩) (eD_iff (digs 18 u) ([0, 0, 0, 0, 0, 0, 0, 0, 0, 0, 0, 0, 0, 0, 0, 0, 0, 0] : List Int)) ?_)
 refine AOps.cons rfl rfl (AOp.assign (.bool (decide (digs 18 u = ([0, 0, 0, 0, 0, 0, 0, 0, 0, 0, 0, 0, 0, 0, 0, 0, 0, 0] : List Int)))) rfl rfl ?_)
 refine AOps.nil ?_
 change AWP _ _ _ _ _ _
 refine AWP.ret ?_
 refine ⟨_, _, Ghost.refl, .inr rfl, _, Res.one rfl rfl, ?_, m9⟩
 exact (congrArg AV.bool (show (decide (digs 18 u = ([0, 0, 0, 0, 0, 0, 0, 0, 0, 0, 0, 0, 0, 0, 0, 0, 0, 0] : List Int)) : Bool) = decide (u = 0) from by exact decide_eq_decide.2 (zero_digs hu)))
theorem c_cmpDigits (u v : Int) (hu : B18 u) (hv : B18 v) : PC Try.prog 72 [.agg ((digs 18 u).map eI), .agg ((digs 18 v).map eI)] (.int .i64 (cmpI u v)) := by
 intro H0
 refine ACalls.of_body' (n := 24) rfl rfl rfl rfl ?_
 have m0 := Mono.refl H0
 refine AWP.seq ?_
 refine AWP.region (l := [0, 1, 2]) rfl ?_
 refine AOps.cons rfl rfl (AOp.box (.agg ((digs 18 u).map eI)) rfl rfl rfl ?_)
 intro i1 H2 n3 h4 k5
 have z6 := Mono.free m0 n3
 have m7 := Mono.new m0 n3 k5
 refine AOps.cons rfl rfl (AOp.box (.agg ((digs 18 v).map eI)) rfl rfl rfl ?_)
 intro i8 H9 n10 h11 k12
 have e13 := ne_new h4 n10
 have z14 := Mono.free m7 n10
 have h15 := keep k12 (ne_new h4 n10) h4
 have m16 := Mono.new m7 n10 k12
 refine AOps.cons rfl rfl (AOp.assign (.int .i64 0) rfl rfl ?_)
 refine AOps.nil ?_
 change AWP _ _ _ _ _ _
 refine AWP.seq ?_
 refine AWP.seq ?_
 refine AWP.frzP 2 h15 z6 rfl m16 fun H17 m18 k19 => ?_
 have h20 := (k19 _ (Ne.symm e13)).trans h11
 refine AWP.frzP 3 h20 z14 rfl m18 fun H21 m22 k23 => ?_
 refine AWP.region (l := [0]) rfl ?_
 refine AOps.cons rfl rfl (AOp.assign (.int .i64 17) rfl rfl ?_)
 refine AOps.nil ?_
 change AWP _ _ _ _ _ _
 refine AWP.block ?_
 refine AWP.loop (fun q24 fq Hq => ∃ (i : Int), q24 = ((i : Int) + 1).toNat ∧ fq 5 = .int .i64 i ∧ fq 2 = .fptr ((digs 18 u).map eI) 0 ∧ fq 3 = .fptr ((digs 18 v).map eI) 0 ∧ Mono H0 Hq ∧ (-1 ≤ i ∧ i ≤ 17) ∧ (∀ j : Int, i < j → j < 18 → at_ (digs 18 u) j = at_ (digs 18 v) j)) (k := ((17 : Int) + 1).toNat) ?_ ?_
 ·
  exact ⟨17, rfl, rfl, rfl, rfl, m22, by omega, by intro j; omega⟩
 ·
  rintro _ f26 H25 ⟨i, rfl, s27, s28, s29, m30, hi1, he⟩
  refine AWP.seq ?_
  refine AWP.seq ?_
  refine AWP.region (l := [0, 1]) rfl ?_
  refine AOps.cons rfl rfl (AOp.move (.int .i64 i) rfl s27 ?_)
  refine AOps.cons rfl rfl (AOp.bin (.bool (decide (i ≥ 0))) rfl rfl rfl rfl ?_)
  refine AOps.nil ?_
  change AWP _ _ _ _ _ _
  by_cases b31 : i ≥ 0
  ·
   refine AWP.condT rfl (decide_eq_true b31) ?_
   refine AWP.skip ?_
   change AWP _ _ _ _ _ _
   refine AWP.seq ?_
   refine AWP.block ?_
   refine AWP.seq ?_
   refine AWP.seq ?_
   refine AWP.region_quiet mixed (by kernel_rfl) 7 [] rfl (by kernel_rfl) (Mono H25) (Mono.refl _) ?_
   refine QE.op rfl rfl (.inl ⟨rfl, fun f' H' hf hM => AOp.move (.int .i64 i) rfl ((hf 5 rfl).trans s27) ⟨rfl, hM⟩⟩) ?_
   refine QE.op rfl rfl (.inl ⟨rfl, fun f' H' hf hM => AOp.indexAddrFA rfl ((hf 2 rfl).trans s28) ((hf 10 rfl).trans rfl) ar_99 (by omega) (by omega) ⟨rfl, hM⟩⟩) ?_
   refine QE.op rfl rfl (.inl ⟨rfl, fun f' H' hf hM => AOp.loadF (.int .i64 (at_ (digs 18 u) i)) rfl ((hf 11 rfl).trans rfl) ty_3 (ld_off (o := 0 + i.toNat * 1) (by omega) (ld1 (i := i) (by omega) (by first | (have := (digs_len 18 u); omega) | (simp; omega)))) ⟨rfl, hM⟩⟩) ?_
   refine QE.op rfl rfl (.inl ⟨rfl, fun f' H' hf hM => AOp.move (.int .i64 i) rfl ((hf 5 rfl).trans s27) ⟨rfl, hM⟩⟩) ?_
   refine QE.op rfl rfl (.inl ⟨rfl, fun f' H' hf hM => AOp.indexAddrFA rfl ((hf 3 rfl).trans s29) ((hf 13 rfl).trans rfl) ar_99 (by omega) (by omega) ⟨rfl, hM⟩⟩) ?_
   refine QE.op rfl rfl (.inl ⟨rfl, fun f' H' hf hM => AOp.loadF (.int .i64 (at_ (digs 18 v) i)) rfl ((hf 14 rfl).trans rfl) ty_3 (ld_off (o := 0 + i.toNat * 1) (by omega) (ld1 (i := i) (by omega) (by first | (have := (digs_len 18 v); omega) | (simp; omega)))) ⟨rfl, hM⟩⟩) ?_
   refine QE.op rfl rfl (.inl ⟨rfl, fun f' H' hf hM => AOp.bin (.bool (decide (at_ (digs 18 u) i < at_ (digs 18 v) i))) rfl ((hf 12 rfl).trans rfl) ((hf 15 rfl).trans rfl) rfl ⟨rfl, hM⟩⟩) ?_
   refine QE.done fun H32 m33 => ?_
   have m34 := m30.trans m33
   refine AOps.nil ?_
   change AWP _ _ _ _ _ _
   by_cases b35 : at_ (digs 18 u) i < at_ (digs 18 v) i
   ·
    refine AWP.condT rfl (decide_eq_true b35) ?_
    refine AWP.seq ?_
    refine AWP.region (l := [0]) rfl ?_
    refine AOps.cons rfl rfl (AOp.assign (.int .i64 (-1)) rfl rfl ?_)
    refine AOps.nil ?_
    change AWP _ _ _ _ _ _
    refine AWP.ret ?_
    refine ⟨_, _, Ghost.refl, .inr rfl, _, Res.one rfl rfl, ?_, m34⟩
    exact (congrArg (AV.int .i64) (show (-1 : Int) = cmpI u v from by exact (cmpI_lt (cmp_top hu hv (by omega) (by omega) he b35)).symm))
   ·
    refine AWP.condF rfl (decide_eq_false b35) ?_
    refine AWP.skip ?_
    change AWP _ _ _ _ _ _
    refine AWP.seq ?_
    refine AWP.region_quiet mixed (by kernel_rfl) 7 [] rfl (by kernel_rfl) (Mono H32) (Mono.refl _) ?_
    refine QE.op rfl rfl (.inl ⟨rfl, fun f' H' hf hM => AOp.move (.int .i64 i) rfl ((hf 5 rfl).trans s27) ⟨rfl, hM⟩⟩) ?_
    refine QE.op rfl rfl (.inl ⟨rfl, fun f' H' hf hM => AOp.indexAddrFA rfl ((hf 2 rfl).trans s28) ((hf 17 rfl).trans rfl) ar_99 (by omega) (by omega) ⟨rfl, hM⟩⟩) ?_
    refine QE.op rfl rfl (.inl ⟨rfl, fun f' H' hf hM => AOp.loadF (.int .i64 (at_ (digs 18 u) i)) rfl ((hf 18 rfl).trans rfl) ty_3 (ld_off (o := 0 + i.toNat * 1) (by omega) (ld1 (i := i) (by omega) (by first | (have := (digs_len 18 u); omega) | (simp; omega)))) ⟨rfl, hM⟩⟩) ?_
    refine QE.op rfl rfl (.inl ⟨rfl, fun f' H' hf hM => AOp.move (.int .i64 i) rfl ((hf 5 rfl).trans s27) ⟨rfl, hM⟩⟩) ?_
    refine QE.op rfl rfl (.inl ⟨rfl, fun f' H' hf hM => AOp.indexAddrFA rfl ((hf 3 rfl).trans s29) ((hf 20 rfl).trans rfl) ar_99 (by omega) (by omega) ⟨rfl, hM⟩⟩) ?_
    refine QE.op rfl rfl (.inl ⟨rfl, fun f' H' hf hM => AOp.loadF (.int .i64 (at_ (digs 18 v) i)) rfl ((hf 21 rfl).trans rfl) ty_3 (ld_off (o := 0 + i.toNat * 1) (by omega) (ld1 (i := i) (by omega) (by first | (have := (digs_len 18 v); omega) | (simp; omega)))) ⟨rfl, hM⟩⟩) ?_
    refine QE.op rfl rfl (.inl ⟨rfl, fun f' H' hf hM => AOp.bin (.bool (decide (at_ (digs 18 u) i > at_ (digs 18 v) i))) rfl ((hf 19 rfl).trans rfl) ((hf 22 rfl).trans rfl) rfl ⟨rfl, hM⟩⟩) ?_
    refine QE.done fun H36 m37 => ?_
    have m38 := m34.trans m37
    refine AOps.nil ?_
    change AWP _ _ _ _ _ _
    by_cases b39 : at_ (digs 18 u) i > at_ (digs 18 v) i
    ·
     refine AWP.condT rfl (decide_eq_true b39) ?_
     refine AWP.seq ?_
     refine AWP.region (l := [0]) rfl ?_
     refine AOps.cons rfl rfl (AOp.assign (.int .i64 1) rfl rfl ?_)
     refine AOps.nil ?_
     change AWP _ _ _ _ _ _
     refine AWP.ret ?_
     refine ⟨_, _, Ghost.refl, .inr rfl, _, Res.one rfl rfl, ?_, m38⟩
     exact (congrArg (AV.int .i64) (show (1 : Int) = cmpI u v from by exact (cmpI_gt (cmp_top hv hu (by omega) (by omega) (fun j a b => (he j a b).symm) b39)).symm))
    ·
     refine AWP.condF rfl (decide_eq_false b39) ?_
     refine AWP.skip ?_
     change AWP _ _ _ _ _ _
     refine AWP.region (l := [0, 1, 2]) rfl ?_
     refine AOps.cons rfl rfl (AOp.move (.int .i64 i) rfl s27 ?_)
     refine AOps.cons rfl rfl (AOp.bin (.int .i64 (i - 1)) rfl rfl rfl (isub (by omega)) ?_)
     refine AOps.cons rfl rfl (AOp.assign (.int .i64 (i - 1)) rfl rfl ?_)
     refine AOps.nil ?_
     exact ⟨_, by omega, i - 1, rfl, rfl, s28, s29, m38, by omega, by exact he_step he (by omega)⟩
  ·
   refine AWP.condF rfl (decide_eq_false b31) ?_
   refine AWP.exit ?_
   change AWP _ _ _ _ _ _
   refine AWP.seq ?_
   refine AWP.region (l := [0]) rfl ?_
   refine AOps.cons rfl rfl (AOp.assign (.int .i64 0) rfl rfl ?_)
   refine AOps.nil ?_
   change AWP _ _ _ _ _ _
   refine AWP.ret ?_
   refine ⟨_, _, Ghost.refl, .inr rfl, _, Res.one rfl rfl, ?_, m30⟩
   exact (congrArg (AV.int .i64) (show (0 : Int) = cmpI u v from by exact (cmpI_eq (cmp_eq hu hv (by omega) he)).symm))
theorem c_Compare18 (s : Bool) (u : Int) (t : Bool) (v : Int) (hu : B18 u) (hv : B18 v) : PC Try.prog 61 [.agg ([.bool s] ++ ((digs 18 u).map eI)), .agg ([.bool t] ++ ((digs 18 v).map eI))] (.int .i64 (cmpS s u t v)) := by
 intro H0
 refine ACalls.of_body' (n := 23) rfl rfl rfl rfl ?_
 have m0 := Mono.refl H0
 refine AWP.seq ?_
 refine AWP.region (l := [0, 1, 2]) rfl ?_
 refine AOps.cons rfl rfl (AOp.box (.agg ([.bool s] ++ ((digs 18 u).map eI))) rfl rfl rfl ?_)
 intro i1 H2 n3 h4 k5
 have z6 := Mono.free m0 n3
 have m7 := Mono.new m0 n3 k5
 refine AOps.cons rfl rfl (AOp.box (.agg ([.bool t] ++ ((digs 18 v).map eI))) rfl rfl rfl ?_)
 intro i8 H9 n10 h11 k12
 have e13 := ne_new h4 n10
 have z14 := Mono.free m7 n10
 have h15 := keep k12 (ne_new h4 n10) h4
 have m16 := Mono.new m7 n10 k12
 refine AOps.cons rfl rfl (AOp.assign (.int .i64 0) rfl rfl ?_)
 refine AOps.nil ?_
 change AWP _ _ _ _ _ _
 refine AWP.seq ?_
 refine AWP.seq ?_
 refine AWP.frzP 2 h15 z6 rfl m16 fun H17 m18 k19 => ?_
 have h20 := (k19 _ (Ne.symm e13)).trans h11
 refine AWP.frzP 3 h20 z14 rfl m18 fun H21 m22 k23 => ?_
 refine AWP.region (l := [0, 1, 2, 3, 4]) rfl ?_
 refine AOps.cons rfl rfl (AOp.fieldAddrF rfl rfl fl_101_0 ?_)
 refine AOps.cons rfl rfl (AOp.loadF (.bool s) rfl rfl ty_4 (ld_fst (fun h => by first | rfl | cases h) rfl) ?_)
 refine AOps.cons rfl rfl (AOp.fieldAddrF rfl rfl fl_101_0 ?_)
 refine AOps.cons rfl rfl (AOp.loadF (.bool t) rfl rfl ty_4 (ld_fst (fun h => by first | rfl | cases h) rfl) ?_)
 refine AOps.cons rfl rfl (AOp.bne rfl rfl rfl u_4 ?_)
 refine AOps.nil ?_
 change AWP _ _ _ _ _ _
 rcases Bool.eq_false_or_eq_true (s != t) with b24 | b24
 ·
  refine AWP.condT rfl b24 ?_
  refine AWP.seq ?_
  refine AWP.seq ?_
  refine AWP.region (l := [0, 1]) rfl ?_
  refine AOps.cons rfl rfl (AOp.fieldAddrF rfl rfl fl_101_0 ?_)
  refine AOps.cons rfl rfl (AOp.loadF (.bool s) rfl rfl ty_4 (ld_fst (fun h => by first | rfl | cases h) rfl) ?_)
  refine AOps.nil ?_
  change AWP _ _ _ _ _ _
  rcases Bool.eq_false_or_eq_true (s) with b25 | b25
  ·
   refine AWP.condT rfl b25 ?_
   refine AWP.seq ?_
   refine AWP.region (l := [0]) rfl ?_
   refine AOps.cons rfl rfl (AOp.assign (.int .i64 (-1)) rfl rfl ?_)
   refine AOps.nil ?_
   change AWP _ _ _ _ _ _
   refine AWP.ret ?_
   refine ⟨_, _, Ghost.refl, .inr rfl, _, Res.one rfl rfl, ?_, m22⟩
   exact (congrArg (AV.int .i64) (show (-1 : Int) = cmpS s u t v from by unfold cmpS; simp_all))
  ·
   refine AWP.condF rfl b25 ?_
   refine AWP.skip ?_
   change AWP _ _ _ _ _ _
   refine AWP.seq ?_
   refine AWP.region (l := [0]) rfl ?_
   refine AOps.cons rfl rfl (AOp.assign (.int .i64 1) rfl rfl ?_)
   refine AOps.nil ?_
   change AWP _ _ _ _ _ _
   refine AWP.ret ?_
   refine ⟨_, _, Ghost.refl, .inr rfl, _, Res.one rfl rfl, ?_, m22⟩
   exact (congrArg (AV.int .i64) (show (1 : Int) = cmpS s u t v from by unfold cmpS; simp_all))
 ·
  refine AWP.condF rfl b24 ?_
  refine AWP.skip ?_
  change AWP _ _ _ _ _ _
  refine AWP.seq ?_
  refine AWP.region (l := [0, 1, 2, 3, 4, 5]) rfl ?_
  refine AOps.cons rfl rfl (AOp.fieldAddrF rfl rfl fl_101_1 ?_)
  refine AOps.cons rfl rfl (AOp.loadF (.agg ((digs 18 u).map eI)) rfl rfl ty_99 (ld_skip (off' := 0) (n := 1) rfl (by omega) (ld_all (len1 (digs_len 18 u)))) ?_)
  refine AOps.cons rfl rfl (AOp.fieldAddrF rfl rfl fl_101_1 ?_)
  refine AOps.cons rfl rfl (AOp.loadF (.agg ((digs 18 v).map eI)) rfl rfl ty_99 (ld_skip (off' := 0) (n := 1) rfl (by omega) (ld_all (len1 (digs_len 18 v)))) ?_)
  refine AOps.cons rfl rfl (AOp.pcall («as» := [.agg ((digs 18 u).map eI), .agg ((digs 18 v).map eI)]) rfl rfl (rfl) tf_72 (c_cmpDigits u v (by assumption) (by assumption)) ?_)
  intro H26 m27
  have m28 := m22.trans m27
  refine AOps.cons rfl rfl (AOp.assign (.int .i64 (cmpI u v)) rfl rfl ?_)
  refine AOps.nil ?_
  change AWP _ _ _ _ _ _
  refine AWP.seq ?_
  refine AWP.seq ?_
  refine AWP.region (l := [0, 1]) rfl ?_
  refine AOps.cons rfl rfl (AOp.fieldAddrF rfl rfl fl_101_0 ?_)
  refine AOps.cons rfl rfl (AOp.loadF (.bool s) rfl rfl ty_4 (ld_fst (fun h => by first | rfl | cases h) rfl) ?_)
  refine AOps.nil ?_
  change AWP _ _ _ _ _ _
  rcases Bool.eq_false_or_eq_true (s) with b29 | b29
  ·
   refine AWP.condT rfl b29 ?_
   refine AWP.seq ?_
   have hcr := cmpI_rng u v
   refine AWP.region (l := [0, 1, 2]) rfl ?_
   refine AOps.cons rfl rfl (AOp.move (.int .i64 (cmpI u v)) rfl rfl ?_)
   refine AOps.cons rfl rfl (AOp.negP rfl rfl (by omega) ?_)
   refine AOps.cons rfl rfl (AOp.assign (.int .i64 (-(cmpI u v))) rfl rfl ?_)
   refine AOps.nil ?_
   change AWP _ _ _ _ _ _
   refine AWP.ret ?_
   refine ⟨_, _, Ghost.refl, .inr rfl, _, Res.one rfl rfl, ?_, m28⟩
   exact (congrArg (AV.int .i64) (show (-(cmpI u v) : Int) = cmpS s u t v from by unfold cmpS; simp_all))
  ·
   refine AWP.condF rfl b29 ?_
   refine AWP.skip ?_
   change AWP _ _ _ _ _ _
   refine AWP.seq ?_
   refine AWP.region (l := [0, 1]) rfl ?_
   refine AOps.cons rfl rfl (AOp.move (.int .i64 (cmpI u v)) rfl rfl ?_)
   refine AOps.cons rfl rfl (AOp.assign (.int .i64 (cmpI u v)) rfl rfl ?_)
   refine AOps.nil ?_
   change AWP _ _ _ _ _ _
   refine AWP.ret ?_
   refine ⟨_, _, Ghost.refl, .inr rfl, _, Res.one rfl rfl, ?_, m28⟩
   exact (congrArg (AV.int .i64) (show (cmpI u v : Int) = cmpS s u t v from by unfold cmpS; simp_all))
theorem c_Times (s : Bool) (u : Int) (t : Bool) (v : Int) (hu : 0 ≤ u ∧ u < 18446744073709551616) (hv : 0 ≤ v ∧ v < 18446744073709551616) : PC Try.prog 62 [.agg ([.bool s] ++ ((digs 18 u).map eI)), .agg ([.bool t] ++ ((digs 18 v).map eI))] (.agg ([.bool (timesN s t u v)] ++ ((digs 18 (u * v)).map eI))) := by
 intro H0
 refine ACalls.of_body' (n := 59) rfl rfl rfl rfl ?_
 have m0 := Mono.refl H0
 refine AWP.seq ?_
 refine AWP.region (l := [0, 1, 2]) rfl ?_
 refine AOps.cons rfl rfl (AOp.box (.agg ([.bool s] ++ ((digs 18 u).map eI))) rfl rfl rfl ?_)
 intro i1 H2 n3 h4 k5
 have z6 := Mono.free m0 n3
 have m7 := Mono.new m0 n3 k5
 refine AOps.cons rfl rfl (AOp.box (.agg ([.bool t] ++ ((digs 18 v).map eI))) rfl rfl rfl ?_)
 intro i8 H9 n10 h11 k12
 have e13 := ne_new h4 n10
 have z14 := Mono.free m7 n10
 have h15 := keep k12 (ne_new h4 n10) h4
 have m16 := Mono.new m7 n10 k12
 refine AOps.cons rfl rfl (AOp.alloc rfl tz_101 ?_)
 intro i17 H18 n19 h20 k21
 have e22 := ne_new h15 n19
 have e23 := ne_new h11 n19
 have z24 := Mono.free m16 n19
 have h25 := keep k21 (ne_new h15 n19) h15
 have h26 := keep k21 (ne_new h11 n19) h11
 have m27 := Mono.new m16 n19 k21
 refine AOps.nil ?_
 change AWP _ _ _ _ _ _
 refine AWP.seq ?_
 refine AWP.frzP 2 h25 z6 rfl m27 fun H28 m29 k30 => ?_
 have h31 := (k30 _ (Ne.symm e13)).trans h26
 have h32 := (k30 _ (Ne.symm e22)).trans h20
 refine AWP.frzP 3 h31 z14 rfl m29 fun H33 m34 k35 => ?_
 have h36 := (k35 _ (Ne.symm e23)).trans h32
 refine AWP.region (l := [0, 1, 2]) rfl ?_
 refine AOps.cons rfl rfl (AOp.build (cells := [.bool false, .int .i64 0, .int .i64 0, .int .i64 0, .int .i64 0, .int .i64 0, .int .i64 0, .int .i64 0, .int .i64 0, .int .i64 0, .int .i64 0, .int .i64 0, .int .i64 0, .int .i64 0, .int .i64 0, .int .i64 0, .int .i64 0, .int .i64 0, .int .i64 0]) rfl tz_101 pl_101 rfl rfl ?_)
 refine AOps.cons rfl rfl (AOp.alloc rfl tz_101 ?_)
 intro i37 H38 n39 h40 k41
 have e42 := ne_new h36 n39
 have z43 := Mono.free m34 n39
 have h44 := keep k41 (ne_new h36 n39) h36
 have m45 := Mono.new m34 n39 k41
 refine AOps.cons rfl rfl (AOp.store' (cells' := [.bool false, .int .i64 0, .int .i64 0, .int .i64 0, .int .i64 0, .int .i64 0, .int .i64 0, .int .i64 0, .int .i64 0, .int .i64 0, .int .i64 0, .int .i64 0, .int .i64 0, .int .i64 0, .int .i64 0, .int .i64 0, .int .i64 0, .int .i64 0, .int .i64 0]) (.agg [.bool false, .int .i64 0, .int .i64 0, .int .i64 0, .int .i64 0, .int .i64 0, .int .i64 0, .int .i64 0, .int .i64 0, .int .i64 0, .int .i64 0, .int .i64 0, .int .i64 0, .int .i64 0, .int .i64 0, .int .i64 0, .int .i64 0, .int .i64 0, .int .i64 0]) rfl rfl ts_101 h40 rfl rfl rfl rfl ?_)
 intro H46 h47 k48
 have h49 := keep k48 e42 h44
 have m51 := Mono.set m45 z43 k48
 refine AOps.nil ?_
 change AWP _ _ _ _ _ _
 refine AWP.seq ?_
 refine AWP.seq ?_
 refine AWP.region (l := [0]) rfl ?_
 refine AOps.cons rfl rfl (AOp.assign (.int .i64 0) rfl rfl ?_)
 refine AOps.nil ?_
 change AWP _ _ _ _ _ _
 refine AWP.block ?_
 refine AWP.loop (fun q52 fq Hq => ∃ (i : Int) (out : List Int), q52 = ((9 : Int) - i).toNat ∧ fq 6 = .int .i64 i ∧ fq 2 = .fptr (([.bool s] : List AV) ++ ((digs 18 u).map eI)) 0 ∧ fq 3 = .fptr (([.bool t] : List AV) ++ ((digs 18 v).map eI)) 0 ∧ fq 4 = .ptr i17 0 0 ∧ fq 5 = .ptr i37 0 0 ∧ Hq i17 = some (.row 0 ([.bool false, .int .i64 0, .int .i64 0, .int .i64 0, .int .i64 0, .int .i64 0, .int .i64 0, .int .i64 0, .int .i64 0, .int .i64 0, .int .i64 0, .int .i64 0, .int .i64 0, .int .i64 0, .int .i64 0, .int .i64 0, .int .i64 0, .int .i64 0, .int .i64 0])) ∧ Hq i37 = some (.row 0 ([.bool false] ++ (out.map eI))) ∧ Mono H0 Hq ∧ (0 ≤ i) ∧ (i ≤ 9) ∧ (out.length = 18) ∧ (Dig out) ∧ (val out = u % 65536 ^ i.toNat * v)) (k := ((9 : Int) - 0).toNat) ?_ ?_
 ·
  exact ⟨0, (List.replicate 18 0), rfl, rfl, rfl, rfl, rfl, rfl, h49, (h47.trans (congrArg (fun c => some (AB.row 0 c)) (show ([.bool false, .int .i64 0, .int .i64 0, .int .i64 0, .int .i64 0, .int .i64 0, .int .i64 0, .int .i64 0, .int .i64 0, .int .i64 0, .int .i64 0, .int .i64 0, .int .i64 0, .int .i64 0, .int .i64 0, .int .i64 0, .int .i64 0, .int .i64 0, .int .i64 0] : List AV) = [.bool false] ++ ((List.replicate 18 0).map eI) from by rfl))), m51, by omega, by omega, by rfl, by decide, by simp [val] <;> exact Int.emod_one _⟩
 ·
  rintro _ f54 H53 ⟨i, out, rfl, s55, s56, s57, s58, s59, h60, h61, m62, hi0, hi1, hl, hr, hv0⟩
  refine AWP.seq ?_
  refine AWP.seq ?_
  refine AWP.region (l := [0, 1]) rfl ?_
  refine AOps.cons rfl rfl (AOp.move (.int .i64 i) rfl s55 ?_)
  refine AOps.cons rfl rfl (AOp.bin (.bool (decide (i < 9))) rfl rfl rfl rfl ?_)
  refine AOps.nil ?_
  change AWP _ _ _ _ _ _
  by_cases b63 : i < 9
  ·
   refine AWP.condT rfl (decide_eq_true b63) ?_
   refine AWP.skip ?_
   change AWP _ _ _ _ _ _
   refine AWP.seq ?_
   refine AWP.block ?_
   refine AWP.seq ?_
   refine AWP.region (l := [0]) rfl ?_
   refine AOps.cons rfl rfl (AOp.assign (.int .i64 0) rfl rfl ?_)
   refine AOps.nil ?_
   change AWP _ _ _ _ _ _
   refine AWP.seq ?_
   refine AWP.region (l := [0]) rfl ?_
   refine AOps.cons rfl rfl (AOp.assign (.int .i64 0) rfl rfl ?_)
   refine AOps.nil ?_
   change AWP _ _ _ _ _ _
   refine AWP.block ?_
   refine AWP.loop (fun q64 fq Hq => ∃ (k : Int) (c : Int) (o2 : List Int), q64 = ((9 : Int) - k).toNat ∧ fq 8 = .int .i64 k ∧ fq 7 = .int .i64 c ∧ fq 6 = .int .i64 i ∧ fq 2 = .fptr (([.bool s] : List AV) ++ ((digs 18 u).map eI)) 0 ∧ fq 3 = .fptr (([.bool t] : List AV) ++ ((digs 18 v).map eI)) 0 ∧ fq 4 = .ptr i17 0 0 ∧ fq 5 = .ptr i37 0 0 ∧ Hq i17 = some (.row 0 ([.bool false, .int .i64 0, .int .i64 0, .int .i64 0, .int .i64 0, .int .i64 0, .int .i64 0, .int .i64 0, .int .i64 0, .int .i64 0, .int .i64 0, .int .i64 0, .int .i64 0, .int .i64 0, .int .i64 0, .int .i64 0, .int .i64 0, .int .i64 0, .int .i64 0])) ∧ Hq i37 = some (.row 0 ([.bool false] ++ (o2.map eI))) ∧ Mono H0 Hq ∧ (0 ≤ k) ∧ (k ≤ 9) ∧ (0 ≤ c ∧ c < 65536) ∧ (o2.length = 18) ∧ (Dig o2) ∧ (val o2 + c * 65536 ^ (i.toNat + k.toNat) = u % 65536 ^ i.toNat * v + at_ (digs 18 u) i * 65536 ^ i.toNat * (v % 65536 ^ k.toNat))) (k := ((9 : Int) - 0).toNat) ?_ ?_
   ·
    exact ⟨0, 0, out, rfl, rfl, rfl, s55, s56, s57, s58, s59, h60, h61, m62, by omega, by omega, by omega, by exact hl, by exact hr, by exact in_start hv0⟩
   ·
    rintro _ f66 H65 ⟨k, c, o2, rfl, s67, s68, s69, s70, s71, s72, s73, h74, h75, m76, hk0, hk1, hc, hl2, hr2, hv2⟩
    refine AWP.seq ?_
    refine AWP.seq ?_
    refine AWP.region (l := [0, 1]) rfl ?_
    refine AOps.cons rfl rfl (AOp.move (.int .i64 k) rfl s67 ?_)
    refine AOps.cons rfl rfl (AOp.bin (.bool (decide (k < 9))) rfl rfl rfl rfl ?_)
    refine AOps.nil ?_
    change AWP _ _ _ _ _ _
    by_cases b77 : k < 9
    ·
     refine AWP.condT rfl (decide_eq_true b77) ?_
     refine AWP.skip ?_
     change AWP _ _ _ _ _ _
     refine AWP.seq ?_
     refine AWP.block ?_
     refine AWP.seq ?_
     have hsr := s_rng (u := u) (v := v) hl2 hr2 hi0 (by omega) hk0 (by omega) hc
     refine AWP.region_quiet mixed (by kernel_rfl) 19 [] rfl (by kernel_rfl) (Mono H65) (Mono.refl _) ?_
     refine QE.op rfl rfl (.inl ⟨rfl, fun f' H' hf hM => AOp.move (.int .i64 i) rfl ((hf 6 rfl).trans s69) ⟨rfl, hM⟩⟩) ?_
     refine QE.op rfl rfl (.inl ⟨rfl, fun f' H' hf hM => AOp.move (.int .i64 k) rfl ((hf 8 rfl).trans s67) ⟨rfl, hM⟩⟩) ?_
     refine QE.op rfl rfl (.inl ⟨rfl, fun f' H' hf hM => AOp.bin (.int .i64 (i + k)) rfl ((hf 19 rfl).trans rfl) ((hf 20 rfl).trans rfl) (iadd (by omega)) ⟨rfl, hM⟩⟩) ?_
     refine QE.op rfl rfl (.inl ⟨rfl, fun f' H' hf hM => AOp.fieldAddr rfl ((hf 5 rfl).trans s73) fl_101_1 ⟨rfl, hM⟩ (hid := ⟨_, (hM _ _ h75)⟩)⟩) ?_
     refine QE.op rfl rfl (.inl ⟨rfl, fun f' H' hf hM => AOp.indexAddrA rfl ((hf 22 rfl).trans rfl) ((hf 21 rfl).trans rfl) ar_99 (by omega) (by omega) ⟨_, (hM _ _ h75)⟩ ⟨rfl, hM⟩⟩) ?_
     refine QE.op rfl rfl (.inl ⟨rfl, fun f' H' hf hM => AOp.load (.int .i64 (at_ o2 (i + k))) rfl ((hf 23 rfl).trans rfl) ty_3 (hM _ _ h75) (ld_skip (off' := (i + k).toNat * 1) (n := 1) rfl (by omega) (ld1 (i := i + k) (by omega) (by first | (have := hl2; omega) | (simp; omega)))) ⟨rfl, hM⟩⟩) ?_
     refine QE.op rfl rfl (.inl ⟨rfl, fun f' H' hf hM => AOp.move (.int .i64 i) rfl ((hf 6 rfl).trans s69) ⟨rfl, hM⟩⟩) ?_
     refine QE.op rfl rfl (.inl ⟨rfl, fun f' H' hf hM => AOp.fieldAddrF rfl ((hf 2 rfl).trans s70) fl_101_1 ⟨rfl, hM⟩⟩) ?_
     refine QE.op rfl rfl (.inl ⟨rfl, fun f' H' hf hM => AOp.indexAddrFA rfl ((hf 26 rfl).trans rfl) ((hf 25 rfl).trans rfl) ar_99 (by omega) (by omega) ⟨rfl, hM⟩⟩) ?_
     refine QE.op rfl rfl (.inl ⟨rfl, fun f' H' hf hM => AOp.loadF (.int .i64 (at_ (digs 18 u) i)) rfl ((hf 27 rfl).trans rfl) ty_3 (ld_skip (off' := (i).toNat * 1) (n := 1) rfl (by omega) (ld1 (i := i) (by omega) (by first | (have := (digs_len 18 u); omega) | (simp; omega)))) ⟨rfl, hM⟩⟩) ?_
     refine QE.op rfl rfl (.inl ⟨rfl, fun f' H' hf hM => AOp.move (.int .i64 k) rfl ((hf 8 rfl).trans s67) ⟨rfl, hM⟩⟩) ?_
     refine QE.op rfl rfl (.inl ⟨rfl, fun f' H' hf hM => AOp.fieldAddrF rfl ((hf 3 rfl).trans s71) fl_101_1 ⟨rfl, hM⟩⟩) ?_
     refine QE.op rfl rfl (.inl ⟨rfl, fun f' H' hf hM => AOp.indexAddrFA rfl ((hf 30 rfl).trans rfl) ((hf 29 rfl).trans rfl) ar_99 (by omega) (by omega) ⟨rfl, hM⟩⟩) ?_
     refine QE.op rfl rfl (.inl ⟨rfl, fun f' H' hf hM => AOp.loadF (.int .i64 (at_ (digs 18 v) k)) rfl ((hf 31 rfl).trans rfl) ty_3 (ld_skip (off' := (k).toNat * 1) (n := 1) rfl (by omega) (ld1 (i := k) (by omega) (by first | (have := (digs_len 18 v); omega) | (simp; omega)))) ⟨rfl, hM⟩⟩) ?_
     refine QE.op rfl rfl (.inl ⟨rfl, fun f' H' hf hM => AOp.bin (.int .i64 ((at_ (digs 18 u) i) * (at_ (digs 18 v) k))) rfl ((hf 28 rfl).trans rfl) ((hf 32 rfl).trans rfl) (imul (by have := s_rng (u := u) (v := v) hl2 hr2 hi0 (by omega) hk0 (by omega) hc; omega)) ⟨rfl, hM⟩⟩) ?_
     refine QE.op rfl rfl (.inl ⟨rfl, fun f' H' hf hM => AOp.bin (.int .i64 (at_ o2 (i + k) + ((at_ (digs 18 u) i) * (at_ (digs 18 v) k)))) rfl ((hf 24 rfl).trans rfl) ((hf 33 rfl).trans rfl) (iadd (by omega)) ⟨rfl, hM⟩⟩) ?_
     refine QE.op rfl rfl (.inl ⟨rfl, fun f' H' hf hM => AOp.move (.int .i64 c) rfl ((hf 7 rfl).trans s68) ⟨rfl, hM⟩⟩) ?_
     refine QE.op rfl rfl (.inl ⟨rfl, fun f' H' hf hM => AOp.bin (.int .i64 (at_ o2 (i + k) + ((at_ (digs 18 u) i) * (at_ (digs 18 v) k)) + c)) rfl ((hf 34 rfl).trans rfl) ((hf 35 rfl).trans rfl) (iadd (by omega)) ⟨rfl, hM⟩⟩) ?_
     refine QE.op rfl rfl (.inl ⟨rfl, fun f' H' hf hM => AOp.assign (.int .i64 (at_ o2 (i + k) + ((at_ (digs 18 u) i) * (at_ (digs 18 v) k)) + c)) rfl ((hf 36 rfl).trans rfl) ⟨rfl, hM⟩⟩) ?_
     refine QE.done fun H78 m79 => ?_
     have h80 := m79 _ _ h74
     have h81 := m79 _ _ h75
     have m82 := m76.trans m79
     refine AOps.nil ?_
     change AWP _ _ _ _ _ _
     refine AWP.seq ?_
     refine AWP.region (l := [0, 1, 2, 3, 4, 5, 6, 7]) rfl ?_
     refine AOps.cons rfl rfl (AOp.move (.int .i64 i) rfl s69 ?_)
     refine AOps.cons rfl rfl (AOp.move (.int .i64 k) rfl s67 ?_)
     refine AOps.cons rfl rfl (AOp.bin (.int .i64 (i + k)) rfl rfl rfl (iadd (by omega)) ?_)
     refine AOps.cons rfl rfl (AOp.move (.int .i64 (at_ o2 (i + k) + ((at_ (digs 18 u) i) * (at_ (digs 18 v) k)) + c)) rfl rfl ?_)
     refine AOps.cons rfl rfl (AOp.remP rfl rfl rfl (by omega) (by omega) ?_)
     refine AOps.cons rfl rfl (AOp.fieldAddr rfl s73 fl_101_1 ?_ (hid := ⟨_, h81⟩))
     refine AOps.cons rfl rfl (AOp.indexAddrA rfl rfl rfl ar_99 (by omega) (by omega) ⟨_, h81⟩ ?_)
     refine AOps.cons rfl rfl (AOp.store' (cells' := [.bool false] ++ ((o2.set (i + k).toNat ((at_ o2 (i + k) + ((at_ (digs 18 u) i) * (at_ (digs 18 v) k)) + c) % 65536)).map eI)) (.int .i64 ((at_ o2 (i + k) + ((at_ (digs 18 u) i) * (at_ (digs 18 v) k)) + c) % 65536)) rfl rfl ts_3 h81 rfl rfl (blelen (len_app (m := 1) (n := 18) (k := 19) rfl (len1 hl2) rfl) (by omega)) (wr_skip (off' := (i + k).toNat * 1) (n := 1) rfl (by omega) (wr_set1 (xs := o2) (i := i + k) (by omega) (by have := hl2; omega))) ?_)
     intro H83 h84 k85
     have h86 := keep k85 e42 h80
     have m88 := Mono.set m82 z43 k85
     refine AOps.nil ?_
     change AWP _ _ _ _ _ _
     refine AWP.region (l := [0, 1, 2]) rfl ?_
     refine AOps.cons rfl rfl (AOp.move (.int .i64 (at_ o2 (i + k) + ((at_ (digs 18 u) i) * (at_ (digs 18 v) k)) + c)) rfl rfl ?_)
     refine AOps.cons rfl rfl (AOp.quoP rfl rfl rfl (by omega) ?_)
     refine AOps.cons rfl rfl (AOp.assign (.int .i64 ((at_ o2 (i + k) + ((at_ (digs 18 u) i) * (at_ (digs 18 v) k)) + c) / 65536)) rfl rfl ?_)
     refine AOps.nil ?_
     change AWP _ _ _ _ _ _
     refine AWP.region (l := [0, 1, 2]) rfl ?_
     refine AOps.cons rfl rfl (AOp.move (.int .i64 k) rfl s67 ?_)
     refine AOps.cons rfl rfl (AOp.bin (.int .i64 (k + 1)) rfl rfl rfl (iadd (by omega)) ?_)
     refine AOps.cons rfl rfl (AOp.assign (.int .i64 (k + 1)) rfl rfl ?_)
     refine AOps.nil ?_
     exact ⟨_, by omega, k + 1, ((at_ o2 (i + k) + (at_ (digs 18 u) i * at_ (digs 18 v) k) + c) / 65536), (o2.set (i + k).toNat ((at_ o2 (i + k) + ((at_ (digs 18 u) i) * (at_ (digs 18 v) k)) + c) % 65536)), rfl, rfl, rfl, s69, s70, s71, s72, s73, h86, h84, m88, by omega, by omega, by have := s_rng (u := u) (v := v) hl2 hr2 hi0 (by omega) hk0 (by omega) hc; omega, by rw [List.length_set]; exact hl2, by exact set_dig hr2 (by omega), by exact in_step hi0 (by omega) hk0 (by omega) hl2 hv2 rfl⟩
    ·
     refine AWP.condF rfl (decide_eq_false b77) ?_
     refine AWP.exit ?_
     change AWP _ _ _ _ _ _
     refine AWP.region (l := [0, 1, 2]) rfl ?_
     refine AOps.cons rfl rfl (AOp.move (.int .i64 i) rfl s69 ?_)
     refine AOps.cons rfl rfl (AOp.bin (.int .i64 (i + 1)) rfl rfl rfl (iadd (by omega)) ?_)
     refine AOps.cons rfl rfl (AOp.assign (.int .i64 (i + 1)) rfl rfl ?_)
     refine AOps.nil ?_
     exact ⟨_, by omega, i + 1, o2, rfl, rfl, s70, s71, s72, s73, h74, h75, m76, by omega, by omega, by exact hl2, by exact hr2, by exact in_end hi0 (by omega) (by omega) hu hv hr2 hc.1 hv2⟩
  ·
   refine AWP.condF rfl (decide_eq_false b63) ?_
   refine AWP.exit ?_
   change AWP _ _ _ _ _ _
   refine AWP.seq ?_
   have hD := digs_eq hr hl (hv0.trans (by rw [wtop u (by omega) hu]))
   subst hD
   refine AWP.region (l := [0, 1, 2, 3, 4, 5, 6, 7, 8, 9, 10, 11, 12]) rfl ?_
   refine AOps.cons rfl rfl (AOp.fieldAddrF rfl s56 fl_101_0 ?_)
   refine AOps.cons rfl rfl (AOp.loadF (.bool s) rfl rfl ty_4 (ld_fst (fun h => by first | rfl | cases h) rfl) ?_)
   refine AOps.cons rfl rfl (AOp.fieldAddrF rfl s57 fl_101_0 ?_)
   refine AOps.cons rfl rfl (AOp.loadF (.bool t) rfl rfl ty_4 (ld_fst (fun h => by first | rfl | cases h) rfl) ?_)
   refine AOps.cons rfl rfl (AOp.bne rfl rfl rfl u_4 ?_)
   refine AOps.cons rfl rfl (AOp.move (.bool (s != t)) rfl rfl ?_)
   rcases Bool.eq_false_or_eq_true (s != t) with b89 | b89
   ·
    refine AOps.yes rfl rfl rfl rfl rfl rfl rfl b89 (AOp.fieldAddr rfl s59 fl_101_1 ?_ (hid := ⟨_, h61⟩))
    refine AOps.yes rfl rfl rfl rfl rfl rfl rfl b89 (AOp.load (.agg ((digs 18 (u * v)).map eI)) rfl rfl ty_99 h61 (ld_skip (off' := 0) (n := 1) rfl (by omega) (ld_all (len1 (digs_len 18 (u * v))))) ?_)
    refine AOps.yes rfl rfl rfl rfl rfl rfl rfl b89 (AOp.pcall («as» := [.agg ((digs 18 (u * v)).map eI)]) rfl rfl (rfl) tf_73 (c_zero (u * v) (mul_18 hu hv)) ?_)
    intro H90 m91
    have h92 := m91 _ _ h60
    have h93 := m91 _ _ h61
    have m94 := m62.trans m91
    refine AOps.yes rfl rfl rfl rfl rfl rfl rfl b89 (AOp.not rfl rfl ?_)
    refine AOps.cons rfl rfl (AOp.pickT (.bool (!(decide ((u * v) = 0)))) rfl rfl b89 rfl ?_)
    refine AOps.cons rfl rfl (AOp.fieldAddr rfl s59 fl_101_0 ?_ (hid := ⟨_, h93⟩))
    refine AOps.cons rfl rfl (AOp.store' (cells' := [.bool (!(decide ((u * v) = 0)))] ++ ((digs 18 (u * v)).map eI)) (.bool (!(decide ((u * v) = 0)))) rfl rfl ts_4 h93 rfl rfl (blelen (len_app (m := 1) (n := 18) (k := 19) rfl (len1 (digs_len 18 (u * v))) rfl) (by omega)) (wr_fst (by simp only [List.length_cons, List.length_nil, AV.cells]; omega) rfl) ?_)
    intro H95 h96 k97
    have h98 := keep k97 e42 h92
    have m100 := Mono.set m94 z43 k97
    refine AOps.nil ?_
    change AWP _ _ _ _ _ _
    refine AWP.seq ?_
    refine AWP.region (l := [0, 1]) rfl ?_
    refine AOps.cons rfl rfl (AOp.load (.agg ([.bool (!(decide ((u * v) = 0)))] ++ ((digs 18 (u * v)).map eI))) rfl s59 ty_101 h96 (ld_all (len_app (m := 1) (n := 18) (k := 19) rfl (len1 (digs_len 18 (u * v))) rfl)) ?_)
    refine AOps.cons rfl rfl (AOp.store' (cells' := [.bool (!(decide ((u * v) = 0)))] ++ ((digs 18 (u * v)).map eI)) (.agg ([.bool (!(decide ((u * v) = 0)))] ++ ((digs 18 (u * v)).map eI))) s58 rfl ts_101 h98 (by simp only [AV.cells, List.all_append, List.all_cons, List.all_nil, Bool.and_true, Bool.and_eq_true]; exact ⟨rfl, (all_one1 eI_one _)⟩) (show (AV.cells (.agg ([.bool (!(decide ((u * v) = 0)))] ++ ((digs 18 (u * v)).map eI)))).length = 19 from (len_app (m := 1) (n := 18) (k := 19) rfl (len1 (digs_len 18 (u * v))) rfl)) rfl (wr_all rfl (len_app (m := 1) (n := 18) (k := 19) rfl (len1 (digs_len 18 (u * v))) rfl)) ?_)
    intro H101 h102 k103
    have h105 := keep k103 (Ne.symm e42) h96
    have m106 := Mono.set m100 z24 k103
    refine AOps.nil ?_
    change AWP _ _ _ _ _ _
    refine AWP.ret ?_
    refine ⟨_, _, Ghost.refl, .inr rfl, _, Res.list1 rfl (.cell (v := .agg ([.bool (!(decide ((u * v) = 0)))] ++ ((digs 18 (u * v)).map eI))) s58 ty_101 h102 (ld_all (len_app (m := 1) (n := 18) (k := 19) rfl (len1 (digs_len 18 (u * v))) rfl)) (.nil)), ?_, m106⟩
    exact (show (.agg ([.bool (!(decide ((u * v) = 0)))] ++ ((digs 18 (u * v)).map eI)) : AV) = .agg ([.bool (timesN s t u v)] ++ ((digs 18 (u * v)).map eI)) from by unfold timesN; simp_all)
   ·
    refine AOps.no rfl rfl rfl rfl rfl rfl rfl (ble_of b89 (by decide)) ?_
    refine AOps.no rfl rfl rfl rfl rfl rfl rfl (ble_of b89 (by decide)) ?_
    refine AOps.no rfl rfl rfl rfl rfl rfl rfl (ble_of b89 (by decide)) ?_
    refine AOps.no rfl rfl rfl rfl rfl rfl rfl (ble_of b89 (by decide)) ?_
    refine AOps.cons rfl rfl (AOp.pickF (.bool false) rfl rfl b89 rfl ?_)
    refine AOps.cons rfl rfl (AOp.fieldAddr rfl s59 fl_101_0 ?_ (hid := ⟨_, h61⟩))
    refine AOps.cons rfl rfl (AOp.store' (cells' := [.bool false] ++ ((digs 18 (u * v)).map eI)) (.bool false) rfl rfl ts_4 h61 rfl rfl (blelen (len_app (m := 1) (n := 18) (k := 19) rfl (len1 (digs_len 18 (u * v))) rfl) (by omega)) (wr_fst (by simp only [List.length_cons, List.length_nil, AV.cells]; omega) rfl) ?_)
    intro H107 h108 k109
    have h110 := keep k109 e42 h60
    have m112 := Mono.set m62 z43 k109
    refine AOps.nil ?_
    change AWP _ _ _ _ _ _
    refine AWP.seq ?_
    refine AWP.region (l := [0, 1]) rfl ?_
    refine AOps.cons rfl rfl (AOp.load (.agg ([.bool false] ++ ((digs 18 (u * v)).map eI))) rfl s59 ty_101 h108 (ld_all (len_app (m := 1) (n := 18) (k := 19) rfl (len1 (digs_len 18 (u * v))) rfl)) ?_)
    refine AOps.cons rfl rfl (AOp.store' (cells' := [.bool false] ++ ((digs 18 (u * v)).map eI)) (.agg ([.bool false] ++ ((digs 18 (u * v)).map eI))) s58 rfl ts_101 h110 (by simp only [AV.cells, List.all_append, List.all_cons, List.all_nil, Bool.and_true, Bool.and_eq_true]; exact ⟨rfl, (all_one1 eI_one _)⟩) (show (AV.cells (.agg ([.bool false] ++ ((digs 18 (u * v)).map eI)))).length = 19 from (len_app (m := 1) (n := 18) (k := 19) rfl (len1 (digs_len 18 (u * v))) rfl)) rfl (wr_all rfl (len_app (m := 1) (n := 18) (k := 19) rfl (len1 (digs_len 18 (u * v))) rfl)) ?_)
    intro H113 h114 k115
    have h117 := keep k115 (Ne.symm e42) h108
    have m118 := Mono.set m112 z24 k115
    refine AOps.nil ?_
    change AWP _ _ _ _ _ _
    refine AWP.ret ?_
    refine ⟨_, _, Ghost.refl, .inr rfl, _, Res.list1 rfl (.cell (v := .agg ([.bool false] ++ ((digs 18 (u * v)).map eI))) s58 ty_101 h114 (ld_all (len_app (m := 1) (n := 18) (k := 19) rfl (len1 (digs_len 18 (u * v))) rfl)) (.nil)), ?_, m118⟩
    exact (show (.agg ([.bool false] ++ ((digs 18 (u * v)).map eI)) : AV) = .agg ([.bool (timesN s t u v)] ++ ((digs 18 (u * v)).map eI)) from by unfold timesN; simp_all)
def R_ref01_right (p : FracT) : Bool :=
  if p.D > 0 then true else (if p.D = 0 then decide (p.N = 1) else false)
theorem c_ref01_right (p : FracT) (hp : (-4611686018427387904 ≤ p.N ∧ p.N ≤ 4611686018427387904) ∧ -4611686018427387904 ≤ p.D ∧ p.D ≤ 4611686018427387904) : PC Try.prog 60 [.agg [.int .i64 p.N, .int .i64 p.D]] (.bool (R_ref01_right p)) := by
 intro H0
 refine ACalls.of_body' (n := 16) rfl rfl rfl rfl ?_
 have m0 := Mono.refl H0
 refine AWP.seq ?_
 refine AWP.region (l := [0, 1]) rfl ?_
 refine AOps.cons rfl rfl (AOp.box (.agg [.int .i64 p.N, .int .i64 p.D]) rfl rfl rfl ?_)
 intro i1 H2 n3 h4 k5
 have z6 := Mono.free m0 n3
 have m7 := Mono.new m0 n3 k5
 refine AOps.cons rfl rfl (AOp.assign (.bool false) rfl rfl ?_)
 refine AOps.nil ?_
 change AWP _ _ _ _ _ _
 refine AWP.seq ?_
 refine AWP.frzP 1 h4 z6 rfl m7 fun H8 m9 k10 => ?_
 refine AWP.region (l := [0, 1, 2, 3, 4, 5, 6, 7, 8, 9, 10, 11, 12, 13]) rfl ?_
 refine AOps.cons rfl rfl (AOp.fieldAddrF rfl rfl fl_46_1 ?_)
 refine AOps.cons rfl rfl (AOp.loadF (.int .i64 p.D) rfl rfl ty_3 rfl ?_)
 refine AOps.cons rfl rfl (AOp.bin (.bool (decide (p.D > 0))) rfl rfl rfl rfl ?_)
 refine AOps.cons rfl rfl (AOp.move (.bool (decide (p.D > 0))) rfl rfl ?_)
 by_cases b11 : p.D > 0
 ·
  refine AOps.no rfl rfl rfl rfl rfl rfl rfl (ble_of (decide_eq_true b11) (by decide)) ?_
  refine AOps.no rfl rfl rfl rfl rfl rfl rfl (ble_of (decide_eq_true b11) (by decide)) ?_
  refine AOps.no rfl rfl rfl rfl rfl rfl rfl (ble_of (decide_eq_true b11) (by decide)) ?_
  refine AOps.no rfl rfl rfl rfl rfl rfl rfl (ble_of (decide_eq_true b11) (by decide)) ?_
  refine AOps.un rfl rfl rfl rfl rfl rfl rfl ?_
  refine AOps.un rfl rfl rfl rfl rfl rfl rfl ?_
  refine AOps.un rfl rfl rfl rfl rfl rfl rfl ?_
  refine AOps.no rfl rfl rfl rfl rfl rfl rfl (ble_of (decide_eq_true b11) (by decide)) ?_
  refine AOps.cons rfl rfl (AOp.pickT (.bool true) rfl rfl (decide_eq_true b11) rfl ?_)
  refine AOps.cons rfl rfl (AOp.assign (.bool true) rfl rfl ?_)
  refine AOps.nil ?_
  change AWP _ _ _ _ _ _
  refine AWP.ret ?_
  refine ⟨_, _, Ghost.refl, .inr rfl, _, Res.one rfl rfl, ?_, m9⟩
  have hR : R_ref01_right p = true := by unfold R_ref01_right; rw [if_pos b11]
  exact (congrArg (fun r : Bool => (.bool r : AV)) hR).symm
 ·
  refine AOps.yes rfl rfl rfl rfl rfl rfl rfl (decide_eq_false b11) (AOp.fieldAddrF rfl rfl fl_46_1 ?_)
  refine AOps.yes rfl rfl rfl rfl rfl rfl rfl (decide_eq_false b11) (AOp.loadF (.int .i64 p.D) rfl rfl ty_3 rfl ?_)
  refine AOps.yes rfl rfl rfl rfl rfl rfl rfl (decide_eq_false b11) (AOp.bin (.bool (decide (p.D = 0))) rfl rfl rfl ieq ?_)
  refine AOps.yes rfl rfl rfl rfl rfl rfl rfl (decide_eq_false b11) (AOp.move (.bool (decide (p.D = 0))) rfl rfl ?_)
  by_cases b12 : p.D = 0
  ·
   refine AOps.yes rfl rfl rfl rfl rfl rfl rfl (decide_eq_true b12) (AOp.fieldAddrF rfl rfl fl_46_0 ?_)
   refine AOps.yes rfl rfl rfl rfl rfl rfl rfl (decide_eq_true b12) (AOp.loadF (.int .i64 p.N) rfl rfl ty_3 rfl ?_)
   refine AOps.yes rfl rfl rfl rfl rfl rfl rfl (decide_eq_true b12) (AOp.bin (.bool (decide (p.N = 1))) rfl rfl rfl ieq ?_)
   refine AOps.yes rfl rfl rfl rfl rfl rfl rfl (decide_eq_false b11) (AOp.pickT (.bool (decide (p.N = 1))) rfl rfl (decide_eq_true b12) rfl ?_)
   refine AOps.cons rfl rfl (AOp.pickF (.bool (decide (p.N = 1))) rfl rfl (decide_eq_false b11) rfl ?_)
   refine AOps.cons rfl rfl (AOp.assign (.bool (decide (p.N = 1))) rfl rfl ?_)
   refine AOps.nil ?_
   change AWP _ _ _ _ _ _
   refine AWP.ret ?_
   refine ⟨_, _, Ghost.refl, .inr rfl, _, Res.one rfl rfl, ?_, m9⟩
   have hR : R_ref01_right p = decide (p.N = 1) := by unfold R_ref01_right; rw [if_neg b11, if_pos b12]
   exact (congrArg (fun r : Bool => (.bool r : AV)) hR).symm
  ·
   refine AOps.no rfl rfl rfl rfl rfl rfl rfl (ble_of (decide_eq_false b12) (by decide)) ?_
   refine AOps.no rfl rfl rfl rfl rfl rfl rfl (ble_of (decide_eq_false b12) (by decide)) ?_
   refine AOps.no rfl rfl rfl rfl rfl rfl rfl (ble_of (decide_eq_false b12) (by decide)) ?_
   refine AOps.yes rfl rfl rfl rfl rfl rfl rfl (decide_eq_false b11) (AOp.pickF (.bool false) rfl rfl (decide_eq_false b12) rfl ?_)
   refine AOps.cons rfl rfl (AOp.pickF (.bool false) rfl rfl (decide_eq_false b11) rfl ?_)
   refine AOps.cons rfl rfl (AOp.assign (.bool false) rfl rfl ?_)
   refine AOps.nil ?_
   change AWP _ _ _ _ _ _
   refine AWP.ret ?_
   refine ⟨_, _, Ghost.refl, .inr rfl, _, Res.one rfl rfl, ?_, m9⟩
   have hR : R_ref01_right p = false := by unfold R_ref01_right; rw [if_neg b11, if_neg b12]
   exact (congrArg (fun r : Bool => (.bool r : AV)) hR).symm
def R_ref01_Order (p : FracT) (q : FracT) : Int × Bool :=
  if R_ref01_right p = true then (if R_ref01_right q = true then (cmpS (timesN (decide (p.N < 0)) (decide (q.D < 0)) (p.N.natAbs : Int) (q.D.natAbs : Int)) ((p.N.natAbs : Int) * (q.D.natAbs : Int)) (timesN (decide (q.N < 0)) (decide (p.D < 0)) (q.N.natAbs : Int) (p.D.natAbs : Int)) ((q.N.natAbs : Int) * (p.D.natAbs : Int)), true) else (0, false)) else (0, false)
theorem c_ref01_Order (p : FracT) (q : FracT) (hp : (-4611686018427387904 ≤ p.N ∧ p.N ≤ 4611686018427387904) ∧ -4611686018427387904 ≤ p.D ∧ p.D ≤ 4611686018427387904) (hq : (-4611686018427387904 ≤ q.N ∧ q.N ≤ 4611686018427387904) ∧ -4611686018427387904 ≤ q.D ∧ q.D ≤ 4611686018427387904) : PC Try.prog 46 [.agg [.int .i64 p.N, .int .i64 p.D], .agg [.int .i64 q.N, .int .i64 q.D]] (.tup [.int .i64 ((R_ref01_Order p q).1), .bool ((R_ref01_Order p q).2)]) := by
 intro H0
 refine ACalls.of_body' (n := 29) rfl rfl rfl rfl ?_
 have m0 := Mono.refl H0
 refine AWP.seq ?_
 refine AWP.region (l := [0, 1, 2, 3]) rfl ?_
 refine AOps.cons rfl rfl (AOp.box (.agg [.int .i64 p.N, .int .i64 p.D]) rfl rfl rfl ?_)
 intro i1 H2 n3 h4 k5
 have z6 := Mono.free m0 n3
 have m7 := Mono.new m0 n3 k5
 refine AOps.cons rfl rfl (AOp.box (.agg [.int .i64 q.N, .int .i64 q.D]) rfl rfl rfl ?_)
 intro i8 H9 n10 h11 k12
 have e13 := ne_new h4 n10
 have z14 := Mono.free m7 n10
 have h15 := keep k12 (ne_new h4 n10) h4
 have m16 := Mono.new m7 n10 k12
 refine AOps.cons rfl rfl (AOp.assign (.int .i64 0) rfl rfl ?_)
 refine AOps.cons rfl rfl (AOp.assign (.bool false) rfl rfl ?_)
 refine AOps.nil ?_
 change AWP _ _ _ _ _ _
 refine AWP.seq ?_
 refine AWP.seq ?_
 refine AWP.frzP 2 h15 z6 rfl m16 fun H17 m18 k19 => ?_
 have h20 := (k19 _ (Ne.symm e13)).trans h11
 refine AWP.frzP 3 h20 z14 rfl m18 fun H21 m22 k23 => ?_
 refine AWP.region (l := [0, 1, 2, 3, 4, 5, 6, 7]) rfl ?_
 refine AOps.cons rfl rfl (AOp.loadF (.agg [.int .i64 p.N, .int .i64 p.D]) rfl rfl ty_46 rfl ?_)
 refine AOps.cons rfl rfl (AOp.pcall («as» := [.agg [.int .i64 p.N, .int .i64 p.D]]) rfl rfl (rfl) tf_60 (c_ref01_right p (by first | omega | assumption | (constructor <;> omega) | simp)) ?_)
 intro H24 m25
 have m26 := m22.trans m25
 refine AOps.cons rfl rfl (AOp.not rfl rfl ?_)
 refine AOps.cons rfl rfl (AOp.move (.bool (!(R_ref01_right p))) rfl rfl ?_)
 rcases Bool.eq_false_or_eq_true (R_ref01_right p) with b27 | b27
 ·
  refine AOps.yes rfl rfl rfl rfl rfl rfl rfl (nb b27) (AOp.loadF (.agg [.int .i64 q.N, .int .i64 q.D]) rfl rfl ty_46 rfl ?_)
  refine AOps.yes rfl rfl rfl rfl rfl rfl rfl (nb b27) (AOp.pcall («as» := [.agg [.int .i64 q.N, .int .i64 q.D]]) rfl rfl (rfl) tf_60 (c_ref01_right q (by first | omega | assumption | (constructor <;> omega) | simp)) ?_)
  intro H28 m29
  have m30 := m26.trans m29
  refine AOps.yes rfl rfl rfl rfl rfl rfl rfl (nb b27) (AOp.not rfl rfl ?_)
  refine AOps.cons rfl rfl (AOp.pickF (.bool (!(R_ref01_right q))) rfl rfl (nb b27) rfl ?_)
  refine AOps.nil ?_
  change AWP _ _ _ _ _ _
  rcases Bool.eq_false_or_eq_true (R_ref01_right q) with b31 | b31
  ·
   refine AWP.condF rfl (nb b31) ?_
   refine AWP.skip ?_
   change AWP _ _ _ _ _ _
   refine AWP.seq ?_
   refine AWP.region_quiet mixed (by kernel_rfl) 17 [] rfl (by kernel_rfl) (Mono H28) (Mono.refl _) ?_
   refine QE.op rfl rfl (.inl ⟨rfl, fun f' H' hf hM => AOp.fieldAddrF rfl ((hf 2 rfl).trans rfl) fl_46_0 ⟨rfl, hM⟩⟩) ?_
   refine QE.op rfl rfl (.inl ⟨rfl, fun f' H' hf hM => AOp.loadF (.int .i64 p.N) rfl ((hf 14 rfl).trans rfl) ty_3 rfl ⟨rfl, hM⟩⟩) ?_
   refine QE.op rfl rfl (.inl ⟨rfl, fun f' H' hf hM => AOp.pcall («as» := [.int .i64 p.N]) rfl rfl (lapp (lcons ((hf 15 rfl).trans rfl) rfl) rfl) tf_63 (c_FromInt _ (by omega)) fun H2 m2 => ⟨rfl, hM.trans m2⟩⟩) ?_
   refine QE.op rfl rfl (.inl ⟨rfl, fun f' H' hf hM => AOp.fieldAddrF rfl ((hf 3 rfl).trans rfl) fl_46_1 ⟨rfl, hM⟩⟩) ?_
   refine QE.op rfl rfl (.inl ⟨rfl, fun f' H' hf hM => AOp.loadF (.int .i64 q.D) rfl ((hf 17 rfl).trans rfl) ty_3 rfl ⟨rfl, hM⟩⟩) ?_
   refine QE.op rfl rfl (.inl ⟨rfl, fun f' H' hf hM => AOp.pcall («as» := [.int .i64 q.D]) rfl rfl (lapp (lcons ((hf 18 rfl).trans rfl) rfl) rfl) tf_63 (c_FromInt _ (by omega)) fun H2 m2 => ⟨rfl, hM.trans m2⟩⟩) ?_
   refine QE.op rfl rfl (.inl ⟨rfl, fun f' H' hf hM => AOp.pcall («as» := [.agg ([.bool (decide (p.N < 0))] ++ ((digs 18 (p.N.natAbs : Int)).map eI)), .agg ([.bool (decide (q.D < 0))] ++ ((digs 18 (q.D.natAbs : Int)).map eI))]) rfl rfl (lapp (lcons ((hf 16 rfl).trans rfl) (lcons ((hf 19 rfl).trans rfl) rfl)) rfl) tf_62 (c_Times _ (p.N.natAbs : Int) _ (q.D.natAbs : Int) (by omega) (by omega)) fun H2 m2 => ⟨rfl, hM.trans m2⟩⟩) ?_
   refine QE.op rfl rfl (.inl ⟨rfl, fun f' H' hf hM => AOp.fieldAddrF rfl ((hf 3 rfl).trans rfl) fl_46_0 ⟨rfl, hM⟩⟩) ?_
   refine QE.op rfl rfl (.inl ⟨rfl, fun f' H' hf hM => AOp.loadF (.int .i64 q.N) rfl ((hf 21 rfl).trans rfl) ty_3 rfl ⟨rfl, hM⟩⟩) ?_
   refine QE.op rfl rfl (.inl ⟨rfl, fun f' H' hf hM => AOp.pcall («as» := [.int .i64 q.N]) rfl rfl (lapp (lcons ((hf 22 rfl).trans rfl) rfl) rfl) tf_63 (c_FromInt _ (by omega)) fun H2 m2 => ⟨rfl, hM.trans m2⟩⟩) ?_
   refine QE.op rfl rfl (.inl ⟨rfl, fun f' H' hf hM => AOp.fieldAddrF rfl ((hf 2 rfl).trans rfl) fl_46_1 ⟨rfl, hM⟩⟩) ?_
   refine QE.op rfl rfl (.inl ⟨rfl, fun f' H' hf hM => AOp.loadF (.int .i64 p.D) rfl ((hf 24 rfl).trans rfl) ty_3 rfl ⟨rfl, hM⟩⟩) ?_
   refine QE.op rfl rfl (.inl ⟨rfl, fun f' H' hf hM => AOp.pcall («as» := [.int .i64 p.D]) rfl rfl (lapp (lcons ((hf 25 rfl).trans rfl) rfl) rfl) tf_63 (c_FromInt _ (by omega)) fun H2 m2 => ⟨rfl, hM.trans m2⟩⟩) ?_
   refine QE.op rfl rfl (.inl ⟨rfl, fun f' H' hf hM => AOp.pcall («as» := [.agg ([.bool (decide (q.N < 0))] ++ ((digs 18 (q.N.natAbs : Int)).map eI)), .agg ([.bool (decide (p.D < 0))] ++ ((digs 18 (p.D.natAbs : Int)).map eI))]) rfl rfl (lapp (lcons ((hf 23 rfl).trans rfl) (lcons ((hf 26 rfl).trans rfl) rfl)) rfl) tf_62 (c_Times _ (q.N.natAbs : Int) _ (p.D.natAbs : Int) (by omega) (by omega)) fun H2 m2 => ⟨rfl, hM.trans m2⟩⟩) ?_
   refine QE.op rfl rfl (.inl ⟨rfl, fun f' H' hf hM => AOp.pcall («as» := [.agg ([.bool (timesN (decide (p.N < 0)) (decide (q.D < 0)) (p.N.natAbs : Int) (q.D.natAbs : Int))] ++ ((digs 18 ((p.N.natAbs : Int) * (q.D.natAbs : Int))).map eI)), .agg ([.bool (timesN (decide (q.N < 0)) (decide (p.D < 0)) (q.N.natAbs : Int) (p.D.natAbs : Int))] ++ ((digs 18 ((q.N.natAbs : Int) * (p.D.natAbs : Int))).map eI))]) rfl rfl (lapp (lcons ((hf 20 rfl).trans rfl) (lcons ((hf 27 rfl).trans rfl) rfl)) rfl) tf_61 (c_Compare18 _ ((p.N.natAbs : Int) * (q.D.natAbs : Int)) _ ((q.N.natAbs : Int) * (p.D.natAbs : Int)) (mul_18 (by omega) (by omega)) (mul_18 (by omega) (by omega))) fun H2 m2 => ⟨rfl, hM.trans m2⟩⟩) ?_
   refine QE.op rfl rfl (.inl ⟨rfl, fun f' H' hf hM => AOp.assign (.int .i64 (cmpS (timesN (decide (p.N < 0)) (decide (q.D < 0)) (p.N.natAbs : Int) (q.D.natAbs : Int)) ((p.N.natAbs : Int) * (q.D.natAbs : Int)) (timesN (decide (q.N < 0)) (decide (p.D < 0)) (q.N.natAbs : Int) (p.D.natAbs : Int)) ((q.N.natAbs : Int) * (p.D.natAbs : Int)))) rfl ((hf 28 rfl).trans rfl) ⟨rfl, hM⟩⟩) ?_
   refine QE.op rfl rfl (.inl ⟨rfl, fun f' H' hf hM => AOp.assign (.bool true) rfl rfl ⟨rfl, hM⟩⟩) ?_
   refine QE.done fun H32 m33 => ?_
   have m34 := m30.trans m33
   refine AOps.nil ?_
   change AWP _ _ _ _ _ _
   refine AWP.ret ?_
   refine ⟨_, _, Ghost.refl, .inr rfl, _, Res.two rfl rfl rfl, ?_, m34⟩
   have hR : R_ref01_Order p q = (cmpS (timesN (decide (p.N < 0)) (decide (q.D < 0)) (p.N.natAbs : Int) (q.D.natAbs : Int)) ((p.N.natAbs : Int) * (q.D.natAbs : Int)) (timesN (decide (q.N < 0)) (decide (p.D < 0)) (q.N.natAbs : Int) (p.D.natAbs : Int)) ((q.N.natAbs : Int) * (p.D.natAbs : Int)), true) := by unfold R_ref01_Order; rw [if_pos b27, if_pos b31]
   exact (congrArg (fun r : Int × Bool => (.tup [.int .i64 r.1, .bool r.2] : AV)) hR).symm
  ·
   refine AWP.condT rfl (nb b31) ?_
   refine AWP.seq ?_
   refine AWP.region (l := [0, 1]) rfl ?_
   refine AOps.cons rfl rfl (AOp.assign (.int .i64 0) rfl rfl ?_)
   refine AOps.cons rfl rfl (AOp.assign (.bool false) rfl rfl ?_)
   refine AOps.nil ?_
   change AWP _ _ _ _ _ _
   refine AWP.ret ?_
   refine ⟨_, _, Ghost.refl, .inr rfl, _, Res.two rfl rfl rfl, ?_, m30⟩
   have hR : R_ref01_Order p q = (0, false) := by unfold R_ref01_Order; rw [if_pos b27, if_neg (ff b31)]
   exact (congrArg (fun r : Int × Bool => (.tup [.int .i64 r.1, .bool r.2] : AV)) hR).symm
 ·
  refine AOps.no rfl rfl rfl rfl rfl rfl rfl (ble_of (nb b27) (by decide)) ?_
  refine AOps.no rfl rfl rfl rfl rfl rfl rfl (ble_of (nb b27) (by decide)) ?_
  refine AOps.no rfl rfl rfl rfl rfl rfl rfl (ble_of (nb b27) (by decide)) ?_
  refine AOps.cons rfl rfl (AOp.pickT (.bool true) rfl rfl (nb b27) rfl ?_)
  refine AOps.nil ?_
  change AWP _ _ _ _ _ _
  refine AWP.condT rfl rfl ?_
  refine AWP.seq ?_
  refine AWP.region (l := [0, 1]) rfl ?_
  refine AOps.cons rfl rfl (AOp.assign (.int .i64 0) rfl rfl ?_)
  refine AOps.cons rfl rfl (AOp.assign (.bool false) rfl rfl ?_)
  refine AOps.nil ?_
  change AWP _ _ _ _ _ _
  refine AWP.ret ?_
  refine ⟨_, _, Ghost.refl, .inr rfl, _, Res.two rfl rfl rfl, ?_, m26⟩
  have hR : R_ref01_Order p q = (0, false) := by unfold R_ref01_Order; rw [if_neg (ff b27)]
  exact (congrArg (fun r : Int × Bool => (.tup [.int .i64 r.1, .bool r.2] : AV)) hR).symm
def R_ref04_less (a : FracT) (b : FracT) : Bool :=
  decide ((R_ref01_Order a b).1 < 0)
theorem c_ref04_less (a : FracT) (b : FracT) (ha : (-4611686018427387904 ≤ a.N ∧ a.N ≤ 4611686018427387904) ∧ -4611686018427387904 ≤ a.D ∧ a.D ≤ 4611686018427387904) (hb : (-4611686018427387904 ≤ b.N ∧ b.N ≤ 4611686018427387904) ∧ -4611686018427387904 ≤ b.D ∧ b.D ≤ 4611686018427387904) : PC Try.prog 38 [.agg [.int .i64 a.N, .int .i64 a.D], .agg [.int .i64 b.N, .int .i64 b.D]] (.bool (R_ref04_less a b)) := by
 intro H0
 refine ACalls.of_body' (n := 15) rfl rfl rfl rfl ?_
 have m0 := Mono.refl H0
 refine AWP.seq ?_
 refine AWP.region (l := [0, 1, 2]) rfl ?_
 refine AOps.cons rfl rfl (AOp.box (.agg [.int .i64 a.N, .int .i64 a.D]) rfl rfl rfl ?_)
 intro i1 H2 n3 h4 k5
 have z6 := Mono.free m0 n3
 have m7 := Mono.new m0 n3 k5
 refine AOps.cons rfl rfl (AOp.box (.agg [.int .i64 b.N, .int .i64 b.D]) rfl rfl rfl ?_)
 intro i8 H9 n10 h11 k12
 have e13 := ne_new h4 n10
 have z14 := Mono.free m7 n10
 have h15 := keep k12 (ne_new h4 n10) h4
 have m16 := Mono.new m7 n10 k12
 refine AOps.cons rfl rfl (AOp.assign (.bool false) rfl rfl ?_)
 refine AOps.nil ?_
 change AWP _ _ _ _ _ _
 refine AWP.seq ?_
 refine AWP.frzP 2 h15 z6 rfl m16 fun H17 m18 k19 => ?_
 have h20 := (k19 _ (Ne.symm e13)).trans h11
 refine AWP.frzP 3 h20 z14 rfl m18 fun H21 m22 k23 => ?_
 refine AWP.region (l := [0, 1, 2, 3, 4, 5, 6, 7]) rfl ?_
 refine AOps.cons rfl rfl (AOp.loadF (.agg [.int .i64 a.N, .int .i64 a.D]) rfl rfl ty_46 rfl ?_)
 refine AOps.cons rfl rfl (AOp.loadF (.agg [.int .i64 b.N, .int .i64 b.D]) rfl rfl ty_46 rfl ?_)
 refine AOps.cons rfl rfl (AOp.pcall («as» := [.agg [.int .i64 a.N, .int .i64 a.D], .agg [.int .i64 b.N, .int .i64 b.D]]) rfl rfl (rfl) tf_46 (c_ref01_Order a b (by first | omega | assumption | (constructor <;> omega) | simp) (by first | omega | assumption | (constructor <;> omega) | simp)) ?_)
 intro H24 m25
 have m26 := m22.trans m25
 refine AOps.cons rfl rfl (AOp.move (.tup [.int .i64 ((R_ref01_Order a b).1), .bool ((R_ref01_Order a b).2)]) rfl rfl ?_)
 refine AOps.cons rfl rfl (AOp.extract (.int .i64 ((R_ref01_Order a b).1)) rfl rfl rfl ?_)
 refine AOps.cons rfl rfl (AOp.extract (.bool ((R_ref01_Order a b).2)) rfl rfl rfl ?_)
 refine AOps.cons rfl rfl (AOp.assign (.int .i64 ((R_ref01_Order a b).1)) rfl rfl ?_)
 refine AOps.cons rfl rfl (AOp.assign (.bool ((R_ref01_Order a b).2)) rfl rfl ?_)
 refine AOps.nil ?_
 change AWP _ _ _ _ _ _
 refine AWP.seq ?_
 refine AWP.region (l := [0, 1, 2]) rfl ?_
 refine AOps.cons rfl rfl (AOp.move (.int .i64 ((R_ref01_Order a b).1)) rfl rfl ?_)
 refine AOps.cons rfl rfl (AOp.bin (.bool (decide ((R_ref01_Order a b).1 < 0))) rfl rfl rfl rfl ?_)
 refine AOps.cons rfl rfl (AOp.assign (.bool (decide ((R_ref01_Order a b).1 < 0))) rfl rfl ?_)
 refine AOps.nil ?_
 change AWP _ _ _ _ _ _
 refine AWP.ret ?_
 refine ⟨_, _, Ghost.refl, .inr rfl, _, Res.one rfl rfl, ?_, m26⟩
 have hR : R_ref04_less a b = decide ((R_ref01_Order a b).1 < 0) := rfl
 exact (congrArg (fun r : Bool => (.bool r : AV)) hR).symm
end Go.Proofs.B
namespace Go.Proofs.B
open Go Go.AH Go.Maps
set_option maxRecDepth 4000
theorem rright_up {f : FracT} (h : Up f) : R_ref01_right f = true := by
  unfold R_ref01_right
  obtain ⟨h1, h2⟩ := h
  by_cases g : f.D > 0
  · rw [if_pos g]
  · have e : f.D = 0 := by omega
    rw [if_neg g]; simp [e, h2 e]
theorem cmpS_neg {x y : Int} (s t : Bool) (u v : Int) (hs : s = decide (x < 0)) (ht : t = decide (y < 0)) (hu : u = (x.natAbs : Int)) (hv : v = (y.natAbs : Int)) : cmpS s u t v < 0 ↔ x < y := by
  subst hs ht hu hv
  unfold cmpS cmpI
  by_cases h1 : x < 0 <;> by_cases h2 : y < 0 <;> simp only [h1, h2, decide_true, decide_false, if_true, if_false, Bool.false_eq_true, reduceCtorEq]
  · repeat' split
    all_goals omega
  · omega
  · omega
  · repeat' split
    all_goals omega
theorem timesN_neg (a b : Int) : timesN (decide (a < 0)) (decide (b < 0)) (a.natAbs : Int) (b.natAbs : Int) = decide (a * b < 0) := by
  unfold timesN
  have e : ((a.natAbs : Int) * (b.natAbs : Int) = 0) ↔ a * b = 0 := by
    rw [← Int.natCast_mul, ← Int.natAbs_mul]; omega
  have n1 : a < 0 → b < 0 → 0 < a * b := fun h1 h2 => Int.mul_pos_of_neg_of_neg h1 h2
  have n2 : a < 0 → 0 ≤ b → a * b ≤ 0 := fun h1 h2 => Int.mul_nonpos_of_nonpos_of_nonneg (by omega) h2
  have n3 : 0 ≤ a → b < 0 → a * b ≤ 0 := fun h1 h2 => Int.mul_nonpos_of_nonneg_of_nonpos h1 (by omega)
  have n4 : 0 ≤ a → 0 ≤ b → 0 ≤ a * b := fun h1 h2 => Int.mul_nonneg h1 h2
  have e2 : decide ((a.natAbs : Int) * (b.natAbs : Int) = 0) = decide (a * b = 0) := decide_eq_decide.2 e
  rw [e2]
  by_cases h1 : a < 0 <;> by_cases h2 : b < 0 <;> simp only [h1, h2, decide_true, decide_false]
  · have := n1 h1 h2; simp; omega
  · have := n2 h1 (by omega)
    by_cases hz : a * b = 0
    · simp [hz]
    · simp [hz]; omega
  · have := n3 (by omega) h2
    by_cases hz : a * b = 0
    · simp [hz]
    · simp [hz]; omega
  · have := n4 (by omega) (by omega); simp; omega
theorem rless_eq {a b : FracT} (ha : Up a) (hb : Up b) : R_ref04_less a b = lessF a b := by
  unfold R_ref04_less R_ref01_Order lessF
  rw [if_pos (rright_up ha), if_pos (rright_up hb)]
  rw [decide_eq_decide]
  simp only
  refine cmpS_neg _ _ _ _ (timesN_neg _ _) (timesN_neg _ _) ?_ ?_
  · rw [Int.natAbs_mul, Int.natCast_mul]
  · rw [Int.natAbs_mul, Int.natCast_mul]
/-! ### The document's ranges -/
theorem part_at {o d : VT} {b : BoxT} {i : Int} (h0 : 0 ≤ i) (h1 : i < 3) : at_ (pL o d b) i = ⟨at_ ([o.X, o.Y, o.Z] : List Int) i, at_ ([d.X, d.Y, d.Z] : List Int) i, at_ ([b.Lo.X, b.Lo.Y, b.Lo.Z] : List Int) i, at_ ([b.Hi.X, b.Hi.Y, b.Hi.Z] : List Int) i⟩ := by
  have : i = 0 ∨ i = 1 ∨ i = 2 := by omega
  rcases this with rfl | rfl | rfl <;> rfl
theorem sp_none {a d lo hi : Int} (h : lo > hi) : spanR a d lo hi = none := by
  unfold spanR
  by_cases hd : d < 0
  · rw [if_pos hd, if_pos (by omega)]
  · rw [if_neg hd, if_pos h]
theorem sp_out {a d lo hi : Int} (h : ¬ lo > hi) (hd : d = 0) (g : a < lo ∨ a > hi) : spanR a d lo hi = none := by
  unfold spanR; rw [if_neg (by omega), if_neg h, if_pos hd, if_pos g]
theorem sp_in {a d lo hi : Int} (h : ¬ lo > hi) (hd : d = 0) (g : ¬ (a < lo ∨ a > hi)) : spanR a d lo hi = some (⟨0, 1⟩, ⟨1, 0⟩) := by
  unfold spanR; rw [if_neg (by omega), if_neg h, if_pos hd, if_neg g]
theorem sp_neg {a d lo hi : Int} (h : ¬ lo > hi) (hd : d < 0) : spanR a d lo hi = some (⟨a - hi, -d⟩, ⟨a - lo, -d⟩) := by
  unfold spanR; rw [if_pos hd, if_neg (by omega)]
  have e1 : -hi - -a = a - hi := by omega
  have e2 : -lo - -a = a - lo := by omega
  rw [e1, e2]
theorem sp_pos {a d lo hi : Int} (h : ¬ lo > hi) (hd : ¬ d = 0) (hn : ¬ d < 0) : spanR a d lo hi = some (⟨lo - a, d⟩, ⟨hi - a, d⟩) := by
  unfold spanR; rw [if_neg hn, if_neg h, if_neg hd]
theorem rf_stop {l : List PartT} {i : Int} {lo hi : FracT} {R : Option (FracT × FracT)} {p : PartT} (hf : foldRng (l.drop i.toNat) (lo, hi) = R) (h0 : 0 ≤ i) (h1 : i < l.length) (hp : at_ l i = p) (hs : spanR p.fromF p.step p.lo p.hi = none) : R = none := by
  rw [← hf, drop_at h0 h1, hp]
  simp only [foldRng, stepRng, hs, Option.map_none, Option.bind_none]
theorem mx_nn {lo i : FracT} (hl : Pos lo) (hi : Pos i) (h : 0 ≤ lo.N) : 0 ≤ (mxF lo i).N := by
  unfold mxF lessF
  split
  · rename_i hl2
    simp only [decide_eq_true_eq] at hl2
    rcases Int.lt_or_le i.N 0 with hn | hn
    · exfalso
      unfold Pos at hl hi
      have := Int.mul_le_mul_of_nonneg_right (show i.N ≤ 0 by omega) (show 0 ≤ lo.D by omega)
      have := Int.mul_nonneg h (show 0 ≤ i.D by omega)
      omega
    · exact hn
  · exact h
structure RgI (l : List PartT) (i : Int) (lo hi : FracT) (R : Option (FracT × FracT)) : Prop where
  hf : foldRng (l.drop i.toNat) (lo, hi) = R
  hp : Pos lo
  hu : Up hi
  hn : 0 ≤ lo.N
theorem rf_next {l : List PartT} {i : Int} {lo hi lo' hi' a b : FracT} {R : Option (FracT × FracT)} {p : PartT} (g : RgI l i lo hi R) (h0 : 0 ≤ i) (h1 : i < l.length) (hp : at_ l i = p) (hs : spanR p.fromF p.step p.lo p.hi = some (a, b))
    (e1 : lo' = if R_ref04_less lo a then a else lo) (e2 : hi' = if R_ref04_less b hi then b else hi) : RgI l (i + 1) lo' hi' R := by
  obtain ⟨g1, g2⟩ := span_up hs
  rw [rless_eq (pos_up g.hp) (pos_up g1)] at e1
  rw [rless_eq g2 g.hu] at e2
  have e1' : lo' = mxF lo a := e1
  have e2' : hi' = mnF b hi := e2
  subst e1' e2'
  refine ⟨?_, max_pos g.hp g1, min_up g2 g.hu, mx_nn g.hp g1 g.hn⟩
  rw [← g.hf, drop_at h0 h1, hp]
  simp only [foldRng, stepRng, hs, Option.map_some, Option.bind_some]
theorem rf_keep {l : List PartT} {i : Int} {lo hi : FracT} {R : Option (FracT × FracT)} {p : PartT} (g : RgI l i lo hi R) (h0 : 0 ≤ i) (h1 : i < l.length) (hp : at_ l i = p) (hs : spanR p.fromF p.step p.lo p.hi = some (⟨0, 1⟩, ⟨1, 0⟩)) : RgI l (i + 1) lo hi R := by
  refine rf_next g h0 h1 hp hs ?_ ?_
  · rw [rless_eq (pos_up g.hp) ⟨by decide, fun h => by simp at h⟩]
    unfold lessF; rw [decide_eq_false (by have := g.hn; simp only; omega)]; rfl
  · rw [rless_eq ⟨by decide, fun _ => rfl⟩ g.hu]
    unfold lessF; rw [decide_eq_false (by have := g.hu.1; simp only; omega)]; rfl
theorem rrange_some {o d : VT} {b : BoxT} {lo hi : FracT} (h : foldRng (pL o d b) (⟨0, 1⟩, ⟨1, 0⟩) = some (lo, hi)) (hp : Pos lo) (hu : Up hi) : rangeR o d b = if R_ref04_less hi lo then none else some (lo, hi) := by
  rw [rless_eq hu (pos_up hp)]
  unfold rangeR partsR; rw [h]; rfl
abbrev ranP (o d : VT) (b : BoxT) (i : Int) : Prop := (-131072 ≤ at_ ([o.X, o.Y, o.Z] : List Int) i ∧ at_ ([o.X, o.Y, o.Z] : List Int) i ≤ 131072) ∧ (-131072 ≤ at_ ([d.X, d.Y, d.Z] : List Int) i ∧ at_ ([d.X, d.Y, d.Z] : List Int) i ≤ 131072) ∧ (-131072 ≤ at_ ([b.Lo.X, b.Lo.Y, b.Lo.Z] : List Int) i ∧ at_ ([b.Lo.X, b.Lo.Y, b.Lo.Z] : List Int) i ≤ 131072) ∧ (-131072 ≤ at_ ([b.Hi.X, b.Hi.Y, b.Hi.Z] : List Int) i ∧ at_ ([b.Hi.X, b.Hi.Y, b.Hi.Z] : List Int) i ≤ 131072)
theorem rparts_rng {o d : VT} {b : BoxT} (h1 : inSp 65536 o) (h2 : inSp 32768 d) (h3 : inSp 131072 b.Lo) (h4 : inSp 131072 b.Hi) {i : Int} (hi0 : 0 ≤ i) (hi1 : i < 3) : ranP o d b i := by
  have := parts_rng h1 h2 h3 h4 hi0 hi1
  rw [part_at hi0 hi1] at this
  exact this
end Go.Proofs.B
namespace Go.Proofs.B
open Go Go.AH
set_option maxRecDepth 4000
set_option linter.unusedSimpArgs false
set_option linter.unusedVariables false
def R_ref00_Within (v : VT) (most : Int) : Bool :=
  if v.X ≥ -most then (if v.X ≤ most then (if v.Y ≥ -most then (if v.Y ≤ most then (if v.Z ≥ -most then decide (v.Z ≤ most) else false) else false) else false) else false) else false
theorem c_ref00_Within (v : VT) (most : Int) (hm : -9223372036854775807 ≤ most ∧ most ≤ 9223372036854775807) : PC Try.prog 21 [.agg [.int .i64 v.X, .int .i64 v.Y, .int .i64 v.Z], .int .i64 most] (.bool (R_ref00_Within v most)) := by
 intro H0
 refine ACalls.of_body' (n := 42) rfl rfl rfl rfl ?_
 have m0 := Mono.refl H0
 refine AWP.seq ?_
 refine AWP.region (l := [0, 1]) rfl ?_
 refine AOps.cons rfl rfl (AOp.box (.agg [.int .i64 v.X, .int .i64 v.Y, .int .i64 v.Z]) rfl rfl rfl ?_)
 intro i1 H2 n3 h4 k5
 have z6 := Mono.free m0 n3
 have m7 := Mono.new m0 n3 k5
 refine AOps.cons rfl rfl (AOp.assign (.bool false) rfl rfl ?_)
 refine AOps.nil ?_
 change AWP _ _ _ _ _ _
 refine AWP.seq ?_
 refine AWP.frzP 2 h4 z6 rfl m7 fun H8 m9 k10 => ?_
 refine AWP.region (l := [0, 1, 2, 3, 4, 5, 6, 7, 8, 9, 10, 11, 12, 13, 14, 15, 16, 17, 18, 19, 20, 21, 22, 23, 24, 25, 26, 27, 28, 29, 30, 31, 32, 33, 34, 35, 36, 37]) rfl ?_
 refine AOps.cons rfl rfl (AOp.fieldAddrF rfl rfl fl_24_0 ?_)
 refine AOps.cons rfl rfl (AOp.loadF (.int .i64 v.X) rfl rfl ty_3 rfl ?_)
 refine AOps.cons rfl rfl (AOp.move (.int .i64 most) rfl rfl ?_)
 refine AOps.cons rfl rfl (AOp.negP rfl rfl (by omega) ?_)
 refine AOps.cons rfl rfl (AOp.bin (.bool (decide (v.X ≥ -most))) rfl rfl rfl rfl ?_)
 refine AOps.cons rfl rfl (AOp.move (.bool (decide (v.X ≥ -most))) rfl rfl ?_)
 by_cases b11 : v.X ≥ -most
 ·
  refine AOps.yes rfl rfl rfl rfl rfl rfl rfl (decide_eq_true b11) (AOp.fieldAddrF rfl rfl fl_24_0 ?_)
  refine AOps.yes rfl rfl rfl rfl rfl rfl rfl (decide_eq_true b11) (AOp.loadF (.int .i64 v.X) rfl rfl ty_3 rfl ?_)
  refine AOps.yes rfl rfl rfl rfl rfl rfl rfl (decide_eq_true b11) (AOp.move (.int .i64 most) rfl rfl ?_)
  refine AOps.yes rfl rfl rfl rfl rfl rfl rfl (decide_eq_true b11) (AOp.bin (.bool (decide (v.X ≤ most))) rfl rfl rfl rfl ?_)
  refine AOps.cons rfl rfl (AOp.pickT (.bool (decide (v.X ≤ most))) rfl rfl (decide_eq_true b11) rfl ?_)
  refine AOps.cons rfl rfl (AOp.move (.bool (decide (v.X ≤ most))) rfl rfl ?_)
  by_cases b12 : v.X ≤ most
  ·
   refine AOps.yes rfl rfl rfl rfl rfl rfl rfl (decide_eq_true b12) (AOp.fieldAddrF rfl rfl fl_24_1 ?_)
   refine AOps.yes rfl rfl rfl rfl rfl rfl rfl (decide_eq_true b12) (AOp.loadF (.int .i64 v.Y) rfl rfl ty_3 rfl ?_)
   refine AOps.yes rfl rfl rfl rfl rfl rfl rfl (decide_eq_true b12) (AOp.move (.int .i64 most) rfl rfl ?_)
   refine AOps.yes rfl rfl rfl rfl rfl rfl rfl (decide_eq_true b12) (AOp.negP rfl rfl (by omega) ?_)
   refine AOps.yes rfl rfl rfl rfl rfl rfl rfl (decide_eq_true b12) (AOp.bin (.bool (decide (v.Y ≥ -most))) rfl rfl rfl rfl ?_)
   refine AOps.cons rfl rfl (AOp.pickT (.bool (decide (v.Y ≥ -most))) rfl rfl (decide_eq_true b12) rfl ?_)
   refine AOps.cons rfl rfl (AOp.move (.bool (decide (v.Y ≥ -most))) rfl rfl ?_)
   by_cases b13 : v.Y ≥ -most
   ·
    refine AOps.yes rfl rfl rfl rfl rfl rfl rfl (decide_eq_true b13) (AOp.fieldAddrF rfl rfl fl_24_1 ?_)
    refine AOps.yes rfl rfl rfl rfl rfl rfl rfl (decide_eq_true b13) (AOp.loadF (.int .i64 v.Y) rfl rfl ty_3 rfl ?_)
    refine AOps.yes rfl rfl rfl rfl rfl rfl rfl (decide_eq_true b13) (AOp.move (.int .i64 most) rfl rfl ?_)
    refine AOps.yes rfl rfl rfl rfl rfl rfl rfl (decide_eq_true b13) (AOp.bin (.bool (decide (v.Y ≤ most))) rfl rfl rfl rfl ?_)
    refine AOps.cons rfl rfl (AOp.pickT (.bool (decide (v.Y ≤ most))) rfl rfl (decide_eq_true b13) rfl ?_)
    refine AOps.cons rfl rfl (AOp.move (.bool (decide (v.Y ≤ most))) rfl rfl ?_)
    by_cases b14 : v.Y ≤ most
    ·
     refine AOps.yes rfl rfl rfl rfl rfl rfl rfl (decide_eq_true b14) (AOp.fieldAddrF rfl rfl fl_24_2 ?_)
     refine AOps.yes rfl rfl rfl rfl rfl rfl rfl (decide_eq_true b14) (AOp.loadF (.int .i64 v.Z) rfl rfl ty_3 rfl ?_)
     refine AOps.yes rfl rfl rfl rfl rfl rfl rfl (decide_eq_true b14) (AOp.move (.int .i64 most) rfl rfl ?_)
     refine AOps.yes rfl rfl rfl rfl rfl rfl rfl (decide_eq_true b14) (AOp.negP rfl rfl (by omega) ?_)
     refine AOps.yes rfl rfl rfl rfl rfl rfl rfl (decide_eq_true b14) (AOp.bin (.bool (decide (v.Z ≥ -most))) rfl rfl rfl rfl ?_)
     refine AOps.cons rfl rfl (AOp.pickT (.bool (decide (v.Z ≥ -most))) rfl rfl (decide_eq_true b14) rfl ?_)
     refine AOps.cons rfl rfl (AOp.move (.bool (decide (v.Z ≥ -most))) rfl rfl ?_)
     by_cases b15 : v.Z ≥ -most
     ·
      refine AOps.yes rfl rfl rfl rfl rfl rfl rfl (decide_eq_true b15) (AOp.fieldAddrF rfl rfl fl_24_2 ?_)
      refine AOps.yes rfl rfl rfl rfl rfl rfl rfl (decide_eq_true b15) (AOp.loadF (.int .i64 v.Z) rfl rfl ty_3 rfl ?_)
      refine AOps.yes rfl rfl rfl rfl rfl rfl rfl (decide_eq_true b15) (AOp.move (.int .i64 most) rfl rfl ?_)
      refine AOps.yes rfl rfl rfl rfl rfl rfl rfl (decide_eq_true b15) (AOp.bin (.bool (decide (v.Z ≤ most))) rfl rfl rfl rfl ?_)
      refine AOps.cons rfl rfl (AOp.pickT (.bool (decide (v.Z ≤ most))) rfl rfl (decide_eq_true b15) rfl ?_)
      refine AOps.cons rfl rfl (AOp.assign (.bool (decide (v.Z ≤ most))) rfl rfl ?_)
      refine AOps.nil ?_
      change AWP _ _ _ _ _ _
      refine AWP.ret ?_
      refine ⟨_, _, Ghost.refl, .inr rfl, _, Res.one rfl rfl, ?_, m9⟩
      have hR : R_ref00_Within v most = decide (v.Z ≤ most) := by unfold R_ref00_Within; rw [if_pos b11, if_pos b12, if_pos b13, if_pos b14, if_pos b15]
      exact (congrArg (fun r : Bool => (.bool r : AV)) hR).symm
     ·
      refine AOps.no rfl rfl rfl rfl rfl rfl rfl (ble_of (decide_eq_false b15) (by decide)) ?_
      refine AOps.no rfl rfl rfl rfl rfl rfl rfl (ble_of (decide_eq_false b15) (by decide)) ?_
      refine AOps.no rfl rfl rfl rfl rfl rfl rfl (ble_of (decide_eq_false b15) (by decide)) ?_
      refine AOps.no rfl rfl rfl rfl rfl rfl rfl (ble_of (decide_eq_false b15) (by decide)) ?_
      refine AOps.cons rfl rfl (AOp.pickF (.bool false) rfl rfl (decide_eq_false b15) rfl ?_)
      refine AOps.cons rfl rfl (AOp.assign (.bool false) rfl rfl ?_)
      refine AOps.nil ?_
      change AWP _ _ _ _ _ _
      refine AWP.ret ?_
      refine ⟨_, _, Ghost.refl, .inr rfl, _, Res.one rfl rfl, ?_, m9⟩
      have hR : R_ref00_Within v most = false := by unfold R_ref00_Within; rw [if_pos b11, if_pos b12, if_pos b13, if_pos b14, if_neg b15]
      exact (congrArg (fun r : Bool => (.bool r : AV)) hR).symm
    ·
     refine AOps.no rfl rfl rfl rfl rfl rfl rfl (ble_of (decide_eq_false b14) (by decide)) ?_
     refine AOps.no rfl rfl rfl rfl rfl rfl rfl (ble_of (decide_eq_false b14) (by decide)) ?_
     refine AOps.no rfl rfl rfl rfl rfl rfl rfl (ble_of (decide_eq_false b14) (by decide)) ?_
     refine AOps.no rfl rfl rfl rfl rfl rfl rfl (ble_of (decide_eq_false b14) (by decide)) ?_
     refine AOps.no rfl rfl rfl rfl rfl rfl rfl (ble_of (decide_eq_false b14) (by decide)) ?_
     refine AOps.cons rfl rfl (AOp.pickF (.bool false) rfl rfl (decide_eq_false b14) rfl ?_)
     refine AOps.cons rfl rfl (AOp.move (.bool false) rfl rfl ?_)
     refine AOps.no rfl rfl rfl rfl rfl rfl rfl (ble_of rfl (by decide)) ?_
     refine AOps.no rfl rfl rfl rfl rfl rfl rfl (ble_of rfl (by decide)) ?_
     refine AOps.no rfl rfl rfl rfl rfl rfl rfl (ble_of rfl (by decide)) ?_
     refine AOps.no rfl rfl rfl rfl rfl rfl rfl (ble_of rfl (by decide)) ?_
     refine AOps.cons rfl rfl (AOp.pickF (.bool false) rfl rfl rfl rfl ?_)
     refine AOps.cons rfl rfl (AOp.assign (.bool false) rfl rfl ?_)
     refine AOps.nil ?_
     change AWP _ _ _ _ _ _
     refine AWP.ret ?_
     refine ⟨_, _, Ghost.refl, .inr rfl, _, Res.one rfl rfl, ?_, m9⟩
     have hR : R_ref00_Within v most = false := by unfold R_ref00_Within; rw [if_pos b11, if_pos b12, if_pos b13, if_neg b14]
     exact (congrArg (fun r : Bool => (.bool r : AV)) hR).symm
   ·
    refine AOps.no rfl rfl rfl rfl rfl rfl rfl (ble_of (decide_eq_false b13) (by decide)) ?_
    refine AOps.no rfl rfl rfl rfl rfl rfl rfl (ble_of (decide_eq_false b13) (by decide)) ?_
    refine AOps.no rfl rfl rfl rfl rfl rfl rfl (ble_of (decide_eq_false b13) (by decide)) ?_
    refine AOps.no rfl rfl rfl rfl rfl rfl rfl (ble_of (decide_eq_false b13) (by decide)) ?_
    refine AOps.cons rfl rfl (AOp.pickF (.bool false) rfl rfl (decide_eq_false b13) rfl ?_)
    refine AOps.cons rfl rfl (AOp.move (.bool false) rfl rfl ?_)
    refine AOps.no rfl rfl rfl rfl rfl rfl rfl (ble_of rfl (by decide)) ?_
    refine AOps.no rfl rfl rfl rfl rfl rfl rfl (ble_of rfl (by decide)) ?_
    refine AOps.no rfl rfl rfl rfl rfl rfl rfl (ble_of rfl (by decide)) ?_
    refine AOps.no rfl rfl rfl rfl rfl rfl rfl (ble_of rfl (by decide)) ?_
    refine AOps.no rfl rfl rfl rfl rfl rfl rfl (ble_of rfl (by decide)) ?_
    refine AOps.cons rfl rfl (AOp.pickF (.bool false) rfl rfl rfl rfl ?_)
    refine AOps.cons rfl rfl (AOp.move (.bool false) rfl rfl ?_)
    refine AOps.no rfl rfl rfl rfl rfl rfl rfl (ble_of rfl (by decide)) ?_
    refine AOps.no rfl rfl rfl rfl rfl rfl rfl (ble_of rfl (by decide)) ?_
    refine AOps.no rfl rfl rfl rfl rfl rfl rfl (ble_of rfl (by decide)) ?_
    refine AOps.no rfl rfl rfl rfl rfl rfl rfl (ble_of rfl (by decide)) ?_
    refine AOps.cons rfl rfl (AOp.pickF (.bool false) rfl rfl rfl rfl ?_)
    refine AOps.cons rfl rfl (AOp.assign (.bool false) rfl rfl ?_)
    refine AOps.nil ?_
    change AWP _ _ _ _ _ _
    refine AWP.ret ?_
    refine ⟨_, _, Ghost.refl, .inr rfl, _, Res.one rfl rfl, ?_, m9⟩
    have hR : R_ref00_Within v most = false := by unfold R_ref00_Within; rw [if_pos b11, if_pos b12, if_neg b13]
    exact (congrArg (fun r : Bool => (.bool r : AV)) hR).symm
  ·
   refine AOps.no rfl rfl rfl rfl rfl rfl rfl (ble_of (decide_eq_false b12) (by decide)) ?_
   refine AOps.no rfl rfl rfl rfl rfl rfl rfl (ble_of (decide_eq_false b12) (by decide)) ?_
   refine AOps.no rfl rfl rfl rfl rfl rfl rfl (ble_of (decide_eq_false b12) (by decide)) ?_
   refine AOps.no rfl rfl rfl rfl rfl rfl rfl (ble_of (decide_eq_false b12) (by decide)) ?_
   refine AOps.no rfl rfl rfl rfl rfl rfl rfl (ble_of (decide_eq_false b12) (by decide)) ?_
   refine AOps.cons rfl rfl (AOp.pickF (.bool false) rfl rfl (decide_eq_false b12) rfl ?_)
   refine AOps.cons rfl rfl (AOp.move (.bool false) rfl rfl ?_)
   refine AOps.no rfl rfl rfl rfl rfl rfl rfl (ble_of rfl (by decide)) ?_
   refine AOps.no rfl rfl rfl rfl rfl rfl rfl (ble_of rfl (by decide)) ?_
   refine AOps.no rfl rfl rfl rfl rfl rfl rfl (ble_of rfl (by decide)) ?_
   refine AOps.no rfl rfl rfl rfl rfl rfl rfl (ble_of rfl (by decide)) ?_
   refine AOps.cons rfl rfl (AOp.pickF (.bool false) rfl rfl rfl rfl ?_)
   refine AOps.cons rfl rfl (AOp.move (.bool false) rfl rfl ?_)
   refine AOps.no rfl rfl rfl rfl rfl rfl rfl (ble_of rfl (by decide)) ?_
   refine AOps.no rfl rfl rfl rfl rfl rfl rfl (ble_of rfl (by decide)) ?_
   refine AOps.no rfl rfl rfl rfl rfl rfl rfl (ble_of rfl (by decide)) ?_
   refine AOps.no rfl rfl rfl rfl rfl rfl rfl (ble_of rfl (by decide)) ?_
   refine AOps.no rfl rfl rfl rfl rfl rfl rfl (ble_of rfl (by decide)) ?_
   refine AOps.cons rfl rfl (AOp.pickF (.bool false) rfl rfl rfl rfl ?_)
   refine AOps.cons rfl rfl (AOp.move (.bool false) rfl rfl ?_)
   refine AOps.no rfl rfl rfl rfl rfl rfl rfl (ble_of rfl (by decide)) ?_
   refine AOps.no rfl rfl rfl rfl rfl rfl rfl (ble_of rfl (by decide)) ?_
   refine AOps.no rfl rfl rfl rfl rfl rfl rfl (ble_of rfl (by decide)) ?_
   refine AOps.no rfl rfl rfl rfl rfl rfl rfl (ble_of rfl (by decide)) ?_
   refine AOps.cons rfl rfl (AOp.pickF (.bool false) rfl rfl rfl rfl ?_)
   refine AOps.cons rfl rfl (AOp.assign (.bool false) rfl rfl ?_)
   refine AOps.nil ?_
   change AWP _ _ _ _ _ _
   refine AWP.ret ?_
   refine ⟨_, _, Ghost.refl, .inr rfl, _, Res.one rfl rfl, ?_, m9⟩
   have hR : R_ref00_Within v most = false := by unfold R_ref00_Within; rw [if_pos b11, if_neg b12]
   exact (congrArg (fun r : Bool => (.bool r : AV)) hR).symm
 ·
  refine AOps.no rfl rfl rfl rfl rfl rfl rfl (ble_of (decide_eq_false b11) (by decide)) ?_
  refine AOps.no rfl rfl rfl rfl rfl rfl rfl (ble_of (decide_eq_false b11) (by decide)) ?_
  refine AOps.no rfl rfl rfl rfl rfl rfl rfl (ble_of (decide_eq_false b11) (by decide)) ?_
  refine AOps.no rfl rfl rfl rfl rfl rfl rfl (ble_of (decide_eq_false b11) (by decide)) ?_
  refine AOps.cons rfl rfl (AOp.pickF (.bool false) rfl rfl (decide_eq_false b11) rfl ?_)
  refine AOps.cons rfl rfl (AOp.move (.bool false) rfl rfl ?_)
  refine AOps.no rfl rfl rfl rfl rfl rfl rfl (ble_of rfl (by decide)) ?_
  refine AOps.no rfl rfl rfl rfl rfl rfl rfl (ble_of rfl (by decide)) ?_
  refine AOps.no rfl rfl rfl rfl rfl rfl rfl (ble_of rfl (by decide)) ?_
  refine AOps.no rfl rfl rfl rfl rfl rfl rfl (ble_of rfl (by decide)) ?_
  refine AOps.no rfl rfl rfl rfl rfl rfl rfl (ble_of rfl (by decide)) ?_
  refine AOps.cons rfl rfl (AOp.pickF (.bool false) rfl rfl rfl rfl ?_)
  refine AOps.cons rfl rfl (AOp.move (.bool false) rfl rfl ?_)
  refine AOps.no rfl rfl rfl rfl rfl rfl rfl (ble_of rfl (by decide)) ?_
  refine AOps.no rfl rfl rfl rfl rfl rfl rfl (ble_of rfl (by decide)) ?_
  refine AOps.no rfl rfl rfl rfl rfl rfl rfl (ble_of rfl (by decide)) ?_
  refine AOps.no rfl rfl rfl rfl rfl rfl rfl (ble_of rfl (by decide)) ?_
  refine AOps.cons rfl rfl (AOp.pickF (.bool false) rfl rfl rfl rfl ?_)
  refine AOps.cons rfl rfl (AOp.move (.bool false) rfl rfl ?_)
  refine AOps.no rfl rfl rfl rfl rfl rfl rfl (ble_of rfl (by decide)) ?_
  refine AOps.no rfl rfl rfl rfl rfl rfl rfl (ble_of rfl (by decide)) ?_
  refine AOps.no rfl rfl rfl rfl rfl rfl rfl (ble_of rfl (by decide)) ?_
  refine AOps.no rfl rfl rfl rfl rfl rfl rfl (ble_of rfl (by decide)) ?_
  refine AOps.no rfl rfl rfl rfl rfl rfl rfl (ble_of rfl (by decide)) ?_
  refine AOps.cons rfl rfl (AOp.pickF (.bool false) rfl rfl rfl rfl ?_)
  refine AOps.cons rfl rfl (AOp.move (.bool false) rfl rfl ?_)
  refine AOps.no rfl rfl rfl rfl rfl rfl rfl (ble_of rfl (by decide)) ?_
  refine AOps.no rfl rfl rfl rfl rfl rfl rfl (ble_of rfl (by decide)) ?_
  refine AOps.no rfl rfl rfl rfl rfl rfl rfl (ble_of rfl (by decide)) ?_
  refine AOps.no rfl rfl rfl rfl rfl rfl rfl (ble_of rfl (by decide)) ?_
  refine AOps.cons rfl rfl (AOp.pickF (.bool false) rfl rfl rfl rfl ?_)
  refine AOps.cons rfl rfl (AOp.assign (.bool false) rfl rfl ?_)
  refine AOps.nil ?_
  change AWP _ _ _ _ _ _
  refine AWP.ret ?_
  refine ⟨_, _, Ghost.refl, .inr rfl, _, Res.one rfl rfl, ?_, m9⟩
  have hR : R_ref00_Within v most = false := by unfold R_ref00_Within; rw [if_neg b11]
  exact (congrArg (fun r : Bool => (.bool r : AV)) hR).symm
theorem c_rJoin (a b : BoxT) : PC Try.prog 34 [.agg [.int .i64 a.Lo.X, .int .i64 a.Lo.Y, .int .i64 a.Lo.Z, .int .i64 a.Hi.X, .int .i64 a.Hi.Y, .int .i64 a.Hi.Z], .agg [.int .i64 b.Lo.X, .int .i64 b.Lo.Y, .int .i64 b.Lo.Z, .int .i64 b.Hi.X, .int .i64 b.Hi.Y, .int .i64 b.Hi.Z]] (.agg [.int .i64 (((joinB a b).Lo).X), .int .i64 (((joinB a b).Lo).Y), .int .i64 (((joinB a b).Lo).Z), .int .i64 (((joinB a b).Hi).X), .int .i64 (((joinB a b).Hi).Y), .int .i64 (((joinB a b).Hi).Z)]) := by
 intro H0
 refine ACalls.of_body' (n := 50) rfl rfl rfl rfl ?_
 have m0 := Mono.refl H0
 refine AWP.seq ?_
 refine AWP.region (l := [0, 1, 2]) rfl ?_
 refine AOps.cons rfl rfl (AOp.box (.agg [.int .i64 a.Lo.X, .int .i64 a.Lo.Y, .int .i64 a.Lo.Z, .int .i64 a.Hi.X, .int .i64 a.Hi.Y, .int .i64 a.Hi.Z]) rfl rfl rfl ?_)
 intro i1 H2 n3 h4 k5
 have z6 := Mono.free m0 n3
 have m7 := Mono.new m0 n3 k5
 refine AOps.cons rfl rfl (AOp.box (.agg [.int .i64 b.Lo.X, .int .i64 b.Lo.Y, .int .i64 b.Lo.Z, .int .i64 b.Hi.X, .int .i64 b.Hi.Y, .int .i64 b.Hi.Z]) rfl rfl rfl ?_)
 intro i8 H9 n10 h11 k12
 have e13 := ne_new h4 n10
 have z14 := Mono.free m7 n10
 have h15 := keep k12 (ne_new h4 n10) h4
 have m16 := Mono.new m7 n10 k12
 refine AOps.cons rfl rfl (AOp.alloc rfl tz_37 ?_)
 intro i17 H18 n19 h20 k21
 have e22 := ne_new h15 n19
 have e23 := ne_new h11 n19
 have z24 := Mono.free m16 n19
 have h25 := keep k21 (ne_new h15 n19) h15
 have h26 := keep k21 (ne_new h11 n19) h11
 have m27 := Mono.new m16 n19 k21
 refine AOps.nil ?_
 change AWP _ _ _ _ _ _
 refine AWP.seq ?_
 refine AWP.frzP 2 h25 z6 rfl m27 fun H28 m29 k30 => ?_
 have h31 := (k30 _ (Ne.symm e13)).trans h26
 have h32 := (k30 _ (Ne.symm e22)).trans h20
 refine AWP.frzP 3 h31 z14 rfl m29 fun H33 m34 k35 => ?_
 have h36 := (k35 _ (Ne.symm e23)).trans h32
 refine AWP.region (l := [0, 1, 2, 3, 4, 5, 6, 7, 8, 9, 10, 11, 12, 13, 14, 15, 16, 17, 18, 19, 20, 21, 22, 23, 24, 25, 26, 27, 28, 29, 30, 31, 32, 33, 34, 35, 36, 37, 38, 39, 40, 41, 42, 43, 44, 45]) rfl ?_
 refine AOps.cons rfl rfl (AOp.fieldAddrF rfl rfl fl_37_0 ?_)
 refine AOps.cons rfl rfl (AOp.fieldAddrF rfl rfl fl_24_0 ?_)
 refine AOps.cons rfl rfl (AOp.loadF (.int .i64 a.Lo.X) rfl rfl ty_3 rfl ?_)
 refine AOps.cons rfl rfl (AOp.fieldAddrF rfl rfl fl_37_0 ?_)
 refine AOps.cons rfl rfl (AOp.fieldAddrF rfl rfl fl_24_0 ?_)
 refine AOps.cons rfl rfl (AOp.loadF (.int .i64 b.Lo.X) rfl rfl ty_3 rfl ?_)
 refine AOps.cons rfl rfl (AOp.min2 rfl rfl rfl ?_)
 refine AOps.cons rfl rfl (AOp.fieldAddrF rfl rfl fl_37_0 ?_)
 refine AOps.cons rfl rfl (AOp.fieldAddrF rfl rfl fl_24_1 ?_)
 refine AOps.cons rfl rfl (AOp.loadF (.int .i64 a.Lo.Y) rfl rfl ty_3 rfl ?_)
 refine AOps.cons rfl rfl (AOp.fieldAddrF rfl rfl fl_37_0 ?_)
 refine AOps.cons rfl rfl (AOp.fieldAddrF rfl rfl fl_24_1 ?_)
 refine AOps.cons rfl rfl (AOp.loadF (.int .i64 b.Lo.Y) rfl rfl ty_3 rfl ?_)
 refine AOps.cons rfl rfl (AOp.min2 rfl rfl rfl ?_)
 refine AOps.cons rfl rfl (AOp.fieldAddrF rfl rfl fl_37_0 ?_)
 refine AOps.cons rfl rfl (AOp.fieldAddrF rfl rfl fl_24_2 ?_)
 refine AOps.cons rfl rfl (AOp.loadF (.int .i64 a.Lo.Z) rfl rfl ty_3 rfl ?_)
 refine AOps.cons rfl rfl (AOp.fieldAddrF rfl rfl fl_37_0 ?_)
 refine AOps.cons rfl rfl (AOp.fieldAddrF rfl rfl fl_24_2 ?_)
 refine AOps.cons rfl rfl (AOp.loadF (.int .i64 b.Lo.Z) rfl rfl ty_3 rfl ?_)
 refine AOps.cons rfl rfl (AOp.min2 rfl rfl rfl ?_)
 refine AOps.cons rfl rfl (AOp.build (cells := [.int .i64 (min a.Lo.X b.Lo.X), .int .i64 (min a.Lo.Y b.Lo.Y), .int .i64 (min a.Lo.Z b.Lo.Z)]) rfl tz_24 pl_24 rfl rfl ?_)
 refine AOps.cons rfl rfl (AOp.fieldAddrF rfl rfl fl_37_1 ?_)
 refine AOps.cons rfl rfl (AOp.fieldAddrF rfl rfl fl_24_0 ?_)
 refine AOps.cons rfl rfl (AOp.loadF (.int .i64 a.Hi.X) rfl rfl ty_3 rfl ?_)
 refine AOps.cons rfl rfl (AOp.fieldAddrF rfl rfl fl_37_1 ?_)
 refine AOps.cons rfl rfl (AOp.fieldAddrF rfl rfl fl_24_0 ?_)
 refine AOps.cons rfl rfl (AOp.loadF (.int .i64 b.Hi.X) rfl rfl ty_3 rfl ?_)
 refine AOps.cons rfl rfl (AOp.max2 rfl rfl rfl ?_)
 refine AOps.cons rfl rfl (AOp.fieldAddrF rfl rfl fl_37_1 ?_)
 refine AOps.cons rfl rfl (AOp.fieldAddrF rfl rfl fl_24_1 ?_)
 refine AOps.cons rfl rfl (AOp.loadF (.int .i64 a.Hi.Y) rfl rfl ty_3 rfl ?_)
 refine AOps.cons rfl rfl (AOp.fieldAddrF rfl rfl fl_37_1 ?_)
 refine AOps.cons rfl rfl (AOp.fieldAddrF rfl rfl fl_24_1 ?_)
 refine AOps.cons rfl rfl (AOp.loadF (.int .i64 b.Hi.Y) rfl rfl ty_3 rfl ?_)
 refine AOps.cons rfl rfl (AOp.max2 rfl rfl rfl ?_)
 refine AOps.cons rfl rfl (AOp.fieldAddrF rfl rfl fl_37_1 ?_)
 refine AOps.cons rfl rfl (AOp.fieldAddrF rfl rfl fl_24_2 ?_)
 refine AOps.cons rfl rfl (AOp.loadF (.int .i64 a.Hi.Z) rfl rfl ty_3 rfl ?_)
 refine AOps.cons rfl rfl (AOp.fieldAddrF rfl rfl fl_37_1 ?_)
 refine AOps.cons rfl rfl (AOp.fieldAddrF rfl rfl fl_24_2 ?_)
 refine AOps.cons rfl rfl (AOp.loadF (.int .i64 b.Hi.Z) rfl rfl ty_3 rfl ?_)
 refine AOps.cons rfl rfl (AOp.max2 rfl rfl rfl ?_)
 refine AOps.cons rfl rfl (AOp.build (cells := [.int .i64 (max a.Hi.X b.Hi.X), .int .i64 (max a.Hi.Y b.Hi.Y), .int .i64 (max a.Hi.Z b.Hi.Z)]) rfl tz_24 pl_24 rfl rfl ?_)
 refine AOps.cons rfl rfl (AOp.build (cells := [.int .i64 (min a.Lo.X b.Lo.X), .int .i64 (min a.Lo.Y b.Lo.Y), .int .i64 (min a.Lo.Z b.Lo.Z), .int .i64 (max a.Hi.X b.Hi.X), .int .i64 (max a.Hi.Y b.Hi.Y), .int .i64 (max a.Hi.Z b.Hi.Z)]) rfl tz_37 pl_37 rfl rfl ?_)
 refine AOps.cons rfl rfl (AOp.store' (cells' := [.int .i64 (min a.Lo.X b.Lo.X), .int .i64 (min a.Lo.Y b.Lo.Y), .int .i64 (min a.Lo.Z b.Lo.Z), .int .i64 (max a.Hi.X b.Hi.X), .int .i64 (max a.Hi.Y b.Hi.Y), .int .i64 (max a.Hi.Z b.Hi.Z)]) (.agg [.int .i64 (min a.Lo.X b.Lo.X), .int .i64 (min a.Lo.Y b.Lo.Y), .int .i64 (min a.Lo.Z b.Lo.Z), .int .i64 (max a.Hi.X b.Hi.X), .int .i64 (max a.Hi.Y b.Hi.Y), .int .i64 (max a.Hi.Z b.Hi.Z)]) rfl rfl ts_37 h36 rfl rfl rfl rfl ?_)
 intro H37 h38 k39
 have m41 := Mono.set m34 z24 k39
 refine AOps.nil ?_
 change AWP _ _ _ _ _ _
 refine AWP.ret ?_
 refine ⟨_, _, Ghost.refl, .inr rfl, _, Res.list1 rfl (.cell (v := .agg [.int .i64 (min a.Lo.X b.Lo.X), .int .i64 (min a.Lo.Y b.Lo.Y), .int .i64 (min a.Lo.Z b.Lo.Z), .int .i64 (max a.Hi.X b.Hi.X), .int .i64 (max a.Hi.Y b.Hi.Y), .int .i64 (max a.Hi.Z b.Hi.Z)]) rfl ty_37 h38 rfl (.nil)), ?_, m41⟩
 exact (congrArg AV.agg (lc (congrArg (AV.int .i64) (show (min a.Lo.X b.Lo.X : Int) = ((joinB a b).Lo).X from by rfl)) (lc (congrArg (AV.int .i64) (show (min a.Lo.Y b.Lo.Y : Int) = ((joinB a b).Lo).Y from by rfl)) (lc (congrArg (AV.int .i64) (show (min a.Lo.Z b.Lo.Z : Int) = ((joinB a b).Lo).Z from by rfl)) (lc (congrArg (AV.int .i64) (show (max a.Hi.X b.Hi.X : Int) = ((joinB a b).Hi).X from by rfl)) (lc (congrArg (AV.int .i64) (show (max a.Hi.Y b.Hi.Y : Int) = ((joinB a b).Hi).Y from by rfl)) (lc (congrArg (AV.int .i64) (show (max a.Hi.Z b.Hi.Z : Int) = ((joinB a b).Hi).Z from by rfl)) rfl)))))))
theorem c_part (b : BoxT) (axis : Int) (hb : okBox b) : PC Try.prog 36 [.agg [.int .i64 b.Lo.X, .int .i64 b.Lo.Y, .int .i64 b.Lo.Z, .int .i64 b.Hi.X, .int .i64 b.Hi.Y, .int .i64 b.Hi.Z], .int .i64 axis] (.int .i64 (mid axis b)) := by
 intro H0
 refine ACalls.of_body' (n := 31) rfl rfl rfl rfl ?_
 have m0 := Mono.refl H0
 refine AWP.seq ?_
 refine AWP.region (l := [0, 1]) rfl ?_
 refine AOps.cons rfl rfl (AOp.box (.agg [.int .i64 b.Lo.X, .int .i64 b.Lo.Y, .int .i64 b.Lo.Z, .int .i64 b.Hi.X, .int .i64 b.Hi.Y, .int .i64 b.Hi.Z]) rfl rfl rfl ?_)
 intro i1 H2 n3 h4 k5
 have z6 := Mono.free m0 n3
 have m7 := Mono.new m0 n3 k5
 refine AOps.cons rfl rfl (AOp.assign (.int .i64 0) rfl rfl ?_)
 refine AOps.nil ?_
 change AWP _ _ _ _ _ _
 refine AWP.seq ?_
 refine AWP.seq ?_
 refine AWP.frzP 2 h4 z6 rfl m7 fun H8 m9 k10 => ?_
 simp only [okBox, inSp] at hb
 refine AWP.region (l := [0]) rfl ?_
 refine AOps.cons rfl rfl (AOp.move (.int .i64 axis) rfl rfl ?_)
 refine AOps.nil ?_
 change AWP _ _ _ _ _ _
 refine AWP.block ?_
 refine AWP.seq ?_
 refine AWP.region (l := [0, 1]) rfl ?_
 refine AOps.cons rfl rfl (AOp.bin (.bool (decide (axis = 0))) rfl rfl rfl ieq ?_)
 refine AOps.cons rfl rfl (AOp.assign (.bool (decide (axis = 0))) rfl rfl ?_)
 refine AOps.nil ?_
 change AWP _ _ _ _ _ _
 by_cases b11 : axis = 0
 ·
  refine AWP.condT rfl (decide_eq_true b11) ?_
  refine AWP.seq ?_
  refine AWP.region (l := [0, 1, 2, 3, 4, 5, 6, 7]) rfl ?_
  refine AOps.cons rfl rfl (AOp.fieldAddrF rfl rfl fl_37_0 ?_)
  refine AOps.cons rfl rfl (AOp.fieldAddrF rfl rfl fl_24_0 ?_)
  refine AOps.cons rfl rfl (AOp.loadF (.int .i64 b.Lo.X) rfl rfl ty_3 rfl ?_)
  refine AOps.cons rfl rfl (AOp.fieldAddrF rfl rfl fl_37_1 ?_)
  refine AOps.cons rfl rfl (AOp.fieldAddrF rfl rfl fl_24_0 ?_)
  refine AOps.cons rfl rfl (AOp.loadF (.int .i64 b.Hi.X) rfl rfl ty_3 rfl ?_)
  refine AOps.cons rfl rfl (AOp.bin (.int .i64 (b.Lo.X + b.Hi.X)) rfl rfl rfl (iadd (by omega)) ?_)
  refine AOps.cons rfl rfl (AOp.assign (.int .i64 (b.Lo.X + b.Hi.X)) rfl rfl ?_)
  refine AOps.nil ?_
  change AWP _ _ _ _ _ _
  refine AWP.ret ?_
  refine ⟨_, _, Ghost.refl, .inr rfl, _, Res.one rfl rfl, ?_, m9⟩
  exact (congrArg (AV.int .i64) (show (b.Lo.X + b.Hi.X : Int) = mid axis b from by unfold mid; first | rw [if_pos (by assumption)] | rw [if_neg (by assumption), if_pos (by assumption)] | rw [if_neg (by assumption), if_neg (by assumption)]))
 ·
  refine AWP.condF rfl (decide_eq_false b11) ?_
  refine AWP.seq ?_
  refine AWP.region (l := [0, 1]) rfl ?_
  refine AOps.cons rfl rfl (AOp.bin (.bool (decide (axis = 1))) rfl rfl rfl ieq ?_)
  refine AOps.cons rfl rfl (AOp.assign (.bool (decide (axis = 1))) rfl rfl ?_)
  refine AOps.nil ?_
  change AWP _ _ _ _ _ _
  by_cases b12 : axis = 1
  ·
   refine AWP.condT rfl (decide_eq_true b12) ?_
   refine AWP.seq ?_
   refine AWP.region (l := [0, 1, 2, 3, 4, 5, 6, 7]) rfl ?_
   refine AOps.cons rfl rfl (AOp.fieldAddrF rfl rfl fl_37_0 ?_)
   refine AOps.cons rfl rfl (AOp.fieldAddrF rfl rfl fl_24_1 ?_)
   refine AOps.cons rfl rfl (AOp.loadF (.int .i64 b.Lo.Y) rfl rfl ty_3 rfl ?_)
   refine AOps.cons rfl rfl (AOp.fieldAddrF rfl rfl fl_37_1 ?_)
   refine AOps.cons rfl rfl (AOp.fieldAddrF rfl rfl fl_24_1 ?_)
   refine AOps.cons rfl rfl (AOp.loadF (.int .i64 b.Hi.Y) rfl rfl ty_3 rfl ?_)
   refine AOps.cons rfl rfl (AOp.bin (.int .i64 (b.Lo.Y + b.Hi.Y)) rfl rfl rfl (iadd (by omega)) ?_)
   refine AOps.cons rfl rfl (AOp.assign (.int .i64 (b.Lo.Y + b.Hi.Y)) rfl rfl ?_)
   refine AOps.nil ?_
   change AWP _ _ _ _ _ _
   refine AWP.ret ?_
   refine ⟨_, _, Ghost.refl, .inr rfl, _, Res.one rfl rfl, ?_, m9⟩
   exact (congrArg (AV.int .i64) (show (b.Lo.Y + b.Hi.Y : Int) = mid axis b from by unfold mid; first | rw [if_pos (by assumption)] | rw [if_neg (by assumption), if_pos (by assumption)] | rw [if_neg (by assumption), if_neg (by assumption)]))
  ·
   refine AWP.condF rfl (decide_eq_false b12) ?_
   refine AWP.skip ?_
   change AWP _ _ _ _ _ _
   refine AWP.seq ?_
   refine AWP.region (l := [0, 1, 2, 3, 4, 5, 6, 7]) rfl ?_
   refine AOps.cons rfl rfl (AOp.fieldAddrF rfl rfl fl_37_0 ?_)
   refine AOps.cons rfl rfl (AOp.fieldAddrF rfl rfl fl_24_2 ?_)
   refine AOps.cons rfl rfl (AOp.loadF (.int .i64 b.Lo.Z) rfl rfl ty_3 rfl ?_)
   refine AOps.cons rfl rfl (AOp.fieldAddrF rfl rfl fl_37_1 ?_)
   refine AOps.cons rfl rfl (AOp.fieldAddrF rfl rfl fl_24_2 ?_)
   refine AOps.cons rfl rfl (AOp.loadF (.int .i64 b.Hi.Z) rfl rfl ty_3 rfl ?_)
   refine AOps.cons rfl rfl (AOp.bin (.int .i64 (b.Lo.Z + b.Hi.Z)) rfl rfl rfl (iadd (by omega)) ?_)
   refine AOps.cons rfl rfl (AOp.assign (.int .i64 (b.Lo.Z + b.Hi.Z)) rfl rfl ?_)
   refine AOps.nil ?_
   change AWP _ _ _ _ _ _
   refine AWP.ret ?_
   refine ⟨_, _, Ghost.refl, .inr rfl, _, Res.one rfl rfl, ?_, m9⟩
   exact (congrArg (AV.int .i64) (show (b.Lo.Z + b.Hi.Z : Int) = mid axis b from by unfold mid; first | rw [if_pos (by assumption)] | rw [if_neg (by assumption), if_pos (by assumption)] | rw [if_neg (by assumption), if_neg (by assumption)]))
def R_ref03_Line (o : VT) (d : VT) : Bool :=
  if R_ref00_Within o 65536 = true then (if R_ref00_Within d 32768 = true then !decide (d = (VT.mk 0 0 0)) else false) else false
theorem c_ref03_Line (o : VT) (d : VT) (hd : ranV d) : PC Try.prog 37 [.agg [.int .i64 o.X, .int .i64 o.Y, .int .i64 o.Z], .agg [.int .i64 d.X, .int .i64 d.Y, .int .i64 d.Z]] (.bool (R_ref03_Line o d)) := by
 intro H0
 refine ACalls.of_body' (n := 16) rfl rfl rfl rfl ?_
 have m0 := Mono.refl H0
 refine AWP.seq ?_
 refine AWP.region (l := [0, 1, 2]) rfl ?_
 refine AOps.cons rfl rfl (AOp.box (.agg [.int .i64 o.X, .int .i64 o.Y, .int .i64 o.Z]) rfl rfl rfl ?_)
 intro i1 H2 n3 h4 k5
 have z6 := Mono.free m0 n3
 have m7 := Mono.new m0 n3 k5
 refine AOps.cons rfl rfl (AOp.box (.agg [.int .i64 d.X, .int .i64 d.Y, .int .i64 d.Z]) rfl rfl rfl ?_)
 intro i8 H9 n10 h11 k12
 have e13 := ne_new h4 n10
 have z14 := Mono.free m7 n10
 have h15 := keep k12 (ne_new h4 n10) h4
 have m16 := Mono.new m7 n10 k12
 refine AOps.cons rfl rfl (AOp.assign (.bool false) rfl rfl ?_)
 refine AOps.nil ?_
 change AWP _ _ _ _ _ _
 refine AWP.seq ?_
 refine AWP.frzP 2 h15 z6 rfl m16 fun H17 m18 k19 => ?_
 have h20 := (k19 _ (Ne.symm e13)).trans h11
 refine AWP.frzP 3 h20 z14 rfl m18 fun H21 m22 k23 => ?_
 refine AWP.region (l := [0, 1, 2, 3, 4, 5, 6, 7, 8, 9, 10, 11]) rfl ?_
 refine AOps.cons rfl rfl (AOp.loadF (.agg [.int .i64 o.X, .int .i64 o.Y, .int .i64 o.Z]) rfl rfl ty_24 rfl ?_)
 refine AOps.cons rfl rfl (AOp.pcall («as» := [.agg [.int .i64 o.X, .int .i64 o.Y, .int .i64 o.Z], .int .i64 65536]) rfl rfl (rfl) tf_21 (c_ref00_Within o 65536 (by omega)) ?_)
 intro H24 m25
 have m26 := m22.trans m25
 refine AOps.cons rfl rfl (AOp.move (.bool (R_ref00_Within o 65536)) rfl rfl ?_)
 rcases Bool.eq_false_or_eq_true (R_ref00_Within o 65536) with b27 | b27
 ·
  refine AOps.yes rfl rfl rfl rfl rfl rfl rfl b27 (AOp.loadF (.agg [.int .i64 d.X, .int .i64 d.Y, .int .i64 d.Z]) rfl rfl ty_24 rfl ?_)
  refine AOps.yes rfl rfl rfl rfl rfl rfl rfl b27 (AOp.pcall («as» := [.agg [.int .i64 d.X, .int .i64 d.Y, .int .i64 d.Z], .int .i64 32768]) rfl rfl (rfl) tf_21 (c_ref00_Within d 32768 (by omega)) ?_)
  intro H28 m29
  have m30 := m26.trans m29
  refine AOps.cons rfl rfl (AOp.pickT (.bool (R_ref00_Within d 32768)) rfl rfl b27 rfl ?_)
  refine AOps.cons rfl rfl (AOp.move (.bool (R_ref00_Within d 32768)) rfl rfl ?_)
  rcases Bool.eq_false_or_eq_true (R_ref00_Within d 32768) with b31 | b31
  ·
   refine AOps.yes rfl rfl rfl rfl rfl rfl rfl b31 (AOp.loadF (.agg [.int .i64 d.X, .int .i64 d.Y, .int .i64 d.Z]) rfl rfl ty_24 rfl ?_)
   refine AOps.yes rfl rfl rfl rfl rfl rfl rfl b31 (AOp.build (cells := [.int .i64 0, .int .i64 0, .int .i64 0]) rfl tz_24 pl_24 rfl rfl ?_)
   refine AOps.yes rfl rfl rfl rfl rfl rfl rfl b31 (AOp.neAggD rfl rfl rfl teq24 (kokV (v := d) hd) (kokV (v := (VT.mk 0 0 0)) (by refine ⟨?_, ?_, ?_⟩ <;> (unfold inR; constructor <;> decide))) (eV_iff d (VT.mk 0 0 0)) ?_)
   refine AOps.cons rfl rfl (AOp.pickT (.bool (!decide (d = (VT.mk 0 0 0)))) rfl rfl b31 rfl ?_)
   refine AOps.cons rfl rfl (AOp.assign (.bool (!decide (d = (VT.mk 0 0 0)))) rfl rfl ?_)
   refine AOps.nil ?_
   change AWP _ _ _ _ _ _
   refine AWP.ret ?_
   refine ⟨_, _, Ghost.refl, .inr rfl, _, Res.one rfl rfl, ?_, m30⟩
   have hR : R_ref03_Line o d = !decide (d = (VT.mk 0 0 0)) := by unfold R_ref03_Line; rw [if_pos b27, if_pos b31]
   exact (congrArg (fun r : Bool => (.bool r : AV)) hR).symm
  ·
   refine AOps.no rfl rfl rfl rfl rfl rfl rfl (ble_of b31 (by decide)) ?_
   refine AOps.no rfl rfl rfl rfl rfl rfl rfl (ble_of b31 (by decide)) ?_
   refine AOps.no rfl rfl rfl rfl rfl rfl rfl (ble_of b31 (by decide)) ?_
   refine AOps.cons rfl rfl (AOp.pickF (.bool false) rfl rfl b31 rfl ?_)
   refine AOps.cons rfl rfl (AOp.assign (.bool false) rfl rfl ?_)
   refine AOps.nil ?_
   change AWP _ _ _ _ _ _
   refine AWP.ret ?_
   refine ⟨_, _, Ghost.refl, .inr rfl, _, Res.one rfl rfl, ?_, m30⟩
   have hR : R_ref03_Line o d = false := by unfold R_ref03_Line; rw [if_pos b27, if_neg (ff b31)]
   exact (congrArg (fun r : Bool => (.bool r : AV)) hR).symm
 ·
  refine AOps.no rfl rfl rfl rfl rfl rfl rfl (ble_of b27 (by decide)) ?_
  refine AOps.no rfl rfl rfl rfl rfl rfl rfl (ble_of b27 (by decide)) ?_
  refine AOps.cons rfl rfl (AOp.pickF (.bool false) rfl rfl b27 rfl ?_)
  refine AOps.cons rfl rfl (AOp.move (.bool false) rfl rfl ?_)
  refine AOps.no rfl rfl rfl rfl rfl rfl rfl (ble_of rfl (by decide)) ?_
  refine AOps.no rfl rfl rfl rfl rfl rfl rfl (ble_of rfl (by decide)) ?_
  refine AOps.no rfl rfl rfl rfl rfl rfl rfl (ble_of rfl (by decide)) ?_
  refine AOps.cons rfl rfl (AOp.pickF (.bool false) rfl rfl rfl rfl ?_)
  refine AOps.cons rfl rfl (AOp.assign (.bool false) rfl rfl ?_)
  refine AOps.nil ?_
  change AWP _ _ _ _ _ _
  refine AWP.ret ?_
  refine ⟨_, _, Ghost.refl, .inr rfl, _, Res.one rfl rfl, ?_, m26⟩
  have hR : R_ref03_Line o d = false := by unfold R_ref03_Line; rw [if_neg (ff b27)]
  exact (congrArg (fun r : Bool => (.bool r : AV)) hR).symm
end Go.Proofs.B
namespace Go.Proofs.B
open Go Go.AH Go.Maps
set_option maxRecDepth 4000
theorem rwithin_iff {v : VT} {m : Int} : R_ref00_Within v m = true ↔ inSp m v := by
  unfold R_ref00_Within inSp
  repeat' split
  all_goals first | (simp only [decide_eq_true_eq]; omega) | (simp only [Bool.false_eq_true, false_iff]; omega)
theorem within_eq (v : VT) (m : Int) : R_ref00_Within v m = R_vec_Within v m := by
  have h1 := rwithin_iff (v := v) (m := m)
  have h2 := within_iff (a := v) (m := m)
  cases e1 : R_ref00_Within v m <;> cases e2 : R_vec_Within v m <;> simp_all
theorem line_eq (o d : VT) : R_ref03_Line o d = !badOD o d := by
  unfold R_ref03_Line badOD
  rw [within_eq, within_eq]
  cases R_vec_Within o 65536 <;> cases R_vec_Within d 32768 <;> simp
theorem line_T {o d : VT} (h : R_ref03_Line o d = true) : badOD o d = false ∧ inSp 65536 o ∧ inSp 32768 d := by
  rw [line_eq] at h
  have hb : badOD o d = false := by simpa using h
  refine ⟨hb, ?_, ?_⟩
  · unfold badOD at hb
    simp only [Bool.or_eq_false_iff, Bool.not_eq_false'] at hb
    exact within_iff.1 hb.1.2
  · unfold badOD at hb
    simp only [Bool.or_eq_false_iff, Bool.not_eq_false'] at hb
    exact within_iff.1 hb.2
theorem okR {o d : VT} {b : BoxT} (h : badOD o d = false) (h3 : inSp 131072 b.Lo) (h4 : inSp 131072 b.Hi) : (badOD o d || !boxIn b) = false := by
  rw [h]; unfold boxIn; rw [within_iff.2 h3, within_iff.2 h4]; rfl
theorem badR_eq (o d : VT) (b : BoxT) : (badOD o d || !boxIn b) = (!R_ref03_Line o d || !R_ref00_Within b.Lo 131072 || !R_ref00_Within b.Hi 131072) := by
  rw [line_eq, within_eq, within_eq]; unfold boxIn
  cases badOD o d <;> cases R_vec_Within b.Lo 131072 <;> cases R_vec_Within b.Hi 131072 <;> rfl
end Go.Proofs.B
namespace Go.Proofs.B
open Go Go.AH
set_option maxRecDepth 4000
set_option linter.unusedSimpArgs false
set_option linter.unusedVariables false
theorem c_rRange (o d : VT) (b : BoxT) (ho : ranV d) : PC Try.prog 23 [.agg [.int .i64 o.X, .int .i64 o.Y, .int .i64 o.Z], .agg [.int .i64 d.X, .int .i64 d.Y, .int .i64 d.Z], .agg [.int .i64 b.Lo.X, .int .i64 b.Lo.Y, .int .i64 b.Lo.Z, .int .i64 b.Hi.X, .int .i64 b.Hi.Y, .int .i64 b.Hi.Z]] (.tup [.agg [.int .i64 (((rangeF o d b).1).N), .int .i64 (((rangeF o d b).1).D)], .agg [.int .i64 (((rangeF o d b).2.1).N), .int .i64 (((rangeF o d b).2.1).D)], .bool ((rangeF o d b).2.2.1), .int .i64 ((rangeF o d b).2.2.2)]) := by
 intro H0
 refine ACalls.of_body' (n := 173) rfl rfl rfl rfl ?_
 have m0 := Mono.refl H0
 refine AWP.seq ?_
 refine AWP.region (l := [0, 1, 2, 3, 4, 5, 6]) rfl ?_
 refine AOps.cons rfl rfl (AOp.box (.agg [.int .i64 o.X, .int .i64 o.Y, .int .i64 o.Z]) rfl rfl rfl ?_)
 intro i1 H2 n3 h4 k5
 have z6 := Mono.free m0 n3
 have m7 := Mono.new m0 n3 k5
 refine AOps.cons rfl rfl (AOp.box (.agg [.int .i64 d.X, .int .i64 d.Y, .int .i64 d.Z]) rfl rfl rfl ?_)
 intro i8 H9 n10 h11 k12
 have e13 := ne_new h4 n10
 have z14 := Mono.free m7 n10
 have h15 := keep k12 (ne_new h4 n10) h4
 have m16 := Mono.new m7 n10 k12
 refine AOps.cons rfl rfl (AOp.box (.agg [.int .i64 b.Lo.X, .int .i64 b.Lo.Y, .int .i64 b.Lo.Z, .int .i64 b.Hi.X, .int .i64 b.Hi.Y, .int .i64 b.Hi.Z]) rfl rfl rfl ?_)
 intro i17 H18 n19 h20 k21
 have e22 := ne_new h15 n19
 have e23 := ne_new h11 n19
 have z24 := Mono.free m16 n19
 have h25 := keep k21 (ne_new h15 n19) h15
 have h26 := keep k21 (ne_new h11 n19) h11
 have m27 := Mono.new m16 n19 k21
 refine AOps.cons rfl rfl (AOp.alloc rfl tz_46 ?_)
 intro i28 H29 n30 h31 k32
 have e33 := ne_new h25 n30
 have e34 := ne_new h26 n30
 have e35 := ne_new h20 n30
 have z36 := Mono.free m27 n30
 have h37 := keep k32 (ne_new h25 n30) h25
 have h38 := keep k32 (ne_new h26 n30) h26
 have h39 := keep k32 (ne_new h20 n30) h20
 have m40 := Mono.new m27 n30 k32
 refine AOps.cons rfl rfl (AOp.alloc rfl tz_46 ?_)
 intro i41 H42 n43 h44 k45
 have e46 := ne_new h37 n43
 have e47 := ne_new h38 n43
 have e48 := ne_new h39 n43
 have e49 := ne_new h31 n43
 have z50 := Mono.free m40 n43
 have h51 := keep k45 (ne_new h37 n43) h37
 have h52 := keep k45 (ne_new h38 n43) h38
 have h53 := keep k45 (ne_new h39 n43) h39
 have h54 := keep k45 (ne_new h31 n43) h31
 have m55 := Mono.new m40 n43 k45
 refine AOps.cons rfl rfl (AOp.assign (.bool false) rfl rfl ?_)
 refine AOps.cons rfl rfl (AOp.assign (.int .i64 0) rfl rfl ?_)
 refine AOps.nil ?_
 change AWP _ _ _ _ _ _
 refine AWP.seq ?_
 refine AWP.seq ?_
 refine AWP.frzP 3 h51 z6 rfl m55 fun H56 m57 k58 => ?_
 have h59 := (k58 _ (Ne.symm e13)).trans h52
 have h60 := (k58 _ (Ne.symm e22)).trans h53
 have h61 := (k58 _ (Ne.symm e33)).trans h54
 have h62 := (k58 _ (Ne.symm e46)).trans h44
 refine AWP.frzP 4 h59 z14 rfl m57 fun H63 m64 k65 => ?_
 have h66 := (k65 _ (Ne.symm e23)).trans h60
 have h67 := (k65 _ (Ne.symm e34)).trans h61
 have h68 := (k65 _ (Ne.symm e47)).trans h62
 refine AWP.frzP 5 h66 z24 rfl m64 fun H69 m70 k71 => ?_
 have h72 := (k71 _ (Ne.symm e35)).trans h67
 have h73 := (k71 _ (Ne.symm e48)).trans h68
 refine AWP.region (l := [0, 1, 2, 3, 4, 5, 6, 7, 8, 9, 10, 11, 12, 13, 14, 15]) rfl ?_
 refine AOps.cons rfl rfl (AOp.loadF (.agg [.int .i64 o.X, .int .i64 o.Y, .int .i64 o.Z]) rfl rfl ty_24 rfl ?_)
 refine AOps.cons rfl rfl (AOp.loadF (.agg [.int .i64 d.X, .int .i64 d.Y, .int .i64 d.Z]) rfl rfl ty_24 rfl ?_)
 refine AOps.cons rfl rfl (AOp.pcall («as» := [.agg [.int .i64 o.X, .int .i64 o.Y, .int .i64 o.Z], .agg [.int .i64 d.X, .int .i64 d.Y, .int .i64 d.Z]]) rfl rfl (rfl) tf_37 (c_ref03_Line o d (by assumption)) ?_)
 intro H74 m75
 have h76 := m75 _ _ h72
 have h77 := m75 _ _ h73
 have m78 := m70.trans m75
 refine AOps.cons rfl rfl (AOp.not rfl rfl ?_)
 refine AOps.cons rfl rfl (AOp.move (.bool (!(R_ref03_Line o d))) rfl rfl ?_)
 rcases Bool.eq_false_or_eq_true (R_ref03_Line o d) with b79 | b79
 ·
  refine AOps.yes rfl rfl rfl rfl rfl rfl rfl (nb b79) (AOp.fieldAddrF rfl rfl fl_37_0 ?_)
  refine AOps.yes rfl rfl rfl rfl rfl rfl rfl (nb b79) (AOp.loadF (.agg [.int .i64 b.Lo.X, .int .i64 b.Lo.Y, .int .i64 b.Lo.Z]) rfl rfl ty_24 rfl ?_)
  refine AOps.yes rfl rfl rfl rfl rfl rfl rfl (nb b79) (AOp.pcall («as» := [.agg [.int .i64 b.Lo.X, .int .i64 b.Lo.Y, .int .i64 b.Lo.Z], .int .i64 131072]) rfl rfl (rfl) tf_21 (c_ref00_Within b.Lo 131072 (by omega)) ?_)
  intro H80 m81
  have h82 := m81 _ _ h76
  have h83 := m81 _ _ h77
  have m84 := m78.trans m81
  refine AOps.yes rfl rfl rfl rfl rfl rfl rfl (nb b79) (AOp.not rfl rfl ?_)
  refine AOps.cons rfl rfl (AOp.pickF (.bool (!(R_ref00_Within b.Lo 131072))) rfl rfl (nb b79) rfl ?_)
  refine AOps.cons rfl rfl (AOp.move (.bool (!(R_ref00_Within b.Lo 131072))) rfl rfl ?_)
  rcases Bool.eq_false_or_eq_true (R_ref00_Within b.Lo 131072) with b85 | b85
  ·
   refine AOps.yes rfl rfl rfl rfl rfl rfl rfl (nb b85) (AOp.fieldAddrF rfl rfl fl_37_1 ?_)
   refine AOps.yes rfl rfl rfl rfl rfl rfl rfl (nb b85) (AOp.loadF (.agg [.int .i64 b.Hi.X, .int .i64 b.Hi.Y, .int .i64 b.Hi.Z]) rfl rfl ty_24 rfl ?_)
   refine AOps.yes rfl rfl rfl rfl rfl rfl rfl (nb b85) (AOp.pcall («as» := [.agg [.int .i64 b.Hi.X, .int .i64 b.Hi.Y, .int .i64 b.Hi.Z], .int .i64 131072]) rfl rfl (rfl) tf_21 (c_ref00_Within b.Hi 131072 (by omega)) ?_)
   intro H86 m87
   have h88 := m87 _ _ h82
   have h89 := m87 _ _ h83
   have m90 := m84.trans m87
   refine AOps.yes rfl rfl rfl rfl rfl rfl rfl (nb b85) (AOp.not rfl rfl ?_)
   refine AOps.cons rfl rfl (AOp.pickF (.bool (!(R_ref00_Within b.Hi 131072))) rfl rfl (nb b85) rfl ?_)
   refine AOps.nil ?_
   change AWP _ _ _ _ _ _
   rcases Bool.eq_false_or_eq_true (R_ref00_Within b.Hi 131072) with b91 | b91
   ·
    refine AWP.condF rfl (nb b91) ?_
    refine AWP.skip ?_
    change AWP _ _ _ _ _ _
    refine AWP.seq ?_
    obtain ⟨gb, g1, g2⟩ := line_T b79
    have g3 := rwithin_iff.1 b85
    have g4 := rwithin_iff.1 b91
    skip
    refine AWP.region (l := [0, 1, 2, 3, 4, 5, 6, 7, 8]) rfl ?_
    refine AOps.cons rfl rfl (AOp.fieldAddrF rfl rfl fl_24_0 ?_)
    refine AOps.cons rfl rfl (AOp.loadF (.int .i64 o.X) rfl rfl ty_3 rfl ?_)
    refine AOps.cons rfl rfl (AOp.fieldAddrF rfl rfl fl_24_1 ?_)
    refine AOps.cons rfl rfl (AOp.loadF (.int .i64 o.Y) rfl rfl ty_3 rfl ?_)
    refine AOps.cons rfl rfl (AOp.fieldAddrF rfl rfl fl_24_2 ?_)
    refine AOps.cons rfl rfl (AOp.loadF (.int .i64 o.Z) rfl rfl ty_3 rfl ?_)
    refine AOps.cons rfl rfl (AOp.build (cells := [.int .i64 o.X, .int .i64 o.Y, .int .i64 o.Z]) rfl tz_70 pl_70 rfl rfl ?_)
    refine AOps.cons rfl rfl (AOp.alloc rfl tz_70 ?_)
    intro i92 H93 n94 h95 k96
    have e97 := ne_new h88 n94
    have e98 := ne_new h89 n94
    have z99 := Mono.free m90 n94
    have h100 := keep k96 (ne_new h88 n94) h88
    have h101 := keep k96 (ne_new h89 n94) h89
    have m102 := Mono.new m90 n94 k96
    refine AOps.cons rfl rfl (AOp.store' (cells' := [.int .i64 o.X, .int .i64 o.Y, .int .i64 o.Z]) (.agg [.int .i64 o.X, .int .i64 o.Y, .int .i64 o.Z]) rfl rfl ts_70 h95 rfl rfl rfl rfl ?_)
    intro H103 h104 k105
    have h106 := keep k105 e97 h100
    have h107 := keep k105 e98 h101
    have m109 := Mono.set m102 z99 k105
    refine AOps.nil ?_
    change AWP _ _ _ _ _ _
    refine AWP.seq ?_
    refine AWP.frzP 10 h104 z99 rfl m109 fun H110 m111 k112 => ?_
    have h113 := (k112 _ e97).trans h106
    have h114 := (k112 _ e98).trans h107
    refine AWP.region (l := [0, 1, 2, 3, 4, 5, 6, 7, 8]) rfl ?_
    refine AOps.cons rfl rfl (AOp.fieldAddrF rfl rfl fl_24_0 ?_)
    refine AOps.cons rfl rfl (AOp.loadF (.int .i64 d.X) rfl rfl ty_3 rfl ?_)
    refine AOps.cons rfl rfl (AOp.fieldAddrF rfl rfl fl_24_1 ?_)
    refine AOps.cons rfl rfl (AOp.loadF (.int .i64 d.Y) rfl rfl ty_3 rfl ?_)
    refine AOps.cons rfl rfl (AOp.fieldAddrF rfl rfl fl_24_2 ?_)
    refine AOps.cons rfl rfl (AOp.loadF (.int .i64 d.Z) rfl rfl ty_3 rfl ?_)
    refine AOps.cons rfl rfl (AOp.build (cells := [.int .i64 d.X, .int .i64 d.Y, .int .i64 d.Z]) rfl tz_70 pl_70 rfl rfl ?_)
    refine AOps.cons rfl rfl (AOp.alloc rfl tz_70 ?_)
    intro i115 H116 n117 h118 k119
    have e120 := ne_new h113 n117
    have e121 := ne_new h114 n117
    have z122 := Mono.free m111 n117
    have h123 := keep k119 (ne_new h113 n117) h113
    have h124 := keep k119 (ne_new h114 n117) h114
    have m125 := Mono.new m111 n117 k119
    refine AOps.cons rfl rfl (AOp.store' (cells' := [.int .i64 d.X, .int .i64 d.Y, .int .i64 d.Z]) (.agg [.int .i64 d.X, .int .i64 d.Y, .int .i64 d.Z]) rfl rfl ts_70 h118 rfl rfl rfl rfl ?_)
    intro H126 h127 k128
    have h129 := keep k128 e120 h123
    have h130 := keep k128 e121 h124
    have m132 := Mono.set m125 z122 k128
    refine AOps.nil ?_
    change AWP _ _ _ _ _ _
    refine AWP.seq ?_
    refine AWP.frzP 11 h127 z122 rfl m132 fun H133 m134 k135 => ?_
    have h136 := (k135 _ e120).trans h129
    have h137 := (k135 _ e121).trans h130
    refine AWP.region (l := [0, 1, 2, 3, 4, 5, 6, 7, 8, 9, 10, 11]) rfl ?_
    refine AOps.cons rfl rfl (AOp.fieldAddrF rfl rfl fl_37_0 ?_)
    refine AOps.cons rfl rfl (AOp.fieldAddrF rfl rfl fl_24_0 ?_)
    refine AOps.cons rfl rfl (AOp.loadF (.int .i64 b.Lo.X) rfl rfl ty_3 rfl ?_)
    refine AOps.cons rfl rfl (AOp.fieldAddrF rfl rfl fl_37_0 ?_)
    refine AOps.cons rfl rfl (AOp.fieldAddrF rfl rfl fl_24_1 ?_)
    refine AOps.cons rfl rfl (AOp.loadF (.int .i64 b.Lo.Y) rfl rfl ty_3 rfl ?_)
    refine AOps.cons rfl rfl (AOp.fieldAddrF rfl rfl fl_37_0 ?_)
    refine AOps.cons rfl rfl (AOp.fieldAddrF rfl rfl fl_24_2 ?_)
    refine AOps.cons rfl rfl (AOp.loadF (.int .i64 b.Lo.Z) rfl rfl ty_3 rfl ?_)
    refine AOps.cons rfl rfl (AOp.build (cells := [.int .i64 b.Lo.X, .int .i64 b.Lo.Y, .int .i64 b.Lo.Z]) rfl tz_70 pl_70 rfl rfl ?_)
    refine AOps.cons rfl rfl (AOp.alloc rfl tz_70 ?_)
    intro i138 H139 n140 h141 k142
    have e143 := ne_new h136 n140
    have e144 := ne_new h137 n140
    have z145 := Mono.free m134 n140
    have h146 := keep k142 (ne_new h136 n140) h136
    have h147 := keep k142 (ne_new h137 n140) h137
    have m148 := Mono.new m134 n140 k142
    refine AOps.cons rfl rfl (AOp.store' (cells' := [.int .i64 b.Lo.X, .int .i64 b.Lo.Y, .int .i64 b.Lo.Z]) (.agg [.int .i64 b.Lo.X, .int .i64 b.Lo.Y, .int .i64 b.Lo.Z]) rfl rfl ts_70 h141 rfl rfl rfl rfl ?_)
    intro H149 h150 k151
    have h152 := keep k151 e143 h146
    have h153 := keep k151 e144 h147
    have m155 := Mono.set m148 z145 k151
    refine AOps.nil ?_
    change AWP _ _ _ _ _ _
    refine AWP.seq ?_
    refine AWP.frzP 12 h150 z145 rfl m155 fun H156 m157 k158 => ?_
    have h159 := (k158 _ e143).trans h152
    have h160 := (k158 _ e144).trans h153
    refine AWP.region (l := [0, 1, 2, 3, 4, 5, 6, 7, 8, 9, 10, 11]) rfl ?_
    refine AOps.cons rfl rfl (AOp.fieldAddrF rfl rfl fl_37_1 ?_)
    refine AOps.cons rfl rfl (AOp.fieldAddrF rfl rfl fl_24_0 ?_)
    refine AOps.cons rfl rfl (AOp.loadF (.int .i64 b.Hi.X) rfl rfl ty_3 rfl ?_)
    refine AOps.cons rfl rfl (AOp.fieldAddrF rfl rfl fl_37_1 ?_)
    refine AOps.cons rfl rfl (AOp.fieldAddrF rfl rfl fl_24_1 ?_)
    refine AOps.cons rfl rfl (AOp.loadF (.int .i64 b.Hi.Y) rfl rfl ty_3 rfl ?_)
    refine AOps.cons rfl rfl (AOp.fieldAddrF rfl rfl fl_37_1 ?_)
    refine AOps.cons rfl rfl (AOp.fieldAddrF rfl rfl fl_24_2 ?_)
    refine AOps.cons rfl rfl (AOp.loadF (.int .i64 b.Hi.Z) rfl rfl ty_3 rfl ?_)
    refine AOps.cons rfl rfl (AOp.build (cells := [.int .i64 b.Hi.X, .int .i64 b.Hi.Y, .int .i64 b.Hi.Z]) rfl tz_70 pl_70 rfl rfl ?_)
    refine AOps.cons rfl rfl (AOp.alloc rfl tz_70 ?_)
    intro i161 H162 n163 h164 k165
    have e166 := ne_new h159 n163
    have e167 := ne_new h160 n163
    have z168 := Mono.free m157 n163
    have h169 := keep k165 (ne_new h159 n163) h159
    have h170 := keep k165 (ne_new h160 n163) h160
    have m171 := Mono.new m157 n163 k165
    refine AOps.cons rfl rfl (AOp.store' (cells' := [.int .i64 b.Hi.X, .int .i64 b.Hi.Y, .int .i64 b.Hi.Z]) (.agg [.int .i64 b.Hi.X, .int .i64 b.Hi.Y, .int .i64 b.Hi.Z]) rfl rfl ts_70 h164 rfl rfl rfl rfl ?_)
    intro H172 h173 k174
    have h175 := keep k174 e166 h169
    have h176 := keep k174 e167 h170
    have m178 := Mono.set m171 z168 k174
    refine AOps.nil ?_
    change AWP _ _ _ _ _ _
    refine AWP.seq ?_
    refine AWP.frzP 13 h173 z168 rfl m178 fun H179 m180 k181 => ?_
    have h182 := (k181 _ e166).trans h175
    have h183 := (k181 _ e167).trans h176
    refine AWP.region (l := [0, 1, 2]) rfl ?_
    refine AOps.cons rfl rfl (AOp.build (cells := [.int .i64 0, .int .i64 1]) rfl tz_46 pl_46 rfl rfl ?_)
    refine AOps.cons rfl rfl (AOp.alloc rfl tz_46 ?_)
    intro i184 H185 n186 h187 k188
    have e189 := ne_new h182 n186
    have e190 := ne_new h183 n186
    have z191 := Mono.free m180 n186
    have h192 := keep k188 (ne_new h182 n186) h182
    have h193 := keep k188 (ne_new h183 n186) h183
    have m194 := Mono.new m180 n186 k188
    refine AOps.cons rfl rfl (AOp.store' (cells' := [.int .i64 0, .int .i64 1]) (.agg [.int .i64 0, .int .i64 1]) rfl rfl ts_46 h187 rfl rfl rfl rfl ?_)
    intro H195 h196 k197
    have h198 := keep k197 e189 h192
    have h199 := keep k197 e190 h193
    have m201 := Mono.set m194 z191 k197
    refine AOps.nil ?_
    change AWP _ _ _ _ _ _
    refine AWP.seq ?_
    refine AWP.region (l := [0, 1, 2]) rfl ?_
    refine AOps.cons rfl rfl (AOp.build (cells := [.int .i64 1, .int .i64 0]) rfl tz_46 pl_46 rfl rfl ?_)
    refine AOps.cons rfl rfl (AOp.alloc rfl tz_46 ?_)
    intro i202 H203 n204 h205 k206
    have e207 := ne_new h198 n204
    have e208 := ne_new h199 n204
    have e209 := ne_new h196 n204
    have z210 := Mono.free m201 n204
    have h211 := keep k206 (ne_new h198 n204) h198
    have h212 := keep k206 (ne_new h199 n204) h199
    have h213 := keep k206 (ne_new h196 n204) h196
    have m214 := Mono.new m201 n204 k206
    refine AOps.cons rfl rfl (AOp.store' (cells' := [.int .i64 1, .int .i64 0]) (.agg [.int .i64 1, .int .i64 0]) rfl rfl ts_46 h205 rfl rfl rfl rfl ?_)
    intro H215 h216 k217
    have h218 := keep k217 e207 h211
    have h219 := keep k217 e208 h212
    have h220 := keep k217 e209 h213
    have m222 := Mono.set m214 z210 k217
    refine AOps.nil ?_
    change AWP _ _ _ _ _ _
    refine AWP.seq ?_
    refine AWP.seq ?_
    refine AWP.region (l := [0]) rfl ?_
    refine AOps.cons rfl rfl (AOp.assign (.int .i64 0) rfl rfl ?_)
    refine AOps.nil ?_
    change AWP _ _ _ _ _ _
    refine AWP.block ?_
    refine AWP.loop (fun q223 fq Hq => ∃ (i : Int) (lo : FracT) (hi : FracT), q223 = ((3 : Int) - i).toNat ∧ fq 16 = .int .i64 i ∧ fq 6 = .ptr i28 0 0 ∧ fq 7 = .ptr i41 0 0 ∧ fq 10 = .fptr [.int .i64 o.X, .int .i64 o.Y, .int .i64 o.Z] 0 ∧ fq 11 = .fptr [.int .i64 d.X, .int .i64 d.Y, .int .i64 d.Z] 0 ∧ fq 12 = .fptr [.int .i64 b.Lo.X, .int .i64 b.Lo.Y, .int .i64 b.Lo.Z] 0 ∧ fq 13 = .fptr [.int .i64 b.Hi.X, .int .i64 b.Hi.Y, .int .i64 b.Hi.Z] 0 ∧ fq 14 = .ptr i184 0 0 ∧ fq 15 = .ptr i202 0 0 ∧ Hq i28 = some (.row 0 ([.int .i64 0, .int .i64 0])) ∧ Hq i41 = some (.row 0 ([.int .i64 0, .int .i64 0])) ∧ Hq i184 = some (.row 0 ([.int .i64 lo.N, .int .i64 lo.D])) ∧ Hq i202 = some (.row 0 ([.int .i64 hi.N, .int .i64 hi.D])) ∧ Mono H0 Hq ∧ (0 ≤ i) ∧ (i ≤ 3) ∧ (RgI ([PartT.mk o.X d.X b.Lo.X b.Hi.X, PartT.mk o.Y d.Y b.Lo.Y b.Hi.Y, PartT.mk o.Z d.Z b.Lo.Z b.Hi.Z] : List PartT) i lo hi (foldRng ([PartT.mk o.X d.X b.Lo.X b.Hi.X, PartT.mk o.Y d.Y b.Lo.Y b.Hi.Y, PartT.mk o.Z d.Z b.Lo.Z b.Hi.Z] : List PartT) (⟨0, 1⟩, ⟨1, 0⟩))) ∧ ((-1048576 ≤ lo.N ∧ lo.N ≤ 1048576) ∧ -1048576 ≤ lo.D ∧ lo.D ≤ 1048576) ∧ ((-1048576 ≤ hi.N ∧ hi.N ≤ 1048576) ∧ -1048576 ≤ hi.D ∧ hi.D ≤ 1048576)) (k := ((3 : Int) - 0).toNat) ?_ ?_
    ·
     exact ⟨0, (FracT.mk 0 1), (FracT.mk 1 0), rfl, rfl, rfl, rfl, rfl, rfl, rfl, rfl, rfl, rfl, h218, h219, h220, h216, m222, by omega, by omega, by exact ⟨rfl, by simp [Pos], by simp [Up], by simp⟩, by simp, by simp⟩
    ·
     rintro _ f225 H224 ⟨i, lo, hi, rfl, s226, s227, s228, s229, s230, s231, s232, s233, s234, h235, h236, h237, h238, m239, hi0, hi1, hR, hls, hhs⟩
     refine AWP.seq ?_
     refine AWP.seq ?_
     refine AWP.region (l := [0, 1]) rfl ?_
     refine AOps.cons rfl rfl (AOp.move (.int .i64 i) rfl s226 ?_)
     refine AOps.cons rfl rfl (AOp.bin (.bool (decide (i < 3))) rfl rfl rfl rfl ?_)
     refine AOps.nil ?_
     change AWP _ _ _ _ _ _
     by_cases b240 : i < 3
     ·
      refine AWP.condT rfl (decide_eq_true b240) ?_
      refine AWP.skip ?_
      change AWP _ _ _ _ _ _
      refine AWP.seq ?_
      refine AWP.block ?_
      refine AWP.seq ?_
      refine AWP.seq ?_
      have hpr := rparts_rng g1 g2 g3 g4 hi0 (by omega)
      dsimp only [ranP] at hpr
      refine AWP.region_quiet mixed (by kernel_rfl) 7 [] rfl (by kernel_rfl) (Mono H224) (Mono.refl _) ?_
      refine QE.op rfl rfl (.inl ⟨rfl, fun f' H' hf hM => AOp.move (.int .i64 i) rfl ((hf 16 rfl).trans s226) ⟨rfl, hM⟩⟩) ?_
      refine QE.op rfl rfl (.inl ⟨rfl, fun f' H' hf hM => AOp.indexAddrFA rfl ((hf 12 rfl).trans s231) ((hf 77 rfl).trans rfl) ar_70 (by omega) (by omega) ⟨rfl, hM⟩⟩) ?_
      refine QE.op rfl rfl (.inl ⟨rfl, fun f' H' hf hM => AOp.loadF (.int .i64 (at_ ([b.Lo.X, b.Lo.Y, b.Lo.Z] : List Int) i)) rfl ((hf 78 rfl).trans rfl) ty_3 (ld_off (o := 0 + i.toNat * 1) (by omega) (ld1 (i := i) (xs := ([b.Lo.X, b.Lo.Y, b.Lo.Z] : List Int)) (by omega) (by first | (have := (rfl : ([b.Lo.X, b.Lo.Y, b.Lo.Z] : List Int).length = 3); omega) | (simp; omega)))) ⟨rfl, hM⟩⟩) ?_
      refine QE.op rfl rfl (.inl ⟨rfl, fun f' H' hf hM => AOp.move (.int .i64 i) rfl ((hf 16 rfl).trans s226) ⟨rfl, hM⟩⟩) ?_
      refine QE.op rfl rfl (.inl ⟨rfl, fun f' H' hf hM => AOp.indexAddrFA rfl ((hf 13 rfl).trans s232) ((hf 80 rfl).trans rfl) ar_70 (by omega) (by omega) ⟨rfl, hM⟩⟩) ?_
      refine QE.op rfl rfl (.inl ⟨rfl, fun f' H' hf hM => AOp.loadF (.int .i64 (at_ ([b.Hi.X, b.Hi.Y, b.Hi.Z] : List Int) i)) rfl ((hf 81 rfl).trans rfl) ty_3 (ld_off (o := 0 + i.toNat * 1) (by omega) (ld1 (i := i) (xs := ([b.Hi.X, b.Hi.Y, b.Hi.Z] : List Int)) (by omega) (by first | (have := (rfl : ([b.Hi.X, b.Hi.Y, b.Hi.Z] : List Int).length = 3); omega) | (simp; omega)))) ⟨rfl, hM⟩⟩) ?_
      refine QE.op rfl rfl (.inl ⟨rfl, fun f' H' hf hM => AOp.bin (.bool (decide (at_ ([b.Lo.X, b.Lo.Y, b.Lo.Z] : List Int) i > at_ ([b.Hi.X, b.Hi.Y, b.Hi.Z] : List Int) i))) rfl ((hf 79 rfl).trans rfl) ((hf 82 rfl).trans rfl) rfl ⟨rfl, hM⟩⟩) ?_
      refine QE.done fun H241 m242 => ?_
      have h243 := m242 _ _ h235
      have h244 := m242 _ _ h236
      have h245 := m242 _ _ h237
      have h246 := m242 _ _ h238
      have m247 := m239.trans m242
      refine AOps.nil ?_
      change AWP _ _ _ _ _ _
      by_cases b248 : at_ ([b.Lo.X, b.Lo.Y, b.Lo.Z] : List Int) i > at_ ([b.Hi.X, b.Hi.Y, b.Hi.Z] : List Int) i
      ·
       refine AWP.condT rfl (decide_eq_true b248) ?_
       refine AWP.seq ?_
       refine AWP.region (l := [0, 1, 2, 3, 4, 5]) rfl ?_
       refine AOps.cons rfl rfl (AOp.build (cells := [.int .i64 0, .int .i64 0]) rfl tz_46 pl_46 rfl rfl ?_)
       refine AOps.cons rfl rfl (AOp.build (cells := [.int .i64 0, .int .i64 0]) rfl tz_46 pl_46 rfl rfl ?_)
       refine AOps.cons rfl rfl (AOp.store' (cells' := [.int .i64 0, .int .i64 0]) (.agg [.int .i64 0, .int .i64 0]) s227 rfl ts_46 h243 rfl rfl rfl rfl ?_)
       intro H249 h250 k251
       have h253 := keep k251 (Ne.symm e49) h244
       have h254 := keep k251 (Ne.symm e189) h245
       have h255 := keep k251 (Ne.symm e207) h246
       have m256 := Mono.set m247 z36 k251
       refine AOps.cons rfl rfl (AOp.store' (cells' := [.int .i64 0, .int .i64 0]) (.agg [.int .i64 0, .int .i64 0]) s228 rfl ts_46 h253 rfl rfl rfl rfl ?_)
       intro H257 h258 k259
       have h261 := keep k259 (Ne.symm e190) h254
       have h262 := keep k259 (Ne.symm e208) h255
       have h263 := keep k259 e49 h250
       have m264 := Mono.set m256 z50 k259
       refine AOps.cons rfl rfl (AOp.assign (.bool false) rfl rfl ?_)
       refine AOps.cons rfl rfl (AOp.assign (.int .i64 0) rfl rfl ?_)
       refine AOps.nil ?_
       change AWP _ _ _ _ _ _
       refine AWP.ret ?_
       refine ⟨_, _, Ghost.refl, .inr rfl, _, Res.list rfl rfl (.cell (v := .agg [.int .i64 0, .int .i64 0]) s227 ty_46 h263 rfl (.cell (v := .agg [.int .i64 0, .int .i64 0]) s228 ty_46 h258 rfl (.tmp rfl (.tmp rfl (.nil))))), ?_, m264⟩
       exact congrArg AV.tup (lc (congrArg AV.agg (lc (congrArg (AV.int .i64) (show (0 : Int) = ((rangeF o d b).1).N from by rw [rangeF_ok (okR gb g3 g4), range_none (rf_stop hR.hf hi0 (by simp; omega) (part_at hi0 (by omega)) (sp_none b248))])) (lc (congrArg (AV.int .i64) (show (0 : Int) = ((rangeF o d b).1).D from by rw [rangeF_ok (okR gb g3 g4), range_none (rf_stop hR.hf hi0 (by simp; omega) (part_at hi0 (by omega)) (sp_none b248))])) rfl))) (lc (congrArg AV.agg (lc (congrArg (AV.int .i64) (show (0 : Int) = ((rangeF o d b).2.1).N from by rw [rangeF_ok (okR gb g3 g4), range_none (rf_stop hR.hf hi0 (by simp; omega) (part_at hi0 (by omega)) (sp_none b248))])) (lc (congrArg (AV.int .i64) (show (0 : Int) = ((rangeF o d b).2.1).D from by rw [rangeF_ok (okR gb g3 g4), range_none (rf_stop hR.hf hi0 (by simp; omega) (part_at hi0 (by omega)) (sp_none b248))])) rfl))) (lc (congrArg AV.bool (show (false : Bool) = (rangeF o d b).2.2.1 from by rw [rangeF_ok (okR gb g3 g4), range_none (rf_stop hR.hf hi0 (by simp; omega) (part_at hi0 (by omega)) (sp_none b248))])) (lc (congrArg (AV.int .i64) (show (0 : Int) = (rangeF o d b).2.2.2 from by rw [rangeF_ok (okR gb g3 g4), range_none (rf_stop hR.hf hi0 (by simp; omega) (part_at hi0 (by omega)) (sp_none b248))])) rfl))))
      ·
       refine AWP.condF rfl (decide_eq_false b248) ?_
       refine AWP.skip ?_
       change AWP _ _ _ _ _ _
       refine AWP.seq ?_
       refine AWP.seq ?_
       refine AWP.region (l := [0, 1, 2, 3]) rfl ?_
       refine AOps.cons rfl rfl (AOp.move (.int .i64 i) rfl s226 ?_)
       refine AOps.cons rfl rfl (AOp.indexAddrFA rfl s230 rfl ar_70 (by omega) (by omega) ?_)
       refine AOps.cons rfl rfl (AOp.loadF (.int .i64 (at_ ([d.X, d.Y, d.Z] : List Int) i)) rfl rfl ty_3 (ld_off (o := 0 + i.toNat * 1) (by omega) (ld1 (i := i) (xs := ([d.X, d.Y, d.Z] : List Int)) (by omega) (by first | (have := (rfl : ([d.X, d.Y, d.Z] : List Int).length = 3); omega) | (simp; omega)))) ?_)
       refine AOps.cons rfl rfl (AOp.bin (.bool (decide (at_ ([d.X, d.Y, d.Z] : List Int) i = 0))) rfl rfl rfl ieq ?_)
       refine AOps.nil ?_
       change AWP _ _ _ _ _ _
       by_cases b265 : at_ ([d.X, d.Y, d.Z] : List Int) i = 0
       ·
        refine AWP.condT rfl (decide_eq_true b265) ?_
        refine AWP.seq ?_
        refine AWP.seq ?_
        refine AWP.region_quiet mixed (by kernel_rfl) 16 [] rfl (by kernel_rfl) (Mono H241) (Mono.refl _) ?_
        refine QE.op rfl rfl (.inl ⟨rfl, fun f' H' hf hM => AOp.move (.int .i64 i) rfl ((hf 16 rfl).trans s226) ⟨rfl, hM⟩⟩) ?_
        refine QE.op rfl rfl (.inl ⟨rfl, fun f' H' hf hM => AOp.indexAddrFA rfl ((hf 10 rfl).trans s229) ((hf 90 rfl).trans rfl) ar_70 (by omega) (by omega) ⟨rfl, hM⟩⟩) ?_
        refine QE.op rfl rfl (.inl ⟨rfl, fun f' H' hf hM => AOp.loadF (.int .i64 (at_ ([o.X, o.Y, o.Z] : List Int) i)) rfl ((hf 91 rfl).trans rfl) ty_3 (ld_off (o := 0 + i.toNat * 1) (by omega) (ld1 (i := i) (xs := ([o.X, o.Y, o.Z] : List Int)) (by omega) (by first | (have := (rfl : ([o.X, o.Y, o.Z] : List Int).length = 3); omega) | (simp; omega)))) ⟨rfl, hM⟩⟩) ?_
        refine QE.op rfl rfl (.inl ⟨rfl, fun f' H' hf hM => AOp.move (.int .i64 i) rfl ((hf 16 rfl).trans s226) ⟨rfl, hM⟩⟩) ?_
        refine QE.op rfl rfl (.inl ⟨rfl, fun f' H' hf hM => AOp.indexAddrFA rfl ((hf 12 rfl).trans s231) ((hf 93 rfl).trans rfl) ar_70 (by omega) (by omega) ⟨rfl, hM⟩⟩) ?_
        refine QE.op rfl rfl (.inl ⟨rfl, fun f' H' hf hM => AOp.loadF (.int .i64 (at_ ([b.Lo.X, b.Lo.Y, b.Lo.Z] : List Int) i)) rfl ((hf 94 rfl).trans rfl) ty_3 (ld_off (o := 0 + i.toNat * 1) (by omega) (ld1 (i := i) (xs := ([b.Lo.X, b.Lo.Y, b.Lo.Z] : List Int)) (by omega) (by first | (have := (rfl : ([b.Lo.X, b.Lo.Y, b.Lo.Z] : List Int).length = 3); omega) | (simp; omega)))) ⟨rfl, hM⟩⟩) ?_
        refine QE.op rfl rfl (.inl ⟨rfl, fun f' H' hf hM => AOp.bin (.bool (decide (at_ ([o.X, o.Y, o.Z] : List Int) i < at_ ([b.Lo.X, b.Lo.Y, b.Lo.Z] : List Int) i))) rfl ((hf 92 rfl).trans rfl) ((hf 95 rfl).trans rfl) rfl ⟨rfl, hM⟩⟩) ?_
        refine QE.op rfl rfl (.inl ⟨rfl, fun f' H' hf hM => AOp.move (.bool (decide (at_ ([o.X, o.Y, o.Z] : List Int) i < at_ ([b.Lo.X, b.Lo.Y, b.Lo.Z] : List Int) i))) rfl ((hf 96 rfl).trans rfl) ⟨rfl, hM⟩⟩) ?_
        by_cases b266 : at_ ([o.X, o.Y, o.Z] : List Int) i < at_ ([b.Lo.X, b.Lo.Y, b.Lo.Z] : List Int) i
        ·
         refine QE.op rfl rfl (QOp.no rfl rfl rfl rfl (ble_of (decide_eq_true b266) (by decide)) rfl) ?_
         refine QE.op rfl rfl (QOp.no rfl rfl rfl rfl (ble_of (decide_eq_true b266) (by decide)) rfl) ?_
         refine QE.op rfl rfl (QOp.no rfl rfl rfl rfl (ble_of (decide_eq_true b266) (by decide)) rfl) ?_
         refine QE.op rfl rfl (QOp.no rfl rfl rfl rfl (ble_of (decide_eq_true b266) (by decide)) rfl) ?_
         refine QE.op rfl rfl (QOp.no rfl rfl rfl rfl (ble_of (decide_eq_true b266) (by decide)) rfl) ?_
         refine QE.op rfl rfl (QOp.no rfl rfl rfl rfl (ble_of (decide_eq_true b266) (by decide)) rfl) ?_
         refine QE.op rfl rfl (QOp.no rfl rfl rfl rfl (ble_of (decide_eq_true b266) (by decide)) rfl) ?_
         refine QE.op rfl rfl (.inl ⟨rfl, fun f' H' hf hM => AOp.pickT (.bool true) rfl ((hf 97 rfl).trans rfl) (decide_eq_true b266) rfl ⟨rfl, hM⟩⟩) ?_
         refine QE.done fun H267 m268 => ?_
         have h269 := m268 _ _ h243
         have h270 := m268 _ _ h244
         have h271 := m268 _ _ h245
         have h272 := m268 _ _ h246
         have m273 := m247.trans m268
         refine AOps.nil ?_
         change AWP _ _ _ _ _ _
         refine AWP.condT rfl rfl ?_
         refine AWP.seq ?_
         refine AWP.region (l := [0, 1, 2, 3, 4, 5]) rfl ?_
         refine AOps.cons rfl rfl (AOp.build (cells := [.int .i64 0, .int .i64 0]) rfl tz_46 pl_46 rfl rfl ?_)
         refine AOps.cons rfl rfl (AOp.build (cells := [.int .i64 0, .int .i64 0]) rfl tz_46 pl_46 rfl rfl ?_)
         refine AOps.cons rfl rfl (AOp.store' (cells' := [.int .i64 0, .int .i64 0]) (.agg [.int .i64 0, .int .i64 0]) s227 rfl ts_46 h269 rfl rfl rfl rfl ?_)
         intro H274 h275 k276
         have h278 := keep k276 (Ne.symm e49) h270
         have h279 := keep k276 (Ne.symm e189) h271
         have h280 := keep k276 (Ne.symm e207) h272
         have m281 := Mono.set m273 z36 k276
         refine AOps.cons rfl rfl (AOp.store' (cells' := [.int .i64 0, .int .i64 0]) (.agg [.int .i64 0, .int .i64 0]) s228 rfl ts_46 h278 rfl rfl rfl rfl ?_)
         intro H282 h283 k284
         have h286 := keep k284 (Ne.symm e190) h279
         have h287 := keep k284 (Ne.symm e208) h280
         have h288 := keep k284 e49 h275
         have m289 := Mono.set m281 z50 k284
         refine AOps.cons rfl rfl (AOp.assign (.bool false) rfl rfl ?_)
         refine AOps.cons rfl rfl (AOp.assign (.int .i64 0) rfl rfl ?_)
         refine AOps.nil ?_
         change AWP _ _ _ _ _ _
         refine AWP.ret ?_
         refine ⟨_, _, Ghost.refl, .inr rfl, _, Res.list rfl rfl (.cell (v := .agg [.int .i64 0, .int .i64 0]) s227 ty_46 h288 rfl (.cell (v := .agg [.int .i64 0, .int .i64 0]) s228 ty_46 h283 rfl (.tmp rfl (.tmp rfl (.nil))))), ?_, m289⟩
         exact congrArg AV.tup (lc (congrArg AV.agg (lc (congrArg (AV.int .i64) (show (0 : Int) = ((rangeF o d b).1).N from by rw [rangeF_ok (okR gb g3 g4), range_none (rf_stop hR.hf hi0 (by simp; omega) (part_at hi0 (by omega)) (sp_out b248 b265 (by first | omega | (simp only; omega))))])) (lc (congrArg (AV.int .i64) (show (0 : Int) = ((rangeF o d b).1).D from by rw [rangeF_ok (okR gb g3 g4), range_none (rf_stop hR.hf hi0 (by simp; omega) (part_at hi0 (by omega)) (sp_out b248 b265 (by first | omega | (simp only; omega))))])) rfl))) (lc (congrArg AV.agg (lc (congrArg (AV.int .i64) (show (0 : Int) = ((rangeF o d b).2.1).N from by rw [rangeF_ok (okR gb g3 g4), range_none (rf_stop hR.hf hi0 (by simp; omega) (part_at hi0 (by omega)) (sp_out b248 b265 (by first | omega | (simp only; omega))))])) (lc (congrArg (AV.int .i64) (show (0 : Int) = ((rangeF o d b).2.1).D from by rw [rangeF_ok (okR gb g3 g4), range_none (rf_stop hR.hf hi0 (by simp; omega) (part_at hi0 (by omega)) (sp_out b248 b265 (by first | omega | (simp only; omega))))])) rfl))) (lc (congrArg AV.bool (show (false : Bool) = (rangeF o d b).2.2.1 from by rw [rangeF_ok (okR gb g3 g4), range_none (rf_stop hR.hf hi0 (by simp; omega) (part_at hi0 (by omega)) (sp_out b248 b265 (by first | omega | (simp only; omega))))])) (lc (congrArg (AV.int .i64) (show (0 : Int) = (rangeF o d b).2.2.2 from by rw [rangeF_ok (okR gb g3 g4), range_none (rf_stop hR.hf hi0 (by simp; omega) (part_at hi0 (by omega)) (sp_out b248 b265 (by first | omega | (simp only; omega))))])) rfl))))
        ·
         refine QE.op rfl rfl (QOp.yes rfl rfl rfl rfl (decide_eq_false b266) fun f' H' hf hM => AOp.move (.int .i64 i) rfl ((hf 16 rfl).trans s226) ⟨rfl, hM⟩) ?_
         refine QE.op rfl rfl (QOp.yes rfl rfl rfl rfl (decide_eq_false b266) fun f' H' hf hM => AOp.indexAddrFA rfl ((hf 10 rfl).trans s229) ((hf 98 rfl).trans rfl) ar_70 (by omega) (by omega) ⟨rfl, hM⟩) ?_
         refine QE.op rfl rfl (QOp.yes rfl rfl rfl rfl (decide_eq_false b266) fun f' H' hf hM => AOp.loadF (.int .i64 (at_ ([o.X, o.Y, o.Z] : List Int) i)) rfl ((hf 99 rfl).trans rfl) ty_3 (ld_off (o := 0 + i.toNat * 1) (by omega) (ld1 (i := i) (xs := ([o.X, o.Y, o.Z] : List Int)) (by omega) (by first | (have := (rfl : ([o.X, o.Y, o.Z] : List Int).length = 3); omega) | (simp; omega)))) ⟨rfl, hM⟩) ?_
         refine QE.op rfl rfl (QOp.yes rfl rfl rfl rfl (decide_eq_false b266) fun f' H' hf hM => AOp.move (.int .i64 i) rfl ((hf 16 rfl).trans s226) ⟨rfl, hM⟩) ?_
         refine QE.op rfl rfl (QOp.yes rfl rfl rfl rfl (decide_eq_false b266) fun f' H' hf hM => AOp.indexAddrFA rfl ((hf 13 rfl).trans s232) ((hf 101 rfl).trans rfl) ar_70 (by omega) (by omega) ⟨rfl, hM⟩) ?_
         refine QE.op rfl rfl (QOp.yes rfl rfl rfl rfl (decide_eq_false b266) fun f' H' hf hM => AOp.loadF (.int .i64 (at_ ([b.Hi.X, b.Hi.Y, b.Hi.Z] : List Int) i)) rfl ((hf 102 rfl).trans rfl) ty_3 (ld_off (o := 0 + i.toNat * 1) (by omega) (ld1 (i := i) (xs := ([b.Hi.X, b.Hi.Y, b.Hi.Z] : List Int)) (by omega) (by first | (have := (rfl : ([b.Hi.X, b.Hi.Y, b.Hi.Z] : List Int).length = 3); omega) | (simp; omega)))) ⟨rfl, hM⟩) ?_
         refine QE.op rfl rfl (QOp.yes rfl rfl rfl rfl (decide_eq_false b266) fun f' H' hf hM => AOp.bin (.bool (decide (at_ ([o.X, o.Y, o.Z] : List Int) i > at_ ([b.Hi.X, b.Hi.Y, b.Hi.Z] : List Int) i))) rfl ((hf 100 rfl).trans rfl) ((hf 103 rfl).trans rfl) rfl ⟨rfl, hM⟩) ?_
         refine QE.op rfl rfl (.inl ⟨rfl, fun f' H' hf hM => AOp.pickF (.bool (decide (at_ ([o.X, o.Y, o.Z] : List Int) i > at_ ([b.Hi.X, b.Hi.Y, b.Hi.Z] : List Int) i))) rfl ((hf 97 rfl).trans rfl) (decide_eq_false b266) ((hf 104 rfl).trans rfl) ⟨rfl, hM⟩⟩) ?_
         refine QE.done fun H290 m291 => ?_
         have h292 := m291 _ _ h243
         have h293 := m291 _ _ h244
         have h294 := m291 _ _ h245
         have h295 := m291 _ _ h246
         have m296 := m247.trans m291
         refine AOps.nil ?_
         change AWP _ _ _ _ _ _
         by_cases b297 : at_ ([o.X, o.Y, o.Z] : List Int) i > at_ ([b.Hi.X, b.Hi.Y, b.Hi.Z] : List Int) i
         ·
          refine AWP.condT rfl (decide_eq_true b297) ?_
          refine AWP.seq ?_
          refine AWP.region (l := [0, 1, 2, 3, 4, 5]) rfl ?_
          refine AOps.cons rfl rfl (AOp.build (cells := [.int .i64 0, .int .i64 0]) rfl tz_46 pl_46 rfl rfl ?_)
          refine AOps.cons rfl rfl (AOp.build (cells := [.int .i64 0, .int .i64 0]) rfl tz_46 pl_46 rfl rfl ?_)
          refine AOps.cons rfl rfl (AOp.store' (cells' := [.int .i64 0, .int .i64 0]) (.agg [.int .i64 0, .int .i64 0]) s227 rfl ts_46 h292 rfl rfl rfl rfl ?_)
          intro H298 h299 k300
          have h302 := keep k300 (Ne.symm e49) h293
          have h303 := keep k300 (Ne.symm e189) h294
          have h304 := keep k300 (Ne.symm e207) h295
          have m305 := Mono.set m296 z36 k300
          refine AOps.cons rfl rfl (AOp.store' (cells' := [.int .i64 0, .int .i64 0]) (.agg [.int .i64 0, .int .i64 0]) s228 rfl ts_46 h302 rfl rfl rfl rfl ?_)
          intro H306 h307 k308
          have h310 := keep k308 (Ne.symm e190) h303
          have h311 := keep k308 (Ne.symm e208) h304
          have h312 := keep k308 e49 h299
          have m313 := Mono.set m305 z50 k308
          refine AOps.cons rfl rfl (AOp.assign (.bool false) rfl rfl ?_)
          refine AOps.cons rfl rfl (AOp.assign (.int .i64 0) rfl rfl ?_)
          refine AOps.nil ?_
          change AWP _ _ _ _ _ _
          refine AWP.ret ?_
          refine ⟨_, _, Ghost.refl, .inr rfl, _, Res.list rfl rfl (.cell (v := .agg [.int .i64 0, .int .i64 0]) s227 ty_46 h312 rfl (.cell (v := .agg [.int .i64 0, .int .i64 0]) s228 ty_46 h307 rfl (.tmp rfl (.tmp rfl (.nil))))), ?_, m313⟩
          exact congrArg AV.tup (lc (congrArg AV.agg (lc (congrArg (AV.int .i64) (show (0 : Int) = ((rangeF o d b).1).N from by rw [rangeF_ok (okR gb g3 g4), range_none (rf_stop hR.hf hi0 (by simp; omega) (part_at hi0 (by omega)) (sp_out b248 b265 (by first | omega | (simp only; omega))))])) (lc (congrArg (AV.int .i64) (show (0 : Int) = ((rangeF o d b).1).D from by rw [rangeF_ok (okR gb g3 g4), range_none (rf_stop hR.hf hi0 (by simp; omega) (part_at hi0 (by omega)) (sp_out b248 b265 (by first | omega | (simp only; omega))))])) rfl))) (lc (congrArg AV.agg (lc (congrArg (AV.int .i64) (show (0 : Int) = ((rangeF o d b).2.1).N from by rw [rangeF_ok (okR gb g3 g4), range_none (rf_stop hR.hf hi0 (by simp; omega) (part_at hi0 (by omega)) (sp_out b248 b265 (by first | omega | (simp only; omega))))])) (lc (congrArg (AV.int .i64) (show (0 : Int) = ((rangeF o d b).2.1).D from by rw [rangeF_ok (okR gb g3 g4), range_none (rf_stop hR.hf hi0 (by simp; omega) (part_at hi0 (by omega)) (sp_out b248 b265 (by first | omega | (simp only; omega))))])) rfl))) (lc (congrArg AV.bool (show (false : Bool) = (rangeF o d b).2.2.1 from by rw [rangeF_ok (okR gb g3 g4), range_none (rf_stop hR.hf hi0 (by simp; omega) (part_at hi0 (by omega)) (sp_out b248 b265 (by first | omega | (simp only; omega))))])) (lc (congrArg (AV.int .i64) (show (0 : Int) = (rangeF o d b).2.2.2 from by rw [rangeF_ok (okR gb g3 g4), range_none (rf_stop hR.hf hi0 (by simp; omega) (part_at hi0 (by omega)) (sp_out b248 b265 (by first | omega | (simp only; omega))))])) rfl))))
         ·
          refine AWP.condF rfl (decide_eq_false b297) ?_
          refine AWP.skip ?_
          change AWP _ _ _ _ _ _
          refine AWP.exit ?_
          change AWP _ _ _ _ _ _
          refine AWP.region (l := [0, 1, 2]) rfl ?_
          refine AOps.cons rfl rfl (AOp.move (.int .i64 i) rfl s226 ?_)
          refine AOps.cons rfl rfl (AOp.bin (.int .i64 (i + 1)) rfl rfl rfl (iadd (by omega)) ?_)
          refine AOps.cons rfl rfl (AOp.assign (.int .i64 (i + 1)) rfl rfl ?_)
          refine AOps.nil ?_
          exact ⟨_, by omega, i + 1, lo, hi, rfl, rfl, s227, s228, s229, s230, s231, s232, s233, s234, h292, h293, h294, h295, m296, by omega, by omega, by exact rf_keep hR hi0 (by simp; omega) (part_at hi0 (by omega)) (sp_in b248 b265 (by first | omega | (simp only; omega))), by first | assumption | (simp only; omega), by first | assumption | (simp only; omega)⟩
       ·
        refine AWP.condF rfl (decide_eq_false b265) ?_
        refine AWP.skip ?_
        change AWP _ _ _ _ _ _
        refine AWP.seq ?_
        refine AWP.region_quietA mixed (by kernel_rfl) 11 12 [12] rfl (by kernel_rfl) (B := .row 0 ([.int .i64 0, .int .i64 0])) (va := fun i => .ptr i 0 0) (by decide) fun i314 n315 _ hs316 => ?_
        refine QEA.op rfl rfl rfl (.inl ⟨rfl, fun H1 f' H' hf hN hM => AOp.move (.int .i64 i) rfl ((hf 16 rfl).trans s226) ⟨rfl, hN⟩⟩) ?_
        refine QEA.op rfl rfl rfl (.inl ⟨rfl, fun H1 f' H' hf hN hM => AOp.indexAddrFA rfl ((hf 12 rfl).trans s231) ((hf 108 rfl).trans rfl) ar_70 (by omega) (by omega) ⟨rfl, hN⟩⟩) ?_
        refine QEA.op rfl rfl rfl (.inl ⟨rfl, fun H1 f' H' hf hN hM => AOp.loadF (.int .i64 (at_ ([b.Lo.X, b.Lo.Y, b.Lo.Z] : List Int) i)) rfl ((hf 109 rfl).trans rfl) ty_3 (ld_off (o := 0 + i.toNat * 1) (by omega) (ld1 (i := i) (xs := ([b.Lo.X, b.Lo.Y, b.Lo.Z] : List Int)) (by omega) (by first | (have := (rfl : ([b.Lo.X, b.Lo.Y, b.Lo.Z] : List Int).length = 3); omega) | (simp; omega)))) ⟨rfl, hN⟩⟩) ?_
        refine QEA.op rfl rfl rfl (.inl ⟨rfl, fun H1 f' H' hf hN hM => AOp.move (.int .i64 i) rfl ((hf 16 rfl).trans s226) ⟨rfl, hN⟩⟩) ?_
        refine QEA.op rfl rfl rfl (.inl ⟨rfl, fun H1 f' H' hf hN hM => AOp.indexAddrFA rfl ((hf 10 rfl).trans s229) ((hf 111 rfl).trans rfl) ar_70 (by omega) (by omega) ⟨rfl, hN⟩⟩) ?_
        refine QEA.op rfl rfl rfl (.inl ⟨rfl, fun H1 f' H' hf hN hM => AOp.loadF (.int .i64 (at_ ([o.X, o.Y, o.Z] : List Int) i)) rfl ((hf 112 rfl).trans rfl) ty_3 (ld_off (o := 0 + i.toNat * 1) (by omega) (ld1 (i := i) (xs := ([o.X, o.Y, o.Z] : List Int)) (by omega) (by first | (have := (rfl : ([o.X, o.Y, o.Z] : List Int).length = 3); omega) | (simp; omega)))) ⟨rfl, hN⟩⟩) ?_
        refine QEA.op rfl rfl rfl (.inl ⟨rfl, fun H1 f' H' hf hN hM => AOp.bin (.int .i64 (at_ ([b.Lo.X, b.Lo.Y, b.Lo.Z] : List Int) i - (at_ ([o.X, o.Y, o.Z] : List Int) i))) rfl ((hf 110 rfl).trans rfl) ((hf 113 rfl).trans rfl) (isub (by omega)) ⟨rfl, hN⟩⟩) ?_
        refine QEA.op rfl rfl rfl (.inl ⟨rfl, fun H1 f' H' hf hN hM => AOp.move (.int .i64 i) rfl ((hf 16 rfl).trans s226) ⟨rfl, hN⟩⟩) ?_
        refine QEA.op rfl rfl rfl (.inl ⟨rfl, fun H1 f' H' hf hN hM => AOp.indexAddrFA rfl ((hf 11 rfl).trans s230) ((hf 115 rfl).trans rfl) ar_70 (by omega) (by omega) ⟨rfl, hN⟩⟩) ?_
        refine QEA.op rfl rfl rfl (.inl ⟨rfl, fun H1 f' H' hf hN hM => AOp.loadF (.int .i64 (at_ ([d.X, d.Y, d.Z] : List Int) i)) rfl ((hf 116 rfl).trans rfl) ty_3 (ld_off (o := 0 + i.toNat * 1) (by omega) (ld1 (i := i) (xs := ([d.X, d.Y, d.Z] : List Int)) (by omega) (by first | (have := (rfl : ([d.X, d.Y, d.Z] : List Int).length = 3); omega) | (simp; omega)))) ⟨rfl, hN⟩⟩) ?_
        refine QEA.op rfl rfl rfl (.inl ⟨rfl, fun H1 f' H' hf hN hM => AOp.build (cells := [.int .i64 (at_ ([b.Lo.X, b.Lo.Y, b.Lo.Z] : List Int) i - (at_ ([o.X, o.Y, o.Z] : List Int) i)), .int .i64 (at_ ([d.X, d.Y, d.Z] : List Int) i)]) rfl tz_46 pl_46 (lconsP ((hf 114 rfl).trans rfl) (lconsP ((hf 117 rfl).trans rfl) rfl)) rfl ⟨rfl, hN⟩⟩) ?_
        refine QEA.alloc rfl rfl rfl rfl rfl tz_46 ?_
        refine QEA.done fun H317 m319 => ?_
        have m318 := hs316 _ m319
        have e320 := ne_new h243 n315
        have e321 := ne_new h244 n315
        have e322 := ne_new h245 n315
        have e323 := ne_new h246 n315
        have z324 := Mono.free m247 n315
        have h325 := m318 _ _ h243
        have h326 := m318 _ _ h244
        have h327 := m318 _ _ h245
        have h328 := m318 _ _ h246
        have m329 := m247.trans m318
        have h330 : H317 i314 = some (.row 0 ([.int .i64 0, .int .i64 0])) := m319 i314 _ (updH_same _ _ _)
        refine AOps.cons rfl rfl (AOp.store' (cells' := [.int .i64 (at_ ([b.Lo.X, b.Lo.Y, b.Lo.Z] : List Int) i - (at_ ([o.X, o.Y, o.Z] : List Int) i)), .int .i64 (at_ ([d.X, d.Y, d.Z] : List Int) i)]) (.agg [.int .i64 (at_ ([b.Lo.X, b.Lo.Y, b.Lo.Z] : List Int) i - (at_ ([o.X, o.Y, o.Z] : List Int) i)), .int .i64 (at_ ([d.X, d.Y, d.Z] : List Int) i)]) rfl rfl ts_46 h330 rfl rfl rfl rfl ?_)
        intro H331 h332 k333
        have h334 := keep k333 e320 h325
        have h335 := keep k333 e321 h326
        have h336 := keep k333 e322 h327
        have h337 := keep k333 e323 h328
        have m339 := Mono.set m329 z324 k333
        refine AOps.nil ?_
        change AWP _ _ _ _ _ _
        refine AWP.seq ?_
        refine AWP.region_quietA mixed (by kernel_rfl) 11 12 [12] rfl (by kernel_rfl) (B := .row 0 ([.int .i64 0, .int .i64 0])) (va := fun i => .ptr i 0 0) (by decide) fun i340 n341 _ hs342 => ?_
        refine QEA.op rfl rfl rfl (.inl ⟨rfl, fun H1 f' H' hf hN hM => AOp.move (.int .i64 i) rfl ((hf 16 rfl).trans s226) ⟨rfl, hN⟩⟩) ?_
        refine QEA.op rfl rfl rfl (.inl ⟨rfl, fun H1 f' H' hf hN hM => AOp.indexAddrFA rfl ((hf 13 rfl).trans s232) ((hf 119 rfl).trans rfl) ar_70 (by omega) (by omega) ⟨rfl, hN⟩⟩) ?_
        refine QEA.op rfl rfl rfl (.inl ⟨rfl, fun H1 f' H' hf hN hM => AOp.loadF (.int .i64 (at_ ([b.Hi.X, b.Hi.Y, b.Hi.Z] : List Int) i)) rfl ((hf 120 rfl).trans rfl) ty_3 (ld_off (o := 0 + i.toNat * 1) (by omega) (ld1 (i := i) (xs := ([b.Hi.X, b.Hi.Y, b.Hi.Z] : List Int)) (by omega) (by first | (have := (rfl : ([b.Hi.X, b.Hi.Y, b.Hi.Z] : List Int).length = 3); omega) | (simp; omega)))) ⟨rfl, hN⟩⟩) ?_
        refine QEA.op rfl rfl rfl (.inl ⟨rfl, fun H1 f' H' hf hN hM => AOp.move (.int .i64 i) rfl ((hf 16 rfl).trans s226) ⟨rfl, hN⟩⟩) ?_
        refine QEA.op rfl rfl rfl (.inl ⟨rfl, fun H1 f' H' hf hN hM => AOp.indexAddrFA rfl ((hf 10 rfl).trans s229) ((hf 122 rfl).trans rfl) ar_70 (by omega) (by omega) ⟨rfl, hN⟩⟩) ?_
        refine QEA.op rfl rfl rfl (.inl ⟨rfl, fun H1 f' H' hf hN hM => AOp.loadF (.int .i64 (at_ ([o.X, o.Y, o.Z] : List Int) i)) rfl ((hf 123 rfl).trans rfl) ty_3 (ld_off (o := 0 + i.toNat * 1) (by omega) (ld1 (i := i) (xs := ([o.X, o.Y, o.Z] : List Int)) (by omega) (by first | (have := (rfl : ([o.X, o.Y, o.Z] : List Int).length = 3); omega) | (simp; omega)))) ⟨rfl, hN⟩⟩) ?_
        refine QEA.op rfl rfl rfl (.inl ⟨rfl, fun H1 f' H' hf hN hM => AOp.bin (.int .i64 (at_ ([b.Hi.X, b.Hi.Y, b.Hi.Z] : List Int) i - (at_ ([o.X, o.Y, o.Z] : List Int) i))) rfl ((hf 121 rfl).trans rfl) ((hf 124 rfl).trans rfl) (isub (by omega)) ⟨rfl, hN⟩⟩) ?_
        refine QEA.op rfl rfl rfl (.inl ⟨rfl, fun H1 f' H' hf hN hM => AOp.move (.int .i64 i) rfl ((hf 16 rfl).trans s226) ⟨rfl, hN⟩⟩) ?_
        refine QEA.op rfl rfl rfl (.inl ⟨rfl, fun H1 f' H' hf hN hM => AOp.indexAddrFA rfl ((hf 11 rfl).trans s230) ((hf 126 rfl).trans rfl) ar_70 (by omega) (by omega) ⟨rfl, hN⟩⟩) ?_
        refine QEA.op rfl rfl rfl (.inl ⟨rfl, fun H1 f' H' hf hN hM => AOp.loadF (.int .i64 (at_ ([d.X, d.Y, d.Z] : List Int) i)) rfl ((hf 127 rfl).trans rfl) ty_3 (ld_off (o := 0 + i.toNat * 1) (by omega) (ld1 (i := i) (xs := ([d.X, d.Y, d.Z] : List Int)) (by omega) (by first | (have := (rfl : ([d.X, d.Y, d.Z] : List Int).length = 3); omega) | (simp; omega)))) ⟨rfl, hN⟩⟩) ?_
        refine QEA.op rfl rfl rfl (.inl ⟨rfl, fun H1 f' H' hf hN hM => AOp.build (cells := [.int .i64 (at_ ([b.Hi.X, b.Hi.Y, b.Hi.Z] : List Int) i - (at_ ([o.X, o.Y, o.Z] : List Int) i)), .int .i64 (at_ ([d.X, d.Y, d.Z] : List Int) i)]) rfl tz_46 pl_46 (lconsP ((hf 125 rfl).trans rfl) (lconsP ((hf 128 rfl).trans rfl) rfl)) rfl ⟨rfl, hN⟩⟩) ?_
        refine QEA.alloc rfl rfl rfl rfl rfl tz_46 ?_
        refine QEA.done fun H343 m345 => ?_
        have m344 := hs342 _ m345
        have e346 := ne_new h334 n341
        have e347 := ne_new h335 n341
        have e348 := ne_new h336 n341
        have e349 := ne_new h337 n341
        have e350 := ne_new h332 n341
        have z351 := Mono.free m339 n341
        have h352 := m344 _ _ h334
        have h353 := m344 _ _ h335
        have h354 := m344 _ _ h336
        have h355 := m344 _ _ h337
        have h356 := m344 _ _ h332
        have m357 := m339.trans m344
        have h358 : H343 i340 = some (.row 0 ([.int .i64 0, .int .i64 0])) := m345 i340 _ (updH_same _ _ _)
        refine AOps.cons rfl rfl (AOp.store' (cells' := [.int .i64 (at_ ([b.Hi.X, b.Hi.Y, b.Hi.Z] : List Int) i - (at_ ([o.X, o.Y, o.Z] : List Int) i)), .int .i64 (at_ ([d.X, d.Y, d.Z] : List Int) i)]) (.agg [.int .i64 (at_ ([b.Hi.X, b.Hi.Y, b.Hi.Z] : List Int) i - (at_ ([o.X, o.Y, o.Z] : List Int) i)), .int .i64 (at_ ([d.X, d.Y, d.Z] : List Int) i)]) rfl rfl ts_46 h358 rfl rfl rfl rfl ?_)
        intro H359 h360 k361
        have h362 := keep k361 e346 h352
        have h363 := keep k361 e347 h353
        have h364 := keep k361 e348 h354
        have h365 := keep k361 e349 h355
        have h366 := keep k361 e350 h356
        have m368 := Mono.set m357 z351 k361
        refine AOps.nil ?_
        change AWP _ _ _ _ _ _
        refine AWP.seq ?_
        refine AWP.seq ?_
        refine AWP.region (l := [0, 1, 2, 3]) rfl ?_
        refine AOps.cons rfl rfl (AOp.move (.int .i64 i) rfl s226 ?_)
        refine AOps.cons rfl rfl (AOp.indexAddrFA rfl s230 rfl ar_70 (by omega) (by omega) ?_)
        refine AOps.cons rfl rfl (AOp.loadF (.int .i64 (at_ ([d.X, d.Y, d.Z] : List Int) i)) rfl rfl ty_3 (ld_off (o := 0 + i.toNat * 1) (by omega) (ld1 (i := i) (xs := ([d.X, d.Y, d.Z] : List Int)) (by omega) (by first | (have := (rfl : ([d.X, d.Y, d.Z] : List Int).length = 3); omega) | (simp; omega)))) ?_)
        refine AOps.cons rfl rfl (AOp.bin (.bool (decide (at_ ([d.X, d.Y, d.Z] : List Int) i < 0))) rfl rfl rfl rfl ?_)
        refine AOps.nil ?_
        change AWP _ _ _ _ _ _
        by_cases b369 : at_ ([d.X, d.Y, d.Z] : List Int) i < 0
        ·
         refine AWP.condT rfl (decide_eq_true b369) ?_
         refine AWP.region_str mixed (by kernel_rfl) [(0, none), (1, none), (2, none), (3, none), (4, none), (5, none), (6, none), (7, none), (8, none), (9, none), (10, none), (11, none), (12, none), (13, none), (14, none), (15, none), (16, none), (17, none), (18, none), (19, none), (20, none), (21, none), (22, none), (23, none), (24, some [12, 13, 14, 15, 16, 17, 18, 19, 20, 21, 22, 23])] [25] (by kernel_rfl) ?_
         refine STR.op rfl rfl (.inl ⟨rfl, fun H1 f' H' hf hN hM => AOp.move (.int .i64 i) rfl ((hf 16 rfl).trans s226) ⟨rfl, hN⟩⟩) ?_
         refine STR.op rfl rfl (.inl ⟨rfl, fun H1 f' H' hf hN hM => AOp.indexAddrFA rfl ((hf 10 rfl).trans s229) ((hf 134 rfl).trans rfl) ar_70 (by omega) (by omega) ⟨rfl, hN⟩⟩) ?_
         refine STR.op rfl rfl (.inl ⟨rfl, fun H1 f' H' hf hN hM => AOp.loadF (.int .i64 (at_ ([o.X, o.Y, o.Z] : List Int) i)) rfl ((hf 135 rfl).trans rfl) ty_3 (ld_off (o := 0 + i.toNat * 1) (by omega) (ld1 (i := i) (xs := ([o.X, o.Y, o.Z] : List Int)) (by omega) (by first | (have := (rfl : ([o.X, o.Y, o.Z] : List Int).length = 3); omega) | (simp; omega)))) ⟨rfl, hN⟩⟩) ?_
         refine STR.op rfl rfl (.inl ⟨rfl, fun H1 f' H' hf hN hM => AOp.move (.int .i64 i) rfl ((hf 16 rfl).trans s226) ⟨rfl, hN⟩⟩) ?_
         refine STR.op rfl rfl (.inl ⟨rfl, fun H1 f' H' hf hN hM => AOp.indexAddrFA rfl ((hf 13 rfl).trans s232) ((hf 137 rfl).trans rfl) ar_70 (by omega) (by omega) ⟨rfl, hN⟩⟩) ?_
         refine STR.op rfl rfl (.inl ⟨rfl, fun H1 f' H' hf hN hM => AOp.loadF (.int .i64 (at_ ([b.Hi.X, b.Hi.Y, b.Hi.Z] : List Int) i)) rfl ((hf 138 rfl).trans rfl) ty_3 (ld_off (o := 0 + i.toNat * 1) (by omega) (ld1 (i := i) (xs := ([b.Hi.X, b.Hi.Y, b.Hi.Z] : List Int)) (by omega) (by first | (have := (rfl : ([b.Hi.X, b.Hi.Y, b.Hi.Z] : List Int).length = 3); omega) | (simp; omega)))) ⟨rfl, hN⟩⟩) ?_
         refine STR.op rfl rfl (.inl ⟨rfl, fun H1 f' H' hf hN hM => AOp.bin (.int .i64 (at_ ([o.X, o.Y, o.Z] : List Int) i - (at_ ([b.Hi.X, b.Hi.Y, b.Hi.Z] : List Int) i))) rfl ((hf 136 rfl).trans rfl) ((hf 139 rfl).trans rfl) (isub (by omega)) ⟨rfl, hN⟩⟩) ?_
         refine STR.op rfl rfl (.inl ⟨rfl, fun H1 f' H' hf hN hM => AOp.move (.int .i64 i) rfl ((hf 16 rfl).trans s226) ⟨rfl, hN⟩⟩) ?_
         refine STR.op rfl rfl (.inl ⟨rfl, fun H1 f' H' hf hN hM => AOp.indexAddrFA rfl ((hf 11 rfl).trans s230) ((hf 141 rfl).trans rfl) ar_70 (by omega) (by omega) ⟨rfl, hN⟩⟩) ?_
         refine STR.op rfl rfl (.inl ⟨rfl, fun H1 f' H' hf hN hM => AOp.loadF (.int .i64 (at_ ([d.X, d.Y, d.Z] : List Int) i)) rfl ((hf 142 rfl).trans rfl) ty_3 (ld_off (o := 0 + i.toNat * 1) (by omega) (ld1 (i := i) (xs := ([d.X, d.Y, d.Z] : List Int)) (by omega) (by first | (have := (rfl : ([d.X, d.Y, d.Z] : List Int).length = 3); omega) | (simp; omega)))) ⟨rfl, hN⟩⟩) ?_
         refine STR.op rfl rfl (.inl ⟨rfl, fun H1 f' H' hf hN hM => AOp.negP rfl ((hf 143 rfl).trans rfl) (by omega) ⟨rfl, hN⟩⟩) ?_
         refine STR.op rfl rfl (.inl ⟨rfl, fun H1 f' H' hf hN hM => AOp.build (cells := [.int .i64 (at_ ([o.X, o.Y, o.Z] : List Int) i - (at_ ([b.Hi.X, b.Hi.Y, b.Hi.Z] : List Int) i)), .int .i64 (-(at_ ([d.X, d.Y, d.Z] : List Int) i))]) rfl tz_46 pl_46 (lconsP ((hf 140 rfl).trans rfl) (lconsP ((hf 144 rfl).trans rfl) rfl)) rfl ⟨rfl, hN⟩⟩) ?_
         refine STR.op rfl rfl (.inl ⟨rfl, fun H1 f' H' hf hN hM => AOp.move (.int .i64 i) rfl ((hf 16 rfl).trans s226) ⟨rfl, hN⟩⟩) ?_
         refine STR.op rfl rfl (.inl ⟨rfl, fun H1 f' H' hf hN hM => AOp.indexAddrFA rfl ((hf 10 rfl).trans s229) ((hf 146 rfl).trans rfl) ar_70 (by omega) (by omega) ⟨rfl, hN⟩⟩) ?_
         refine STR.op rfl rfl (.inl ⟨rfl, fun H1 f' H' hf hN hM => AOp.loadF (.int .i64 (at_ ([o.X, o.Y, o.Z] : List Int) i)) rfl ((hf 147 rfl).trans rfl) ty_3 (ld_off (o := 0 + i.toNat * 1) (by omega) (ld1 (i := i) (xs := ([o.X, o.Y, o.Z] : List Int)) (by omega) (by first | (have := (rfl : ([o.X, o.Y, o.Z] : List Int).length = 3); omega) | (simp; omega)))) ⟨rfl, hN⟩⟩) ?_
         refine STR.op rfl rfl (.inl ⟨rfl, fun H1 f' H' hf hN hM => AOp.move (.int .i64 i) rfl ((hf 16 rfl).trans s226) ⟨rfl, hN⟩⟩) ?_
         refine STR.op rfl rfl (.inl ⟨rfl, fun H1 f' H' hf hN hM => AOp.indexAddrFA rfl ((hf 12 rfl).trans s231) ((hf 149 rfl).trans rfl) ar_70 (by omega) (by omega) ⟨rfl, hN⟩⟩) ?_
         refine STR.op rfl rfl (.inl ⟨rfl, fun H1 f' H' hf hN hM => AOp.loadF (.int .i64 (at_ ([b.Lo.X, b.Lo.Y, b.Lo.Z] : List Int) i)) rfl ((hf 150 rfl).trans rfl) ty_3 (ld_off (o := 0 + i.toNat * 1) (by omega) (ld1 (i := i) (xs := ([b.Lo.X, b.Lo.Y, b.Lo.Z] : List Int)) (by omega) (by first | (have := (rfl : ([b.Lo.X, b.Lo.Y, b.Lo.Z] : List Int).length = 3); omega) | (simp; omega)))) ⟨rfl, hN⟩⟩) ?_
         refine STR.op rfl rfl (.inl ⟨rfl, fun H1 f' H' hf hN hM => AOp.bin (.int .i64 (at_ ([o.X, o.Y, o.Z] : List Int) i - (at_ ([b.Lo.X, b.Lo.Y, b.Lo.Z] : List Int) i))) rfl ((hf 148 rfl).trans rfl) ((hf 151 rfl).trans rfl) (isub (by omega)) ⟨rfl, hN⟩⟩) ?_
         refine STR.op rfl rfl (.inl ⟨rfl, fun H1 f' H' hf hN hM => AOp.move (.int .i64 i) rfl ((hf 16 rfl).trans s226) ⟨rfl, hN⟩⟩) ?_
         refine STR.op rfl rfl (.inl ⟨rfl, fun H1 f' H' hf hN hM => AOp.indexAddrFA rfl ((hf 11 rfl).trans s230) ((hf 153 rfl).trans rfl) ar_70 (by omega) (by omega) ⟨rfl, hN⟩⟩) ?_
         refine STR.op rfl rfl (.inl ⟨rfl, fun H1 f' H' hf hN hM => AOp.loadF (.int .i64 (at_ ([d.X, d.Y, d.Z] : List Int) i)) rfl ((hf 154 rfl).trans rfl) ty_3 (ld_off (o := 0 + i.toNat * 1) (by omega) (ld1 (i := i) (xs := ([d.X, d.Y, d.Z] : List Int)) (by omega) (by first | (have := (rfl : ([d.X, d.Y, d.Z] : List Int).length = 3); omega) | (simp; omega)))) ⟨rfl, hN⟩⟩) ?_
         refine STR.op rfl rfl (.inl ⟨rfl, fun H1 f' H' hf hN hM => AOp.negP rfl ((hf 155 rfl).trans rfl) (by omega) ⟨rfl, hN⟩⟩) ?_
         refine STR.op rfl rfl (.inl ⟨rfl, fun H1 f' H' hf hN hM => AOp.build (cells := [.int .i64 (at_ ([o.X, o.Y, o.Z] : List Int) i - (at_ ([b.Lo.X, b.Lo.Y, b.Lo.Z] : List Int) i)), .int .i64 (-(at_ ([d.X, d.Y, d.Z] : List Int) i))]) rfl tz_46 pl_46 (lconsP ((hf 152 rfl).trans rfl) (lconsP ((hf 156 rfl).trans rfl) rfl)) rfl ⟨rfl, hN⟩⟩) ?_
         refine STR.st rfl rfl rfl fun f370 H371 hf372 m373 => ?_
         have h374 := m373 _ _ h362
         have h375 := m373 _ _ h363
         have h376 := m373 _ _ h364
         have h377 := m373 _ _ h365
         have h378 := m373 _ _ h366
         have h379 := m373 _ _ h360
         have m380 := m368.trans m373
         refine AOp.store' (cells' := [.int .i64 (at_ ([o.X, o.Y, o.Z] : List Int) i - (at_ ([b.Hi.X, b.Hi.Y, b.Hi.Z] : List Int) i)), .int .i64 (-(at_ ([d.X, d.Y, d.Z] : List Int) i))]) (.agg [.int .i64 (at_ ([o.X, o.Y, o.Z] : List Int) i - (at_ ([b.Hi.X, b.Hi.Y, b.Hi.Z] : List Int) i)), .int .i64 (-(at_ ([d.X, d.Y, d.Z] : List Int) i))]) ((hf372 17 rfl).trans rfl) ((hf372 145 rfl).trans rfl) ts_46 h378 rfl rfl rfl rfl ?_
         intro H381 h382 k383
         have h384 := keep k383 e320 h374
         have h385 := keep k383 e321 h375
         have h386 := keep k383 e322 h376
         have h387 := keep k383 e323 h377
         have h389 := keep k383 (Ne.symm e350) h379
         have m390 := Mono.set m380 z324 k383
         refine ⟨rfl, .inr (RevR.cons rfl (.inl ⟨rfl, fun H1 f' H' hf hN hM => AOp.build (cells := [.int .i64 (at_ ([o.X, o.Y, o.Z] : List Int) i - (at_ ([b.Lo.X, b.Lo.Y, b.Lo.Z] : List Int) i)), .int .i64 (-(at_ ([d.X, d.Y, d.Z] : List Int) i))]) rfl tz_46 pl_46 (lconsP ((hf 152 rfl).trans rfl) (lconsP ((hf 156 rfl).trans rfl) rfl)) rfl ⟨rfl, hN⟩⟩) (RevR.cons rfl (.inl ⟨rfl, fun H1 f' H' hf hN hM => AOp.negP rfl ((hf 155 rfl).trans rfl) (by omega) ⟨rfl, hN⟩⟩) (RevR.cons rfl (.inl ⟨rfl, fun H1 f' H' hf hN hM => AOp.loadF (.int .i64 (at_ ([d.X, d.Y, d.Z] : List Int) i)) rfl ((hf 154 rfl).trans rfl) ty_3 (ld_off (o := 0 + i.toNat * 1) (by omega) (ld1 (i := i) (xs := ([d.X, d.Y, d.Z] : List Int)) (by omega) (by first | (have := (rfl : ([d.X, d.Y, d.Z] : List Int).length = 3); omega) | (simp; omega)))) ⟨rfl, hN⟩⟩) (RevR.cons rfl (.inl ⟨rfl, fun H1 f' H' hf hN hM => AOp.indexAddrFA rfl ((hf 11 rfl).trans s230) ((hf 153 rfl).trans rfl) ar_70 (by omega) (by omega) ⟨rfl, hN⟩⟩) (RevR.cons rfl (.inl ⟨rfl, fun H1 f' H' hf hN hM => AOp.move (.int .i64 i) rfl ((hf 16 rfl).trans s226) ⟨rfl, hN⟩⟩) (RevR.cons rfl (.inl ⟨rfl, fun H1 f' H' hf hN hM => AOp.bin (.int .i64 (at_ ([o.X, o.Y, o.Z] : List Int) i - (at_ ([b.Lo.X, b.Lo.Y, b.Lo.Z] : List Int) i))) rfl ((hf 148 rfl).trans rfl) ((hf 151 rfl).trans rfl) (isub (by omega)) ⟨rfl, hN⟩⟩) (RevR.cons rfl (.inl ⟨rfl, fun H1 f' H' hf hN hM => AOp.loadF (.int .i64 (at_ ([b.Lo.X, b.Lo.Y, b.Lo.Z] : List Int) i)) rfl ((hf 150 rfl).trans rfl) ty_3 (ld_off (o := 0 + i.toNat * 1) (by omega) (ld1 (i := i) (xs := ([b.Lo.X, b.Lo.Y, b.Lo.Z] : List Int)) (by omega) (by first | (have := (rfl : ([b.Lo.X, b.Lo.Y, b.Lo.Z] : List Int).length = 3); omega) | (simp; omega)))) ⟨rfl, hN⟩⟩) (RevR.cons rfl (.inl ⟨rfl, fun H1 f' H' hf hN hM => AOp.indexAddrFA rfl ((hf 12 rfl).trans s231) ((hf 149 rfl).trans rfl) ar_70 (by omega) (by omega) ⟨rfl, hN⟩⟩) (RevR.cons rfl (.inl ⟨rfl, fun H1 f' H' hf hN hM => AOp.move (.int .i64 i) rfl ((hf 16 rfl).trans s226) ⟨rfl, hN⟩⟩) (RevR.cons rfl (.inl ⟨rfl, fun H1 f' H' hf hN hM => AOp.loadF (.int .i64 (at_ ([o.X, o.Y, o.Z] : List Int) i)) rfl ((hf 147 rfl).trans rfl) ty_3 (ld_off (o := 0 + i.toNat * 1) (by omega) (ld1 (i := i) (xs := ([o.X, o.Y, o.Z] : List Int)) (by omega) (by first | (have := (rfl : ([o.X, o.Y, o.Z] : List Int).length = 3); omega) | (simp; omega)))) ⟨rfl, hN⟩⟩) (RevR.cons rfl (.inl ⟨rfl, fun H1 f' H' hf hN hM => AOp.indexAddrFA rfl ((hf 10 rfl).trans s229) ((hf 146 rfl).trans rfl) ar_70 (by omega) (by omega) ⟨rfl, hN⟩⟩) (RevR.cons rfl (.inl ⟨rfl, fun H1 f' H' hf hN hM => AOp.move (.int .i64 i) rfl ((hf 16 rfl).trans s226) ⟨rfl, hN⟩⟩) (RevR.skip rfl (RevR.skip rfl (RevR.skip rfl (RevR.skip rfl (RevR.skip rfl (RevR.skip rfl (RevR.skip rfl (RevR.skip rfl (RevR.skip rfl (RevR.skip rfl (RevR.skip rfl (RevR.skip rfl RevR.nil)))))))))))))))))))))))), ?_⟩
         refine STR.done fun H391 m392 => ?_
         have h393 := m392 _ _ h384
         have h394 := m392 _ _ h385
         have h395 := m392 _ _ h386
         have h396 := m392 _ _ h387
         have h397 := m392 _ _ h389
         have h398 := m392 _ _ h382
         have m399 := m390.trans m392
         refine AOps.cons rfl rfl (AOp.store' (cells' := [.int .i64 (at_ ([o.X, o.Y, o.Z] : List Int) i - (at_ ([b.Lo.X, b.Lo.Y, b.Lo.Z] : List Int) i)), .int .i64 (-(at_ ([d.X, d.Y, d.Z] : List Int) i))]) (.agg [.int .i64 (at_ ([o.X, o.Y, o.Z] : List Int) i - (at_ ([b.Lo.X, b.Lo.Y, b.Lo.Z] : List Int) i)), .int .i64 (-(at_ ([d.X, d.Y, d.Z] : List Int) i))]) rfl rfl ts_46 h397 rfl rfl rfl rfl ?_)
         intro H400 h401 k402
         have h403 := keep k402 e346 h393
         have h404 := keep k402 e347 h394
         have h405 := keep k402 e348 h395
         have h406 := keep k402 e349 h396
         have h408 := keep k402 e350 h398
         have m409 := Mono.set m399 z351 k402
         refine AOps.nil ?_
         change AWP _ _ _ _ _ _
         refine AWP.seq ?_
         refine AWP.seq ?_
         refine AWP.region (l := [0, 1, 2]) rfl ?_
         refine AOps.cons rfl rfl (AOp.load (.agg [.int .i64 lo.N, .int .i64 lo.D]) rfl s233 ty_46 h405 rfl ?_)
         refine AOps.cons rfl rfl (AOp.load (.agg [.int .i64 (at_ ([o.X, o.Y, o.Z] : List Int) i - (at_ ([b.Hi.X, b.Hi.Y, b.Hi.Z] : List Int) i)), .int .i64 (-(at_ ([d.X, d.Y, d.Z] : List Int) i))]) rfl rfl ty_46 h408 rfl ?_)
         refine AOps.cons rfl rfl (AOp.pcall («as» := [.agg [.int .i64 lo.N, .int .i64 lo.D], .agg [.int .i64 (at_ ([o.X, o.Y, o.Z] : List Int) i - (at_ ([b.Hi.X, b.Hi.Y, b.Hi.Z] : List Int) i)), .int .i64 (-(at_ ([d.X, d.Y, d.Z] : List Int) i))]]) rfl rfl (rfl) tf_38 (c_ref04_less lo (FracT.mk (at_ ([o.X, o.Y, o.Z] : List Int) i - (at_ ([b.Hi.X, b.Hi.Y, b.Hi.Z] : List Int) i)) (-(at_ ([d.X, d.Y, d.Z] : List Int) i))) (by first | omega | (simp only; omega)) (by first | omega | (simp only; omega))) ?_)
         intro H410 m411
         have h412 := m411 _ _ h403
         have h413 := m411 _ _ h404
         have h414 := m411 _ _ h405
         have h415 := m411 _ _ h406
         have h416 := m411 _ _ h408
         have h417 := m411 _ _ h401
         have m418 := m409.trans m411
         refine AOps.nil ?_
         change AWP _ _ _ _ _ _
         rcases Bool.eq_false_or_eq_true (R_ref04_less lo (FracT.mk (at_ ([o.X, o.Y, o.Z] : List Int) i - (at_ ([b.Hi.X, b.Hi.Y, b.Hi.Z] : List Int) i)) (-(at_ ([d.X, d.Y, d.Z] : List Int) i)))) with b419 | b419
         ·
          refine AWP.condT rfl b419 ?_
          refine AWP.region (l := [0, 1]) rfl ?_
          refine AOps.cons rfl rfl (AOp.load (.agg [.int .i64 (at_ ([o.X, o.Y, o.Z] : List Int) i - (at_ ([b.Hi.X, b.Hi.Y, b.Hi.Z] : List Int) i)), .int .i64 (-(at_ ([d.X, d.Y, d.Z] : List Int) i))]) rfl rfl ty_46 h416 rfl ?_)
          refine AOps.cons rfl rfl (AOp.store' (cells' := [.int .i64 (at_ ([o.X, o.Y, o.Z] : List Int) i - (at_ ([b.Hi.X, b.Hi.Y, b.Hi.Z] : List Int) i)), .int .i64 (-(at_ ([d.X, d.Y, d.Z] : List Int) i))]) (.agg [.int .i64 (at_ ([o.X, o.Y, o.Z] : List Int) i - (at_ ([b.Hi.X, b.Hi.Y, b.Hi.Z] : List Int) i)), .int .i64 (-(at_ ([d.X, d.Y, d.Z] : List Int) i))]) s233 rfl ts_46 h414 rfl rfl rfl rfl ?_)
          intro H420 h421 k422
          have h423 := keep k422 e189 h412
          have h424 := keep k422 e190 h413
          have h426 := keep k422 (Ne.symm e209) h415
          have h427 := keep k422 (Ne.symm e322) h416
          have h428 := keep k422 (Ne.symm e348) h417
          have m429 := Mono.set m418 z191 k422
          refine AOps.nil ?_
          change AWP _ _ _ _ _ _
          refine AWP.seq ?_
          refine AWP.region (l := [0, 1, 2]) rfl ?_
          refine AOps.cons rfl rfl (AOp.load (.agg [.int .i64 (at_ ([o.X, o.Y, o.Z] : List Int) i - (at_ ([b.Lo.X, b.Lo.Y, b.Lo.Z] : List Int) i)), .int .i64 (-(at_ ([d.X, d.Y, d.Z] : List Int) i))]) rfl rfl ty_46 h428 rfl ?_)
          refine AOps.cons rfl rfl (AOp.load (.agg [.int .i64 hi.N, .int .i64 hi.D]) rfl s234 ty_46 h426 rfl ?_)
          refine AOps.cons rfl rfl (AOp.pcall («as» := [.agg [.int .i64 (at_ ([o.X, o.Y, o.Z] : List Int) i - (at_ ([b.Lo.X, b.Lo.Y, b.Lo.Z] : List Int) i)), .int .i64 (-(at_ ([d.X, d.Y, d.Z] : List Int) i))], .agg [.int .i64 hi.N, .int .i64 hi.D]]) rfl rfl (rfl) tf_38 (c_ref04_less (FracT.mk (at_ ([o.X, o.Y, o.Z] : List Int) i - (at_ ([b.Lo.X, b.Lo.Y, b.Lo.Z] : List Int) i)) (-(at_ ([d.X, d.Y, d.Z] : List Int) i))) hi (by first | omega | (simp only; omega)) (by first | omega | (simp only; omega))) ?_)
          intro H430 m431
          have h432 := m431 _ _ h423
          have h433 := m431 _ _ h424
          have h434 := m431 _ _ h426
          have h435 := m431 _ _ h427
          have h436 := m431 _ _ h428
          have h437 := m431 _ _ h421
          have m438 := m429.trans m431
          refine AOps.nil ?_
          change AWP _ _ _ _ _ _
          rcases Bool.eq_false_or_eq_true (R_ref04_less (FracT.mk (at_ ([o.X, o.Y, o.Z] : List Int) i - (at_ ([b.Lo.X, b.Lo.Y, b.Lo.Z] : List Int) i)) (-(at_ ([d.X, d.Y, d.Z] : List Int) i))) hi) with b439 | b439
          ·
           refine AWP.condT rfl b439 ?_
           refine AWP.region (l := [0, 1]) rfl ?_
           refine AOps.cons rfl rfl (AOp.load (.agg [.int .i64 (at_ ([o.X, o.Y, o.Z] : List Int) i - (at_ ([b.Lo.X, b.Lo.Y, b.Lo.Z] : List Int) i)), .int .i64 (-(at_ ([d.X, d.Y, d.Z] : List Int) i))]) rfl rfl ty_46 h436 rfl ?_)
           refine AOps.cons rfl rfl (AOp.store' (cells' := [.int .i64 (at_ ([o.X, o.Y, o.Z] : List Int) i - (at_ ([b.Lo.X, b.Lo.Y, b.Lo.Z] : List Int) i)), .int .i64 (-(at_ ([d.X, d.Y, d.Z] : List Int) i))]) (.agg [.int .i64 (at_ ([o.X, o.Y, o.Z] : List Int) i - (at_ ([b.Lo.X, b.Lo.Y, b.Lo.Z] : List Int) i)), .int .i64 (-(at_ ([d.X, d.Y, d.Z] : List Int) i))]) s234 rfl ts_46 h434 rfl rfl rfl rfl ?_)
           intro H440 h441 k442
           have h443 := keep k442 e207 h432
           have h444 := keep k442 e208 h433
           have h446 := keep k442 (Ne.symm e323) h435
           have h447 := keep k442 (Ne.symm e349) h436
           have h448 := keep k442 e209 h437
           have m449 := Mono.set m438 z210 k442
           refine AOps.nil ?_
           change AWP _ _ _ _ _ _
           refine AWP.region (l := [0, 1, 2]) rfl ?_
           refine AOps.cons rfl rfl (AOp.move (.int .i64 i) rfl s226 ?_)
           refine AOps.cons rfl rfl (AOp.bin (.int .i64 (i + 1)) rfl rfl rfl (iadd (by omega)) ?_)
           refine AOps.cons rfl rfl (AOp.assign (.int .i64 (i + 1)) rfl rfl ?_)
           refine AOps.nil ?_
           exact ⟨_, by omega, i + 1, (FracT.mk (at_ ([o.X, o.Y, o.Z] : List Int) i - (at_ ([b.Hi.X, b.Hi.Y, b.Hi.Z] : List Int) i)) (-(at_ ([d.X, d.Y, d.Z] : List Int) i))), (FracT.mk (at_ ([o.X, o.Y, o.Z] : List Int) i - (at_ ([b.Lo.X, b.Lo.Y, b.Lo.Z] : List Int) i)) (-(at_ ([d.X, d.Y, d.Z] : List Int) i))), rfl, rfl, s227, s228, s229, s230, s231, s232, s233, s234, h443, h444, h448, h441, m449, by omega, by omega, by exact rf_next hR hi0 (by simp; omega) (part_at hi0 (by omega)) (sp_neg b248 b369) (by rw [b419] <;> rfl) (by rw [b439] <;> rfl), by first | assumption | (simp only; omega), by first | assumption | (simp only; omega)⟩
          ·
           refine AWP.condF rfl b439 ?_
           refine AWP.skip ?_
           change AWP _ _ _ _ _ _
           refine AWP.region (l := [0, 1, 2]) rfl ?_
           refine AOps.cons rfl rfl (AOp.move (.int .i64 i) rfl s226 ?_)
           refine AOps.cons rfl rfl (AOp.bin (.int .i64 (i + 1)) rfl rfl rfl (iadd (by omega)) ?_)
           refine AOps.cons rfl rfl (AOp.assign (.int .i64 (i + 1)) rfl rfl ?_)
           refine AOps.nil ?_
           exact ⟨_, by omega, i + 1, (FracT.mk (at_ ([o.X, o.Y, o.Z] : List Int) i - (at_ ([b.Hi.X, b.Hi.Y, b.Hi.Z] : List Int) i)) (-(at_ ([d.X, d.Y, d.Z] : List Int) i))), hi, rfl, rfl, s227, s228, s229, s230, s231, s232, s233, s234, h432, h433, h437, h434, m438, by omega, by omega, by exact rf_next hR hi0 (by simp; omega) (part_at hi0 (by omega)) (sp_neg b248 b369) (by rw [b419] <;> rfl) (by rw [b439] <;> rfl), by first | assumption | (simp only; omega), by first | assumption | (simp only; omega)⟩
         ·
          refine AWP.condF rfl b419 ?_
          refine AWP.skip ?_
          change AWP _ _ _ _ _ _
          refine AWP.seq ?_
          refine AWP.region (l := [0, 1, 2]) rfl ?_
          refine AOps.cons rfl rfl (AOp.load (.agg [.int .i64 (at_ ([o.X, o.Y, o.Z] : List Int) i - (at_ ([b.Lo.X, b.Lo.Y, b.Lo.Z] : List Int) i)), .int .i64 (-(at_ ([d.X, d.Y, d.Z] : List Int) i))]) rfl rfl ty_46 h417 rfl ?_)
          refine AOps.cons rfl rfl (AOp.load (.agg [.int .i64 hi.N, .int .i64 hi.D]) rfl s234 ty_46 h415 rfl ?_)
          refine AOps.cons rfl rfl (AOp.pcall («as» := [.agg [.int .i64 (at_ ([o.X, o.Y, o.Z] : List Int) i - (at_ ([b.Lo.X, b.Lo.Y, b.Lo.Z] : List Int) i)), .int .i64 (-(at_ ([d.X, d.Y, d.Z] : List Int) i))], .agg [.int .i64 hi.N, .int .i64 hi.D]]) rfl rfl (rfl) tf_38 (c_ref04_less (FracT.mk (at_ ([o.X, o.Y, o.Z] : List Int) i - (at_ ([b.Lo.X, b.Lo.Y, b.Lo.Z] : List Int) i)) (-(at_ ([d.X, d.Y, d.Z] : List Int) i))) hi (by first | omega | (simp only; omega)) (by first | omega | (simp only; omega))) ?_)
          intro H450 m451
          have h452 := m451 _ _ h412
          have h453 := m451 _ _ h413
          have h454 := m451 _ _ h414
          have h455 := m451 _ _ h415
          have h456 := m451 _ _ h416
          have h457 := m451 _ _ h417
          have m458 := m418.trans m451
          refine AOps.nil ?_
          change AWP _ _ _ _ _ _
          rcases Bool.eq_false_or_eq_true (R_ref04_less (FracT.mk (at_ ([o.X, o.Y, o.Z] : List Int) i - (at_ ([b.Lo.X, b.Lo.Y, b.Lo.Z] : List Int) i)) (-(at_ ([d.X, d.Y, d.Z] : List Int) i))) hi) with b459 | b459
          ·
           refine AWP.condT rfl b459 ?_
           refine AWP.region (l := [0, 1]) rfl ?_
           refine AOps.cons rfl rfl (AOp.load (.agg [.int .i64 (at_ ([o.X, o.Y, o.Z] : List Int) i - (at_ ([b.Lo.X, b.Lo.Y, b.Lo.Z] : List Int) i)), .int .i64 (-(at_ ([d.X, d.Y, d.Z] : List Int) i))]) rfl rfl ty_46 h457 rfl ?_)
           refine AOps.cons rfl rfl (AOp.store' (cells' := [.int .i64 (at_ ([o.X, o.Y, o.Z] : List Int) i - (at_ ([b.Lo.X, b.Lo.Y, b.Lo.Z] : List Int) i)), .int .i64 (-(at_ ([d.X, d.Y, d.Z] : List Int) i))]) (.agg [.int .i64 (at_ ([o.X, o.Y, o.Z] : List Int) i - (at_ ([b.Lo.X, b.Lo.Y, b.Lo.Z] : List Int) i)), .int .i64 (-(at_ ([d.X, d.Y, d.Z] : List Int) i))]) s234 rfl ts_46 h455 rfl rfl rfl rfl ?_)
           intro H460 h461 k462
           have h463 := keep k462 e207 h452
           have h464 := keep k462 e208 h453
           have h465 := keep k462 e209 h454
           have h467 := keep k462 (Ne.symm e323) h456
           have h468 := keep k462 (Ne.symm e349) h457
           have m469 := Mono.set m458 z210 k462
           refine AOps.nil ?_
           change AWP _ _ _ _ _ _
           refine AWP.region (l := [0, 1, 2]) rfl ?_
           refine AOps.cons rfl rfl (AOp.move (.int .i64 i) rfl s226 ?_)
           refine AOps.cons rfl rfl (AOp.bin (.int .i64 (i + 1)) rfl rfl rfl (iadd (by omega)) ?_)
           refine AOps.cons rfl rfl (AOp.assign (.int .i64 (i + 1)) rfl rfl ?_)
           refine AOps.nil ?_
           exact ⟨_, by omega, i + 1, lo, (FracT.mk (at_ ([o.X, o.Y, o.Z] : List Int) i - (at_ ([b.Lo.X, b.Lo.Y, b.Lo.Z] : List Int) i)) (-(at_ ([d.X, d.Y, d.Z] : List Int) i))), rfl, rfl, s227, s228, s229, s230, s231, s232, s233, s234, h463, h464, h465, h461, m469, by omega, by omega, by exact rf_next hR hi0 (by simp; omega) (part_at hi0 (by omega)) (sp_neg b248 b369) (by rw [b419] <;> rfl) (by rw [b459] <;> rfl), by first | assumption | (simp only; omega), by first | assumption | (simp only; omega)⟩
          ·
           refine AWP.condF rfl b459 ?_
           refine AWP.skip ?_
           change AWP _ _ _ _ _ _
           refine AWP.region (l := [0, 1, 2]) rfl ?_
           refine AOps.cons rfl rfl (AOp.move (.int .i64 i) rfl s226 ?_)
           refine AOps.cons rfl rfl (AOp.bin (.int .i64 (i + 1)) rfl rfl rfl (iadd (by omega)) ?_)
           refine AOps.cons rfl rfl (AOp.assign (.int .i64 (i + 1)) rfl rfl ?_)
           refine AOps.nil ?_
           exact ⟨_, by omega, i + 1, lo, hi, rfl, rfl, s227, s228, s229, s230, s231, s232, s233, s234, h452, h453, h454, h455, m458, by omega, by omega, by exact rf_next hR hi0 (by simp; omega) (part_at hi0 (by omega)) (sp_neg b248 b369) (by rw [b419] <;> rfl) (by rw [b459] <;> rfl), by first | assumption | (simp only; omega), by first | assumption | (simp only; omega)⟩
        ·
         refine AWP.condF rfl (decide_eq_false b369) ?_
         refine AWP.skip ?_
         change AWP _ _ _ _ _ _
         refine AWP.seq ?_
         refine AWP.seq ?_
         refine AWP.region (l := [0, 1, 2]) rfl ?_
         refine AOps.cons rfl rfl (AOp.load (.agg [.int .i64 lo.N, .int .i64 lo.D]) rfl s233 ty_46 h364 rfl ?_)
         refine AOps.cons rfl rfl (AOp.load (.agg [.int .i64 (at_ ([b.Lo.X, b.Lo.Y, b.Lo.Z] : List Int) i - (at_ ([o.X, o.Y, o.Z] : List Int) i)), .int .i64 (at_ ([d.X, d.Y, d.Z] : List Int) i)]) rfl rfl ty_46 h366 rfl ?_)
         refine AOps.cons rfl rfl (AOp.pcall («as» := [.agg [.int .i64 lo.N, .int .i64 lo.D], .agg [.int .i64 (at_ ([b.Lo.X, b.Lo.Y, b.Lo.Z] : List Int) i - (at_ ([o.X, o.Y, o.Z] : List Int) i)), .int .i64 (at_ ([d.X, d.Y, d.Z] : List Int) i)]]) rfl rfl (rfl) tf_38 (c_ref04_less lo (FracT.mk (at_ ([b.Lo.X, b.Lo.Y, b.Lo.Z] : List Int) i - (at_ ([o.X, o.Y, o.Z] : List Int) i)) (at_ ([d.X, d.Y, d.Z] : List Int) i)) (by first | omega | (simp only; omega)) (by first | omega | (simp only; omega))) ?_)
         intro H470 m471
         have h472 := m471 _ _ h362
         have h473 := m471 _ _ h363
         have h474 := m471 _ _ h364
         have h475 := m471 _ _ h365
         have h476 := m471 _ _ h366
         have h477 := m471 _ _ h360
         have m478 := m368.trans m471
         refine AOps.nil ?_
         change AWP _ _ _ _ _ _
         rcases Bool.eq_false_or_eq_true (R_ref04_less lo (FracT.mk (at_ ([b.Lo.X, b.Lo.Y, b.Lo.Z] : List Int) i - (at_ ([o.X, o.Y, o.Z] : List Int) i)) (at_ ([d.X, d.Y, d.Z] : List Int) i))) with b479 | b479
         ·
          refine AWP.condT rfl b479 ?_
          refine AWP.region (l := [0, 1]) rfl ?_
          refine AOps.cons rfl rfl (AOp.load (.agg [.int .i64 (at_ ([b.Lo.X, b.Lo.Y, b.Lo.Z] : List Int) i - (at_ ([o.X, o.Y, o.Z] : List Int) i)), .int .i64 (at_ ([d.X, d.Y, d.Z] : List Int) i)]) rfl rfl ty_46 h476 rfl ?_)
          refine AOps.cons rfl rfl (AOp.store' (cells' := [.int .i64 (at_ ([b.Lo.X, b.Lo.Y, b.Lo.Z] : List Int) i - (at_ ([o.X, o.Y, o.Z] : List Int) i)), .int .i64 (at_ ([d.X, d.Y, d.Z] : List Int) i)]) (.agg [.int .i64 (at_ ([b.Lo.X, b.Lo.Y, b.Lo.Z] : List Int) i - (at_ ([o.X, o.Y, o.Z] : List Int) i)), .int .i64 (at_ ([d.X, d.Y, d.Z] : List Int) i)]) s233 rfl ts_46 h474 rfl rfl rfl rfl ?_)
          intro H480 h481 k482
          have h483 := keep k482 e189 h472
          have h484 := keep k482 e190 h473
          have h486 := keep k482 (Ne.symm e209) h475
          have h487 := keep k482 (Ne.symm e322) h476
          have h488 := keep k482 (Ne.symm e348) h477
          have m489 := Mono.set m478 z191 k482
          refine AOps.nil ?_
          change AWP _ _ _ _ _ _
          refine AWP.seq ?_
          refine AWP.region (l := [0, 1, 2]) rfl ?_
          refine AOps.cons rfl rfl (AOp.load (.agg [.int .i64 (at_ ([b.Hi.X, b.Hi.Y, b.Hi.Z] : List Int) i - (at_ ([o.X, o.Y, o.Z] : List Int) i)), .int .i64 (at_ ([d.X, d.Y, d.Z] : List Int) i)]) rfl rfl ty_46 h488 rfl ?_)
          refine AOps.cons rfl rfl (AOp.load (.agg [.int .i64 hi.N, .int .i64 hi.D]) rfl s234 ty_46 h486 rfl ?_)
          refine AOps.cons rfl rfl (AOp.pcall («as» := [.agg [.int .i64 (at_ ([b.Hi.X, b.Hi.Y, b.Hi.Z] : List Int) i - (at_ ([o.X, o.Y, o.Z] : List Int) i)), .int .i64 (at_ ([d.X, d.Y, d.Z] : List Int) i)], .agg [.int .i64 hi.N, .int .i64 hi.D]]) rfl rfl (rfl) tf_38 (c_ref04_less (FracT.mk (at_ ([b.Hi.X, b.Hi.Y, b.Hi.Z] : List Int) i - (at_ ([o.X, o.Y, o.Z] : List Int) i)) (at_ ([d.X, d.Y, d.Z] : List Int) i)) hi (by first | omega | (simp only; omega)) (by first | omega | (simp only; omega))) ?_)
          intro H490 m491
          have h492 := m491 _ _ h483
          have h493 := m491 _ _ h484
          have h494 := m491 _ _ h486
          have h495 := m491 _ _ h487
          have h496 := m491 _ _ h488
          have h497 := m491 _ _ h481
          have m498 := m489.trans m491
          refine AOps.nil ?_
          change AWP _ _ _ _ _ _
          rcases Bool.eq_false_or_eq_true (R_ref04_less (FracT.mk (at_ ([b.Hi.X, b.Hi.Y, b.Hi.Z] : List Int) i - (at_ ([o.X, o.Y, o.Z] : List Int) i)) (at_ ([d.X, d.Y, d.Z] : List Int) i)) hi) with b499 | b499
          ·
           refine AWP.condT rfl b499 ?_
           refine AWP.region (l := [0, 1]) rfl ?_
           refine AOps.cons rfl rfl (AOp.load (.agg [.int .i64 (at_ ([b.Hi.X, b.Hi.Y, b.Hi.Z] : List Int) i - (at_ ([o.X, o.Y, o.Z] : List Int) i)), .int .i64 (at_ ([d.X, d.Y, d.Z] : List Int) i)]) rfl rfl ty_46 h496 rfl ?_)
           refine AOps.cons rfl rfl (AOp.store' (cells' := [.int .i64 (at_ ([b.Hi.X, b.Hi.Y, b.Hi.Z] : List Int) i - (at_ ([o.X, o.Y, o.Z] : List Int) i)), .int .i64 (at_ ([d.X, d.Y, d.Z] : List Int) i)]) (.agg [.int .i64 (at_ ([b.Hi.X, b.Hi.Y, b.Hi.Z] : List Int) i - (at_ ([o.X, o.Y, o.Z] : List Int) i)), .int .i64 (at_ ([d.X, d.Y, d.Z] : List Int) i)]) s234 rfl ts_46 h494 rfl rfl rfl rfl ?_)
           intro H500 h501 k502
           have h503 := keep k502 e207 h492
           have h504 := keep k502 e208 h493
           have h506 := keep k502 (Ne.symm e323) h495
           have h507 := keep k502 (Ne.symm e349) h496
           have h508 := keep k502 e209 h497
           have m509 := Mono.set m498 z210 k502
           refine AOps.nil ?_
           change AWP _ _ _ _ _ _
           refine AWP.region (l := [0, 1, 2]) rfl ?_
           refine AOps.cons rfl rfl (AOp.move (.int .i64 i) rfl s226 ?_)
           refine AOps.cons rfl rfl (AOp.bin (.int .i64 (i + 1)) rfl rfl rfl (iadd (by omega)) ?_)
           refine AOps.cons rfl rfl (AOp.assign (.int .i64 (i + 1)) rfl rfl ?_)
           refine AOps.nil ?_
           exact ⟨_, by omega, i + 1, (FracT.mk (at_ ([b.Lo.X, b.Lo.Y, b.Lo.Z] : List Int) i - (at_ ([o.X, o.Y, o.Z] : List Int) i)) (at_ ([d.X, d.Y, d.Z] : List Int) i)), (FracT.mk (at_ ([b.Hi.X, b.Hi.Y, b.Hi.Z] : List Int) i - (at_ ([o.X, o.Y, o.Z] : List Int) i)) (at_ ([d.X, d.Y, d.Z] : List Int) i)), rfl, rfl, s227, s228, s229, s230, s231, s232, s233, s234, h503, h504, h508, h501, m509, by omega, by omega, by exact rf_next hR hi0 (by simp; omega) (part_at hi0 (by omega)) (sp_pos b248 b265 b369) (by rw [b479] <;> rfl) (by rw [b499] <;> rfl), by first | assumption | (simp only; omega), by first | assumption | (simp only; omega)⟩
          ·
           refine AWP.condF rfl b499 ?_
           refine AWP.skip ?_
           change AWP _ _ _ _ _ _
           refine AWP.region (l := [0, 1, 2]) rfl ?_
           refine AOps.cons rfl rfl (AOp.move (.int .i64 i) rfl s226 ?_)
           refine AOps.cons rfl rfl (AOp.bin (.int .i64 (i + 1)) rfl rfl rfl (iadd (by omega)) ?_)
           refine AOps.cons rfl rfl (AOp.assign (.int .i64 (i + 1)) rfl rfl ?_)
           refine AOps.nil ?_
           exact ⟨_, by omega, i + 1, (FracT.mk (at_ ([b.Lo.X, b.Lo.Y, b.Lo.Z] : List Int) i - (at_ ([o.X, o.Y, o.Z] : List Int) i)) (at_ ([d.X, d.Y, d.Z] : List Int) i)), hi, rfl, rfl, s227, s228, s229, s230, s231, s232, s233, s234, h492, h493, h497, h494, m498, by omega, by omega, by exact rf_next hR hi0 (by simp; omega) (part_at hi0 (by omega)) (sp_pos b248 b265 b369) (by rw [b479] <;> rfl) (by rw [b499] <;> rfl), by first | assumption | (simp only; omega), by first | assumption | (simp only; omega)⟩
         ·
          refine AWP.condF rfl b479 ?_
          refine AWP.skip ?_
          change AWP _ _ _ _ _ _
          refine AWP.seq ?_
          refine AWP.region (l := [0, 1, 2]) rfl ?_
          refine AOps.cons rfl rfl (AOp.load (.agg [.int .i64 (at_ ([b.Hi.X, b.Hi.Y, b.Hi.Z] : List Int) i - (at_ ([o.X, o.Y, o.Z] : List Int) i)), .int .i64 (at_ ([d.X, d.Y, d.Z] : List Int) i)]) rfl rfl ty_46 h477 rfl ?_)
          refine AOps.cons rfl rfl (AOp.load (.agg [.int .i64 hi.N, .int .i64 hi.D]) rfl s234 ty_46 h475 rfl ?_)
          refine AOps.cons rfl rfl (AOp.pcall («as» := [.agg [.int .i64 (at_ ([b.Hi.X, b.Hi.Y, b.Hi.Z] : List Int) i - (at_ ([o.X, o.Y, o.Z] : List Int) i)), .int .i64 (at_ ([d.X, d.Y, d.Z] : List Int) i)], .agg [.int .i64 hi.N, .int .i64 hi.D]]) rfl rfl (rfl) tf_38 (c_ref04_less (FracT.mk (at_ ([b.Hi.X, b.Hi.Y, b.Hi.Z] : List Int) i - (at_ ([o.X, o.Y, o.Z] : List Int) i)) (at_ ([d.X, d.Y, d.Z] : List Int) i)) hi (by first | omega | (simp only; omega)) (by first | omega | (simp only; omega))) ?_)
          intro H510 m511
          have h512 := m511 _ _ h472
          have h513 := m511 _ _ h473
          have h514 := m511 _ _ h474
          have h515 := m511 _ _ h475
          have h516 := m511 _ _ h476
          have h517 := m511 _ _ h477
          have m518 := m478.trans m511
          refine AOps.nil ?_
          change AWP _ _ _ _ _ _
          rcases Bool.eq_false_or_eq_true (R_ref04_less (FracT.mk (at_ ([b.Hi.X, b.Hi.Y, b.Hi.Z] : List Int) i - (at_ ([o.X, o.Y, o.Z] : List Int) i)) (at_ ([d.X, d.Y, d.Z] : List Int) i)) hi) with b519 | b519
          ·
           refine AWP.condT rfl b519 ?_
           refine AWP.region (l := [0, 1]) rfl ?_
           refine AOps.cons rfl rfl (AOp.load (.agg [.int .i64 (at_ ([b.Hi.X, b.Hi.Y, b.Hi.Z] : List Int) i - (at_ ([o.X, o.Y, o.Z] : List Int) i)), .int .i64 (at_ ([d.X, d.Y, d.Z] : List Int) i)]) rfl rfl ty_46 h517 rfl ?_)
           refine AOps.cons rfl rfl (AOp.store' (cells' := [.int .i64 (at_ ([b.Hi.X, b.Hi.Y, b.Hi.Z] : List Int) i - (at_ ([o.X, o.Y, o.Z] : List Int) i)), .int .i64 (at_ ([d.X, d.Y, d.Z] : List Int) i)]) (.agg [.int .i64 (at_ ([b.Hi.X, b.Hi.Y, b.Hi.Z] : List Int) i - (at_ ([o.X, o.Y, o.Z] : List Int) i)), .int .i64 (at_ ([d.X, d.Y, d.Z] : List Int) i)]) s234 rfl ts_46 h515 rfl rfl rfl rfl ?_)
           intro H520 h521 k522
           have h523 := keep k522 e207 h512
           have h524 := keep k522 e208 h513
           have h525 := keep k522 e209 h514
           have h527 := keep k522 (Ne.symm e323) h516
           have h528 := keep k522 (Ne.symm e349) h517
           have m529 := Mono.set m518 z210 k522
           refine AOps.nil ?_
           change AWP _ _ _ _ _ _
           refine AWP.region (l := [0, 1, 2]) rfl ?_
           refine AOps.cons rfl rfl (AOp.move (.int .i64 i) rfl s226 ?_)
           refine AOps.cons rfl rfl (AOp.bin (.int .i64 (i + 1)) rfl rfl rfl (iadd (by omega)) ?_)
           refine AOps.cons rfl rfl (AOp.assign (.int .i64 (i + 1)) rfl rfl ?_)
           refine AOps.nil ?_
           exact ⟨_, by omega, i + 1, lo, (FracT.mk (at_ ([b.Hi.X, b.Hi.Y, b.Hi.Z] : List Int) i - (at_ ([o.X, o.Y, o.Z] : List Int) i)) (at_ ([d.X, d.Y, d.Z] : List Int) i)), rfl, rfl, s227, s228, s229, s230, s231, s232, s233, s234, h523, h524, h525, h521, m529, by omega, by omega, by exact rf_next hR hi0 (by simp; omega) (part_at hi0 (by omega)) (sp_pos b248 b265 b369) (by rw [b479] <;> rfl) (by rw [b519] <;> rfl), by first | assumption | (simp only; omega), by first | assumption | (simp only; omega)⟩
          ·
           refine AWP.condF rfl b519 ?_
           refine AWP.skip ?_
           change AWP _ _ _ _ _ _
           refine AWP.region (l := [0, 1, 2]) rfl ?_
           refine AOps.cons rfl rfl (AOp.move (.int .i64 i) rfl s226 ?_)
           refine AOps.cons rfl rfl (AOp.bin (.int .i64 (i + 1)) rfl rfl rfl (iadd (by omega)) ?_)
           refine AOps.cons rfl rfl (AOp.assign (.int .i64 (i + 1)) rfl rfl ?_)
           refine AOps.nil ?_
           exact ⟨_, by omega, i + 1, lo, hi, rfl, rfl, s227, s228, s229, s230, s231, s232, s233, s234, h512, h513, h514, h515, m518, by omega, by omega, by exact rf_next hR hi0 (by simp; omega) (part_at hi0 (by omega)) (sp_pos b248 b265 b369) (by rw [b479] <;> rfl) (by rw [b519] <;> rfl), by first | assumption | (simp only; omega), by first | assumption | (simp only; omega)⟩
     ·
      refine AWP.condF rfl (decide_eq_false b240) ?_
      refine AWP.exit ?_
      change AWP _ _ _ _ _ _
      refine AWP.seq ?_
      refine AWP.seq ?_
      refine AWP.region (l := [0, 1, 2]) rfl ?_
      refine AOps.cons rfl rfl (AOp.load (.agg [.int .i64 hi.N, .int .i64 hi.D]) rfl s234 ty_46 h238 rfl ?_)
      refine AOps.cons rfl rfl (AOp.load (.agg [.int .i64 lo.N, .int .i64 lo.D]) rfl s233 ty_46 h237 rfl ?_)
      refine AOps.cons rfl rfl (AOp.pcall («as» := [.agg [.int .i64 hi.N, .int .i64 hi.D], .agg [.int .i64 lo.N, .int .i64 lo.D]]) rfl rfl (rfl) tf_38 (c_ref04_less hi lo (by first | omega | (simp only; omega)) (by first | omega | (simp only; omega))) ?_)
      intro H530 m531
      have h532 := m531 _ _ h235
      have h533 := m531 _ _ h236
      have h534 := m531 _ _ h237
      have h535 := m531 _ _ h238
      have m536 := m239.trans m531
      refine AOps.nil ?_
      change AWP _ _ _ _ _ _
      rcases Bool.eq_false_or_eq_true (R_ref04_less hi lo) with b537 | b537
      ·
       refine AWP.condT rfl b537 ?_
       refine AWP.seq ?_
       refine AWP.region (l := [0, 1, 2, 3, 4, 5]) rfl ?_
       refine AOps.cons rfl rfl (AOp.build (cells := [.int .i64 0, .int .i64 0]) rfl tz_46 pl_46 rfl rfl ?_)
       refine AOps.cons rfl rfl (AOp.build (cells := [.int .i64 0, .int .i64 0]) rfl tz_46 pl_46 rfl rfl ?_)
       refine AOps.cons rfl rfl (AOp.store' (cells' := [.int .i64 0, .int .i64 0]) (.agg [.int .i64 0, .int .i64 0]) s227 rfl ts_46 h532 rfl rfl rfl rfl ?_)
       intro H538 h539 k540
       have h542 := keep k540 (Ne.symm e49) h533
       have h543 := keep k540 (Ne.symm e189) h534
       have h544 := keep k540 (Ne.symm e207) h535
       have m545 := Mono.set m536 z36 k540
       refine AOps.cons rfl rfl (AOp.store' (cells' := [.int .i64 0, .int .i64 0]) (.agg [.int .i64 0, .int .i64 0]) s228 rfl ts_46 h542 rfl rfl rfl rfl ?_)
       intro H546 h547 k548
       have h550 := keep k548 (Ne.symm e190) h543
       have h551 := keep k548 (Ne.symm e208) h544
       have h552 := keep k548 e49 h539
       have m553 := Mono.set m545 z50 k548
       refine AOps.cons rfl rfl (AOp.assign (.bool false) rfl rfl ?_)
       refine AOps.cons rfl rfl (AOp.assign (.int .i64 0) rfl rfl ?_)
       refine AOps.nil ?_
       change AWP _ _ _ _ _ _
       refine AWP.ret ?_
       refine ⟨_, _, Ghost.refl, .inr rfl, _, Res.list rfl rfl (.cell (v := .agg [.int .i64 0, .int .i64 0]) s227 ty_46 h552 rfl (.cell (v := .agg [.int .i64 0, .int .i64 0]) s228 ty_46 h547 rfl (.tmp rfl (.tmp rfl (.nil))))), ?_, m553⟩
       exact congrArg AV.tup (lc (congrArg AV.agg (lc (congrArg (AV.int .i64) (show (0 : Int) = ((rangeF o d b).1).N from by rw [rangeF_ok (okR gb g3 g4), rrange_some (fold_done hR.hf (by simp; omega)) hR.hp hR.hu, if_pos b537])) (lc (congrArg (AV.int .i64) (show (0 : Int) = ((rangeF o d b).1).D from by rw [rangeF_ok (okR gb g3 g4), rrange_some (fold_done hR.hf (by simp; omega)) hR.hp hR.hu, if_pos b537])) rfl))) (lc (congrArg AV.agg (lc (congrArg (AV.int .i64) (show (0 : Int) = ((rangeF o d b).2.1).N from by rw [rangeF_ok (okR gb g3 g4), rrange_some (fold_done hR.hf (by simp; omega)) hR.hp hR.hu, if_pos b537])) (lc (congrArg (AV.int .i64) (show (0 : Int) = ((rangeF o d b).2.1).D from by rw [rangeF_ok (okR gb g3 g4), rrange_some (fold_done hR.hf (by simp; omega)) hR.hp hR.hu, if_pos b537])) rfl))) (lc (congrArg AV.bool (show (false : Bool) = (rangeF o d b).2.2.1 from by rw [rangeF_ok (okR gb g3 g4), rrange_some (fold_done hR.hf (by simp; omega)) hR.hp hR.hu, if_pos b537])) (lc (congrArg (AV.int .i64) (show (0 : Int) = (rangeF o d b).2.2.2 from by rw [rangeF_ok (okR gb g3 g4), rrange_some (fold_done hR.hf (by simp; omega)) hR.hp hR.hu, if_pos b537])) rfl))))
      ·
       refine AWP.condF rfl b537 ?_
       refine AWP.skip ?_
       change AWP _ _ _ _ _ _
       refine AWP.seq ?_
       refine AWP.region_str mixed (by kernel_rfl) [(0, none), (1, none), (2, some [1])] [3, 4, 5] (by kernel_rfl) ?_
       refine STR.op rfl rfl (.inl ⟨rfl, fun H1 f' H' hf hN hM => AOp.load (.agg [.int .i64 lo.N, .int .i64 lo.D]) rfl ((hf 14 rfl).trans s233) ty_46 (hM _ _ h534) rfl ⟨rfl, hN⟩⟩) ?_
       refine STR.op rfl rfl (.inl ⟨rfl, fun H1 f' H' hf hN hM => AOp.load (.agg [.int .i64 hi.N, .int .i64 hi.D]) rfl ((hf 15 rfl).trans s234) ty_46 (hM _ _ h535) rfl ⟨rfl, hN⟩⟩) ?_
       refine STR.st rfl rfl rfl fun f554 H555 hf556 m557 => ?_
       have h558 := m557 _ _ h532
       have h559 := m557 _ _ h533
       have h560 := m557 _ _ h534
       have h561 := m557 _ _ h535
       have m562 := m536.trans m557
       refine AOp.store' (cells' := [.int .i64 lo.N, .int .i64 lo.D]) (.agg [.int .i64 lo.N, .int .i64 lo.D]) ((hf556 6 rfl).trans s227) ((hf556 171 rfl).trans rfl) ts_46 h558 rfl rfl rfl rfl ?_
       intro H563 h564 k565
       have h567 := keep k565 (Ne.symm e49) h559
       have h568 := keep k565 (Ne.symm e189) h560
       have h569 := keep k565 (Ne.symm e207) h561
       have m570 := Mono.set m562 z36 k565
       refine ⟨rfl, .inr (RevR.cons rfl (.inl ⟨rfl, fun H1 f' H' hf hN hM => AOp.load (.agg [.int .i64 hi.N, .int .i64 hi.D]) rfl ((hf 15 rfl).trans s234) ty_46 (hM _ _ h569) rfl ⟨rfl, hN⟩⟩) (RevR.skip rfl RevR.nil)), ?_⟩
       refine STR.done fun H571 m572 => ?_
       have h573 := m572 _ _ h567
       have h574 := m572 _ _ h568
       have h575 := m572 _ _ h569
       have h576 := m572 _ _ h564
       have m577 := m570.trans m572
       refine AOps.cons rfl rfl (AOp.store' (cells' := [.int .i64 hi.N, .int .i64 hi.D]) (.agg [.int .i64 hi.N, .int .i64 hi.D]) s228 rfl ts_46 h573 rfl rfl rfl rfl ?_)
       intro H578 h579 k580
       have h582 := keep k580 (Ne.symm e190) h574
       have h583 := keep k580 (Ne.symm e208) h575
       have h584 := keep k580 e49 h576
       have m585 := Mono.set m577 z50 k580
       refine AOps.cons rfl rfl (AOp.assign (.bool true) rfl rfl ?_)
       refine AOps.cons rfl rfl (AOp.assign (.int .i64 0) rfl rfl ?_)
       refine AOps.nil ?_
       change AWP _ _ _ _ _ _
       refine AWP.ret ?_
       refine ⟨_, _, Ghost.refl, .inr rfl, _, Res.list rfl rfl (.cell (v := .agg [.int .i64 lo.N, .int .i64 lo.D]) s227 ty_46 h584 rfl (.cell (v := .agg [.int .i64 hi.N, .int .i64 hi.D]) s228 ty_46 h579 rfl (.tmp rfl (.tmp rfl (.nil))))), ?_, m585⟩
       exact congrArg AV.tup (lc (congrArg AV.agg (lc (congrArg (AV.int .i64) (show (lo.N : Int) = ((rangeF o d b).1).N from by rw [rangeF_ok (okR gb g3 g4), rrange_some (fold_done hR.hf (by simp; omega)) hR.hp hR.hu, if_neg (ff b537)])) (lc (congrArg (AV.int .i64) (show (lo.D : Int) = ((rangeF o d b).1).D from by rw [rangeF_ok (okR gb g3 g4), rrange_some (fold_done hR.hf (by simp; omega)) hR.hp hR.hu, if_neg (ff b537)])) rfl))) (lc (congrArg AV.agg (lc (congrArg (AV.int .i64) (show (hi.N : Int) = ((rangeF o d b).2.1).N from by rw [rangeF_ok (okR gb g3 g4), rrange_some (fold_done hR.hf (by simp; omega)) hR.hp hR.hu, if_neg (ff b537)])) (lc (congrArg (AV.int .i64) (show (hi.D : Int) = ((rangeF o d b).2.1).D from by rw [rangeF_ok (okR gb g3 g4), rrange_some (fold_done hR.hf (by simp; omega)) hR.hp hR.hu, if_neg (ff b537)])) rfl))) (lc (congrArg AV.bool (show (true : Bool) = (rangeF o d b).2.2.1 from by rw [rangeF_ok (okR gb g3 g4), rrange_some (fold_done hR.hf (by simp; omega)) hR.hp hR.hu, if_neg (ff b537)])) (lc (congrArg (AV.int .i64) (show (0 : Int) = (rangeF o d b).2.2.2 from by rw [rangeF_ok (okR gb g3 g4), rrange_some (fold_done hR.hf (by simp; omega)) hR.hp hR.hu, if_neg (ff b537)])) rfl))))
   ·
    refine AWP.condT rfl (nb b91) ?_
    refine AWP.seq ?_
    refine AWP.region (l := [0, 1, 2, 3, 4, 5]) rfl ?_
    refine AOps.cons rfl rfl (AOp.build (cells := [.int .i64 0, .int .i64 0]) rfl tz_46 pl_46 rfl rfl ?_)
    refine AOps.cons rfl rfl (AOp.build (cells := [.int .i64 0, .int .i64 0]) rfl tz_46 pl_46 rfl rfl ?_)
    refine AOps.cons rfl rfl (AOp.store' (cells' := [.int .i64 0, .int .i64 0]) (.agg [.int .i64 0, .int .i64 0]) rfl rfl ts_46 h88 rfl rfl rfl rfl ?_)
    intro H586 h587 k588
    have h590 := keep k588 (Ne.symm e49) h89
    have m591 := Mono.set m90 z36 k588
    refine AOps.cons rfl rfl (AOp.store' (cells' := [.int .i64 0, .int .i64 0]) (.agg [.int .i64 0, .int .i64 0]) rfl rfl ts_46 h590 rfl rfl rfl rfl ?_)
    intro H592 h593 k594
    have h596 := keep k594 e49 h587
    have m597 := Mono.set m591 z50 k594
    refine AOps.cons rfl rfl (AOp.assign (.bool false) rfl rfl ?_)
    refine AOps.cons rfl rfl (AOp.assign (.int .i64 21) rfl rfl ?_)
    refine AOps.nil ?_
    change AWP _ _ _ _ _ _
    refine AWP.ret ?_
    refine ⟨_, _, Ghost.refl, .inr rfl, _, Res.list rfl rfl (.cell (v := .agg [.int .i64 0, .int .i64 0]) rfl ty_46 h596 rfl (.cell (v := .agg [.int .i64 0, .int .i64 0]) rfl ty_46 h593 rfl (.tmp rfl (.tmp rfl (.nil))))), ?_, m597⟩
    exact congrArg AV.tup (lc (congrArg AV.agg (lc (congrArg (AV.int .i64) (show (0 : Int) = ((rangeF o d b).1).N from by rw [rangeF_bad (by rw [badR_eq]; simp [b79, b85, b91])])) (lc (congrArg (AV.int .i64) (show (0 : Int) = ((rangeF o d b).1).D from by rw [rangeF_bad (by rw [badR_eq]; simp [b79, b85, b91])])) rfl))) (lc (congrArg AV.agg (lc (congrArg (AV.int .i64) (show (0 : Int) = ((rangeF o d b).2.1).N from by rw [rangeF_bad (by rw [badR_eq]; simp [b79, b85, b91])])) (lc (congrArg (AV.int .i64) (show (0 : Int) = ((rangeF o d b).2.1).D from by rw [rangeF_bad (by rw [badR_eq]; simp [b79, b85, b91])])) rfl))) (lc (congrArg AV.bool (show (false : Bool) = (rangeF o d b).2.2.1 from by rw [rangeF_bad (by rw [badR_eq]; simp [b79, b85, b91])])) (lc (congrArg (AV.int .i64) (show (21 : Int) = (rangeF o d b).2.2.2 from by rw [rangeF_bad (by rw [badR_eq]; simp [b79, b85, b91])])) rfl))))
  ·
   refine AOps.no rfl rfl rfl rfl rfl rfl rfl (ble_of (nb b85) (by decide)) ?_
   refine AOps.no rfl rfl rfl rfl rfl rfl rfl (ble_of (nb b85) (by decide)) ?_
   refine AOps.no rfl rfl rfl rfl rfl rfl rfl (ble_of (nb b85) (by decide)) ?_
   refine AOps.no rfl rfl rfl rfl rfl rfl rfl (ble_of (nb b85) (by decide)) ?_
   refine AOps.cons rfl rfl (AOp.pickT (.bool true) rfl rfl (nb b85) rfl ?_)
   refine AOps.nil ?_
   change AWP _ _ _ _ _ _
   refine AWP.condT rfl rfl ?_
   refine AWP.seq ?_
   refine AWP.region (l := [0, 1, 2, 3, 4, 5]) rfl ?_
   refine AOps.cons rfl rfl (AOp.build (cells := [.int .i64 0, .int .i64 0]) rfl tz_46 pl_46 rfl rfl ?_)
   refine AOps.cons rfl rfl (AOp.build (cells := [.int .i64 0, .int .i64 0]) rfl tz_46 pl_46 rfl rfl ?_)
   refine AOps.cons rfl rfl (AOp.store' (cells' := [.int .i64 0, .int .i64 0]) (.agg [.int .i64 0, .int .i64 0]) rfl rfl ts_46 h82 rfl rfl rfl rfl ?_)
   intro H598 h599 k600
   have h602 := keep k600 (Ne.symm e49) h83
   have m603 := Mono.set m84 z36 k600
   refine AOps.cons rfl rfl (AOp.store' (cells' := [.int .i64 0, .int .i64 0]) (.agg [.int .i64 0, .int .i64 0]) rfl rfl ts_46 h602 rfl rfl rfl rfl ?_)
   intro H604 h605 k606
   have h608 := keep k606 e49 h599
   have m609 := Mono.set m603 z50 k606
   refine AOps.cons rfl rfl (AOp.assign (.bool false) rfl rfl ?_)
   refine AOps.cons rfl rfl (AOp.assign (.int .i64 21) rfl rfl ?_)
   refine AOps.nil ?_
   change AWP _ _ _ _ _ _
   refine AWP.ret ?_
   refine ⟨_, _, Ghost.refl, .inr rfl, _, Res.list rfl rfl (.cell (v := .agg [.int .i64 0, .int .i64 0]) rfl ty_46 h608 rfl (.cell (v := .agg [.int .i64 0, .int .i64 0]) rfl ty_46 h605 rfl (.tmp rfl (.tmp rfl (.nil))))), ?_, m609⟩
   exact congrArg AV.tup (lc (congrArg AV.agg (lc (congrArg (AV.int .i64) (show (0 : Int) = ((rangeF o d b).1).N from by rw [rangeF_bad (by rw [badR_eq]; simp [b79, b85])])) (lc (congrArg (AV.int .i64) (show (0 : Int) = ((rangeF o d b).1).D from by rw [rangeF_bad (by rw [badR_eq]; simp [b79, b85])])) rfl))) (lc (congrArg AV.agg (lc (congrArg (AV.int .i64) (show (0 : Int) = ((rangeF o d b).2.1).N from by rw [rangeF_bad (by rw [badR_eq]; simp [b79, b85])])) (lc (congrArg (AV.int .i64) (show (0 : Int) = ((rangeF o d b).2.1).D from by rw [rangeF_bad (by rw [badR_eq]; simp [b79, b85])])) rfl))) (lc (congrArg AV.bool (show (false : Bool) = (rangeF o d b).2.2.1 from by rw [rangeF_bad (by rw [badR_eq]; simp [b79, b85])])) (lc (congrArg (AV.int .i64) (show (21 : Int) = (rangeF o d b).2.2.2 from by rw [rangeF_bad (by rw [badR_eq]; simp [b79, b85])])) rfl))))
 ·
  refine AOps.no rfl rfl rfl rfl rfl rfl rfl (ble_of (nb b79) (by decide)) ?_
  refine AOps.no rfl rfl rfl rfl rfl rfl rfl (ble_of (nb b79) (by decide)) ?_
  refine AOps.no rfl rfl rfl rfl rfl rfl rfl (ble_of (nb b79) (by decide)) ?_
  refine AOps.no rfl rfl rfl rfl rfl rfl rfl (ble_of (nb b79) (by decide)) ?_
  refine AOps.cons rfl rfl (AOp.pickT (.bool true) rfl rfl (nb b79) rfl ?_)
  refine AOps.cons rfl rfl (AOp.move (.bool true) rfl rfl ?_)
  refine AOps.no rfl rfl rfl rfl rfl rfl rfl (ble_of rfl (by decide)) ?_
  refine AOps.no rfl rfl rfl rfl rfl rfl rfl (ble_of rfl (by decide)) ?_
  refine AOps.no rfl rfl rfl rfl rfl rfl rfl (ble_of rfl (by decide)) ?_
  refine AOps.no rfl rfl rfl rfl rfl rfl rfl (ble_of rfl (by decide)) ?_
  refine AOps.cons rfl rfl (AOp.pickT (.bool true) rfl rfl rfl rfl ?_)
  refine AOps.nil ?_
  change AWP _ _ _ _ _ _
  refine AWP.condT rfl rfl ?_
  refine AWP.seq ?_
  refine AWP.region (l := [0, 1, 2, 3, 4, 5]) rfl ?_
  refine AOps.cons rfl rfl (AOp.build (cells := [.int .i64 0, .int .i64 0]) rfl tz_46 pl_46 rfl rfl ?_)
  refine AOps.cons rfl rfl (AOp.build (cells := [.int .i64 0, .int .i64 0]) rfl tz_46 pl_46 rfl rfl ?_)
  refine AOps.cons rfl rfl (AOp.store' (cells' := [.int .i64 0, .int .i64 0]) (.agg [.int .i64 0, .int .i64 0]) rfl rfl ts_46 h76 rfl rfl rfl rfl ?_)
  intro H610 h611 k612
  have h614 := keep k612 (Ne.symm e49) h77
  have m615 := Mono.set m78 z36 k612
  refine AOps.cons rfl rfl (AOp.store' (cells' := [.int .i64 0, .int .i64 0]) (.agg [.int .i64 0, .int .i64 0]) rfl rfl ts_46 h614 rfl rfl rfl rfl ?_)
  intro H616 h617 k618
  have h620 := keep k618 e49 h611
  have m621 := Mono.set m615 z50 k618
  refine AOps.cons rfl rfl (AOp.assign (.bool false) rfl rfl ?_)
  refine AOps.cons rfl rfl (AOp.assign (.int .i64 21) rfl rfl ?_)
  refine AOps.nil ?_
  change AWP _ _ _ _ _ _
  refine AWP.ret ?_
  refine ⟨_, _, Ghost.refl, .inr rfl, _, Res.list rfl rfl (.cell (v := .agg [.int .i64 0, .int .i64 0]) rfl ty_46 h620 rfl (.cell (v := .agg [.int .i64 0, .int .i64 0]) rfl ty_46 h617 rfl (.tmp rfl (.tmp rfl (.nil))))), ?_, m621⟩
  exact congrArg AV.tup (lc (congrArg AV.agg (lc (congrArg (AV.int .i64) (show (0 : Int) = ((rangeF o d b).1).N from by rw [rangeF_bad (by rw [badR_eq]; simp [b79])])) (lc (congrArg (AV.int .i64) (show (0 : Int) = ((rangeF o d b).1).D from by rw [rangeF_bad (by rw [badR_eq]; simp [b79])])) rfl))) (lc (congrArg AV.agg (lc (congrArg (AV.int .i64) (show (0 : Int) = ((rangeF o d b).2.1).N from by rw [rangeF_bad (by rw [badR_eq]; simp [b79])])) (lc (congrArg (AV.int .i64) (show (0 : Int) = ((rangeF o d b).2.1).D from by rw [rangeF_bad (by rw [badR_eq]; simp [b79])])) rfl))) (lc (congrArg AV.bool (show (false : Bool) = (rangeF o d b).2.2.1 from by rw [rangeF_bad (by rw [badR_eq]; simp [b79])])) (lc (congrArg (AV.int .i64) (show (21 : Int) = (rangeF o d b).2.2.2 from by rw [rangeF_bad (by rw [badR_eq]; simp [b79])])) rfl))))
end Go.Proofs.B
namespace Go.Proofs.B
open Go Go.AH Go.Maps
set_option maxRecDepth 4000
/-! ### The document's axis -/
theorem mfold_step {f : Int → Int → Int} {bx : List BoxT} {a x : Int} {its : List Int} {i : Int} (h0 : 0 ≤ i) (h1 : i < its.length) : f ((midsF bx a (its.take i.toNat)).foldl f x) (mid a (at_ bx (at_ its i))) = (midsF bx a (its.take (i + 1).toNat)).foldl f x := by
  rw [← mids_step h0 h1, List.foldl_append]; rfl
theorem mfold_max {bx : List BoxT} {a : Int} {its : List Int} {i : Int} (hne : its ≠ []) (h : (its.length : Int) ≤ i) : (midsF bx a (its.take i.toNat)).foldl max (mid a (at_ bx (at_ its 0))) = maxL (midsF bx a its) := by
  rw [mids_all h]
  cases its with
  | nil => exact absurd rfl hne
  | cons x xs =>
    show (xs.map fun k => mid a (at_ bx k)).foldl max (max (mid a (at_ bx x)) (mid a (at_ bx x))) = (xs.map fun k => mid a (at_ bx k)).foldl max (mid a (at_ bx x))
    rw [Int.max_self]
theorem mfold_min {bx : List BoxT} {a : Int} {its : List Int} {i : Int} (hne : its ≠ []) (h : (its.length : Int) ≤ i) : (midsF bx a (its.take i.toNat)).foldl min (mid a (at_ bx (at_ its 0))) = minL (midsF bx a its) := by
  rw [mids_all h]
  cases its with
  | nil => exact absurd rfl hne
  | cons x xs =>
    show (xs.map fun k => mid a (at_ bx k)).foldl min (min (mid a (at_ bx x)) (mid a (at_ bx x))) = (xs.map fun k => mid a (at_ bx k)).foldl min (mid a (at_ bx x))
    rw [Int.min_self]
/-! ### The document's sort -/
theorem insAt_perm {srt : List Int} {x k : Int} {l : List Int} (h0 : 0 ≤ k) (hp : srt.Perm l) : (srt.take k.toNat ++ [x] ++ srt.drop k.toNat).Perm (l ++ [x]) := by
  have e : (srt.take k.toNat ++ [x] ++ srt.drop k.toNat).Perm (x :: (srt.take k.toNat ++ srt.drop k.toNat)) := by
    rw [List.append_assoc, List.singleton_append]; exact List.perm_middle
  rw [List.take_append_drop] at e
  exact e.trans ((hp.cons x).trans (List.perm_append_singleton x l).symm)
theorem at_get {l : List Int} {j : Nat} (h : j < l.length) : at_ l (j : Int) = l[j] := by simp [at_, h]
theorem insAt_sorted {lt : Int → Int → Bool} (ht : TotL lt) {srt : List Int} {x k : Int} (h0 : 0 ≤ k) (h1 : k ≤ srt.length) (hs : SortedL lt srt) (hg : ∀ j : Int, k ≤ j → j < srt.length → lt x (at_ srt j) = true) (hl : k = 0 ∨ lt x (at_ srt (k - 1)) = false) : SortedL lt (srt.take k.toNat ++ [x] ++ srt.drop k.toNat) := by
  unfold SortedL at *
  have hs2 := hs
  rw [← List.take_append_drop k.toNat srt, List.pairwise_append] at hs2
  obtain ⟨p1, p2, p3⟩ := hs2
  have hafter : ∀ z ∈ srt.drop k.toNat, lt z x = false := fun z hz => by
    obtain ⟨j, hj, rfl⟩ := List.getElem_of_mem hz
    rw [List.length_drop] at hj
    have := hg ((k.toNat + j : Nat) : Int) (by omega) (by omega)
    rw [at_get (by omega)] at this
    rw [List.getElem_drop]
    exact ht.asym _ _ this
  have hbefore : ∀ z ∈ srt.take k.toNat, lt x z = false := fun z hz => by
    by_cases hk : k = 0
    · rw [hk] at hz; exact absurd hz (by simp)
    · rcases hl with hl | hl
      · exact absurd hl hk
      · obtain ⟨j, hj, rfl⟩ := List.getElem_of_mem hz
        rw [List.length_take] at hj
        rw [List.getElem_take]
        have hlast : (k - 1).toNat < srt.length := by omega
        have e : at_ srt (k - 1) = srt[(k - 1).toNat] := by have q := at_get hlast; rwa [Int.toNat_of_nonneg (by omega : 0 ≤ k - 1)] at q
        rw [e] at hl
        by_cases hj2 : j = (k - 1).toNat
        · subst hj2; exact hl
        · have := List.pairwise_iff_getElem.1 hs j (k - 1).toNat (by omega) hlast (by omega)
          exact ht.neg _ _ _ this hl
  rw [List.append_assoc, List.singleton_append, List.pairwise_append]
  refine ⟨p1, List.pairwise_cons.2 ⟨hafter, p2⟩, fun z hz y hy => ?_⟩
  rcases List.mem_cons.1 hy with rfl | hy
  · exact hbefore z hz
  · exact p3 z hz y hy
theorem srt_done {bx : List BoxT} {a : Int} {srt its : List Int} {i : Int} (h : (its.length : Int) ≤ i) (hs : SortedL (keyLt bx a) srt) (hp : srt.Perm (its.take i.toNat)) : srt = isort (keyLt bx a) its := by
  rw [take_all h] at hp
  exact sorted_unique (keyLt_tot bx a) (hp.trans (isort_perm _ _).symm) hs (isort_sorted (keyLt_tot bx a) _)
theorem key_T {bx : List BoxT} {a x y : Int} (h : mid a (at_ bx y) > mid a (at_ bx x) ∨ (mid a (at_ bx y) = mid a (at_ bx x) ∧ y > x)) : keyLt bx a x y = true := by
  unfold keyLt; rw [decide_eq_true_eq]; omega
theorem key_F {bx : List BoxT} {a x y : Int} (h : ¬ (mid a (at_ bx y) > mid a (at_ bx x) ∨ (mid a (at_ bx y) = mid a (at_ bx x) ∧ y > x))) : keyLt bx a x y = false := by
  unfold keyLt; rw [decide_eq_false_iff_not]; omega
theorem hg_step {lt : Int → Int → Bool} {srt : List Int} {x k : Int} (hg : ∀ j : Int, k ≤ j → j < srt.length → lt x (at_ srt j) = true) (h : lt x (at_ srt (k - 1)) = true) : ∀ j : Int, k - 1 ≤ j → j < srt.length → lt x (at_ srt j) = true := fun j h1 h2 => by
  by_cases e : j = k - 1
  · subst e; exact h
  · exact hg j (by omega) h2
/-! ### The document's tree, by value -/
structure GT (B : Heap) (N : List NodeT) (I : List Int) (Nv Iv : AV) (H : Heap) : Prop where
  hm : Mono B H
  oN : Own B H 10 Nv N.length (N.flatMap eNode)
  oI : Own B H 1 Iv I.length (I.map eI)
  sep : Sep Nv Iv
def GTR (B : Heap) (N : List NodeT) (I : List Int) (T : BT) (r : AV) (H' : Heap) : Prop := ∃ Nv Iv, r = .agg [Nv, Iv] ∧ GT B (N ++ flatN T N.length I.length) (I ++ T.items) Nv Iv H'
def RGrowOK (bx : List BoxT) (leaf : Int) (f : Nat) : Prop := ∀ (its : List Int), its ≠ [] → its.length ≤ 2 ^ f → its.length ≤ 1048576 → (∀ k ∈ its, 0 ≤ k ∧ k < bx.length) →
  ∀ {B H : Heap} {N : List NodeT} {I : List Int} {Nv Iv : AV}, N.length + 2 * its.length ≤ 2147483648 → I.length + its.length ≤ 2147483648 → GT B N I Nv Iv H →
  ACalls Try.prog 22 [.agg [Nv, Iv], .sl bx.length (bx.flatMap eBox), .sl its.length (its.map eI), .int .i64 leaf, .int .i64 (f : Int)] H (GTR B N I (growT bx leaf f its))
theorem GT.down {B : Heap} {N : List NodeT} {I : List Int} {Nv Iv : AV} {H : Heap} (h : GT B N I Nv Iv H) : GT (baseOf H [] Nv Iv) N I Nv Iv H := ⟨base_mono _ _ _ _, h.oN.toBase (.inl rfl), h.oI.toBase (.inr rfl), h.sep⟩
theorem GT.up {B : Heap} {N N' : List NodeT} {I I' : List Int} {Nv Iv Nv' Iv' : AV} {H H' : Heap} (h : GT B N I Nv Iv H) (g : GT (baseOf H [] Nv Iv) N' I' Nv' Iv' H') : GT B N' I' Nv' Iv' H' :=
  ⟨mono_fromBase g.hm h.hm (by simp) h.oN h.oI, g.oN.fromBase h.hm (by simp) h.oN h.oI, g.oI.fromBase h.hm (by simp) h.oN h.oI, g.sep⟩
theorem GT.other {N' : List NodeT} {I' : List Int} {Nv Iv Nv' Iv' : AV} {H H' : Heap} (g : GT (baseOf H [] Nv Iv) N' I' Nv' Iv' H') {j : Nat} {X : AB} (hj : H j = some X) (n3 : NotId Nv j) (n4 : NotId Iv j) : H' j = some X ∧ NotId Nv' j ∧ NotId Iv' j := by
  have e : baseOf H [] Nv Iv j = some X := by rw [base_get (by simp) n3 n4]; exact hj
  exact ⟨g.hm j X e, Own.free g.oN e, Own.free g.oI e⟩
theorem growT_node' {bx : List BoxT} {leaf : Int} {f g : Nat} {its srt : List Int} (hs : srt = isort (keyLt bx (axisR bx its)) its) (hg : g + 1 = f) (h : ¬ (its.length : Int) ≤ leaf) : growT bx leaf f its = .node (hull bx its) (growT bx leaf g (srt.take ((its.length + 1) / 2))) (growT bx leaf g (srt.drop ((its.length + 1) / 2))) := by
  subst hs; exact growT_node hg h
end Go.Proofs.B
namespace Go.Proofs.B
open Go Go.AH
set_option maxRecDepth 4000
set_option linter.unusedSimpArgs false
set_option linter.unusedVariables false
theorem c_rAxis (bx : List BoxT) (hok : ∀ b ∈ bx, okBox b) (its : List Int) (h_bx : bx.length ≤ 1048576) (hl : its.length ≤ 1048576) (hne : its ≠ []) (hin : ∀ k ∈ its, 0 ≤ k ∧ k < bx.length) : PC Try.prog 35 [.sl bx.length (bx.flatMap eBox), .sl its.length (its.map eI)] (.int .i64 (axisR bx its)) := by
 intro H0
 have hpos := List.length_pos_iff.2 hne
 refine ACalls.of_body' (n := 62) rfl rfl rfl rfl ?_
 have m0 := Mono.refl H0
 refine AWP.seq ?_
 refine AWP.region (l := [0]) rfl ?_
 refine AOps.cons rfl rfl (AOp.assign (.int .i64 0) rfl rfl ?_)
 refine AOps.nil ?_
 change AWP _ _ _ _ _ _
 refine AWP.seq ?_
 refine AWP.region (l := [0]) rfl ?_
 refine AOps.cons rfl rfl (AOp.assign (.int .i64 0) rfl rfl ?_)
 refine AOps.nil ?_
 change AWP _ _ _ _ _ _
 refine AWP.seq ?_
 refine AWP.region (l := [0]) rfl ?_
 refine AOps.cons rfl rfl (AOp.assign (.int .i64 (-1)) rfl rfl ?_)
 refine AOps.nil ?_
 change AWP _ _ _ _ _ _
 refine AWP.seq ?_
 refine AWP.seq ?_
 refine AWP.region (l := [0]) rfl ?_
 refine AOps.cons rfl rfl (AOp.assign (.int .i64 0) rfl rfl ?_)
 refine AOps.nil ?_
 change AWP _ _ _ _ _ _
 refine AWP.block ?_
 refine AWP.loop (fun q1 fq Hq => ∃ (a : Int) (best : Int) (far : Int), q1 = ((3 : Int) - a).toNat ∧ fq 7 = .int .i64 a ∧ fq 5 = .int .i64 best ∧ fq 6 = .int .i64 far ∧ fq 0 = .sl bx.length (bx.flatMap eBox) ∧ fq 1 = .sl its.length (its.map eI) ∧ fq 4 = .int .i64 0 ∧ Mono H0 Hq ∧ (0 ≤ a) ∧ (a ≤ 3) ∧ (axFrom bx its a (best, far) = axFrom bx its 0 (0, -1)) ∧ (0 ≤ best ∧ best ≤ 2)) (k := ((3 : Int) - 0).toNat) ?_ ?_
 ·
  exact ⟨0, 0, -1, rfl, rfl, rfl, rfl, rfl, rfl, rfl, m0, by omega, by omega, by rfl, by omega⟩
 ·
  rintro _ f3 H2 ⟨a, best, far, rfl, s4, s5, s6, s7, s8, s9, m10, ha0, ha1, hax, hb⟩
  refine AWP.seq ?_
  refine AWP.seq ?_
  refine AWP.region (l := [0, 1]) rfl ?_
  refine AOps.cons rfl rfl (AOp.move (.int .i64 a) rfl s4 ?_)
  refine AOps.cons rfl rfl (AOp.bin (.bool (decide (a < 3))) rfl rfl rfl rfl ?_)
  refine AOps.nil ?_
  change AWP _ _ _ _ _ _
  by_cases b11 : a < 3
  ·
   refine AWP.condT rfl (decide_eq_true b11) ?_
   refine AWP.skip ?_
   change AWP _ _ _ _ _ _
   refine AWP.seq ?_
   refine AWP.block ?_
   refine AWP.seq ?_
   have hk0 := hin _ (at_mem_l (l := its) (i := 0) (by omega) (by omega))
   refine AWP.region (l := [0, 1, 2, 3, 4, 5, 6, 7, 8]) rfl ?_
   refine AOps.cons rfl rfl (AOp.move (.sl bx.length (bx.flatMap eBox)) rfl s7 ?_)
   refine AOps.cons rfl rfl (AOp.move (.sl its.length (its.map eI)) rfl s8 ?_)
   refine AOps.cons rfl rfl (AOp.indexAddrS rfl rfl rfl sl_27 (by omega) (by omega) ?_)
   refine AOps.cons rfl rfl (AOp.loadF (.int .i64 (at_ its 0)) rfl rfl ty_3 (ld1 (by omega) (by omega)) ?_)
   refine AOps.cons rfl rfl (AOp.indexAddrS rfl rfl rfl sl_22 (by omega) (by omega) ?_)
   refine AOps.cons rfl rfl (AOp.loadF (.agg [.int .i64 (((at_ bx (at_ its 0)).Lo).X), .int .i64 (((at_ bx (at_ its 0)).Lo).Y), .int .i64 (((at_ bx (at_ its 0)).Lo).Z), .int .i64 (((at_ bx (at_ its 0)).Hi).X), .int .i64 (((at_ bx (at_ its 0)).Hi).Y), .int .i64 (((at_ bx (at_ its 0)).Hi).Z)]) rfl rfl ty_37 (ldM eBox_len (by omega) (by omega)) ?_)
   refine AOps.cons rfl rfl (AOp.move (.int .i64 a) rfl s4 ?_)
   refine AOps.cons rfl rfl (AOp.pcall («as» := [.agg [.int .i64 (((at_ bx (at_ its 0)).Lo).X), .int .i64 (((at_ bx (at_ its 0)).Lo).Y), .int .i64 (((at_ bx (at_ its 0)).Lo).Z), .int .i64 (((at_ bx (at_ its 0)).Hi).X), .int .i64 (((at_ bx (at_ its 0)).Hi).Y), .int .i64 (((at_ bx (at_ its 0)).Hi).Z)], .int .i64 a]) rfl rfl (rfl) tf_36 (c_part (at_ bx (at_ its 0)) a (hok _ (at_mem_l (by omega) (by omega)))) ?_)
   intro H12 m13
   have m14 := m10.trans m13
   refine AOps.cons rfl rfl (AOp.assign (.int .i64 (mid a (at_ bx (at_ its 0)))) rfl rfl ?_)
   refine AOps.nil ?_
   change AWP _ _ _ _ _ _
   refine AWP.seq ?_
   refine AWP.region (l := [0, 1]) rfl ?_
   refine AOps.cons rfl rfl (AOp.move (.int .i64 (mid a (at_ bx (at_ its 0)))) rfl rfl ?_)
   refine AOps.cons rfl rfl (AOp.assign (.int .i64 (mid a (at_ bx (at_ its 0)))) rfl rfl ?_)
   refine AOps.nil ?_
   change AWP _ _ _ _ _ _
   refine AWP.seq ?_
   refine AWP.seq ?_
   refine AWP.region (l := [0]) rfl ?_
   refine AOps.cons rfl rfl (AOp.assign (.int .i64 0) rfl rfl ?_)
   refine AOps.nil ?_
   change AWP _ _ _ _ _ _
   refine AWP.block ?_
   refine AWP.loop (fun q15 fq Hq => ∃ (i : Int), q15 = (((its.length : Int) : Int) - i).toNat ∧ fq 10 = .int .i64 i ∧ fq 8 = .int .i64 ((midsF bx a (its.take i.toNat)).foldl min (mid a (at_ bx (at_ its 0)))) ∧ fq 9 = .int .i64 ((midsF bx a (its.take i.toNat)).foldl max (mid a (at_ bx (at_ its 0)))) ∧ fq 7 = .int .i64 a ∧ fq 5 = .int .i64 best ∧ fq 6 = .int .i64 far ∧ fq 0 = .sl bx.length (bx.flatMap eBox) ∧ fq 1 = .sl its.length (its.map eI) ∧ fq 4 = .int .i64 0 ∧ Mono H0 Hq ∧ (0 ≤ i) ∧ (i ≤ (its.length : Int))) (k := (((its.length : Int) : Int) - 0).toNat) ?_ ?_
   ·
    exact ⟨0, rfl, rfl, (congrArg (AV.int .i64) (show (mid a (at_ bx (at_ its 0)) : Int) = ((midsF bx a (its.take (0 : Int).toNat)).foldl min (mid a (at_ bx (at_ its 0)))) from by rfl)), (congrArg (AV.int .i64) (show (mid a (at_ bx (at_ its 0)) : Int) = ((midsF bx a (its.take (0 : Int).toNat)).foldl max (mid a (at_ bx (at_ its 0)))) from by rfl)), s4, s5, s6, s7, s8, s9, m14, by omega, by omega⟩
   ·
    rintro _ f17 H16 ⟨i, rfl, s18, s19, s20, s21, s22, s23, s24, s25, s26, m27, hi0, hi1⟩
    refine AWP.seq ?_
    refine AWP.seq ?_
    refine AWP.region (l := [0, 1, 2, 3]) rfl ?_
    refine AOps.cons rfl rfl (AOp.move (.int .i64 i) rfl s18 ?_)
    refine AOps.cons rfl rfl (AOp.move (.sl its.length (its.map eI)) rfl s25 ?_)
    refine AOps.cons rfl rfl (AOp.len (m := its.length) rfl rfl (.inr (.inl ⟨_, rfl⟩)) u_27 ?_)
    refine AOps.cons rfl rfl (AOp.bin (.bool (decide (i < (its.length : Int)))) rfl rfl rfl rfl ?_)
    refine AOps.nil ?_
    change AWP _ _ _ _ _ _
    by_cases b28 : i < (its.length : Int)
    ·
     refine AWP.condT rfl (decide_eq_true b28) ?_
     refine AWP.skip ?_
     change AWP _ _ _ _ _ _
     refine AWP.seq ?_
     refine AWP.block ?_
     refine AWP.seq ?_
     have hkk := hin _ (at_mem_l hi0 (by omega : i < its.length))
     refine AWP.region (l := [0, 1, 2, 3, 4, 5, 6, 7, 8, 9, 10, 11]) rfl ?_
     refine AOps.cons rfl rfl (AOp.move (.int .i64 ((midsF bx a (its.take i.toNat)).foldl min (mid a (at_ bx (at_ its 0))))) rfl s19 ?_)
     refine AOps.cons rfl rfl (AOp.move (.sl bx.length (bx.flatMap eBox)) rfl s24 ?_)
     refine AOps.cons rfl rfl (AOp.move (.sl its.length (its.map eI)) rfl s25 ?_)
     refine AOps.cons rfl rfl (AOp.move (.int .i64 i) rfl s18 ?_)
     refine AOps.cons rfl rfl (AOp.indexAddrS rfl rfl rfl sl_27 (by omega) (by omega) ?_)
     refine AOps.cons rfl rfl (AOp.loadF (.int .i64 (at_ its i)) rfl rfl ty_3 (ld1 (by omega) (by omega)) ?_)
     refine AOps.cons rfl rfl (AOp.indexAddrS rfl rfl rfl sl_22 (by omega) (by omega) ?_)
     refine AOps.cons rfl rfl (AOp.loadF (.agg [.int .i64 (((at_ bx (at_ its i)).Lo).X), .int .i64 (((at_ bx (at_ its i)).Lo).Y), .int .i64 (((at_ bx (at_ its i)).Lo).Z), .int .i64 (((at_ bx (at_ its i)).Hi).X), .int .i64 (((at_ bx (at_ its i)).Hi).Y), .int .i64 (((at_ bx (at_ its i)).Hi).Z)]) rfl rfl ty_37 (ldM eBox_len (by omega) (by omega)) ?_)
     refine AOps.cons rfl rfl (AOp.move (.int .i64 a) rfl s21 ?_)
     refine AOps.cons rfl rfl (AOp.pcall («as» := [.agg [.int .i64 (((at_ bx (at_ its i)).Lo).X), .int .i64 (((at_ bx (at_ its i)).Lo).Y), .int .i64 (((at_ bx (at_ its i)).Lo).Z), .int .i64 (((at_ bx (at_ its i)).Hi).X), .int .i64 (((at_ bx (at_ its i)).Hi).Y), .int .i64 (((at_ bx (at_ its i)).Hi).Z)], .int .i64 a]) rfl rfl (rfl) tf_36 (c_part (at_ bx (at_ its i)) a (hok _ (at_mem_l (by omega) (by omega)))) ?_)
     intro H29 m30
     have m31 := m27.trans m30
     refine AOps.cons rfl rfl (AOp.min2 rfl rfl rfl ?_)
     refine AOps.cons rfl rfl (AOp.assign (.int .i64 (min ((midsF bx a (its.take i.toNat)).foldl min (mid a (at_ bx (at_ its 0)))) (mid a (at_ bx (at_ its i))))) rfl rfl ?_)
     refine AOps.nil ?_
     change AWP _ _ _ _ _ _
     have hkk := hin _ (at_mem_l hi0 (by omega : i < its.length))
     refine AWP.region (l := [0, 1, 2, 3, 4, 5, 6, 7, 8, 9, 10, 11]) rfl ?_
     refine AOps.cons rfl rfl (AOp.move (.int .i64 ((midsF bx a (its.take i.toNat)).foldl max (mid a (at_ bx (at_ its 0))))) rfl s20 ?_)
     refine AOps.cons rfl rfl (AOp.move (.sl bx.length (bx.flatMap eBox)) rfl s24 ?_)
     refine AOps.cons rfl rfl (AOp.move (.sl its.length (its.map eI)) rfl s25 ?_)
     refine AOps.cons rfl rfl (AOp.move (.int .i64 i) rfl s18 ?_)
     refine AOps.cons rfl rfl (AOp.indexAddrS rfl rfl rfl sl_27 (by omega) (by omega) ?_)
     refine AOps.cons rfl rfl (AOp.loadF (.int .i64 (at_ its i)) rfl rfl ty_3 (ld1 (by omega) (by omega)) ?_)
     refine AOps.cons rfl rfl (AOp.indexAddrS rfl rfl rfl sl_22 (by omega) (by omega) ?_)
     refine AOps.cons rfl rfl (AOp.loadF (.agg [.int .i64 (((at_ bx (at_ its i)).Lo).X), .int .i64 (((at_ bx (at_ its i)).Lo).Y), .int .i64 (((at_ bx (at_ its i)).Lo).Z), .int .i64 (((at_ bx (at_ its i)).Hi).X), .int .i64 (((at_ bx (at_ its i)).Hi).Y), .int .i64 (((at_ bx (at_ its i)).Hi).Z)]) rfl rfl ty_37 (ldM eBox_len (by omega) (by omega)) ?_)
     refine AOps.cons rfl rfl (AOp.move (.int .i64 a) rfl s21 ?_)
     refine AOps.cons rfl rfl (AOp.pcall («as» := [.agg [.int .i64 (((at_ bx (at_ its i)).Lo).X), .int .i64 (((at_ bx (at_ its i)).Lo).Y), .int .i64 (((at_ bx (at_ its i)).Lo).Z), .int .i64 (((at_ bx (at_ its i)).Hi).X), .int .i64 (((at_ bx (at_ its i)).Hi).Y), .int .i64 (((at_ bx (at_ its i)).Hi).Z)], .int .i64 a]) rfl rfl (rfl) tf_36 (c_part (at_ bx (at_ its i)) a (hok _ (at_mem_l (by omega) (by omega)))) ?_)
     intro H32 m33
     have m34 := m31.trans m33
     refine AOps.cons rfl rfl (AOp.max2 rfl rfl rfl ?_)
     refine AOps.cons rfl rfl (AOp.assign (.int .i64 (max ((midsF bx a (its.take i.toNat)).foldl max (mid a (at_ bx (at_ its 0)))) (mid a (at_ bx (at_ its i))))) rfl rfl ?_)
     refine AOps.nil ?_
     change AWP _ _ _ _ _ _
     refine AWP.region (l := [0, 1, 2]) rfl ?_
     refine AOps.cons rfl rfl (AOp.move (.int .i64 i) rfl s18 ?_)
     refine AOps.cons rfl rfl (AOp.bin (.int .i64 (i + 1)) rfl rfl rfl (iadd (by omega)) ?_)
     refine AOps.cons rfl rfl (AOp.assign (.int .i64 (i + 1)) rfl rfl ?_)
     refine AOps.nil ?_
     exact ⟨_, by omega, i + 1, rfl, rfl, (congrArg (AV.int .i64) (show (min ((midsF bx a (its.take i.toNat)).foldl min (mid a (at_ bx (at_ its 0)))) (mid a (at_ bx (at_ its i))) : Int) = ((midsF bx a (its.take (i + 1).toNat)).foldl min (mid a (at_ bx (at_ its 0)))) from by exact mfold_step hi0 (by omega))), (congrArg (AV.int .i64) (show (max ((midsF bx a (its.take i.toNat)).foldl max (mid a (at_ bx (at_ its 0)))) (mid a (at_ bx (at_ its i))) : Int) = ((midsF bx a (its.take (i + 1).toNat)).foldl max (mid a (at_ bx (at_ its 0)))) from by exact mfold_step hi0 (by omega))), s21, s22, s23, s24, s25, s26, m34, by omega, by omega⟩
    ·
     refine AWP.condF rfl (decide_eq_false b28) ?_
     refine AWP.exit ?_
     change AWP _ _ _ _ _ _
     refine AWP.seq ?_
     have hlo := mfold_min (bx := bx) (a := a) hne (show (its.length : Int) ≤ i by omega)
     have hhi := mfold_max (bx := bx) (a := a) hne (show (its.length : Int) ≤ i by omega)
     have hmr := mx_rng (mids_ne (bx := bx) (a := a) hne) (mids_rng hok hin)
     rw [← hlo, ← hhi] at hmr
     refine AWP.region (l := [0, 1, 2, 3, 4]) rfl ?_
     refine AOps.cons rfl rfl (AOp.move (.int .i64 ((midsF bx a (its.take i.toNat)).foldl max (mid a (at_ bx (at_ its 0))))) rfl s20 ?_)
     refine AOps.cons rfl rfl (AOp.move (.int .i64 ((midsF bx a (its.take i.toNat)).foldl min (mid a (at_ bx (at_ its 0))))) rfl s19 ?_)
     refine AOps.cons rfl rfl (AOp.bin (.int .i64 (((midsF bx a (its.take i.toNat)).foldl max (mid a (at_ bx (at_ its 0)))) - ((midsF bx a (its.take i.toNat)).foldl min (mid a (at_ bx (at_ its 0)))))) rfl rfl rfl (isub (by omega)) ?_)
     refine AOps.cons rfl rfl (AOp.move (.int .i64 far) rfl s23 ?_)
     refine AOps.cons rfl rfl (AOp.bin (.bool (decide (((midsF bx a (its.take i.toNat)).foldl max (mid a (at_ bx (at_ its 0)))) - ((midsF bx a (its.take i.toNat)).foldl min (mid a (at_ bx (at_ its 0)))) > far))) rfl rfl rfl rfl ?_)
     refine AOps.nil ?_
     change AWP _ _ _ _ _ _
     by_cases b35 : ((midsF bx a (its.take i.toNat)).foldl max (mid a (at_ bx (at_ its 0)))) - ((midsF bx a (its.take i.toNat)).foldl min (mid a (at_ bx (at_ its 0)))) > far
     ·
      refine AWP.condT rfl (decide_eq_true b35) ?_
      refine AWP.seq ?_
      refine AWP.region (l := [0, 1, 2, 3]) rfl ?_
      refine AOps.cons rfl rfl (AOp.move (.int .i64 ((midsF bx a (its.take i.toNat)).foldl max (mid a (at_ bx (at_ its 0))))) rfl s20 ?_)
      refine AOps.cons rfl rfl (AOp.move (.int .i64 ((midsF bx a (its.take i.toNat)).foldl min (mid a (at_ bx (at_ its 0))))) rfl s19 ?_)
      refine AOps.cons rfl rfl (AOp.bin (.int .i64 (((midsF bx a (its.take i.toNat)).foldl max (mid a (at_ bx (at_ its 0)))) - ((midsF bx a (its.take i.toNat)).foldl min (mid a (at_ bx (at_ its 0)))))) rfl rfl rfl (isub (by omega)) ?_)
      refine AOps.cons rfl rfl (AOp.assign (.int .i64 (((midsF bx a (its.take i.toNat)).foldl max (mid a (at_ bx (at_ its 0)))) - ((midsF bx a (its.take i.toNat)).foldl min (mid a (at_ bx (at_ its 0)))))) rfl rfl ?_)
      refine AOps.nil ?_
      change AWP _ _ _ _ _ _
      refine AWP.region (l := [0, 1]) rfl ?_
      refine AOps.cons rfl rfl (AOp.move (.int .i64 a) rfl s21 ?_)
      refine AOps.cons rfl rfl (AOp.assign (.int .i64 a) rfl rfl ?_)
      refine AOps.nil ?_
      change AWP _ _ _ _ _ _
      refine AWP.region (l := [0, 1, 2]) rfl ?_
      refine AOps.cons rfl rfl (AOp.move (.int .i64 a) rfl s21 ?_)
      refine AOps.cons rfl rfl (AOp.bin (.int .i64 (a + 1)) rfl rfl rfl (iadd (by omega)) ?_)
      refine AOps.cons rfl rfl (AOp.assign (.int .i64 (a + 1)) rfl rfl ?_)
      refine AOps.nil ?_
      exact ⟨_, by omega, a + 1, a, spread bx its a, rfl, rfl, rfl, (congrArg (AV.int .i64) (show (((midsF bx a (its.take i.toNat)).foldl max (mid a (at_ bx (at_ its 0)))) - ((midsF bx a (its.take i.toNat)).foldl min (mid a (at_ bx (at_ its 0)))) : Int) = (spread bx its a) from by first | rfl | (rw [hlo, hhi]; rfl))), s24, s25, s26, m27, by omega, by omega, by exact ax_stepT hax ha0 (by omega) (by have hb_ := b35; rw [hlo, hhi] at hb_; exact hb_), by omega⟩
     ·
      refine AWP.condF rfl (decide_eq_false b35) ?_
      refine AWP.skip ?_
      change AWP _ _ _ _ _ _
      refine AWP.region (l := [0, 1, 2]) rfl ?_
      refine AOps.cons rfl rfl (AOp.move (.int .i64 a) rfl s21 ?_)
      refine AOps.cons rfl rfl (AOp.bin (.int .i64 (a + 1)) rfl rfl rfl (iadd (by omega)) ?_)
      refine AOps.cons rfl rfl (AOp.assign (.int .i64 (a + 1)) rfl rfl ?_)
      refine AOps.nil ?_
      exact ⟨_, by omega, a + 1, best, far, rfl, rfl, s22, s23, s24, s25, s26, m27, by omega, by omega, by exact ax_stepF hax ha0 (by omega) (by have hb_ := b35; rw [hlo, hhi] at hb_; exact hb_), by omega⟩
  ·
   refine AWP.condF rfl (decide_eq_false b11) ?_
   refine AWP.exit ?_
   change AWP _ _ _ _ _ _
   refine AWP.seq ?_
   refine AWP.region (l := [0, 1]) rfl ?_
   refine AOps.cons rfl rfl (AOp.move (.int .i64 best) rfl s5 ?_)
   refine AOps.cons rfl rfl (AOp.assign (.int .i64 best) rfl rfl ?_)
   refine AOps.nil ?_
   change AWP _ _ _ _ _ _
   refine AWP.ret ?_
   refine ⟨_, _, Ghost.refl, .inr rfl, _, Res.one rfl rfl, ?_, m10⟩
   exact (congrArg (AV.int .i64) (show (best : Int) = axisR bx its from by exact ax_end hax (by omega)))
end Go.Proofs.B
namespace Go.Proofs.B
open Go Go.AH Go.Maps
set_option maxRecDepth 4000
theorem growT_zero {bx : List BoxT} {leaf : Int} {f : Nat} {its : List Int} (h : f = 0) : growT bx leaf f its = .leaf (hull bx its) its := by subst h; rfl
theorem wr_setF {α : Type} [Inhabited α] {xs : List α} {e : α → List AV} {m o : Nat} {i : Int} {v : AV} {y : α} (he : ∀ x, (e x).length = m) (h0 : 0 ≤ i) (h1 : i < xs.length) (ho : o < m) (hv : e y = (e (at_ xs i)).set o v) : writeL (xs.flatMap e) (i.toNat * m + o) [v] = (xs.set i.toNat y).flatMap e := by
  have h : i.toNat < xs.length := by omega
  have e1 : xs = xs.take i.toNat ++ xs[i.toNat] :: xs.drop (i.toNat + 1) := by rw [List.getElem_cons_drop, List.take_append_drop]
  have e2 : xs.set i.toNat y = xs.take i.toNat ++ y :: xs.drop (i.toNat + 1) := by rw [List.set_eq_take_append_cons_drop, if_pos h]
  have hl : ((xs.take i.toNat).flatMap e).length = i.toNat * m := by rw [flatMap_length he, List.length_take, Nat.min_eq_left (by omega)]
  have ha : at_ xs i = xs[i.toNat] := by simp [at_, h]
  rw [ha] at hv
  rw [e2]
  conv => lhs; rw [e1]
  rw [List.flatMap_append, List.flatMap_append, List.flatMap_cons, List.flatMap_cons]
  refine wr_skip hl rfl (wr_fst (by rw [he]; simp only [List.length_cons, List.length_nil]; omega) ?_)
  rw [hv]; unfold writeL
  rw [List.set_eq_take_append_cons_drop, if_pos (by rw [he]; exact ho)]
  simp
theorem at_mid2 {α : Type} [Inhabited α] {N : List α} {x : α} {C : List α} : at_ (N ++ x :: C) (N.length : Int) = x := by simp [at_]
theorem grow_leafN2 {N : List NodeT} {b h : BoxT} {p q : Int} {its : List Int} (e : b = h) :
    (((N ++ [NodeT.mk b 0 0 0 0]).set (N.length : Int).toNat (NodeT.mk (at_ (N ++ [NodeT.mk b 0 0 0 0]) N.length).Box (at_ (N ++ [NodeT.mk b 0 0 0 0]) N.length).Left (at_ (N ++ [NodeT.mk b 0 0 0 0]) N.length).Right q (at_ (N ++ [NodeT.mk b 0 0 0 0]) N.length).Count)).set (N.length : Int).toNat
      (NodeT.mk (at_ ((N ++ [NodeT.mk b 0 0 0 0]).set (N.length : Int).toNat (NodeT.mk (at_ (N ++ [NodeT.mk b 0 0 0 0]) N.length).Box (at_ (N ++ [NodeT.mk b 0 0 0 0]) N.length).Left (at_ (N ++ [NodeT.mk b 0 0 0 0]) N.length).Right q (at_ (N ++ [NodeT.mk b 0 0 0 0]) N.length).Count)) N.length).Box
        (at_ ((N ++ [NodeT.mk b 0 0 0 0]).set (N.length : Int).toNat (NodeT.mk (at_ (N ++ [NodeT.mk b 0 0 0 0]) N.length).Box (at_ (N ++ [NodeT.mk b 0 0 0 0]) N.length).Left (at_ (N ++ [NodeT.mk b 0 0 0 0]) N.length).Right q (at_ (N ++ [NodeT.mk b 0 0 0 0]) N.length).Count)) N.length).Left
        (at_ ((N ++ [NodeT.mk b 0 0 0 0]).set (N.length : Int).toNat (NodeT.mk (at_ (N ++ [NodeT.mk b 0 0 0 0]) N.length).Box (at_ (N ++ [NodeT.mk b 0 0 0 0]) N.length).Left (at_ (N ++ [NodeT.mk b 0 0 0 0]) N.length).Right q (at_ (N ++ [NodeT.mk b 0 0 0 0]) N.length).Count)) N.length).Right
        (at_ ((N ++ [NodeT.mk b 0 0 0 0]).set (N.length : Int).toNat (NodeT.mk (at_ (N ++ [NodeT.mk b 0 0 0 0]) N.length).Box (at_ (N ++ [NodeT.mk b 0 0 0 0]) N.length).Left (at_ (N ++ [NodeT.mk b 0 0 0 0]) N.length).Right q (at_ (N ++ [NodeT.mk b 0 0 0 0]) N.length).Count)) N.length).First
        (its.length : Int))) = N ++ flatN (.leaf h its) p q := by
  subst e; simp only [set_mid, at_mid2]; rfl
theorem grow_nodeN2 {N : List NodeT} {I : List Int} {b h : BoxT} {L R : BT} {X : List NodeT} {l r : Int} (e : b = h)
    (hX : X = ((N ++ [NodeT.mk b 0 0 0 0]) ++ flatN L (N ++ [NodeT.mk b 0 0 0 0]).length I.length) ++ flatN R ((N ++ [NodeT.mk b 0 0 0 0]) ++ flatN L (N ++ [NodeT.mk b 0 0 0 0]).length I.length).length (I ++ L.items).length)
    (hl : l = ((N ++ [NodeT.mk b 0 0 0 0]).length : Int)) (hr : r = (((N ++ [NodeT.mk b 0 0 0 0]) ++ flatN L (N ++ [NodeT.mk b 0 0 0 0]).length I.length).length : Int)) :
    ((X.set (N.length : Int).toNat (NodeT.mk (at_ X N.length).Box l (at_ X N.length).Right (at_ X N.length).First (at_ X N.length).Count)).set (N.length : Int).toNat
      (NodeT.mk (at_ (X.set (N.length : Int).toNat (NodeT.mk (at_ X N.length).Box l (at_ X N.length).Right (at_ X N.length).First (at_ X N.length).Count)) N.length).Box
        (at_ (X.set (N.length : Int).toNat (NodeT.mk (at_ X N.length).Box l (at_ X N.length).Right (at_ X N.length).First (at_ X N.length).Count)) N.length).Left r
        (at_ (X.set (N.length : Int).toNat (NodeT.mk (at_ X N.length).Box l (at_ X N.length).Right (at_ X N.length).First (at_ X N.length).Count)) N.length).First
        (at_ (X.set (N.length : Int).toNat (NodeT.mk (at_ X N.length).Box l (at_ X N.length).Right (at_ X N.length).First (at_ X N.length).Count)) N.length).Count)) = N ++ flatN (.node h L R) N.length I.length := by
  rw [← grow_nodeN (N := N) (x := NodeT.mk b 0 0 0 0) (I := I) (L := L) (R := R) e, ← hX, ← hr, ← hl]
  have hX2 : X = N ++ NodeT.mk b 0 0 0 0 :: (flatN L (N ++ [NodeT.mk b 0 0 0 0]).length I.length ++ flatN R ((N ++ [NodeT.mk b 0 0 0 0]) ++ flatN L (N ++ [NodeT.mk b 0 0 0 0]).length I.length).length (I ++ L.items).length) := by rw [hX]; simp
  rw [hX2]; simp only [set_mid, at_mid2]
end Go.Proofs.B
