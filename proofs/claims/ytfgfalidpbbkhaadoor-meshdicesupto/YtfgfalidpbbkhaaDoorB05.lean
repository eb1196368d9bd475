/- A part of the proof that a law answers true for every input of its row: own work, by an AI agent. -/
import Derived.Test.YtfgfalidpbbkhaaDoorB04
import Derived.Test.YtfgfalidpbbkhaaDoorB01
import Derived.KernelRfl
import Derived.Test.YtfgfalidpbbkhaaDoorCards
import Derived.Test.YtfgfalidpbbkhaaDoorTie
import Derived.WalkKit
import Derived.ProofKit
import Derived.OpenShut
import Derived.Deep.DeepHandedRow
import Derived.Lib.LaidTab
import Derived.WideKeyArgs
set_option linter.unusedSimpArgs false
set_option linter.unusedVariables false
set_option linter.defProp false
namespace Go.Proofs.M
open Go Go.AH
set_option maxRecDepth 4000
set_option linter.unusedSimpArgs false
set_option linter.unusedVariables false
set_option maxHeartbeats 4000000
abbrev Zref13_Weave_0 (rs : List Int) (i : Int) (k : Int) := numL (spotsL rs (maxL rs)) (outS k i (at_ rs k))
abbrev Zref13_Weave_1 (rs : List Int) := numL (spotsL rs (maxL rs))
theorem c_ref13_Weave (rs : List Int) (h : rs.length = 4) : PC Tryd.prog 32 [.agg (rs.map eI)] (.tup [.sl ((weaveR rs).1).length (((weaveR rs).1).flatMap eSpot), .sl ((weaveR rs).2.1).length (((weaveR rs).2.1).flatMap eI3), .bool ((weaveR rs).2.2)]) := by
 intro H0
 refine ACalls.of_body' (n := 224) rfl rfl rfl rfl ?_
 have m0 := Mono.refl H0
 refine Sr ?_
 refine C rfl (bx_ (.agg (rs.map eI)) rfl rfl rfl ?_)
 intro i1 H2 n3 h4 k5
 have z6 := Mono.free m0 n3
 have m7 := Mono.new m0 n3 k5
 refine A rfl rfl (A rfl rfl (A rfl rfl ?_))
 refine AWP.seq ?_
 refine fz_ 1 h4 z6 rfl m7 fun H8 m9 k10 => ?_
 refine AWP.region rfl ?_
 refine A rfl rfl ?_
 refine AWP.seq ?_
 refine Sr ?_
 refine A rfl rfl ?_
 refine bk_ ?_
 refine AWP.loop (fun q11 fq Hq => ∃ (i : Int), q11 = ((4 : Int) - i).toNat ∧ fq 6 = J i ∧ fq 5 = J (mx0 rs i) ∧ fq 1 = .fptr (rs.map eI) 0 ∧ Mono H0 Hq ∧ (0 ≤ i) ∧ (i ≤ 4) ∧ (∀ j : Int, 0 ≤ j → j < i → 1 ≤ at_ rs j ∧ at_ rs j ≤ 16)) (k := ((4 : Int) - 0).toNat) ?_ ?_
 exact ⟨0, rfl, rfl, (congrArg (AV.int .i64) (show (0 : Int) = mx0 rs 0 from by rfl)), rfl, m9, by omega, by omega, by intro j; omega⟩
 rintro _ f13 H12 ⟨i, rfl, s14, s15, s16, m17, hi0, hi1, pre⟩
 refine AWP.seq ?_
 refine Sr ?_
 refine V rfl s14 (B rfl rfl rfl rfl ?_)
 refine AOps.nil ?_
 change AWP _ _ _ _ _ _
 by_cases b18 : i < 4
 refine ct_ rfl (decide_eq_true b18) ?_
 refine AWP.skip ?_
 refine AWP.seq ?_
 refine bk_ ?_
 refine AWP.seq ?_
 refine AWP.seq ?_
 have hri : 0 ≤ mx0 rs i ∧ mx0 rs i ≤ 16 := by have := mx0_rng pre (n := i.toNat) (by omega) (by omega); rwa [Int.toNat_of_nonneg hi0] at this
 refine AWP.region rfl ?_
 refine V rfl s14 (C rfl (iF_ rfl s16 rfl ar_25 (by omega) (by omega) (L rfl rfl ty_3 (ld_off (o := 0 + i.toNat * 1) (by omega) (ld1 (i := i) (by omega) (by first | (have := h; omega) | (simp; omega)))) (B rfl rfl rfl rfl (V rfl rfl ?_)))))
 by_cases b19 : at_ rs i < 1
 refine N rfl rfl (decide_eq_true b19) (N rfl rfl (decide_eq_true b19) (N rfl rfl (decide_eq_true b19) (N rfl rfl (decide_eq_true b19) (C rfl (Pt _ rfl rfl (decide_eq_true b19) rfl ?_)))))
 refine ct_ rfl rfl ?_
 refine Sr ?_
 refine A rfl rfl (A rfl rfl (A rfl rfl ?_))
 refine rt_ ?_
 refine Fin.frz 2 (Own.nil H0 H12 1) rfl m17 fun H20 m21 k22 => ?_
 refine Fin.frz 3 (Own.nil H0 H20 1) rfl m21 fun H23 m24 k25 => ?_
 refine Rr (Res.three rfl rfl rfl rfl) ?_ m24
 exact congrArg AV.tup (lc (congrArg (fun l : List SpotT => AV.sl l.length (l.flatMap eSpot)) (show ([] : List SpotT) = (weaveR rs).1 from by rw [weave_F h hi0 (by omega) (.inl b19)])) (lc (congrArg (fun l : List I3T => AV.sl l.length (l.flatMap eI3)) (show ([] : List I3T) = (weaveR rs).2.1 from by rw [weave_F h hi0 (by omega) (.inl b19)])) (lc (congrArg AV.bool (show (false : Bool) = (weaveR rs).2.2 from by rw [weave_F h hi0 (by omega) (.inl b19)])) rfl)))
 refine Y rfl rfl rfl (decide_eq_false b19) (Mv _ rfl s14 (Y rfl rfl rfl (decide_eq_false b19) (iF_ rfl s16 rfl ar_25 (by omega) (by omega) (Y rfl rfl rfl (decide_eq_false b19) (Lf _ rfl rfl ty_3 (ld_off (o := 0 + i.toNat * 1) (by omega) (ld1 (i := i) (by omega) (by first | (have := h; omega) | (simp; omega)))) (Y rfl rfl rfl (decide_eq_false b19) (Bi _ rfl rfl rfl rfl (C rfl (Pf _ rfl rfl (decide_eq_false b19) rfl ?_)))))))))
 refine AOps.nil ?_
 change AWP _ _ _ _ _ _
 by_cases b26 : at_ rs i > 16
 refine ct_ rfl (decide_eq_true b26) ?_
 refine Sr ?_
 refine A rfl rfl (A rfl rfl (A rfl rfl ?_))
 refine rt_ ?_
 refine Fin.frz 2 (Own.nil H0 H12 1) rfl m17 fun H27 m28 k29 => ?_
 refine Fin.frz 3 (Own.nil H0 H27 1) rfl m28 fun H30 m31 k32 => ?_
 refine Rr (Res.three rfl rfl rfl rfl) ?_ m31
 exact congrArg AV.tup (lc (congrArg (fun l : List SpotT => AV.sl l.length (l.flatMap eSpot)) (show ([] : List SpotT) = (weaveR rs).1 from by rw [weave_F h hi0 (by omega) (.inr b26)])) (lc (congrArg (fun l : List I3T => AV.sl l.length (l.flatMap eI3)) (show ([] : List I3T) = (weaveR rs).2.1 from by rw [weave_F h hi0 (by omega) (.inr b26)])) (lc (congrArg AV.bool (show (false : Bool) = (weaveR rs).2.2 from by rw [weave_F h hi0 (by omega) (.inr b26)])) rfl)))
 refine cf_ rfl (decide_eq_false b26) ?_
 refine AWP.skip ?_
 refine AWP.region rfl ?_
 refine V rfl s15 (V rfl s14 (C rfl (iF_ rfl s16 rfl ar_25 (by omega) (by omega) (L rfl rfl ty_3 (ld_off (o := 0 + i.toNat * 1) (by omega) (ld1 (i := i) (by omega) (by first | (have := h; omega) | (simp; omega)))) (C rfl (AOp.max2 rfl rfl rfl (A rfl rfl ?_)))))))
 refine AWP.region rfl ?_
 refine V rfl s14 (B rfl rfl rfl (iadd (by omega)) (A rfl rfl ?_))
 refine AOps.nil ?_
 exact ⟨_, by omega, i + 1, rfl, rfl, (congrArg (AV.int .i64) (show (max (mx0 rs i) (at_ rs i) : Int) = mx0 rs (i + 1) from by exact mx0_step hi0 (by omega))), s16, m17, by omega, by omega, by exact fa_step pre (by omega)⟩
 refine cf_ rfl (decide_eq_false b18) ?_
 refine AWP.exit ?_
 change AWP _ _ _ _ _ _
 refine AWP.seq ?_
 have hrt : rates rs := fun k h0 h4 => pre k h0 (by omega)
 have hm16 := (weave_T h hrt).1
 have hm1 := (weave_T h hrt).2.1
 have hmx : mx0 rs i = maxL rs := by rw [show i = 4 by omega]; exact mx0_eq h hrt
 have hb := 0
 refine AWP.region rfl ?_
 refine C rfl (AOp.buildSlice (cells := []) rfl u_68 ts_76 tz_76 rfl rfl rfl ?_)
 intro i33 H34 n35 h36 k37
 have z38 := Mono.free m17 n35
 have m39 := Mono.new m17 n35 k37
 obtain ⟨v40, e41⟩ : ∃ v : AV, v = .slm i33 0 3 0 0 := ⟨_, rfl⟩
 have o42 : Own H0 H34 3 v40 0 [] := .inr ⟨_, _, e41, h36, z38, rfl⟩
 refine A rfl e41.symm ?_
 refine AWP.seq ?_
 refine Sr ?_
 refine A rfl rfl ?_
 refine bk_ ?_
 refine AWP.loop (fun q43 fq Hq => ∃ (lq : Int) (w7 : AV), q43 = ((4 : Int) - lq).toNat ∧ fq 8 = J lq ∧ fq 5 = J (maxL rs) ∧ fq 1 = .fptr (rs.map eI) 0 ∧ fq 7 = w7 ∧ Own H0 Hq 3 w7 (corL lq).length ((corL lq).flatMap eSpot) ∧ Mono H0 Hq ∧ (0 ≤ lq) ∧ (lq ≤ 4)) (k := ((4 : Int) - 0).toNat) ?_ ?_
 exact ⟨0, v40, rfl, rfl, (s15.trans (congrArg (AV.int .i64) hmx)), s16, rfl, (have hx : ([] : List SpotT) = corL 0 := (by rfl); Own.re o42 (congrArg List.length hx) (congrArg (fun l : List SpotT => l.flatMap eSpot) hx)), m39, by omega, by omega⟩
 rintro _ f45 H44 ⟨lq, w7, rfl, s46, s47, s48, s49, o50, m51, hlq0, hlq1⟩
 refine AWP.seq ?_
 refine Sr ?_
 refine V rfl s46 (B rfl rfl rfl rfl ?_)
 refine AOps.nil ?_
 change AWP _ _ _ _ _ _
 by_cases b52 : lq < 4
 refine ct_ rfl (decide_eq_true b52) ?_
 refine AWP.skip ?_
 refine AWP.seq ?_
 refine bk_ ?_
 obtain ⟨hnot, hran, hsl, hns⟩ := lay_cor hlq0 (by omega)
 refine AWP.region rfl ?_
 refine V rfl s49 (V rfl s46 (C rfl (Bl (cells := [J 1, J lq, J 0]) rfl tz_76 pl_76 rfl rfl (C rfl (AOp.buildSlice (cells := [J 1, J lq, J 0]) rfl u_68 ts_76 tz_76 rfl rfl rfl ?_)))))
 intro i53 H54 n55 h56 k57
 have o59 := Own.keep o50 k57 (Own.notnew o50 n55)
 have m61 := Mono.new m51 n55 k57
 refine C rfl (AOp.append_own (es := 3) (m := 1) (len := ((corL lq).length)) (old := (corL lq).flatMap eSpot) (cells := [J 1, J lq, J 0]) rfl u_68 ts_76 tzn_76 tb_76 (by decide) ni_68 rfl o59 m61 rfl (.slm h56 rfl) (one_of rfl) (by decide) (by first | omega | (simp; omega)) ?_)
 intro v62 H63 o64 m65 k66 j67
 have o68 := Own.snocM (xs := ((corL lq) : List SpotT)) (y := (SpotT.mk 1 lq 0)) (e := eSpot) (by simp) o64
 refine A rfl rfl ?_
 refine AWP.region rfl ?_
 refine V rfl s46 (B rfl rfl rfl (iadd (by omega)) (A rfl rfl ?_))
 refine AOps.nil ?_
 exact ⟨_, by omega, lq + 1, v62, rfl, rfl, s47, s48, rfl, (have hx : (((corL lq) ++ [(SpotT.mk 1 lq 0)]) : List SpotT) = corL (lq + 1) := (by rw [corL_step hlq0] <;> rfl); Own.re o68 (congrArg List.length hx) (congrArg (fun l : List SpotT => l.flatMap eSpot) hx)), m65, by omega, by omega⟩
 refine cf_ rfl (decide_eq_false b52) ?_
 refine AWP.exit ?_
 change AWP _ _ _ _ _ _
 refine AWP.seq ?_
 refine Sr ?_
 refine A rfl rfl ?_
 refine bk_ ?_
 refine AWP.loop (fun q69 fq Hq => ∃ (lk : Int) (w7 : AV), q69 = ((4 : Int) - lk).toNat ∧ fq 9 = J lk ∧ fq 5 = J (maxL rs) ∧ fq 1 = .fptr (rs.map eI) 0 ∧ fq 7 = w7 ∧ Own H0 Hq 3 w7 (corL 4 ++ edgO rs lk).length ((corL 4 ++ edgO rs lk).flatMap eSpot) ∧ Mono H0 Hq ∧ (0 ≤ lk) ∧ (lk ≤ 4)) (k := ((4 : Int) - 0).toNat) ?_ ?_
 exact ⟨0, w7, rfl, rfl, s47, s48, s49, (have hx : ((corL lq) : List SpotT) = corL 4 ++ edgO rs 0 := (by rw [show lq = 4 by omega, edgO_0, List.append_nil]); Own.re o50 (congrArg List.length hx) (congrArg (fun l : List SpotT => l.flatMap eSpot) hx)), m51, by omega, by omega⟩
 rintro _ f71 H70 ⟨lk, w7, rfl, s72, s73, s74, s75, o76, m77, hlk0, hlk1⟩
 refine AWP.seq ?_
 refine Sr ?_
 refine V rfl s72 (B rfl rfl rfl rfl ?_)
 refine AOps.nil ?_
 change AWP _ _ _ _ _ _
 by_cases b78 : lk < 4
 refine ct_ rfl (decide_eq_true b78) ?_
 refine AWP.skip ?_
 refine AWP.seq ?_
 refine bk_ ?_
 refine AWP.seq ?_
 have hrk := hrt lk hlk0 (by omega)
 refine AWP.region rfl ?_
 refine A rfl rfl ?_
 refine bk_ ?_
 refine AWP.loop (fun q79 fq Hq => ∃ (li : Int) (w7 : AV), q79 = ((at_ rs lk : Int) - li).toNat ∧ fq 10 = J li ∧ fq 9 = J lk ∧ fq 5 = J (maxL rs) ∧ fq 1 = .fptr (rs.map eI) 0 ∧ fq 7 = w7 ∧ Own H0 Hq 3 w7 (corL 4 ++ edgO rs lk ++ edgI lk li).length ((corL 4 ++ edgO rs lk ++ edgI lk li).flatMap eSpot) ∧ Mono H0 Hq ∧ (1 ≤ li) ∧ (li ≤ at_ rs lk)) (k := ((at_ rs lk : Int) - 1).toNat) ?_ ?_
 exact ⟨1, w7, rfl, rfl, s72, s73, s74, s75, (have hx : ((corL 4 ++ edgO rs lk) : List SpotT) = corL 4 ++ edgO rs lk ++ edgI lk 1 := (by rw [edgI_1 (Int.le_refl 1), List.append_nil]); Own.re o76 (congrArg List.length hx) (congrArg (fun l : List SpotT => l.flatMap eSpot) hx)), m77, by omega, by omega⟩
 rintro _ f81 H80 ⟨li, w7, rfl, s82, s83, s84, s85, s86, o87, m88, hli0, hli1⟩
 refine AWP.seq ?_
 refine Sr ?_
 refine V rfl s82 (V rfl s83 (C rfl (iF_ rfl s85 rfl ar_25 (by omega) (by omega) (L rfl rfl ty_3 (ld_off (o := 0 + lk.toNat * 1) (by omega) (ld1 (i := lk) (by omega) (by first | (have := h; omega) | (simp; omega)))) (B rfl rfl rfl rfl ?_)))))
 refine AOps.nil ?_
 change AWP _ _ _ _ _ _
 by_cases b89 : li < at_ rs lk
 refine ct_ rfl (decide_eq_true b89) ?_
 refine AWP.skip ?_
 refine AWP.seq ?_
 refine bk_ ?_
 obtain ⟨hnot, hran, hsl, hns⟩ := lay_edg hrt hlk0 (by omega) hli0 (by omega)
 refine AWP.region rfl ?_
 refine V rfl s86 (V rfl s83 (V rfl s82 (C rfl (Bl (cells := [J 2, J lk, J li]) rfl tz_76 pl_76 rfl rfl (C rfl (AOp.buildSlice (cells := [J 2, J lk, J li]) rfl u_68 ts_76 tz_76 rfl rfl rfl ?_))))))
 intro i90 H91 n92 h93 k94
 have o96 := Own.keep o87 k94 (Own.notnew o87 n92)
 have m98 := Mono.new m88 n92 k94
 refine C rfl (AOp.append_own (es := 3) (m := 1) (len := ((corL 4 ++ edgO rs lk ++ edgI lk li).length)) (old := (corL 4 ++ edgO rs lk ++ edgI lk li).flatMap eSpot) (cells := [J 2, J lk, J li]) rfl u_68 ts_76 tzn_76 tb_76 (by decide) ni_68 rfl o96 m98 rfl (.slm h93 rfl) (one_of rfl) (by decide) (by first | omega | (simp; omega)) ?_)
 intro v99 H100 o101 m102 k103 j104
 have o105 := Own.snocM (xs := ((corL 4 ++ edgO rs lk ++ edgI lk li) : List SpotT)) (y := (SpotT.mk 2 lk li)) (e := eSpot) (by simp) o101
 refine A rfl rfl ?_
 refine AWP.region rfl ?_
 refine V rfl s82 (B rfl rfl rfl (iadd (by omega)) (A rfl rfl ?_))
 refine AOps.nil ?_
 exact ⟨_, by omega, li + 1, v99, rfl, rfl, s83, s84, s85, rfl, (have hx : (((corL 4 ++ edgO rs lk ++ edgI lk li) ++ [(SpotT.mk 2 lk li)]) : List SpotT) = corL 4 ++ edgO rs lk ++ edgI lk (li + 1) := (by rw [edgI_step hli0, ← List.append_assoc] <;> rfl); Own.re o105 (congrArg List.length hx) (congrArg (fun l : List SpotT => l.flatMap eSpot) hx)), m102, by omega, by omega⟩
 refine cf_ rfl (decide_eq_false b89) ?_
 refine AWP.exit ?_
 change AWP _ _ _ _ _ _
 refine AWP.region rfl ?_
 refine V rfl s83 (B rfl rfl rfl (iadd (by omega)) (A rfl rfl ?_))
 refine AOps.nil ?_
 exact ⟨_, by omega, lk + 1, w7, rfl, rfl, s84, s85, s86, (have hx : ((corL 4 ++ edgO rs lk ++ edgI lk li) : List SpotT) = corL 4 ++ edgO rs (lk + 1) := (by rw [show li = at_ rs lk by omega, edgO_step hlk0, List.append_assoc]); Own.re o87 (congrArg List.length hx) (congrArg (fun l : List SpotT => l.flatMap eSpot) hx)), m88, by omega, by omega⟩
 refine cf_ rfl (decide_eq_false b78) ?_
 refine AWP.exit ?_
 change AWP _ _ _ _ _ _
 refine AWP.seq ?_
 refine Sr ?_
 refine A rfl rfl ?_
 refine bk_ ?_
 refine AWP.loop (fun q106 fq Hq => ∃ (lb : Int) (w7 : AV), q106 = ((maxL rs : Int) - lb).toNat ∧ fq 11 = J lb ∧ fq 5 = J (maxL rs) ∧ fq 1 = .fptr (rs.map eI) 0 ∧ fq 7 = w7 ∧ Own H0 Hq 3 w7 (corL 4 ++ edgO rs 4 ++ innO (maxL rs) lb).length ((corL 4 ++ edgO rs 4 ++ innO (maxL rs) lb).flatMap eSpot) ∧ Mono H0 Hq ∧ (1 ≤ lb) ∧ (lb ≤ maxL rs)) (k := ((maxL rs : Int) - 1).toNat) ?_ ?_
 exact ⟨1, w7, rfl, rfl, s73, s74, s75, (have hx : ((corL 4 ++ edgO rs lk) : List SpotT) = corL 4 ++ edgO rs 4 ++ innO (maxL rs) 1 := (by rw [show lk = 4 by omega, innO_1 (Int.le_refl 1), List.append_nil]); Own.re o76 (congrArg List.length hx) (congrArg (fun l : List SpotT => l.flatMap eSpot) hx)), m77, by omega, by omega⟩
 rintro _ f108 H107 ⟨lb, w7, rfl, s109, s110, s111, s112, o113, m114, hlb0, hlb1⟩
 refine AWP.seq ?_
 refine Sr ?_
 refine V rfl s109 (V rfl s110 (B rfl rfl rfl rfl ?_))
 refine AOps.nil ?_
 change AWP _ _ _ _ _ _
 by_cases b115 : lb < maxL rs
 refine ct_ rfl (decide_eq_true b115) ?_
 refine AWP.skip ?_
 refine AWP.seq ?_
 refine bk_ ?_
 refine Sr ?_
 refine A rfl rfl ?_
 refine bk_ ?_
 refine AWP.loop (fun q116 fq Hq => ∃ (la : Int) (w7 : AV), q116 = ((maxL rs : Int) - la).toNat ∧ fq 12 = J la ∧ fq 11 = J lb ∧ fq 5 = J (maxL rs) ∧ fq 1 = .fptr (rs.map eI) 0 ∧ fq 7 = w7 ∧ Own H0 Hq 3 w7 (corL 4 ++ edgO rs 4 ++ innO (maxL rs) lb ++ innI lb la).length ((corL 4 ++ edgO rs 4 ++ innO (maxL rs) lb ++ innI lb la).flatMap eSpot) ∧ Mono H0 Hq ∧ (1 ≤ la) ∧ (la ≤ maxL rs)) (k := ((maxL rs : Int) - 1).toNat) ?_ ?_
 exact ⟨1, w7, rfl, rfl, s109, s110, s111, s112, (have hx : ((corL 4 ++ edgO rs 4 ++ innO (maxL rs) lb) : List SpotT) = corL 4 ++ edgO rs 4 ++ innO (maxL rs) lb ++ innI lb 1 := (by rw [innI_1 (Int.le_refl 1), List.append_nil]); Own.re o113 (congrArg List.length hx) (congrArg (fun l : List SpotT => l.flatMap eSpot) hx)), m114, by omega, by omega⟩
 rintro _ f118 H117 ⟨la, w7, rfl, s119, s120, s121, s122, s123, o124, m125, hla0, hla1⟩
 refine AWP.seq ?_
 refine Sr ?_
 refine V rfl s119 (V rfl s121 (B rfl rfl rfl rfl ?_))
 refine AOps.nil ?_
 change AWP _ _ _ _ _ _
 by_cases b126 : la < maxL rs
 refine ct_ rfl (decide_eq_true b126) ?_
 refine AWP.skip ?_
 refine AWP.seq ?_
 refine bk_ ?_
 obtain ⟨hnot, hran, hsl, hns⟩ := lay_inn hrt hm16 hlb0 (by omega) hla0 (by omega)
 refine AWP.region rfl ?_
 refine V rfl s123 (V rfl s119 (V rfl s120 (C rfl (Pc («as» := [J la, J lb]) rfl rfl (rfl) tf_63 (c_ref13_inner la lb) ?_))))
 intro H127 m128
 have o129 := Own.mono o124 m128
 have m130 := m125.trans m128
 refine C rfl (AOp.buildSlice (cells := [J ((inn la lb).Kind), J ((inn la lb).A), J ((inn la lb).B)]) rfl u_68 ts_76 tz_76 rfl rfl rfl ?_)
 intro i131 H132 n133 h134 k135
 have o137 := Own.keep o129 k135 (Own.notnew o129 n133)
 have m139 := Mono.new m130 n133 k135
 refine C rfl (AOp.append_own (es := 3) (m := 1) (len := ((corL 4 ++ edgO rs 4 ++ innO (maxL rs) lb ++ innI lb la).length)) (old := (corL 4 ++ edgO rs 4 ++ innO (maxL rs) lb ++ innI lb la).flatMap eSpot) (cells := [J ((inn la lb).Kind), J ((inn la lb).A), J ((inn la lb).B)]) rfl u_68 ts_76 tzn_76 tb_76 (by decide) ni_68 rfl o137 m139 rfl (.slm h134 rfl) (one_of rfl) (by decide) (by first | omega | (simp; omega)) ?_)
 intro v140 H141 o142 m143 k144 j145
 have o146 := Own.snocM (xs := ((corL 4 ++ edgO rs 4 ++ innO (maxL rs) lb ++ innI lb la) : List SpotT)) (y := (inn la lb)) (e := eSpot) (by simp) o142
 refine A rfl rfl ?_
 refine AWP.region rfl ?_
 refine V rfl s119 (B rfl rfl rfl (iadd (by omega)) (A rfl rfl ?_))
 refine AOps.nil ?_
 exact ⟨_, by omega, la + 1, v140, rfl, rfl, s120, s121, s122, rfl, (have hx : (((corL 4 ++ edgO rs 4 ++ innO (maxL rs) lb ++ innI lb la) ++ [(inn la lb)]) : List SpotT) = corL 4 ++ edgO rs 4 ++ innO (maxL rs) lb ++ innI lb (la + 1) := (by rw [innI_step hla0, ← List.append_assoc] <;> rfl); Own.re o146 (congrArg List.length hx) (congrArg (fun l : List SpotT => l.flatMap eSpot) hx)), m143, by omega, by omega⟩
 refine cf_ rfl (decide_eq_false b126) ?_
 refine AWP.exit ?_
 change AWP _ _ _ _ _ _
 refine AWP.region rfl ?_
 refine V rfl s120 (B rfl rfl rfl (iadd (by omega)) (A rfl rfl ?_))
 refine AOps.nil ?_
 exact ⟨_, by omega, lb + 1, w7, rfl, rfl, s121, s122, s123, (have hx : ((corL 4 ++ edgO rs 4 ++ innO (maxL rs) lb ++ innI lb la) : List SpotT) = corL 4 ++ edgO rs 4 ++ innO (maxL rs) (lb + 1) := (by rw [show la = maxL rs by omega, innO_step hlb0, ← List.append_assoc]); Own.re o124 (congrArg List.length hx) (congrArg (fun l : List SpotT => l.flatMap eSpot) hx)), m125, by omega, by omega⟩
 refine cf_ rfl (decide_eq_false b115) ?_
 refine AWP.exit ?_
 change AWP _ _ _ _ _ _
 refine AWP.seq ?_
 refine AWP.seq ?_
 have hse147 : (corL 4 ++ edgO rs 4 ++ innO (maxL rs) lb : List SpotT) = spotsL rs (maxL rs) := by rw [show lb = maxL rs by omega] <;> rfl
 have o148 := Own.re o113 (congrArg List.length hse147) (congrArg (fun l : List SpotT => l.flatMap eSpot) hse147)
 have hsp := spots_len (rs := rs) (m := maxL rs) hrt hm16
 refine AWP.region rfl ?_
 refine V rfl s110 (B rfl rfl rfl ieq ?_)
 refine AOps.nil ?_
 change AWP _ _ _ _ _ _
 by_cases b149 : maxL rs = 1
 refine ct_ rfl (decide_eq_true b149) ?_
 refine Sr ?_
 refine V rfl s112 (C rfl (Bl (cells := [J 0, J 1, J 2]) rfl tz_59 pl_59 rfl rfl (C rfl (Bl (cells := [J 0, J 2, J 3]) rfl tz_59 pl_59 rfl rfl (C rfl (AOp.buildSlice (cells := [J 0, J 1, J 2, J 0, J 2, J 3]) rfl u_36 ts_59 tz_59 rfl rfl rfl ?_))))))
 intro i150 H151 n152 h153 k154
 have z155 := Mono.free m114 n152
 have o156 := Own.keep o148 k154 (Own.notnew o148 n152)
 have no157 := Own.notnew o148 n152
 have m158 := Mono.new m114 n152 k154
 refine A rfl rfl (A rfl rfl (A rfl rfl ?_))
 refine rt_ ?_
 refine Fin.frz 2 o156 rfl m158 fun H159 m160 k161 => ?_
 have h162 := (k161 _ no157).trans h153
 obtain ⟨v163, e164⟩ : ∃ v : AV, v = .slm i150 0 3 0 2 := ⟨_, rfl⟩
 have o165 : Own H0 H159 3 v163 2 [J 0, J 1, J 2, J 0, J 2, J 3] := .inr ⟨_, _, e164, h162, z155, rfl⟩
 refine Fin.frz 3 (o165) e164.symm m160 fun H166 m167 k168 => ?_
 refine Rr (Res.three rfl rfl rfl rfl) ?_ m167
 exact congrArg AV.tup (lc (congrArg (fun l : List SpotT => AV.sl l.length (l.flatMap eSpot)) (show ((spotsL rs (maxL rs)) : List SpotT) = (weaveR rs).1 from by rw [(weave_T h hrt).2.2]; first | done | rfl | (unfold trisL; rw [if_pos b149] <;> rfl))) (lc (congrArg (fun l : List I3T => AV.sl l.length (l.flatMap eI3)) (show (([(I3T.mk 0 1 2), (I3T.mk 0 2 3)] : List I3T) : List I3T) = (weaveR rs).2.1 from by rw [(weave_T h hrt).2.2]; first | done | rfl | (unfold trisL; rw [if_pos b149] <;> rfl))) (lc (congrArg AV.bool (show (true : Bool) = (weaveR rs).2.2 from by rw [(weave_T h hrt).2.2]; first | done | rfl | (unfold trisL; rw [if_pos b149] <;> rfl))) rfl)))
 refine cf_ rfl (decide_eq_false b149) ?_
 refine AWP.skip ?_
 refine AWP.seq ?_
 refine AWP.frz 7 o148 s112 m114 fun H169 m170 k171 => ?_
 have hm2 : 2 ≤ maxL rs := by omega
 have hrs := ranS_spots (m := maxL rs) hrt hm16
 refine AWP.region rfl ?_
 refine C rfl (AOp.buildSlice (cells := []) rfl u_36 ts_59 tz_59 rfl rfl rfl ?_)
 intro i172 H173 n174 h175 k176
 have z177 := Mono.free m170 n174
 have m178 := Mono.new m170 n174 k176
 obtain ⟨v179, e180⟩ : ∃ v : AV, v = .slm i172 0 3 0 0 := ⟨_, rfl⟩
 have o181 : Own H0 H173 3 v179 0 [] := .inr ⟨_, _, e180, h175, z177, rfl⟩
 refine A rfl e180.symm ?_
 refine AWP.seq ?_
 refine Sr ?_
 refine A rfl rfl ?_
 refine bk_ ?_
 refine AWP.loop (fun q182 fq Hq => ∃ (mb : Int) (w13 : AV), q182 = ((maxL rs - 1 : Int) - mb).toNat ∧ fq 14 = J mb ∧ fq 5 = J (maxL rs) ∧ fq 1 = .fptr (rs.map eI) 0 ∧ fq 7 = .sl (spotsL rs (maxL rs)).length ((spotsL rs (maxL rs)).flatMap eSpot) ∧ fq 13 = w13 ∧ Own H0 Hq 3 w13 (midO (Zref13_Weave_1 rs) (maxL rs) mb).length ((midO (Zref13_Weave_1 rs) (maxL rs) mb).flatMap eI3) ∧ Mono H0 Hq ∧ (1 ≤ mb) ∧ (mb ≤ maxL rs - 1)) (k := ((maxL rs - 1 : Int) - 1).toNat) ?_ ?_
 exact ⟨1, v179, rfl, rfl, s110, s111, rfl, rfl, (have hx : ([] : List I3T) = midO (Zref13_Weave_1 rs) (maxL rs) 1 := (by rfl); Own.re o181 (congrArg List.length hx) (congrArg (fun l : List I3T => l.flatMap eI3) hx)), m178, by omega, by omega⟩
 rintro _ f184 H183 ⟨mb, w13, rfl, s185, s186, s187, s188, s189, o190, m191, hmb0, hmb1⟩
 refine AWP.seq ?_
 refine Sr ?_
 refine V rfl s185 (V rfl s186 (B rfl rfl rfl (isub (by omega)) (B rfl rfl rfl rfl ?_)))
 refine AOps.nil ?_
 change AWP _ _ _ _ _ _
 by_cases b192 : mb < maxL rs - 1
 refine ct_ rfl (decide_eq_true b192) ?_
 refine AWP.skip ?_
 refine AWP.seq ?_
 refine bk_ ?_
 refine Sr ?_
 refine A rfl rfl ?_
 refine bk_ ?_
 refine AWP.loop (fun q193 fq Hq => ∃ (ma : Int) (w13 : AV), q193 = ((maxL rs - 1 : Int) - ma).toNat ∧ fq 15 = J ma ∧ fq 14 = J mb ∧ fq 5 = J (maxL rs) ∧ fq 1 = .fptr (rs.map eI) 0 ∧ fq 7 = .sl (spotsL rs (maxL rs)).length ((spotsL rs (maxL rs)).flatMap eSpot) ∧ fq 13 = w13 ∧ Own H0 Hq 3 w13 (midO (Zref13_Weave_1 rs) (maxL rs) mb ++ midI (Zref13_Weave_1 rs) mb ma).length ((midO (Zref13_Weave_1 rs) (maxL rs) mb ++ midI (Zref13_Weave_1 rs) mb ma).flatMap eI3) ∧ Mono H0 Hq ∧ (1 ≤ ma) ∧ (ma ≤ maxL rs - 1)) (k := ((maxL rs - 1 : Int) - 1).toNat) ?_ ?_
 exact ⟨1, w13, rfl, rfl, s185, s186, s187, s188, s189, (have hx : ((midO (Zref13_Weave_1 rs) (maxL rs) mb) : List I3T) = midO (Zref13_Weave_1 rs) (maxL rs) mb ++ midI (Zref13_Weave_1 rs) mb 1 := (by rw [midI_1 (Int.le_refl 1), List.append_nil]); Own.re o190 (congrArg List.length hx) (congrArg (fun l : List I3T => l.flatMap eI3) hx)), m191, by omega, by omega⟩
 rintro _ f195 H194 ⟨ma, w13, rfl, s196, s197, s198, s199, s200, s201, o202, m203, hma0, hma1⟩
 refine AWP.seq ?_
 refine Sr ?_
 refine V rfl s196 (V rfl s198 (B rfl rfl rfl (isub (by omega)) (B rfl rfl rfl rfl ?_)))
 refine AOps.nil ?_
 change AWP _ _ _ _ _ _
 by_cases b204 : ma < maxL rs - 1
 refine ct_ rfl (decide_eq_true b204) ?_
 refine AWP.skip ?_
 refine AWP.seq ?_
 refine bk_ ?_
 refine Sr ?_
 refine V rfl s200 (V rfl s196 (V rfl s197 (C rfl (Pc («as» := [J ma, J mb]) rfl rfl (rfl) tf_63 (c_ref13_inner ma mb) ?_))))
 intro H205 m206
 have o207 := Own.mono o202 m206
 have m208 := m203.trans m206
 refine C rfl (Pc («as» := [.sl (spotsL rs (maxL rs)).length ((spotsL rs (maxL rs)).flatMap eSpot), .agg [J ((inn ma mb).Kind), J ((inn ma mb).A), J ((inn ma mb).B)]]) rfl rfl (rfl) tf_64 (c_number (spotsL rs (maxL rs)) (by first | assumption | omega) (inn ma mb) (by assumption) (ranS_inn (by omega) (by omega))) ?_)
 intro H209 m210
 have o211 := Own.mono o207 m210
 have m212 := m208.trans m210
 refine A rfl rfl ?_
 refine Sr ?_
 refine V rfl s200 (V rfl s196 (B rfl rfl rfl (iadd (by omega)) (V rfl s197 (C rfl (Pc («as» := [J (ma + 1), J mb]) rfl rfl (rfl) tf_63 (c_ref13_inner (ma + 1) mb) ?_)))))
 intro H213 m214
 have o215 := Own.mono o211 m214
 have m216 := m212.trans m214
 refine C rfl (Pc («as» := [.sl (spotsL rs (maxL rs)).length ((spotsL rs (maxL rs)).flatMap eSpot), .agg [J ((inn (ma + 1) mb).Kind), J ((inn (ma + 1) mb).A), J ((inn (ma + 1) mb).B)]]) rfl rfl (rfl) tf_64 (c_number (spotsL rs (maxL rs)) (by first | assumption | omega) (inn (ma + 1) mb) (by assumption) (ranS_inn (by omega) (by omega))) ?_)
 intro H217 m218
 have o219 := Own.mono o215 m218
 have m220 := m216.trans m218
 refine A rfl rfl ?_
 refine Sr ?_
 refine V rfl s200 (V rfl s196 (B rfl rfl rfl (iadd (by omega)) (V rfl s197 (B rfl rfl rfl (iadd (by omega)) (C rfl (Pc («as» := [J (ma + 1), J (mb + 1)]) rfl rfl (rfl) tf_63 (c_ref13_inner (ma + 1) (mb + 1)) ?_))))))
 intro H221 m222
 have o223 := Own.mono o219 m222
 have m224 := m220.trans m222
 refine C rfl (Pc («as» := [.sl (spotsL rs (maxL rs)).length ((spotsL rs (maxL rs)).flatMap eSpot), .agg [J ((inn (ma + 1) (mb + 1)).Kind), J ((inn (ma + 1) (mb + 1)).A), J ((inn (ma + 1) (mb + 1)).B)]]) rfl rfl (rfl) tf_64 (c_number (spotsL rs (maxL rs)) (by first | assumption | omega) (inn (ma + 1) (mb + 1)) (by assumption) (ranS_inn (by omega) (by omega))) ?_)
 intro H225 m226
 have o227 := Own.mono o223 m226
 have m228 := m224.trans m226
 refine A rfl rfl ?_
 refine Sr ?_
 refine V rfl s200 (V rfl s196 (V rfl s197 (B rfl rfl rfl (iadd (by omega)) (C rfl (Pc («as» := [J ma, J (mb + 1)]) rfl rfl (rfl) tf_63 (c_ref13_inner ma (mb + 1)) ?_)))))
 intro H229 m230
 have o231 := Own.mono o227 m230
 have m232 := m228.trans m230
 refine C rfl (Pc («as» := [.sl (spotsL rs (maxL rs)).length ((spotsL rs (maxL rs)).flatMap eSpot), .agg [J ((inn ma (mb + 1)).Kind), J ((inn ma (mb + 1)).A), J ((inn ma (mb + 1)).B)]]) rfl rfl (rfl) tf_64 (c_number (spotsL rs (maxL rs)) (by first | assumption | omega) (inn ma (mb + 1)) (by assumption) (ranS_inn (by omega) (by omega))) ?_)
 intro H233 m234
 have o235 := Own.mono o231 m234
 have m236 := m232.trans m234
 refine A rfl rfl ?_
 refine AOps.nil ?_
 change AWP _ _ _ _ _ _
 have q1 := midO_len (N := (Zref13_Weave_1 rs)) (m := maxL rs) (b := mb) hm16 (by omega)
 have q2 := midI_len (N := (Zref13_Weave_1 rs)) (b := mb) (a := ma) (by omega)
 refine AWP.region rfl ?_
 refine V rfl s201 (V rfl rfl (V rfl rfl (V rfl rfl (C rfl (Bl (cells := [J (numL (spotsL rs (maxL rs)) (inn ma mb)), J (numL (spotsL rs (maxL rs)) (inn (ma + 1) mb)), J (numL (spotsL rs (maxL rs)) (inn (ma + 1) (mb + 1)))]) rfl tz_59 pl_59 rfl rfl (V rfl rfl (V rfl rfl (V rfl rfl (C rfl (Bl (cells := [J (numL (spotsL rs (maxL rs)) (inn ma mb)), J (numL (spotsL rs (maxL rs)) (inn (ma + 1) (mb + 1))), J (numL (spotsL rs (maxL rs)) (inn ma (mb + 1)))]) rfl tz_59 pl_59 rfl rfl (C rfl (AOp.buildSlice (cells := [J (numL (spotsL rs (maxL rs)) (inn ma mb)), J (numL (spotsL rs (maxL rs)) (inn (ma + 1) mb)), J (numL (spotsL rs (maxL rs)) (inn (ma + 1) (mb + 1))), J (numL (spotsL rs (maxL rs)) (inn ma mb)), J (numL (spotsL rs (maxL rs)) (inn (ma + 1) (mb + 1))), J (numL (spotsL rs (maxL rs)) (inn ma (mb + 1)))]) rfl u_36 ts_59 tz_59 rfl rfl rfl ?_))))))))))))
 intro i237 H238 n239 h240 k241
 have o243 := Own.keep o235 k241 (Own.notnew o235 n239)
 have m245 := Mono.new m236 n239 k241
 refine C rfl (AOp.append_own (es := 3) (m := 2) (len := ((midO (Zref13_Weave_1 rs) (maxL rs) mb ++ midI (Zref13_Weave_1 rs) mb ma).length)) (old := (midO (Zref13_Weave_1 rs) (maxL rs) mb ++ midI (Zref13_Weave_1 rs) mb ma).flatMap eI3) (cells := [J (numL (spotsL rs (maxL rs)) (inn ma mb)), J (numL (spotsL rs (maxL rs)) (inn (ma + 1) mb)), J (numL (spotsL rs (maxL rs)) (inn (ma + 1) (mb + 1))), J (numL (spotsL rs (maxL rs)) (inn ma mb)), J (numL (spotsL rs (maxL rs)) (inn (ma + 1) (mb + 1))), J (numL (spotsL rs (maxL rs)) (inn ma (mb + 1)))]) rfl u_36 ts_59 tzn_59 tb_59 (by decide) ni_36 rfl o243 m245 rfl (.slm h240 rfl) (one_of rfl) (by decide) (by simp only [List.length_append, List.length_cons, List.length_nil] at *; omega) ?_)
 intro v246 H247 o248 m249 k250 j251
 have o252 := Own.appM (xs := ((midO (Zref13_Weave_1 rs) (maxL rs) mb ++ midI (Zref13_Weave_1 rs) mb ma) : List I3T)) (ys := ([(I3T.mk (numL (spotsL rs (maxL rs)) (inn ma mb)) (numL (spotsL rs (maxL rs)) (inn (ma + 1) mb)) (numL (spotsL rs (maxL rs)) (inn (ma + 1) (mb + 1)))), (I3T.mk (numL (spotsL rs (maxL rs)) (inn ma mb)) (numL (spotsL rs (maxL rs)) (inn (ma + 1) (mb + 1))) (numL (spotsL rs (maxL rs)) (inn ma (mb + 1))))] : List I3T)) (e := eI3) (by simp) o248
 refine A rfl rfl ?_
 refine AWP.region rfl ?_
 refine V rfl s196 (B rfl rfl rfl (iadd (by omega)) (A rfl rfl ?_))
 refine AOps.nil ?_
 exact ⟨_, by omega, ma + 1, v246, rfl, rfl, s197, s198, s199, s200, rfl, (have hx : (((midO (Zref13_Weave_1 rs) (maxL rs) mb ++ midI (Zref13_Weave_1 rs) mb ma) ++ [(I3T.mk (numL (spotsL rs (maxL rs)) (inn ma mb)) (numL (spotsL rs (maxL rs)) (inn (ma + 1) mb)) (numL (spotsL rs (maxL rs)) (inn (ma + 1) (mb + 1)))), (I3T.mk (numL (spotsL rs (maxL rs)) (inn ma mb)) (numL (spotsL rs (maxL rs)) (inn (ma + 1) (mb + 1))) (numL (spotsL rs (maxL rs)) (inn ma (mb + 1))))]) : List I3T) = midO (Zref13_Weave_1 rs) (maxL rs) mb ++ midI (Zref13_Weave_1 rs) mb (ma + 1) := (by rw [midI_step hma0] <;> simp only [midC, List.append_assoc, List.cons_append, List.nil_append]); Own.re o252 (congrArg List.length hx) (congrArg (fun l : List I3T => l.flatMap eI3) hx)), m249, by omega, by omega⟩
 refine cf_ rfl (decide_eq_false b204) ?_
 refine AWP.exit ?_
 change AWP _ _ _ _ _ _
 refine AWP.region rfl ?_
 refine V rfl s197 (B rfl rfl rfl (iadd (by omega)) (A rfl rfl ?_))
 refine AOps.nil ?_
 exact ⟨_, by omega, mb + 1, w13, rfl, rfl, s198, s199, s200, s201, (have hx : ((midO (Zref13_Weave_1 rs) (maxL rs) mb ++ midI (Zref13_Weave_1 rs) mb ma) : List I3T) = midO (Zref13_Weave_1 rs) (maxL rs) (mb + 1) := (by rw [show ma = maxL rs - 1 by omega, midO_step hmb0]); Own.re o202 (congrArg List.length hx) (congrArg (fun l : List I3T => l.flatMap eI3) hx)), m203, by omega, by omega⟩
 refine cf_ rfl (decide_eq_false b192) ?_
 refine AWP.exit ?_
 change AWP _ _ _ _ _ _
 refine AWP.seq ?_
 refine Sr ?_
 refine A rfl rfl ?_
 refine bk_ ?_
 refine AWP.loop (fun q253 fq Hq => ∃ (k : Int) (w13 : AV), q253 = ((4 : Int) - k).toNat ∧ fq 20 = J k ∧ fq 5 = J (maxL rs) ∧ fq 1 = .fptr (rs.map eI) 0 ∧ fq 7 = .sl (spotsL rs (maxL rs)).length ((spotsL rs (maxL rs)).flatMap eSpot) ∧ fq 13 = w13 ∧ Own H0 Hq 3 w13 (midO (Zref13_Weave_1 rs) (maxL rs) (maxL rs - 1) ++ strO (Zref13_Weave_1 rs) rs (maxL rs) k).length ((midO (Zref13_Weave_1 rs) (maxL rs) (maxL rs - 1) ++ strO (Zref13_Weave_1 rs) rs (maxL rs) k).flatMap eI3) ∧ Mono H0 Hq ∧ (0 ≤ k) ∧ (k ≤ 4)) (k := ((4 : Int) - 0).toNat) ?_ ?_
 exact ⟨0, w13, rfl, rfl, s186, s187, s188, s189, (have hx : ((midO (Zref13_Weave_1 rs) (maxL rs) mb) : List I3T) = midO (Zref13_Weave_1 rs) (maxL rs) (maxL rs - 1) ++ strO (Zref13_Weave_1 rs) rs (maxL rs) 0 := (by rw [show mb = maxL rs - 1 by omega, strO_0, List.append_nil]); Own.re o190 (congrArg List.length hx) (congrArg (fun l : List I3T => l.flatMap eI3) hx)), m191, by omega, by omega⟩
 rintro _ f255 H254 ⟨k, w13, rfl, s256, s257, s258, s259, s260, o261, m262, hk0, hk1⟩
 refine AWP.seq ?_
 refine Sr ?_
 refine V rfl s256 (B rfl rfl rfl rfl ?_)
 refine AOps.nil ?_
 change AWP _ _ _ _ _ _
 by_cases b263 : k < 4
 refine ct_ rfl (decide_eq_true b263) ?_
 refine AWP.skip ?_
 refine AWP.seq ?_
 refine bk_ ?_
 refine AWP.seq ?_
 have hrk := hrt k hk0 (by omega)
 refine AWP.region rfl ?_
 refine V rfl s256 (C rfl (iF_ rfl s258 rfl ar_25 (by omega) (by omega) (L rfl rfl ty_3 (ld_off (o := 0 + k.toNat * 1) (by omega) (ld1 (i := k) (by omega) (by first | (have := h; omega) | (simp; omega)))) (A rfl rfl ?_))))
 refine Sr ?_
 refine A rfl rfl ?_
 refine Sr ?_
 refine A rfl rfl ?_
 refine bk_ ?_
 refine AWP.loop (fun q264 fq Hq => ∃ (i : Int) (t : Int) (ts : List I3T) (w13 : AV), q264 = ((at_ rs k - i) + (maxL rs - 1 - t)).toNat ∧ fq 22 = J i ∧ fq 23 = J t ∧ fq 20 = J k ∧ fq 5 = J (maxL rs) ∧ fq 1 = .fptr (rs.map eI) 0 ∧ fq 7 = .sl (spotsL rs (maxL rs)).length ((spotsL rs (maxL rs)).flatMap eSpot) ∧ fq 21 = J (at_ rs k) ∧ fq 13 = w13 ∧ Own H0 Hq 3 w13 (ts).length ((ts).flatMap eI3) ∧ Mono H0 Hq ∧ (0 ≤ i) ∧ (i ≤ at_ rs k) ∧ (1 ≤ t) ∧ (t ≤ maxL rs - 1) ∧ ((ts.length : Int) + (at_ rs k - i) + (maxL rs - 1 - t) ≤ 1000) ∧ (ts ++ strT (Zref13_Weave_1 rs) k (at_ rs k) (maxL rs) i t = midO (Zref13_Weave_1 rs) (maxL rs) (maxL rs - 1) ++ strO (Zref13_Weave_1 rs) rs (maxL rs)  (k + 1))) (k := ((at_ rs k - 0) + (maxL rs - 1 - 1)).toNat) ?_ ?_
 exact ⟨0, 1, midO (Zref13_Weave_1 rs) (maxL rs) (maxL rs - 1) ++ strO (Zref13_Weave_1 rs) rs (maxL rs) k, w13, rfl, rfl, rfl, s256, s257, s258, s259, rfl, s260, o261, m262, by omega, by omega, by omega, by omega, by have q1 := midO_len (N := (Zref13_Weave_1 rs)) (m := maxL rs) (b := maxL rs - 1) hm16 (by omega); have q2 := strO_len (N := (Zref13_Weave_1 rs)) (rs := rs) (m := maxL rs) (k := k) hrt hm16 (by omega); simp only [List.length_append]; omega, by rw [strO_step hk0, List.append_assoc]⟩
 rintro _ f266 H265 ⟨i, t, ts, w13, rfl, s267, s268, s269, s270, s271, s272, s273, s274, o275, m276, hi0, hi1, ht0, ht1, htl, hts2⟩
 refine AWP.seq ?_
 refine Sr ?_
 refine V rfl s267 (V rfl s273 (B rfl rfl rfl rfl (V rfl rfl ?_)))
 by_cases b277 : i < at_ rs k
 refine N rfl rfl (decide_eq_true b277) (N rfl rfl (decide_eq_true b277) (N rfl rfl (decide_eq_true b277) (N rfl rfl (decide_eq_true b277) (C rfl (Pt _ rfl rfl (decide_eq_true b277) rfl ?_)))))
 refine ct_ rfl rfl ?_
 refine AWP.skip ?_
 refine bk_ ?_
 refine Sr ?_
 refine V rfl s272 (V rfl s269 (V rfl s267 (V rfl s273 (C rfl (Pc («as» := [J k, J i, J (at_ rs k)]) rfl rfl (rfl) tf_65 (c_ref13_outer k i (at_ rs k) (by first | omega | assumption | (constructor <;> omega) | simp)) ?_)))))
 intro H278 m279
 have o280 := Own.mono o275 m279
 have m281 := m276.trans m279
 refine C rfl (Pc («as» := [.sl (spotsL rs (maxL rs)).length ((spotsL rs (maxL rs)).flatMap eSpot), .agg [J ((outS k i (at_ rs k)).Kind), J ((outS k i (at_ rs k)).A), J ((outS k i (at_ rs k)).B)]]) rfl rfl (rfl) tf_64 (c_number (spotsL rs (maxL rs)) (by first | assumption | omega) (outS k i (at_ rs k)) (by assumption) (ranS_out (by omega) (by omega))) ?_)
 intro H282 m283
 have o284 := Own.mono o280 m283
 have m285 := m281.trans m283
 refine A rfl rfl ?_
 refine Sr ?_
 refine V rfl s272 (V rfl s269 (V rfl s268 (V rfl s270 (C rfl (Pc («as» := [J k, J t, J (maxL rs)]) rfl rfl (rfl) tf_66 (c_ref13_beside k t (maxL rs) (by first | omega | assumption | (constructor <;> omega) | simp) (by first | omega | assumption | (constructor <;> omega) | simp)) ?_)))))
 intro H286 m287
 have o288 := Own.mono o284 m287
 have m289 := m285.trans m287
 refine C rfl (Pc («as» := [.sl (spotsL rs (maxL rs)).length ((spotsL rs (maxL rs)).flatMap eSpot), .agg [J ((besS k t (maxL rs)).Kind), J ((besS k t (maxL rs)).A), J ((besS k t (maxL rs)).B)]]) rfl rfl (rfl) tf_64 (c_number (spotsL rs (maxL rs)) (by first | assumption | omega) (besS k t (maxL rs)) (by assumption) (ranS_bes (by omega) (by omega))) ?_)
 intro H290 m291
 have o292 := Own.mono o288 m291
 have m293 := m289.trans m291
 refine A rfl rfl ?_
 refine Sr ?_
 refine V rfl s267 (V rfl s273 (B rfl rfl rfl rfl (V rfl rfl (Y rfl rfl rfl (decide_eq_true b277) (Mv _ rfl s268 (Y rfl rfl rfl (decide_eq_true b277) (Mv _ rfl s270 (Y rfl rfl rfl (decide_eq_true b277) (Bi _ rfl rfl rfl (isub (by omega)) (Y rfl rfl rfl (decide_eq_true b277) (Bi _ rfl rfl rfl ieq (Y rfl rfl rfl (decide_eq_true b277) (Mv _ rfl rfl ?_)))))))))))))
 by_cases b294 : t = maxL rs - 1
 refine N rfl rfl (decide_eq_true b294) (N rfl rfl (decide_eq_true b294) (N rfl rfl (decide_eq_true b294) (N rfl rfl (decide_eq_true b294) (N rfl rfl (decide_eq_true b294) (N rfl rfl (decide_eq_true b294) (N rfl rfl (decide_eq_true b294) (N rfl rfl (decide_eq_true b294) (N rfl rfl (decide_eq_true b294) (N rfl rfl (decide_eq_true b294) (N rfl rfl (decide_eq_true b294) (Y rfl rfl rfl (decide_eq_true b277) (Pt _ rfl rfl (decide_eq_true b294) rfl (C rfl (Pt _ rfl rfl (decide_eq_true b277) rfl ?_))))))))))))))
 refine ct_ rfl rfl ?_
 refine Sr ?_
 refine V rfl s274 (V rfl rfl (V rfl s272 (V rfl s269 (V rfl s267 (B rfl rfl rfl (iadd (by omega)) (V rfl s273 (C rfl (Pc («as» := [J k, J (i + 1), J (at_ rs k)]) rfl rfl (rfl) tf_65 (c_ref13_outer k (i + 1) (at_ rs k) (by first | omega | assumption | (constructor <;> omega) | simp)) ?_))))))))
 intro H295 m296
 have o297 := Own.mono o292 m296
 have m298 := m293.trans m296
 refine C rfl (Pc («as» := [.sl (spotsL rs (maxL rs)).length ((spotsL rs (maxL rs)).flatMap eSpot), .agg [J ((outS k (i + 1) (at_ rs k)).Kind), J ((outS k (i + 1) (at_ rs k)).A), J ((outS k (i + 1) (at_ rs k)).B)]]) rfl rfl (rfl) tf_64 (c_number (spotsL rs (maxL rs)) (by first | assumption | omega) (outS k (i + 1) (at_ rs k)) (by assumption) (ranS_out (by omega) (by omega))) ?_)
 intro H299 m300
 have o301 := Own.mono o297 m300
 have m302 := m298.trans m300
 refine V rfl rfl (C rfl (Bl (cells := [J (Zref13_Weave_0 rs i k), J (numL (spotsL rs (maxL rs)) (outS k (i + 1) (at_ rs k))), J (numL (spotsL rs (maxL rs)) (besS k t (maxL rs)))]) rfl tz_59 pl_59 rfl rfl (C rfl (AOp.buildSlice (cells := [J (Zref13_Weave_0 rs i k), J (numL (spotsL rs (maxL rs)) (outS k (i + 1) (at_ rs k))), J (numL (spotsL rs (maxL rs)) (besS k t (maxL rs)))]) rfl u_36 ts_59 tz_59 rfl rfl rfl ?_))))
 intro i303 H304 n305 h306 k307
 have o309 := Own.keep o301 k307 (Own.notnew o301 n305)
 have m311 := Mono.new m302 n305 k307
 refine C rfl (AOp.append_own (es := 3) (m := 1) (len := ((ts).length)) (old := (ts).flatMap eI3) (cells := [J (Zref13_Weave_0 rs i k), J (numL (spotsL rs (maxL rs)) (outS k (i + 1) (at_ rs k))), J (numL (spotsL rs (maxL rs)) (besS k t (maxL rs)))]) rfl u_36 ts_59 tzn_59 tb_59 (by decide) ni_36 rfl o309 m311 rfl (.slm h306 rfl) (one_of rfl) (by decide) (by simp only [List.length_append, List.length_cons, List.length_nil] at *; omega) ?_)
 intro v312 H313 o314 m315 k316 j317
 have o318 := Own.snocM (xs := ((ts) : List I3T)) (y := (I3T.mk (Zref13_Weave_0 rs i k) (numL (spotsL rs (maxL rs)) (outS k (i + 1) (at_ rs k))) (numL (spotsL rs (maxL rs)) (besS k t (maxL rs))))) (e := eI3) (by simp) o314
 refine A rfl rfl ?_
 refine AWP.region rfl ?_
 refine V rfl s267 (B rfl rfl rfl (iadd (by omega)) (A rfl rfl ?_))
 refine AOps.nil ?_
 exact ⟨_, by omega, i + 1, t, (ts) ++ [(I3T.mk (Zref13_Weave_0 rs i k) (numL (spotsL rs (maxL rs)) (outS k (i + 1) (at_ rs k))) (numL (spotsL rs (maxL rs)) (besS k t (maxL rs))))], v312, rfl, rfl, s268, s269, s270, s271, s272, s273, rfl, o318, m315, by omega, by omega, by omega, by omega, by simp only [List.length_append, List.length_cons, List.length_nil]; omega, by rw [← hts2, strT_out (i := i) (t := t) (by omega) (by omega) ⟨by omega, by first | (left; omega) | (right; omega)⟩]; simp only [List.append_assoc, List.cons_append, List.nil_append]⟩
 refine Y rfl rfl rfl (decide_eq_false b294) (Mv _ rfl s267 (Y rfl rfl rfl (decide_eq_false b294) (Bi _ rfl rfl rfl (imul (by omega)) (Y rfl rfl rfl (decide_eq_false b294) (Bi _ rfl rfl rfl (iadd (by omega)) (Y rfl rfl rfl (decide_eq_false b294) (Mv _ rfl s270 (Y rfl rfl rfl (decide_eq_false b294) (Bi _ rfl rfl rfl (imul (by have := mul_rng (x := 2 * i + 1) (k := maxL rs) (A := 64) (C := 16) (by omega) (by omega); omega)) (Y rfl rfl rfl (decide_eq_false b294) (Mv _ rfl s268 (Y rfl rfl rfl (decide_eq_false b294) (Bi _ rfl rfl rfl (imul (by omega)) (Y rfl rfl rfl (decide_eq_false b294) (Bi _ rfl rfl rfl (iadd (by omega)) (Y rfl rfl rfl (decide_eq_false b294) (Mv _ rfl s273 (Y rfl rfl rfl (decide_eq_false b294) (Bi _ rfl rfl rfl (imul (by have := mul_rng (x := 2 * t + 1) (k := at_ rs k) (A := 64) (C := 16) (by omega) (by omega); omega)) (Y rfl rfl rfl (decide_eq_false b294) (Bi _ rfl rfl rfl rfl (Y rfl rfl rfl (decide_eq_true b277) (Pf _ rfl rfl (decide_eq_false b294) rfl ?_)))))))))))))))))))))))
 refine C rfl (Pt _ rfl rfl (decide_eq_true b277) rfl ?_)
 refine AOps.nil ?_
 change AWP _ _ _ _ _ _
 by_cases b319 : (2 * i + 1) * (maxL rs) ≤ (2 * t + 1) * (at_ rs k)
 refine ct_ rfl (decide_eq_true b319) ?_
 refine Sr ?_
 refine V rfl s274 (V rfl rfl (V rfl s272 (V rfl s269 (V rfl s267 (B rfl rfl rfl (iadd (by omega)) (V rfl s273 (C rfl (Pc («as» := [J k, J (i + 1), J (at_ rs k)]) rfl rfl (rfl) tf_65 (c_ref13_outer k (i + 1) (at_ rs k) (by first | omega | assumption | (constructor <;> omega) | simp)) ?_))))))))
 intro H320 m321
 have o322 := Own.mono o292 m321
 have m323 := m293.trans m321
 refine C rfl (Pc («as» := [.sl (spotsL rs (maxL rs)).length ((spotsL rs (maxL rs)).flatMap eSpot), .agg [J ((outS k (i + 1) (at_ rs k)).Kind), J ((outS k (i + 1) (at_ rs k)).A), J ((outS k (i + 1) (at_ rs k)).B)]]) rfl rfl (rfl) tf_64 (c_number (spotsL rs (maxL rs)) (by first | assumption | omega) (outS k (i + 1) (at_ rs k)) (by assumption) (ranS_out (by omega) (by omega))) ?_)
 intro H324 m325
 have o326 := Own.mono o322 m325
 have m327 := m323.trans m325
 refine V rfl rfl (C rfl (Bl (cells := [J (Zref13_Weave_0 rs i k), J (numL (spotsL rs (maxL rs)) (outS k (i + 1) (at_ rs k))), J (numL (spotsL rs (maxL rs)) (besS k t (maxL rs)))]) rfl tz_59 pl_59 rfl rfl (C rfl (AOp.buildSlice (cells := [J (Zref13_Weave_0 rs i k), J (numL (spotsL rs (maxL rs)) (outS k (i + 1) (at_ rs k))), J (numL (spotsL rs (maxL rs)) (besS k t (maxL rs)))]) rfl u_36 ts_59 tz_59 rfl rfl rfl ?_))))
 intro i328 H329 n330 h331 k332
 have o334 := Own.keep o326 k332 (Own.notnew o326 n330)
 have m336 := Mono.new m327 n330 k332
 refine C rfl (AOp.append_own (es := 3) (m := 1) (len := ((ts).length)) (old := (ts).flatMap eI3) (cells := [J (Zref13_Weave_0 rs i k), J (numL (spotsL rs (maxL rs)) (outS k (i + 1) (at_ rs k))), J (numL (spotsL rs (maxL rs)) (besS k t (maxL rs)))]) rfl u_36 ts_59 tzn_59 tb_59 (by decide) ni_36 rfl o334 m336 rfl (.slm h331 rfl) (one_of rfl) (by decide) (by simp only [List.length_append, List.length_cons, List.length_nil] at *; omega) ?_)
 intro v337 H338 o339 m340 k341 j342
 have o343 := Own.snocM (xs := ((ts) : List I3T)) (y := (I3T.mk (Zref13_Weave_0 rs i k) (numL (spotsL rs (maxL rs)) (outS k (i + 1) (at_ rs k))) (numL (spotsL rs (maxL rs)) (besS k t (maxL rs))))) (e := eI3) (by simp) o339
 refine A rfl rfl ?_
 refine AWP.region rfl ?_
 refine V rfl s267 (B rfl rfl rfl (iadd (by omega)) (A rfl rfl ?_))
 refine AOps.nil ?_
 exact ⟨_, by omega, i + 1, t, (ts) ++ [(I3T.mk (Zref13_Weave_0 rs i k) (numL (spotsL rs (maxL rs)) (outS k (i + 1) (at_ rs k))) (numL (spotsL rs (maxL rs)) (besS k t (maxL rs))))], v337, rfl, rfl, s268, s269, s270, s271, s272, s273, rfl, o343, m340, by omega, by omega, by omega, by omega, by simp only [List.length_append, List.length_cons, List.length_nil]; omega, by rw [← hts2, strT_out (i := i) (t := t) (by omega) (by omega) ⟨by omega, by first | (left; omega) | (right; omega)⟩]; simp only [List.append_assoc, List.cons_append, List.nil_append]⟩
 refine cf_ rfl (decide_eq_false b319) ?_
 refine Sr ?_
 refine V rfl s274 (V rfl rfl (V rfl s272 (V rfl s269 (V rfl s268 (B rfl rfl rfl (iadd (by omega)) (V rfl s270 (C rfl (Pc («as» := [J k, J (t + 1), J (maxL rs)]) rfl rfl (rfl) tf_66 (c_ref13_beside k (t + 1) (maxL rs) (by first | omega | assumption | (constructor <;> omega) | simp) (by first | omega | assumption | (constructor <;> omega) | simp)) ?_))))))))
 intro H344 m345
 have o346 := Own.mono o292 m345
 have m347 := m293.trans m345
 refine C rfl (Pc («as» := [.sl (spotsL rs (maxL rs)).length ((spotsL rs (maxL rs)).flatMap eSpot), .agg [J ((besS k (t + 1) (maxL rs)).Kind), J ((besS k (t + 1) (maxL rs)).A), J ((besS k (t + 1) (maxL rs)).B)]]) rfl rfl (rfl) tf_64 (c_number (spotsL rs (maxL rs)) (by first | assumption | omega) (besS k (t + 1) (maxL rs)) (by assumption) (ranS_bes (by omega) (by omega))) ?_)
 intro H348 m349
 have o350 := Own.mono o346 m349
 have m351 := m347.trans m349
 refine V rfl rfl (C rfl (Bl (cells := [J (Zref13_Weave_0 rs i k), J (numL (spotsL rs (maxL rs)) (besS k (t + 1) (maxL rs))), J (numL (spotsL rs (maxL rs)) (besS k t (maxL rs)))]) rfl tz_59 pl_59 rfl rfl (C rfl (AOp.buildSlice (cells := [J (Zref13_Weave_0 rs i k), J (numL (spotsL rs (maxL rs)) (besS k (t + 1) (maxL rs))), J (numL (spotsL rs (maxL rs)) (besS k t (maxL rs)))]) rfl u_36 ts_59 tz_59 rfl rfl rfl ?_))))
 intro i352 H353 n354 h355 k356
 have o358 := Own.keep o350 k356 (Own.notnew o350 n354)
 have m360 := Mono.new m351 n354 k356
 refine C rfl (AOp.append_own (es := 3) (m := 1) (len := ((ts).length)) (old := (ts).flatMap eI3) (cells := [J (Zref13_Weave_0 rs i k), J (numL (spotsL rs (maxL rs)) (besS k (t + 1) (maxL rs))), J (numL (spotsL rs (maxL rs)) (besS k t (maxL rs)))]) rfl u_36 ts_59 tzn_59 tb_59 (by decide) ni_36 rfl o358 m360 rfl (.slm h355 rfl) (one_of rfl) (by decide) (by simp only [List.length_append, List.length_cons, List.length_nil] at *; omega) ?_)
 intro v361 H362 o363 m364 k365 j366
 have o367 := Own.snocM (xs := ((ts) : List I3T)) (y := (I3T.mk (Zref13_Weave_0 rs i k) (numL (spotsL rs (maxL rs)) (besS k (t + 1) (maxL rs))) (numL (spotsL rs (maxL rs)) (besS k t (maxL rs))))) (e := eI3) (by simp) o363
 refine A rfl rfl ?_
 refine AWP.region rfl ?_
 refine V rfl s268 (B rfl rfl rfl (iadd (by omega)) (A rfl rfl ?_))
 refine AOps.nil ?_
 exact ⟨_, by omega, i, t + 1, (ts) ++ [(I3T.mk (Zref13_Weave_0 rs i k) (numL (spotsL rs (maxL rs)) (besS k (t + 1) (maxL rs))) (numL (spotsL rs (maxL rs)) (besS k t (maxL rs))))], v361, rfl, s267, rfl, s269, s270, s271, s272, s273, rfl, o367, m364, by omega, by omega, by omega, by omega, by simp only [List.length_append, List.length_cons, List.length_nil]; omega, by rw [← hts2, strT_in (i := i) (t := t) (by omega) (by omega) (by omega)]; simp only [List.append_assoc, List.cons_append, List.nil_append]⟩
 refine Y rfl rfl rfl (decide_eq_false b277) (Mv _ rfl s268 (Y rfl rfl rfl (decide_eq_false b277) (Mv _ rfl s270 (Y rfl rfl rfl (decide_eq_false b277) (Bi _ rfl rfl rfl (isub (by omega)) (Y rfl rfl rfl (decide_eq_false b277) (Bi _ rfl rfl rfl rfl (C rfl (Pf _ rfl rfl (decide_eq_false b277) rfl ?_)))))))))
 refine AOps.nil ?_
 change AWP _ _ _ _ _ _
 by_cases b368 : t < maxL rs - 1
 refine ct_ rfl (decide_eq_true b368) ?_
 refine AWP.skip ?_
 refine bk_ ?_
 refine Sr ?_
 refine V rfl s272 (V rfl s269 (V rfl s267 (V rfl s273 (C rfl (Pc («as» := [J k, J i, J (at_ rs k)]) rfl rfl (rfl) tf_65 (c_ref13_outer k i (at_ rs k) (by first | omega | assumption | (constructor <;> omega) | simp)) ?_)))))
 intro H369 m370
 have o371 := Own.mono o275 m370
 have m372 := m276.trans m370
 refine C rfl (Pc («as» := [.sl (spotsL rs (maxL rs)).length ((spotsL rs (maxL rs)).flatMap eSpot), .agg [J ((outS k i (at_ rs k)).Kind), J ((outS k i (at_ rs k)).A), J ((outS k i (at_ rs k)).B)]]) rfl rfl (rfl) tf_64 (c_number (spotsL rs (maxL rs)) (by first | assumption | omega) (outS k i (at_ rs k)) (by assumption) (ranS_out (by omega) (by omega))) ?_)
 intro H373 m374
 have o375 := Own.mono o371 m374
 have m376 := m372.trans m374
 refine A rfl rfl ?_
 refine Sr ?_
 refine V rfl s272 (V rfl s269 (V rfl s268 (V rfl s270 (C rfl (Pc («as» := [J k, J t, J (maxL rs)]) rfl rfl (rfl) tf_66 (c_ref13_beside k t (maxL rs) (by first | omega | assumption | (constructor <;> omega) | simp) (by first | omega | assumption | (constructor <;> omega) | simp)) ?_)))))
 intro H377 m378
 have o379 := Own.mono o375 m378
 have m380 := m376.trans m378
 refine C rfl (Pc («as» := [.sl (spotsL rs (maxL rs)).length ((spotsL rs (maxL rs)).flatMap eSpot), .agg [J ((besS k t (maxL rs)).Kind), J ((besS k t (maxL rs)).A), J ((besS k t (maxL rs)).B)]]) rfl rfl (rfl) tf_64 (c_number (spotsL rs (maxL rs)) (by first | assumption | omega) (besS k t (maxL rs)) (by assumption) (ranS_bes (by omega) (by omega))) ?_)
 intro H381 m382
 have o383 := Own.mono o379 m382
 have m384 := m380.trans m382
 refine A rfl rfl ?_
 refine Sr ?_
 refine V rfl s267 (V rfl s273 (B rfl rfl rfl rfl (V rfl rfl (N rfl rfl (decide_eq_false b277) (N rfl rfl (decide_eq_false b277) (N rfl rfl (decide_eq_false b277) (N rfl rfl (decide_eq_false b277) (N rfl rfl (decide_eq_false b277) (AOps.un rfl rfl rfl rfl rfl rfl rfl (AOps.un rfl rfl rfl rfl rfl rfl rfl (AOps.un rfl rfl rfl rfl rfl rfl rfl ?_)))))))))))
 refine AOps.un rfl rfl rfl rfl rfl rfl rfl (AOps.un rfl rfl rfl rfl rfl rfl rfl (AOps.un rfl rfl rfl rfl rfl rfl rfl (AOps.un rfl rfl rfl rfl rfl rfl rfl (AOps.un rfl rfl rfl rfl rfl rfl rfl (AOps.un rfl rfl rfl rfl rfl rfl rfl ?_)))))
 refine AOps.un rfl rfl rfl rfl rfl rfl rfl (AOps.un rfl rfl rfl rfl rfl rfl rfl (N rfl rfl (decide_eq_false b277) (C rfl (Pf _ rfl rfl (decide_eq_false b277) rfl ?_))))
 refine cf_ rfl rfl ?_
 refine Sr ?_
 refine V rfl s274 (V rfl rfl (V rfl s272 (V rfl s269 (V rfl s268 (B rfl rfl rfl (iadd (by omega)) (V rfl s270 (C rfl (Pc («as» := [J k, J (t + 1), J (maxL rs)]) rfl rfl (rfl) tf_66 (c_ref13_beside k (t + 1) (maxL rs) (by first | omega | assumption | (constructor <;> omega) | simp) (by first | omega | assumption | (constructor <;> omega) | simp)) ?_))))))))
 intro H385 m386
 have o387 := Own.mono o383 m386
 have m388 := m384.trans m386
 refine C rfl (Pc («as» := [.sl (spotsL rs (maxL rs)).length ((spotsL rs (maxL rs)).flatMap eSpot), .agg [J ((besS k (t + 1) (maxL rs)).Kind), J ((besS k (t + 1) (maxL rs)).A), J ((besS k (t + 1) (maxL rs)).B)]]) rfl rfl (rfl) tf_64 (c_number (spotsL rs (maxL rs)) (by first | assumption | omega) (besS k (t + 1) (maxL rs)) (by assumption) (ranS_bes (by omega) (by omega))) ?_)
 intro H389 m390
 have o391 := Own.mono o387 m390
 have m392 := m388.trans m390
 refine V rfl rfl (C rfl (Bl (cells := [J (Zref13_Weave_0 rs i k), J (numL (spotsL rs (maxL rs)) (besS k (t + 1) (maxL rs))), J (numL (spotsL rs (maxL rs)) (besS k t (maxL rs)))]) rfl tz_59 pl_59 rfl rfl (C rfl (AOp.buildSlice (cells := [J (Zref13_Weave_0 rs i k), J (numL (spotsL rs (maxL rs)) (besS k (t + 1) (maxL rs))), J (numL (spotsL rs (maxL rs)) (besS k t (maxL rs)))]) rfl u_36 ts_59 tz_59 rfl rfl rfl ?_))))
 intro i393 H394 n395 h396 k397
 have o399 := Own.keep o391 k397 (Own.notnew o391 n395)
 have m401 := Mono.new m392 n395 k397
 refine C rfl (AOp.append_own (es := 3) (m := 1) (len := ((ts).length)) (old := (ts).flatMap eI3) (cells := [J (Zref13_Weave_0 rs i k), J (numL (spotsL rs (maxL rs)) (besS k (t + 1) (maxL rs))), J (numL (spotsL rs (maxL rs)) (besS k t (maxL rs)))]) rfl u_36 ts_59 tzn_59 tb_59 (by decide) ni_36 rfl o399 m401 rfl (.slm h396 rfl) (one_of rfl) (by decide) (by simp only [List.length_append, List.length_cons, List.length_nil] at *; omega) ?_)
 intro v402 H403 o404 m405 k406 j407
 have o408 := Own.snocM (xs := ((ts) : List I3T)) (y := (I3T.mk (Zref13_Weave_0 rs i k) (numL (spotsL rs (maxL rs)) (besS k (t + 1) (maxL rs))) (numL (spotsL rs (maxL rs)) (besS k t (maxL rs))))) (e := eI3) (by simp) o404
 refine A rfl rfl ?_
 refine AWP.region rfl ?_
 refine V rfl s268 (B rfl rfl rfl (iadd (by omega)) (A rfl rfl ?_))
 refine AOps.nil ?_
 exact ⟨_, by omega, i, t + 1, (ts) ++ [(I3T.mk (Zref13_Weave_0 rs i k) (numL (spotsL rs (maxL rs)) (besS k (t + 1) (maxL rs))) (numL (spotsL rs (maxL rs)) (besS k t (maxL rs))))], v402, rfl, s267, rfl, s269, s270, s271, s272, s273, rfl, o408, m405, by omega, by omega, by omega, by omega, by simp only [List.length_append, List.length_cons, List.length_nil]; omega, by rw [← hts2, strT_in (i := i) (t := t) (by omega) (by omega) (by omega)]; simp only [List.append_assoc, List.cons_append, List.nil_append]⟩
 refine cf_ rfl (decide_eq_false b368) ?_
 refine AWP.exit ?_
 change AWP _ _ _ _ _ _
 refine AWP.region rfl ?_
 refine V rfl s269 (B rfl rfl rfl (iadd (by omega)) (A rfl rfl ?_))
 refine AOps.nil ?_
 exact ⟨_, by omega, k + 1, w13, rfl, rfl, s270, s271, s272, s274, (have hx : ((ts) : List I3T) = midO (Zref13_Weave_1 rs) (maxL rs) (maxL rs - 1) ++ strO (Zref13_Weave_1 rs) rs (maxL rs) (k + 1) := (by rw [← hts2, strT_end (by omega) (by omega), List.append_nil]); Own.re o275 (congrArg List.length hx) (congrArg (fun l : List I3T => l.flatMap eI3) hx)), m276, by omega, by omega⟩
 refine cf_ rfl (decide_eq_false b263) ?_
 refine AWP.exit ?_
 change AWP _ _ _ _ _ _
 refine Sr ?_
 refine V rfl s259 (V rfl s260 (A rfl rfl (A rfl rfl (A rfl rfl ?_))))
 refine rt_ ?_
 refine Fin.frz 3 o261 rfl m262 fun H409 m410 k411 => ?_
 refine Rr (Res.three rfl rfl rfl rfl) ?_ m410
 exact congrArg AV.tup (lc (congrArg (fun l : List SpotT => AV.sl l.length (l.flatMap eSpot)) (show ((spotsL rs (maxL rs)) : List SpotT) = (weaveR rs).1 from by rw [(weave_T h hrt).2.2]; first | done | rfl | (unfold trisL; rw [if_neg b149, show k = 4 by omega]))) (lc (congrArg (fun l : List I3T => AV.sl l.length (l.flatMap eI3)) (show ((midO (Zref13_Weave_1 rs) (maxL rs) (maxL rs - 1) ++ strO (Zref13_Weave_1 rs) rs (maxL rs) k) : List I3T) = (weaveR rs).2.1 from by rw [(weave_T h hrt).2.2]; first | done | rfl | (unfold trisL; rw [if_neg b149, show k = 4 by omega]))) (lc (congrArg AV.bool (show (true : Bool) = (weaveR rs).2.2 from by rw [(weave_T h hrt).2.2]; first | done | rfl | (unfold trisL; rw [if_neg b149, show k = 4 by omega]))) rfl)))
end Go.Proofs.M
namespace Go.Proofs.M
open Go Go.AH
theorem crn_rng {k : Int} (h0 : 0 ≤ k) (h4 : k < 4) : 0 ≤ at_ ([0, 3, 15, 12] : List Int) k ∧ at_ ([0, 3, 15, 12] : List Int) k < 16 := by
  rcases (by omega : k = 0 ∨ k = 1 ∨ k = 2 ∨ k = 3) with rfl | rfl | rfl | rfl <;> decide
end Go.Proofs.M
namespace Go.Proofs.M
open Go Go.AH
set_option maxRecDepth 4000
set_option linter.unusedSimpArgs false
set_option linter.unusedVariables false
set_option maxHeartbeats 4000000
def R_mesh_corner (p : PatchT) (cage id : Int) (rs : List Int) (m : Int) (k : Int) : VertexT :=
  (VertexT.mk (at_ p.aP (at_ ([0, 3, 15, 12] : List Int) k)) (at_ p.aNormals k) (KeyT.mk 1 cage (at_ p.aCorners k) 0 0))
theorem c_mesh_corner (p : PatchT) (cage id : Int) (rs : List Int) (h : rs.length = 4) (m : Int) (k : Int) (hk : 0 ≤ k ∧ k < 4) : PC Tryd.prog 52 [.fptr ((p.aP.flatMap eV) ++ ((p.aCorners.map eI) ++ ((p.aNormals.flatMap eV) ++ (([J p.Skin, J cage, J id] : List AV) ++ ((rs.map eI) ++ ([J m] : List AV)))))) 0, J k] (.agg [J (((R_mesh_corner p cage id rs m k).atF).X), J (((R_mesh_corner p cage id rs m k).atF).Y), J (((R_mesh_corner p cage id rs m k).atF).Z), J (((R_mesh_corner p cage id rs m k).up).X), J (((R_mesh_corner p cage id rs m k).up).Y), J (((R_mesh_corner p cage id rs m k).up).Z), J (((R_mesh_corner p cage id rs m k).key).Kind), J (((R_mesh_corner p cage id rs m k).key).Of), J (((R_mesh_corner p cage id rs m k).key).A), J (((R_mesh_corner p cage id rs m k).key).B), J (((R_mesh_corner p cage id rs m k).key).N)]) := by
 intro H0
 refine ACalls.of_body' (n := 34) rfl rfl rfl rfl ?_
 have m0 := Mono.refl H0
 refine Sr ?_
 refine C rfl (al_ rfl tz_78 ?_)
 intro i1 H2 n3 h4 k5
 have z6 := Mono.free m0 n3
 have m7 := Mono.new m0 n3 k5
 refine AWP.seq ?_
 have hg := crn_rng hk.1 hk.2
 refine AWP.region_quiet mixed (by kernel_rfl) 29 [29] rfl (by kernel_rfl) (Mono H2) (Mono.refl _) ?_
 refine QV rfl rfl (QV rfl rfl (Q rfl (fun _ _ φ ψ => iF_ rfl rfl (φ 6 rfl) ar_25 (by omega) (by omega) ⟨rfl, ψ⟩) (QL rfl rfl ty_3 (ld_off (o := 0 + k.toNat * 1) (by omega) (ld1 (i := k) (xs := ([0, 3, 15, 12] : List Int)) (by omega) (by first | (have := (rfl : ([0, 3, 15, 12] : List Int).length = 4); omega) | (simp; omega)))) (Q rfl (fun _ _ φ ψ => nc_ (.fptr ((p.aP.flatMap eV) ++ ((p.aCorners.map eI) ++ ((p.aNormals.flatMap eV) ++ (([J p.Skin, J cage, J id] : List AV) ++ ((rs.map eI) ++ ([J m] : List AV)))))) 0) rfl (φ 5 rfl) rfl ⟨rfl, ψ⟩) (QF rfl rfl fl_74_0 (QF rfl rfl fl_28_0 (Q rfl (fun _ _ φ ψ => iF_ rfl (φ 11 rfl) (φ 8 rfl) ar_24 (by omega) (by omega) ⟨rfl, ψ⟩) (QL rfl rfl ty_23 (ld_off (o := 0 + (at_ ([0, 3, 15, 12] : List Int) k).toNat * 3) (by omega) (ld_fst (fun h => by first | rfl | cases h) (ldM eV_len (i := at_ ([0, 3, 15, 12] : List Int) k) (by omega) (by first | (have := p.lP; omega) | (simp; omega))))) (QV rfl rfl (QV rfl rfl (Q rfl (fun _ _ φ ψ => nc_ (.fptr ((p.aP.flatMap eV) ++ ((p.aCorners.map eI) ++ ((p.aNormals.flatMap eV) ++ (([J p.Skin, J cage, J id] : List AV) ++ ((rs.map eI) ++ ([J m] : List AV)))))) 0) rfl (φ 14 rfl) rfl ⟨rfl, ψ⟩) (QF rfl rfl fl_74_0 (QF rfl rfl fl_28_2 ?_)))))))))))))
 refine Q rfl (fun _ _ φ ψ => iF_ rfl (φ 18 rfl) (φ 15 rfl) ar_26 (by omega) (by omega) ⟨rfl, ψ⟩) (QL rfl rfl ty_23 (ld_skip (off' := 4 + ((k).toNat * 3)) (lenM eV_len p.lP rfl) (by omega) (ld_skip (off' := (k).toNat * 3) (len1 p.lCorners) (by omega) (ld_fst (fun h => by first | rfl | cases h) (ldM eV_len (i := k) (by omega) (by first | (have := p.lNormals; omega) | (simp; omega)))))) (QV rfl rfl (Q rfl (fun _ _ φ ψ => nc_ (.fptr ((p.aP.flatMap eV) ++ ((p.aCorners.map eI) ++ ((p.aNormals.flatMap eV) ++ (([J p.Skin, J cage, J id] : List AV) ++ ((rs.map eI) ++ ([J m] : List AV)))))) 0) rfl (φ 21 rfl) rfl ⟨rfl, ψ⟩) (QF rfl rfl fl_74_1 (QL rfl rfl ty_3 (ld_skip (off' := 17) (lenM eV_len p.lP rfl) (by omega) (ld_skip (off' := 13) (len1 p.lCorners) (by omega) (ld_skip (off' := 1) (lenM eV_len p.lNormals rfl) (by omega) (ld_fst (fun h => by first | rfl | cases h) rfl)))) (QV rfl rfl (QV rfl rfl (Q rfl (fun _ _ φ ψ => nc_ (.fptr ((p.aP.flatMap eV) ++ ((p.aCorners.map eI) ++ ((p.aNormals.flatMap eV) ++ (([J p.Skin, J cage, J id] : List AV) ++ ((rs.map eI) ++ ([J m] : List AV)))))) 0) rfl (φ 25 rfl) rfl ⟨rfl, ψ⟩) (QF rfl rfl fl_74_0 (QF rfl rfl fl_28_1 (Q rfl (fun _ _ φ ψ => iF_ rfl (φ 29 rfl) (φ 26 rfl) ar_25 (by omega) (by omega) ⟨rfl, ψ⟩) (QL rfl rfl ty_3 (ld_skip (off' := (k).toNat * 1) (lenM eV_len p.lP rfl) (by omega) (ld_fst (fun h => by first | rfl | cases h) (ld1 (i := k) (by omega) (by first | (have := p.lCorners; omega) | (simp; omega))))) (Q rfl (fun _ _ φ ψ => Bl (cells := [J 1, J cage, J (at_ p.aCorners k), J 0, J 0]) rfl tz_58 pl_58 (lconsP rfl (lconsP (φ 24 rfl) (lconsP (φ 31 rfl) rfl))) rfl ⟨rfl, ψ⟩) ?_)))))))))))))
 refine Q rfl (fun _ _ φ ψ => Bl (cells := [J ((at_ p.aP (at_ ([0, 3, 15, 12] : List Int) k)).X), J ((at_ p.aP (at_ ([0, 3, 15, 12] : List Int) k)).Y), J ((at_ p.aP (at_ ([0, 3, 15, 12] : List Int) k)).Z), J ((at_ p.aNormals k).X), J ((at_ p.aNormals k).Y), J ((at_ p.aNormals k).Z), J 1, J cage, J (at_ p.aCorners k), J 0, J 0]) rfl tz_78 pl_78 (lconsP (φ 13 rfl) (lconsP (φ 20 rfl) (lconsP (φ 32 rfl) rfl))) rfl ⟨rfl, ψ⟩) ?_
 refine QE.done fun H8 m9 => ?_
 have h10 := m9 _ _ h4
 have m11 := m7.trans m9
 refine C rfl (Sw rfl rfl ts_78 h10 rfl rfl rfl ?_)
 intro H12 h13 k14
 have m16 := Mono.set m11 z6 k14
 refine rt_ ?_
 refine Rr (Res.list1 rfl (.cell (v := .agg [J ((at_ p.aP (at_ ([0, 3, 15, 12] : List Int) k)).X), J ((at_ p.aP (at_ ([0, 3, 15, 12] : List Int) k)).Y), J ((at_ p.aP (at_ ([0, 3, 15, 12] : List Int) k)).Z), J ((at_ p.aNormals k).X), J ((at_ p.aNormals k).Y), J ((at_ p.aNormals k).Z), J 1, J cage, J (at_ p.aCorners k), J 0, J 0]) rfl ty_78 h13 rfl (.nil))) ?_ m16
 have hR : R_mesh_corner p cage id rs m k = (VertexT.mk (at_ p.aP (at_ ([0, 3, 15, 12] : List Int) k)) (at_ p.aNormals k) (KeyT.mk 1 cage (at_ p.aCorners k) 0 0)) := rfl
 exact (congrArg (fun r : VertexT => (.agg [J r.atF.X, J r.atF.Y, J r.atF.Z, J r.up.X, J r.up.Y, J r.up.Z, J r.key.Kind, J r.key.Of, J r.key.A, J r.key.B, J r.key.N] : AV)) hR).symm
def R_mesh_side (p : PatchT) (cage id : Int) (rs : List Int) (m : Int) (k : Int) (i : Int) : VertexT :=
  if at_ p.aCorners ((k + 1) % 4) < at_ p.aCorners k then (VertexT.mk ((R_curve_Cubic (R_curve_Row p.aP k) i (at_ rs k)).1) ((R_relief_Blend (at_ p.aNormals k) (at_ p.aNormals ((k + 1) % 4)) i (at_ rs k)).1) (KeyT.mk 2 cage (at_ p.aCorners ((k + 1) % 4)) (at_ p.aCorners k) (at_ rs k - i))) else (VertexT.mk ((R_curve_Cubic (R_curve_Row p.aP k) i (at_ rs k)).1) ((R_relief_Blend (at_ p.aNormals k) (at_ p.aNormals ((k + 1) % 4)) i (at_ rs k)).1) (KeyT.mk 2 cage (at_ p.aCorners k) (at_ p.aCorners ((k + 1) % 4)) i))
abbrev Zmesh_side_0 (p : PatchT) (rs : List Int) (k : Int) (i : Int) := (R_relief_Blend (at_ p.aNormals k) (at_ p.aNormals ((k + 1) % 4)) i (at_ rs k)).1
abbrev Zmesh_side_1 (p : PatchT) (rs : List Int) (k : Int) (i : Int) := (R_curve_Cubic (R_curve_Row p.aP k) i (at_ rs k)).1
def Tmesh_side (r : VertexT) : AV := .agg [J r.atF.X, J r.atF.Y, J r.atF.Z, J r.up.X, J r.up.Y, J r.up.Z, J r.key.Kind, J r.key.Of, J r.key.A, J r.key.B, J r.key.N]
theorem c_mesh_side (p : PatchT) (cage id : Int) (rs : List Int) (h : rs.length = 4) (m : Int) (k : Int) (i : Int) (hk : 0 ≤ k ∧ k < 4) (hi : -1000 ≤ i ∧ i ≤ 1000) (hrk : -1000 ≤ at_ rs k ∧ at_ rs k ≤ 1000) : PC Tryd.prog 53 [.fptr ((p.aP.flatMap eV) ++ ((p.aCorners.map eI) ++ ((p.aNormals.flatMap eV) ++ (([J p.Skin, J cage, J id] : List AV) ++ ((rs.map eI) ++ ([J m] : List AV)))))) 0, J k, J i] (.agg [J (((R_mesh_side p cage id rs m k i).atF).X), J (((R_mesh_side p cage id rs m k i).atF).Y), J (((R_mesh_side p cage id rs m k i).atF).Z), J (((R_mesh_side p cage id rs m k i).up).X), J (((R_mesh_side p cage id rs m k i).up).Y), J (((R_mesh_side p cage id rs m k i).up).Z), J (((R_mesh_side p cage id rs m k i).key).Kind), J (((R_mesh_side p cage id rs m k i).key).Of), J (((R_mesh_side p cage id rs m k i).key).A), J (((R_mesh_side p cage id rs m k i).key).B), J (((R_mesh_side p cage id rs m k i).key).N)]) := by
 intro H0
 refine ACalls.of_body' (n := 90) rfl rfl rfl rfl ?_
 have m0 := Mono.refl H0
 refine Sr ?_
 refine C rfl (al_ rfl tz_78 ?_)
 intro i1 H2 n3 h4 k5
 have z6 := Mono.free m0 n3
 have m7 := Mono.new m0 n3 k5
 refine Sr ?_
 refine V rfl rfl (V rfl rfl (C rfl (nc_ (.fptr ((p.aP.flatMap eV) ++ ((p.aCorners.map eI) ++ ((p.aNormals.flatMap eV) ++ (([J p.Skin, J cage, J id] : List AV) ++ ((rs.map eI) ++ ([J m] : List AV)))))) 0) rfl rfl rfl (F rfl rfl fl_74_3 (C rfl (iF_ rfl rfl rfl ar_25 (by omega) (by omega) (L rfl rfl ty_3 (ld_skip (off' := 19 + ((k).toNat * 1)) (lenM eV_len p.lP rfl) (by omega) (ld_skip (off' := 15 + ((k).toNat * 1)) (len1 p.lCorners) (by omega) (ld_skip (off' := 3 + ((k).toNat * 1)) (lenM eV_len p.lNormals rfl) (by omega) (ld_skip (off' := (k).toNat * 1) (n := 3) rfl (by omega) (ld_fst (fun h => by first | rfl | cases h) (ld1 (i := k) (by omega) (by first | (have := h; omega) | (simp; omega)))))))) (V rfl rfl (B rfl rfl rfl (iadd (by omega)) (C rfl (AOp.remP rfl rfl rfl (by omega) (by omega) (A rfl rfl (A rfl rfl ?_)))))))))))))
 refine Sr ?_
 refine V rfl rfl (C rfl (nc_ (.fptr ((p.aP.flatMap eV) ++ ((p.aCorners.map eI) ++ ((p.aNormals.flatMap eV) ++ (([J p.Skin, J cage, J id] : List AV) ++ ((rs.map eI) ++ ([J m] : List AV)))))) 0) rfl rfl rfl (F rfl rfl fl_74_0 (F rfl rfl fl_28_0 (L rfl rfl ty_24 (ld_fst (fun h => by first | rfl | cases h) (ld_all (lenM eV_len p.lP rfl))) (V rfl rfl (C rfl (Pc («as» := [.agg (p.aP.flatMap eV), J k]) rfl rfl (rfl) tf_47 (c_curve_Row p.aP p.lP k) ?_))))))))
 intro H8 m9
 have h10 := m9 _ _ h4
 have m11 := m7.trans m9
 refine V rfl rfl (V rfl rfl (C rfl (Pc («as» := [.agg ((R_curve_Row p.aP k).flatMap eV), J i, J (at_ rs k)]) rfl rfl (rfl) tf_84 (c_curve_Cubic (R_curve_Row p.aP k) (R_curve_Row_len p.aP k) i (at_ rs k)) ?_)))
 intro H12 m13
 have h14 := m13 _ _ h10
 have m15 := m11.trans m13
 refine V rfl rfl (E rfl rfl rfl (E rfl rfl rfl (C rfl (al_ rfl tz_23 ?_))))
 intro i16 H17 n18 h19 k20
 have e21 := ne_new h14 n18
 have z22 := Mono.free m15 n18
 have h23 := keep k20 (ne_new h14 n18) h14
 have m24 := Mono.new m15 n18 k20
 refine C rfl (Sw rfl rfl ts_23 h19 rfl rfl rfl ?_)
 intro H25 h26 k27
 have h28 := keep k27 e21 h23
 have m30 := Mono.set m24 z22 k27
 refine A rfl rfl ?_
 refine AWP.seq ?_
 refine fz_ 9 h26 z22 rfl m30 fun H31 m32 k33 => ?_
 have h34 := (k33 _ e21).trans h28
 refine AWP.freshN fun b35 hb36 => ?_
 obtain ⟨i37, e38⟩ : ∃ x, x = b35 + 0 := ⟨_, rfl⟩
 have n39 := hb36 0; rw [← e38] at n39
 refine AWP.region_strA mixed (by kernel_rfl) [(20, i37, .row 0 ([J 0, J 0, J 0]))] [0, 1, 2, 3, 4, 5, 6, 7, 8, 9, 10, 11, 12, 13, 14, 15, 16, 17, 18, 19, 20] [(21, some [19])] [22] (by kernel_rfl) (by kernel_rfl) ⟨n39, trivial, trivial⟩ ?_
 have e40 := ne_new h34 n39
 have z41 := Mono.free m32 n39
 refine STRN.op rfl rfl rfl (.inl ⟨rfl, fun H1 f' H' hf hN hM => Mv _ rfl ((hf 0 rfl).trans rfl) ⟨rfl, hN⟩⟩) ?_
 refine STRN.op rfl rfl rfl (.inl ⟨rfl, fun H1 f' H' hf hN hM => Mv _ rfl ((hf 1 rfl).trans rfl) ⟨rfl, hN⟩⟩) ?_
 refine STRN.op rfl rfl rfl (.inl ⟨rfl, fun H1 f' H' hf hN hM => nc_ (.fptr ((p.aP.flatMap eV) ++ ((p.aCorners.map eI) ++ ((p.aNormals.flatMap eV) ++ (([J p.Skin, J cage, J id] : List AV) ++ ((rs.map eI) ++ ([J m] : List AV)))))) 0) rfl ((hf 38 rfl).trans rfl) rfl ⟨rfl, hN⟩⟩) ?_
 refine STRN.op rfl rfl rfl (.inl ⟨rfl, fun H1 f' H' hf hN hM => Ff rfl ((hf 40 rfl).trans rfl) fl_74_0 ⟨rfl, hN⟩⟩) ?_
 refine STRN.op rfl rfl rfl (.inl ⟨rfl, fun H1 f' H' hf hN hM => Ff rfl ((hf 41 rfl).trans rfl) fl_28_2 ⟨rfl, hN⟩⟩) ?_
 refine STRN.op rfl rfl rfl (.inl ⟨rfl, fun H1 f' H' hf hN hM => iF_ rfl ((hf 42 rfl).trans rfl) ((hf 39 rfl).trans rfl) ar_26 (by omega) (by omega) ⟨rfl, hN⟩⟩) ?_
 refine STRN.op rfl rfl rfl (.inl ⟨rfl, fun H1 f' H' hf hN hM => Lf _ rfl ((hf 43 rfl).trans rfl) ty_23 (ld_skip (off' := 4 + ((k).toNat * 3)) (lenM eV_len p.lP rfl) (by omega) (ld_skip (off' := (k).toNat * 3) (len1 p.lCorners) (by omega) (ld_fst (fun h => by first | rfl | cases h) (ldM eV_len (i := k) (by omega) (by first | (have := p.lNormals; omega) | (simp; omega)))))) ⟨rfl, hN⟩⟩) ?_
 refine STRN.op rfl rfl rfl (.inl ⟨rfl, fun H1 f' H' hf hN hM => Mv _ rfl ((hf 0 rfl).trans rfl) ⟨rfl, hN⟩⟩) ?_
 refine STRN.op rfl rfl rfl (.inl ⟨rfl, fun H1 f' H' hf hN hM => Mv _ rfl ((hf 8 rfl).trans rfl) ⟨rfl, hN⟩⟩) ?_
 refine STRN.op rfl rfl rfl (.inl ⟨rfl, fun H1 f' H' hf hN hM => nc_ (.fptr ((p.aP.flatMap eV) ++ ((p.aCorners.map eI) ++ ((p.aNormals.flatMap eV) ++ (([J p.Skin, J cage, J id] : List AV) ++ ((rs.map eI) ++ ([J m] : List AV)))))) 0) rfl ((hf 45 rfl).trans rfl) rfl ⟨rfl, hN⟩⟩) ?_
 refine STRN.op rfl rfl rfl (.inl ⟨rfl, fun H1 f' H' hf hN hM => Ff rfl ((hf 47 rfl).trans rfl) fl_74_0 ⟨rfl, hN⟩⟩) ?_
 refine STRN.op rfl rfl rfl (.inl ⟨rfl, fun H1 f' H' hf hN hM => Ff rfl ((hf 48 rfl).trans rfl) fl_28_2 ⟨rfl, hN⟩⟩) ?_
 refine STRN.op rfl rfl rfl (.inl ⟨rfl, fun H1 f' H' hf hN hM => iF_ rfl ((hf 49 rfl).trans rfl) ((hf 46 rfl).trans rfl) ar_26 (by omega) (by omega) ⟨rfl, hN⟩⟩) ?_
 refine STRN.op rfl rfl rfl (.inl ⟨rfl, fun H1 f' H' hf hN hM => Lf _ rfl ((hf 50 rfl).trans rfl) ty_23 (ld_skip (off' := 4 + (((k + 1) % 4).toNat * 3)) (lenM eV_len p.lP rfl) (by omega) (ld_skip (off' := ((k + 1) % 4).toNat * 3) (len1 p.lCorners) (by omega) (ld_fst (fun h => by first | rfl | cases h) (ldM eV_len (i := (k + 1) % 4) (by omega) (by first | (have := p.lNormals; omega) | (simp; omega)))))) ⟨rfl, hN⟩⟩) ?_
 refine STRN.op rfl rfl rfl (.inl ⟨rfl, fun H1 f' H' hf hN hM => Mv _ rfl ((hf 2 rfl).trans rfl) ⟨rfl, hN⟩⟩) ?_
 refine STRN.op rfl rfl rfl (.inl ⟨rfl, fun H1 f' H' hf hN hM => Mv _ rfl ((hf 7 rfl).trans rfl) ⟨rfl, hN⟩⟩) ?_
 refine STRN.op rfl rfl rfl (.inl ⟨rfl, fun H1 f' H' hf hN hM => Pc («as» := [.agg [J ((at_ p.aNormals k).X), J ((at_ p.aNormals k).Y), J ((at_ p.aNormals k).Z)], .agg [J ((at_ p.aNormals ((k + 1) % 4)).X), J ((at_ p.aNormals ((k + 1) % 4)).Y), J ((at_ p.aNormals ((k + 1) % 4)).Z)], J i, J (at_ rs k)]) rfl rfl (lapp (lcons ((hf 44 rfl).trans rfl) (lcons ((hf 51 rfl).trans rfl) (lcons ((hf 52 rfl).trans rfl) (lcons ((hf 53 rfl).trans rfl) rfl)))) rfl) tf_85 (c_relief_Blend (at_ p.aNormals k) (at_ p.aNormals ((k + 1) % 4)) i (at_ rs k)) fun H2 m2 => ⟨rfl, hN.trans m2⟩⟩) ?_
 refine STRN.op rfl rfl rfl (.inl ⟨rfl, fun H1 f' H' hf hN hM => Mv _ rfl ((hf 54 rfl).trans rfl) ⟨rfl, hN⟩⟩) ?_
 refine STRN.op rfl rfl rfl (.inl ⟨rfl, fun H1 f' H' hf hN hM => Ex _ rfl ((hf 37 rfl).trans rfl) rfl ⟨rfl, hN⟩⟩) ?_
 refine STRN.op rfl rfl rfl (.inl ⟨rfl, fun H1 f' H' hf hN hM => Ex _ rfl ((hf 37 rfl).trans rfl) rfl ⟨rfl, hN⟩⟩) ?_
 refine STRN.alloc (id := i37) (Z := [J 0, J 0, J 0]) (.head _) rfl rfl rfl rfl rfl tz_23 ?_
 refine STRN.done fun H42 m43 hu44 => ?_
 have h45 := m43 _ _ h34
 have m46 := m32.trans m43
 have h47 : H42 i37 = some (.row 0 ([J 0, J 0, J 0])) := hu44 _ (.head _)
 refine STR.st rfl rfl rfl fun f48 H49 hf50 m51 => ?_
 have h52 := m51 _ _ h45
 have h53 := m51 _ _ h47
 have m54 := m46.trans m51
 refine So (cells' := [J ((Zmesh_side_0 p rs k i).X), J ((Zmesh_side_0 p rs k i).Y), J ((Zmesh_side_0 p rs k i).Z)]) (.agg [J ((Zmesh_side_0 p rs k i).X), J ((Zmesh_side_0 p rs k i).Y), J ((Zmesh_side_0 p rs k i).Z)]) ((hf50 11 rfl).trans rfl) ((hf50 55 rfl).trans rfl) ts_23 h53 rfl rfl rfl rfl ?_
 intro H55 h56 k57
 have h58 := keep k57 e40 h52
 have m60 := Mono.set m54 z41 k57
 refine ⟨rfl, .inr (RevR.skip rfl (RevR.cons rfl (.inl ⟨rfl, fun H1 f' H' hf hN hM => Ex _ rfl ((hf 37 rfl).trans rfl) rfl ⟨rfl, hN⟩⟩) (RevR.skip rfl (RevR.skip rfl (RevR.skip rfl (RevR.skip rfl (RevR.skip rfl (RevR.skip rfl (RevR.skip rfl (RevR.skip rfl (RevR.skip rfl (RevR.skip rfl (RevR.skip rfl (RevR.skip rfl (RevR.skip rfl (RevR.skip rfl (RevR.skip rfl (RevR.skip rfl (RevR.skip rfl (RevR.skip rfl (RevR.skip rfl RevR.nil))))))))))))))))))))), ?_⟩
 refine STR.done fun H61 m62 => ?_
 have h63 := m62 _ _ h58
 have h64 := m62 _ _ h56
 have m65 := m60.trans m62
 refine A rfl rfl ?_
 refine AWP.seq ?_
 refine fz_ 11 h64 z41 rfl m65 fun H66 m67 k68 => ?_
 have h69 := (k68 _ e40).trans h63
 refine AWP.region_quiet mixed (by kernel_rfl) 16 [] rfl (by kernel_rfl) (Mono H66) (Mono.refl _) ?_
 refine QV rfl rfl (QV rfl rfl (Q rfl (fun _ _ φ ψ => nc_ (.fptr ((p.aP.flatMap eV) ++ ((p.aCorners.map eI) ++ ((p.aNormals.flatMap eV) ++ (([J p.Skin, J cage, J id] : List AV) ++ ((rs.map eI) ++ ([J m] : List AV)))))) 0) rfl (φ 57 rfl) rfl ⟨rfl, ψ⟩) (QF rfl rfl fl_74_0 (QF rfl rfl fl_28_1 (Q rfl (fun _ _ φ ψ => iF_ rfl (φ 61 rfl) (φ 58 rfl) ar_25 (by omega) (by omega) ⟨rfl, ψ⟩) (QL rfl rfl ty_3 (ld_skip (off' := (k).toNat * 1) (lenM eV_len p.lP rfl) (by omega) (ld_fst (fun h => by first | rfl | cases h) (ld1 (i := k) (by omega) (by first | (have := p.lCorners; omega) | (simp; omega))))) (QV rfl rfl (QV rfl rfl (Q rfl (fun _ _ φ ψ => nc_ (.fptr ((p.aP.flatMap eV) ++ ((p.aCorners.map eI) ++ ((p.aNormals.flatMap eV) ++ (([J p.Skin, J cage, J id] : List AV) ++ ((rs.map eI) ++ ([J m] : List AV)))))) 0) rfl (φ 64 rfl) rfl ⟨rfl, ψ⟩) (QF rfl rfl fl_74_0 (QF rfl rfl fl_28_1 (Q rfl (fun _ _ φ ψ => iF_ rfl (φ 68 rfl) (φ 65 rfl) ar_25 (by omega) (by omega) ⟨rfl, ψ⟩) (QL rfl rfl ty_3 (ld_skip (off' := ((k + 1) % 4).toNat * 1) (lenM eV_len p.lP rfl) (by omega) (ld_fst (fun h => by first | rfl | cases h) (ld1 (i := (k + 1) % 4) (by omega) (by first | (have := p.lCorners; omega) | (simp; omega))))) ?_)))))))))))))
 refine Q rfl (fun _ _ φ ψ => As _ rfl (φ 63 rfl) ⟨rfl, ψ⟩) (Q rfl (fun _ _ φ ψ => As _ rfl (φ 70 rfl) ⟨rfl, ψ⟩) ?_)
 refine QE.done fun H70 m71 => ?_
 have h72 := m71 _ _ h69
 have m73 := m67.trans m71
 refine AWP.seq ?_
 refine Sr ?_
 refine V rfl rfl (V rfl rfl (B rfl rfl rfl rfl ?_))
 refine AOps.nil ?_
 change AWP _ _ _ _ _ _
 by_cases b74 : at_ p.aCorners ((k + 1) % 4) < at_ p.aCorners k
 refine ct_ rfl (decide_eq_true b74) ?_
 refine AWP.region rfl ?_
 refine V rfl rfl (V rfl rfl (V rfl rfl (V rfl rfl (B rfl rfl rfl (isub (by omega)) (A rfl rfl (A rfl rfl (A rfl rfl ?_)))))))
 refine AWP.seq ?_
 refine AWP.region_quiet mixed (by kernel_rfl) 11 [11] rfl (by kernel_rfl) (Mono H70) (Mono.refl _) ?_
 refine QL rfl rfl ty_23 rfl (QL rfl rfl ty_23 rfl (QV rfl rfl (Q rfl (fun _ _ φ ψ => nc_ (.fptr ((p.aP.flatMap eV) ++ ((p.aCorners.map eI) ++ ((p.aNormals.flatMap eV) ++ (([J p.Skin, J cage, J id] : List AV) ++ ((rs.map eI) ++ ([J m] : List AV)))))) 0) rfl (φ 81 rfl) rfl ⟨rfl, ψ⟩) (QF rfl rfl fl_74_1 (QL rfl rfl ty_3 (ld_skip (off' := 17) (lenM eV_len p.lP rfl) (by omega) (ld_skip (off' := 13) (len1 p.lCorners) (by omega) (ld_skip (off' := 1) (lenM eV_len p.lNormals rfl) (by omega) (ld_fst (fun h => by first | rfl | cases h) rfl)))) (QV rfl rfl (QV rfl rfl (QV rfl rfl (Q rfl (fun _ _ φ ψ => Bl (cells := [J 2, J cage, J (at_ p.aCorners ((k + 1) % 4)), J (at_ p.aCorners k), J (at_ rs k - i)]) rfl tz_58 pl_58 (lconsP rfl (lconsP (φ 84 rfl) (lconsP (φ 85 rfl) (lconsP (φ 86 rfl) (lconsP (φ 87 rfl) rfl))))) rfl ⟨rfl, ψ⟩) (Q rfl (fun _ _ φ ψ => Bl (cells := [J ((Zmesh_side_1 p rs k i).X), J ((Zmesh_side_1 p rs k i).Y), J ((Zmesh_side_1 p rs k i).Z), J ((Zmesh_side_0 p rs k i).X), J ((Zmesh_side_0 p rs k i).Y), J ((Zmesh_side_0 p rs k i).Z), J 2, J cage, J (at_ p.aCorners ((k + 1) % 4)), J (at_ p.aCorners k), J (at_ rs k - i)]) rfl tz_78 pl_78 (lconsP (φ 79 rfl) (lconsP (φ 80 rfl) (lconsP (φ 88 rfl) rfl))) rfl ⟨rfl, ψ⟩) ?_))))))))))
 refine QE.done fun H75 m76 => ?_
 have h77 := m76 _ _ h72
 have m78 := m73.trans m76
 refine C rfl (Sw rfl rfl ts_78 h77 rfl rfl rfl ?_)
 intro H79 h80 k81
 have m83 := Mono.set m78 z6 k81
 refine rt_ ?_
 refine Rr (Res.list1 rfl (.cell (v := .agg [J ((Zmesh_side_1 p rs k i).X), J ((Zmesh_side_1 p rs k i).Y), J ((Zmesh_side_1 p rs k i).Z), J ((Zmesh_side_0 p rs k i).X), J ((Zmesh_side_0 p rs k i).Y), J ((Zmesh_side_0 p rs k i).Z), J 2, J cage, J (at_ p.aCorners ((k + 1) % 4)), J (at_ p.aCorners k), J (at_ rs k - i)]) rfl ty_78 h80 rfl (.nil))) ?_ m83
 have hR : R_mesh_side p cage id rs m k i = (VertexT.mk (Zmesh_side_1 p rs k i) (Zmesh_side_0 p rs k i) (KeyT.mk 2 cage (at_ p.aCorners ((k + 1) % 4)) (at_ p.aCorners k) (at_ rs k - i))) := by unfold R_mesh_side; rw [if_pos b74]
 exact (congrArg Tmesh_side hR).symm
 refine cf_ rfl (decide_eq_false b74) ?_
 refine AWP.skip ?_
 refine AWP.seq ?_
 refine AWP.region_quiet mixed (by kernel_rfl) 11 [11] rfl (by kernel_rfl) (Mono H70) (Mono.refl _) ?_
 refine QL rfl rfl ty_23 rfl (QL rfl rfl ty_23 rfl (QV rfl rfl (Q rfl (fun _ _ φ ψ => nc_ (.fptr ((p.aP.flatMap eV) ++ ((p.aCorners.map eI) ++ ((p.aNormals.flatMap eV) ++ (([J p.Skin, J cage, J id] : List AV) ++ ((rs.map eI) ++ ([J m] : List AV)))))) 0) rfl (φ 81 rfl) rfl ⟨rfl, ψ⟩) (QF rfl rfl fl_74_1 (QL rfl rfl ty_3 (ld_skip (off' := 17) (lenM eV_len p.lP rfl) (by omega) (ld_skip (off' := 13) (len1 p.lCorners) (by omega) (ld_skip (off' := 1) (lenM eV_len p.lNormals rfl) (by omega) (ld_fst (fun h => by first | rfl | cases h) rfl)))) (QV rfl rfl (QV rfl rfl (QV rfl rfl (Q rfl (fun _ _ φ ψ => Bl (cells := [J 2, J cage, J (at_ p.aCorners k), J (at_ p.aCorners ((k + 1) % 4)), J i]) rfl tz_58 pl_58 (lconsP rfl (lconsP (φ 84 rfl) (lconsP (φ 85 rfl) (lconsP (φ 86 rfl) (lconsP (φ 87 rfl) rfl))))) rfl ⟨rfl, ψ⟩) (Q rfl (fun _ _ φ ψ => Bl (cells := [J ((Zmesh_side_1 p rs k i).X), J ((Zmesh_side_1 p rs k i).Y), J ((Zmesh_side_1 p rs k i).Z), J ((Zmesh_side_0 p rs k i).X), J ((Zmesh_side_0 p rs k i).Y), J ((Zmesh_side_0 p rs k i).Z), J 2, J cage, J (at_ p.aCorners k), J (at_ p.aCorners ((k + 1) % 4)), J i]) rfl tz_78 pl_78 (lconsP (φ 79 rfl) (lconsP (φ 80 rfl) (lconsP (φ 88 rfl) rfl))) rfl ⟨rfl, ψ⟩) ?_))))))))))
 refine QE.done fun H84 m85 => ?_
 have h86 := m85 _ _ h72
 have m87 := m73.trans m85
 refine C rfl (Sw rfl rfl ts_78 h86 rfl rfl rfl ?_)
 intro H88 h89 k90
 have m92 := Mono.set m87 z6 k90
 refine rt_ ?_
 refine Rr (Res.list1 rfl (.cell (v := .agg [J ((Zmesh_side_1 p rs k i).X), J ((Zmesh_side_1 p rs k i).Y), J ((Zmesh_side_1 p rs k i).Z), J ((Zmesh_side_0 p rs k i).X), J ((Zmesh_side_0 p rs k i).Y), J ((Zmesh_side_0 p rs k i).Z), J 2, J cage, J (at_ p.aCorners k), J (at_ p.aCorners ((k + 1) % 4)), J i]) rfl ty_78 h89 rfl (.nil))) ?_ m92
 have hR : R_mesh_side p cage id rs m k i = (VertexT.mk (Zmesh_side_1 p rs k i) (Zmesh_side_0 p rs k i) (KeyT.mk 2 cage (at_ p.aCorners k) (at_ p.aCorners ((k + 1) % 4)) i)) := by unfold R_mesh_side; rw [if_neg b74]
 exact (congrArg Tmesh_side hR).symm
def R_mesh_inner (p : PatchT) (cage id : Int) (rs : List Int) (m : Int) (a : Int) (b : Int) : VertexT :=
  (VertexT.mk ((R_curve_Point p.aP a m b m).1) ((R_relief_Mix p.aNormals a m b m).1) (KeyT.mk 3 id a b 0))
theorem c_mesh_inner (p : PatchT) (cage id : Int) (rs : List Int) (h : rs.length = 4) (m : Int) (a : Int) (b : Int) : PC Tryd.prog 54 [.fptr ((p.aP.flatMap eV) ++ ((p.aCorners.map eI) ++ ((p.aNormals.flatMap eV) ++ (([J p.Skin, J cage, J id] : List AV) ++ ((rs.map eI) ++ ([J m] : List AV)))))) 0, J a, J b] (.agg [J (((R_mesh_inner p cage id rs m a b).atF).X), J (((R_mesh_inner p cage id rs m a b).atF).Y), J (((R_mesh_inner p cage id rs m a b).atF).Z), J (((R_mesh_inner p cage id rs m a b).up).X), J (((R_mesh_inner p cage id rs m a b).up).Y), J (((R_mesh_inner p cage id rs m a b).up).Z), J (((R_mesh_inner p cage id rs m a b).key).Kind), J (((R_mesh_inner p cage id rs m a b).key).Of), J (((R_mesh_inner p cage id rs m a b).key).A), J (((R_mesh_inner p cage id rs m a b).key).B), J (((R_mesh_inner p cage id rs m a b).key).N)]) := by
 intro H0
 refine ACalls.of_body' (n := 59) rfl rfl rfl rfl ?_
 have m0 := Mono.refl H0
 refine Sr ?_
 refine C rfl (al_ rfl tz_78 ?_)
 intro i1 H2 n3 h4 k5
 have z6 := Mono.free m0 n3
 have m7 := Mono.new m0 n3 k5
 refine AWP.seq ?_
 refine AWP.freshN fun b8 hb9 => ?_
 obtain ⟨i10, e11⟩ : ∃ x, x = b8 + 0 := ⟨_, rfl⟩
 have n12 := hb9 0; rw [← e11] at n12
 refine AWP.region_strA mixed (by kernel_rfl) [(19, i10, .row 0 ([J 0, J 0, J 0]))] [0, 1, 2, 3, 4, 5, 6, 7, 8, 9, 10, 11, 12, 13, 14, 15, 16, 17, 18, 19] [(20, some [18])] [21] (by kernel_rfl) (by kernel_rfl) ⟨n12, trivial, trivial⟩ ?_
 have e13 := ne_new h4 n12
 have z14 := Mono.free m7 n12
 refine STRN.op rfl rfl rfl (.inl ⟨rfl, fun H1 f' H' hf hN hM => Mv _ rfl ((hf 0 rfl).trans rfl) ⟨rfl, hN⟩⟩) ?_
 refine STRN.op rfl rfl rfl (.inl ⟨rfl, fun H1 f' H' hf hN hM => nc_ (.fptr ((p.aP.flatMap eV) ++ ((p.aCorners.map eI) ++ ((p.aNormals.flatMap eV) ++ (([J p.Skin, J cage, J id] : List AV) ++ ((rs.map eI) ++ ([J m] : List AV)))))) 0) rfl ((hf 12 rfl).trans rfl) rfl ⟨rfl, hN⟩⟩) ?_
 refine STRN.op rfl rfl rfl (.inl ⟨rfl, fun H1 f' H' hf hN hM => Ff rfl ((hf 13 rfl).trans rfl) fl_74_0 ⟨rfl, hN⟩⟩) ?_
 refine STRN.op rfl rfl rfl (.inl ⟨rfl, fun H1 f' H' hf hN hM => Ff rfl ((hf 14 rfl).trans rfl) fl_28_0 ⟨rfl, hN⟩⟩) ?_
 refine STRN.op rfl rfl rfl (.inl ⟨rfl, fun H1 f' H' hf hN hM => Lf _ rfl ((hf 15 rfl).trans rfl) ty_24 (ld_fst (fun h => by first | rfl | cases h) (ld_all (lenM eV_len p.lP rfl))) ⟨rfl, hN⟩⟩) ?_
 refine STRN.op rfl rfl rfl (.inl ⟨rfl, fun H1 f' H' hf hN hM => Mv _ rfl ((hf 1 rfl).trans rfl) ⟨rfl, hN⟩⟩) ?_
 refine STRN.op rfl rfl rfl (.inl ⟨rfl, fun H1 f' H' hf hN hM => Mv _ rfl ((hf 0 rfl).trans rfl) ⟨rfl, hN⟩⟩) ?_
 refine STRN.op rfl rfl rfl (.inl ⟨rfl, fun H1 f' H' hf hN hM => nc_ (.fptr ((p.aP.flatMap eV) ++ ((p.aCorners.map eI) ++ ((p.aNormals.flatMap eV) ++ (([J p.Skin, J cage, J id] : List AV) ++ ((rs.map eI) ++ ([J m] : List AV)))))) 0) rfl ((hf 18 rfl).trans rfl) rfl ⟨rfl, hN⟩⟩) ?_
 refine STRN.op rfl rfl rfl (.inl ⟨rfl, fun H1 f' H' hf hN hM => Ff rfl ((hf 19 rfl).trans rfl) fl_74_4 ⟨rfl, hN⟩⟩) ?_
 refine STRN.op rfl rfl rfl (.inl ⟨rfl, fun H1 f' H' hf hN hM => Lf _ rfl ((hf 20 rfl).trans rfl) ty_3 (ld_skip (off' := 23) (lenM eV_len p.lP rfl) (by omega) (ld_skip (off' := 19) (len1 p.lCorners) (by omega) (ld_skip (off' := 7) (lenM eV_len p.lNormals rfl) (by omega) (ld_skip (off' := 4) (n := 3) rfl (by omega) (ld_skip (off' := 0) (len1 h) (by omega) rfl))))) ⟨rfl, hN⟩⟩) ?_
 refine STRN.op rfl rfl rfl (.inl ⟨rfl, fun H1 f' H' hf hN hM => Mv _ rfl ((hf 2 rfl).trans rfl) ⟨rfl, hN⟩⟩) ?_
 refine STRN.op rfl rfl rfl (.inl ⟨rfl, fun H1 f' H' hf hN hM => Mv _ rfl ((hf 0 rfl).trans rfl) ⟨rfl, hN⟩⟩) ?_
 refine STRN.op rfl rfl rfl (.inl ⟨rfl, fun H1 f' H' hf hN hM => nc_ (.fptr ((p.aP.flatMap eV) ++ ((p.aCorners.map eI) ++ ((p.aNormals.flatMap eV) ++ (([J p.Skin, J cage, J id] : List AV) ++ ((rs.map eI) ++ ([J m] : List AV)))))) 0) rfl ((hf 23 rfl).trans rfl) rfl ⟨rfl, hN⟩⟩) ?_
 refine STRN.op rfl rfl rfl (.inl ⟨rfl, fun H1 f' H' hf hN hM => Ff rfl ((hf 24 rfl).trans rfl) fl_74_4 ⟨rfl, hN⟩⟩) ?_
 refine STRN.op rfl rfl rfl (.inl ⟨rfl, fun H1 f' H' hf hN hM => Lf _ rfl ((hf 25 rfl).trans rfl) ty_3 (ld_skip (off' := 23) (lenM eV_len p.lP rfl) (by omega) (ld_skip (off' := 19) (len1 p.lCorners) (by omega) (ld_skip (off' := 7) (lenM eV_len p.lNormals rfl) (by omega) (ld_skip (off' := 4) (n := 3) rfl (by omega) (ld_skip (off' := 0) (len1 h) (by omega) rfl))))) ⟨rfl, hN⟩⟩) ?_
 refine STRN.op rfl rfl rfl (.inl ⟨rfl, fun H1 f' H' hf hN hM => Pc («as» := [.agg (p.aP.flatMap eV), J a, J m, J b, J m]) rfl rfl (lapp (lcons ((hf 16 rfl).trans rfl) (lcons ((hf 17 rfl).trans rfl) (lcons ((hf 21 rfl).trans rfl) (lcons ((hf 22 rfl).trans rfl) (lcons ((hf 26 rfl).trans rfl) rfl))))) rfl) tf_86 (c_curve_Point p.aP p.lP a m b m) fun H2 m2 => ⟨rfl, hN.trans m2⟩⟩) ?_
 refine STRN.op rfl rfl rfl (.inl ⟨rfl, fun H1 f' H' hf hN hM => Mv _ rfl ((hf 27 rfl).trans rfl) ⟨rfl, hN⟩⟩) ?_
 refine STRN.op rfl rfl rfl (.inl ⟨rfl, fun H1 f' H' hf hN hM => Ex _ rfl ((hf 11 rfl).trans rfl) rfl ⟨rfl, hN⟩⟩) ?_
 refine STRN.op rfl rfl rfl (.inl ⟨rfl, fun H1 f' H' hf hN hM => Ex _ rfl ((hf 11 rfl).trans rfl) rfl ⟨rfl, hN⟩⟩) ?_
 refine STRN.alloc (id := i10) (Z := [J 0, J 0, J 0]) (.head _) rfl rfl rfl rfl rfl tz_23 ?_
 refine STRN.done fun H15 m16 hu17 => ?_
 have h18 := m16 _ _ h4
 have m19 := m7.trans m16
 have h20 : H15 i10 = some (.row 0 ([J 0, J 0, J 0])) := hu17 _ (.head _)
 refine STR.st rfl rfl rfl fun f21 H22 hf23 m24 => ?_
 have h25 := m24 _ _ h18
 have h26 := m24 _ _ h20
 have m27 := m19.trans m24
 refine So (cells' := [J (((R_curve_Point p.aP a m b m).1).X), J (((R_curve_Point p.aP a m b m).1).Y), J (((R_curve_Point p.aP a m b m).1).Z)]) (.agg [J (((R_curve_Point p.aP a m b m).1).X), J (((R_curve_Point p.aP a m b m).1).Y), J (((R_curve_Point p.aP a m b m).1).Z)]) ((hf23 7 rfl).trans rfl) ((hf23 28 rfl).trans rfl) ts_23 h26 rfl rfl rfl rfl ?_
 intro H28 h29 k30
 have h31 := keep k30 e13 h25
 have m33 := Mono.set m27 z14 k30
 refine ⟨rfl, .inr (RevR.skip rfl (RevR.cons rfl (.inl ⟨rfl, fun H1 f' H' hf hN hM => Ex _ rfl ((hf 11 rfl).trans rfl) rfl ⟨rfl, hN⟩⟩) (RevR.skip rfl (RevR.skip rfl (RevR.skip rfl (RevR.skip rfl (RevR.skip rfl (RevR.skip rfl (RevR.skip rfl (RevR.skip rfl (RevR.skip rfl (RevR.skip rfl (RevR.skip rfl (RevR.skip rfl (RevR.skip rfl (RevR.skip rfl (RevR.skip rfl (RevR.skip rfl (RevR.skip rfl (RevR.skip rfl RevR.nil)))))))))))))))))))), ?_⟩
 refine STR.done fun H34 m35 => ?_
 have h36 := m35 _ _ h31
 have h37 := m35 _ _ h29
 have m38 := m33.trans m35
 refine A rfl rfl ?_
 refine AWP.seq ?_
 refine fz_ 7 h37 z14 rfl m38 fun H39 m40 k41 => ?_
 have h42 := (k41 _ e13).trans h36
 refine AWP.freshN fun b43 hb44 => ?_
 obtain ⟨i45, e46⟩ : ∃ x, x = b43 + 0 := ⟨_, rfl⟩
 have n47 := hb44 0; rw [← e46] at n47
 refine AWP.region_strA mixed (by kernel_rfl) [(19, i45, .row 0 ([J 0, J 0, J 0]))] [0, 1, 2, 3, 4, 5, 6, 7, 8, 9, 10, 11, 12, 13, 14, 15, 16, 17, 18, 19] [(20, some [18])] [21] (by kernel_rfl) (by kernel_rfl) ⟨n47, trivial, trivial⟩ ?_
 have e48 := ne_new h42 n47
 have z49 := Mono.free m40 n47
 refine STRN.op rfl rfl rfl (.inl ⟨rfl, fun H1 f' H' hf hN hM => Mv _ rfl ((hf 0 rfl).trans rfl) ⟨rfl, hN⟩⟩) ?_
 refine STRN.op rfl rfl rfl (.inl ⟨rfl, fun H1 f' H' hf hN hM => nc_ (.fptr ((p.aP.flatMap eV) ++ ((p.aCorners.map eI) ++ ((p.aNormals.flatMap eV) ++ (([J p.Skin, J cage, J id] : List AV) ++ ((rs.map eI) ++ ([J m] : List AV)))))) 0) rfl ((hf 31 rfl).trans rfl) rfl ⟨rfl, hN⟩⟩) ?_
 refine STRN.op rfl rfl rfl (.inl ⟨rfl, fun H1 f' H' hf hN hM => Ff rfl ((hf 32 rfl).trans rfl) fl_74_0 ⟨rfl, hN⟩⟩) ?_
 refine STRN.op rfl rfl rfl (.inl ⟨rfl, fun H1 f' H' hf hN hM => Ff rfl ((hf 33 rfl).trans rfl) fl_28_2 ⟨rfl, hN⟩⟩) ?_
 refine STRN.op rfl rfl rfl (.inl ⟨rfl, fun H1 f' H' hf hN hM => Lf _ rfl ((hf 34 rfl).trans rfl) ty_26 (ld_skip (off' := 4) (lenM eV_len p.lP rfl) (by omega) (ld_skip (off' := 0) (len1 p.lCorners) (by omega) (ld_fst (fun h => by first | rfl | cases h) (ld_all (lenM eV_len p.lNormals rfl))))) ⟨rfl, hN⟩⟩) ?_
 refine STRN.op rfl rfl rfl (.inl ⟨rfl, fun H1 f' H' hf hN hM => Mv _ rfl ((hf 1 rfl).trans rfl) ⟨rfl, hN⟩⟩) ?_
 refine STRN.op rfl rfl rfl (.inl ⟨rfl, fun H1 f' H' hf hN hM => Mv _ rfl ((hf 0 rfl).trans rfl) ⟨rfl, hN⟩⟩) ?_
 refine STRN.op rfl rfl rfl (.inl ⟨rfl, fun H1 f' H' hf hN hM => nc_ (.fptr ((p.aP.flatMap eV) ++ ((p.aCorners.map eI) ++ ((p.aNormals.flatMap eV) ++ (([J p.Skin, J cage, J id] : List AV) ++ ((rs.map eI) ++ ([J m] : List AV)))))) 0) rfl ((hf 37 rfl).trans rfl) rfl ⟨rfl, hN⟩⟩) ?_
 refine STRN.op rfl rfl rfl (.inl ⟨rfl, fun H1 f' H' hf hN hM => Ff rfl ((hf 38 rfl).trans rfl) fl_74_4 ⟨rfl, hN⟩⟩) ?_
 refine STRN.op rfl rfl rfl (.inl ⟨rfl, fun H1 f' H' hf hN hM => Lf _ rfl ((hf 39 rfl).trans rfl) ty_3 (ld_skip (off' := 23) (lenM eV_len p.lP rfl) (by omega) (ld_skip (off' := 19) (len1 p.lCorners) (by omega) (ld_skip (off' := 7) (lenM eV_len p.lNormals rfl) (by omega) (ld_skip (off' := 4) (n := 3) rfl (by omega) (ld_skip (off' := 0) (len1 h) (by omega) rfl))))) ⟨rfl, hN⟩⟩) ?_
 refine STRN.op rfl rfl rfl (.inl ⟨rfl, fun H1 f' H' hf hN hM => Mv _ rfl ((hf 2 rfl).trans rfl) ⟨rfl, hN⟩⟩) ?_
 refine STRN.op rfl rfl rfl (.inl ⟨rfl, fun H1 f' H' hf hN hM => Mv _ rfl ((hf 0 rfl).trans rfl) ⟨rfl, hN⟩⟩) ?_
 refine STRN.op rfl rfl rfl (.inl ⟨rfl, fun H1 f' H' hf hN hM => nc_ (.fptr ((p.aP.flatMap eV) ++ ((p.aCorners.map eI) ++ ((p.aNormals.flatMap eV) ++ (([J p.Skin, J cage, J id] : List AV) ++ ((rs.map eI) ++ ([J m] : List AV)))))) 0) rfl ((hf 42 rfl).trans rfl) rfl ⟨rfl, hN⟩⟩) ?_
 refine STRN.op rfl rfl rfl (.inl ⟨rfl, fun H1 f' H' hf hN hM => Ff rfl ((hf 43 rfl).trans rfl) fl_74_4 ⟨rfl, hN⟩⟩) ?_
 refine STRN.op rfl rfl rfl (.inl ⟨rfl, fun H1 f' H' hf hN hM => Lf _ rfl ((hf 44 rfl).trans rfl) ty_3 (ld_skip (off' := 23) (lenM eV_len p.lP rfl) (by omega) (ld_skip (off' := 19) (len1 p.lCorners) (by omega) (ld_skip (off' := 7) (lenM eV_len p.lNormals rfl) (by omega) (ld_skip (off' := 4) (n := 3) rfl (by omega) (ld_skip (off' := 0) (len1 h) (by omega) rfl))))) ⟨rfl, hN⟩⟩) ?_
 refine STRN.op rfl rfl rfl (.inl ⟨rfl, fun H1 f' H' hf hN hM => Pc («as» := [.agg (p.aNormals.flatMap eV), J a, J m, J b, J m]) rfl rfl (lapp (lcons ((hf 35 rfl).trans rfl) (lcons ((hf 36 rfl).trans rfl) (lcons ((hf 40 rfl).trans rfl) (lcons ((hf 41 rfl).trans rfl) (lcons ((hf 45 rfl).trans rfl) rfl))))) rfl) tf_87 (c_relief_Mix p.aNormals p.lNormals a m b m) fun H2 m2 => ⟨rfl, hN.trans m2⟩⟩) ?_
 refine STRN.op rfl rfl rfl (.inl ⟨rfl, fun H1 f' H' hf hN hM => Mv _ rfl ((hf 46 rfl).trans rfl) ⟨rfl, hN⟩⟩) ?_
 refine STRN.op rfl rfl rfl (.inl ⟨rfl, fun H1 f' H' hf hN hM => Ex _ rfl ((hf 30 rfl).trans rfl) rfl ⟨rfl, hN⟩⟩) ?_
 refine STRN.op rfl rfl rfl (.inl ⟨rfl, fun H1 f' H' hf hN hM => Ex _ rfl ((hf 30 rfl).trans rfl) rfl ⟨rfl, hN⟩⟩) ?_
 refine STRN.alloc (id := i45) (Z := [J 0, J 0, J 0]) (.head _) rfl rfl rfl rfl rfl tz_23 ?_
 refine STRN.done fun H50 m51 hu52 => ?_
 have h53 := m51 _ _ h42
 have m54 := m40.trans m51
 have h55 : H50 i45 = some (.row 0 ([J 0, J 0, J 0])) := hu52 _ (.head _)
 refine STR.st rfl rfl rfl fun f56 H57 hf58 m59 => ?_
 have h60 := m59 _ _ h53
 have h61 := m59 _ _ h55
 have m62 := m54.trans m59
 refine So (cells' := [J (((R_relief_Mix p.aNormals a m b m).1).X), J (((R_relief_Mix p.aNormals a m b m).1).Y), J (((R_relief_Mix p.aNormals a m b m).1).Z)]) (.agg [J (((R_relief_Mix p.aNormals a m b m).1).X), J (((R_relief_Mix p.aNormals a m b m).1).Y), J (((R_relief_Mix p.aNormals a m b m).1).Z)]) ((hf58 9 rfl).trans rfl) ((hf58 47 rfl).trans rfl) ts_23 h61 rfl rfl rfl rfl ?_
 intro H63 h64 k65
 have h66 := keep k65 e48 h60
 have m68 := Mono.set m62 z49 k65
 refine ⟨rfl, .inr (RevR.skip rfl (RevR.cons rfl (.inl ⟨rfl, fun H1 f' H' hf hN hM => Ex _ rfl ((hf 30 rfl).trans rfl) rfl ⟨rfl, hN⟩⟩) (RevR.skip rfl (RevR.skip rfl (RevR.skip rfl (RevR.skip rfl (RevR.skip rfl (RevR.skip rfl (RevR.skip rfl (RevR.skip rfl (RevR.skip rfl (RevR.skip rfl (RevR.skip rfl (RevR.skip rfl (RevR.skip rfl (RevR.skip rfl (RevR.skip rfl (RevR.skip rfl (RevR.skip rfl (RevR.skip rfl RevR.nil)))))))))))))))))))), ?_⟩
 refine STR.done fun H69 m70 => ?_
 have h71 := m70 _ _ h66
 have h72 := m70 _ _ h64
 have m73 := m68.trans m70
 refine A rfl rfl ?_
 refine AWP.seq ?_
 refine fz_ 9 h72 z49 rfl m73 fun H74 m75 k76 => ?_
 have h77 := (k76 _ e48).trans h71
 refine AWP.region_quiet mixed (by kernel_rfl) 10 [10] rfl (by kernel_rfl) (Mono H74) (Mono.refl _) ?_
 refine QL rfl rfl ty_23 rfl (QL rfl rfl ty_23 rfl (QV rfl rfl (Q rfl (fun _ _ φ ψ => nc_ (.fptr ((p.aP.flatMap eV) ++ ((p.aCorners.map eI) ++ ((p.aNormals.flatMap eV) ++ (([J p.Skin, J cage, J id] : List AV) ++ ((rs.map eI) ++ ([J m] : List AV)))))) 0) rfl (φ 51 rfl) rfl ⟨rfl, ψ⟩) (QF rfl rfl fl_74_2 (QL rfl rfl ty_3 (ld_skip (off' := 18) (lenM eV_len p.lP rfl) (by omega) (ld_skip (off' := 14) (len1 p.lCorners) (by omega) (ld_skip (off' := 2) (lenM eV_len p.lNormals rfl) (by omega) (ld_fst (fun h => by first | rfl | cases h) rfl)))) (QV rfl rfl (QV rfl rfl (Q rfl (fun _ _ φ ψ => Bl (cells := [J 3, J id, J a, J b, J 0]) rfl tz_58 pl_58 (lconsP rfl (lconsP (φ 54 rfl) (lconsP (φ 55 rfl) (lconsP (φ 56 rfl) rfl)))) rfl ⟨rfl, ψ⟩) (Q rfl (fun _ _ φ ψ => Bl (cells := [J (((R_curve_Point p.aP a m b m).1).X), J (((R_curve_Point p.aP a m b m).1).Y), J (((R_curve_Point p.aP a m b m).1).Z), J (((R_relief_Mix p.aNormals a m b m).1).X), J (((R_relief_Mix p.aNormals a m b m).1).Y), J (((R_relief_Mix p.aNormals a m b m).1).Z), J 3, J id, J a, J b, J 0]) rfl tz_78 pl_78 (lconsP (φ 49 rfl) (lconsP (φ 50 rfl) (lconsP (φ 57 rfl) rfl))) rfl ⟨rfl, ψ⟩) ?_)))))))))
 refine QE.done fun H78 m79 => ?_
 have h80 := m79 _ _ h77
 have m81 := m75.trans m79
 refine C rfl (Sw rfl rfl ts_78 h80 rfl rfl rfl ?_)
 intro H82 h83 k84
 have m86 := Mono.set m81 z6 k84
 refine rt_ ?_
 refine Rr (Res.list1 rfl (.cell (v := .agg [J (((R_curve_Point p.aP a m b m).1).X), J (((R_curve_Point p.aP a m b m).1).Y), J (((R_curve_Point p.aP a m b m).1).Z), J (((R_relief_Mix p.aNormals a m b m).1).X), J (((R_relief_Mix p.aNormals a m b m).1).Y), J (((R_relief_Mix p.aNormals a m b m).1).Z), J 3, J id, J a, J b, J 0]) rfl ty_78 h83 rfl (.nil))) ?_ m86
 have hR : R_mesh_inner p cage id rs m a b = (VertexT.mk ((R_curve_Point p.aP a m b m).1) ((R_relief_Mix p.aNormals a m b m).1) (KeyT.mk 3 id a b 0)) := rfl
 exact (congrArg (fun r : VertexT => (.agg [J r.atF.X, J r.atF.Y, J r.atF.Z, J r.up.X, J r.up.Y, J r.up.Z, J r.key.Kind, J r.key.Of, J r.key.A, J r.key.B, J r.key.N] : AV)) hR).symm
def R_mesh_vertex (p : PatchT) (cage id : Int) (rs : List Int) (m : Int) (x : SpotT) : VertexT :=
  if x.Kind = 1 then (R_mesh_corner p cage id rs m x.A) else (if x.Kind = 2 then (R_mesh_side p cage id rs m x.A x.B) else (R_mesh_inner p cage id rs m x.A x.B))
def Tmesh_vertex (r : VertexT) : AV := .agg [J r.atF.X, J r.atF.Y, J r.atF.Z, J r.up.X, J r.up.Y, J r.up.Z, J r.key.Kind, J r.key.Of, J r.key.A, J r.key.B, J r.key.N]
theorem c_mesh_vertex (p : PatchT) (cage id : Int) (rs : List Int) (h : rs.length = 4) (m : Int) (x : SpotT) (hr : rates rs) (hm : m ≤ 16) (hx : x ∈ spotsL rs m) : PC Tryd.prog 27 [.fptr ((p.aP.flatMap eV) ++ ((p.aCorners.map eI) ++ ((p.aNormals.flatMap eV) ++ (([J p.Skin, J cage, J id] : List AV) ++ ((rs.map eI) ++ ([J m] : List AV)))))) 0, .agg [J x.Kind, J x.A, J x.B]] (.agg [J (((R_mesh_vertex p cage id rs m x).atF).X), J (((R_mesh_vertex p cage id rs m x).atF).Y), J (((R_mesh_vertex p cage id rs m x).atF).Z), J (((R_mesh_vertex p cage id rs m x).up).X), J (((R_mesh_vertex p cage id rs m x).up).Y), J (((R_mesh_vertex p cage id rs m x).up).Z), J (((R_mesh_vertex p cage id rs m x).key).Kind), J (((R_mesh_vertex p cage id rs m x).key).Of), J (((R_mesh_vertex p cage id rs m x).key).A), J (((R_mesh_vertex p cage id rs m x).key).B), J (((R_mesh_vertex p cage id rs m x).key).N)]) := by
 intro H0
 refine ACalls.of_body' (n := 27) rfl rfl rfl rfl ?_
 have m0 := Mono.refl H0
 refine Sr ?_
 refine C rfl (bx_ (.agg [J x.Kind, J x.A, J x.B]) rfl rfl rfl ?_)
 intro i1 H2 n3 h4 k5
 have z6 := Mono.free m0 n3
 have m7 := Mono.new m0 n3 k5
 refine C rfl (al_ rfl tz_78 ?_)
 intro i8 H9 n10 h11 k12
 have e13 := ne_new h4 n10
 have z14 := Mono.free m7 n10
 have h15 := keep k12 (ne_new h4 n10) h4
 have m16 := Mono.new m7 n10 k12
 refine AWP.seq ?_
 refine AWP.seq ?_
 refine fz_ 3 h15 z6 rfl m16 fun H17 m18 k19 => ?_
 have h20 := (k19 _ (Ne.symm e13)).trans h11
 have hxx := mem_spots.1 hx
 refine AWP.region rfl ?_
 refine F rfl rfl fl_76_0 (L rfl rfl ty_3 rfl ?_)
 refine bk_ ?_
 refine Sr ?_
 refine B rfl rfl rfl ieq (A rfl rfl ?_)
 refine AOps.nil ?_
 change AWP _ _ _ _ _ _
 by_cases b21 : x.Kind = 1
 refine ct_ rfl (decide_eq_true b21) ?_
 refine Sr ?_
 refine V rfl rfl (F rfl rfl fl_76_1 (L rfl rfl ty_3 rfl (C rfl (Pc («as» := [.fptr ((p.aP.flatMap eV) ++ ((p.aCorners.map eI) ++ ((p.aNormals.flatMap eV) ++ (([J p.Skin, J cage, J id] : List AV) ++ ((rs.map eI) ++ ([J m] : List AV)))))) 0, J x.A]) rfl rfl (rfl) tf_52 (c_mesh_corner p cage id rs h m x.A (by first | omega | assumption | (constructor <;> omega))) ?_))))
 intro H22 m23
 have h24 := m23 _ _ h20
 have m25 := m18.trans m23
 refine C rfl (Sw rfl rfl ts_78 h24 rfl rfl rfl ?_)
 intro H26 h27 k28
 have m30 := Mono.set m25 z14 k28
 refine rt_ ?_
 refine Rr (Res.list1 rfl (.cell (v := .agg [J (((R_mesh_corner p cage id rs m x.A).atF).X), J (((R_mesh_corner p cage id rs m x.A).atF).Y), J (((R_mesh_corner p cage id rs m x.A).atF).Z), J (((R_mesh_corner p cage id rs m x.A).up).X), J (((R_mesh_corner p cage id rs m x.A).up).Y), J (((R_mesh_corner p cage id rs m x.A).up).Z), J (((R_mesh_corner p cage id rs m x.A).key).Kind), J (((R_mesh_corner p cage id rs m x.A).key).Of), J (((R_mesh_corner p cage id rs m x.A).key).A), J (((R_mesh_corner p cage id rs m x.A).key).B), J (((R_mesh_corner p cage id rs m x.A).key).N)]) rfl ty_78 h27 rfl (.nil))) ?_ m30
 have hR : R_mesh_vertex p cage id rs m x = (R_mesh_corner p cage id rs m x.A) := by unfold R_mesh_vertex; rw [if_pos b21]
 exact (congrArg Tmesh_vertex hR).symm
 refine cf_ rfl (decide_eq_false b21) ?_
 refine Sr ?_
 refine B rfl rfl rfl ieq (A rfl rfl ?_)
 refine AOps.nil ?_
 change AWP _ _ _ _ _ _
 by_cases b31 : x.Kind = 2
 refine ct_ rfl (decide_eq_true b31) ?_
 refine AWP.seq ?_
 have hrk := hr x.A (by omega) (by omega)
 refine AWP.region rfl ?_
 refine V rfl rfl (F rfl rfl fl_76_1 (L rfl rfl ty_3 rfl (F rfl rfl fl_76_2 (L rfl rfl ty_3 rfl (C rfl (Pc («as» := [.fptr ((p.aP.flatMap eV) ++ ((p.aCorners.map eI) ++ ((p.aNormals.flatMap eV) ++ (([J p.Skin, J cage, J id] : List AV) ++ ((rs.map eI) ++ ([J m] : List AV)))))) 0, J x.A, J x.B]) rfl rfl (rfl) tf_53 (c_mesh_side p cage id rs h m x.A x.B (by first | omega | assumption | (constructor <;> omega)) (by first | omega | assumption | (constructor <;> omega)) (by first | omega | assumption | (constructor <;> omega))) ?_))))))
 intro H32 m33
 have h34 := m33 _ _ h20
 have m35 := m18.trans m33
 refine C rfl (Sw rfl rfl ts_78 h34 rfl rfl rfl ?_)
 intro H36 h37 k38
 have m40 := Mono.set m35 z14 k38
 refine rt_ ?_
 refine Rr (Res.list1 rfl (.cell (v := .agg [J (((R_mesh_side p cage id rs m x.A x.B).atF).X), J (((R_mesh_side p cage id rs m x.A x.B).atF).Y), J (((R_mesh_side p cage id rs m x.A x.B).atF).Z), J (((R_mesh_side p cage id rs m x.A x.B).up).X), J (((R_mesh_side p cage id rs m x.A x.B).up).Y), J (((R_mesh_side p cage id rs m x.A x.B).up).Z), J (((R_mesh_side p cage id rs m x.A x.B).key).Kind), J (((R_mesh_side p cage id rs m x.A x.B).key).Of), J (((R_mesh_side p cage id rs m x.A x.B).key).A), J (((R_mesh_side p cage id rs m x.A x.B).key).B), J (((R_mesh_side p cage id rs m x.A x.B).key).N)]) rfl ty_78 h37 rfl (.nil))) ?_ m40
 have hR : R_mesh_vertex p cage id rs m x = (R_mesh_side p cage id rs m x.A x.B) := by unfold R_mesh_vertex; rw [if_neg b21, if_pos b31]
 exact (congrArg Tmesh_vertex hR).symm
 refine cf_ rfl (decide_eq_false b31) ?_
 refine AWP.skip ?_
 refine Sr ?_
 refine V rfl rfl (F rfl rfl fl_76_1 (L rfl rfl ty_3 rfl (F rfl rfl fl_76_2 (L rfl rfl ty_3 rfl (C rfl (Pc («as» := [.fptr ((p.aP.flatMap eV) ++ ((p.aCorners.map eI) ++ ((p.aNormals.flatMap eV) ++ (([J p.Skin, J cage, J id] : List AV) ++ ((rs.map eI) ++ ([J m] : List AV)))))) 0, J x.A, J x.B]) rfl rfl (rfl) tf_54 (c_mesh_inner p cage id rs h m x.A x.B) ?_))))))
 intro H41 m42
 have h43 := m42 _ _ h20
 have m44 := m18.trans m42
 refine C rfl (Sw rfl rfl ts_78 h43 rfl rfl rfl ?_)
 intro H45 h46 k47
 have m49 := Mono.set m44 z14 k47
 refine rt_ ?_
 refine Rr (Res.list1 rfl (.cell (v := .agg [J (((R_mesh_inner p cage id rs m x.A x.B).atF).X), J (((R_mesh_inner p cage id rs m x.A x.B).atF).Y), J (((R_mesh_inner p cage id rs m x.A x.B).atF).Z), J (((R_mesh_inner p cage id rs m x.A x.B).up).X), J (((R_mesh_inner p cage id rs m x.A x.B).up).Y), J (((R_mesh_inner p cage id rs m x.A x.B).up).Z), J (((R_mesh_inner p cage id rs m x.A x.B).key).Kind), J (((R_mesh_inner p cage id rs m x.A x.B).key).Of), J (((R_mesh_inner p cage id rs m x.A x.B).key).A), J (((R_mesh_inner p cage id rs m x.A x.B).key).B), J (((R_mesh_inner p cage id rs m x.A x.B).key).N)]) rfl ty_78 h46 rfl (.nil))) ?_ m49
 have hR : R_mesh_vertex p cage id rs m x = (R_mesh_inner p cage id rs m x.A x.B) := by unfold R_mesh_vertex; rw [if_neg b21, if_neg b31]
 exact (congrArg Tmesh_vertex hR).symm
end Go.Proofs.M
namespace Go.Proofs.M
open Go Go.AH
set_option maxRecDepth 4000
set_option linter.unusedSimpArgs false
set_option linter.unusedVariables false
set_option maxHeartbeats 4000000
def R_ref15_spot (p : PatchT) (cage : Int) (id : Int) (rs : (List Int)) (x : SpotT) : VT × VT × KeyT :=
  if x.Kind = 1 then ((at_ p.aP (at_ ([0, 3, 15, 12] : List Int) x.A)), (at_ p.aNormals x.A), (KeyT.mk 1 cage (at_ p.aCorners x.A) 0 0)) else (if x.Kind = 2 then (if at_ p.aCorners ((x.A + 1) % 4) < at_ p.aCorners x.A then (((cubicR (R_ref11_Row p.aP x.A) x.B (at_ rs x.A)).1), ((R_ref14_Blend (at_ p.aNormals x.A) (at_ p.aNormals ((x.A + 1) % 4)) x.B (at_ rs x.A)).1), (KeyT.mk 2 cage (at_ p.aCorners ((x.A + 1) % 4)) (at_ p.aCorners x.A) (at_ rs x.A - x.B))) else (((cubicR (R_ref11_Row p.aP x.A) x.B (at_ rs x.A)).1), ((R_ref14_Blend (at_ p.aNormals x.A) (at_ p.aNormals ((x.A + 1) % 4)) x.B (at_ rs x.A)).1), (KeyT.mk 2 cage (at_ p.aCorners x.A) (at_ p.aCorners ((x.A + 1) % 4)) x.B))) else (((pointR p.aP x.A (max (max (max (at_ rs 0) (at_ rs 1)) (at_ rs 2)) (at_ rs 3)) x.B (max (max (max (at_ rs 0) (at_ rs 1)) (at_ rs 2)) (at_ rs 3))).1), ((R_ref14_Mix p.aNormals x.A (max (max (max (at_ rs 0) (at_ rs 1)) (at_ rs 2)) (at_ rs 3)) x.B (max (max (max (at_ rs 0) (at_ rs 1)) (at_ rs 2)) (at_ rs 3))).1), (KeyT.mk 3 id x.A x.B 0)))
abbrev Zref15_spot_0 (rs : (List Int)) := max (max (max (at_ rs 0) (at_ rs 1)) (at_ rs 2)) (at_ rs 3)
abbrev Zref15_spot_1 (p : PatchT) (rs : (List Int)) (x : SpotT) := (R_ref14_Blend (at_ p.aNormals x.A) (at_ p.aNormals ((x.A + 1) % 4)) x.B (at_ rs x.A)).1
abbrev Zref15_spot_2 (p : PatchT) (rs : (List Int)) (x : SpotT) := (R_ref14_Mix p.aNormals x.A (Zref15_spot_0 rs) x.B (Zref15_spot_0 rs)).1
abbrev Zref15_spot_3 (p : PatchT) (rs : (List Int)) (x : SpotT) := (cubicR (R_ref11_Row p.aP x.A) x.B (at_ rs x.A)).1
abbrev Zref15_spot_4 (p : PatchT) (rs : (List Int)) (x : SpotT) := (pointR p.aP x.A (Zref15_spot_0 rs) x.B (Zref15_spot_0 rs)).1
def Tref15_spot (r : VT × VT × KeyT) : AV := .tup [.agg [J r.1.X, J r.1.Y, J r.1.Z], .agg [J r.2.1.X, J r.2.1.Y, J r.2.1.Z], .agg [J r.2.2.Kind, J r.2.2.Of, J r.2.2.A, J r.2.2.B, J r.2.2.N]]
theorem c_ref15_spot (p : PatchT) (cage : Int) (id : Int) (rs : (List Int)) (h_rs : rs.length = 4) (x : SpotT) (hr : rates rs) (hm : maxL rs ≤ 16) (hx : x ∈ spotsL rs (maxL rs)) : PC Tryd.prog 33 [.agg (p.aP.flatMap eV ++ (p.aCorners.map eI ++ (p.aNormals.flatMap eV ++ [J p.Skin]))), J cage, J id, .agg (rs.map eI), .agg [J x.Kind, J x.A, J x.B]] (.tup [.agg [J (((R_ref15_spot p cage id rs x).1).X), J (((R_ref15_spot p cage id rs x).1).Y), J (((R_ref15_spot p cage id rs x).1).Z)], .agg [J (((R_ref15_spot p cage id rs x).2.1).X), J (((R_ref15_spot p cage id rs x).2.1).Y), J (((R_ref15_spot p cage id rs x).2.1).Z)], .agg [J (((R_ref15_spot p cage id rs x).2.2).Kind), J (((R_ref15_spot p cage id rs x).2.2).Of), J (((R_ref15_spot p cage id rs x).2.2).A), J (((R_ref15_spot p cage id rs x).2.2).B), J (((R_ref15_spot p cage id rs x).2.2).N)]]) := by
 intro H0
 refine ACalls.of_body' (n := 161) rfl rfl rfl rfl ?_
 have m0 := Mono.refl H0
 refine Sr ?_
 refine C rfl (bx_ (.agg (p.aP.flatMap eV ++ (p.aCorners.map eI ++ (p.aNormals.flatMap eV ++ [J p.Skin])))) rfl rfl rfl ?_)
 intro i1 H2 n3 h4 k5
 have z6 := Mono.free m0 n3
 have m7 := Mono.new m0 n3 k5
 refine C rfl (bx_ (.agg (rs.map eI)) rfl rfl rfl ?_)
 intro i8 H9 n10 h11 k12
 have e13 := ne_new h4 n10
 have z14 := Mono.free m7 n10
 have h15 := keep k12 (ne_new h4 n10) h4
 have m16 := Mono.new m7 n10 k12
 refine C rfl (bx_ (.agg [J x.Kind, J x.A, J x.B]) rfl rfl rfl ?_)
 intro i17 H18 n19 h20 k21
 have e22 := ne_new h15 n19
 have e23 := ne_new h11 n19
 have z24 := Mono.free m16 n19
 have h25 := keep k21 (ne_new h15 n19) h15
 have h26 := keep k21 (ne_new h11 n19) h11
 have m27 := Mono.new m16 n19 k21
 refine C rfl (al_ rfl tz_23 ?_)
 intro i28 H29 n30 h31 k32
 have e33 := ne_new h25 n30
 have e34 := ne_new h26 n30
 have e35 := ne_new h20 n30
 have z36 := Mono.free m27 n30
 have h37 := keep k32 (ne_new h25 n30) h25
 have h38 := keep k32 (ne_new h26 n30) h26
 have h39 := keep k32 (ne_new h20 n30) h20
 have m40 := Mono.new m27 n30 k32
 refine C rfl (al_ rfl tz_23 ?_)
 intro i41 H42 n43 h44 k45
 have e46 := ne_new h37 n43
 have e47 := ne_new h38 n43
 have e48 := ne_new h39 n43
 have e49 := ne_new h31 n43
 have z50 := Mono.free m40 n43
 have h51 := keep k45 (ne_new h37 n43) h37
 have h52 := keep k45 (ne_new h38 n43) h38
 have h53 := keep k45 (ne_new h39 n43) h39
 have h54 := keep k45 (ne_new h31 n43) h31
 have m55 := Mono.new m40 n43 k45
 refine C rfl (al_ rfl tz_58 ?_)
 intro i56 H57 n58 h59 k60
 have e61 := ne_new h51 n58
 have e62 := ne_new h52 n58
 have e63 := ne_new h53 n58
 have e64 := ne_new h54 n58
 have e65 := ne_new h44 n58
 have z66 := Mono.free m55 n58
 have h67 := keep k60 (ne_new h51 n58) h51
 have h68 := keep k60 (ne_new h52 n58) h52
 have h69 := keep k60 (ne_new h53 n58) h53
 have h70 := keep k60 (ne_new h54 n58) h54
 have h71 := keep k60 (ne_new h44 n58) h44
 have m72 := Mono.new m55 n58 k60
 refine AWP.seq ?_
 refine fz_ 5 h67 z6 rfl m72 fun H73 m74 k75 => ?_
 have h76 := (k75 _ (Ne.symm e13)).trans h68
 have h77 := (k75 _ (Ne.symm e22)).trans h69
 have h78 := (k75 _ (Ne.symm e33)).trans h70
 have h79 := (k75 _ (Ne.symm e46)).trans h71
 have h80 := (k75 _ (Ne.symm e61)).trans h59
 refine fz_ 8 h76 z14 rfl m74 fun H81 m82 k83 => ?_
 have h84 := (k83 _ (Ne.symm e23)).trans h77
 have h85 := (k83 _ (Ne.symm e34)).trans h78
 have h86 := (k83 _ (Ne.symm e47)).trans h79
 have h87 := (k83 _ (Ne.symm e62)).trans h80
 refine fz_ 9 h84 z24 rfl m82 fun H88 m89 k90 => ?_
 have h91 := (k90 _ (Ne.symm e35)).trans h85
 have h92 := (k90 _ (Ne.symm e48)).trans h86
 have h93 := (k90 _ (Ne.symm e63)).trans h87
 refine AWP.region rfl ?_
 refine C rfl (iF_ rfl rfl rfl ar_25 (by omega) (by omega) (L rfl rfl ty_3 (ld1 (i := 0) (by omega) (by have := h_rs; omega)) (C rfl (iF_ rfl rfl rfl ar_25 (by omega) (by omega) (L rfl rfl ty_3 (ld1 (i := 1) (by omega) (by have := h_rs; omega)) (C rfl (iF_ rfl rfl rfl ar_25 (by omega) (by omega) (L rfl rfl ty_3 (ld1 (i := 2) (by omega) (by have := h_rs; omega)) (C rfl (iF_ rfl rfl rfl ar_25 (by omega) (by omega) (L rfl rfl ty_3 (ld1 (i := 3) (by omega) (by have := h_rs; omega)) (C rfl (AOp.max4 rfl rfl rfl rfl rfl (A rfl rfl ?_))))))))))))))
 refine AWP.seq ?_
 refine AWP.seq ?_
 have hxx := mem_spots.1 hx
 refine AWP.region rfl ?_
 refine F rfl rfl fl_76_0 (L rfl rfl ty_3 rfl (B rfl rfl rfl ieq ?_))
 refine AOps.nil ?_
 change AWP _ _ _ _ _ _
 by_cases b94 : x.Kind = 1
 refine ct_ rfl (decide_eq_true b94) ?_
 refine Sr ?_
 refine C rfl (Bl (cells := [J 0, J 3, J 15, J 12]) rfl tz_25 pl_25 rfl rfl (C rfl (al_ rfl tz_25 ?_)))
 intro i95 H96 n97 h98 k99
 have e100 := ne_new h91 n97
 have e101 := ne_new h92 n97
 have e102 := ne_new h93 n97
 have z103 := Mono.free m89 n97
 have h104 := keep k99 (ne_new h91 n97) h91
 have h105 := keep k99 (ne_new h92 n97) h92
 have h106 := keep k99 (ne_new h93 n97) h93
 have m107 := Mono.new m89 n97 k99
 refine C rfl (Sw rfl rfl ts_25 h98 rfl rfl rfl ?_)
 intro H108 h109 k110
 have h111 := keep k110 e100 h104
 have h112 := keep k110 e101 h105
 have h113 := keep k110 e102 h106
 have m115 := Mono.set m107 z103 k110
 refine AWP.seq ?_
 refine fz_ 14 h109 z103 rfl m115 fun H116 m117 k118 => ?_
 have h119 := (k118 _ e100).trans h111
 have h120 := (k118 _ e101).trans h112
 have h121 := (k118 _ e102).trans h113
 have hg := crn_rng (k := x.A) (by omega) (by omega)
 refine AWP.region_str mixed (by kernel_rfl) [(0, none), (1, none), (2, none), (3, none), (4, none), (5, none), (6, none), (7, none), (8, none), (9, none), (10, none), (11, none), (12, none), (13, none), (14, none), (15, none), (16, none), (17, none), (18, none), (19, some [7, 8, 9, 10, 11, 12, 13, 14, 15, 16, 17, 18]), (20, some [12, 13, 14, 15, 16, 17, 18])] [21] (by kernel_rfl) ?_
 refine STR.op rfl rfl (.inl ⟨rfl, fun H1 f' H' hf hN hM => Ff rfl ((hf 9 rfl).trans rfl) fl_76_1 ⟨rfl, hN⟩⟩) ?_
 refine STR.op rfl rfl (.inl ⟨rfl, fun H1 f' H' hf hN hM => Lf _ rfl ((hf 40 rfl).trans rfl) ty_3 rfl ⟨rfl, hN⟩⟩) ?_
 refine STR.op rfl rfl (.inl ⟨rfl, fun H1 f' H' hf hN hM => iF_ rfl ((hf 14 rfl).trans rfl) ((hf 41 rfl).trans rfl) ar_25 (by omega) (by omega) ⟨rfl, hN⟩⟩) ?_
 refine STR.op rfl rfl (.inl ⟨rfl, fun H1 f' H' hf hN hM => Lf _ rfl ((hf 42 rfl).trans rfl) ty_3 (ld_off (o := 0 + x.A.toNat * 1) (by omega) (ld1 (i := x.A) (xs := ([0, 3, 15, 12] : List Int)) (by omega) (by first | (have := (rfl : ([0, 3, 15, 12] : List Int).length = 4); omega) | (simp; omega)))) ⟨rfl, hN⟩⟩) ?_
 refine STR.op rfl rfl (.inl ⟨rfl, fun H1 f' H' hf hN hM => Ff rfl ((hf 5 rfl).trans rfl) fl_28_0 ⟨rfl, hN⟩⟩) ?_
 refine STR.op rfl rfl (.inl ⟨rfl, fun H1 f' H' hf hN hM => iF_ rfl ((hf 44 rfl).trans rfl) ((hf 43 rfl).trans rfl) ar_24 (by omega) (by omega) ⟨rfl, hN⟩⟩) ?_
 refine STR.op rfl rfl (.inl ⟨rfl, fun H1 f' H' hf hN hM => Lf _ rfl ((hf 45 rfl).trans rfl) ty_23 (ld_off (o := 0 + (at_ ([0, 3, 15, 12] : List Int) x.A).toNat * 3) (by omega) (ld_fst (fun h => by first | rfl | cases h) (ldM eV_len (i := at_ ([0, 3, 15, 12] : List Int) x.A) (by omega) (by first | (have := p.lP; omega) | (simp; omega))))) ⟨rfl, hN⟩⟩) ?_
 refine STR.op rfl rfl (.inl ⟨rfl, fun H1 f' H' hf hN hM => Ff rfl ((hf 9 rfl).trans rfl) fl_76_1 ⟨rfl, hN⟩⟩) ?_
 refine STR.op rfl rfl (.inl ⟨rfl, fun H1 f' H' hf hN hM => Lf _ rfl ((hf 47 rfl).trans rfl) ty_3 rfl ⟨rfl, hN⟩⟩) ?_
 refine STR.op rfl rfl (.inl ⟨rfl, fun H1 f' H' hf hN hM => Ff rfl ((hf 5 rfl).trans rfl) fl_28_2 ⟨rfl, hN⟩⟩) ?_
 refine STR.op rfl rfl (.inl ⟨rfl, fun H1 f' H' hf hN hM => iF_ rfl ((hf 49 rfl).trans rfl) ((hf 48 rfl).trans rfl) ar_26 (by omega) (by omega) ⟨rfl, hN⟩⟩) ?_
 refine STR.op rfl rfl (.inl ⟨rfl, fun H1 f' H' hf hN hM => Lf _ rfl ((hf 50 rfl).trans rfl) ty_23 (ld_skip (off' := 4 + ((x.A).toNat * 3)) (lenM eV_len p.lP rfl) (by omega) (ld_skip (off' := (x.A).toNat * 3) (len1 p.lCorners) (by omega) (ld_fst (fun h => by first | rfl | cases h) (ldM eV_len (i := x.A) (by omega) (by first | (have := p.lNormals; omega) | (simp; omega)))))) ⟨rfl, hN⟩⟩) ?_
 refine STR.op rfl rfl (.inl ⟨rfl, fun H1 f' H' hf hN hM => Mv _ rfl ((hf 1 rfl).trans rfl) ⟨rfl, hN⟩⟩) ?_
 refine STR.op rfl rfl (.inl ⟨rfl, fun H1 f' H' hf hN hM => Ff rfl ((hf 9 rfl).trans rfl) fl_76_1 ⟨rfl, hN⟩⟩) ?_
 refine STR.op rfl rfl (.inl ⟨rfl, fun H1 f' H' hf hN hM => Lf _ rfl ((hf 53 rfl).trans rfl) ty_3 rfl ⟨rfl, hN⟩⟩) ?_
 refine STR.op rfl rfl (.inl ⟨rfl, fun H1 f' H' hf hN hM => Ff rfl ((hf 5 rfl).trans rfl) fl_28_1 ⟨rfl, hN⟩⟩) ?_
 refine STR.op rfl rfl (.inl ⟨rfl, fun H1 f' H' hf hN hM => iF_ rfl ((hf 55 rfl).trans rfl) ((hf 54 rfl).trans rfl) ar_25 (by omega) (by omega) ⟨rfl, hN⟩⟩) ?_
 refine STR.op rfl rfl (.inl ⟨rfl, fun H1 f' H' hf hN hM => Lf _ rfl ((hf 56 rfl).trans rfl) ty_3 (ld_skip (off' := (x.A).toNat * 1) (lenM eV_len p.lP rfl) (by omega) (ld_fst (fun h => by first | rfl | cases h) (ld1 (i := x.A) (by omega) (by first | (have := p.lCorners; omega) | (simp; omega))))) ⟨rfl, hN⟩⟩) ?_
 refine STR.op rfl rfl (.inl ⟨rfl, fun H1 f' H' hf hN hM => Bl (cells := [J 1, J cage, J (at_ p.aCorners x.A), J 0, J 0]) rfl tz_58 pl_58 (lconsP rfl (lconsP ((hf 52 rfl).trans rfl) (lconsP ((hf 57 rfl).trans rfl) rfl))) rfl ⟨rfl, hN⟩⟩) ?_
 refine STR.st rfl rfl rfl fun f122 H123 hf124 m125 => ?_
 have h126 := m125 _ _ h119
 have h127 := m125 _ _ h120
 have h128 := m125 _ _ h121
 have m129 := m117.trans m125
 refine So (cells' := [J ((at_ p.aP (at_ ([0, 3, 15, 12] : List Int) x.A)).X), J ((at_ p.aP (at_ ([0, 3, 15, 12] : List Int) x.A)).Y), J ((at_ p.aP (at_ ([0, 3, 15, 12] : List Int) x.A)).Z)]) (.agg [J ((at_ p.aP (at_ ([0, 3, 15, 12] : List Int) x.A)).X), J ((at_ p.aP (at_ ([0, 3, 15, 12] : List Int) x.A)).Y), J ((at_ p.aP (at_ ([0, 3, 15, 12] : List Int) x.A)).Z)]) ((hf124 10 rfl).trans rfl) ((hf124 46 rfl).trans rfl) ts_23 h126 rfl rfl rfl rfl ?_
 intro H130 h131 k132
 have h134 := keep k132 (Ne.symm e49) h127
 have h135 := keep k132 (Ne.symm e64) h128
 have m136 := Mono.set m129 z36 k132
 refine ⟨rfl, .inr (RevR.cons rfl (.inl ⟨rfl, fun H1 f' H' hf hN hM => Bl (cells := [J 1, J cage, J (at_ p.aCorners x.A), J 0, J 0]) rfl tz_58 pl_58 (lconsP rfl (lconsP ((hf 52 rfl).trans rfl) (lconsP ((hf 57 rfl).trans rfl) rfl))) rfl ⟨rfl, hN⟩⟩) (RevR.cons rfl (.inl ⟨rfl, fun H1 f' H' hf hN hM => Lf _ rfl ((hf 56 rfl).trans rfl) ty_3 (ld_skip (off' := (x.A).toNat * 1) (lenM eV_len p.lP rfl) (by omega) (ld_fst (fun h => by first | rfl | cases h) (ld1 (i := x.A) (by omega) (by first | (have := p.lCorners; omega) | (simp; omega))))) ⟨rfl, hN⟩⟩) (RevR.cons rfl (.inl ⟨rfl, fun H1 f' H' hf hN hM => iF_ rfl ((hf 55 rfl).trans rfl) ((hf 54 rfl).trans rfl) ar_25 (by omega) (by omega) ⟨rfl, hN⟩⟩) (RevR.cons rfl (.inl ⟨rfl, fun H1 f' H' hf hN hM => Ff rfl ((hf 5 rfl).trans rfl) fl_28_1 ⟨rfl, hN⟩⟩) (RevR.cons rfl (.inl ⟨rfl, fun H1 f' H' hf hN hM => Lf _ rfl ((hf 53 rfl).trans rfl) ty_3 rfl ⟨rfl, hN⟩⟩) (RevR.cons rfl (.inl ⟨rfl, fun H1 f' H' hf hN hM => Ff rfl ((hf 9 rfl).trans rfl) fl_76_1 ⟨rfl, hN⟩⟩) (RevR.cons rfl (.inl ⟨rfl, fun H1 f' H' hf hN hM => Mv _ rfl ((hf 1 rfl).trans rfl) ⟨rfl, hN⟩⟩) (RevR.cons rfl (.inl ⟨rfl, fun H1 f' H' hf hN hM => Lf _ rfl ((hf 50 rfl).trans rfl) ty_23 (ld_skip (off' := 4 + ((x.A).toNat * 3)) (lenM eV_len p.lP rfl) (by omega) (ld_skip (off' := (x.A).toNat * 3) (len1 p.lCorners) (by omega) (ld_fst (fun h => by first | rfl | cases h) (ldM eV_len (i := x.A) (by omega) (by first | (have := p.lNormals; omega) | (simp; omega)))))) ⟨rfl, hN⟩⟩) (RevR.cons rfl (.inl ⟨rfl, fun H1 f' H' hf hN hM => iF_ rfl ((hf 49 rfl).trans rfl) ((hf 48 rfl).trans rfl) ar_26 (by omega) (by omega) ⟨rfl, hN⟩⟩) (RevR.cons rfl (.inl ⟨rfl, fun H1 f' H' hf hN hM => Ff rfl ((hf 5 rfl).trans rfl) fl_28_2 ⟨rfl, hN⟩⟩) (RevR.cons rfl (.inl ⟨rfl, fun H1 f' H' hf hN hM => Lf _ rfl ((hf 47 rfl).trans rfl) ty_3 rfl ⟨rfl, hN⟩⟩) (RevR.cons rfl (.inl ⟨rfl, fun H1 f' H' hf hN hM => Ff rfl ((hf 9 rfl).trans rfl) fl_76_1 ⟨rfl, hN⟩⟩) (RevR.skip rfl (RevR.skip rfl (RevR.skip rfl (RevR.skip rfl (RevR.skip rfl (RevR.skip rfl (RevR.skip rfl RevR.nil))))))))))))))))))), ?_⟩
 refine STR.st rfl rfl rfl fun f137 H138 hf139 m140 => ?_
 have h141 := m140 _ _ h134
 have h142 := m140 _ _ h135
 have h143 := m140 _ _ h131
 have m144 := m136.trans m140
 refine So (cells' := [J ((at_ p.aNormals x.A).X), J ((at_ p.aNormals x.A).Y), J ((at_ p.aNormals x.A).Z)]) (.agg [J ((at_ p.aNormals x.A).X), J ((at_ p.aNormals x.A).Y), J ((at_ p.aNormals x.A).Z)]) ((hf139 11 rfl).trans rfl) ((hf139 51 rfl).trans rfl) ts_23 h141 rfl rfl rfl rfl ?_
 intro H145 h146 k147
 have h149 := keep k147 (Ne.symm e65) h142
 have h150 := keep k147 e49 h143
 have m151 := Mono.set m144 z50 k147
 refine ⟨rfl, .inr (RevR.skip rfl (RevR.cons rfl (.inl ⟨rfl, fun H1 f' H' hf hN hM => Bl (cells := [J 1, J cage, J (at_ p.aCorners x.A), J 0, J 0]) rfl tz_58 pl_58 (lconsP rfl (lconsP ((hf 52 rfl).trans rfl) (lconsP ((hf 57 rfl).trans rfl) rfl))) rfl ⟨rfl, hN⟩⟩) (RevR.cons rfl (.inl ⟨rfl, fun H1 f' H' hf hN hM => Lf _ rfl ((hf 56 rfl).trans rfl) ty_3 (ld_skip (off' := (x.A).toNat * 1) (lenM eV_len p.lP rfl) (by omega) (ld_fst (fun h => by first | rfl | cases h) (ld1 (i := x.A) (by omega) (by first | (have := p.lCorners; omega) | (simp; omega))))) ⟨rfl, hN⟩⟩) (RevR.cons rfl (.inl ⟨rfl, fun H1 f' H' hf hN hM => iF_ rfl ((hf 55 rfl).trans rfl) ((hf 54 rfl).trans rfl) ar_25 (by omega) (by omega) ⟨rfl, hN⟩⟩) (RevR.cons rfl (.inl ⟨rfl, fun H1 f' H' hf hN hM => Ff rfl ((hf 5 rfl).trans rfl) fl_28_1 ⟨rfl, hN⟩⟩) (RevR.cons rfl (.inl ⟨rfl, fun H1 f' H' hf hN hM => Lf _ rfl ((hf 53 rfl).trans rfl) ty_3 rfl ⟨rfl, hN⟩⟩) (RevR.cons rfl (.inl ⟨rfl, fun H1 f' H' hf hN hM => Ff rfl ((hf 9 rfl).trans rfl) fl_76_1 ⟨rfl, hN⟩⟩) (RevR.cons rfl (.inl ⟨rfl, fun H1 f' H' hf hN hM => Mv _ rfl ((hf 1 rfl).trans rfl) ⟨rfl, hN⟩⟩) (RevR.skip rfl (RevR.skip rfl (RevR.skip rfl (RevR.skip rfl (RevR.skip rfl (RevR.skip rfl (RevR.skip rfl (RevR.skip rfl (RevR.skip rfl (RevR.skip rfl (RevR.skip rfl (RevR.skip rfl RevR.nil)))))))))))))))))))), ?_⟩
 refine STR.done fun H152 m153 => ?_
 have h154 := m153 _ _ h149
 have h155 := m153 _ _ h150
 have h156 := m153 _ _ h146
 have m157 := m151.trans m153
 refine C rfl (Sw rfl rfl ts_58 h154 rfl rfl rfl ?_)
 intro H158 h159 k160
 have h162 := keep k160 e64 h155
 have h163 := keep k160 e65 h156
 have m164 := Mono.set m157 z66 k160
 refine rt_ ?_
 refine Rr (Res.list rfl rfl (.cell (v := .agg [J ((at_ p.aP (at_ ([0, 3, 15, 12] : List Int) x.A)).X), J ((at_ p.aP (at_ ([0, 3, 15, 12] : List Int) x.A)).Y), J ((at_ p.aP (at_ ([0, 3, 15, 12] : List Int) x.A)).Z)]) rfl ty_23 h162 rfl (.cell (v := .agg [J ((at_ p.aNormals x.A).X), J ((at_ p.aNormals x.A).Y), J ((at_ p.aNormals x.A).Z)]) rfl ty_23 h163 rfl (.cell (v := .agg [J 1, J cage, J (at_ p.aCorners x.A), J 0, J 0]) rfl ty_58 h159 rfl (.nil))))) ?_ m164
 have hR : R_ref15_spot p cage id rs x = ((at_ p.aP (at_ ([0, 3, 15, 12] : List Int) x.A)), (at_ p.aNormals x.A), (KeyT.mk 1 cage (at_ p.aCorners x.A) 0 0)) := by unfold R_ref15_spot; rw [if_pos b94]
 exact (congrArg Tref15_spot hR).symm
 refine cf_ rfl (decide_eq_false b94) ?_
 refine AWP.skip ?_
 refine AWP.seq ?_
 refine Sr ?_
 refine F rfl rfl fl_76_0 (L rfl rfl ty_3 rfl (B rfl rfl rfl ieq ?_))
 refine AOps.nil ?_
 change AWP _ _ _ _ _ _
 by_cases b165 : x.Kind = 2
 refine ct_ rfl (decide_eq_true b165) ?_
 refine AWP.seq ?_
 have hrk := hr x.A (by omega) (by omega)
 refine AWP.region rfl ?_
 refine F rfl rfl fl_76_1 (L rfl rfl ty_3 rfl (C rfl (iF_ rfl rfl rfl ar_25 (by omega) (by omega) (L rfl rfl ty_3 (ld_off (o := 0 + x.A.toNat * 1) (by omega) (ld1 (i := x.A) (by omega) (by first | (have := h_rs; omega) | (simp; omega)))) (A rfl rfl ?_)))))
 refine AWP.seq ?_
 refine AWP.freshN fun b166 hb167 => ?_
 obtain ⟨i168, e169⟩ : ∃ x, x = b166 + 0 := ⟨_, rfl⟩
 have n170 := hb167 0; rw [← e169] at n170
 refine AWP.region_strA mixed (by kernel_rfl) [(12, i168, .row 0 ([J 0, J 0, J 0]))] [0, 1, 2, 3, 4, 5, 6, 7, 8, 9, 10, 11, 12] [(13, some [11])] [14] (by kernel_rfl) (by kernel_rfl) ⟨n170, trivial, trivial⟩ ?_
 have e171 := ne_new h91 n170
 have e172 := ne_new h92 n170
 have e173 := ne_new h93 n170
 have z174 := Mono.free m89 n170
 refine STRN.op rfl rfl rfl (.inl ⟨rfl, fun H1 f' H' hf hN hM => Ff rfl ((hf 5 rfl).trans rfl) fl_28_0 ⟨rfl, hN⟩⟩) ?_
 refine STRN.op rfl rfl rfl (.inl ⟨rfl, fun H1 f' H' hf hN hM => Lf _ rfl ((hf 67 rfl).trans rfl) ty_24 (ld_fst (fun h => by first | rfl | cases h) (ld_all (lenM eV_len p.lP rfl))) ⟨rfl, hN⟩⟩) ?_
 refine STRN.op rfl rfl rfl (.inl ⟨rfl, fun H1 f' H' hf hN hM => Ff rfl ((hf 9 rfl).trans rfl) fl_76_1 ⟨rfl, hN⟩⟩) ?_
 refine STRN.op rfl rfl rfl (.inl ⟨rfl, fun H1 f' H' hf hN hM => Lf _ rfl ((hf 69 rfl).trans rfl) ty_3 rfl ⟨rfl, hN⟩⟩) ?_
 refine STRN.op rfl rfl rfl (.inl ⟨rfl, fun H1 f' H' hf hN hM => Pc («as» := [.agg (p.aP.flatMap eV), J x.A]) rfl rfl (lapp (lcons ((hf 68 rfl).trans rfl) (lcons ((hf 70 rfl).trans rfl) rfl)) rfl) tf_62 (c_ref11_Row p.aP p.lP x.A) fun H2 m2 => ⟨rfl, hN.trans m2⟩⟩) ?_
 refine STRN.op rfl rfl rfl (.inl ⟨rfl, fun H1 f' H' hf hN hM => Ff rfl ((hf 9 rfl).trans rfl) fl_76_2 ⟨rfl, hN⟩⟩) ?_
 refine STRN.op rfl rfl rfl (.inl ⟨rfl, fun H1 f' H' hf hN hM => Lf _ rfl ((hf 72 rfl).trans rfl) ty_3 rfl ⟨rfl, hN⟩⟩) ?_
 refine STRN.op rfl rfl rfl (.inl ⟨rfl, fun H1 f' H' hf hN hM => Mv _ rfl ((hf 15 rfl).trans rfl) ⟨rfl, hN⟩⟩) ?_
 refine STRN.op rfl rfl rfl (.inl ⟨rfl, fun H1 f' H' hf hN hM => Pc («as» := [.agg ((R_ref11_Row p.aP x.A).flatMap eV), J x.B, J (at_ rs x.A)]) rfl rfl (lapp (lcons ((hf 71 rfl).trans rfl) (lcons ((hf 73 rfl).trans rfl) (lcons ((hf 74 rfl).trans rfl) rfl))) rfl) tf_67 (c_ref11_Cubic (R_ref11_Row p.aP x.A) (R_ref11_Row_len p.aP x.A) x.B (at_ rs x.A)) fun H2 m2 => ⟨rfl, hN.trans m2⟩⟩) ?_
 refine STRN.op rfl rfl rfl (.inl ⟨rfl, fun H1 f' H' hf hN hM => Mv _ rfl ((hf 75 rfl).trans rfl) ⟨rfl, hN⟩⟩) ?_
 refine STRN.op rfl rfl rfl (.inl ⟨rfl, fun H1 f' H' hf hN hM => Ex _ rfl ((hf 66 rfl).trans rfl) rfl ⟨rfl, hN⟩⟩) ?_
 refine STRN.op rfl rfl rfl (.inl ⟨rfl, fun H1 f' H' hf hN hM => Ex _ rfl ((hf 66 rfl).trans rfl) rfl ⟨rfl, hN⟩⟩) ?_
 refine STRN.alloc (id := i168) (Z := [J 0, J 0, J 0]) (.head _) rfl rfl rfl rfl rfl tz_23 ?_
 refine STRN.done fun H175 m176 hu177 => ?_
 have h178 := m176 _ _ h91
 have h179 := m176 _ _ h92
 have h180 := m176 _ _ h93
 have m181 := m89.trans m176
 have h182 : H175 i168 = some (.row 0 ([J 0, J 0, J 0])) := hu177 _ (.head _)
 refine STR.st rfl rfl rfl fun f183 H184 hf185 m186 => ?_
 have h187 := m186 _ _ h178
 have h188 := m186 _ _ h179
 have h189 := m186 _ _ h180
 have h190 := m186 _ _ h182
 have m191 := m181.trans m186
 refine So (cells' := [J ((Zref15_spot_3 p rs x).X), J ((Zref15_spot_3 p rs x).Y), J ((Zref15_spot_3 p rs x).Z)]) (.agg [J ((Zref15_spot_3 p rs x).X), J ((Zref15_spot_3 p rs x).Y), J ((Zref15_spot_3 p rs x).Z)]) ((hf185 16 rfl).trans rfl) ((hf185 76 rfl).trans rfl) ts_23 h190 rfl rfl rfl rfl ?_
 intro H192 h193 k194
 have h195 := keep k194 e171 h187
 have h196 := keep k194 e172 h188
 have h197 := keep k194 e173 h189
 have m199 := Mono.set m191 z174 k194
 refine ⟨rfl, .inr (RevR.skip rfl (RevR.cons rfl (.inl ⟨rfl, fun H1 f' H' hf hN hM => Ex _ rfl ((hf 66 rfl).trans rfl) rfl ⟨rfl, hN⟩⟩) (RevR.skip rfl (RevR.skip rfl (RevR.skip rfl (RevR.skip rfl (RevR.skip rfl (RevR.skip rfl (RevR.skip rfl (RevR.skip rfl (RevR.skip rfl (RevR.skip rfl (RevR.skip rfl RevR.nil))))))))))))), ?_⟩
 refine STR.done fun H200 m201 => ?_
 have h202 := m201 _ _ h195
 have h203 := m201 _ _ h196
 have h204 := m201 _ _ h197
 have h205 := m201 _ _ h193
 have m206 := m199.trans m201
 refine A rfl rfl ?_
 refine AWP.seq ?_
 refine fz_ 16 h205 z174 rfl m206 fun H207 m208 k209 => ?_
 have h210 := (k209 _ e171).trans h202
 have h211 := (k209 _ e172).trans h203
 have h212 := (k209 _ e173).trans h204
 refine AWP.freshN fun b213 hb214 => ?_
 obtain ⟨i215, e216⟩ : ∃ x, x = b213 + 0 := ⟨_, rfl⟩
 have n217 := hb214 0; rw [← e216] at n217
 refine AWP.region_strA mixed (by kernel_rfl) [(19, i215, .row 0 ([J 0, J 0, J 0]))] [0, 1, 2, 3, 4, 5, 6, 7, 8, 9, 10, 11, 12, 13, 14, 15, 16, 17, 18, 19] [(20, some [18])] [21] (by kernel_rfl) (by kernel_rfl) ⟨n217, trivial, trivial⟩ ?_
 have e218 := ne_new h210 n217
 have e219 := ne_new h211 n217
 have e220 := ne_new h212 n217
 have z221 := Mono.free m208 n217
 refine STRN.op rfl rfl rfl (.inl ⟨rfl, fun H1 f' H' hf hN hM => Ff rfl ((hf 9 rfl).trans rfl) fl_76_1 ⟨rfl, hN⟩⟩) ?_
 refine STRN.op rfl rfl rfl (.inl ⟨rfl, fun H1 f' H' hf hN hM => Lf _ rfl ((hf 79 rfl).trans rfl) ty_3 rfl ⟨rfl, hN⟩⟩) ?_
 refine STRN.op rfl rfl rfl (.inl ⟨rfl, fun H1 f' H' hf hN hM => Ff rfl ((hf 5 rfl).trans rfl) fl_28_2 ⟨rfl, hN⟩⟩) ?_
 refine STRN.op rfl rfl rfl (.inl ⟨rfl, fun H1 f' H' hf hN hM => iF_ rfl ((hf 81 rfl).trans rfl) ((hf 80 rfl).trans rfl) ar_26 (by omega) (by omega) ⟨rfl, hN⟩⟩) ?_
 refine STRN.op rfl rfl rfl (.inl ⟨rfl, fun H1 f' H' hf hN hM => Lf _ rfl ((hf 82 rfl).trans rfl) ty_23 (ld_skip (off' := 4 + ((x.A).toNat * 3)) (lenM eV_len p.lP rfl) (by omega) (ld_skip (off' := (x.A).toNat * 3) (len1 p.lCorners) (by omega) (ld_fst (fun h => by first | rfl | cases h) (ldM eV_len (i := x.A) (by omega) (by first | (have := p.lNormals; omega) | (simp; omega)))))) ⟨rfl, hN⟩⟩) ?_
 refine STRN.op rfl rfl rfl (.inl ⟨rfl, fun H1 f' H' hf hN hM => Ff rfl ((hf 9 rfl).trans rfl) fl_76_1 ⟨rfl, hN⟩⟩) ?_
 refine STRN.op rfl rfl rfl (.inl ⟨rfl, fun H1 f' H' hf hN hM => Lf _ rfl ((hf 84 rfl).trans rfl) ty_3 rfl ⟨rfl, hN⟩⟩) ?_
 refine STRN.op rfl rfl rfl (.inl ⟨rfl, fun H1 f' H' hf hN hM => Bi _ rfl ((hf 85 rfl).trans rfl) rfl (iadd (by omega)) ⟨rfl, hN⟩⟩) ?_
 refine STRN.op rfl rfl rfl (.inl ⟨rfl, fun H1 f' H' hf hN hM => AOp.remP rfl ((hf 86 rfl).trans rfl) rfl (by omega) (by omega) ⟨rfl, hN⟩⟩) ?_
 refine STRN.op rfl rfl rfl (.inl ⟨rfl, fun H1 f' H' hf hN hM => Ff rfl ((hf 5 rfl).trans rfl) fl_28_2 ⟨rfl, hN⟩⟩) ?_
 refine STRN.op rfl rfl rfl (.inl ⟨rfl, fun H1 f' H' hf hN hM => iF_ rfl ((hf 88 rfl).trans rfl) ((hf 87 rfl).trans rfl) ar_26 (by omega) (by omega) ⟨rfl, hN⟩⟩) ?_
 refine STRN.op rfl rfl rfl (.inl ⟨rfl, fun H1 f' H' hf hN hM => Lf _ rfl ((hf 89 rfl).trans rfl) ty_23 (ld_skip (off' := 4 + (((x.A + 1) % 4).toNat * 3)) (lenM eV_len p.lP rfl) (by omega) (ld_skip (off' := ((x.A + 1) % 4).toNat * 3) (len1 p.lCorners) (by omega) (ld_fst (fun h => by first | rfl | cases h) (ldM eV_len (i := (x.A + 1) % 4) (by omega) (by first | (have := p.lNormals; omega) | (simp; omega)))))) ⟨rfl, hN⟩⟩) ?_
 refine STRN.op rfl rfl rfl (.inl ⟨rfl, fun H1 f' H' hf hN hM => Ff rfl ((hf 9 rfl).trans rfl) fl_76_2 ⟨rfl, hN⟩⟩) ?_
 refine STRN.op rfl rfl rfl (.inl ⟨rfl, fun H1 f' H' hf hN hM => Lf _ rfl ((hf 91 rfl).trans rfl) ty_3 rfl ⟨rfl, hN⟩⟩) ?_
 refine STRN.op rfl rfl rfl (.inl ⟨rfl, fun H1 f' H' hf hN hM => Mv _ rfl ((hf 15 rfl).trans rfl) ⟨rfl, hN⟩⟩) ?_
 refine STRN.op rfl rfl rfl (.inl ⟨rfl, fun H1 f' H' hf hN hM => Pc («as» := [.agg [J ((at_ p.aNormals x.A).X), J ((at_ p.aNormals x.A).Y), J ((at_ p.aNormals x.A).Z)], .agg [J ((at_ p.aNormals ((x.A + 1) % 4)).X), J ((at_ p.aNormals ((x.A + 1) % 4)).Y), J ((at_ p.aNormals ((x.A + 1) % 4)).Z)], J x.B, J (at_ rs x.A)]) rfl rfl (lapp (lcons ((hf 83 rfl).trans rfl) (lcons ((hf 90 rfl).trans rfl) (lcons ((hf 92 rfl).trans rfl) (lcons ((hf 93 rfl).trans rfl) rfl)))) rfl) tf_68 (c_ref14_Blend (at_ p.aNormals x.A) (at_ p.aNormals ((x.A + 1) % 4)) x.B (at_ rs x.A)) fun H2 m2 => ⟨rfl, hN.trans m2⟩⟩) ?_
 refine STRN.op rfl rfl rfl (.inl ⟨rfl, fun H1 f' H' hf hN hM => Mv _ rfl ((hf 94 rfl).trans rfl) ⟨rfl, hN⟩⟩) ?_
 refine STRN.op rfl rfl rfl (.inl ⟨rfl, fun H1 f' H' hf hN hM => Ex _ rfl ((hf 78 rfl).trans rfl) rfl ⟨rfl, hN⟩⟩) ?_
 refine STRN.op rfl rfl rfl (.inl ⟨rfl, fun H1 f' H' hf hN hM => Ex _ rfl ((hf 78 rfl).trans rfl) rfl ⟨rfl, hN⟩⟩) ?_
 refine STRN.alloc (id := i215) (Z := [J 0, J 0, J 0]) (.head _) rfl rfl rfl rfl rfl tz_23 ?_
 refine STRN.done fun H222 m223 hu224 => ?_
 have h225 := m223 _ _ h210
 have h226 := m223 _ _ h211
 have h227 := m223 _ _ h212
 have m228 := m208.trans m223
 have h229 : H222 i215 = some (.row 0 ([J 0, J 0, J 0])) := hu224 _ (.head _)
 refine STR.st rfl rfl rfl fun f230 H231 hf232 m233 => ?_
 have h234 := m233 _ _ h225
 have h235 := m233 _ _ h226
 have h236 := m233 _ _ h227
 have h237 := m233 _ _ h229
 have m238 := m228.trans m233
 refine So (cells' := [J ((Zref15_spot_1 p rs x).X), J ((Zref15_spot_1 p rs x).Y), J ((Zref15_spot_1 p rs x).Z)]) (.agg [J ((Zref15_spot_1 p rs x).X), J ((Zref15_spot_1 p rs x).Y), J ((Zref15_spot_1 p rs x).Z)]) ((hf232 18 rfl).trans rfl) ((hf232 95 rfl).trans rfl) ts_23 h237 rfl rfl rfl rfl ?_
 intro H239 h240 k241
 have h242 := keep k241 e218 h234
 have h243 := keep k241 e219 h235
 have h244 := keep k241 e220 h236
 have m246 := Mono.set m238 z221 k241
 refine ⟨rfl, .inr (RevR.skip rfl (RevR.cons rfl (.inl ⟨rfl, fun H1 f' H' hf hN hM => Ex _ rfl ((hf 78 rfl).trans rfl) rfl ⟨rfl, hN⟩⟩) (RevR.skip rfl (RevR.skip rfl (RevR.skip rfl (RevR.skip rfl (RevR.skip rfl (RevR.skip rfl (RevR.skip rfl (RevR.skip rfl (RevR.skip rfl (RevR.skip rfl (RevR.skip rfl (RevR.skip rfl (RevR.skip rfl (RevR.skip rfl (RevR.skip rfl (RevR.skip rfl (RevR.skip rfl (RevR.skip rfl RevR.nil)))))))))))))))))))), ?_⟩
 refine STR.done fun H247 m248 => ?_
 have h249 := m248 _ _ h242
 have h250 := m248 _ _ h243
 have h251 := m248 _ _ h244
 have h252 := m248 _ _ h240
 have m253 := m246.trans m248
 refine A rfl rfl ?_
 refine AWP.seq ?_
 refine fz_ 18 h252 z221 rfl m253 fun H254 m255 k256 => ?_
 have h257 := (k256 _ e218).trans h249
 have h258 := (k256 _ e219).trans h250
 have h259 := (k256 _ e220).trans h251
 refine AWP.region rfl ?_
 refine F rfl rfl fl_76_1 (L rfl rfl ty_3 rfl (F rfl rfl fl_28_1 (C rfl (iF_ rfl rfl rfl ar_25 (by omega) (by omega) (L rfl rfl ty_3 (ld_skip (off' := (x.A).toNat * 1) (lenM eV_len p.lP rfl) (by omega) (ld_fst (fun h => by first | rfl | cases h) (ld1 (i := x.A) (by omega) (by first | (have := p.lCorners; omega) | (simp; omega))))) (A rfl rfl ?_))))))
 refine Sr ?_
 refine F rfl rfl fl_76_1 (L rfl rfl ty_3 rfl (B rfl rfl rfl (iadd (by omega)) (C rfl (AOp.remP rfl rfl rfl (by omega) (by omega) (F rfl rfl fl_28_1 (C rfl (iF_ rfl rfl rfl ar_25 (by omega) (by omega) (L rfl rfl ty_3 (ld_skip (off' := ((x.A + 1) % 4).toNat * 1) (lenM eV_len p.lP rfl) (by omega) (ld_fst (fun h => by first | rfl | cases h) (ld1 (i := (x.A + 1) % 4) (by omega) (by first | (have := p.lCorners; omega) | (simp; omega))))) (A rfl rfl ?_)))))))))
 refine Sr ?_
 refine V rfl rfl (V rfl rfl (V rfl rfl (F rfl rfl fl_76_2 (L rfl rfl ty_3 rfl (C rfl (Bl (cells := [J 2, J cage, J (at_ p.aCorners x.A), J (at_ p.aCorners ((x.A + 1) % 4)), J x.B]) rfl tz_58 pl_58 rfl rfl (C rfl (al_ rfl tz_58 ?_))))))))
 intro i260 H261 n262 h263 k264
 have e265 := ne_new h257 n262
 have e266 := ne_new h258 n262
 have e267 := ne_new h259 n262
 have z268 := Mono.free m255 n262
 have h269 := keep k264 (ne_new h257 n262) h257
 have h270 := keep k264 (ne_new h258 n262) h258
 have h271 := keep k264 (ne_new h259 n262) h259
 have m272 := Mono.new m255 n262 k264
 refine C rfl (Sw rfl rfl ts_58 h263 rfl rfl rfl ?_)
 intro H273 h274 k275
 have h276 := keep k275 e265 h269
 have h277 := keep k275 e266 h270
 have h278 := keep k275 e267 h271
 have m280 := Mono.set m272 z268 k275
 refine AWP.seq ?_
 refine Sr ?_
 refine V rfl rfl (V rfl rfl (B rfl rfl rfl rfl ?_))
 refine AOps.nil ?_
 change AWP _ _ _ _ _ _
 by_cases b281 : at_ p.aCorners ((x.A + 1) % 4) < at_ p.aCorners x.A
 refine ct_ rfl (decide_eq_true b281) ?_
 refine AWP.region rfl ?_
 refine V rfl rfl (V rfl rfl (V rfl rfl (V rfl rfl (F rfl rfl fl_76_2 (L rfl rfl ty_3 rfl (B rfl rfl rfl (isub (by omega)) (C rfl (Bl (cells := [J 2, J cage, J (at_ p.aCorners ((x.A + 1) % 4)), J (at_ p.aCorners x.A), J (at_ rs x.A - x.B)]) rfl tz_58 pl_58 rfl rfl (C rfl (Sw rfl rfl ts_58 h274 rfl rfl rfl ?_))))))))))
 intro H282 h283 k284
 have h285 := keep k284 e265 h276
 have h286 := keep k284 e266 h277
 have h287 := keep k284 e267 h278
 have m289 := Mono.set m280 z268 k284
 refine AWP.seq ?_
 refine AWP.region_str mixed (by kernel_rfl) [(0, none), (1, none), (2, none), (3, some [1, 2]), (4, some [2])] [5] (by kernel_rfl) ?_
 refine STR.op rfl rfl (.inl ⟨rfl, fun H1 f' H' hf hN hM => Lf _ rfl ((hf 16 rfl).trans rfl) ty_23 rfl ⟨rfl, hN⟩⟩) ?_
 refine STR.op rfl rfl (.inl ⟨rfl, fun H1 f' H' hf hN hM => Lf _ rfl ((hf 18 rfl).trans rfl) ty_23 rfl ⟨rfl, hN⟩⟩) ?_
 refine STR.op rfl rfl (.inl ⟨rfl, fun H1 f' H' hf hN hM => Ld _ rfl ((hf 22 rfl).trans rfl) ty_58 (hM _ _ h283) rfl ⟨rfl, hN⟩⟩) ?_
 refine STR.st rfl rfl rfl fun f290 H291 hf292 m293 => ?_
 have h294 := m293 _ _ h285
 have h295 := m293 _ _ h286
 have h296 := m293 _ _ h287
 have h297 := m293 _ _ h283
 have m298 := m289.trans m293
 refine So (cells' := [J ((Zref15_spot_3 p rs x).X), J ((Zref15_spot_3 p rs x).Y), J ((Zref15_spot_3 p rs x).Z)]) (.agg [J ((Zref15_spot_3 p rs x).X), J ((Zref15_spot_3 p rs x).Y), J ((Zref15_spot_3 p rs x).Z)]) ((hf292 10 rfl).trans rfl) ((hf292 126 rfl).trans rfl) ts_23 h294 rfl rfl rfl rfl ?_
 intro H299 h300 k301
 have h303 := keep k301 (Ne.symm e49) h295
 have h304 := keep k301 (Ne.symm e64) h296
 have h305 := keep k301 (Ne.symm e265) h297
 have m306 := Mono.set m298 z36 k301
 refine ⟨rfl, .inr (RevR.cons rfl (.inl ⟨rfl, fun H1 f' H' hf hN hM => Ld _ rfl ((hf 22 rfl).trans rfl) ty_58 (hM _ _ h305) rfl ⟨rfl, hN⟩⟩) (RevR.cons rfl (.inl ⟨rfl, fun H1 f' H' hf hN hM => Lf _ rfl ((hf 18 rfl).trans rfl) ty_23 rfl ⟨rfl, hN⟩⟩) (RevR.skip rfl RevR.nil))), ?_⟩
 refine STR.st rfl rfl rfl fun f307 H308 hf309 m310 => ?_
 have h311 := m310 _ _ h303
 have h312 := m310 _ _ h304
 have h313 := m310 _ _ h305
 have h314 := m310 _ _ h300
 have m315 := m306.trans m310
 refine So (cells' := [J ((Zref15_spot_1 p rs x).X), J ((Zref15_spot_1 p rs x).Y), J ((Zref15_spot_1 p rs x).Z)]) (.agg [J ((Zref15_spot_1 p rs x).X), J ((Zref15_spot_1 p rs x).Y), J ((Zref15_spot_1 p rs x).Z)]) ((hf309 11 rfl).trans rfl) ((hf309 127 rfl).trans rfl) ts_23 h311 rfl rfl rfl rfl ?_
 intro H316 h317 k318
 have h320 := keep k318 (Ne.symm e65) h312
 have h321 := keep k318 (Ne.symm e266) h313
 have h322 := keep k318 e49 h314
 have m323 := Mono.set m315 z50 k318
 refine ⟨rfl, .inr (RevR.skip rfl (RevR.cons rfl (.inl ⟨rfl, fun H1 f' H' hf hN hM => Ld _ rfl ((hf 22 rfl).trans rfl) ty_58 (hM _ _ h321) rfl ⟨rfl, hN⟩⟩) (RevR.skip rfl (RevR.skip rfl RevR.nil)))), ?_⟩
 refine STR.done fun H324 m325 => ?_
 have h326 := m325 _ _ h320
 have h327 := m325 _ _ h321
 have h328 := m325 _ _ h322
 have h329 := m325 _ _ h317
 have m330 := m323.trans m325
 refine C rfl (Sw rfl rfl ts_58 h326 rfl rfl rfl ?_)
 intro H331 h332 k333
 have h336 := keep k333 e64 h328
 have h337 := keep k333 e65 h329
 have m338 := Mono.set m330 z66 k333
 refine rt_ ?_
 refine Rr (Res.list rfl rfl (.cell (v := .agg [J ((Zref15_spot_3 p rs x).X), J ((Zref15_spot_3 p rs x).Y), J ((Zref15_spot_3 p rs x).Z)]) rfl ty_23 h336 rfl (.cell (v := .agg [J ((Zref15_spot_1 p rs x).X), J ((Zref15_spot_1 p rs x).Y), J ((Zref15_spot_1 p rs x).Z)]) rfl ty_23 h337 rfl (.cell (v := .agg [J 2, J cage, J (at_ p.aCorners ((x.A + 1) % 4)), J (at_ p.aCorners x.A), J (at_ rs x.A - x.B)]) rfl ty_58 h332 rfl (.nil))))) ?_ m338
 have hR : R_ref15_spot p cage id rs x = ((Zref15_spot_3 p rs x), (Zref15_spot_1 p rs x), (KeyT.mk 2 cage (at_ p.aCorners ((x.A + 1) % 4)) (at_ p.aCorners x.A) (at_ rs x.A - x.B))) := by unfold R_ref15_spot; rw [if_neg b94, if_pos b165, if_pos b281]
 exact (congrArg Tref15_spot hR).symm
 refine cf_ rfl (decide_eq_false b281) ?_
 refine AWP.skip ?_
 refine AWP.seq ?_
 refine AWP.region_str mixed (by kernel_rfl) [(0, none), (1, none), (2, none), (3, some [1, 2]), (4, some [2])] [5] (by kernel_rfl) ?_
 refine STR.op rfl rfl (.inl ⟨rfl, fun H1 f' H' hf hN hM => Lf _ rfl ((hf 16 rfl).trans rfl) ty_23 rfl ⟨rfl, hN⟩⟩) ?_
 refine STR.op rfl rfl (.inl ⟨rfl, fun H1 f' H' hf hN hM => Lf _ rfl ((hf 18 rfl).trans rfl) ty_23 rfl ⟨rfl, hN⟩⟩) ?_
 refine STR.op rfl rfl (.inl ⟨rfl, fun H1 f' H' hf hN hM => Ld _ rfl ((hf 22 rfl).trans rfl) ty_58 (hM _ _ h274) rfl ⟨rfl, hN⟩⟩) ?_
 refine STR.st rfl rfl rfl fun f339 H340 hf341 m342 => ?_
 have h343 := m342 _ _ h276
 have h344 := m342 _ _ h277
 have h345 := m342 _ _ h278
 have h346 := m342 _ _ h274
 have m347 := m280.trans m342
 refine So (cells' := [J ((Zref15_spot_3 p rs x).X), J ((Zref15_spot_3 p rs x).Y), J ((Zref15_spot_3 p rs x).Z)]) (.agg [J ((Zref15_spot_3 p rs x).X), J ((Zref15_spot_3 p rs x).Y), J ((Zref15_spot_3 p rs x).Z)]) ((hf341 10 rfl).trans rfl) ((hf341 126 rfl).trans rfl) ts_23 h343 rfl rfl rfl rfl ?_
 intro H348 h349 k350
 have h352 := keep k350 (Ne.symm e49) h344
 have h353 := keep k350 (Ne.symm e64) h345
 have h354 := keep k350 (Ne.symm e265) h346
 have m355 := Mono.set m347 z36 k350
 refine ⟨rfl, .inr (RevR.cons rfl (.inl ⟨rfl, fun H1 f' H' hf hN hM => Ld _ rfl ((hf 22 rfl).trans rfl) ty_58 (hM _ _ h354) rfl ⟨rfl, hN⟩⟩) (RevR.cons rfl (.inl ⟨rfl, fun H1 f' H' hf hN hM => Lf _ rfl ((hf 18 rfl).trans rfl) ty_23 rfl ⟨rfl, hN⟩⟩) (RevR.skip rfl RevR.nil))), ?_⟩
 refine STR.st rfl rfl rfl fun f356 H357 hf358 m359 => ?_
 have h360 := m359 _ _ h352
 have h361 := m359 _ _ h353
 have h362 := m359 _ _ h354
 have h363 := m359 _ _ h349
 have m364 := m355.trans m359
 refine So (cells' := [J ((Zref15_spot_1 p rs x).X), J ((Zref15_spot_1 p rs x).Y), J ((Zref15_spot_1 p rs x).Z)]) (.agg [J ((Zref15_spot_1 p rs x).X), J ((Zref15_spot_1 p rs x).Y), J ((Zref15_spot_1 p rs x).Z)]) ((hf358 11 rfl).trans rfl) ((hf358 127 rfl).trans rfl) ts_23 h360 rfl rfl rfl rfl ?_
 intro H365 h366 k367
 have h369 := keep k367 (Ne.symm e65) h361
 have h370 := keep k367 (Ne.symm e266) h362
 have h371 := keep k367 e49 h363
 have m372 := Mono.set m364 z50 k367
 refine ⟨rfl, .inr (RevR.skip rfl (RevR.cons rfl (.inl ⟨rfl, fun H1 f' H' hf hN hM => Ld _ rfl ((hf 22 rfl).trans rfl) ty_58 (hM _ _ h370) rfl ⟨rfl, hN⟩⟩) (RevR.skip rfl (RevR.skip rfl RevR.nil)))), ?_⟩
 refine STR.done fun H373 m374 => ?_
 have h375 := m374 _ _ h369
 have h376 := m374 _ _ h370
 have h377 := m374 _ _ h371
 have h378 := m374 _ _ h366
 have m379 := m372.trans m374
 refine C rfl (Sw rfl rfl ts_58 h375 rfl rfl rfl ?_)
 intro H380 h381 k382
 have h385 := keep k382 e64 h377
 have h386 := keep k382 e65 h378
 have m387 := Mono.set m379 z66 k382
 refine rt_ ?_
 refine Rr (Res.list rfl rfl (.cell (v := .agg [J ((Zref15_spot_3 p rs x).X), J ((Zref15_spot_3 p rs x).Y), J ((Zref15_spot_3 p rs x).Z)]) rfl ty_23 h385 rfl (.cell (v := .agg [J ((Zref15_spot_1 p rs x).X), J ((Zref15_spot_1 p rs x).Y), J ((Zref15_spot_1 p rs x).Z)]) rfl ty_23 h386 rfl (.cell (v := .agg [J 2, J cage, J (at_ p.aCorners x.A), J (at_ p.aCorners ((x.A + 1) % 4)), J x.B]) rfl ty_58 h381 rfl (.nil))))) ?_ m387
 have hR : R_ref15_spot p cage id rs x = ((Zref15_spot_3 p rs x), (Zref15_spot_1 p rs x), (KeyT.mk 2 cage (at_ p.aCorners x.A) (at_ p.aCorners ((x.A + 1) % 4)) x.B)) := by unfold R_ref15_spot; rw [if_neg b94, if_pos b165, if_neg b281]
 exact (congrArg Tref15_spot hR).symm
 refine cf_ rfl (decide_eq_false b165) ?_
 refine AWP.skip ?_
 refine Sr ?_
 refine F rfl rfl fl_28_0 (L rfl rfl ty_24 (ld_fst (fun h => by first | rfl | cases h) (ld_all (lenM eV_len p.lP rfl))) (F rfl rfl fl_76_1 (L rfl rfl ty_3 rfl (V rfl rfl (F rfl rfl fl_76_2 (L rfl rfl ty_3 rfl (V rfl rfl (C rfl (Pc («as» := [.agg (p.aP.flatMap eV), J x.A, J (Zref15_spot_0 rs), J x.B, J (Zref15_spot_0 rs)]) rfl rfl (rfl) tf_69 (c_ref11_Point p.aP p.lP x.A (Zref15_spot_0 rs) x.B (Zref15_spot_0 rs)) ?_)))))))))
 intro H388 m389
 have h390 := m389 _ _ h91
 have h391 := m389 _ _ h92
 have h392 := m389 _ _ h93
 have m393 := m89.trans m389
 refine V rfl rfl (E rfl rfl rfl (E rfl rfl rfl (C rfl (al_ rfl tz_23 ?_))))
 intro i394 H395 n396 h397 k398
 have e399 := ne_new h390 n396
 have e400 := ne_new h391 n396
 have e401 := ne_new h392 n396
 have z402 := Mono.free m393 n396
 have h403 := keep k398 (ne_new h390 n396) h390
 have h404 := keep k398 (ne_new h391 n396) h391
 have h405 := keep k398 (ne_new h392 n396) h392
 have m406 := Mono.new m393 n396 k398
 refine C rfl (Sw rfl rfl ts_23 h397 rfl rfl rfl ?_)
 intro H407 h408 k409
 have h410 := keep k409 e399 h403
 have h411 := keep k409 e400 h404
 have h412 := keep k409 e401 h405
 have m414 := Mono.set m406 z402 k409
 refine A rfl rfl ?_
 refine AWP.seq ?_
 refine fz_ 23 h408 z402 rfl m414 fun H415 m416 k417 => ?_
 have h418 := (k417 _ e399).trans h410
 have h419 := (k417 _ e400).trans h411
 have h420 := (k417 _ e401).trans h412
 refine AWP.region rfl ?_
 refine F rfl rfl fl_28_2 (L rfl rfl ty_26 (ld_skip (off' := 4) (lenM eV_len p.lP rfl) (by omega) (ld_skip (off' := 0) (len1 p.lCorners) (by omega) (ld_fst (fun h => by first | rfl | cases h) (ld_all (lenM eV_len p.lNormals rfl))))) (F rfl rfl fl_76_1 (L rfl rfl ty_3 rfl (V rfl rfl (F rfl rfl fl_76_2 (L rfl rfl ty_3 rfl (V rfl rfl (C rfl (Pc («as» := [.agg (p.aNormals.flatMap eV), J x.A, J (Zref15_spot_0 rs), J x.B, J (Zref15_spot_0 rs)]) rfl rfl (rfl) tf_70 (c_ref14_Mix p.aNormals p.lNormals x.A (Zref15_spot_0 rs) x.B (Zref15_spot_0 rs)) ?_)))))))))
 intro H421 m422
 have h423 := m422 _ _ h418
 have h424 := m422 _ _ h419
 have h425 := m422 _ _ h420
 have m426 := m416.trans m422
 refine V rfl rfl (E rfl rfl rfl (E rfl rfl rfl (C rfl (al_ rfl tz_23 ?_))))
 intro i427 H428 n429 h430 k431
 have e432 := ne_new h423 n429
 have e433 := ne_new h424 n429
 have e434 := ne_new h425 n429
 have z435 := Mono.free m426 n429
 have h436 := keep k431 (ne_new h423 n429) h423
 have h437 := keep k431 (ne_new h424 n429) h424
 have h438 := keep k431 (ne_new h425 n429) h425
 have m439 := Mono.new m426 n429 k431
 refine C rfl (Sw rfl rfl ts_23 h430 rfl rfl rfl ?_)
 intro H440 h441 k442
 have h443 := keep k442 e432 h436
 have h444 := keep k442 e433 h437
 have h445 := keep k442 e434 h438
 have m447 := Mono.set m439 z435 k442
 refine A rfl rfl ?_
 refine AWP.seq ?_
 refine fz_ 25 h441 z435 rfl m447 fun H448 m449 k450 => ?_
 have h451 := (k450 _ e432).trans h443
 have h452 := (k450 _ e433).trans h444
 have h453 := (k450 _ e434).trans h445
 refine AWP.region_str mixed (by kernel_rfl) [(0, none), (1, none), (2, none), (3, none), (4, none), (5, none), (6, none), (7, none), (8, some [1, 2, 3, 4, 5, 6, 7]), (9, some [2, 3, 4, 5, 6, 7])] [10] (by kernel_rfl) ?_
 refine STR.op rfl rfl (.inl ⟨rfl, fun H1 f' H' hf hN hM => Lf _ rfl ((hf 23 rfl).trans rfl) ty_23 rfl ⟨rfl, hN⟩⟩) ?_
 refine STR.op rfl rfl (.inl ⟨rfl, fun H1 f' H' hf hN hM => Lf _ rfl ((hf 25 rfl).trans rfl) ty_23 rfl ⟨rfl, hN⟩⟩) ?_
 refine STR.op rfl rfl (.inl ⟨rfl, fun H1 f' H' hf hN hM => Mv _ rfl ((hf 2 rfl).trans rfl) ⟨rfl, hN⟩⟩) ?_
 refine STR.op rfl rfl (.inl ⟨rfl, fun H1 f' H' hf hN hM => Ff rfl ((hf 9 rfl).trans rfl) fl_76_1 ⟨rfl, hN⟩⟩) ?_
 refine STR.op rfl rfl (.inl ⟨rfl, fun H1 f' H' hf hN hM => Lf _ rfl ((hf 156 rfl).trans rfl) ty_3 rfl ⟨rfl, hN⟩⟩) ?_
 refine STR.op rfl rfl (.inl ⟨rfl, fun H1 f' H' hf hN hM => Ff rfl ((hf 9 rfl).trans rfl) fl_76_2 ⟨rfl, hN⟩⟩) ?_
 refine STR.op rfl rfl (.inl ⟨rfl, fun H1 f' H' hf hN hM => Lf _ rfl ((hf 158 rfl).trans rfl) ty_3 rfl ⟨rfl, hN⟩⟩) ?_
 refine STR.op rfl rfl (.inl ⟨rfl, fun H1 f' H' hf hN hM => Bl (cells := [J 3, J id, J x.A, J x.B, J 0]) rfl tz_58 pl_58 (lconsP rfl (lconsP ((hf 155 rfl).trans rfl) (lconsP ((hf 157 rfl).trans rfl) (lconsP ((hf 159 rfl).trans rfl) rfl)))) rfl ⟨rfl, hN⟩⟩) ?_
 refine STR.st rfl rfl rfl fun f454 H455 hf456 m457 => ?_
 have h458 := m457 _ _ h451
 have h459 := m457 _ _ h452
 have h460 := m457 _ _ h453
 have m461 := m449.trans m457
 refine So (cells' := [J ((Zref15_spot_4 p rs x).X), J ((Zref15_spot_4 p rs x).Y), J ((Zref15_spot_4 p rs x).Z)]) (.agg [J ((Zref15_spot_4 p rs x).X), J ((Zref15_spot_4 p rs x).Y), J ((Zref15_spot_4 p rs x).Z)]) ((hf456 10 rfl).trans rfl) ((hf456 153 rfl).trans rfl) ts_23 h458 rfl rfl rfl rfl ?_
 intro H462 h463 k464
 have h466 := keep k464 (Ne.symm e49) h459
 have h467 := keep k464 (Ne.symm e64) h460
 have m468 := Mono.set m461 z36 k464
 refine ⟨rfl, .inr (RevR.cons rfl (.inl ⟨rfl, fun H1 f' H' hf hN hM => Bl (cells := [J 3, J id, J x.A, J x.B, J 0]) rfl tz_58 pl_58 (lconsP rfl (lconsP ((hf 155 rfl).trans rfl) (lconsP ((hf 157 rfl).trans rfl) (lconsP ((hf 159 rfl).trans rfl) rfl)))) rfl ⟨rfl, hN⟩⟩) (RevR.cons rfl (.inl ⟨rfl, fun H1 f' H' hf hN hM => Lf _ rfl ((hf 158 rfl).trans rfl) ty_3 rfl ⟨rfl, hN⟩⟩) (RevR.cons rfl (.inl ⟨rfl, fun H1 f' H' hf hN hM => Ff rfl ((hf 9 rfl).trans rfl) fl_76_2 ⟨rfl, hN⟩⟩) (RevR.cons rfl (.inl ⟨rfl, fun H1 f' H' hf hN hM => Lf _ rfl ((hf 156 rfl).trans rfl) ty_3 rfl ⟨rfl, hN⟩⟩) (RevR.cons rfl (.inl ⟨rfl, fun H1 f' H' hf hN hM => Ff rfl ((hf 9 rfl).trans rfl) fl_76_1 ⟨rfl, hN⟩⟩) (RevR.cons rfl (.inl ⟨rfl, fun H1 f' H' hf hN hM => Mv _ rfl ((hf 2 rfl).trans rfl) ⟨rfl, hN⟩⟩) (RevR.cons rfl (.inl ⟨rfl, fun H1 f' H' hf hN hM => Lf _ rfl ((hf 25 rfl).trans rfl) ty_23 rfl ⟨rfl, hN⟩⟩) (RevR.skip rfl RevR.nil)))))))), ?_⟩
 refine STR.st rfl rfl rfl fun f469 H470 hf471 m472 => ?_
 have h473 := m472 _ _ h466
 have h474 := m472 _ _ h467
 have h475 := m472 _ _ h463
 have m476 := m468.trans m472
 refine So (cells' := [J ((Zref15_spot_2 p rs x).X), J ((Zref15_spot_2 p rs x).Y), J ((Zref15_spot_2 p rs x).Z)]) (.agg [J ((Zref15_spot_2 p rs x).X), J ((Zref15_spot_2 p rs x).Y), J ((Zref15_spot_2 p rs x).Z)]) ((hf471 11 rfl).trans rfl) ((hf471 154 rfl).trans rfl) ts_23 h473 rfl rfl rfl rfl ?_
 intro H477 h478 k479
 have h481 := keep k479 (Ne.symm e65) h474
 have h482 := keep k479 e49 h475
 have m483 := Mono.set m476 z50 k479
 refine ⟨rfl, .inr (RevR.skip rfl (RevR.cons rfl (.inl ⟨rfl, fun H1 f' H' hf hN hM => Bl (cells := [J 3, J id, J x.A, J x.B, J 0]) rfl tz_58 pl_58 (lconsP rfl (lconsP ((hf 155 rfl).trans rfl) (lconsP ((hf 157 rfl).trans rfl) (lconsP ((hf 159 rfl).trans rfl) rfl)))) rfl ⟨rfl, hN⟩⟩) (RevR.cons rfl (.inl ⟨rfl, fun H1 f' H' hf hN hM => Lf _ rfl ((hf 158 rfl).trans rfl) ty_3 rfl ⟨rfl, hN⟩⟩) (RevR.cons rfl (.inl ⟨rfl, fun H1 f' H' hf hN hM => Ff rfl ((hf 9 rfl).trans rfl) fl_76_2 ⟨rfl, hN⟩⟩) (RevR.cons rfl (.inl ⟨rfl, fun H1 f' H' hf hN hM => Lf _ rfl ((hf 156 rfl).trans rfl) ty_3 rfl ⟨rfl, hN⟩⟩) (RevR.cons rfl (.inl ⟨rfl, fun H1 f' H' hf hN hM => Ff rfl ((hf 9 rfl).trans rfl) fl_76_1 ⟨rfl, hN⟩⟩) (RevR.cons rfl (.inl ⟨rfl, fun H1 f' H' hf hN hM => Mv _ rfl ((hf 2 rfl).trans rfl) ⟨rfl, hN⟩⟩) (RevR.skip rfl (RevR.skip rfl RevR.nil))))))))), ?_⟩
 refine STR.done fun H484 m485 => ?_
 have h486 := m485 _ _ h481
 have h487 := m485 _ _ h482
 have h488 := m485 _ _ h478
 have m489 := m483.trans m485
 refine C rfl (Sw rfl rfl ts_58 h486 rfl rfl rfl ?_)
 intro H490 h491 k492
 have h494 := keep k492 e64 h487
 have h495 := keep k492 e65 h488
 have m496 := Mono.set m489 z66 k492
 refine rt_ ?_
 refine Rr (Res.list rfl rfl (.cell (v := .agg [J ((Zref15_spot_4 p rs x).X), J ((Zref15_spot_4 p rs x).Y), J ((Zref15_spot_4 p rs x).Z)]) rfl ty_23 h494 rfl (.cell (v := .agg [J ((Zref15_spot_2 p rs x).X), J ((Zref15_spot_2 p rs x).Y), J ((Zref15_spot_2 p rs x).Z)]) rfl ty_23 h495 rfl (.cell (v := .agg [J 3, J id, J x.A, J x.B, J 0]) rfl ty_58 h491 rfl (.nil))))) ?_ m496
 have hR : R_ref15_spot p cage id rs x = ((Zref15_spot_4 p rs x), (Zref15_spot_2 p rs x), (KeyT.mk 3 id x.A x.B 0)) := by unfold R_ref15_spot; rw [if_neg b94, if_neg b165]
 exact (congrArg Tref15_spot hR).symm
end Go.Proofs.M
namespace Go.Proofs.M
open Go Go.AH
set_option linter.unusedSimpArgs false
theorem there_T {i n : Int} (h : 1 ≤ n ∧ n ≤ 16 ∧ 0 ≤ i ∧ i ≤ n) : R_ref11_there i n = true := by
  unfold R_ref11_there
  rw [if_pos (by omega), if_pos (by omega), if_pos (by omega)]
  exact decide_eq_true h.2.2.2
theorem there_F {i n : Int} (h : ¬ (1 ≤ n ∧ n ≤ 16 ∧ 0 ≤ i ∧ i ≤ n)) : R_ref11_there i n = false := by
  unfold R_ref11_there
  (repeat' split) <;> first | rfl | (exact decide_eq_false (by omega))
theorem sumW4 (i n : Int) : sumW (fun k => at_ (R_ref11_Weights i n) k) 4 = n * n * n := by
  simp only [sumW, R_ref11_Weights, at_]
  simp
  grind
theorem sumW16 (i n j m : Int) : sumW (fun k => at_ (R_ref11_Weights i n) (k % 4) * at_ (R_ref11_Weights j m) (k / 4)) 16 = n * n * n * m * m * m := by
  have a := sumW4 i n
  have b := sumW4 j m
  simp only [sumW] at a b ⊢
  simp at a b ⊢
  grind
theorem cubic_same {p : List VT} (hp : p.length = 4) (i n : Int) : cubicR p i n = R_curve_Cubic p i n := by
  unfold cubicR R_curve_Cubic
  by_cases h : 1 ≤ n ∧ n ≤ 16 ∧ 0 ≤ i ∧ i ≤ n
  · rw [if_pos (there_T h), weights_ok h, if_pos rfl]
    unfold weighR
    by_cases ha : allIn p 65536 = true
    · rw [if_pos ha, if_pos ha, hp, sumW4]
      have hl := allIn_T.1 ha
      have hw := wts_rng h.2.2.1 h.2.2.2 h.2.1
      have hs := sumV_rng (l := p) (wt := fun k => at_ (R_ref11_Weights i n) k) (B := 12288) (n := 4) (fun k hk => hl k (by omega) (by omega)) (fun k hk => hw k (by omega) (by omega))
      have h1 := Int.mul_le_mul h.2.1 h.2.1 (by omega) (by omega)
      have h2 := Int.mul_le_mul h1 h.2.1 (by omega) (by omega)
      rw [of_same (inV_le hs (by decide)) (by omega)]
      rfl
    · rw [if_neg ha, if_neg ha]
  · rw [if_neg (by rw [there_F h]; decide), weights_no h, if_neg (by decide)]
theorem point_same {p : List VT} (hp : p.length = 16) (i n j m : Int) : pointR p i n j m = R_curve_Point p i n j m := by
  unfold pointR R_curve_Point
  by_cases h : 1 ≤ n ∧ n ≤ 16 ∧ 0 ≤ i ∧ i ≤ n
  · by_cases g : 1 ≤ m ∧ m ≤ 16 ∧ 0 ≤ j ∧ j ≤ m
    · rw [if_pos ⟨there_T h, there_T g⟩, weights_ok h, weights_ok g, if_pos rfl, if_pos rfl]
      unfold weighR
      by_cases ha : allIn p 65536 = true
      · rw [if_pos ha, if_pos ha, hp, sumW16]
        have hl := allIn_T.1 ha
        have hw := wts_rng h.2.2.1 h.2.2.2 h.2.1
        have hw2 := wts_rng g.2.2.1 g.2.2.2 g.2.1
        have hs := sumV_rng (l := p) (wt := fun k => at_ (R_ref11_Weights i n) (k % 4) * at_ (R_ref11_Weights j m) (k / 4)) (B := 12288 * 12288) (n := 16) (fun k hk => hl k (by omega) (by omega)) (fun k hk => by
          have a := hw ((k : Int) % 4) (by omega) (by omega)
          have b := hw2 ((k : Int) / 4) (by omega) (by omega)
          exact ⟨Int.mul_nonneg a.1 b.1, Int.mul_le_mul a.2 b.2 b.1 (by omega)⟩)
        have h1 := Int.mul_le_mul h.2.1 h.2.1 (by omega) (by omega)
        have h2 := Int.mul_le_mul h1 h.2.1 (by omega) (by omega)
        have n0 : 0 ≤ n * n * n := Int.mul_nonneg (Int.mul_nonneg (by omega) (by omega)) (by omega)
        have h3 := Int.mul_le_mul h2 g.2.1 (by omega) (by omega)
        have n1 : 0 ≤ n * n * n * m := Int.mul_nonneg n0 (by omega)
        have h4 := Int.mul_le_mul h3 g.2.1 (by omega) (by omega)
        have n2 : 0 ≤ n * n * n * m * m := Int.mul_nonneg n1 (by omega)
        have h5 := Int.mul_le_mul h4 g.2.1 (by omega) (by omega)
        rw [of_same (inV_le hs (by decide)) (by omega)]
        rfl
      · rw [if_neg ha, if_neg ha]
    · rw [if_neg (by rw [there_F g]; simp), weights_ok h, weights_no g, if_pos rfl, if_neg (by decide)]
  · rw [if_neg (by rw [there_F h]; simp), weights_no h, if_neg (by decide)]
theorem max4L {rs : List Int} (h : rs.length = 4) : max (max (max (at_ rs 0) (at_ rs 1)) (at_ rs 2)) (at_ rs 3) = maxL rs := by
  match rs, h with
  | [a, b, c, d], _ => simp [maxL, at_]
theorem spot_same (p : PatchT) (cage id : Int) {rs : List Int} (h : rs.length = 4) (x : SpotT) : R_ref15_spot p cage id rs x = ((R_mesh_vertex p cage id rs (maxL rs) x).atF, (R_mesh_vertex p cage id rs (maxL rs) x).up, (R_mesh_vertex p cage id rs (maxL rs) x).key) := by
  unfold R_ref15_spot R_mesh_vertex
  rw [max4L h]
  split
  · rfl
  · split
    · unfold R_mesh_side
      rw [row_same, blend_same, cubic_same (R_curve_Row_len _ _)]
      split <;> rfl
    · unfold R_mesh_inner
      rw [point_same p.lP, mix_same]
end Go.Proofs.M
namespace Go.Proofs.M
open Go Go.AH
theorem texel_same (t : TexT) (p : VT) : R_ref14_Texel t p = R_relief_Texel t p := by
  unfold R_ref14_Texel R_relief_Texel
  rw [right_same, within_same]
  split
  · rename_i h
    have := rightS_iff.1 h
    rw [step_same (by have := this.2.2.1; omega), step_same (by have := this.1; omega)]
  · rfl
theorem weave_mem {rs : List Int} (h : rs.length = 4) {x : SpotT} (hx : x ∈ (weaveR rs).1) : rates rs ∧ maxL rs ≤ 16 ∧ x ∈ spotsL rs (maxL rs) := by
  unfold weaveR at hx
  split at hx
  · cases hx
  · have hr := rates_of h (by omega) (by omega)
    exact ⟨hr, by omega, hx⟩
theorem weave_len {rs : List Int} (h : rs.length = 4) : (weaveR rs).1.length ≤ 400 := by
  unfold weaveR
  split
  · simp
  · exact spots_len (rates_of h (by omega) (by omega)) (by omega)
def vtxD (p : PatchT) (cage id : Int) (s : SkinT) (x : SpotT) : VertexT := R_mesh_vertex p cage id (R_rate_Sides p.aP s.Unit) (maxL (R_rate_Sides p.aP s.Unit)) x
def plT (s : SkinT) (texs : List TexT) (v : VertexT) : Option VT :=
  if s.Tex ≥ 0 ∧ s.Height > 0 then (if (R_relief_Texel (at_ texs s.Tex) v.atF).2 = true then some (R_relief_Lift v.atF v.up (R_relief_Texel (at_ texs s.Tex) v.atF).1 s.Height).1 else none) else some v.atF
def errD (p : PatchT) (s : SkinT) (texs : List TexT) : Int := if R_mesh_fine p s ≠ 11 ∧ (s.Tex < -1 ∨ s.Tex ≥ texs.length) then 11 else R_mesh_fine p s
def fD (p : PatchT) (cage id : Int) (s : SkinT) (texs : List TexT) (x : SpotT) : VT := (plT s texs (vtxD p cage id s x)).getD default
def kD (p : PatchT) (cage id : Int) (s : SkinT) (x : SpotT) : KeyT := (vtxD p cage id s x).key
def diceR (p : PatchT) (cage id : Int) (s : SkinT) (texs : List TexT) : MeshT × Int :=
  if errD p s texs ≠ 0 then (⟨[], [], []⟩, errD p s texs) else
  if (weaveR (R_rate_Sides p.aP s.Unit)).1.all (fun x => (plT s texs (vtxD p cage id s x)).isSome) = true then
    (⟨(weaveR (R_rate_Sides p.aP s.Unit)).1.map (fD p cage id s texs), (weaveR (R_rate_Sides p.aP s.Unit)).1.map (kD p cage id s), (weaveR (R_rate_Sides p.aP s.Unit)).2.1⟩, 0)
  else (⟨[], [], []⟩, 11)
theorem dice_err {p : PatchT} {cage id : Int} {s : SkinT} {texs : List TexT} {e : Int} (h : errD p s texs = e) (he : e ≠ 0) : diceR p cage id s texs = (⟨[], [], []⟩, e) := by
  unfold diceR; rw [h, if_pos he]
theorem dice_bad {p : PatchT} {cage id : Int} {s : SkinT} {texs : List TexT} {i : Int} (h : errD p s texs = 0) (h0 : 0 ≤ i) (h1 : i < (weaveR (R_rate_Sides p.aP s.Unit)).1.length) (hb : plT s texs (vtxD p cage id s (at_ (weaveR (R_rate_Sides p.aP s.Unit)).1 i)) = none) : diceR p cage id s texs = (⟨[], [], []⟩, 11) := by
  unfold diceR
  rw [h, if_neg (by decide), if_neg]
  rw [List.all_eq_true]
  intro g
  have := g _ (at_mem h0 h1)
  rw [hb] at this; cases this
theorem dice_ok {p : PatchT} {cage id : Int} {s : SkinT} {texs : List TexT} {i : Int} (h : errD p s texs = 0) (h1 : (weaveR (R_rate_Sides p.aP s.Unit)).1.length ≤ i) (hp : ∀ j : Int, 0 ≤ j → j < i → (plT s texs (vtxD p cage id s (at_ (weaveR (R_rate_Sides p.aP s.Unit)).1 j))).isSome = true) : diceR p cage id s texs = (⟨((weaveR (R_rate_Sides p.aP s.Unit)).1.take i.toNat).map (fD p cage id s texs), ((weaveR (R_rate_Sides p.aP s.Unit)).1.take i.toNat).map (kD p cage id s), (weaveR (R_rate_Sides p.aP s.Unit)).2.1⟩, 0) := by
  unfold diceR
  rw [h, if_neg (by decide), if_pos, take_all (by omega)]
  rw [List.all_eq_true]
  intro x hx
  obtain ⟨j, h0, h1, rfl⟩ := mem_at hx
  exact hp j h0 (by omega)
theorem map_step {α β : Type} [Inhabited α] {l : List α} {f : α → β} {i : Int} {y : β} (h0 : 0 ≤ i) (h1 : i < l.length) (hy : f (at_ l i) = y) : (l.take i.toNat).map f ++ [y] = (l.take (i + 1).toNat).map f := by
  subst hy; rw [take_step h0 h1, List.map_append]; rfl
theorem fD_of {p : PatchT} {cage id : Int} {s : SkinT} {texs : List TexT} {x : SpotT} {v : VT} (h : plT s texs (vtxD p cage id s x) = some v) : fD p cage id s texs x = v := by unfold fD; rw [h]; rfl
end Go.Proofs.M
namespace Go.Proofs.M
open Go Go.AH
def sumR (texs : List TexT) (n : Nat) : Int := ((texs.take n).map fun t => (t.Rows.length : Int)).sum
theorem sumR_step {texs : List TexT} {i : Int} (h0 : 0 ≤ i) (h1 : i < texs.length) : sumR texs i.toNat + ((at_ texs i).Rows.length : Int) = sumR texs (i + 1).toNat := by
  unfold sumR; rw [take_step h0 h1]; simp
def longS (texs : List TexT) : Bool := (List.range (min texs.length 20)).any (fun k => decide (sumR texs (k + 1) > 3000)) || decide (texs.length > 20)
theorem long_hit {texs : List TexT} {i : Int} (h0 : 0 ≤ i) (h1 : i < texs.length) (h2 : i < 20) (h : sumR texs (i + 1).toNat > 3000) : true = longS texs := by
  unfold longS
  have : (List.range (min texs.length 20)).any (fun k => decide (sumR texs (k + 1) > 3000)) = true := by
    rw [List.any_eq_true]
    refine ⟨i.toNat, List.mem_range.2 (by omega), decide_eq_true ?_⟩
    rw [show i.toNat + 1 = (i + 1).toNat by omega]; exact h
  rw [this]; rfl
theorem long_end {texs : List TexT} {i : Int} (pre : ∀ j : Int, 0 ≤ j → j < i → sumR texs (j + 1).toNat ≤ 3000) (h : (texs.length : Int) ≤ i ∨ 20 ≤ i) : decide ((texs.length : Int) > 20) = longS texs := by
  unfold longS
  have : (List.range (min texs.length 20)).any (fun k => decide (sumR texs (k + 1) > 3000)) = false := by
    rw [List.any_eq_false]
    intro k hk
    have hk := List.mem_range.1 hk
    have := pre k (by omega) (by omega)
    rw [show ((k : Int) + 1).toNat = k + 1 by omega] at this
    simp; omega
  rw [this, Bool.false_or]
  by_cases g : texs.length > 20 <;> simp <;> omega
end Go.Proofs.M
namespace Go.Proofs.M
open Go Go.AH
set_option maxRecDepth 4000
set_option linter.unusedSimpArgs false
set_option linter.unusedVariables false
set_option maxHeartbeats 4000000
def R_law15_flat  : PatchT :=
  (PatchT.mk ([(VT.mk 0 0 0), (VT.mk 3 0 0), (VT.mk 6 0 0), (VT.mk 9 0 0), (VT.mk 0 3 0), (VT.mk 3 3 0), (VT.mk 6 3 0), (VT.mk 9 3 0), (VT.mk 0 6 0), (VT.mk 3 6 0), (VT.mk 6 6 0), (VT.mk 9 6 0), (VT.mk 0 9 0), (VT.mk 3 9 0), (VT.mk 6 9 0), (VT.mk 9 9 0)]) ([0, 1, 2, 3]) ([(VT.mk 0 0 0), (VT.mk 0 0 0), (VT.mk 0 0 0), (VT.mk 0 0 0)]) 0)
theorem c_law15_flat : PC Tryd.prog 22 [] (.agg (((R_law15_flat).aP).flatMap eV ++ (((R_law15_flat).aCorners).map eI ++ (((R_law15_flat).aNormals).flatMap eV ++ [J ((R_law15_flat).Skin)])))) := by
 intro H0
 refine ACalls.of_body' (n := 20) rfl rfl rfl rfl ?_
 have m0 := Mono.refl H0
 refine Sr ?_
 refine C rfl (al_ rfl tz_28 ?_)
 intro i1 H2 n3 h4 k5
 have z6 := Mono.free m0 n3
 have m7 := Mono.new m0 n3 k5
 refine Sr ?_
 refine C rfl (Bl (cells := [J 0, J 1, J 2, J 3]) rfl tz_25 pl_25 rfl rfl (C rfl (Bl (cells := [J 0, J 0, J 0, J 0, J 0, J 0, J 0, J 0, J 0, J 0, J 0, J 0, J 0, J 0, J 0, J 0, J 0, J 0, J 0, J 0, J 0, J 0, J 0, J 0, J 0, J 0, J 0, J 0, J 0, J 0, J 0, J 0, J 0, J 0, J 0, J 0, J 0, J 0, J 0, J 0, J 0, J 0, J 0, J 0, J 0, J 0, J 0, J 0, J 0, J 1, J 2, J 3, J 0, J 0, J 0, J 0, J 0, J 0, J 0, J 0, J 0, J 0, J 0, J 0, J 0]) rfl tz_28 pl_28 rfl rfl (C rfl (al_ rfl tz_28 ?_)))))
 intro i8 H9 n10 h11 k12
 have e13 := ne_new h4 n10
 have z14 := Mono.free m7 n10
 have h15 := keep k12 (ne_new h4 n10) h4
 have m16 := Mono.new m7 n10 k12
 refine C rfl (Sw rfl rfl ts_28 h11 rfl rfl rfl ?_)
 intro H17 h18 k19
 have h20 := keep k19 e13 h15
 have m22 := Mono.set m16 z14 k19
 refine AWP.seq ?_
 refine Sr ?_
 refine A rfl rfl ?_
 refine bk_ ?_
 refine AWP.unroll 20 ?_
 refine UN.step ?_
 refine AWP.seq ?_
 refine Sr ?_
 refine V rfl rfl (B rfl rfl rfl rfl ?_)
 refine ct_ rfl (decide_eq_true (by decide)) ?_
 refine AWP.skip ?_
 refine AWP.seq ?_
 refine bk_ ?_
 refine AWP.region rfl ?_
 refine V rfl rfl (V rfl rfl (C rfl (AOp.remP rfl rfl rfl (by omega) (by omega) (B rfl rfl rfl (imul (by omega)) (V rfl rfl (C rfl (AOp.quoP rfl rfl rfl (by omega) (B rfl rfl rfl (imul (by omega)) (C rfl (Bl (cells := [J 0, J 0, J 0]) rfl tz_23 pl_23 rfl rfl ?_))))))))))
 refine C rfl (Fa rfl rfl fl_28_0 ?_ (hid := ⟨_, h18⟩))
 refine C rfl (iA_ rfl rfl rfl ar_24 (by omega) (by omega) ⟨_, h18⟩ (C rfl (So (cells' := [J 0, J 0, J 0, J 0, J 0, J 0, J 0, J 0, J 0, J 0, J 0, J 0, J 0, J 0, J 0, J 0, J 0, J 0, J 0, J 0, J 0, J 0, J 0, J 0, J 0, J 0, J 0, J 0, J 0, J 0, J 0, J 0, J 0, J 0, J 0, J 0, J 0, J 0, J 0, J 0, J 0, J 0, J 0, J 0, J 0, J 0, J 0, J 0, J 0, J 1, J 2, J 3, J 0, J 0, J 0, J 0, J 0, J 0, J 0, J 0, J 0, J 0, J 0, J 0, J 0]) (.agg [J 0, J 0, J 0]) rfl rfl ts_23 h18 rfl rfl rfl rfl ?_)))
 intro H23 h24 k25
 have h26 := keep k25 e13 h20
 have m28 := Mono.set m22 z14 k25
 refine AWP.region rfl ?_
 refine V rfl rfl (B rfl rfl rfl (iadd (by omega)) (A rfl rfl ?_))
 refine AOps.nil ?_
 refine UN.step ?_
 refine AWP.seq ?_
 refine Sr ?_
 refine V rfl rfl (B rfl rfl rfl rfl ?_)
 refine ct_ rfl (decide_eq_true (by decide)) ?_
 refine AWP.skip ?_
 refine AWP.seq ?_
 refine bk_ ?_
 refine AWP.region rfl ?_
 refine V rfl rfl (V rfl rfl (C rfl (AOp.remP rfl rfl rfl (by omega) (by omega) (B rfl rfl rfl (imul (by omega)) (V rfl rfl (C rfl (AOp.quoP rfl rfl rfl (by omega) (B rfl rfl rfl (imul (by omega)) (C rfl (Bl (cells := [J 3, J 0, J 0]) rfl tz_23 pl_23 rfl rfl ?_))))))))))
 refine C rfl (Fa rfl rfl fl_28_0 ?_ (hid := ⟨_, h24⟩))
 refine C rfl (iA_ rfl rfl rfl ar_24 (by omega) (by omega) ⟨_, h24⟩ (C rfl (So (cells' := [J 0, J 0, J 0, J 3, J 0, J 0, J 0, J 0, J 0, J 0, J 0, J 0, J 0, J 0, J 0, J 0, J 0, J 0, J 0, J 0, J 0, J 0, J 0, J 0, J 0, J 0, J 0, J 0, J 0, J 0, J 0, J 0, J 0, J 0, J 0, J 0, J 0, J 0, J 0, J 0, J 0, J 0, J 0, J 0, J 0, J 0, J 0, J 0, J 0, J 1, J 2, J 3, J 0, J 0, J 0, J 0, J 0, J 0, J 0, J 0, J 0, J 0, J 0, J 0, J 0]) (.agg [J 3, J 0, J 0]) rfl rfl ts_23 h24 rfl rfl rfl rfl ?_)))
 intro H29 h30 k31
 have h32 := keep k31 e13 h26
 have m34 := Mono.set m28 z14 k31
 refine AWP.region rfl ?_
 refine V rfl rfl (B rfl rfl rfl (iadd (by omega)) (A rfl rfl ?_))
 refine AOps.nil ?_
 refine UN.step ?_
 refine AWP.seq ?_
 refine Sr ?_
 refine V rfl rfl (B rfl rfl rfl rfl ?_)
 refine ct_ rfl (decide_eq_true (by decide)) ?_
 refine AWP.skip ?_
 refine AWP.seq ?_
 refine bk_ ?_
 refine AWP.region rfl ?_
 refine V rfl rfl (V rfl rfl (C rfl (AOp.remP rfl rfl rfl (by omega) (by omega) (B rfl rfl rfl (imul (by omega)) (V rfl rfl (C rfl (AOp.quoP rfl rfl rfl (by omega) (B rfl rfl rfl (imul (by omega)) (C rfl (Bl (cells := [J 6, J 0, J 0]) rfl tz_23 pl_23 rfl rfl ?_))))))))))
 refine C rfl (Fa rfl rfl fl_28_0 ?_ (hid := ⟨_, h30⟩))
 refine C rfl (iA_ rfl rfl rfl ar_24 (by omega) (by omega) ⟨_, h30⟩ (C rfl (So (cells' := [J 0, J 0, J 0, J 3, J 0, J 0, J 6, J 0, J 0, J 0, J 0, J 0, J 0, J 0, J 0, J 0, J 0, J 0, J 0, J 0, J 0, J 0, J 0, J 0, J 0, J 0, J 0, J 0, J 0, J 0, J 0, J 0, J 0, J 0, J 0, J 0, J 0, J 0, J 0, J 0, J 0, J 0, J 0, J 0, J 0, J 0, J 0, J 0, J 0, J 1, J 2, J 3, J 0, J 0, J 0, J 0, J 0, J 0, J 0, J 0, J 0, J 0, J 0, J 0, J 0]) (.agg [J 6, J 0, J 0]) rfl rfl ts_23 h30 rfl rfl rfl rfl ?_)))
 intro H35 h36 k37
 have h38 := keep k37 e13 h32
 have m40 := Mono.set m34 z14 k37
 refine AWP.region rfl ?_
 refine V rfl rfl (B rfl rfl rfl (iadd (by omega)) (A rfl rfl ?_))
 refine AOps.nil ?_
 refine UN.step ?_
 refine AWP.seq ?_
 refine Sr ?_
 refine V rfl rfl (B rfl rfl rfl rfl ?_)
 refine ct_ rfl (decide_eq_true (by decide)) ?_
 refine AWP.skip ?_
 refine AWP.seq ?_
 refine bk_ ?_
 refine AWP.region rfl ?_
 refine V rfl rfl (V rfl rfl (C rfl (AOp.remP rfl rfl rfl (by omega) (by omega) (B rfl rfl rfl (imul (by omega)) (V rfl rfl (C rfl (AOp.quoP rfl rfl rfl (by omega) (B rfl rfl rfl (imul (by omega)) (C rfl (Bl (cells := [J 9, J 0, J 0]) rfl tz_23 pl_23 rfl rfl ?_))))))))))
 refine C rfl (Fa rfl rfl fl_28_0 ?_ (hid := ⟨_, h36⟩))
 refine C rfl (iA_ rfl rfl rfl ar_24 (by omega) (by omega) ⟨_, h36⟩ (C rfl (So (cells' := [J 0, J 0, J 0, J 3, J 0, J 0, J 6, J 0, J 0, J 9, J 0, J 0, J 0, J 0, J 0, J 0, J 0, J 0, J 0, J 0, J 0, J 0, J 0, J 0, J 0, J 0, J 0, J 0, J 0, J 0, J 0, J 0, J 0, J 0, J 0, J 0, J 0, J 0, J 0, J 0, J 0, J 0, J 0, J 0, J 0, J 0, J 0, J 0, J 0, J 1, J 2, J 3, J 0, J 0, J 0, J 0, J 0, J 0, J 0, J 0, J 0, J 0, J 0, J 0, J 0]) (.agg [J 9, J 0, J 0]) rfl rfl ts_23 h36 rfl rfl rfl rfl ?_)))
 intro H41 h42 k43
 have h44 := keep k43 e13 h38
 have m46 := Mono.set m40 z14 k43
 refine AWP.region rfl ?_
 refine V rfl rfl (B rfl rfl rfl (iadd (by omega)) (A rfl rfl ?_))
 refine AOps.nil ?_
 refine UN.step ?_
 refine AWP.seq ?_
 refine Sr ?_
 refine V rfl rfl (B rfl rfl rfl rfl ?_)
 refine ct_ rfl (decide_eq_true (by decide)) ?_
 refine AWP.skip ?_
 refine AWP.seq ?_
 refine bk_ ?_
 refine AWP.region rfl ?_
 refine V rfl rfl (V rfl rfl (C rfl (AOp.remP rfl rfl rfl (by omega) (by omega) (B rfl rfl rfl (imul (by omega)) (V rfl rfl (C rfl (AOp.quoP rfl rfl rfl (by omega) (B rfl rfl rfl (imul (by omega)) (C rfl (Bl (cells := [J 0, J 3, J 0]) rfl tz_23 pl_23 rfl rfl ?_))))))))))
 refine C rfl (Fa rfl rfl fl_28_0 ?_ (hid := ⟨_, h42⟩))
 refine C rfl (iA_ rfl rfl rfl ar_24 (by omega) (by omega) ⟨_, h42⟩ (C rfl (So (cells' := [J 0, J 0, J 0, J 3, J 0, J 0, J 6, J 0, J 0, J 9, J 0, J 0, J 0, J 3, J 0, J 0, J 0, J 0, J 0, J 0, J 0, J 0, J 0, J 0, J 0, J 0, J 0, J 0, J 0, J 0, J 0, J 0, J 0, J 0, J 0, J 0, J 0, J 0, J 0, J 0, J 0, J 0, J 0, J 0, J 0, J 0, J 0, J 0, J 0, J 1, J 2, J 3, J 0, J 0, J 0, J 0, J 0, J 0, J 0, J 0, J 0, J 0, J 0, J 0, J 0]) (.agg [J 0, J 3, J 0]) rfl rfl ts_23 h42 rfl rfl rfl rfl ?_)))
 intro H47 h48 k49
 have h50 := keep k49 e13 h44
 have m52 := Mono.set m46 z14 k49
 refine AWP.region rfl ?_
 refine V rfl rfl (B rfl rfl rfl (iadd (by omega)) (A rfl rfl ?_))
 refine AOps.nil ?_
 refine UN.step ?_
 refine AWP.seq ?_
 refine Sr ?_
 refine V rfl rfl (B rfl rfl rfl rfl ?_)
 refine ct_ rfl (decide_eq_true (by decide)) ?_
 refine AWP.skip ?_
 refine AWP.seq ?_
 refine bk_ ?_
 refine AWP.region rfl ?_
 refine V rfl rfl (V rfl rfl (C rfl (AOp.remP rfl rfl rfl (by omega) (by omega) (B rfl rfl rfl (imul (by omega)) (V rfl rfl (C rfl (AOp.quoP rfl rfl rfl (by omega) (B rfl rfl rfl (imul (by omega)) (C rfl (Bl (cells := [J 3, J 3, J 0]) rfl tz_23 pl_23 rfl rfl ?_))))))))))
 refine C rfl (Fa rfl rfl fl_28_0 ?_ (hid := ⟨_, h48⟩))
 refine C rfl (iA_ rfl rfl rfl ar_24 (by omega) (by omega) ⟨_, h48⟩ (C rfl (So (cells' := [J 0, J 0, J 0, J 3, J 0, J 0, J 6, J 0, J 0, J 9, J 0, J 0, J 0, J 3, J 0, J 3, J 3, J 0, J 0, J 0, J 0, J 0, J 0, J 0, J 0, J 0, J 0, J 0, J 0, J 0, J 0, J 0, J 0, J 0, J 0, J 0, J 0, J 0, J 0, J 0, J 0, J 0, J 0, J 0, J 0, J 0, J 0, J 0, J 0, J 1, J 2, J 3, J 0, J 0, J 0, J 0, J 0, J 0, J 0, J 0, J 0, J 0, J 0, J 0, J 0]) (.agg [J 3, J 3, J 0]) rfl rfl ts_23 h48 rfl rfl rfl rfl ?_)))
 intro H53 h54 k55
 have h56 := keep k55 e13 h50
 have m58 := Mono.set m52 z14 k55
 refine AWP.region rfl ?_
 refine V rfl rfl (B rfl rfl rfl (iadd (by omega)) (A rfl rfl ?_))
 refine AOps.nil ?_
 refine UN.step ?_
 refine AWP.seq ?_
 refine Sr ?_
 refine V rfl rfl (B rfl rfl rfl rfl ?_)
 refine ct_ rfl (decide_eq_true (by decide)) ?_
 refine AWP.skip ?_
 refine AWP.seq ?_
 refine bk_ ?_
 refine AWP.region rfl ?_
 refine V rfl rfl (V rfl rfl (C rfl (AOp.remP rfl rfl rfl (by omega) (by omega) (B rfl rfl rfl (imul (by omega)) (V rfl rfl (C rfl (AOp.quoP rfl rfl rfl (by omega) (B rfl rfl rfl (imul (by omega)) (C rfl (Bl (cells := [J 6, J 3, J 0]) rfl tz_23 pl_23 rfl rfl ?_))))))))))
 refine C rfl (Fa rfl rfl fl_28_0 ?_ (hid := ⟨_, h54⟩))
 refine C rfl (iA_ rfl rfl rfl ar_24 (by omega) (by omega) ⟨_, h54⟩ (C rfl (So (cells' := [J 0, J 0, J 0, J 3, J 0, J 0, J 6, J 0, J 0, J 9, J 0, J 0, J 0, J 3, J 0, J 3, J 3, J 0, J 6, J 3, J 0, J 0, J 0, J 0, J 0, J 0, J 0, J 0, J 0, J 0, J 0, J 0, J 0, J 0, J 0, J 0, J 0, J 0, J 0, J 0, J 0, J 0, J 0, J 0, J 0, J 0, J 0, J 0, J 0, J 1, J 2, J 3, J 0, J 0, J 0, J 0, J 0, J 0, J 0, J 0, J 0, J 0, J 0, J 0, J 0]) (.agg [J 6, J 3, J 0]) rfl rfl ts_23 h54 rfl rfl rfl rfl ?_)))
 intro H59 h60 k61
 have h62 := keep k61 e13 h56
 have m64 := Mono.set m58 z14 k61
 refine AWP.region rfl ?_
 refine V rfl rfl (B rfl rfl rfl (iadd (by omega)) (A rfl rfl ?_))
 refine AOps.nil ?_
 refine UN.step ?_
 refine AWP.seq ?_
 refine Sr ?_
 refine V rfl rfl (B rfl rfl rfl rfl ?_)
 refine ct_ rfl (decide_eq_true (by decide)) ?_
 refine AWP.skip ?_
 refine AWP.seq ?_
 refine bk_ ?_
 refine AWP.region rfl ?_
 refine V rfl rfl (V rfl rfl (C rfl (AOp.remP rfl rfl rfl (by omega) (by omega) (B rfl rfl rfl (imul (by omega)) (V rfl rfl (C rfl (AOp.quoP rfl rfl rfl (by omega) (B rfl rfl rfl (imul (by omega)) (C rfl (Bl (cells := [J 9, J 3, J 0]) rfl tz_23 pl_23 rfl rfl ?_))))))))))
 refine C rfl (Fa rfl rfl fl_28_0 ?_ (hid := ⟨_, h60⟩))
 refine C rfl (iA_ rfl rfl rfl ar_24 (by omega) (by omega) ⟨_, h60⟩ (C rfl (So (cells' := [J 0, J 0, J 0, J 3, J 0, J 0, J 6, J 0, J 0, J 9, J 0, J 0, J 0, J 3, J 0, J 3, J 3, J 0, J 6, J 3, J 0, J 9, J 3, J 0, J 0, J 0, J 0, J 0, J 0, J 0, J 0, J 0, J 0, J 0, J 0, J 0, J 0, J 0, J 0, J 0, J 0, J 0, J 0, J 0, J 0, J 0, J 0, J 0, J 0, J 1, J 2, J 3, J 0, J 0, J 0, J 0, J 0, J 0, J 0, J 0, J 0, J 0, J 0, J 0, J 0]) (.agg [J 9, J 3, J 0]) rfl rfl ts_23 h60 rfl rfl rfl rfl ?_)))
 intro H65 h66 k67
 have h68 := keep k67 e13 h62
 have m70 := Mono.set m64 z14 k67
 refine AWP.region rfl ?_
 refine V rfl rfl (B rfl rfl rfl (iadd (by omega)) (A rfl rfl ?_))
 refine AOps.nil ?_
 refine UN.step ?_
 refine AWP.seq ?_
 refine Sr ?_
 refine V rfl rfl (B rfl rfl rfl rfl ?_)
 refine ct_ rfl (decide_eq_true (by decide)) ?_
 refine AWP.skip ?_
 refine AWP.seq ?_
 refine bk_ ?_
 refine AWP.region rfl ?_
 refine V rfl rfl (V rfl rfl (C rfl (AOp.remP rfl rfl rfl (by omega) (by omega) (B rfl rfl rfl (imul (by omega)) (V rfl rfl (C rfl (AOp.quoP rfl rfl rfl (by omega) (B rfl rfl rfl (imul (by omega)) (C rfl (Bl (cells := [J 0, J 6, J 0]) rfl tz_23 pl_23 rfl rfl ?_))))))))))
 refine C rfl (Fa rfl rfl fl_28_0 ?_ (hid := ⟨_, h66⟩))
 refine C rfl (iA_ rfl rfl rfl ar_24 (by omega) (by omega) ⟨_, h66⟩ (C rfl (So (cells' := [J 0, J 0, J 0, J 3, J 0, J 0, J 6, J 0, J 0, J 9, J 0, J 0, J 0, J 3, J 0, J 3, J 3, J 0, J 6, J 3, J 0, J 9, J 3, J 0, J 0, J 6, J 0, J 0, J 0, J 0, J 0, J 0, J 0, J 0, J 0, J 0, J 0, J 0, J 0, J 0, J 0, J 0, J 0, J 0, J 0, J 0, J 0, J 0, J 0, J 1, J 2, J 3, J 0, J 0, J 0, J 0, J 0, J 0, J 0, J 0, J 0, J 0, J 0, J 0, J 0]) (.agg [J 0, J 6, J 0]) rfl rfl ts_23 h66 rfl rfl rfl rfl ?_)))
 intro H71 h72 k73
 have h74 := keep k73 e13 h68
 have m76 := Mono.set m70 z14 k73
 refine AWP.region rfl ?_
 refine V rfl rfl (B rfl rfl rfl (iadd (by omega)) (A rfl rfl ?_))
 refine AOps.nil ?_
 refine UN.step ?_
 refine AWP.seq ?_
 refine Sr ?_
 refine V rfl rfl (B rfl rfl rfl rfl ?_)
 refine ct_ rfl (decide_eq_true (by decide)) ?_
 refine AWP.skip ?_
 refine AWP.seq ?_
 refine bk_ ?_
 refine AWP.region rfl ?_
 refine V rfl rfl (V rfl rfl (C rfl (AOp.remP rfl rfl rfl (by omega) (by omega) (B rfl rfl rfl (imul (by omega)) (V rfl rfl (C rfl (AOp.quoP rfl rfl rfl (by omega) (B rfl rfl rfl (imul (by omega)) (C rfl (Bl (cells := [J 3, J 6, J 0]) rfl tz_23 pl_23 rfl rfl ?_))))))))))
 refine C rfl (Fa rfl rfl fl_28_0 ?_ (hid := ⟨_, h72⟩))
 refine C rfl (iA_ rfl rfl rfl ar_24 (by omega) (by omega) ⟨_, h72⟩ (C rfl (So (cells' := [J 0, J 0, J 0, J 3, J 0, J 0, J 6, J 0, J 0, J 9, J 0, J 0, J 0, J 3, J 0, J 3, J 3, J 0, J 6, J 3, J 0, J 9, J 3, J 0, J 0, J 6, J 0, J 3, J 6, J 0, J 0, J 0, J 0, J 0, J 0, J 0, J 0, J 0, J 0, J 0, J 0, J 0, J 0, J 0, J 0, J 0, J 0, J 0, J 0, J 1, J 2, J 3, J 0, J 0, J 0, J 0, J 0, J 0, J 0, J 0, J 0, J 0, J 0, J 0, J 0]) (.agg [J 3, J 6, J 0]) rfl rfl ts_23 h72 rfl rfl rfl rfl ?_)))
 intro H77 h78 k79
 have h80 := keep k79 e13 h74
 have m82 := Mono.set m76 z14 k79
 refine AWP.region rfl ?_
 refine V rfl rfl (B rfl rfl rfl (iadd (by omega)) (A rfl rfl ?_))
 refine AOps.nil ?_
 refine UN.step ?_
 refine AWP.seq ?_
 refine Sr ?_
 refine V rfl rfl (B rfl rfl rfl rfl ?_)
 refine ct_ rfl (decide_eq_true (by decide)) ?_
 refine AWP.skip ?_
 refine AWP.seq ?_
 refine bk_ ?_
 refine AWP.region rfl ?_
 refine V rfl rfl (V rfl rfl (C rfl (AOp.remP rfl rfl rfl (by omega) (by omega) (B rfl rfl rfl (imul (by omega)) (V rfl rfl (C rfl (AOp.quoP rfl rfl rfl (by omega) (B rfl rfl rfl (imul (by omega)) (C rfl (Bl (cells := [J 6, J 6, J 0]) rfl tz_23 pl_23 rfl rfl ?_))))))))))
 refine C rfl (Fa rfl rfl fl_28_0 ?_ (hid := ⟨_, h78⟩))
 refine C rfl (iA_ rfl rfl rfl ar_24 (by omega) (by omega) ⟨_, h78⟩ (C rfl (So (cells' := [J 0, J 0, J 0, J 3, J 0, J 0, J 6, J 0, J 0, J 9, J 0, J 0, J 0, J 3, J 0, J 3, J 3, J 0, J 6, J 3, J 0, J 9, J 3, J 0, J 0, J 6, J 0, J 3, J 6, J 0, J 6, J 6, J 0, J 0, J 0, J 0, J 0, J 0, J 0, J 0, J 0, J 0, J 0, J 0, J 0, J 0, J 0, J 0, J 0, J 1, J 2, J 3, J 0, J 0, J 0, J 0, J 0, J 0, J 0, J 0, J 0, J 0, J 0, J 0, J 0]) (.agg [J 6, J 6, J 0]) rfl rfl ts_23 h78 rfl rfl rfl rfl ?_)))
 intro H83 h84 k85
 have h86 := keep k85 e13 h80
 have m88 := Mono.set m82 z14 k85
 refine AWP.region rfl ?_
 refine V rfl rfl (B rfl rfl rfl (iadd (by omega)) (A rfl rfl ?_))
 refine AOps.nil ?_
 refine UN.step ?_
 refine AWP.seq ?_
 refine Sr ?_
 refine V rfl rfl (B rfl rfl rfl rfl ?_)
 refine ct_ rfl (decide_eq_true (by decide)) ?_
 refine AWP.skip ?_
 refine AWP.seq ?_
 refine bk_ ?_
 refine AWP.region rfl ?_
 refine V rfl rfl (V rfl rfl (C rfl (AOp.remP rfl rfl rfl (by omega) (by omega) (B rfl rfl rfl (imul (by omega)) (V rfl rfl (C rfl (AOp.quoP rfl rfl rfl (by omega) (B rfl rfl rfl (imul (by omega)) (C rfl (Bl (cells := [J 9, J 6, J 0]) rfl tz_23 pl_23 rfl rfl ?_))))))))))
 refine C rfl (Fa rfl rfl fl_28_0 ?_ (hid := ⟨_, h84⟩))
 refine C rfl (iA_ rfl rfl rfl ar_24 (by omega) (by omega) ⟨_, h84⟩ (C rfl (So (cells' := [J 0, J 0, J 0, J 3, J 0, J 0, J 6, J 0, J 0, J 9, J 0, J 0, J 0, J 3, J 0, J 3, J 3, J 0, J 6, J 3, J 0, J 9, J 3, J 0, J 0, J 6, J 0, J 3, J 6, J 0, J 6, J 6, J 0, J 9, J 6, J 0, J 0, J 0, J 0, J 0, J 0, J 0, J 0, J 0, J 0, J 0, J 0, J 0, J 0, J 1, J 2, J 3, J 0, J 0, J 0, J 0, J 0, J 0, J 0, J 0, J 0, J 0, J 0, J 0, J 0]) (.agg [J 9, J 6, J 0]) rfl rfl ts_23 h84 rfl rfl rfl rfl ?_)))
 intro H89 h90 k91
 have h92 := keep k91 e13 h86
 have m94 := Mono.set m88 z14 k91
 refine AWP.region rfl ?_
 refine V rfl rfl (B rfl rfl rfl (iadd (by omega)) (A rfl rfl ?_))
 refine AOps.nil ?_
 refine UN.step ?_
 refine AWP.seq ?_
 refine Sr ?_
 refine V rfl rfl (B rfl rfl rfl rfl ?_)
 refine ct_ rfl (decide_eq_true (by decide)) ?_
 refine AWP.skip ?_
 refine AWP.seq ?_
 refine bk_ ?_
 refine AWP.region rfl ?_
 refine V rfl rfl (V rfl rfl (C rfl (AOp.remP rfl rfl rfl (by omega) (by omega) (B rfl rfl rfl (imul (by omega)) (V rfl rfl (C rfl (AOp.quoP rfl rfl rfl (by omega) (B rfl rfl rfl (imul (by omega)) (C rfl (Bl (cells := [J 0, J 9, J 0]) rfl tz_23 pl_23 rfl rfl ?_))))))))))
 refine C rfl (Fa rfl rfl fl_28_0 ?_ (hid := ⟨_, h90⟩))
 refine C rfl (iA_ rfl rfl rfl ar_24 (by omega) (by omega) ⟨_, h90⟩ (C rfl (So (cells' := [J 0, J 0, J 0, J 3, J 0, J 0, J 6, J 0, J 0, J 9, J 0, J 0, J 0, J 3, J 0, J 3, J 3, J 0, J 6, J 3, J 0, J 9, J 3, J 0, J 0, J 6, J 0, J 3, J 6, J 0, J 6, J 6, J 0, J 9, J 6, J 0, J 0, J 9, J 0, J 0, J 0, J 0, J 0, J 0, J 0, J 0, J 0, J 0, J 0, J 1, J 2, J 3, J 0, J 0, J 0, J 0, J 0, J 0, J 0, J 0, J 0, J 0, J 0, J 0, J 0]) (.agg [J 0, J 9, J 0]) rfl rfl ts_23 h90 rfl rfl rfl rfl ?_)))
 intro H95 h96 k97
 have h98 := keep k97 e13 h92
 have m100 := Mono.set m94 z14 k97
 refine AWP.region rfl ?_
 refine V rfl rfl (B rfl rfl rfl (iadd (by omega)) (A rfl rfl ?_))
 refine AOps.nil ?_
 refine UN.step ?_
 refine AWP.seq ?_
 refine Sr ?_
 refine V rfl rfl (B rfl rfl rfl rfl ?_)
 refine ct_ rfl (decide_eq_true (by decide)) ?_
 refine AWP.skip ?_
 refine AWP.seq ?_
 refine bk_ ?_
 refine AWP.region rfl ?_
 refine V rfl rfl (V rfl rfl (C rfl (AOp.remP rfl rfl rfl (by omega) (by omega) (B rfl rfl rfl (imul (by omega)) (V rfl rfl (C rfl (AOp.quoP rfl rfl rfl (by omega) (B rfl rfl rfl (imul (by omega)) (C rfl (Bl (cells := [J 3, J 9, J 0]) rfl tz_23 pl_23 rfl rfl ?_))))))))))
 refine C rfl (Fa rfl rfl fl_28_0 ?_ (hid := ⟨_, h96⟩))
 refine C rfl (iA_ rfl rfl rfl ar_24 (by omega) (by omega) ⟨_, h96⟩ (C rfl (So (cells' := [J 0, J 0, J 0, J 3, J 0, J 0, J 6, J 0, J 0, J 9, J 0, J 0, J 0, J 3, J 0, J 3, J 3, J 0, J 6, J 3, J 0, J 9, J 3, J 0, J 0, J 6, J 0, J 3, J 6, J 0, J 6, J 6, J 0, J 9, J 6, J 0, J 0, J 9, J 0, J 3, J 9, J 0, J 0, J 0, J 0, J 0, J 0, J 0, J 0, J 1, J 2, J 3, J 0, J 0, J 0, J 0, J 0, J 0, J 0, J 0, J 0, J 0, J 0, J 0, J 0]) (.agg [J 3, J 9, J 0]) rfl rfl ts_23 h96 rfl rfl rfl rfl ?_)))
 intro H101 h102 k103
 have h104 := keep k103 e13 h98
 have m106 := Mono.set m100 z14 k103
 refine AWP.region rfl ?_
 refine V rfl rfl (B rfl rfl rfl (iadd (by omega)) (A rfl rfl ?_))
 refine AOps.nil ?_
 refine UN.step ?_
 refine AWP.seq ?_
 refine Sr ?_
 refine V rfl rfl (B rfl rfl rfl rfl ?_)
 refine ct_ rfl (decide_eq_true (by decide)) ?_
 refine AWP.skip ?_
 refine AWP.seq ?_
 refine bk_ ?_
 refine AWP.region rfl ?_
 refine V rfl rfl (V rfl rfl (C rfl (AOp.remP rfl rfl rfl (by omega) (by omega) (B rfl rfl rfl (imul (by omega)) (V rfl rfl (C rfl (AOp.quoP rfl rfl rfl (by omega) (B rfl rfl rfl (imul (by omega)) (C rfl (Bl (cells := [J 6, J 9, J 0]) rfl tz_23 pl_23 rfl rfl ?_))))))))))
 refine C rfl (Fa rfl rfl fl_28_0 ?_ (hid := ⟨_, h102⟩))
 refine C rfl (iA_ rfl rfl rfl ar_24 (by omega) (by omega) ⟨_, h102⟩ (C rfl (So (cells' := [J 0, J 0, J 0, J 3, J 0, J 0, J 6, J 0, J 0, J 9, J 0, J 0, J 0, J 3, J 0, J 3, J 3, J 0, J 6, J 3, J 0, J 9, J 3, J 0, J 0, J 6, J 0, J 3, J 6, J 0, J 6, J 6, J 0, J 9, J 6, J 0, J 0, J 9, J 0, J 3, J 9, J 0, J 6, J 9, J 0, J 0, J 0, J 0, J 0, J 1, J 2, J 3, J 0, J 0, J 0, J 0, J 0, J 0, J 0, J 0, J 0, J 0, J 0, J 0, J 0]) (.agg [J 6, J 9, J 0]) rfl rfl ts_23 h102 rfl rfl rfl rfl ?_)))
 intro H107 h108 k109
 have h110 := keep k109 e13 h104
 have m112 := Mono.set m106 z14 k109
 refine AWP.region rfl ?_
 refine V rfl rfl (B rfl rfl rfl (iadd (by omega)) (A rfl rfl ?_))
 refine AOps.nil ?_
 refine UN.step ?_
 refine AWP.seq ?_
 refine Sr ?_
 refine V rfl rfl (B rfl rfl rfl rfl ?_)
 refine ct_ rfl (decide_eq_true (by decide)) ?_
 refine AWP.skip ?_
 refine AWP.seq ?_
 refine bk_ ?_
 refine AWP.region rfl ?_
 refine V rfl rfl (V rfl rfl (C rfl (AOp.remP rfl rfl rfl (by omega) (by omega) (B rfl rfl rfl (imul (by omega)) (V rfl rfl (C rfl (AOp.quoP rfl rfl rfl (by omega) (B rfl rfl rfl (imul (by omega)) (C rfl (Bl (cells := [J 9, J 9, J 0]) rfl tz_23 pl_23 rfl rfl ?_))))))))))
 refine C rfl (Fa rfl rfl fl_28_0 ?_ (hid := ⟨_, h108⟩))
 refine C rfl (iA_ rfl rfl rfl ar_24 (by omega) (by omega) ⟨_, h108⟩ (C rfl (So (cells' := [J 0, J 0, J 0, J 3, J 0, J 0, J 6, J 0, J 0, J 9, J 0, J 0, J 0, J 3, J 0, J 3, J 3, J 0, J 6, J 3, J 0, J 9, J 3, J 0, J 0, J 6, J 0, J 3, J 6, J 0, J 6, J 6, J 0, J 9, J 6, J 0, J 0, J 9, J 0, J 3, J 9, J 0, J 6, J 9, J 0, J 9, J 9, J 0, J 0, J 1, J 2, J 3, J 0, J 0, J 0, J 0, J 0, J 0, J 0, J 0, J 0, J 0, J 0, J 0, J 0]) (.agg [J 9, J 9, J 0]) rfl rfl ts_23 h108 rfl rfl rfl rfl ?_)))
 intro H113 h114 k115
 have h116 := keep k115 e13 h110
 have m118 := Mono.set m112 z14 k115
 refine AWP.region rfl ?_
 refine V rfl rfl (B rfl rfl rfl (iadd (by omega)) (A rfl rfl ?_))
 refine AOps.nil ?_
 refine UN.step ?_
 refine AWP.seq ?_
 refine Sr ?_
 refine V rfl rfl (B rfl rfl rfl rfl ?_)
 refine cf_ rfl (decide_eq_false (by decide)) ?_
 refine AWP.exit ?_
 change AWP _ _ _ _ _ _
 refine Sr ?_
 refine C rfl (Ld _ rfl rfl ty_28 h114 rfl (C rfl (Sw rfl rfl ts_28 h116 rfl rfl rfl ?_)))
 intro H119 h120 k121
 have m124 := Mono.set m118 z6 k121
 refine rt_ ?_
 refine Rr (Res.list1 rfl (.cell (v := .agg [J 0, J 0, J 0, J 3, J 0, J 0, J 6, J 0, J 0, J 9, J 0, J 0, J 0, J 3, J 0, J 3, J 3, J 0, J 6, J 3, J 0, J 9, J 3, J 0, J 0, J 6, J 0, J 3, J 6, J 0, J 6, J 6, J 0, J 9, J 6, J 0, J 0, J 9, J 0, J 3, J 9, J 0, J 6, J 9, J 0, J 9, J 9, J 0, J 0, J 1, J 2, J 3, J 0, J 0, J 0, J 0, J 0, J 0, J 0, J 0, J 0, J 0, J 0, J 0, J 0]) rfl ty_28 h120 rfl (.nil))) ?_ m124
 have hR : R_law15_flat = (PatchT.mk ([(VT.mk 0 0 0), (VT.mk 3 0 0), (VT.mk 6 0 0), (VT.mk 9 0 0), (VT.mk 0 3 0), (VT.mk 3 3 0), (VT.mk 6 3 0), (VT.mk 9 3 0), (VT.mk 0 6 0), (VT.mk 3 6 0), (VT.mk 6 6 0), (VT.mk 9 6 0), (VT.mk 0 9 0), (VT.mk 3 9 0), (VT.mk 6 9 0), (VT.mk 9 9 0)]) ([0, 1, 2, 3]) ([(VT.mk 0 0 0), (VT.mk 0 0 0), (VT.mk 0 0 0), (VT.mk 0 0 0)]) 0) := rfl
 exact (congrArg (fun r : PatchT => (.agg (r.aP.flatMap eV ++ (r.aCorners.map eI ++ (r.aNormals.flatMap eV ++ [J r.Skin]))) : AV)) hR).symm
theorem c_long (texs : List TexT) (htl : texs.length ≤ 1048576) (htx : ∀ t ∈ texs, t.Rows.length ≤ 1048576) : PC Tryd.prog 10 [.sl texs.length (texs.flatMap eTex)] (.bool (longS texs)) := by
 intro H0
 refine ACalls.of_body' (n := 28) rfl rfl rfl rfl ?_
 have m0 := Mono.refl H0
 refine Sr ?_
 refine A rfl rfl ?_
 refine Sr ?_
 refine A rfl rfl ?_
 refine AWP.seq ?_
 refine Sr ?_
 refine A rfl rfl ?_
 refine bk_ ?_
 refine AWP.loop (fun q1 fq Hq => ∃ (i : Int), q1 = (((texs.length : Int) : Int) - i).toNat ∧ fq 4 = J i ∧ fq 3 = J (sumR texs i.toNat) ∧ fq 0 = .sl texs.length (texs.flatMap eTex) ∧ Mono H0 Hq ∧ (0 ≤ i) ∧ (i ≤ (texs.length : Int)) ∧ (i ≤ 20) ∧ (0 ≤ sumR texs i.toNat ∧ sumR texs i.toNat ≤ 3000) ∧ (∀ j : Int, 0 ≤ j → j < i → sumR texs (j + 1).toNat ≤ 3000)) (k := (((texs.length : Int) : Int) - 0).toNat) ?_ ?_
 exact ⟨0, rfl, rfl, (congrArg (AV.int .i64) (show (0 : Int) = sumR texs (0 : Int).toNat from by rfl)), rfl, m0, by omega, by omega, by omega, by exact ⟨by simp [sumR], by simp [sumR]⟩, by intro j; omega⟩
 rintro _ f3 H2 ⟨i, rfl, s4, s5, s6, m7, hi0, hi1, hi2, hs, pre⟩
 refine AWP.seq ?_
 refine Sr ?_
 refine V rfl s4 (V rfl s6 (C rfl (AOp.len (m := texs.length) rfl rfl (.inr (.inl ⟨_, rfl⟩)) u_31 (B rfl rfl rfl rfl (V rfl rfl ?_)))))
 by_cases b8 : i < (texs.length : Int)
 refine Y rfl rfl rfl (decide_eq_true b8) (Mv _ rfl s4 (Y rfl rfl rfl (decide_eq_true b8) (Bi _ rfl rfl rfl rfl (C rfl (Pt _ rfl rfl (decide_eq_true b8) rfl ?_)))))
 refine AOps.nil ?_
 change AWP _ _ _ _ _ _
 by_cases b9 : i < 20
 refine ct_ rfl (decide_eq_true b9) ?_
 refine AWP.skip ?_
 refine AWP.seq ?_
 refine bk_ ?_
 refine AWP.seq ?_
 have htr := htx _ (at_mem (i := i) (l := texs) (by omega) (by omega))
 have hpr := sumR_step (texs := texs) hi0 (by omega)
 refine AWP.region rfl ?_
 refine V rfl s5 (V rfl s6 (V rfl s4 (C rfl (iS_ rfl rfl rfl sl_31 (by omega) (by omega) (F rfl rfl fl_65_3 (L rfl rfl ty_63 (ldF eTex_len (by omega) (by omega) rfl (by decide)) (C rfl (AOp.len (m := ((at_ texs i).Rows).length) rfl rfl (.inr (.inl ⟨_, rfl⟩)) u_63 (B rfl rfl rfl (iadd (by omega)) (A rfl rfl ?_))))))))))
 refine Sr ?_
 refine V rfl rfl (B rfl rfl rfl rfl ?_)
 refine AOps.nil ?_
 change AWP _ _ _ _ _ _
 by_cases b10 : sumR texs i.toNat + ((((at_ texs i).Rows).length) : Int) > 3000
 refine ct_ rfl (decide_eq_true b10) ?_
 refine Sr ?_
 refine A rfl rfl ?_
 refine rt_ ?_
 refine Rr (Res.one rfl rfl) ?_ m7
 exact (congrArg AV.bool (show (true : Bool) = longS texs from by first | exact long_hit hi0 (by omega) (by omega) (by omega) | exact long_end pre (by omega)))
 refine cf_ rfl (decide_eq_false b10) ?_
 refine AWP.skip ?_
 refine AWP.region rfl ?_
 refine V rfl s4 (B rfl rfl rfl (iadd (by omega)) (A rfl rfl ?_))
 refine AOps.nil ?_
 exact ⟨_, by omega, i + 1, rfl, rfl, (congrArg (AV.int .i64) (show (sumR texs i.toNat + ((((at_ texs i).Rows).length) : Int) : Int) = sumR texs (i + 1).toNat from by exact hpr)), s6, m7, by omega, by omega, by omega, by omega, by exact fa_step pre (by omega)⟩
 refine cf_ rfl (decide_eq_false b9) ?_
 refine AWP.exit ?_
 change AWP _ _ _ _ _ _
 refine Sr ?_
 refine V rfl s6 (C rfl (AOp.len (m := texs.length) rfl rfl (.inr (.inl ⟨_, rfl⟩)) u_31 (B rfl rfl rfl rfl (A rfl rfl ?_))))
 refine rt_ ?_
 refine Rr (Res.one rfl rfl) ?_ m7
 exact (congrArg AV.bool (show (decide ((texs.length : Int) > 20) : Bool) = longS texs from by first | exact long_hit hi0 (by omega) (by omega) (by omega) | exact long_end pre (by omega)))
 refine N rfl rfl (decide_eq_false b8) (N rfl rfl (decide_eq_false b8) (C rfl (Pf _ rfl rfl (decide_eq_false b8) rfl ?_)))
 refine cf_ rfl rfl ?_
 refine AWP.exit ?_
 change AWP _ _ _ _ _ _
 refine Sr ?_
 refine V rfl s6 (C rfl (AOp.len (m := texs.length) rfl rfl (.inr (.inl ⟨_, rfl⟩)) u_31 (B rfl rfl rfl rfl (A rfl rfl ?_))))
 refine rt_ ?_
 refine Rr (Res.one rfl rfl) ?_ m7
 exact (congrArg AV.bool (show (decide ((texs.length : Int) > 20) : Bool) = longS texs from by first | exact long_hit hi0 (by omega) (by omega) (by omega) | exact long_end pre (by omega)))
end Go.Proofs.M
namespace Go.Proofs.M
open Go Go.AH
abbrev inB (b : BoxT) (v : VT) : Prop := b.Lo.X ≤ v.X ∧ v.X ≤ b.Hi.X ∧ b.Lo.Y ≤ v.Y ∧ v.Y ≤ b.Hi.Y ∧ b.Lo.Z ≤ v.Z ∧ v.Z ≤ b.Hi.Z
theorem fine_pts {p : PatchT} {s : SkinT} (h : R_mesh_fine p s = 0) : 1 ≤ s.Unit ∧ 0 ≤ s.Height ∧ s.Height ≤ 255 ∧ (∀ i : Int, 0 ≤ i → i < 16 → inV 60000 (at_ p.aP i)) ∧ (∀ i : Int, 0 ≤ i → i < 4 → inV 1023 (at_ p.aNormals i)) := by
  obtain ⟨h1, h2, h3, h4, h5⟩ := fine_ok h
  have a := p.lP
  have b := p.lNormals
  exact ⟨h1, h2, h3, fun i i0 i1 => allIn_T.1 h4 i i0 (by omega), fun i i0 i1 => allIn_T.1 h5 i i0 (by omega)⟩
theorem row_all {p : List VT} {Q : VT → Prop} (hp : ∀ i : Int, 0 ≤ i → i < 16 → Q (at_ p i)) {k : Int} (h0 : 0 ≤ k) (h4 : k < 4) : ∀ j : Int, 0 ≤ j → j < 4 → Q (at_ (R_curve_Row p k) j) := by
  rcases (by omega : k = 0 ∨ k = 1 ∨ k = 2 ∨ k = 3) with rfl | rfl | rfl | rfl
  · exact int4 (hp 0 (by omega) (by omega)) (hp 1 (by omega) (by omega)) (hp 2 (by omega) (by omega)) (hp 3 (by omega) (by omega))
  · exact int4 (hp 3 (by omega) (by omega)) (hp 7 (by omega) (by omega)) (hp 11 (by omega) (by omega)) (hp 15 (by omega) (by omega))
  · exact int4 (hp 15 (by omega) (by omega)) (hp 14 (by omega) (by omega)) (hp 13 (by omega) (by omega)) (hp 12 (by omega) (by omega))
  · exact int4 (hp 12 (by omega) (by omega)) (hp 8 (by omega) (by omega)) (hp 4 (by omega) (by omega)) (hp 0 (by omega) (by omega))
theorem len_ok {l : List VT} (hl : ∀ j : Int, 0 ≤ j → j < 4 → inV 65536 (at_ l j)) : (R_rate_Length l).2 = true := by
  unfold R_rate_Length
  rw [if_pos (withinvec_iff.2 (hl 0 (by omega) (by omega))), if_pos (withinvec_iff.2 (hl 1 (by omega) (by omega))), if_pos (withinvec_iff.2 (hl 2 (by omega) (by omega))), if_pos (withinvec_iff.2 (hl 3 (by omega) (by omega)))]
theorem edge_ok {l : List VT} {u : Int} (hl : ∀ j : Int, 0 ≤ j → j < 4 → inV 65536 (at_ l j)) (hu : 1 ≤ u) : R_rate_Edge l u = min (1 + (R_rate_Length l).1 / u) 16 ∧ 1 ≤ R_rate_Edge l u ∧ R_rate_Edge l u ≤ 16 := by
  have h := len_rng_rate l
  have hq := ediv_rng (n := (R_rate_Length l).1) (d := u) h.1 hu
  have e : R_rate_Edge l u = min (1 + (R_rate_Length l).1 / u) 16 := by
    unfold R_rate_Edge; rw [if_pos (len_ok hl), if_neg (by omega)]
  refine ⟨e, ?_, ?_⟩ <;> rw [e] <;> omega
theorem sides_rates {p : List VT} {u : Int} (hp : ∀ i : Int, 0 ≤ i → i < 16 → inV 60000 (at_ p i)) (hu : 1 ≤ u) : rates (R_rate_Sides p u) := by
  have h : ∀ k : Int, 0 ≤ k → k < 4 → 1 ≤ R_rate_Edge (R_curve_Row p k) u ∧ R_rate_Edge (R_curve_Row p k) u ≤ 16 := fun k h0 h4 =>
    (edge_ok (row_all (Q := inV 65536) (fun i i0 i1 => inV_le (hp i i0 i1) (by decide)) h0 h4) hu).2
  exact int4 (h 0 (by omega) (by omega)) (h 1 (by omega) (by omega)) (h 2 (by omega) (by omega)) (h 3 (by omega) (by omega))
theorem rnd_btw {n d lo hi : Int} (hd : 1 ≤ d) (h1 : lo * d ≤ n) (h2 : n ≤ hi * d) : lo ≤ rnd n d ∧ rnd n d ≤ hi := by
  have g := (rnd_iff (n := n) (q := rnd n d) hd).1 rfl
  have e1 : 2 * d * (rnd n d - hi) < 2 * d * 1 := by
    rw [Int.mul_sub]; have : 2 * d * hi = 2 * (hi * d) := by rw [Int.mul_assoc, Int.mul_comm d hi]
    omega
  have e2 : 2 * d * (-1) < 2 * d * (rnd n d - lo) := by
    rw [Int.mul_sub]; have : 2 * d * lo = 2 * (lo * d) := by rw [Int.mul_assoc, Int.mul_comm d lo]
    omega
  have := Int.lt_of_mul_lt_mul_left e1 (by omega)
  have := Int.lt_of_mul_lt_mul_left e2 (by omega)
  omega
theorem sumV_box {l : List VT} {wt : Int → Int} {b : BoxT} {n : Nat} (hl : ∀ k : Nat, k < n → inB b (at_ l (k : Int))) (hw : ∀ k : Nat, k < n → 0 ≤ wt (k : Int)) :
    b.Lo.X * sumW wt n ≤ (sumV l wt n).X ∧ (sumV l wt n).X ≤ b.Hi.X * sumW wt n ∧ b.Lo.Y * sumW wt n ≤ (sumV l wt n).Y ∧ (sumV l wt n).Y ≤ b.Hi.Y * sumW wt n ∧ b.Lo.Z * sumW wt n ≤ (sumV l wt n).Z ∧ (sumV l wt n).Z ≤ b.Hi.Z * sumW wt n := by
  induction n with
  | zero => simp [sumW, sumV]
  | succ n ih =>
    obtain ⟨a1, a2, a3, a4, a5, a6⟩ := ih (fun k hk => hl k (by omega)) (fun k hk => hw k (by omega))
    obtain ⟨c1, c2, c3, c4, c5, c6⟩ := hl n (by omega)
    have w := hw n (by omega)
    have d1 := Int.mul_le_mul_of_nonneg_right c1 w
    have d2 := Int.mul_le_mul_of_nonneg_right c2 w
    have d3 := Int.mul_le_mul_of_nonneg_right c3 w
    have d4 := Int.mul_le_mul_of_nonneg_right c4 w
    have d5 := Int.mul_le_mul_of_nonneg_right c5 w
    have d6 := Int.mul_le_mul_of_nonneg_right c6 w
    simp only [sumW, sumV, R_vec_Add, R_vec_Scale, Int.mul_add]
    exact ⟨by omega, by omega, by omega, by omega, by omega, by omega⟩
abbrev rndV (v : VT) (d : Int) : VT := VT.mk (rnd v.X d) (rnd v.Y d) (rnd v.Z d)
theorem round_V {v : VT} {d : Int} (h : inV 2305843009213693952 v) (h1 : 1 ≤ d) (hd : d ≤ 2305843009213693952) : VT.mk (R_vec_Round v.X d) (R_vec_Round v.Y d) (R_vec_Round v.Z d) = rndV v d := by
  obtain ⟨a1, a2, a3, a4, a5, a6⟩ := h
  rw [vround_eq ⟨a1, a2⟩ h1 hd, vround_eq ⟨a3, a4⟩ h1 hd, vround_eq ⟨a5, a6⟩ h1 hd]
theorem cube_rng {n : Int} (h1 : 1 ≤ n) (h2 : n ≤ 16) : 1 ≤ n * n * n ∧ n * n * n ≤ 4096 := by
  have a := Int.mul_le_mul h2 h2 (by omega) (by omega)
  have b := Int.mul_le_mul a h2 (by omega) (by omega)
  have c := Int.mul_le_mul h1 h1 (by omega) (by omega)
  have d := Int.mul_le_mul c h1 (by omega) (by omega)
  omega
theorem cubic_eq {p : List VT} (hp : p.length = 4) {i n : Int} (h : 1 ≤ n ∧ n ≤ 16 ∧ 0 ≤ i ∧ i ≤ n) (ha : ∀ j : Int, 0 ≤ j → j < 4 → inV 65536 (at_ p j)) :
    (R_curve_Cubic p i n).1 = rndV (sumV p (fun k => at_ (R_ref11_Weights i n) k) 4) (n * n * n) := by
  have hA : allIn p 65536 = true := allIn_T.2 fun j h0 h1 => ha j h0 (by omega)
  have hw := wts_rng h.2.2.1 h.2.2.2 h.2.1
  have hs := sumV_rng (l := p) (wt := fun k => at_ (R_ref11_Weights i n) k) (B := 12288) (n := 4) (fun k hk => ha k (by omega) (by omega)) (fun k hk => hw k (by omega) (by omega))
  have hc := cube_rng h.1 h.2.1
  unfold R_curve_Cubic
  rw [weights_ok h, if_pos rfl]
  unfold weighR
  rw [if_pos hA, hp, sumW4]
  exact round_V (inV_le hs (by decide)) hc.1 (by omega)
theorem point_eq {p : List VT} (hp : p.length = 16) {i n j m : Int} (h : 1 ≤ n ∧ n ≤ 16 ∧ 0 ≤ i ∧ i ≤ n) (g : 1 ≤ m ∧ m ≤ 16 ∧ 0 ≤ j ∧ j ≤ m) (ha : ∀ j : Int, 0 ≤ j → j < 16 → inV 65536 (at_ p j)) :
    (R_curve_Point p i n j m).1 = rndV (sumV p (fun k => at_ (R_ref11_Weights i n) (k % 4) * at_ (R_ref11_Weights j m) (k / 4)) 16) (n * n * n * m * m * m) ∧ 1 ≤ n * n * n * m * m * m := by
  have hA : allIn p 65536 = true := allIn_T.2 fun j h0 h1 => ha j h0 (by omega)
  have hw := wts_rng h.2.2.1 h.2.2.2 h.2.1
  have hw2 := wts_rng g.2.2.1 g.2.2.2 g.2.1
  have hs := sumV_rng (l := p) (wt := fun k => at_ (R_ref11_Weights i n) (k % 4) * at_ (R_ref11_Weights j m) (k / 4)) (B := 12288 * 12288) (n := 16) (fun k hk => ha k (by omega) (by omega)) (fun k hk => by
          have a := hw ((k : Int) % 4) (by omega) (by omega)
          have b := hw2 ((k : Int) / 4) (by omega) (by omega)
          exact ⟨Int.mul_nonneg a.1 b.1, Int.mul_le_mul a.2 b.2 b.1 (by omega)⟩)
  have hc := cube_rng h.1 h.2.1
  have hd := cube_rng g.1 g.2.1
  have e : n * n * n * m * m * m = n * n * n * (m * m * m) := by grind
  have u := Int.mul_le_mul hc.2 hd.2 (by omega) (by omega)
  have v := Int.mul_le_mul hc.1 hd.1 (by omega) (by omega)
  refine ⟨?_, by rw [e]; omega⟩
  unfold R_curve_Point
  rw [weights_ok h, weights_ok g, if_pos rfl, if_pos rfl]
  unfold weighR
  rw [if_pos hA, hp, sumW16]
  exact round_V (inV_le hs (by decide)) (by rw [e]; omega) (by rw [e]; omega)
theorem cubic_box {p : List VT} (hp : p.length = 4) {i n : Int} {b : BoxT} (h : 1 ≤ n ∧ n ≤ 16 ∧ 0 ≤ i ∧ i ≤ n) (ha : ∀ j : Int, 0 ≤ j → j < 4 → inV 65536 (at_ p j)) (hb : ∀ j : Int, 0 ≤ j → j < 4 → inB b (at_ p j)) : inB b (R_curve_Cubic p i n).1 := by
  have hw := wts_rng h.2.2.1 h.2.2.2 h.2.1
  rw [cubic_eq hp h ha]
  obtain ⟨a1, a2, a3, a4, a5, a6⟩ := sumV_box (l := p) (wt := fun k => at_ (R_ref11_Weights i n) k) (b := b) (n := 4) (fun k hk => hb k (by omega) (by omega)) (fun k hk => (hw k (by omega) (by omega)).1)
  rw [sumW4] at a1 a2 a3 a4 a5 a6
  have hc := cube_rng h.1 h.2.1
  have x := rnd_btw hc.1 a1 a2
  have y := rnd_btw hc.1 a3 a4
  have z := rnd_btw hc.1 a5 a6
  exact ⟨x.1, x.2, y.1, y.2, z.1, z.2⟩
theorem point_box {p : List VT} (hp : p.length = 16) {i n j m : Int} {b : BoxT} (h : 1 ≤ n ∧ n ≤ 16 ∧ 0 ≤ i ∧ i ≤ n) (g : 1 ≤ m ∧ m ≤ 16 ∧ 0 ≤ j ∧ j ≤ m) (ha : ∀ j : Int, 0 ≤ j → j < 16 → inV 65536 (at_ p j)) (hb : ∀ j : Int, 0 ≤ j → j < 16 → inB b (at_ p j)) : inB b (R_curve_Point p i n j m).1 := by
  have hw := wts_rng h.2.2.1 h.2.2.2 h.2.1
  have hw2 := wts_rng g.2.2.1 g.2.2.2 g.2.1
  obtain ⟨e, hc⟩ := point_eq hp h g ha
  rw [e]
  obtain ⟨a1, a2, a3, a4, a5, a6⟩ := sumV_box (l := p) (wt := fun k => at_ (R_ref11_Weights i n) (k % 4) * at_ (R_ref11_Weights j m) (k / 4)) (b := b) (n := 16) (fun k hk => hb k (by omega) (by omega)) (fun k hk => Int.mul_nonneg (hw ((k : Int) % 4) (by omega) (by omega)).1 (hw2 ((k : Int) / 4) (by omega) (by omega)).1)
  rw [sumW16] at a1 a2 a3 a4 a5 a6
  have x := rnd_btw hc a1 a2
  have y := rnd_btw hc a3 a4
  have z := rnd_btw hc a5 a6
  exact ⟨x.1, x.2, y.1, y.2, z.1, z.2⟩
theorem Row_len4 (p : List VT) (k : Int) : (R_curve_Row p k).length = 4 := R_curve_Row_len _ _
theorem vtx_box {p : PatchT} {cage id : Int} {s : SkinT} {b : BoxT} (hf : R_mesh_fine p s = 0) {x : SpotT} (hx : x ∈ spotsL (R_rate_Sides p.aP s.Unit) (maxL (R_rate_Sides p.aP s.Unit))) (hb : ∀ j : Int, 0 ≤ j → j < 16 → inB b (at_ p.aP j)) : inB b (vtxD p cage id s x).atF := by
  obtain ⟨h1, h2, h3, h4, h5⟩ := fine_pts hf
  have hr := sides_rates h4 h1
  obtain ⟨m1, m2, _⟩ := weave_T (R_rate_Sides_len p.aP s.Unit) hr
  have h6 : ∀ i : Int, 0 ≤ i → i < 16 → inV 65536 (at_ p.aP i) := fun i i0 i1 => inV_le (h4 i i0 i1) (by decide)
  unfold vtxD R_mesh_vertex
  rcases mem_spots.1 hx with ⟨k1, k2, k3, k4⟩ | ⟨k1, k2, k3, k4, k5⟩ | ⟨k1, k2, k3, k4, k5⟩
  · rw [if_pos k1]
    have hg := crn_rng k2 k3
    exact hb _ hg.1 hg.2
  · rw [if_neg (by omega), if_pos k1]
    have hk := hr x.A k2 k3
    have := cubic_box (b := b) (Row_len4 p.aP x.A) (i := x.B) (n := at_ (R_rate_Sides p.aP s.Unit) x.A) ⟨hk.1, hk.2, by omega, by omega⟩ (row_all (Q := inV 65536) h6 k2 k3) (row_all (Q := inB b) hb k2 k3)
    unfold R_mesh_side
    split <;> exact this
  · rw [if_neg (by omega), if_neg (by omega)]
    exact point_box p.lP ⟨m2, m1, by omega, by omega⟩ ⟨m2, m1, by omega, by omega⟩ h6 hb
theorem vtx_in {p : PatchT} {cage id : Int} {s : SkinT} (hf : R_mesh_fine p s = 0) {x : SpotT} (hx : x ∈ spotsL (R_rate_Sides p.aP s.Unit) (maxL (R_rate_Sides p.aP s.Unit))) : inV 60000 (vtxD p cage id s x).atF :=
  vtx_box (b := ⟨⟨-60000, -60000, -60000⟩, ⟨60000, 60000, 60000⟩⟩) hf hx fun j h0 h1 => (fine_pts hf).2.2.2.1 j h0 h1
theorem vtx_up {p : PatchT} {cage id : Int} {s : SkinT} (hf : R_mesh_fine p s = 0) {x : SpotT} (hx : x ∈ spotsL (R_rate_Sides p.aP s.Unit) (maxL (R_rate_Sides p.aP s.Unit))) : inV 1023 (vtxD p cage id s x).up := by
  obtain ⟨h1, h2, h3, h4, h5⟩ := fine_pts hf
  unfold vtxD R_mesh_vertex
  rcases mem_spots.1 hx with ⟨k1, k2, k3, k4⟩ | ⟨k1, k2, k3, k4, k5⟩ | ⟨k1, k2, k3, k4, k5⟩
  · rw [if_pos k1]; exact h5 _ k2 k3
  · rw [if_neg (by omega), if_pos k1]
    unfold R_mesh_side
    split <;> exact inV_relief_Blend _ _ _ _
  · rw [if_neg (by omega), if_neg (by omega)]
    exact inV_relief_Mix _ _ _ _ _
theorem lift_near {v n : VT} {t h : Int} (hv : inV 60000 v) (hn : inV 1023 n) (ht : 0 ≤ t ∧ t ≤ 255) (hh : 0 ≤ h ∧ h ≤ 255) : ∃ d, (R_relief_Lift v n t h).1 = R_vec_Add v d ∧ inV h d := by
  unfold R_relief_Lift
  rw [if_pos (withinvec_iff.2 (inV_le hv (by decide))), if_pos (withinvec_iff.2 hn), if_neg (by omega), if_neg (by omega)]
  refine ⟨_, rfl, ?_⟩
  have hm := mul_nn (x := t) (k := h) ht hh
  have hk : 0 ≤ R_vec_Round (t * h) 255 ∧ R_vec_Round (t * h) 255 ≤ h := by
    rw [vround_eq (by omega) (by omega) (by omega)]
    have := Int.mul_le_mul_of_nonneg_right ht.2 hh.1
    exact rnd_btw (by omega) (by omega) (by rw [Int.mul_comm h 255]; exact this)
  obtain ⟨n1, n2, n3, n4, n5, n6⟩ := hn
  have one : ∀ c : Int, -1023 ≤ c → c ≤ 1023 → -h ≤ R_vec_Round (c * R_vec_Round (t * h) 255) 1024 ∧ R_vec_Round (c * R_vec_Round (t * h) 255) 1024 ≤ h := fun c c1 c2 => by
    have g := mul_rng (x := c) (k := R_vec_Round (t * h) 255) (A := 1023) (C := h) ⟨c1, c2⟩ (by omega)
    rw [vround_eq (by omega) (by omega) (by omega)]
    exact rnd_btw (by omega) (by omega) (by omega)
  have x := one n.X n1 n2
  have y := one n.Y n3 n4
  have z := one n.Z n5 n6
  exact ⟨x.1, x.2, y.1, y.2, z.1, z.2⟩
theorem texel_rng {t : TexT} {p : VT} (h : (R_relief_Texel t p).2 = true) : 0 ≤ (R_relief_Texel t p).1 ∧ (R_relief_Texel t p).1 ≤ 255 := by
  unfold R_relief_Texel at h ⊢
  split at h
  · rename_i hr
    split at h
    · rename_i hp
      rw [if_pos hr, if_pos hp]
      obtain ⟨a1, a2, a3, a4, a5, a6⟩ := right_iff.1 hr
      have s1 := step_rng (n := p.Y + p.Z) (m := t.H) a3
      have s2 := step_rng (n := p.X) (m := t.W) a1
      have := idx_lt s1 s2
      exact a6 _ this.1 (by omega)
    · cases h
  · cases h
theorem fD_near {p : PatchT} {cage id : Int} {s : SkinT} {texs : List TexT} (hf : R_mesh_fine p s = 0) {x : SpotT} (hx : x ∈ spotsL (R_rate_Sides p.aP s.Unit) (maxL (R_rate_Sides p.aP s.Unit))) (ho : (plT s texs (vtxD p cage id s x)).isSome = true) :
    ∃ d, fD p cage id s texs x = R_vec_Add (vtxD p cage id s x).atF d ∧ inV s.Height d := by
  obtain ⟨h1, h2, h3, h4, h5⟩ := fine_pts hf
  unfold fD
  unfold plT at ho ⊢
  split at ho
  · rename_i hc
    rw [if_pos hc]
    split at ho
    · rename_i ht
      rw [if_pos ht]
      have := texel_rng ht
      exact lift_near (vtx_in hf hx) (vtx_up hf hx) this ⟨h2, h3⟩
    · cases ho
  · rename_i hc
    rw [if_neg hc]
    refine ⟨⟨0, 0, 0⟩, ?_, inV_zero h2⟩
    simp [R_vec_Add]
theorem err_fine {p : PatchT} {s : SkinT} {texs : List TexT} (h : errD p s texs = 0) : R_mesh_fine p s = 0 := by
  unfold errD at h
  split at h
  · omega
  · exact h
theorem dice_2 {p : PatchT} {cage id : Int} {s : SkinT} {texs : List TexT} (h : (diceR p cage id s texs).2 = 0) : errD p s texs = 0 ∧ ∀ x ∈ (weaveR (R_rate_Sides p.aP s.Unit)).1, (plT s texs (vtxD p cage id s x)).isSome = true := by
  unfold diceR at h
  split at h
  · rename_i he; simp only at h; exact absurd h he
  · rename_i he
    have he : errD p s texs = 0 := by omega
    refine ⟨he, ?_⟩
    split at h
    · rename_i ha; exact List.all_eq_true.1 ha
    · simp at h
theorem dice_all {p : PatchT} {cage id : Int} {s : SkinT} {texs : List TexT} (h : errD p s texs = 0) (ha : ∀ x ∈ (weaveR (R_rate_Sides p.aP s.Unit)).1, (plT s texs (vtxD p cage id s x)).isSome = true) :
    diceR p cage id s texs = (⟨(spotsL (R_rate_Sides p.aP s.Unit) (maxL (R_rate_Sides p.aP s.Unit))).map (fD p cage id s texs), (spotsL (R_rate_Sides p.aP s.Unit) (maxL (R_rate_Sides p.aP s.Unit))).map (kD p cage id s), trisL (numL (spotsL (R_rate_Sides p.aP s.Unit) (maxL (R_rate_Sides p.aP s.Unit)))) (R_rate_Sides p.aP s.Unit) (maxL (R_rate_Sides p.aP s.Unit))⟩, 0) := by
  obtain ⟨h1, h2, h3, h4, h5⟩ := fine_pts (err_fine h)
  obtain ⟨m1, m2, e⟩ := weave_T (R_rate_Sides_len p.aP s.Unit) (sides_rates h4 h1)
  unfold diceR
  rw [if_neg (by omega), if_pos (List.all_eq_true.2 ha), e]
theorem dice_ok0 {p : PatchT} {cage id : Int} {s : SkinT} {texs : List TexT} (h : (diceR p cage id s texs).2 = 0) :
    R_mesh_fine p s = 0 ∧ rates (R_rate_Sides p.aP s.Unit) ∧ maxL (R_rate_Sides p.aP s.Unit) ≤ 16 ∧ 1 ≤ maxL (R_rate_Sides p.aP s.Unit) ∧ (∀ x ∈ spotsL (R_rate_Sides p.aP s.Unit) (maxL (R_rate_Sides p.aP s.Unit)), (plT s texs (vtxD p cage id s x)).isSome = true) ∧
    diceR p cage id s texs = (⟨(spotsL (R_rate_Sides p.aP s.Unit) (maxL (R_rate_Sides p.aP s.Unit))).map (fD p cage id s texs), (spotsL (R_rate_Sides p.aP s.Unit) (maxL (R_rate_Sides p.aP s.Unit))).map (kD p cage id s), trisL (numL (spotsL (R_rate_Sides p.aP s.Unit) (maxL (R_rate_Sides p.aP s.Unit)))) (R_rate_Sides p.aP s.Unit) (maxL (R_rate_Sides p.aP s.Unit))⟩, 0) := by
  obtain ⟨he, ha⟩ := dice_2 h
  have hf := err_fine he
  obtain ⟨h1, h2, h3, h4, h5⟩ := fine_pts hf
  obtain ⟨m1, m2, e⟩ := weave_T (R_rate_Sides_len p.aP s.Unit) (sides_rates h4 h1)
  refine ⟨hf, sides_rates h4 h1, m1, m2, fun x hx => ha x (by rw [e]; exact hx), dice_all he ha⟩
theorem tris_len {N : SpotT → Int} {rs : List Int} {m : Int} (hr : rates rs) (hm : m ≤ 16) : (trisL N rs m).length ≤ 1000 := by
  unfold trisL
  split
  · decide
  · have := midO_len (N := N) hm (b := m - 1) (by omega)
    have := strO_len (N := N) hr hm (k := 4) (by omega)
    rw [List.length_append]; omega
theorem dice_len (p : PatchT) (cage id : Int) (s : SkinT) (texs : List TexT) : (diceR p cage id s texs).1.Verts.length ≤ 400 ∧ (diceR p cage id s texs).1.Keys.length ≤ 400 ∧ (diceR p cage id s texs).1.Tris.length ≤ 1000 := by
  by_cases h : (diceR p cage id s texs).2 = 0
  · obtain ⟨hf, hr, m1, m2, ho, e⟩ := dice_ok0 h
    have a := spots_len hr m1
    rw [e]
    simp only [List.length_map]
    exact ⟨a, a, tris_len hr m1⟩
  · unfold diceR at h ⊢
    split
    · simp
    · split
      · rename_i h1 h2
        rw [if_neg h1, if_pos h2] at h
        exact absurd rfl h
      · simp
theorem dice_no {p : PatchT} {cage id : Int} {s : SkinT} {texs : List TexT} (h : ¬ (diceR p cage id s texs).2 = 0) : (diceR p cage id s texs).1 = ⟨[], [], []⟩ := by
  unfold diceR at h ⊢
  split
  · rfl
  · split
    · rename_i h1 h2
      rw [if_neg h1, if_pos h2] at h
      exact absurd rfl h
    · rfl
end Go.Proofs.M
namespace Go.Proofs.M
open Go Go.AH
theorem al_d2 : (diceR R_law15_flat 0 0 (SkinT.mk ⟨#[]⟩ 0 0 100 (-1) 0) ([] : List TexT)).2 = 0 := by kernel_rfl
theorem al_b2 : (R_mesh_Bounds R_law15_flat (SkinT.mk ⟨#[]⟩ 0 0 1 0 3)).2 = 0 := by kernel_rfl
theorem al_t2 : (R_mesh_Tri ((diceR R_law15_flat 0 0 (SkinT.mk ⟨#[]⟩ 0 0 100 (-1) 0) ([] : List TexT)).1) 1).2 = true := by kernel_rfl
theorem al_v : (((((diceR R_law15_flat 0 0 (SkinT.mk ⟨#[]⟩ 0 0 100 (-1) 0) ([] : List TexT)).1).Verts).length) : Int) = 4 := by kernel_rfl
theorem al_k : (((((diceR R_law15_flat 0 0 (SkinT.mk ⟨#[]⟩ 0 0 100 (-1) 0) ([] : List TexT)).1).Keys).length) : Int) = 4 := by kernel_rfl
theorem al_t : (((((diceR R_law15_flat 0 0 (SkinT.mk ⟨#[]⟩ 0 0 100 (-1) 0) ([] : List TexT)).1).Tris).length) : Int) = 2 := by kernel_rfl
theorem al_hi : (R_mesh_Bounds R_law15_flat (SkinT.mk ⟨#[]⟩ 0 0 1 0 3)).1.Hi = VT.mk 14 14 5 := by kernel_rfl
theorem al_tb : (R_mesh_Tri ((diceR R_law15_flat 0 0 (SkinT.mk ⟨#[]⟩ 0 0 100 (-1) 0) ([] : List TexT)).1) 1).1.B = VT.mk 9 9 0 := by kernel_rfl
theorem ranV_lit {x y z : Int} (hx : -1000 ≤ x ∧ x ≤ 1000) (hy : -1000 ≤ y ∧ y ≤ 1000) (hz : -1000 ≤ z ∧ z ≤ 1000) : ranV (VT.mk x y z) := ranV_of (B := 1000) ⟨hx.1, hx.2, hy.1, hy.2, hz.1, hz.2⟩ (by decide)
end Go.Proofs.M
namespace Go.Proofs.M
open Go Go.AH
theorem strF_mem {N : SpotT → Int} {k r m : Int} {Q : I3T → Prop} (h1 : ∀ i t, 0 ≤ i → i < r → 1 ≤ t → t ≤ m - 1 → Q ⟨N (outS k i r), N (outS k (i + 1) r), N (besS k t m)⟩) (h2 : ∀ i t, 0 ≤ i → i ≤ r → 1 ≤ t → t < m - 1 → Q ⟨N (outS k i r), N (besS k (t + 1) m), N (besS k t m)⟩) :
    ∀ {n : Nat} {i t : Int}, 0 ≤ i → i ≤ r → 1 ≤ t → t ≤ m - 1 → ∀ x ∈ strF N k r m n i t, Q x
  | 0, _, _, _, _, _, _, x, hx => by cases hx
  | n + 1, i, t, a, b, c, d, x, hx => by
    unfold strF at hx
    split at hx
    · rename_i g
      split at hx
      · rename_i e
        rcases List.mem_cons.1 hx with rfl | hx
        · exact h1 i t a e.1 c d
        · exact strF_mem h1 h2 (by omega) (by omega) c d x hx
      · rename_i e
        have ht : t < m - 1 := by
          rcases Int.lt_or_le t (m - 1) with g' | g'
          · exact g'
          · exact absurd ⟨by omega, .inl (by omega)⟩ e
        rcases List.mem_cons.1 hx with rfl | hx
        · exact h2 i t a b c ht
        · exact strF_mem h1 h2 a b (by omega) (by omega) x hx
    · cases hx
theorem tris_mem {N : SpotT → Int} {rs : List Int} {m : Int} {Q : I3T → Prop} (hr : rates rs) (hm : 1 ≤ m) (h0 : m = 1 → Q ⟨0, 1, 2⟩ ∧ Q ⟨0, 2, 3⟩)
    (hmid : ∀ a b, 1 ≤ a → a < m - 1 → 1 ≤ b → b < m - 1 → Q ⟨N (inn a b), N (inn (a + 1) b), N (inn (a + 1) (b + 1))⟩ ∧ Q ⟨N (inn a b), N (inn (a + 1) (b + 1)), N (inn a (b + 1))⟩)
    (h1 : ∀ k i t, 0 ≤ k → k < 4 → 0 ≤ i → i < at_ rs k → 1 ≤ t → t ≤ m - 1 → Q ⟨N (outS k i (at_ rs k)), N (outS k (i + 1) (at_ rs k)), N (besS k t m)⟩) (h2 : ∀ k i t, 0 ≤ k → k < 4 → 0 ≤ i → i ≤ at_ rs k → 1 ≤ t → t < m - 1 → Q ⟨N (outS k i (at_ rs k)), N (besS k (t + 1) m), N (besS k t m)⟩) : ∀ x ∈ trisL N rs m, Q x := by
  intro x hx
  unfold trisL at hx
  split at hx
  · rename_i e
    obtain ⟨a, b⟩ := h0 e
    rcases List.mem_cons.1 hx with rfl | hx
    · exact a
    · rcases List.mem_cons.1 hx with rfl | hx
      · exact b
      · cases hx
  · rename_i e
    rcases List.mem_append.1 hx with hx | hx
    · simp only [midO, midI, List.mem_flatMap, mem_rg] at hx
      obtain ⟨b, ⟨b1, b2⟩, a, ⟨a1, a2⟩, hx⟩ := hx
      obtain ⟨q1, q2⟩ := hmid a b a1 a2 b1 b2
      simp only [midC, List.mem_cons, List.not_mem_nil, or_false] at hx
      rcases hx with rfl | rfl
      · exact q1
      · exact q2
    · simp only [strO, List.mem_flatMap, mem_rg] at hx
      obtain ⟨k, ⟨k1, k2⟩, hx⟩ := hx
      have := hr k k1 k2
      exact strF_mem (fun i t => h1 k i t k1 k2) (fun i t => h2 k i t k1 k2) (Int.le_refl _) (by omega) (Int.le_refl _) (by omega) x hx
theorem numL_rng (l : List SpotT) (s : SpotT) : -1 ≤ numL l s ∧ numL l s ≤ l.length := by
  by_cases h : s ∈ l
  · have := numL_mem h; omega
  · rw [numL_not h]; omega
theorem ranI3_of {a b c : Int} (ha : -1 ≤ a ∧ a ≤ 400) (hb : -1 ≤ b ∧ b ≤ 400) (hc : -1 ≤ c ∧ c ≤ 400) : ranI3 ⟨a, b, c⟩ := ⟨inR_of (B := 400) (by simp only; omega) (by decide), inR_of (B := 400) (by simp only; omega) (by decide), inR_of (B := 400) (by simp only; omega) (by decide)⟩
theorem ranK_of {a b c d e : Int} (ha : -1000 ≤ a ∧ a ≤ 1000) (hb : inR b) (hc : inR c) (hd : inR d) (he : -1000 ≤ e ∧ e ≤ 1000) : ranK ⟨a, b, c, d, e⟩ := ⟨inR_of ha (by decide), hb, hc, hd, inR_of he (by decide)⟩
theorem inR_small {a : Int} (h : -1000 ≤ a ∧ a ≤ 1000) : inR a := inR_of h (by decide)
theorem kD_ran {p : PatchT} {cage id : Int} {s : SkinT} (hc : inR cage) (hi : inR id) (hp : ∀ c ∈ p.aCorners, inR c) (hr : rates (R_rate_Sides p.aP s.Unit)) (hm : maxL (R_rate_Sides p.aP s.Unit) ≤ 16) {x : SpotT} (hx : x ∈ spotsL (R_rate_Sides p.aP s.Unit) (maxL (R_rate_Sides p.aP s.Unit))) : ranK (kD p cage id s x) := by
  have hco : ∀ k : Int, 0 ≤ k → k < 4 → inR (at_ p.aCorners k) := fun k h0 h4 => hp _ (at_mem h0 (by have := p.lCorners; omega))
  unfold kD vtxD R_mesh_vertex
  rcases mem_spots.1 hx with ⟨k1, k2, k3, k4⟩ | ⟨k1, k2, k3, k4, k5⟩ | ⟨k1, k2, k3, k4, k5⟩
  · rw [if_pos k1]
    exact ranK_of (by omega) hc (hco _ k2 k3) (inR_small (by omega)) (by omega)
  · rw [if_neg (by omega), if_pos k1]
    have := hr x.A k2 k3
    unfold R_mesh_side
    split
    · exact ranK_of (by omega) hc (hco _ (by omega) (by omega)) (hco _ k2 k3) (by omega)
    · exact ranK_of (by omega) hc (hco _ k2 k3) (hco _ (by omega) (by omega)) (by omega)
  · rw [if_neg (by omega), if_neg (by omega)]
    exact ranK_of (by omega) hi (inR_small (by omega)) (inR_small (by omega)) (by omega)
theorem ranM_dice {p : PatchT} {cage id : Int} {s : SkinT} {texs : List TexT} (hc : inR cage) (hi : inR id) (hp : ∀ c ∈ p.aCorners, inR c) : ranM (diceR p cage id s texs).1 := by
  by_cases h : (diceR p cage id s texs).2 = 0
  · obtain ⟨hf, hr, m1, m2, ho, e⟩ := dice_ok0 h
    obtain ⟨f1, f2, f3, f4, f5⟩ := fine_pts hf
    rw [e]
    refine ⟨fun v hv => ?_, fun k hk => ?_, ?_⟩
    · obtain ⟨x, hx, rfl⟩ := List.mem_map.1 hv
      obtain ⟨d, hd, hin⟩ := fD_near (cage := cage) (id := id) hf hx (ho _ hx)
      rw [hd]
      exact ranV_of (inV_vec_Add (vtx_in hf hx) hin) (by omega)
    · obtain ⟨x, hx, rfl⟩ := List.mem_map.1 hk
      exact kD_ran hc hi hp hr m1 hx
    · have hl := spots_len hr m1
      have hn : ∀ x, -1 ≤ numL (spotsL (R_rate_Sides p.aP s.Unit) (maxL (R_rate_Sides p.aP s.Unit))) x ∧ numL (spotsL (R_rate_Sides p.aP s.Unit) (maxL (R_rate_Sides p.aP s.Unit))) x ≤ 400 := fun x => by
        have := numL_rng (spotsL (R_rate_Sides p.aP s.Unit) (maxL (R_rate_Sides p.aP s.Unit))) x
        omega
      refine tris_mem hr m2 (fun _ => ⟨ranI3_of (by omega) (by omega) (by omega), ranI3_of (by omega) (by omega) (by omega)⟩) (fun a b _ _ _ _ => ⟨ranI3_of (hn _) (hn _) (hn _), ranI3_of (hn _) (hn _) (hn _)⟩) (fun k i t _ _ _ _ _ _ => ranI3_of (hn _) (hn _) (hn _)) (fun k i t _ _ _ _ _ _ => ranI3_of (hn _) (hn _) (hn _))
  · rw [dice_no h]
    exact ⟨fun _ h => (by cases h), fun _ h => (by cases h), fun _ h => (by cases h)⟩
end Go.Proofs.M
namespace Go.Proofs.M
open Go Go.AH
end Go.Proofs.M
namespace Go.Proofs.M
open Go Go.AH Go.ChangeShapes Go.WideShapes Go.ChangeAt Go.RowKit Go.Deep Go.Proofs.YtfgfalidpbbkhaaDoor
set_option maxRecDepth 8000
set_option linter.unusedSimpArgs false
set_option linter.unusedVariables false
theorem bulk_one {H : Type} (d : DataW H) : 1 ≤ Rows.uptoBulk d := by
  cases d with
  | lit l => cases l <;> simp [Rows.uptoBulk]
  | _ => simp [Rows.uptoBulk]
theorem bulk_len {H : Type} (l : List (DataW H)) : l.length ≤ Rows.uptoBulkAll l := by
  induction l with
  | nil => simp [Rows.uptoBulkAll]
  | cons x r ih => have := bulk_one x; simp only [Rows.uptoBulkAll, List.length_cons]; omega
theorem bulk_part {H : Type} {d : DataW H} {l : List (DataW H)} (h : d ∈ l) : Rows.uptoBulk d ≤ Rows.uptoBulkAll l := by
  induction l with
  | nil => cases h
  | cons x r ih =>
    simp only [Rows.uptoBulkAll]
    rcases List.mem_cons.1 h with e | e
    · subst e; omega
    · have := ih e; omega
section
variable {H : Type} {enc : TypeId × Value → H} {W : World}
theorem c3 : Tryd.prog.cellsOf 3 = 1 := by kernel_rfl
theorem c9 : Tryd.prog.cellsOf 9 = 1 := by kernel_rfl
theorem c23 : Tryd.prog.cellsOf 23 = 3 := by kernel_rfl
theorem c24 : Tryd.prog.cellsOf 24 = 48 := by kernel_rfl
theorem c25 : Tryd.prog.cellsOf 25 = 4 := by kernel_rfl
theorem c26 : Tryd.prog.cellsOf 26 = 12 := by kernel_rfl
theorem c28 : Tryd.prog.cellsOf 28 = 65 := by kernel_rfl
theorem c30 : Tryd.prog.cellsOf 30 = 6 := by kernel_rfl
theorem c63 : Tryd.prog.cellsOf 63 = 1 := by kernel_rfl
theorem c65 : Tryd.prog.cellsOf 65 = 4 := by kernel_rfl
theorem opI : Opn enc Tryd.prog W 3 (fun n : Int => [.int .i64 n]) (fun n _ => inR n) := (Opn.int u_3).imp fun n _ h => bounds_i64 h
theorem opS : Opn enc Tryd.prog W 9 (fun n : ByteArray => [.str n]) (fun _ _ => True) := (Opn.str (show Tryd.prog.underlying 9 = some .string from rfl)).imp fun _ _ _ => trivial
theorem opV : Opn enc Tryd.prog W 23 eV (fun v _ => ranV v) := fun sp held fuel cs x h => by
  obtain ⟨xs, n, _, rfl, hl, hxl, hf⟩ := DataW.trod_struct Tryd.underlying23 h
  match xs, hxl with
  | [y0, y1, y2], _ =>
    obtain ⟨a, a1, a2⟩ := opI (enc := enc) (W := W) _ _ _ _ _ (hf 0 _ rfl)
    obtain ⟨b, b1, b2⟩ := opI (enc := enc) (W := W) _ _ _ _ _ (hf 1 _ rfl)
    obtain ⟨c, e1, e2⟩ := opI (enc := enc) (W := W) _ _ _ _ _ (hf 2 _ rfl)
    simp only [c3] at a1 b1 e1
    exact ⟨⟨a, b, c⟩, (a1.glue (b1.glue e1 rfl rfl) rfl (n := 3) rfl).whole (by rw [hl, c23]), a2, b2, e2⟩
theorem opInts {t : TypeId} {n : Nat} (ht : Tryd.prog.underlying t = some (.array n 3)) (hc : Tryd.prog.cellsOf t = n) : Opn enc Tryd.prog W t (fun l : List Int => l.map eI) (fun l _ => l.length = n ∧ ∀ x ∈ l, inR x) := fun sp held fuel cs x h => by
  obtain ⟨l, h1, h2, ds, _, h3⟩ := Opn.arr ht c3 (by rw [hc, Nat.mul_one]) opI sp held fuel cs x h
  refine ⟨l, ?_, h2, fun x hx => (h3 x hx).elim fun _ h => h.2⟩
  have e : l.flatMap (fun n : Int => [AV.int .i64 n]) = l.map eI := by rw [List.map_eq_flatMap]; rfl
  show VRs W idM nH (l.map eI) cs
  rw [← e]; exact h1
theorem opVs {t : TypeId} {n : Nat} (ht : Tryd.prog.underlying t = some (.array n 23)) (hc : Tryd.prog.cellsOf t = n * 3) : Opn enc Tryd.prog W t (fun l : List VT => l.flatMap eV) (fun l _ => l.length = n ∧ ∀ x ∈ l, ranV x) := fun sp held fuel cs x h => by
  obtain ⟨l, h1, h2, ds, _, h3⟩ := Opn.arr ht c23 hc opV sp held fuel cs x h
  exact ⟨l, h1, h2, fun x hx => (h3 x hx).elim fun _ h => h.2⟩
theorem opPatch : Opn enc Tryd.prog W 28 ePatch (fun p _ => ∀ c ∈ p.aCorners, inR c) := fun sp held fuel cs x h => by
  obtain ⟨xs, n, _, rfl, hl, hxl, hf⟩ := DataW.trod_struct Tryd.underlying28 h
  match xs, hxl with
  | [y0, y1, y2, y3], _ =>
    obtain ⟨a, a1, a2⟩ := opVs (enc := enc) (W := W) (n := 16) u_24 c24 _ _ _ _ _ (hf 0 _ rfl)
    obtain ⟨b, b1, b2⟩ := opInts (enc := enc) (W := W) (n := 4) u_25 c25 _ _ _ _ _ (hf 1 _ rfl)
    obtain ⟨c, e1, e2⟩ := opVs (enc := enc) (W := W) (n := 4) u_26 c26 _ _ _ _ _ (hf 2 _ rfl)
    obtain ⟨d, f1, f2⟩ := opI (enc := enc) (W := W) _ _ _ _ _ (hf 3 _ rfl)
    simp only [c3, c24, c25, c26] at a1 b1 e1 f1
    refine ⟨⟨a, b, c, d⟩, ?_, ?_⟩
    · have e : ePatch ⟨a, b, c, d⟩ = a.flatMap eV ++ (b.map eI ++ (c.flatMap eV ++ [.int .i64 d])) := by
        show (arrL 16 a).flatMap eV ++ ((arrL 4 b).map eI ++ ((arrL 4 c).flatMap eV ++ [.int .i64 d])) = _
        rw [arrL_self a2.1, arrL_self b2.1, arrL_self e2.1]
      rw [e]
      exact (a1.glue (b1.glue (e1.glue f1 rfl rfl) rfl rfl) rfl (n := 65) rfl).whole (by rw [hl, c28])
    · show ∀ c ∈ arrL 4 b, inR c
      rw [arrL_self b2.1]; exact b2.2
theorem opSkin : Opn enc Tryd.prog W 30 eSkin (fun s _ => inR s.Unit ∧ inR s.Tex ∧ inR s.Height) := fun sp held fuel cs x h => by
  obtain ⟨xs, n, _, rfl, hl, hxl, hf⟩ := DataW.trod_struct Tryd.underlying30 h
  match xs, hxl with
  | [y0, y1, y2, y3, y4, y5], _ =>
    obtain ⟨a, a1, a2⟩ := opS (enc := enc) (W := W) _ _ _ _ _ (hf 0 _ rfl)
    obtain ⟨b, b1, b2⟩ := opI (enc := enc) (W := W) _ _ _ _ _ (hf 1 _ rfl)
    obtain ⟨c, e1, e2⟩ := opI (enc := enc) (W := W) _ _ _ _ _ (hf 2 _ rfl)
    obtain ⟨d, f1, f2⟩ := opI (enc := enc) (W := W) _ _ _ _ _ (hf 3 _ rfl)
    obtain ⟨e, g1, g2⟩ := opI (enc := enc) (W := W) _ _ _ _ _ (hf 4 _ rfl)
    obtain ⟨f, k1, k2⟩ := opI (enc := enc) (W := W) _ _ _ _ _ (hf 5 _ rfl)
    simp only [c3, c9] at a1 b1 e1 f1 g1 k1
    exact ⟨⟨a, b, c, d, e, f⟩, (a1.glue (b1.glue (e1.glue (f1.glue (g1.glue k1 rfl rfl) rfl rfl) rfl rfl) rfl rfl) rfl (n := 6) rfl).whole (by rw [hl, c30]), f2, g2, k2⟩
theorem opRows : Opn enc Tryd.prog W 63 (fun l : List Int => [.sl l.length (l.map eI)]) (fun l d => l.length ≤ Rows.uptoBulk d) := fun sp held fuel cs x h => by
  obtain ⟨l, h1, h2⟩ := Opn.slice u_63 c3 (by omega) opI sp held fuel cs x h
  have e : l.flatMap (fun n : Int => [AV.int .i64 n]) = l.map eI := by rw [List.map_eq_flatMap]; rfl
  refine ⟨l, ?_, ?_⟩
  · show VRs W idM nH [.sl l.length (l.map eI)] cs
    rw [← e]; exact h1
  · rcases h2 with ⟨rfl, _⟩ | ⟨ds, s, he, hlen, _⟩
    · exact Nat.zero_le _
    · rw [he]
      have := bulk_len ds
      simp only [Rows.uptoBulk]; omega
theorem opTex : Opn enc Tryd.prog W 65 eTex (fun t d => t.Rows.length ≤ Rows.uptoBulk d) := fun sp held fuel cs x h => by
  obtain ⟨xs, n, _, rfl, hl, hxl, hf⟩ := DataW.trod_struct Tryd.underlying65 h
  match xs, hxl with
  | [y0, y1, y2, y3], _ =>
    obtain ⟨a, a1, a2⟩ := opS (enc := enc) (W := W) _ _ _ _ _ (hf 0 _ rfl)
    obtain ⟨b, b1, b2⟩ := opI (enc := enc) (W := W) _ _ _ _ _ (hf 1 _ rfl)
    obtain ⟨c, e1, e2⟩ := opI (enc := enc) (W := W) _ _ _ _ _ (hf 2 _ rfl)
    obtain ⟨d, f1, f2⟩ := opRows (enc := enc) (W := W) _ _ _ _ _ (hf 3 _ rfl)
    simp only [c3, c9, c63] at a1 b1 e1 f1
    refine ⟨⟨a, b, c, d⟩, (a1.glue (b1.glue (e1.glue f1 rfl rfl) rfl rfl) rfl (n := 4) rfl).whole (by rw [hl, c65]), ?_⟩
    simp only [List.map_cons, List.map_nil, Rows.uptoBulk, Rows.uptoBulkAll]
    have f2 : d.length ≤ Rows.uptoBulk y3.1 := f2
    omega
theorem opTexs : Opn enc Tryd.prog W 31 (fun l : List TexT => [.sl l.length (l.flatMap eTex)]) (fun l d => l.length ≤ Rows.uptoBulk d ∧ ∀ t ∈ l, t.Rows.length ≤ Rows.uptoBulk d) := fun sp held fuel cs x h => by
  obtain ⟨l, h1, h2⟩ := Opn.slice u_31 c65 (by omega) opTex sp held fuel cs x h
  refine ⟨l, h1, ?_⟩
  rcases h2 with ⟨rfl, _⟩ | ⟨ds, s, he, hlen, hall⟩
  · exact ⟨Nat.zero_le _, fun _ h => by cases h⟩
  · rw [he]
    have := bulk_len ds
    refine ⟨by simp only [Rows.uptoBulk]; omega, fun t ht => ?_⟩
    obtain ⟨y, hy, hb⟩ := hall t ht
    have := bulk_part hy
    simp only [Rows.uptoBulk]; omega
theorem arg_agg {r : Reach} {b0 : Nat} {t : TypeId} {fs : Array Field} {v : Value} {d : DataW H} {p : List MemPlace} {α : Type} {e : α → List AV} {Q : α → DataW H → Prop} (ht : Tryd.prog.underlying t = some (.struct fs)) (ho : Opn enc Tryd.prog W t e Q) (hv : Value.okWide Tryd.prog W r b0 t v) {sp : Nat → Bool} {held : Bool} (hd : DataW.Trod enc Tryd.prog W 0 sp held t v d p) :
    ∃ a, VR W idM nH (.agg (e a)) v ∧ Q a d := by
  obtain ⟨cs, rfl, _, _⟩ : ∃ cs, v = .agg cs ∧ cs.size = Tryd.prog.cellsOf t ∧ Row.okWide Tryd.prog W r b0 t cs := by simpa [Value.okWide, ht] using hv
  obtain ⟨fuel, hf⟩ := hd
  obtain ⟨a, h1, h2⟩ := ho _ _ _ _ _ hf
  exact ⟨a, VRs.agg h1, h2⟩
theorem arg_sl {r : Reach} {b0 : Nat} {t el : TypeId} {v : Value} {d : DataW H} {p : List MemPlace} {α : Type} {e : α → AV} {Q : α → DataW H → Prop} (ht : Tryd.prog.underlying t = some (.slice el)) (ho : Opn enc Tryd.prog W t (fun a => [e a]) Q) (hv : Value.okWide Tryd.prog W r b0 t v) {sp : Nat → Bool} {held : Bool} (hd : DataW.Trod enc Tryd.prog W 0 sp held t v d p) :
    ∃ a, VR W idM nH (e a) v ∧ Q a d := by
  obtain ⟨ad, len, cap, rfl⟩ := okWide_slice ht hv
  obtain ⟨fuel, hf⟩ := hd
  obtain ⟨a, h1, h2⟩ := ho _ _ _ _ _ hf
  exact ⟨a, VRs.get1 h1, h2⟩
theorem gCor : Tryd.prog.globalNamed "relievo/mesh.corners" = some 0 := by kernel_rfl
theorem gCorT : (Tryd.prog.globals[0]?).map (·.type) = some 25 := by kernel_rfl
theorem globs_of {W : World} (h : laidMetH Tryd.prog [("relievo/mesh.corners", Rows.laid_relievo_mesh_corners)] W) : GOK W idM nH := by
  have ht : Lib.TabIs Tryd.prog W "relievo/mesh.corners" .i64 [0, 3, 15, 12] := Lib.tabIs_of_head (rest := []) gCor gCorT u_25 u_3 c3 c25 h
  have hk := glob_tab ht gCor (by decide)
  refine ⟨?_, fun g cs h => by cases h⟩
  intro g cells hg
  by_cases h0 : g = 0
  · subst h0
    have : cells = [.int .i64 0, .int .i64 3, .int .i64 15, .int .i64 12] := by
      have : some [AV.int .i64 0, .int .i64 3, .int .i64 15, .int .i64 12] = some cells := hg
      cases this; rfl
    subst this; exact hk
  · have : (none : Option (List AV)) = some cells := by
      have e : Globs.val g = none := by show (if g = 0 then _ else none) = none; rw [if_neg h0]
      rw [← e]; exact hg
    cases this
theorem own : ownKnob Tryd.prog.godebug = none := by kernel_rfl
theorem stays {W W' : World} (hs : World.Since W.heap.size W W') {x : MemPlace} (h : x.block < W.heap.size) : W.sameAt W' x := by
  cases x with
  | cell b o => exact hs.cell (a := ⟨b, o, none⟩) h
  | map b => exact hs.block b h
noncomputable def laidWorld (os : Os) : World :=
  { World.holding Tryd.prog os ⟨#[], #[], []⟩ with heap := (World.holding Tryd.prog os ⟨#[], #[], []⟩).heap.modify 0 fun
      | .cells _ t frozen => .cells #[.int .i64 0, .int .i64 3, .int .i64 15, .int .i64 12] t frozen
      | o => o }
end
end Go.Proofs.M
namespace Go.Proofs.M
open Go Go.AH
theorem bounds_same (p : PatchT) (s : SkinT) : R_ref15_Bounds p s = R_mesh_Bounds p s := rfl
theorem tri_same (m : MeshT) (i : Int) : R_ref15_Tri m i = R_mesh_Tri m i := by
  unfold R_ref15_Tri R_mesh_Tri
  by_cases h0 : i < 0
  · rw [if_pos h0, if_pos h0]
  rw [if_neg h0, if_neg h0]
  by_cases h1 : i ≥ (m.Tris.length : Int)
  · rw [if_pos h1, if_pos h1]
  rw [if_neg h1, if_neg h1, min3L, max3L]
  (repeat' split) <;> first | rfl | omega
theorem ranB_bounds (p : PatchT) (s : SkinT) : ranB (R_mesh_Bounds p s).1 := by
  unfold R_mesh_Bounds
  split
  · rename_i h
    obtain ⟨f1, f2, f3, f4, f5⟩ := fine_pts h
    have hb := bound_in (B := 60000) (l := p.aP) (fun i i0 i1 => f4 i i0 (by have := p.lP; omega)) (by have := p.lP; omega)
    have hh : inV 300 (VT.mk (s.Height + 2) (s.Height + 2) (s.Height + 2)) := by simp only [inV]; omega
    exact ⟨ranV_of (inV_vec_Sub hb.1 hh) (by decide), ranV_of (inV_vec_Add hb.2 hh) (by decide)⟩
  · exact ⟨ranV_lit (by omega) (by omega) (by omega), ranV_lit (by omega) (by omega) (by omega)⟩
theorem ranT_tri {m : MeshT} (i : Int) (hv : ∀ v ∈ m.Verts, ranV v) : ranT (R_mesh_Tri m i).1 := by
  have z : ranT (TriT.mk (VT.mk 0 0 0) (VT.mk 0 0 0) (VT.mk 0 0 0)) := ⟨ranV_lit (by omega) (by omega) (by omega), ranV_lit (by omega) (by omega) (by omega), ranV_lit (by omega) (by omega) (by omega)⟩
  unfold R_mesh_Tri
  split
  · exact z
  split
  · exact z
  split
  · exact z
  split
  · exact z
  · rename_i h1 h2 h3 h4
    rw [min3L] at h3
    rw [max3L] at h4
    exact ⟨hv _ (at_mem (by omega) (by omega)), hv _ (at_mem (by omega) (by omega)), hv _ (at_mem (by omega) (by omega))⟩
end Go.Proofs.M
