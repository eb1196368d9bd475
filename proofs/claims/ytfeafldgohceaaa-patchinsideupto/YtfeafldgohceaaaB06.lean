/- A part of the proof that a law answers true for every input of its row: own work, by an AI agent. -/
import Derived.Test.YtfeafldgohceaaaB01
import Derived.Test.YtfeafldgohceaaaB05
import Derived.Test.YtfeafldgohceaaaB04
set_option linter.unusedSimpArgs false
set_option linter.unusedVariables false
set_option linter.defProp false
namespace Go.Proofs.U
open Go Go.AH Go.Proofs.T
set_option maxRecDepth 4000
set_option linter.unusedSimpArgs false
set_option linter.unusedVariables false
set_option maxHeartbeats 4000000
theorem c_notF (l : List Int) (hl : l.length ≤ 1048576) : PC Try.prog 51 [.sl l.length (l.map eI)] (.bool (notF l)) := by
 intro H0
 refine ACalls.of_body' (n := 6) rfl rfl rfl rfl ?_
 have m0 := Mono.refl H0
 refine Sr ?_
 refine A rfl rfl ?_
 refine Sr ?_
 refine V rfl rfl (C rfl (AOp.len (m := l.length) rfl rfl (.inr (.inl ⟨_, rfl⟩)) u_38 (B rfl rfl rfl ine (A rfl rfl ?_))))
 refine rt_ ?_
 refine Rr (Res.one rfl rfl) ?_ m0
 exact (congrArg AV.bool (show (!decide ((l.length : Int) = 4) : Bool) = notF l from by first | rfl | (unfold notF; simp_all) | (unfold notF; rw [decide_not])))
theorem c_idxF (l : List (List Int)) (hl : l.length ≤ 1048576) (hls : ∀ x ∈ l, x.length ≤ 1048576) : PC Try.prog 68 [.sl l.length (l.map eF), .fn 51 []] (.int .i64 (idxF l)) := by
 intro H0
 refine ACalls.of_body' (n := 19) rfl rfl rfl rfl ?_
 have m0 := Mono.refl H0
 refine Sr ?_
 refine A rfl rfl ?_
 refine AWP.seq ?_
 refine Sr ?_
 refine V rfl rfl (C rfl (AOp.len (m := l.length) rfl rfl (.inr (.inl ⟨_, rfl⟩)) u_23 (V rfl rfl ?_)))
 refine bk_ ?_
 refine AWP.loop (fun q1 fq Hq => ∃ (i : Int), q1 = (((l.length : Int) : Int) - i).toNat ∧ fq 8 = .int .i64 i ∧ fq 0 = .sl l.length (l.map eF) ∧ fq 1 = .fn 51 [] ∧ fq 7 = .int .i64 (l.length : Int) ∧ Mono H0 Hq ∧ (0 ≤ i) ∧ (i ≤ (l.length : Int)) ∧ (∀ j : Int, 0 ≤ j → j < i → notF (at_ l j) = false)) (k := (((l.length : Int) : Int) - 0).toNat) ?_ ?_
 exact ⟨0, rfl, rfl, rfl, rfl, rfl, m0, by omega, by omega, by intro j; omega⟩
 rintro _ f3 H2 ⟨i, rfl, s4, s5, s6, s7, m8, hi0, hi1, pre⟩
 refine Sr ?_
 refine B rfl s4 s7 rfl ?_
 refine AWP.seq ?_
 by_cases b9 : i < (l.length : Int)
 refine ct_ rfl (decide_eq_true b9) ?_
 refine AWP.skip ?_
 refine AWP.seq ?_
 refine bk_ ?_
 refine Sr ?_
 refine V rfl s4 (A rfl rfl ?_)
 refine Sr ?_
 refine V rfl s6 (V rfl s5 (V rfl rfl (C rfl (iS_ rfl rfl rfl sl_23 (by omega) (by omega) (L rfl rfl ty_38 (ld1 (by omega) (by omega)) (C rfl (Pc («as» := [.sl (at_ l i).length ((at_ l i).map eI)]) rfl rfl (rfl) tf_51 (c_notF _ (hls _ (at_mem hi0 (by omega)))) ?_)))))))
 intro H10 m11
 have m12 := m8.trans m11
 refine AOps.nil ?_
 change AWP _ _ _ _ _ _
 rcases Bool.eq_false_or_eq_true (notF (at_ l i)) with b13 | b13
 refine ct_ rfl b13 ?_
 refine Sr ?_
 refine V rfl rfl (A rfl rfl ?_)
 refine rt_ ?_
 refine Rr (Res.one rfl rfl) ?_ m12
 exact (congrArg (AV.int .i64) (show (i : Int) = idxF l from by exact idxF_hit hi0 (by omega) pre b13))
 refine cf_ rfl b13 ?_
 refine AWP.skip ?_
 refine AWP.region rfl ?_
 refine B rfl s4 rfl (iadd (by omega)) (V rfl rfl ?_)
 refine AOps.nil ?_
 exact ⟨_, by omega, i + 1, rfl, rfl, s5, s6, s7, m12, by omega, by omega, by exact fun j j0 j1 => if e : j = i then e ▸ b13 else pre j j0 (by omega)⟩
 refine cf_ rfl (decide_eq_false b9) ?_
 refine AWP.exit ?_
 change AWP _ _ _ _ _ _
 refine Sr ?_
 refine A rfl rfl ?_
 refine rt_ ?_
 refine Rr (Res.one rfl rfl) ?_ m8
 exact (congrArg (AV.int .i64) (show (-1 : Int) = idxF l from by exact idxF_none (by omega) pre))
theorem c_anyF (l : List (List Int)) (hl : l.length ≤ 1048576) (hls : ∀ x ∈ l, x.length ≤ 1048576) : PC Try.prog 50 [.sl l.length (l.map eF), .fn 51 []] (.bool (l.any notF)) := by
 intro H0
 refine ACalls.of_body' (n := 9) rfl rfl rfl rfl ?_
 have m0 := Mono.refl H0
 refine Sr ?_
 refine A rfl rfl ?_
 refine Sr ?_
 refine V rfl rfl (V rfl rfl (C rfl (Pc («as» := [.sl l.length (l.map eF), .fn 51 []]) rfl rfl (rfl) tf_68 (c_idxF _ (by omega) (by assumption)) ?_)))
 intro H1 m2
 have m3 := m0.trans m2
 refine B rfl rfl rfl rfl (A rfl rfl ?_)
 refine rt_ ?_
 refine Rr (Res.one rfl rfl) ?_ m3
 exact (congrArg AV.bool (show (decide (idxF l ≥ 0) : Bool) = l.any notF from by exact idxF_any l))
theorem c_Patches (vs : List VT) (fs : List (List Int)) (cr : List CrT) (mid : MidC vs fs cr) (skin : Int) : PC Try.prog 30 [.agg [.sl vs.length (vs.flatMap eV), .sl fs.length (fs.map eF), .sl cr.length (cr.flatMap eCr)], .int .i64 skin] (.tup [.sl ((patR vs fs cr skin).1).length (((patR vs fs cr skin).1).flatMap ePatch), .int .i64 ((patR vs fs cr skin).2)]) := by
 intro H0
 have hm1 := mid.v
 have hm2 := mid.f
 have hm3 := mid.s
 have hm4 := mid.cl
 refine ACalls.of_body' (n := 127) rfl rfl rfl rfl ?_
 have m0 := Mono.refl H0
 refine Sr ?_
 refine C rfl (bx_ (.agg [.sl vs.length (vs.flatMap eV), .sl fs.length (fs.map eF), .sl cr.length (cr.flatMap eCr)]) rfl rfl rfl ?_)
 intro i1 H2 n3 h4 k5
 have z6 := Mono.free m0 n3
 have m7 := Mono.new m0 n3 k5
 refine C rfl (As (.snil) rfl rfl (C rfl (As (.int .i64 0) rfl rfl ?_)))
 refine AWP.seq ?_
 refine AWP.seq ?_
 refine fz_ 2 h4 z6 rfl m7 fun H8 m9 k10 => ?_
 refine AWP.region rfl ?_
 refine C rfl (Lf (.agg [.sl vs.length (vs.flatMap eV), .sl fs.length (fs.map eF), .sl cr.length (cr.flatMap eCr)]) rfl rfl ty_26 rfl (C rfl (Pc («as» := [.agg [.sl vs.length (vs.flatMap eV), .sl fs.length (fs.map eF), .sl cr.length (cr.flatMap eCr)]]) rfl rfl (rfl) tf_15 (c_Level vs fs cr mid.v mid.f mid.fs mid.s mid.cl mid.c) ?_)))
 intro H11 m12
 have m13 := m9.trans m12
 refine C rfl (Mv (.tup [.agg [.sl ((levelR vs fs cr).1.Verts).length (((levelR vs fs cr).1.Verts).flatMap eV), .sl ((levelR vs fs cr).1.Faces).length (((levelR vs fs cr).1.Faces).map eF), .sl ((levelR vs fs cr).1.Creases).length (((levelR vs fs cr).1.Creases).flatMap eCr)], .int .i64 ((levelR vs fs cr).2)]) rfl rfl (C rfl (Ex (.agg [.sl ((levelR vs fs cr).1.Verts).length (((levelR vs fs cr).1.Verts).flatMap eV), .sl ((levelR vs fs cr).1.Faces).length (((levelR vs fs cr).1.Faces).map eF), .sl ((levelR vs fs cr).1.Creases).length (((levelR vs fs cr).1.Creases).flatMap eCr)]) rfl rfl rfl (C rfl (Ex (.int .i64 ((levelR vs fs cr).2)) rfl rfl rfl (C rfl (al_ rfl tz_26 ?_)))))))
 intro i14 H15 n16 h17 k18
 have z19 := Mono.free m13 n16
 have m20 := Mono.new m13 n16 k18
 refine C rfl (Sw rfl rfl ts_26 h17 rfl rfl rfl ?_)
 intro H21 h22 k23
 have m25 := Mono.set m20 z19 k23
 refine C rfl (As (.int .i64 ((levelR vs fs cr).2)) rfl rfl ?_)
 refine AWP.seq ?_
 refine fz_ 6 h22 z19 rfl m25 fun H26 m27 k28 => ?_
 refine AWP.region rfl ?_
 refine C rfl (Mv (.int .i64 ((levelR vs fs cr).2)) rfl rfl (C rfl (Bi (.bool (!decide ((levelR vs fs cr).2 = 0))) rfl rfl rfl ine ?_)))
 refine AOps.nil ?_
 change AWP _ _ _ _ _ _
 by_cases b29 : (levelR vs fs cr).2 = 0
 refine cf_ rfl (nb (decide_eq_true b29)) ?_
 refine AWP.skip ?_
 refine AWP.seq ?_
 refine Sr ?_
 refine F rfl rfl fl_26_1 (C rfl (Lf (.sl fs.length (fs.map eF)) rfl rfl ty_23 rfl (C rfl (Pc («as» := [.sl fs.length (fs.map eF), .fn 51 []]) rfl rfl (rfl) tf_50 (c_anyF _ (by omega) (fun l hl => Nat.le_trans (mid.fs l hl) (by decide))) ?_))))
 intro H30 m31
 have m32 := m27.trans m31
 refine AOps.nil ?_
 change AWP _ _ _ _ _ _
 rcases Bool.eq_false_or_eq_true (fs.any notF) with b33 | b33
 refine ct_ rfl b33 ?_
 refine Sr ?_
 refine C rfl (As (.snil) rfl rfl (C rfl (As (.int .i64 14) rfl rfl ?_)))
 refine rt_ ?_
 refine Fin.frz 4 (Own.nil H0 H30 1) rfl m32 fun H34 m35 k36 => ?_
 refine Rr (Res.two rfl rfl rfl) ?_ m35
 exact congrArg AV.tup (lc (congrArg (fun l : List PatchT => AV.sl l.length (l.flatMap ePatch)) (show ([] : List PatchT) = (patR vs fs cr skin).1 from by rw [pat_2 b29 b33])) (lc (congrArg (AV.int .i64) (show (14 : Int) = (patR vs fs cr skin).2 from by rw [pat_2 b29 b33])) rfl))
 refine cf_ rfl b33 ?_
 refine AWP.skip ?_
 refine AWP.seq ?_
 have hl0 := level_ok b29
 have hok := hl0.1
 have tf := topo_facts hok (by omega) mid.f mid.s
 have hel := tf.el
 have sf := sharp_facts mid.c hl0.2.1
 have hsl := sf.len
 have S := shpF mid b29 b33
 refine AWP.region rfl ?_
 refine F rfl rfl fl_26_0 (C rfl (Lf (.sl vs.length (vs.flatMap eV)) rfl rfl ty_22 rfl (C rfl (AOp.len (m := vs.length) rfl rfl (.inr (.inl ⟨_, rfl⟩)) u_22 (F rfl rfl fl_26_1 (C rfl (Lf (.sl fs.length (fs.map eF)) rfl rfl ty_23 rfl (C rfl (Pc («as» := [.int .i64 (vs.length : Int), .sl fs.length (fs.map eF)]) rfl rfl (rfl) tf_16 (c12 _ (by omega) (fun l hl => Nat.le_trans (mid.fs l hl) (by decide)) _ (by omega) (by omega)) ?_)))))))))
 intro H37 m38
 have m39 := m32.trans m38
 refine C rfl (Mv (.tup [.agg [.sl ((buildT vs.length fs).ed).length (((buildT vs.length fs).ed).flatMap eE), .sl ((buildT vs.length fs).fan).length (((buildT vs.length fs).fan).map eF), .sl ((buildT vs.length fs).rnd).length (((buildT vs.length fs).rnd).map eBo)], .int .i64 (buildE vs.length fs)]) rfl rfl (C rfl (Ex (.agg [.sl ((buildT vs.length fs).ed).length (((buildT vs.length fs).ed).flatMap eE), .sl ((buildT vs.length fs).fan).length (((buildT vs.length fs).fan).map eF), .sl ((buildT vs.length fs).rnd).length (((buildT vs.length fs).rnd).map eBo)]) rfl rfl rfl (C rfl (Ex (.int .i64 (buildE vs.length fs)) rfl rfl rfl (C rfl (al_ rfl tz_35 ?_)))))))
 intro i40 H41 n42 h43 k44
 have z45 := Mono.free m39 n42
 have m46 := Mono.new m39 n42 k44
 refine C rfl (Sw rfl rfl ts_35 h43 rfl rfl rfl ?_)
 intro H47 h48 k49
 have m51 := Mono.set m46 z45 k49
 refine C rfl (As (.int .i64 (buildE vs.length fs)) rfl rfl ?_)
 refine AWP.seq ?_
 refine fz_ 8 h48 z45 rfl m51 fun H52 m53 k54 => ?_
 refine AWP.region rfl ?_
 refine C rfl (Lf (.agg [.sl vs.length (vs.flatMap eV), .sl fs.length (fs.map eF), .sl cr.length (cr.flatMap eCr)]) rfl rfl ty_26 rfl (C rfl (Lf (.agg [.sl ((buildT vs.length fs).ed).length (((buildT vs.length fs).ed).flatMap eE), .sl ((buildT vs.length fs).fan).length (((buildT vs.length fs).fan).map eF), .sl ((buildT vs.length fs).rnd).length (((buildT vs.length fs).rnd).map eBo)]) rfl rfl ty_35 rfl (C rfl (Pc («as» := [.agg [.sl vs.length (vs.flatMap eV), .sl fs.length (fs.map eF), .sl cr.length (cr.flatMap eCr)], .agg [.sl ((buildT vs.length fs).ed).length (((buildT vs.length fs).ed).flatMap eE), .sl ((buildT vs.length fs).fan).length (((buildT vs.length fs).fan).map eF), .sl ((buildT vs.length fs).rnd).length (((buildT vs.length fs).rnd).map eBo)]]) rfl rfl (rfl) tf_17 (c_Sharp _ _ _ _ (by omega) (by omega) tf.se) ?_)))))
 intro H55 m56
 have m57 := m53.trans m56
 refine C rfl (Mv (.tup [.sl ((sharpR (buildT vs.length fs) cr).1).length (((sharpR (buildT vs.length fs) cr).1).map eI), .int .i64 ((sharpR (buildT vs.length fs) cr).2)]) rfl rfl (C rfl (Ex (.sl ((sharpR (buildT vs.length fs) cr).1).length (((sharpR (buildT vs.length fs) cr).1).map eI)) rfl rfl rfl (C rfl (Ex (.int .i64 ((sharpR (buildT vs.length fs) cr).2)) rfl rfl rfl (C rfl (As (.sl ((sharpR (buildT vs.length fs) cr).1).length (((sharpR (buildT vs.length fs) cr).1).map eI)) rfl rfl (C rfl (As (.int .i64 ((sharpR (buildT vs.length fs) cr).2)) rfl rfl ?_)))))))))
 refine AWP.seq ?_
 refine AWP.region_str mixed (by kernel_rfl) [(0, none), (1, none), (2, none), (3, none), (4, none), (5, none), (6, some [0, 1, 2])] [7, 8, 9] (by kernel_rfl) ?_
 refine STR.op rfl rfl (.inl ⟨rfl, fun H1 f' H' hf hN hM => Lf (.agg [.sl vs.length (vs.flatMap eV), .sl fs.length (fs.map eF), .sl cr.length (cr.flatMap eCr)]) rfl ((hf 2 rfl).trans rfl) ty_26 rfl ⟨rfl, hN⟩⟩) ?_
 refine STR.op rfl rfl (.inl ⟨rfl, fun H1 f' H' hf hN hM => Lf (.agg [.sl ((buildT vs.length fs).ed).length (((buildT vs.length fs).ed).flatMap eE), .sl ((buildT vs.length fs).fan).length (((buildT vs.length fs).fan).map eF), .sl ((buildT vs.length fs).rnd).length (((buildT vs.length fs).rnd).map eBo)]) rfl ((hf 8 rfl).trans rfl) ty_35 rfl ⟨rfl, hN⟩⟩) ?_
 refine STR.op rfl rfl (.inl ⟨rfl, fun H1 f' H' hf hN hM => Mv (.sl ((sharpR (buildT vs.length fs) cr).1).length (((sharpR (buildT vs.length fs) cr).1).map eI)) rfl ((hf 10 rfl).trans rfl) ⟨rfl, hN⟩⟩) ?_
 refine STR.op rfl rfl (.inl ⟨rfl, fun H1 f' H' hf hN hM => Ff rfl ((hf 2 rfl).trans rfl) fl_26_0 ⟨rfl, hN⟩⟩) ?_
 refine STR.op rfl rfl (.inl ⟨rfl, fun H1 f' H' hf hN hM => Lf (.sl vs.length (vs.flatMap eV)) rfl ((hf 46 rfl).trans rfl) ty_22 rfl ⟨rfl, hN⟩⟩) ?_
 refine STR.op rfl rfl (.inl ⟨rfl, fun H1 f' H' hf hN hM => AOp.len (m := vs.length) rfl ((hf 47 rfl).trans rfl) (.inr (.inl ⟨_, rfl⟩)) u_22 ⟨rfl, hN⟩⟩) ?_
 refine STR.eff rfl rfl rfl fun f58 H59 hf60 m61 => ?_
 have m62 := m57.trans m61
 refine AOp.makeSlice_own rfl u_102 ts_22 tz_22 tb_22 (by decide) ((hf60 48 rfl).trans rfl) ((hf60 48 rfl).trans rfl) (by omega) (by omega) m62 ?_
 intro v63 H64 o65 m66 k67 j68
 have o69 : Own H0 H64 1 v63 (List.replicate (vs.length : Int).toNat AV.snil).length ((List.replicate (vs.length : Int).toNat AV.snil).map eA) := Own.re o65 (by rw [List.length_replicate]) (by rw [List.map_replicate]; rfl)
 refine ⟨_, rfl, .inl (fun i X hX => (k67 i (by rw [hX]; simp)).trans hX), ?_⟩
 refine STR.done fun H70 m71 => ?_
 have o72 := Own.mono o69 m71
 have m73 := m66.trans m71
 refine C rfl (Bl (cells := [.sl vs.length (vs.flatMap eV), .sl fs.length (fs.map eF), .sl cr.length (cr.flatMap eCr), .sl ((buildT vs.length fs).ed).length (((buildT vs.length fs).ed).flatMap eE), .sl ((buildT vs.length fs).fan).length (((buildT vs.length fs).fan).map eF), .sl ((buildT vs.length fs).rnd).length (((buildT vs.length fs).rnd).map eBo), .sl ((sharpR (buildT vs.length fs) cr).1).length (((sharpR (buildT vs.length fs) cr).1).map eI), v63]) rfl tz_104 pl_104 rfl (fill_step rfl rfl rfl rfl rfl (fill_step rfl rfl rfl rfl rfl (fill_step rfl rfl rfl rfl rfl (fill_own o72 rfl rfl rfl rfl)))) (C rfl (bx_ (.agg [.sl vs.length (vs.flatMap eV), .sl fs.length (fs.map eF), .sl cr.length (cr.flatMap eCr), .sl ((buildT vs.length fs).ed).length (((buildT vs.length fs).ed).flatMap eE), .sl ((buildT vs.length fs).fan).length (((buildT vs.length fs).fan).map eF), .sl ((buildT vs.length fs).rnd).length (((buildT vs.length fs).rnd).map eBo), .sl ((sharpR (buildT vs.length fs) cr).1).length (((sharpR (buildT vs.length fs) cr).1).map eI), v63]) rfl rfl rfl ?_)))
 intro i74 H75 n76 h77 k78
 have z79 := Mono.free m73 n76
 have o80 := Own.keep o72 k78 (Own.notnew o72 n76)
 have no81 := Own.notnew o72 n76
 have m82 := Mono.new m73 n76 k78
 refine C rfl (As (.ptr i74 0 0) rfl rfl ?_)
 refine AWP.seq ?_
 refine AWP.seq ?_
 have oM : MOv H0 H75 [] := MOv.nil _ _
 have oG := Own.re (k := (gvalsv [] vs.length).length) (cs := (gvalsv [] vs.length).map eA) o80 (by rw [gvalsv_len, List.length_replicate]; omega) (by rw [gvalsv_nil, Int.toNat_natCast])
 skip
 refine AWP.region rfl ?_
 refine F rfl rfl fl_35_0 (C rfl (Lf (.sl ((buildT vs.length fs).ed).length (((buildT vs.length fs).ed).flatMap eE)) rfl rfl ty_32 rfl (C rfl (AOp.len (m := ((buildT vs.length fs).ed).length) rfl rfl (.inr (.inl ⟨_, rfl⟩)) u_32 (C rfl (Mv (.int .i64 0) rfl rfl ?_))))))
 refine bk_ ?_
 refine AWP.loop (fun q83 fq Hq => ∃ (i : Int) (L : List MEv) (w12_7 : AV), q83 = (((buildT vs.length fs).ed.length : Int) - i).toNat ∧ fq 55 = .int .i64 i ∧ fq 1 = .int .i64 skin ∧ fq 2 = .fptr [.sl vs.length (vs.flatMap eV), .sl fs.length (fs.map eF), .sl cr.length (cr.flatMap eCr)] 0 ∧ fq 4 = .snil ∧ fq 5 = .int .i64 0 ∧ fq 10 = .sl ((sharpR (buildT vs.length fs) cr).1).length (((sharpR (buildT vs.length fs) cr).1).map eI) ∧ fq 12 = .ptr i74 0 0 ∧ fq 53 = .sl ((buildT vs.length fs).ed).length (((buildT vs.length fs).ed).flatMap eE) ∧ fq 54 = .int .i64 ((((buildT vs.length fs).ed).length) : Int) ∧ Own H0 Hq 1 w12_7 (gvalsv L vs.length).length ((gvalsv L vs.length).map eA) ∧ NotId w12_7 i74 ∧ MOv H0 Hq L ∧ NotIdMv L i74 ∧ SepMv L w12_7 ∧ Hq i74 = some (.row 0 ([.sl vs.length (vs.flatMap eV), .sl fs.length (fs.map eF), .sl cr.length (cr.flatMap eCr), .sl ((buildT vs.length fs).ed).length (((buildT vs.length fs).ed).flatMap eE), .sl ((buildT vs.length fs).fan).length (((buildT vs.length fs).fan).map eF), .sl ((buildT vs.length fs).rnd).length (((buildT vs.length fs).rnd).map eBo), .sl ((sharpR (buildT vs.length fs) cr).1).length (((sharpR (buildT vs.length fs) cr).1).map eI), w12_7])) ∧ Mono H0 Hq ∧ (0 ≤ i) ∧ (i ≤ ((buildT vs.length fs).ed.length : Int)) ∧ (∀ x : Int, (getMv L x).2 = hdU vs (buildT vs.length fs).ed (sharpR (buildT vs.length fs) cr).1 i x)) (k := (((buildT vs.length fs).ed.length : Int) - 0).toNat) ?_ ?_
 exact ⟨0, ([] : List MEv), v63, rfl, rfl, rfl, rfl, rfl, rfl, rfl, rfl, rfl, rfl, (have hx : ((gvalsv [] vs.length) : List AV) = gvalsv ([] : List MEv) vs.length := (by first | rfl | simp); Own.re oG (congrArg List.length hx) (congrArg (fun l : List AV => l.map eA) hx)), no81, oM, (NotIdMv.nil _), (SepMv.nil _), h77, m82, by omega, by omega, by intro x; rfl⟩
 rintro _ f85 H84 ⟨i, L, w12_7, rfl, s86, s87, s88, s89, s90, s91, s92, s93, s94, o95, no96, o97, no98, sp99, h100, m101, hi0, hi1, hG⟩
 refine Sr ?_
 refine C rfl (Bi (.bool (decide (i < ((((buildT vs.length fs).ed).length) : Int)))) rfl s86 s94 rfl ?_)
 refine AWP.seq ?_
 by_cases b102 : i < ((((buildT vs.length fs).ed).length) : Int)
 refine ct_ rfl (decide_eq_true b102) ?_
 refine AWP.skip ?_
 refine AWP.seq ?_
 refine bk_ ?_
 refine Sr ?_
 refine C rfl (Mv (.int .i64 i) rfl s86 (C rfl (iS_ rfl s93 s86 sl_32 (by omega) (by omega) (C rfl (Lf (.agg [.int .i64 ((at_ ((buildT vs.length fs).ed) i).A), .int .i64 ((at_ ((buildT vs.length fs).ed) i).B), .int .i64 ((at_ ((buildT vs.length fs).ed) i).F), .int .i64 ((at_ ((buildT vs.length fs).ed) i).G)]) rfl rfl ty_47 (ldM eE_len (by omega) (by omega)) (C rfl (al_ rfl tz_47 ?_)))))))
 intro i103 H104 n105 h106 k107
 have e108 := ne_new h100 n105
 have z109 := Mono.free m101 n105
 have h110 := keep k107 (ne_new h100 n105) h100
 have o111 := Own.keep o95 k107 (Own.notnew o95 n105)
 have no112 := Own.notnew o95 n105
 have o113 := MOv.keep o97 k107 (MOv.notnew o97 n105)
 have no114 := MOv.notnew o97 n105
 have m115 := Mono.new m101 n105 k107
 refine C rfl (As (.int .i64 i) rfl rfl (C rfl (Sw rfl rfl ts_47 h106 rfl rfl rfl ?_)))
 intro H116 h117 k118
 have h119 := keep k118 e108 h110
 have o121 := Own.keep o111 k118 no112
 have o122 := MOv.keep o113 k118 no114
 have m123 := Mono.set m115 z109 k118
 refine AWP.seq ?_
 refine fz_ 14 h117 z109 rfl m123 fun H124 m125 k126 => ?_
 have h127 := (k126 _ e108).trans h119
 have o128 := Own.keep o121 k126 no112
 have o129 := MOv.keep o122 k126 no114
 have hek := tf.ab _ (at_mem (l := (buildT vs.length fs).ed) hi0 (by omega))
 refine AWP.region rfl ?_
 refine C rfl (Mv (.sl ((sharpR (buildT vs.length fs) cr).1).length (((sharpR (buildT vs.length fs) cr).1).map eI)) rfl s91 (C rfl (Mv (.int .i64 i) rfl rfl (C rfl (iS_ rfl rfl rfl sl_38 (by omega) (by omega) (C rfl (Lf (.int .i64 (at_ ((sharpR (buildT vs.length fs) cr).1) i)) rfl rfl ty_3 (ld1 (by omega) (by omega)) (C rfl (Bi (.bool (!decide (at_ ((sharpR (buildT vs.length fs) cr).1) i = 0))) rfl rfl rfl ine ?_)))))))))
 refine AOps.nil ?_
 change AWP _ _ _ _ _ _
 by_cases b130 : at_ ((sharpR (buildT vs.length fs) cr).1) i = 0
 refine cf_ rfl (nb (decide_eq_true b130)) ?_
 refine AWP.skip ?_
 refine AWP.region rfl ?_
 refine C rfl (Bi (.int .i64 (i + 1)) rfl s86 rfl (iadd (by omega)) (C rfl (Mv (.int .i64 (i + 1)) rfl rfl ?_)))
 refine AOps.nil ?_
 exact ⟨_, by omega, i + 1, L, w12_7, rfl, rfl, s87, s88, s89, s90, s91, s92, s93, s94, o128, no96, o129, no98, sp99, h127, m125, by omega, by omega, by exact hd_Z hi0 b130 hG⟩
 refine ct_ rfl (nb (decide_eq_false b130)) ?_
 refine AWP.seq ?_
 have hl1 := hdU_len (vs := vs) (ed := (buildT vs.length fs).ed) (sh := (sharpR (buildT vs.length fs) cr).1) (k := i) (at_ (buildT vs.length fs).ed i).A
 rw [← hG] at hl1
 refine AWP.region_str mixed (by kernel_rfl) [(0, none), (1, none), (2, none), (3, none), (4, none), (5, none), (6, none), (7, none), (8, none), (9, none), (10, none), (11, none), (12, none), (13, none), (14, none), (15, none), (16, none), (17, none), (18, none), (19, none), (20, some [0, 1, 2, 3, 4, 5, 6, 7, 8, 9, 10, 11, 12, 13]), (21, some [0, 1, 2, 3, 4, 5])] [22, 23] (by kernel_rfl) ?_
 refine STR.op rfl rfl (.inl ⟨rfl, fun H1 f' H' hf hN hM => Mv (.ptr i74 0 0) rfl ((hf 12 rfl).trans s92) ⟨rfl, hN⟩⟩) ?_
 refine STR.op rfl rfl (.inl ⟨rfl, fun H1 f' H' hf hN hM => nc_ (.ptr i74 0 0) rfl ((hf 65 rfl).trans rfl) rfl ⟨rfl, hN⟩⟩) ?_
 refine STR.op rfl rfl (.inl ⟨rfl, fun H1 f' H' hf hN hM => Fa rfl ((hf 66 rfl).trans rfl) fl_104_3 ⟨rfl, hN⟩ (hid := ⟨_, (hM _ _ h127)⟩)⟩) ?_
 refine STR.op rfl rfl (.inl ⟨rfl, fun H1 f' H' hf hN hM => Ld (w12_7) rfl ((hf 67 rfl).trans rfl) ty_102 (hM _ _ h127) rfl ⟨rfl, hN⟩⟩) ?_
 refine STR.op rfl rfl (.inl ⟨rfl, fun H1 f' H' hf hN hM => Ff rfl ((hf 14 rfl).trans rfl) fl_47_0 ⟨rfl, hN⟩⟩) ?_
 refine STR.op rfl rfl (.inl ⟨rfl, fun H1 f' H' hf hN hM => Lf (.int .i64 ((at_ ((buildT vs.length fs).ed) i).A)) rfl ((hf 69 rfl).trans rfl) ty_3 rfl ⟨rfl, hN⟩⟩) ?_
 refine STR.op rfl rfl (.inl ⟨rfl, fun H1 f' H' hf hN hM => Mv (.ptr i74 0 0) rfl ((hf 12 rfl).trans s92) ⟨rfl, hN⟩⟩) ?_
 refine STR.op rfl rfl (.inl ⟨rfl, fun H1 f' H' hf hN hM => nc_ (.ptr i74 0 0) rfl ((hf 71 rfl).trans rfl) rfl ⟨rfl, hN⟩⟩) ?_
 refine STR.op rfl rfl (.inl ⟨rfl, fun H1 f' H' hf hN hM => Fa rfl ((hf 72 rfl).trans rfl) fl_104_3 ⟨rfl, hN⟩ (hid := ⟨_, (hM _ _ h127)⟩)⟩) ?_
 refine STR.op rfl rfl (.inl ⟨rfl, fun H1 f' H' hf hN hM => Ld (w12_7) rfl ((hf 73 rfl).trans rfl) ty_102 (hM _ _ h127) rfl ⟨rfl, hN⟩⟩) ?_
 refine STR.op rfl rfl (.inl ⟨rfl, fun H1 f' H' hf hN hM => Ff rfl ((hf 14 rfl).trans rfl) fl_47_0 ⟨rfl, hN⟩⟩) ?_
 refine STR.op rfl rfl (.inl ⟨rfl, fun H1 f' H' hf hN hM => Lf (.int .i64 ((at_ ((buildT vs.length fs).ed) i).A)) rfl ((hf 75 rfl).trans rfl) ty_3 rfl ⟨rfl, hN⟩⟩) ?_
 obtain ⟨i131, ver132, e133, h134, _, _⟩ := Own.pos o128 (by first | omega | (rw [gvalsv_len]; omega))
 refine STR.op rfl rfl (.inl ⟨rfl, fun H1 f' H' hf hN hM => AOp.indexAddrO rfl (Eq.trans ((hf 74 rfl).trans rfl) e133) ((hf 76 rfl).trans rfl) sl_102 (by first | omega | (rw [gvalsv_len]; omega)) (by first | omega | (rw [gvalsv_len]; omega)) (hM _ _ h134) ⟨rfl, hN⟩⟩) ?_
 obtain ⟨w135, hw136⟩ : ∃ w, w = (getMv L ((at_ ((buildT vs.length fs).ed) i).A)).1 := ⟨_, rfl⟩
 obtain ⟨oA137, oB138, oC139⟩ := MOv.take o129 ((at_ ((buildT vs.length fs).ed) i).A)
 rw [← hw136] at oA137 oC139
 have no140 := NotIdMv.get no98 ((at_ ((buildT vs.length fs).ed) i).A)
 rw [← hw136] at no140
 have no141 := NotIdMv.rest no98 ((at_ ((buildT vs.length fs).ed) i).A)
 have sp142 := SepMv.get sp99 ((at_ ((buildT vs.length fs).ed) i).A)
 rw [← hw136] at sp142
 have sp143 := SepMv.rest sp99 ((at_ ((buildT vs.length fs).ed) i).A)
 refine STR.op rfl rfl (.inl ⟨rfl, fun H1 f' H' hf hN hM => Ld (w135) rfl ((hf 77 rfl).trans rfl) ty_22 (hM _ _ h134) (by rw [hw136]; exact gldv (by omega) (by omega)) ⟨rfl, hN⟩⟩) ?_
 refine STR.op rfl rfl (.inl ⟨rfl, fun H1 f' H' hf hN hM => Ff rfl ((hf 2 rfl).trans s88) fl_26_0 ⟨rfl, hN⟩⟩) ?_
 refine STR.op rfl rfl (.inl ⟨rfl, fun H1 f' H' hf hN hM => Lf (.sl vs.length (vs.flatMap eV)) rfl ((hf 79 rfl).trans rfl) ty_22 rfl ⟨rfl, hN⟩⟩) ?_
 refine STR.op rfl rfl (.inl ⟨rfl, fun H1 f' H' hf hN hM => Ff rfl ((hf 14 rfl).trans rfl) fl_47_1 ⟨rfl, hN⟩⟩) ?_
 refine STR.op rfl rfl (.inl ⟨rfl, fun H1 f' H' hf hN hM => Lf (.int .i64 ((at_ ((buildT vs.length fs).ed) i).B)) rfl ((hf 81 rfl).trans rfl) ty_3 rfl ⟨rfl, hN⟩⟩) ?_
 refine STR.op rfl rfl (.inl ⟨rfl, fun H1 f' H' hf hN hM => iS_ rfl ((hf 80 rfl).trans rfl) ((hf 82 rfl).trans rfl) sl_22 (by omega) (by omega) ⟨rfl, hN⟩⟩) ?_
 refine STR.op rfl rfl (.inl ⟨rfl, fun H1 f' H' hf hN hM => Lf (.agg (eV (at_ vs ((at_ ((buildT vs.length fs).ed) i).B)))) rfl ((hf 83 rfl).trans rfl) ty_42 (ldM eV_len (by omega) (by omega)) ⟨rfl, hN⟩⟩) ?_
 refine STR.eff rfl rfl rfl fun f144 H145 hf146 m147 => ?_
 have h148 := m147 _ _ h127
 have o149 := Own.mono o128 m147
 have o150 := MOv.mono oB138 m147
 have o151 := Own.mono oA137 m147
 have m152 := m125.trans m147
 refine AOp.buildSlice (cells := (eV (at_ vs ((at_ ((buildT vs.length fs).ed) i).B)))) rfl u_22 ts_42 tz_42 rfl (lconsP ((hf146 84 rfl).trans rfl) rfl) rfl ?_
 intro i153 H154 n155 h156 k157
 have h160 := keep k157 (ne_new h148 n155) h148
 have o161 := Own.keep o149 k157 (Own.notnew o149 n155)
 have o163 := MOv.keep o150 k157 (MOv.notnew o150 n155)
 have o165 := Own.keep o151 k157 (Own.notnew o151 n155)
 have m167 := Mono.new m152 n155 k157
 refine ⟨_, rfl, .inl (Mono.new (Mono.refl _) n155 k157), ?_⟩
 refine STR.eff rfl rfl rfl fun f168 H169 hf170 m171 => ?_
 have h172 := m171 _ _ h160
 have h173 := m171 _ _ h156
 have o174 := Own.mono o161 m171
 have o175 := MOv.mono o163 m171
 have o176 := Own.mono o165 m171
 have m177 := m167.trans m171
 refine AOp.append_own (es := 3) (m := 1) (len := (((getMv L ((at_ ((buildT vs.length fs).ed) i).A)).2).length)) (old := ((getMv L ((at_ ((buildT vs.length fs).ed) i).A)).2).flatMap eV) (cells := (eV (at_ vs ((at_ ((buildT vs.length fs).ed) i).B)))) rfl u_22 ts_42 tzn_42 tb_42 (by decide) ni_22 ((hf170 78 rfl).trans rfl) o176 m177 ((hf170 85 rfl).trans rfl) (.slm h173 rfl) (one_of rfl) (by decide) (by first | omega | (simp only [List.length_append, List.length_cons, List.length_nil]; omega)) ?_
 intro v178 H179 o180 m181 k182 j183
 have o184 := Own.snocM (xs := (((getMv L ((at_ ((buildT vs.length fs).ed) i).A)).2) : List VT)) (y := (at_ vs ((at_ ((buildT vs.length fs).ed) i).B))) (e := eV) (by simp) o180
 have h185 := (k182 _ no140 (by rw [h172]; simp)).trans h172
 have no186 := j183 _ no140 (by rw [h172]; simp)
 have sp188 := Own.sep o174 (Sep.symm sp142) j183
 have o187 := Own.stay o174 (Sep.symm sp142) k182
 have sp190 := MOv.sep o175 oC139 j183
 have o189 := MOv.stay o175 oC139 k182
 refine ⟨_, rfl, .inr (RevR.skip rfl (RevR.skip rfl (RevR.skip rfl (RevR.skip rfl (RevR.skip rfl (RevR.skip rfl (RevR.skip rfl (RevR.skip rfl (RevR.skip rfl (RevR.skip rfl (RevR.skip rfl (RevR.skip rfl (RevR.skip rfl (RevR.skip rfl (RevR.skip rfl (RevR.cons rfl (.inl ⟨rfl, fun H1 f' H' hf hN hM => Lf (.int .i64 ((at_ ((buildT vs.length fs).ed) i).A)) rfl ((hf 69 rfl).trans rfl) ty_3 rfl ⟨rfl, hN⟩⟩) (RevR.cons rfl (.inl ⟨rfl, fun H1 f' H' hf hN hM => Ff rfl ((hf 14 rfl).trans rfl) fl_47_0 ⟨rfl, hN⟩⟩) (RevR.cons rfl (.inl ⟨rfl, fun H1 f' H' hf hN hM => Ld (w12_7) rfl ((hf 67 rfl).trans rfl) ty_102 (hM _ _ h185) rfl ⟨rfl, hN⟩⟩) (RevR.cons rfl (.inl ⟨rfl, fun H1 f' H' hf hN hM => Fa rfl ((hf 66 rfl).trans rfl) fl_104_3 ⟨rfl, hN⟩ (hid := ⟨_, (hM _ _ h185)⟩)⟩) (RevR.cons rfl (.inl ⟨rfl, fun H1 f' H' hf hN hM => nc_ (.ptr i74 0 0) rfl ((hf 65 rfl).trans rfl) rfl ⟨rfl, hN⟩⟩) (RevR.cons rfl (.inl ⟨rfl, fun H1 f' H' hf hN hM => Mv (.ptr i74 0 0) rfl ((hf 12 rfl).trans s92) ⟨rfl, hN⟩⟩) RevR.nil))))))))))))))))))))), ?_⟩
 refine STR.done fun H191 m192 => ?_
 have h193 := m192 _ _ h185
 have o194 := Own.mono o187 m192
 have o195 := MOv.mono o189 m192
 have o196 := Own.mono o184 m192
 have m197 := m181.trans m192
 obtain ⟨i198, ver199, e200, h201, _, _⟩ := Own.pos o194 (by first | omega | (rw [gvalsv_len]; omega))
 refine C rfl (AOp.indexAddrO rfl (Eq.trans rfl e200) rfl sl_102 (by first | omega | (rw [gvalsv_len]; omega)) (by first | omega | (rw [gvalsv_len]; omega)) h201 (C rfl (AOp.storeO (cells' := ((gvalsv L vs.length).set ((at_ ((buildT vs.length fs).ed) i).A).toNat v178).map eA) rfl rfl o196 ts_22 (Own.at_ e200 o194).1 (blelen (by rw [List.length_map]) (by rw [gvalsv_len]; omega)) (wr_set1 (e := eA) (by omega) (by rw [gvalsv_len]; omega)) ?_)))
 intro H202 h203 k204
 have h205 := (k204 _ (NotId.ne no96 e200)).trans h193
 have o206 := Own.store e200 o194 h203 (len' := ((gvalsv L vs.length).set ((at_ ((buildT vs.length fs).ed) i).A).toNat v178).length) (by rw [List.length_set]) (by rw [List.length_map, Nat.mul_one, List.length_set])
 have m207 := Mono.set m197 (Own.at_ e200 o194).2.1 k204
 have o208 := MOv.stay o195 sp143 (fun i hi _ => k204 i (NotId.ne hi e200))
 have o209 := Own.stay o196 (Sep.symm sp188) (fun i hi _ => k204 i (NotId.ne hi e200))
 have o210 := MOv.put (L := L) o208 o209 sp190
 have hg211 := gvalsv_set (L := L) (n := vs.length) (x := (at_ ((buildT vs.length fs).ed) i).A) (w := v178) (xs := (((getMv L ((at_ ((buildT vs.length fs).ed) i).A)).2) ++ [(at_ vs ((at_ ((buildT vs.length fs).ed) i).B))])) (by omega) (by omega)
 have o212 := Own.re o206 (congrArg List.length hg211) (congrArg (fun l : List AV => l.map eA) hg211)
 have no213 := NotIdMv.put (xs := (((getMv L ((at_ ((buildT vs.length fs).ed) i).A)).2) ++ [(at_ vs ((at_ ((buildT vs.length fs).ed) i).B))])) no141 no186
 have sp214 := SepMv.put_ (xs := (((getMv L ((at_ ((buildT vs.length fs).ed) i).A)).2) ++ [(at_ vs ((at_ ((buildT vs.length fs).ed) i).B))])) sp143 (Sep.symm sp188)
 refine AOps.nil ?_
 change AWP _ _ _ _ _ _
 have hG1 := hd_A (w := v178) (xs := (((getMv L ((at_ ((buildT vs.length fs).ed) i).A)).2) ++ [(at_ vs ((at_ ((buildT vs.length fs).ed) i).B))])) hG rfl
 have hl2 := hdM_len (vs := vs) (ed := (buildT vs.length fs).ed) (sh := (sharpR (buildT vs.length fs) cr).1) (k := i) (at_ (buildT vs.length fs).ed i).B
 rw [← hG1] at hl2
 skip
 refine AWP.region_str mixed (by kernel_rfl) [(0, none), (1, none), (2, none), (3, none), (4, none), (5, none), (6, none), (7, none), (8, none), (9, none), (10, none), (11, none), (12, none), (13, none), (14, none), (15, none), (16, none), (17, none), (18, none), (19, none), (20, some [0, 1, 2, 3, 4, 5, 6, 7, 8, 9, 10, 11, 12, 13]), (21, some [0, 1, 2, 3, 4, 5])] [22, 23] (by kernel_rfl) ?_
 refine STR.op rfl rfl (.inl ⟨rfl, fun H1 f' H' hf hN hM => Mv (.ptr i74 0 0) rfl ((hf 12 rfl).trans s92) ⟨rfl, hN⟩⟩) ?_
 refine STR.op rfl rfl (.inl ⟨rfl, fun H1 f' H' hf hN hM => nc_ (.ptr i74 0 0) rfl ((hf 88 rfl).trans rfl) rfl ⟨rfl, hN⟩⟩) ?_
 refine STR.op rfl rfl (.inl ⟨rfl, fun H1 f' H' hf hN hM => Fa rfl ((hf 89 rfl).trans rfl) fl_104_3 ⟨rfl, hN⟩ (hid := ⟨_, (hM _ _ h205)⟩)⟩) ?_
 refine STR.op rfl rfl (.inl ⟨rfl, fun H1 f' H' hf hN hM => Ld (w12_7) rfl ((hf 90 rfl).trans rfl) ty_102 (hM _ _ h205) rfl ⟨rfl, hN⟩⟩) ?_
 refine STR.op rfl rfl (.inl ⟨rfl, fun H1 f' H' hf hN hM => Ff rfl ((hf 14 rfl).trans rfl) fl_47_1 ⟨rfl, hN⟩⟩) ?_
 refine STR.op rfl rfl (.inl ⟨rfl, fun H1 f' H' hf hN hM => Lf (.int .i64 ((at_ ((buildT vs.length fs).ed) i).B)) rfl ((hf 92 rfl).trans rfl) ty_3 rfl ⟨rfl, hN⟩⟩) ?_
 refine STR.op rfl rfl (.inl ⟨rfl, fun H1 f' H' hf hN hM => Mv (.ptr i74 0 0) rfl ((hf 12 rfl).trans s92) ⟨rfl, hN⟩⟩) ?_
 refine STR.op rfl rfl (.inl ⟨rfl, fun H1 f' H' hf hN hM => nc_ (.ptr i74 0 0) rfl ((hf 94 rfl).trans rfl) rfl ⟨rfl, hN⟩⟩) ?_
 refine STR.op rfl rfl (.inl ⟨rfl, fun H1 f' H' hf hN hM => Fa rfl ((hf 95 rfl).trans rfl) fl_104_3 ⟨rfl, hN⟩ (hid := ⟨_, (hM _ _ h205)⟩)⟩) ?_
 refine STR.op rfl rfl (.inl ⟨rfl, fun H1 f' H' hf hN hM => Ld (w12_7) rfl ((hf 96 rfl).trans rfl) ty_102 (hM _ _ h205) rfl ⟨rfl, hN⟩⟩) ?_
 refine STR.op rfl rfl (.inl ⟨rfl, fun H1 f' H' hf hN hM => Ff rfl ((hf 14 rfl).trans rfl) fl_47_1 ⟨rfl, hN⟩⟩) ?_
 refine STR.op rfl rfl (.inl ⟨rfl, fun H1 f' H' hf hN hM => Lf (.int .i64 ((at_ ((buildT vs.length fs).ed) i).B)) rfl ((hf 98 rfl).trans rfl) ty_3 rfl ⟨rfl, hN⟩⟩) ?_
 obtain ⟨i215, ver216, e217, h218, _, _⟩ := Own.pos o212 (by first | omega | (rw [gvalsv_len]; omega))
 refine STR.op rfl rfl (.inl ⟨rfl, fun H1 f' H' hf hN hM => AOp.indexAddrO rfl (Eq.trans ((hf 97 rfl).trans rfl) e217) ((hf 99 rfl).trans rfl) sl_102 (by first | omega | (rw [gvalsv_len]; omega)) (by first | omega | (rw [gvalsv_len]; omega)) (hM _ _ h218) ⟨rfl, hN⟩⟩) ?_
 obtain ⟨w219, hw220⟩ : ∃ w, w = (getMv (putMv L ((at_ ((buildT vs.length fs).ed) i).A) v178 (((getMv L ((at_ ((buildT vs.length fs).ed) i).A)).2) ++ [(at_ vs ((at_ ((buildT vs.length fs).ed) i).B))])) ((at_ ((buildT vs.length fs).ed) i).B)).1 := ⟨_, rfl⟩
 obtain ⟨oA221, oB222, oC223⟩ := MOv.take o210 ((at_ ((buildT vs.length fs).ed) i).B)
 rw [← hw220] at oA221 oC223
 have no224 := NotIdMv.get no213 ((at_ ((buildT vs.length fs).ed) i).B)
 rw [← hw220] at no224
 have no225 := NotIdMv.rest no213 ((at_ ((buildT vs.length fs).ed) i).B)
 have sp226 := SepMv.get sp214 ((at_ ((buildT vs.length fs).ed) i).B)
 rw [← hw220] at sp226
 have sp227 := SepMv.rest sp214 ((at_ ((buildT vs.length fs).ed) i).B)
 refine STR.op rfl rfl (.inl ⟨rfl, fun H1 f' H' hf hN hM => Ld (w219) rfl ((hf 100 rfl).trans rfl) ty_22 (hM _ _ h218) (by rw [hw220]; exact gldv (by omega) (by omega)) ⟨rfl, hN⟩⟩) ?_
 refine STR.op rfl rfl (.inl ⟨rfl, fun H1 f' H' hf hN hM => Ff rfl ((hf 2 rfl).trans s88) fl_26_0 ⟨rfl, hN⟩⟩) ?_
 refine STR.op rfl rfl (.inl ⟨rfl, fun H1 f' H' hf hN hM => Lf (.sl vs.length (vs.flatMap eV)) rfl ((hf 102 rfl).trans rfl) ty_22 rfl ⟨rfl, hN⟩⟩) ?_
 refine STR.op rfl rfl (.inl ⟨rfl, fun H1 f' H' hf hN hM => Ff rfl ((hf 14 rfl).trans rfl) fl_47_0 ⟨rfl, hN⟩⟩) ?_
 refine STR.op rfl rfl (.inl ⟨rfl, fun H1 f' H' hf hN hM => Lf (.int .i64 ((at_ ((buildT vs.length fs).ed) i).A)) rfl ((hf 104 rfl).trans rfl) ty_3 rfl ⟨rfl, hN⟩⟩) ?_
 refine STR.op rfl rfl (.inl ⟨rfl, fun H1 f' H' hf hN hM => iS_ rfl ((hf 103 rfl).trans rfl) ((hf 105 rfl).trans rfl) sl_22 (by omega) (by omega) ⟨rfl, hN⟩⟩) ?_
 refine STR.op rfl rfl (.inl ⟨rfl, fun H1 f' H' hf hN hM => Lf (.agg (eV (at_ vs ((at_ ((buildT vs.length fs).ed) i).A)))) rfl ((hf 106 rfl).trans rfl) ty_42 (ldM eV_len (by omega) (by omega)) ⟨rfl, hN⟩⟩) ?_
 refine STR.eff rfl rfl rfl fun f228 H229 hf230 m231 => ?_
 have h232 := m231 _ _ h205
 have o233 := Own.mono o212 m231
 have o234 := MOv.mono oB222 m231
 have o235 := Own.mono oA221 m231
 have m236 := m207.trans m231
 refine AOp.buildSlice (cells := (eV (at_ vs ((at_ ((buildT vs.length fs).ed) i).A)))) rfl u_22 ts_42 tz_42 rfl (lconsP ((hf230 107 rfl).trans rfl) rfl) rfl ?_
 intro i237 H238 n239 h240 k241
 have h244 := keep k241 (ne_new h232 n239) h232
 have o245 := Own.keep o233 k241 (Own.notnew o233 n239)
 have o247 := MOv.keep o234 k241 (MOv.notnew o234 n239)
 have o249 := Own.keep o235 k241 (Own.notnew o235 n239)
 have m251 := Mono.new m236 n239 k241
 refine ⟨_, rfl, .inl (Mono.new (Mono.refl _) n239 k241), ?_⟩
 refine STR.eff rfl rfl rfl fun f252 H253 hf254 m255 => ?_
 have h256 := m255 _ _ h244
 have h257 := m255 _ _ h240
 have o258 := Own.mono o245 m255
 have o259 := MOv.mono o247 m255
 have o260 := Own.mono o249 m255
 have m261 := m251.trans m255
 refine AOp.append_own (es := 3) (m := 1) (len := (((getMv (putMv L ((at_ ((buildT vs.length fs).ed) i).A) v178 (((getMv L ((at_ ((buildT vs.length fs).ed) i).A)).2) ++ [(at_ vs ((at_ ((buildT vs.length fs).ed) i).B))])) ((at_ ((buildT vs.length fs).ed) i).B)).2).length)) (old := ((getMv (putMv L ((at_ ((buildT vs.length fs).ed) i).A) v178 (((getMv L ((at_ ((buildT vs.length fs).ed) i).A)).2) ++ [(at_ vs ((at_ ((buildT vs.length fs).ed) i).B))])) ((at_ ((buildT vs.length fs).ed) i).B)).2).flatMap eV) (cells := (eV (at_ vs ((at_ ((buildT vs.length fs).ed) i).A)))) rfl u_22 ts_42 tzn_42 tb_42 (by decide) ni_22 ((hf254 101 rfl).trans rfl) o260 m261 ((hf254 108 rfl).trans rfl) (.slm h257 rfl) (one_of rfl) (by decide) (by first | omega | (simp only [List.length_append, List.length_cons, List.length_nil]; omega)) ?_
 intro v262 H263 o264 m265 k266 j267
 have o268 := Own.snocM (xs := (((getMv (putMv L ((at_ ((buildT vs.length fs).ed) i).A) v178 (((getMv L ((at_ ((buildT vs.length fs).ed) i).A)).2) ++ [(at_ vs ((at_ ((buildT vs.length fs).ed) i).B))])) ((at_ ((buildT vs.length fs).ed) i).B)).2) : List VT)) (y := (at_ vs ((at_ ((buildT vs.length fs).ed) i).A))) (e := eV) (by simp) o264
 have h269 := (k266 _ no224 (by rw [h256]; simp)).trans h256
 have no270 := j267 _ no224 (by rw [h256]; simp)
 have sp272 := Own.sep o258 (Sep.symm sp226) j267
 have o271 := Own.stay o258 (Sep.symm sp226) k266
 have sp274 := MOv.sep o259 oC223 j267
 have o273 := MOv.stay o259 oC223 k266
 refine ⟨_, rfl, .inr (RevR.skip rfl (RevR.skip rfl (RevR.skip rfl (RevR.skip rfl (RevR.skip rfl (RevR.skip rfl (RevR.skip rfl (RevR.skip rfl (RevR.skip rfl (RevR.skip rfl (RevR.skip rfl (RevR.skip rfl (RevR.skip rfl (RevR.skip rfl (RevR.skip rfl (RevR.cons rfl (.inl ⟨rfl, fun H1 f' H' hf hN hM => Lf (.int .i64 ((at_ ((buildT vs.length fs).ed) i).B)) rfl ((hf 92 rfl).trans rfl) ty_3 rfl ⟨rfl, hN⟩⟩) (RevR.cons rfl (.inl ⟨rfl, fun H1 f' H' hf hN hM => Ff rfl ((hf 14 rfl).trans rfl) fl_47_1 ⟨rfl, hN⟩⟩) (RevR.cons rfl (.inl ⟨rfl, fun H1 f' H' hf hN hM => Ld (w12_7) rfl ((hf 90 rfl).trans rfl) ty_102 (hM _ _ h269) rfl ⟨rfl, hN⟩⟩) (RevR.cons rfl (.inl ⟨rfl, fun H1 f' H' hf hN hM => Fa rfl ((hf 89 rfl).trans rfl) fl_104_3 ⟨rfl, hN⟩ (hid := ⟨_, (hM _ _ h269)⟩)⟩) (RevR.cons rfl (.inl ⟨rfl, fun H1 f' H' hf hN hM => nc_ (.ptr i74 0 0) rfl ((hf 88 rfl).trans rfl) rfl ⟨rfl, hN⟩⟩) (RevR.cons rfl (.inl ⟨rfl, fun H1 f' H' hf hN hM => Mv (.ptr i74 0 0) rfl ((hf 12 rfl).trans s92) ⟨rfl, hN⟩⟩) RevR.nil))))))))))))))))))))), ?_⟩
 refine STR.done fun H275 m276 => ?_
 have h277 := m276 _ _ h269
 have o278 := Own.mono o271 m276
 have o279 := MOv.mono o273 m276
 have o280 := Own.mono o268 m276
 have m281 := m265.trans m276
 obtain ⟨i282, ver283, e284, h285, _, _⟩ := Own.pos o278 (by first | omega | (rw [gvalsv_len]; omega))
 refine C rfl (AOp.indexAddrO rfl (Eq.trans rfl e284) rfl sl_102 (by first | omega | (rw [gvalsv_len]; omega)) (by first | omega | (rw [gvalsv_len]; omega)) h285 (C rfl (AOp.storeO (cells' := ((gvalsv (putMv L ((at_ ((buildT vs.length fs).ed) i).A) v178 (((getMv L ((at_ ((buildT vs.length fs).ed) i).A)).2) ++ [(at_ vs ((at_ ((buildT vs.length fs).ed) i).B))])) vs.length).set ((at_ ((buildT vs.length fs).ed) i).B).toNat v262).map eA) rfl rfl o280 ts_22 (Own.at_ e284 o278).1 (blelen (by rw [List.length_map]) (by rw [gvalsv_len]; omega)) (wr_set1 (e := eA) (by omega) (by rw [gvalsv_len]; omega)) ?_)))
 intro H286 h287 k288
 have h289 := (k288 _ (NotId.ne no96 e284)).trans h277
 have o290 := Own.store e284 o278 h287 (len' := ((gvalsv (putMv L ((at_ ((buildT vs.length fs).ed) i).A) v178 (((getMv L ((at_ ((buildT vs.length fs).ed) i).A)).2) ++ [(at_ vs ((at_ ((buildT vs.length fs).ed) i).B))])) vs.length).set ((at_ ((buildT vs.length fs).ed) i).B).toNat v262).length) (by rw [List.length_set]) (by rw [List.length_map, Nat.mul_one, List.length_set])
 have m291 := Mono.set m281 (Own.at_ e284 o278).2.1 k288
 have o292 := MOv.stay o279 sp227 (fun i hi _ => k288 i (NotId.ne hi e284))
 have o293 := Own.stay o280 (Sep.symm sp272) (fun i hi _ => k288 i (NotId.ne hi e284))
 have o294 := MOv.put (L := (putMv L ((at_ ((buildT vs.length fs).ed) i).A) v178 (((getMv L ((at_ ((buildT vs.length fs).ed) i).A)).2) ++ [(at_ vs ((at_ ((buildT vs.length fs).ed) i).B))]))) o292 o293 sp274
 have hg295 := gvalsv_set (L := (putMv L ((at_ ((buildT vs.length fs).ed) i).A) v178 (((getMv L ((at_ ((buildT vs.length fs).ed) i).A)).2) ++ [(at_ vs ((at_ ((buildT vs.length fs).ed) i).B))]))) (n := vs.length) (x := (at_ ((buildT vs.length fs).ed) i).B) (w := v262) (xs := (((getMv (putMv L ((at_ ((buildT vs.length fs).ed) i).A) v178 (((getMv L ((at_ ((buildT vs.length fs).ed) i).A)).2) ++ [(at_ vs ((at_ ((buildT vs.length fs).ed) i).B))])) ((at_ ((buildT vs.length fs).ed) i).B)).2) ++ [(at_ vs ((at_ ((buildT vs.length fs).ed) i).A))])) (by omega) (by omega)
 have o296 := Own.re o290 (congrArg List.length hg295) (congrArg (fun l : List AV => l.map eA) hg295)
 have no297 := NotIdMv.put (xs := (((getMv (putMv L ((at_ ((buildT vs.length fs).ed) i).A) v178 (((getMv L ((at_ ((buildT vs.length fs).ed) i).A)).2) ++ [(at_ vs ((at_ ((buildT vs.length fs).ed) i).B))])) ((at_ ((buildT vs.length fs).ed) i).B)).2) ++ [(at_ vs ((at_ ((buildT vs.length fs).ed) i).A))])) no225 no270
 have sp298 := SepMv.put_ (xs := (((getMv (putMv L ((at_ ((buildT vs.length fs).ed) i).A) v178 (((getMv L ((at_ ((buildT vs.length fs).ed) i).A)).2) ++ [(at_ vs ((at_ ((buildT vs.length fs).ed) i).B))])) ((at_ ((buildT vs.length fs).ed) i).B)).2) ++ [(at_ vs ((at_ ((buildT vs.length fs).ed) i).A))])) sp227 (Sep.symm sp272)
 refine AWP.region rfl ?_
 refine C rfl (Bi (.int .i64 (i + 1)) rfl s86 rfl (iadd (by omega)) (C rfl (Mv (.int .i64 (i + 1)) rfl rfl ?_)))
 refine AOps.nil ?_
 exact ⟨_, by omega, i + 1, (putMv (putMv L ((at_ ((buildT vs.length fs).ed) i).A) v178 (((getMv L ((at_ ((buildT vs.length fs).ed) i).A)).2) ++ [(at_ vs ((at_ ((buildT vs.length fs).ed) i).B))])) ((at_ ((buildT vs.length fs).ed) i).B) v262 (((getMv (putMv L ((at_ ((buildT vs.length fs).ed) i).A) v178 (((getMv L ((at_ ((buildT vs.length fs).ed) i).A)).2) ++ [(at_ vs ((at_ ((buildT vs.length fs).ed) i).B))])) ((at_ ((buildT vs.length fs).ed) i).B)).2) ++ [(at_ vs ((at_ ((buildT vs.length fs).ed) i).A))])), w12_7, rfl, rfl, s87, s88, s89, s90, s91, s92, s93, s94, o296, no96, o294, no297, sp298, h289, m291, by omega, by omega, by exact hd_B hi0 b130 hG1 rfl⟩
 refine cf_ rfl (decide_eq_false b102) ?_
 refine AWP.exit ?_
 change AWP _ _ _ _ _ _
 refine AWP.seq ?_
 refine AWP.frzGroupv (L := L) (N := vs.length) o97 (Own.re o95 (gvalsv_len _ _) rfl) sp99 m101 fun H299 o300 m301 k302 => ?_
 have h303 := (k302 _ no96 no98).trans h100
 have hgf := gF_hd hG (show i = ((buildT vs.length fs).ed.length : Int) by omega)
 have o304 := Own.re (k := (hdR vs (buildT vs.length fs).ed (sharpR (buildT vs.length fs) cr).1).length) (cs := (hdR vs (buildT vs.length fs).ed (sharpR (buildT vs.length fs) cr).1).map eVs) o300 (hdR_len _ _ _).symm (by rw [hgf])
 refine AWP.frzCell 7 o304 h303 z79 rfl no96 m301 fun H305 h306 m307 k308 => ?_
 have h309 : H305 i74 = some (.row 0 ([.sl vs.length (vs.flatMap eV), .sl fs.length (fs.map eF), .sl cr.length (cr.flatMap eCr), .sl ((buildT vs.length fs).ed).length (((buildT vs.length fs).ed).flatMap eE), .sl ((buildT vs.length fs).fan).length (((buildT vs.length fs).fan).map eF), .sl ((buildT vs.length fs).rnd).length (((buildT vs.length fs).rnd).map eBo), .sl ((sharpR (buildT vs.length fs) cr).1).length (((sharpR (buildT vs.length fs) cr).1).map eI), .sl (hdR vs (buildT vs.length fs).ed (sharpR (buildT vs.length fs) cr).1).length ((hdR vs (buildT vs.length fs).ed (sharpR (buildT vs.length fs) cr).1).map eVs)])) := h306
 have hhr := hdR_len vs (buildT vs.length fs).ed (sharpR (buildT vs.length fs) cr).1
 refine AWP.region rfl ?_
 refine C rfl (As (.snil) rfl rfl ?_)
 refine AWP.seq ?_
 refine Sr ?_
 refine F rfl s88 fl_26_1 (C rfl (Lf (.sl fs.length (fs.map eF)) rfl rfl ty_23 rfl (C rfl (AOp.len (m := fs.length) rfl rfl (.inr (.inl ⟨_, rfl⟩)) u_23 (C rfl (Mv (.int .i64 0) rfl rfl ?_))))))
 refine bk_ ?_
 refine AWP.loop (fun q310 fq Hq => ∃ (f : Int) (w15 : AV), q310 = (((fs.length : Int) : Int) - f).toNat ∧ fq 115 = .int .i64 f ∧ fq 1 = .int .i64 skin ∧ fq 4 = .snil ∧ fq 5 = .int .i64 0 ∧ fq 12 = .ptr i74 0 0 ∧ fq 114 = .int .i64 (fs.length : Int) ∧ fq 15 = w15 ∧ Own H0 Hq 65 w15 (U_ (fun q => patchQ vs fs (buildT vs.length fs) (sharpR (buildT vs.length fs) cr).1 (hdR vs (buildT vs.length fs).ed (sharpR (buildT vs.length fs) cr).1) q skin) f).length ((U_ (fun q => patchQ vs fs (buildT vs.length fs) (sharpR (buildT vs.length fs) cr).1 (hdR vs (buildT vs.length fs).ed (sharpR (buildT vs.length fs) cr).1) q skin) f).flatMap ePatch) ∧ NotId w15 i74 ∧ Hq i74 = some (.row 0 ([.sl vs.length (vs.flatMap eV), .sl fs.length (fs.map eF), .sl cr.length (cr.flatMap eCr), .sl ((buildT vs.length fs).ed).length (((buildT vs.length fs).ed).flatMap eE), .sl ((buildT vs.length fs).fan).length (((buildT vs.length fs).fan).map eF), .sl ((buildT vs.length fs).rnd).length (((buildT vs.length fs).rnd).map eBo), .sl ((sharpR (buildT vs.length fs) cr).1).length (((sharpR (buildT vs.length fs) cr).1).map eI), .sl (hdR vs (buildT vs.length fs).ed (sharpR (buildT vs.length fs) cr).1).length ((hdR vs (buildT vs.length fs).ed (sharpR (buildT vs.length fs) cr).1).map eVs)])) ∧ Mono H0 Hq ∧ (0 ≤ f) ∧ (f ≤ (fs.length : Int))) (k := (((fs.length : Int) : Int) - 0).toNat) ?_ ?_
 exact ⟨0, .snil, rfl, rfl, s87, s89, s90, s92, rfl, rfl, Own.nil _ _ _, (NotId.nil _), h309, m307, by omega, by omega⟩
 rintro _ f312 H311 ⟨f, w15, rfl, s313, s314, s315, s316, s317, s318, s319, o320, no321, h322, m323, hf0, hf1⟩
 refine Sr ?_
 refine C rfl (Bi (.bool (decide (f < (fs.length : Int)))) rfl s313 s318 rfl ?_)
 refine AWP.seq ?_
 by_cases b324 : f < (fs.length : Int)
 refine ct_ rfl (decide_eq_true b324) ?_
 refine AWP.skip ?_
 refine AWP.seq ?_
 refine bk_ ?_
 refine Sr ?_
 refine C rfl (Mv (.int .i64 f) rfl s313 (C rfl (As (.int .i64 f) rfl rfl ?_)))
 refine AOps.nil ?_
 change AWP _ _ _ _ _ _
 have hpul : (U_ (fun q => patchQ vs fs (buildT vs.length fs) (sharpR (buildT vs.length fs) cr).1 (hdR vs (buildT vs.length fs).ed (sharpR (buildT vs.length fs) cr).1) q skin) f).length = f.toNat := U_len _ _
 refine AWP.region rfl ?_
 refine C rfl (Mv (w15) rfl s319 (C rfl (Mv (.ptr i74 0 0) rfl s317 (C rfl (Mv (.int .i64 f) rfl rfl (C rfl (Mv (.int .i64 skin) rfl s314 (C rfl (AOp.pcallH («as» := [.ptr i74 0 0, .int .i64 f, .int .i64 skin]) rfl rfl (rfl) tf_52 (c_patch vs fs cr (buildT vs.length fs) (sharpR (buildT vs.length fs) cr).1 (hdR vs (buildT vs.length fs).ed (sharpR (buildT vs.length fs) cr).1) S f skin hf0 (by omega) h322) ?_)))))))))
 intro H325 m326
 have h327 := m326 _ _ h322
 have o328 := Own.mono o320 m326
 have m329 := m323.trans m326
 refine C rfl (AOp.buildSlice (cells := ePatch (patchQ vs fs (buildT vs.length fs) (sharpR (buildT vs.length fs) cr).1 (hdR vs (buildT vs.length fs).ed (sharpR (buildT vs.length fs) cr).1) f skin)) rfl u_63 ts_70 tz_70 rfl rfl (fill_patch (patchQ vs fs (buildT vs.length fs) (sharpR (buildT vs.length fs) cr).1 (hdR vs (buildT vs.length fs).ed (sharpR (buildT vs.length fs) cr).1) f skin) rfl) ?_)
 intro i330 H331 n332 h333 k334
 have h337 := keep k334 (ne_new h327 n332) h327
 have o338 := Own.keep o328 k334 (Own.notnew o328 n332)
 have m340 := Mono.new m329 n332 k334
 refine C rfl (AOp.append_own (es := 65) (m := 1) (len := ((U_ (fun q => patchQ vs fs (buildT vs.length fs) (sharpR (buildT vs.length fs) cr).1 (hdR vs (buildT vs.length fs).ed (sharpR (buildT vs.length fs) cr).1) q skin) f).length)) (old := (U_ (fun q => patchQ vs fs (buildT vs.length fs) (sharpR (buildT vs.length fs) cr).1 (hdR vs (buildT vs.length fs).ed (sharpR (buildT vs.length fs) cr).1) q skin) f).flatMap ePatch) (cells := ePatch (patchQ vs fs (buildT vs.length fs) (sharpR (buildT vs.length fs) cr).1 (hdR vs (buildT vs.length fs).ed (sharpR (buildT vs.length fs) cr).1) f skin)) rfl u_63 ts_70 tzn_70 tb_70 (by decide) ni_63 rfl o338 m340 rfl (src_patch (x := (patchQ vs fs (buildT vs.length fs) (sharpR (buildT vs.length fs) cr).1 (hdR vs (buildT vs.length fs).ed (sharpR (buildT vs.length fs) cr).1) f skin)) h333) (one_of (ePatch_one (patchQ vs fs (buildT vs.length fs) (sharpR (buildT vs.length fs) cr).1 (hdR vs (buildT vs.length fs).ed (sharpR (buildT vs.length fs) cr).1) f skin))) (by decide) (by first | omega | (simp only [List.length_append, List.length_cons, List.length_nil]; omega)) ?_)
 intro v341 H342 o343 m344 k345 j346
 have o347 := Own.snocM (xs := ((U_ (fun q => patchQ vs fs (buildT vs.length fs) (sharpR (buildT vs.length fs) cr).1 (hdR vs (buildT vs.length fs).ed (sharpR (buildT vs.length fs) cr).1) q skin) f) : List PatchT)) (y := (patchQ vs fs (buildT vs.length fs) (sharpR (buildT vs.length fs) cr).1 (hdR vs (buildT vs.length fs).ed (sharpR (buildT vs.length fs) cr).1) f skin)) (e := ePatch) (by simp) o343
 have h348 := (k345 _ no321 (by rw [h337]; simp)).trans h337
 have no349 := j346 _ no321 (by rw [h337]; simp)
 refine C rfl (As (v341) rfl rfl ?_)
 refine AWP.region rfl ?_
 refine C rfl (Bi (.int .i64 (f + 1)) rfl s313 rfl (iadd (by omega)) (C rfl (Mv (.int .i64 (f + 1)) rfl rfl ?_)))
 refine AOps.nil ?_
 exact ⟨_, by omega, f + 1, v341, rfl, rfl, s314, s315, s316, s317, s318, rfl, (have hx : (((U_ (fun q => patchQ vs fs (buildT vs.length fs) (sharpR (buildT vs.length fs) cr).1 (hdR vs (buildT vs.length fs).ed (sharpR (buildT vs.length fs) cr).1) q skin) f) ++ [(patchQ vs fs (buildT vs.length fs) (sharpR (buildT vs.length fs) cr).1 (hdR vs (buildT vs.length fs).ed (sharpR (buildT vs.length fs) cr).1) f skin)]) : List PatchT) = U_ (fun q => patchQ vs fs (buildT vs.length fs) (sharpR (buildT vs.length fs) cr).1 (hdR vs (buildT vs.length fs).ed (sharpR (buildT vs.length fs) cr).1) q skin) (f + 1) := (by exact U_step hf0); Own.re o347 (congrArg List.length hx) (congrArg (fun l : List PatchT => l.flatMap ePatch) hx)), no349, h348, m344, by omega, by omega⟩
 refine cf_ rfl (decide_eq_false b324) ?_
 refine AWP.exit ?_
 change AWP _ _ _ _ _ _
 refine Sr ?_
 refine C rfl (Mv (w15) rfl s319 (C rfl (As (w15) rfl rfl (C rfl (As (.int .i64 0) rfl rfl ?_)))))
 refine rt_ ?_
 refine Fin.frz 4 o320 rfl m323 fun H350 m351 k352 => ?_
 refine Rr (Res.two rfl rfl rfl) ?_ m351
 exact congrArg AV.tup (lc (congrArg (fun l : List PatchT => AV.sl l.length (l.flatMap ePatch)) (show ((U_ (fun q => patchQ vs fs (buildT vs.length fs) (sharpR (buildT vs.length fs) cr).1 (hdR vs (buildT vs.length fs).ed (sharpR (buildT vs.length fs) cr).1) q skin) f) : List PatchT) = (patR vs fs cr skin).1 from by rw [pat_3 b29 b33]; rw [show f = (fs.length : Int) by omega])) (lc (congrArg (AV.int .i64) (show (0 : Int) = (patR vs fs cr skin).2 from by rw [pat_3 b29 b33])) rfl))
 refine ct_ rfl (nb (decide_eq_false b29)) ?_
 refine Sr ?_
 refine C rfl (Mv (.int .i64 ((levelR vs fs cr).2)) rfl rfl (C rfl (As (.snil) rfl rfl (C rfl (As (.int .i64 ((levelR vs fs cr).2)) rfl rfl ?_)))))
 refine rt_ ?_
 refine Fin.frz 4 (Own.nil H0 H26 1) rfl m27 fun H354 m355 k356 => ?_
 refine Rr (Res.two rfl rfl rfl) ?_ m355
 exact congrArg AV.tup (lc (congrArg (fun l : List PatchT => AV.sl l.length (l.flatMap ePatch)) (show ([] : List PatchT) = (patR vs fs cr skin).1 from by rw [pat_1 b29])) (lc (congrArg (AV.int .i64) (show ((levelR vs fs cr).2 : Int) = (patR vs fs cr skin).2 from by rw [pat_1 b29])) rfl))
end Go.Proofs.U
namespace Go.Proofs.U
open Go Go.AH Go.Proofs.T
set_option maxRecDepth 20000
theorem c_PatchesN (vs : List VT) (fs : List (List Int)) (mid : MidC vs fs []) (skin : Int) : PC Try.prog 30 [.agg [.sl vs.length (vs.flatMap eV), .sl fs.length (fs.map eF), .snil], .int .i64 skin] (.tup [.sl (patR vs fs [] skin).1.length ((patR vs fs [] skin).1.flatMap ePatch), .int .i64 (patR vs fs [] skin).2]) :=
  PC.nilIn (pa := []) (pre := [_, _]) (post := []) (po := [_]) (c_Patches vs fs [] mid skin)
theorem ldE {α : Type} [Inhabited α] {xs : List α} {e : α → List AV} {m o sz : Nat} {ag : Bool} {v : AV} (he : ∀ x, (e x).length = m) {i : Int} (h0 : 0 ≤ i) (h1 : i < xs.length) (hs : ag = false → sz = 1) (h : loadv ag sz o (e (at_ xs i)) = some v) : loadv ag sz (i.toNat * m + o) (xs.flatMap e) = some v := by
  have hi : i.toNat < xs.length := by omega
  have hx : at_ xs i = xs[i.toNat] := by simp [at_, hi]
  rw [hx] at h
  have e1 : xs.flatMap e = (xs.take i.toNat).flatMap e ++ (e xs[i.toNat] ++ (xs.drop (i.toNat + 1)).flatMap e) := by
    conv => lhs; rw [← List.take_append_drop i.toNat xs, List.drop_eq_getElem_cons hi]
    rw [List.flatMap_append, List.flatMap_cons]
  rw [e1]
  refine ld_skip (n := i.toNat * m) (off' := o) ?_ rfl (ld_fst hs h)
  rw [flatMap_length he, List.length_take]
  congr 1; omega
abbrev AV18 : List VT := [VT.mk 0 0 0, VT.mk 18 0 0, VT.mk 18 18 0, VT.mk 0 18 0]
theorem mid18 : MidC AV18 AF4 [] := ⟨by decide, by decide, by decide, by decide, fun c hc => (by cases hc), by decide⟩
theorem pal_0 : (levelR AV18 AF4 []).2 = 0 := by
  have h := level_4 (vs := AV18) (fs := AF4) (cr := []) al_b.2 (by show (sharpR (buildT AV4.length AF4) []).2 = 0; rw [al_b.1]; exact al_s) (by decide)
  rw [h]
theorem pal : patR AV18 AF4 [] 3 = (U_ (fun f => patchQ AV18 AF4 AT4 (sharpR AT4 []).1 (hdR AV18 AT4.ed (sharpR AT4 []).1) f 3) 1, 0) := by
  have h := pat_3 (skin := 3) pal_0 (show AF4.any notF = false by decide)
  have e : buildT AV18.length AF4 = AT4 := al_b.1
  rw [e] at h; exact h
theorem pal_2 : (patR AV18 AF4 [] 3).2 = 0 := by rw [pal]
theorem pal_l : ((patR AV18 AF4 [] 3).1.length : Int) = 1 := by rw [pal]; rfl
theorem pal_p0 : at_ (at_ (patR AV18 AF4 [] 3).1 0).aP 0 = VT.mk 3 3 0 := by rw [pal]; decide +kernel
theorem pal_p1 : at_ (at_ (patR AV18 AF4 [] 3).1 0).aP 1 = VT.mk 6 0 0 := by rw [pal]; decide +kernel
theorem pal_p4 : at_ (at_ (patR AV18 AF4 [] 3).1 0).aP 4 = VT.mk 0 6 0 := by rw [pal]; decide +kernel
theorem pal_s : (at_ (patR AV18 AF4 [] 3).1 0).Skin = 3 := by rw [pal]; decide +kernel
noncomputable def quadR (vs : List VT) (fs : List (List Int)) (cr : List CrT) : CageT × Bool := if greatP vs fs cr then (⟨[], [], []⟩, false) else ((levelR vs fs cr).1, decide ((levelR vs fs cr).2 = 0))
section
variable {vs : List VT} {fs : List (List Int)} {cr : List CrT}
theorem quad_1 (h : greatP vs fs cr) : quadR vs fs cr = (⟨[], [], []⟩, false) := by unfold quadR; rw [if_pos h]
theorem quad_2 (h : ¬ greatP vs fs cr) : quadR vs fs cr = ((levelR vs fs cr).1, decide ((levelR vs fs cr).2 = 0)) := by unfold quadR; rw [if_neg h]
structure QuF (vs : List VT) (fs : List (List Int)) (cr : List CrT) : Prop where
  mid : MidC vs fs cr
  l0 : (levelR vs fs cr).2 = 0
  four : fs.any notF = false
theorem quF (hcS : ∀ c ∈ cr, c.S ≤ 9223372036854775807) (h : (quadR vs fs cr).2 = true) : QuF (quadR vs fs cr).1.Verts (quadR vs fs cr).1.Faces (quadR vs fs cr).1.Creases := by
  by_cases g : greatP vs fs cr
  · rw [quad_1 g] at h; cases h
  · rw [quad_2 g] at h ⊢
    have h0 := of_decide_eq_true h
    have sm := great_small g
    exact ⟨sm.next hcS h0, (fin_next (sm.mid hcS) h0).1, (fin_next (sm.mid hcS) h0).2⟩
structure PaF (vs : List VT) (fs : List (List Int)) (cr : List CrT) (skin : Int) : Prop where
  e : (patR vs fs cr skin).2 = 0
  l : (patR vs fs cr skin).1.length = fs.length
  p : ∀ i : Int, 0 ≤ i → i < fs.length → ∀ k : Int, 0 ≤ k → k < 16 → hasB (boundR vs).1 (at_ (at_ (patR vs fs cr skin).1 i).aP k)
  n : ∀ i : Int, 0 ≤ i → i < fs.length → ∀ k : Int, 0 ≤ k → k < 4 → inV 1023 (at_ (at_ (patR vs fs cr skin).1 i).aNormals k)
theorem paF (Q : QuF vs fs cr) (skin : Int) : PaF vs fs cr skin := by
  have S := shpF Q.mid Q.l0 Q.four
  have e := pat_3 (skin := skin) Q.l0 Q.four
  refine ⟨by rw [e], by rw [e]; simp only [U_len]; omega, fun i i0 i1 k k0 k1 => ?_, fun i i0 i1 k k0 k1 => ?_⟩
  · rw [e]; simp only; rw [U_at i0 i1]
    exact S.pointB (fun p hp => bound_has hp) i0 i1 k k0 k1
  · rw [e]; simp only; rw [U_at i0 i1]
    exact S.normalI i0 i1 k k0 k1
end
end Go.Proofs.U
namespace Go.Proofs.U
open Go Go.AH Go.Proofs.T
set_option maxRecDepth 4000
set_option linter.unusedSimpArgs false
set_option linter.unusedVariables false
set_option maxHeartbeats 4000000
theorem c_palive : PC Try.prog 28 [] (.bool true) := by
 intro H0
 have hav := pal_l
 refine ACalls.of_body' (n := 56) rfl rfl rfl rfl ?_
 have m0 := Mono.refl H0
 refine AWP.seq (AWP.region rfl ?_)
 refine AOps.cons rfl rfl (AOp.assign _ rfl rfl ?_)
 refine AWP.seq (AWP.region rfl ?_)
 refine AOps.cons rfl rfl (AOp.build (cells := [.int .i64 0, .int .i64 0, .int .i64 0]) rfl tz_42 pl_42 rfl rfl (AOps.cons rfl rfl (AOp.build (cells := [.int .i64 18, .int .i64 0, .int .i64 0]) rfl tz_42 pl_42 rfl rfl (AOps.cons rfl rfl (AOp.build (cells := [.int .i64 18, .int .i64 18, .int .i64 0]) rfl tz_42 pl_42 rfl rfl (AOps.cons rfl rfl (AOp.build (cells := [.int .i64 0, .int .i64 18, .int .i64 0]) rfl tz_42 pl_42 rfl rfl (AOps.cons rfl rfl (AOp.buildSlice (cells := [.int .i64 0, .int .i64 0, .int .i64 0, .int .i64 18, .int .i64 0, .int .i64 0, .int .i64 18, .int .i64 18, .int .i64 0, .int .i64 0, .int .i64 18, .int .i64 0]) rfl u_22 ts_42 tz_42 rfl rfl rfl ?_)))))))))
 intro i1 H2 n3 h4 k5
 have z6 := Mono.free m0 n3
 have m7 := Mono.new m0 n3 k5
 refine AOps.cons rfl rfl (AOp.buildSlice (cells := [.int .i64 0, .int .i64 1, .int .i64 2, .int .i64 3]) rfl u_38 ts_3 tz_3 rfl rfl rfl ?_)
 intro i8 H9 n10 h11 k12
 have e13 := ne_new h4 n10
 have z14 := Mono.free m7 n10
 have h15 := keep k12 (ne_new h4 n10) h4
 have m16 := Mono.new m7 n10 k12
 obtain ⟨v17, e18⟩ : ∃ v : AV, v = .slm i8 0 1 0 4 := ⟨_, rfl⟩
 have o19 : Own H0 H9 1 v17 4 [.int .i64 0, .int .i64 1, .int .i64 2, .int .i64 3] := .inr ⟨_, _, e18, h11, z14, rfl⟩
 have no20 : NotId v17 i1 := by rw [e18]; exact NotId.slm e13
 refine AOps.cons rfl rfl ?_
 refine AOp.frz 9 (o19) e18.symm m16 fun H21 m22 k23 => ?_
 have h24 := (k23 _ no20).trans h15
 refine AOp.buildSlice (cells := [.sl ([0, 1, 2, 3] : List Int).length (([0, 1, 2, 3] : List Int).map eI)]) rfl u_23 ts_38 tz_38 rfl rfl rfl ?_
 intro i25 H26 n27 h28 k29
 have e30 := ne_new h24 n27
 have z31 := Mono.free m22 n27
 have h32 := keep k29 (ne_new h24 n27) h24
 have m33 := Mono.new m22 n27 k29
 obtain ⟨v34, e35⟩ : ∃ v : AV, v = .slm i1 0 3 0 4 := ⟨_, rfl⟩
 have o36 : Own H0 H26 3 v34 4 [.int .i64 0, .int .i64 0, .int .i64 0, .int .i64 18, .int .i64 0, .int .i64 0, .int .i64 18, .int .i64 18, .int .i64 0, .int .i64 0, .int .i64 18, .int .i64 0] := .inr ⟨_, _, e35, h32, z6, rfl⟩
 have no37 : NotId v34 i25 := by rw [e35]; exact NotId.slm (Ne.symm e30)
 refine AOps.cons rfl rfl ?_
 refine AOp.frz 8 (o36) e35.symm m33 fun H38 m39 k40 => ?_
 have h41 := (k40 _ no37).trans h28
 obtain ⟨v42, e43⟩ : ∃ v : AV, v = .slm i25 0 1 0 1 := ⟨_, rfl⟩
 have o44 : Own H0 H38 1 v42 1 [.sl ([0, 1, 2, 3] : List Int).length (([0, 1, 2, 3] : List Int).map eI)] := .inr ⟨_, _, e43, h41, z31, rfl⟩
 refine AOp.frz 10 (o44) e43.symm m39 fun H45 m46 k47 => ?_
 refine AOp.build (cells := [.sl ([(VT.mk 0 0 0), (VT.mk 18 0 0), (VT.mk 18 18 0), (VT.mk 0 18 0)] : List VT).length (([(VT.mk 0 0 0), (VT.mk 18 0 0), (VT.mk 18 18 0), (VT.mk 0 18 0)] : List VT).flatMap eV), .sl ([([0, 1, 2, 3] : List Int)] : List (List Int)).length (([([0, 1, 2, 3] : List Int)] : List (List Int)).map eF), .snil]) rfl tz_26 pl_26 rfl rfl ?_
 refine AOps.cons rfl rfl (AOp.pcall («as» := [.agg [.sl ([(VT.mk 0 0 0), (VT.mk 18 0 0), (VT.mk 18 18 0), (VT.mk 0 18 0)] : List VT).length (([(VT.mk 0 0 0), (VT.mk 18 0 0), (VT.mk 18 18 0), (VT.mk 0 18 0)] : List VT).flatMap eV), .sl ([([0, 1, 2, 3] : List Int)] : List (List Int)).length (([([0, 1, 2, 3] : List Int)] : List (List Int)).map eF), .snil], .int .i64 3]) rfl rfl (rfl) tf_30 (c_PatchesN AV18 AF4 mid18 3) ?_)
 intro H48 m49
 have m50 := m46.trans m49
 refine AOps.cons rfl rfl (AOp.move _ rfl rfl (AOps.cons rfl rfl (AOp.extract _ rfl rfl rfl (AOps.cons rfl rfl (AOp.extract _ rfl rfl rfl (AOps.cons rfl rfl (AOp.assign _ rfl rfl (AOps.cons rfl rfl (AOp.assign _ rfl rfl ?_)))))))))
 refine AWP.seq (AWP.region rfl ?_)
 refine AOps.cons rfl rfl (AOp.move _ rfl rfl (AOps.cons rfl rfl (AOp.bin _ rfl rfl rfl ieq (AOps.cons rfl rfl (AOp.move _ rfl rfl (AOps.yes rfl rfl rfl rfl rfl rfl rfl (decide_eq_true (pal_2)) (AOp.move _ rfl rfl (AOps.yes rfl rfl rfl rfl rfl rfl rfl (decide_eq_true (pal_2)) (AOp.len (m := ((patR AV18 AF4 [] 3).1).length) rfl rfl (.inr (.inl ⟨_, rfl⟩)) u_63 (AOps.yes rfl rfl rfl rfl rfl rfl rfl (decide_eq_true (pal_2)) (AOp.bin _ rfl rfl rfl ieq ?_)))))))))))
 refine AOps.cons rfl rfl (AOp.pickT _ rfl rfl (decide_eq_true (pal_2)) rfl (AOps.cons rfl rfl (AOp.move _ rfl rfl (AOps.yes rfl rfl rfl rfl rfl rfl rfl (decide_eq_true (pal_l)) (AOp.move _ rfl rfl (AOps.yes rfl rfl rfl rfl rfl rfl rfl (decide_eq_true (pal_l)) (AOp.indexAddrS rfl rfl rfl sl_63 (by omega) (by omega) (AOps.yes rfl rfl rfl rfl rfl rfl rfl (decide_eq_true (pal_l)) (AOp.fieldAddrF rfl rfl fl_70_0 (AOps.yes rfl rfl rfl rfl rfl rfl rfl (decide_eq_true (pal_l)) (AOp.indexAddrFA rfl rfl rfl ar_66 (by omega) (by omega) ?_)))))))))))
 refine AOps.yes rfl rfl rfl rfl rfl rfl rfl (decide_eq_true (pal_l)) (AOp.loadF _ rfl rfl ty_42 (ld_off (o := (0 : Int).toNat * 65 + 0 + (0 : Int).toNat * 3) (o' := (0 : Int).toNat * 65 + (0)) (by omega) (ldE ePatch_len (i := 0) (by omega) (by omega) (fun h => by first | rfl | cases h) (ld_fst (fun h => by first | rfl | cases h) (ldM eV_len (i := 0) (by omega) (by have := (at_ ((patR AV18 AF4 [] 3).1) 0).lP; omega))))) (AOps.yes rfl rfl rfl rfl rfl rfl rfl (decide_eq_true (pal_l)) (AOp.build (cells := [.int .i64 3, .int .i64 3, .int .i64 0]) rfl tz_42 pl_42 rfl rfl (AOps.yes rfl rfl rfl rfl rfl rfl rfl (decide_eq_true (pal_l)) (AOp.eqAggD rfl rfl rfl teq42 (kokV (v := (at_ ((at_ ((patR AV18 AF4 [] 3).1) 0).aP) 0)) (by rw [pal_p0]; exact ⟨by unfold inR; decide, by unfold inR; decide, by unfold inR; decide⟩)) (kokV (v := (VT.mk 3 3 0)) (by exact ⟨by unfold inR; decide, by unfold inR; decide, by unfold inR; decide⟩)) (eV_iff (at_ ((at_ ((patR AV18 AF4 [] 3).1) 0).aP) 0) (VT.mk 3 3 0)) (AOps.cons rfl rfl (AOp.pickT _ rfl rfl (decide_eq_true (pal_l)) rfl (AOps.cons rfl rfl (AOp.move _ rfl rfl (AOps.yes rfl rfl rfl rfl rfl rfl rfl (decide_eq_true (pal_p0)) (AOp.move _ rfl rfl ?_)))))))))))
 refine AOps.yes rfl rfl rfl rfl rfl rfl rfl (decide_eq_true (pal_p0)) (AOp.indexAddrS rfl rfl rfl sl_63 (by omega) (by omega) (AOps.yes rfl rfl rfl rfl rfl rfl rfl (decide_eq_true (pal_p0)) (AOp.fieldAddrF rfl rfl fl_70_0 (AOps.yes rfl rfl rfl rfl rfl rfl rfl (decide_eq_true (pal_p0)) (AOp.indexAddrFA rfl rfl rfl ar_66 (by omega) (by omega) (AOps.yes rfl rfl rfl rfl rfl rfl rfl (decide_eq_true (pal_p0)) (AOp.loadF _ rfl rfl ty_42 (ld_off (o := (0 : Int).toNat * 65 + 0 + (1 : Int).toNat * 3) (o' := (0 : Int).toNat * 65 + (3)) (by omega) (ldE ePatch_len (i := 0) (by omega) (by omega) (fun h => by first | rfl | cases h) (ld_fst (fun h => by first | rfl | cases h) (ldM eV_len (i := 1) (by omega) (by have := (at_ ((patR AV18 AF4 [] 3).1) 0).lP; omega))))) (AOps.yes rfl rfl rfl rfl rfl rfl rfl (decide_eq_true (pal_p0)) (AOp.build (cells := [.int .i64 6, .int .i64 0, .int .i64 0]) rfl tz_42 pl_42 rfl rfl (AOps.yes rfl rfl rfl rfl rfl rfl rfl (decide_eq_true (pal_p0)) (AOp.eqAggD rfl rfl rfl teq42 (kokV (v := (at_ ((at_ ((patR AV18 AF4 [] 3).1) 0).aP) 1)) (by rw [pal_p1]; exact ⟨by unfold inR; decide, by unfold inR; decide, by unfold inR; decide⟩)) (kokV (v := (VT.mk 6 0 0)) (by exact ⟨by unfold inR; decide, by unfold inR; decide, by unfold inR; decide⟩)) (eV_iff (at_ ((at_ ((patR AV18 AF4 [] 3).1) 0).aP) 1) (VT.mk 6 0 0)) ?_)))))))))))
 refine AOps.cons rfl rfl (AOp.pickT _ rfl rfl (decide_eq_true (pal_p0)) rfl (AOps.cons rfl rfl (AOp.move _ rfl rfl (AOps.yes rfl rfl rfl rfl rfl rfl rfl (decide_eq_true (pal_p1)) (AOp.move _ rfl rfl (AOps.yes rfl rfl rfl rfl rfl rfl rfl (decide_eq_true (pal_p1)) (AOp.indexAddrS rfl rfl rfl sl_63 (by omega) (by omega) (AOps.yes rfl rfl rfl rfl rfl rfl rfl (decide_eq_true (pal_p1)) (AOp.fieldAddrF rfl rfl fl_70_0 (AOps.yes rfl rfl rfl rfl rfl rfl rfl (decide_eq_true (pal_p1)) (AOp.indexAddrFA rfl rfl rfl ar_66 (by omega) (by omega) ?_)))))))))))
 refine AOps.yes rfl rfl rfl rfl rfl rfl rfl (decide_eq_true (pal_p1)) (AOp.loadF _ rfl rfl ty_42 (ld_off (o := (0 : Int).toNat * 65 + 0 + (4 : Int).toNat * 3) (o' := (0 : Int).toNat * 65 + (12)) (by omega) (ldE ePatch_len (i := 0) (by omega) (by omega) (fun h => by first | rfl | cases h) (ld_fst (fun h => by first | rfl | cases h) (ldM eV_len (i := 4) (by omega) (by have := (at_ ((patR AV18 AF4 [] 3).1) 0).lP; omega))))) (AOps.yes rfl rfl rfl rfl rfl rfl rfl (decide_eq_true (pal_p1)) (AOp.build (cells := [.int .i64 0, .int .i64 6, .int .i64 0]) rfl tz_42 pl_42 rfl rfl (AOps.yes rfl rfl rfl rfl rfl rfl rfl (decide_eq_true (pal_p1)) (AOp.eqAggD rfl rfl rfl teq42 (kokV (v := (at_ ((at_ ((patR AV18 AF4 [] 3).1) 0).aP) 4)) (by rw [pal_p4]; exact ⟨by unfold inR; decide, by unfold inR; decide, by unfold inR; decide⟩)) (kokV (v := (VT.mk 0 6 0)) (by exact ⟨by unfold inR; decide, by unfold inR; decide, by unfold inR; decide⟩)) (eV_iff (at_ ((at_ ((patR AV18 AF4 [] 3).1) 0).aP) 4) (VT.mk 0 6 0)) (AOps.cons rfl rfl (AOp.pickT _ rfl rfl (decide_eq_true (pal_p1)) rfl (AOps.cons rfl rfl (AOp.move _ rfl rfl (AOps.yes rfl rfl rfl rfl rfl rfl rfl (decide_eq_true (pal_p4)) (AOp.move _ rfl rfl ?_)))))))))))
 refine AOps.yes rfl rfl rfl rfl rfl rfl rfl (decide_eq_true (pal_p4)) (AOp.indexAddrS rfl rfl rfl sl_63 (by omega) (by omega) (AOps.yes rfl rfl rfl rfl rfl rfl rfl (decide_eq_true (pal_p4)) (AOp.fieldAddrF rfl rfl fl_70_3 (AOps.yes rfl rfl rfl rfl rfl rfl rfl (decide_eq_true (pal_p4)) (AOp.loadF _ rfl rfl ty_3 (ld_off (o := (0 : Int).toNat * 65 + 64) (o' := (0 : Int).toNat * 65 + (64)) (by omega) (ldE ePatch_len (i := 0) (by omega) (by omega) (fun h => by first | rfl | cases h) (ld_skip (off' := 16) (lenM eV_len (at_ ((patR AV18 AF4 [] 3).1) 0).lP rfl) (by omega) (ld_skip (off' := 12) (len1 (at_ ((patR AV18 AF4 [] 3).1) 0).lCorners) (by omega) (ld_skip (off' := 0) (lenM eV_len (at_ ((patR AV18 AF4 [] 3).1) 0).lNormals rfl) (by omega) rfl))))) (AOps.yes rfl rfl rfl rfl rfl rfl rfl (decide_eq_true (pal_p4)) (AOp.bin _ rfl rfl rfl ieq (AOps.cons rfl rfl (AOp.pickT _ rfl rfl (decide_eq_true (pal_p4)) rfl (AOps.cons rfl rfl (AOp.assign _ rfl rfl ?_)))))))))))
 refine AWP.ret ?_
 refine ⟨_, _, Ghost.refl, .inr rfl, _, Res.one rfl rfl, ?_, m50⟩
 exact (congrArg AV.bool (show (decide ((at_ ((patR AV18 AF4 [] 3).1) 0).Skin = 3) : Bool) = true from by first | rfl | exact decide_eq_true pal_s))
theorem c_quads (vs : List VT) (fs : List (List Int)) (cr : List CrT) (hvl : vs.length ≤ 1048576) (hfl : fs.length ≤ 1048576) (hfs : ∀ l ∈ fs, l.length ≤ 1048576) (hcl : cr.length ≤ 1048576) (hcS : ∀ c ∈ cr, c.S ≤ 9223372036854775807)  : PC Try.prog 29 [.agg [.sl vs.length (vs.flatMap eV), .sl fs.length (fs.map eF), .sl cr.length (cr.flatMap eCr)]] (.tup [.agg [.sl ((quadR vs fs cr).1.Verts).length (((quadR vs fs cr).1.Verts).flatMap eV), .sl ((quadR vs fs cr).1.Faces).length (((quadR vs fs cr).1.Faces).map eF), .sl ((quadR vs fs cr).1.Creases).length (((quadR vs fs cr).1.Creases).flatMap eCr)], .bool ((quadR vs fs cr).2)]) := by
 intro H0
 refine ACalls.of_body' (n := 17) rfl rfl rfl rfl ?_
 have m0 := Mono.refl H0
 refine AWP.seq (AWP.region rfl ?_)
 refine AOps.cons rfl rfl (AOp.box (.agg [.sl vs.length (vs.flatMap eV), .sl fs.length (fs.map eF), .sl cr.length (cr.flatMap eCr)]) rfl rfl rfl ?_)
 intro i1 H2 n3 h4 k5
 have z6 := Mono.free m0 n3
 have m7 := Mono.new m0 n3 k5
 refine AOps.cons rfl rfl (AOp.alloc rfl tz_26 ?_)
 intro i8 H9 n10 h11 k12
 have e13 := ne_new h4 n10
 have z14 := Mono.free m7 n10
 have h15 := keep k12 (ne_new h4 n10) h4
 have m16 := Mono.new m7 n10 k12
 refine AOps.cons rfl rfl (AOp.assign _ rfl rfl ?_)
 refine AWP.seq ?_
 refine AWP.seq ?_
 refine AWP.frzP 1 h15 z6 rfl m16 fun H17 m18 k19 => ?_
 have h20 := (k19 _ (Ne.symm e13)).trans h11
 refine AWP.region rfl ?_
 refine AOps.cons rfl rfl (AOp.loadF _ rfl rfl ty_26 rfl (AOps.cons rfl rfl (AOp.pcall («as» := [.agg [.sl vs.length (vs.flatMap eV), .sl fs.length (fs.map eF), .sl cr.length (cr.flatMap eCr)]]) rfl rfl (rfl) tf_14 (c_Great _ _ _ (by omega) (by omega) (by assumption) (by omega)) ?_)))
 intro H21 m22
 have h23 := m22 _ _ h20
 have m24 := m18.trans m22
 refine AOps.nil ?_
 change AWP _ _ _ _ _ _
 by_cases b25 : greatP vs fs cr
 refine AWP.condT rfl (decide_eq_true b25) ?_
 refine AWP.seq (AWP.region rfl ?_)
 refine AOps.cons rfl rfl (AOp.build (cells := [.snil, .snil, .snil]) rfl tz_26 pl_26 rfl rfl (AOps.cons rfl rfl (AOp.store' (cells' := [.snil, .snil, .snil]) (.agg [.snil, .snil, .snil]) rfl rfl ts_26 h23 rfl rfl rfl rfl ?_)))
 intro H26 h27 k28
 have m30 := Mono.set m24 z14 k28
 refine AOps.cons rfl rfl (AOp.assign _ rfl rfl ?_)
 refine AWP.ret ?_
 refine Fin.frzCell 0 (Own.nil H0 H26 1) h27 z14 rfl (NotId.nil _) m30 fun H31 h32 m33 k34 => ?_
 have h35 : H31 i8 = some (.row 0 ([.sl 0 ([]), .snil, .snil])) := h32
 refine Fin.frzCell 1 (Own.nil H0 H31 1) h35 z14 rfl (NotId.nil _) m33 fun H36 h37 m38 k39 => ?_
 have h40 : H36 i8 = some (.row 0 ([.sl 0 ([]), .sl 0 ([]), .snil])) := h37
 refine Fin.frzCell 2 (Own.nil H0 H36 1) h40 z14 rfl (NotId.nil _) m38 fun H41 h42 m43 k44 => ?_
 have h45 : H41 i8 = some (.row 0 ([.sl 0 ([]), .sl 0 ([]), .sl 0 ([])])) := h42
 refine ⟨_, _, Ghost.refl, .inr rfl, _, Res.list rfl rfl (.cell (v := .agg [.sl 0 ([]), .sl 0 ([]), .sl 0 ([])]) rfl ty_26 h45 rfl (.tmp rfl (.nil))), ?_, m43⟩
 exact congrArg AV.tup (lc (congrArg AV.agg (lc (congrArg (fun l : List VT => AV.sl l.length (l.flatMap eV)) (show ([] : List VT) = (quadR vs fs cr).1.Verts from by rw [quad_1 b25])) (lc (congrArg (fun l : List (List Int) => AV.sl l.length (l.map eF)) (show ([] : List (List Int)) = (quadR vs fs cr).1.Faces from by rw [quad_1 b25])) (lc (congrArg (fun l : List CrT => AV.sl l.length (l.flatMap eCr)) (show ([] : List CrT) = (quadR vs fs cr).1.Creases from by rw [quad_1 b25])) rfl)))) (lc (congrArg AV.bool (show (false : Bool) = (quadR vs fs cr).2 from by rw [quad_1 b25])) rfl))
 refine AWP.condF rfl (decide_eq_false b25) ?_
 refine AWP.skip ?_
 refine AWP.seq ?_
 obtain ⟨s1, s2, s3, s4, s5⟩ := great_small b25
 refine AWP.region rfl ?_
 refine AOps.cons rfl rfl (AOp.loadF _ rfl rfl ty_26 rfl (AOps.cons rfl rfl (AOp.pcall («as» := [.agg [.sl vs.length (vs.flatMap eV), .sl fs.length (fs.map eF), .sl cr.length (cr.flatMap eCr)]]) rfl rfl (rfl) tf_15 (c_Level vs fs cr (by omega) (by omega) (fun l hl => Nat.le_trans (s5 l hl) (by decide)) (by omega) (by omega) hcS) ?_)))
 intro H46 m47
 have h48 := m47 _ _ h23
 have m49 := m24.trans m47
 refine AOps.cons rfl rfl (AOp.move _ rfl rfl (AOps.cons rfl rfl (AOp.extract _ rfl rfl rfl (AOps.cons rfl rfl (AOp.extract _ rfl rfl rfl (AOps.cons rfl rfl (AOp.alloc rfl tz_26 ?_)))))))
 intro i50 H51 n52 h53 k54
 have e55 := ne_new h48 n52
 have z56 := Mono.free m49 n52
 have h57 := keep k54 (ne_new h48 n52) h48
 have m58 := Mono.new m49 n52 k54
 refine AOps.cons rfl rfl (AOp.store' (cells' := [.sl ((levelR vs fs cr).1.Verts).length (((levelR vs fs cr).1.Verts).flatMap eV), .sl ((levelR vs fs cr).1.Faces).length (((levelR vs fs cr).1.Faces).map eF), .sl ((levelR vs fs cr).1.Creases).length (((levelR vs fs cr).1.Creases).flatMap eCr)]) (.agg [.sl ((levelR vs fs cr).1.Verts).length (((levelR vs fs cr).1.Verts).flatMap eV), .sl ((levelR vs fs cr).1.Faces).length (((levelR vs fs cr).1.Faces).map eF), .sl ((levelR vs fs cr).1.Creases).length (((levelR vs fs cr).1.Creases).flatMap eCr)]) rfl rfl ts_26 h53 rfl rfl rfl rfl ?_)
 intro H59 h60 k61
 have h62 := keep k61 e55 h57
 have m64 := Mono.set m58 z56 k61
 refine AOps.cons rfl rfl (AOp.assign _ rfl rfl ?_)
 refine AWP.seq ?_
 refine AWP.frzP 4 h60 z56 rfl m64 fun H65 m66 k67 => ?_
 have h68 := (k67 _ e55).trans h62
 refine AWP.region rfl ?_
 refine AOps.cons rfl rfl (AOp.loadF _ rfl rfl ty_26 rfl (AOps.cons rfl rfl (AOp.move _ rfl rfl (AOps.cons rfl rfl (AOp.bin _ rfl rfl rfl ieq (AOps.cons rfl rfl (AOp.store' (cells' := [.sl ((levelR vs fs cr).1.Verts).length (((levelR vs fs cr).1.Verts).flatMap eV), .sl ((levelR vs fs cr).1.Faces).length (((levelR vs fs cr).1.Faces).map eF), .sl ((levelR vs fs cr).1.Creases).length (((levelR vs fs cr).1.Creases).flatMap eCr)]) (.agg [.sl ((levelR vs fs cr).1.Verts).length (((levelR vs fs cr).1.Verts).flatMap eV), .sl ((levelR vs fs cr).1.Faces).length (((levelR vs fs cr).1.Faces).map eF), .sl ((levelR vs fs cr).1.Creases).length (((levelR vs fs cr).1.Creases).flatMap eCr)]) rfl rfl ts_26 h68 rfl rfl rfl rfl ?_)))))))
 intro H69 h70 k71
 have m73 := Mono.set m66 z14 k71
 refine AOps.cons rfl rfl (AOp.assign _ rfl rfl ?_)
 refine AWP.ret ?_
 refine ⟨_, _, Ghost.refl, .inr rfl, _, Res.list rfl rfl (.cell (v := .agg [.sl ((levelR vs fs cr).1.Verts).length (((levelR vs fs cr).1.Verts).flatMap eV), .sl ((levelR vs fs cr).1.Faces).length (((levelR vs fs cr).1.Faces).map eF), .sl ((levelR vs fs cr).1.Creases).length (((levelR vs fs cr).1.Creases).flatMap eCr)]) rfl ty_26 h70 rfl (.tmp rfl (.nil))), ?_, m73⟩
 exact congrArg AV.tup (lc (congrArg AV.agg (lc (congrArg (fun l : List VT => AV.sl l.length (l.flatMap eV)) (show ((levelR vs fs cr).1.Verts : List VT) = (quadR vs fs cr).1.Verts from by rw [quad_2 b25])) (lc (congrArg (fun l : List (List Int) => AV.sl l.length (l.map eF)) (show ((levelR vs fs cr).1.Faces : List (List Int)) = (quadR vs fs cr).1.Faces from by rw [quad_2 b25])) (lc (congrArg (fun l : List CrT => AV.sl l.length (l.flatMap eCr)) (show ((levelR vs fs cr).1.Creases : List CrT) = (quadR vs fs cr).1.Creases from by rw [quad_2 b25])) rfl)))) (lc (congrArg AV.bool (show (decide ((levelR vs fs cr).2 = 0) : Bool) = (quadR vs fs cr).2 from by rw [quad_2 b25])) rfl))
theorem c_PatchInside (vs : List VT) (fs : List (List Int)) (cr : List CrT) (hvl : vs.length ≤ 1048576) (hfl : fs.length ≤ 1048576) (hfs : ∀ l ∈ fs, l.length ≤ 1048576) (hcl : cr.length ≤ 1048576) (hcS : ∀ c ∈ cr, c.S ≤ 9223372036854775807)  : PC Try.prog 12 [.agg [.sl vs.length (vs.flatMap eV), .sl fs.length (fs.map eF), .sl cr.length (cr.flatMap eCr)]] (.bool true) := by
 intro H0
 refine ACalls.of_body' (n := 75) rfl rfl rfl rfl ?_
 have m0 := Mono.refl H0
 refine AWP.seq (AWP.region rfl ?_)
 refine AOps.cons rfl rfl (AOp.box (.agg [.sl vs.length (vs.flatMap eV), .sl fs.length (fs.map eF), .sl cr.length (cr.flatMap eCr)]) rfl rfl rfl ?_)
 intro i1 H2 n3 h4 k5
 have z6 := Mono.free m0 n3
 have m7 := Mono.new m0 n3 k5
 refine AOps.cons rfl rfl (AOp.assign _ rfl rfl ?_)
 refine AWP.seq ?_
 refine AWP.seq ?_
 refine AWP.frzP 1 h4 z6 rfl m7 fun H8 m9 k10 => ?_
 refine AWP.region rfl ?_
 refine AOps.cons rfl rfl (AOp.pcall («as» := []) rfl rfl (rfl) tf_28 (c_palive) ?_)
 intro H11 m12
 have m13 := m9.trans m12
 refine AOps.cons rfl rfl (AOp.not rfl rfl ?_)
 refine AWP.condF rfl rfl ?_
 refine AWP.skip ?_
 refine AWP.seq (AWP.region rfl ?_)
 refine AOps.cons rfl rfl (AOp.loadF _ rfl rfl ty_26 rfl (AOps.cons rfl rfl (AOp.pcall («as» := [.agg [.sl vs.length (vs.flatMap eV), .sl fs.length (fs.map eF), .sl cr.length (cr.flatMap eCr)]]) rfl rfl (rfl) tf_29 (c_quads vs fs cr (by omega) (by omega) (by assumption) (by omega) hcS) ?_)))
 intro H14 m15
 have m16 := m13.trans m15
 refine AOps.cons rfl rfl (AOp.move _ rfl rfl (AOps.cons rfl rfl (AOp.extract _ rfl rfl rfl (AOps.cons rfl rfl (AOp.extract _ rfl rfl rfl (AOps.cons rfl rfl (AOp.alloc rfl tz_26 ?_)))))))
 intro i17 H18 n19 h20 k21
 have z22 := Mono.free m16 n19
 have m23 := Mono.new m16 n19 k21
 refine AOps.cons rfl rfl (AOp.store' (cells' := [.sl ((quadR vs fs cr).1.Verts).length (((quadR vs fs cr).1.Verts).flatMap eV), .sl ((quadR vs fs cr).1.Faces).length (((quadR vs fs cr).1.Faces).map eF), .sl ((quadR vs fs cr).1.Creases).length (((quadR vs fs cr).1.Creases).flatMap eCr)]) (.agg [.sl ((quadR vs fs cr).1.Verts).length (((quadR vs fs cr).1.Verts).flatMap eV), .sl ((quadR vs fs cr).1.Faces).length (((quadR vs fs cr).1.Faces).map eF), .sl ((quadR vs fs cr).1.Creases).length (((quadR vs fs cr).1.Creases).flatMap eCr)]) rfl rfl ts_26 h20 rfl rfl rfl rfl ?_)
 intro H24 h25 k26
 have m28 := Mono.set m23 z22 k26
 refine AOps.cons rfl rfl (AOp.assign _ rfl rfl ?_)
 refine AWP.seq ?_
 refine AWP.seq ?_
 refine AWP.frzP 3 h25 z22 rfl m28 fun H29 m30 k31 => ?_
 refine AWP.region rfl ?_
 refine AOps.cons rfl rfl (AOp.move _ rfl rfl (AOps.cons rfl rfl (AOp.not rfl rfl ?_)))
 refine AOps.nil ?_
 change AWP _ _ _ _ _ _
 rcases Bool.eq_false_or_eq_true ((quadR vs fs cr).2) with b32 | b32
 refine AWP.condF rfl (nb b32) ?_
 refine AWP.skip ?_
 refine AWP.seq ?_
 have Q := quF hcS b32
 have PF := paF Q 0
 have hpl := PF.l
 have hqf := Q.mid.f
 have hqv := Q.mid.v
 refine AWP.region rfl ?_
 refine AOps.cons rfl rfl (AOp.loadF _ rfl rfl ty_26 rfl (AOps.cons rfl rfl (AOp.pcall («as» := [.agg [.sl ((quadR vs fs cr).1.Verts).length (((quadR vs fs cr).1.Verts).flatMap eV), .sl ((quadR vs fs cr).1.Faces).length (((quadR vs fs cr).1.Faces).map eF), .sl ((quadR vs fs cr).1.Creases).length (((quadR vs fs cr).1.Creases).flatMap eCr)], .int .i64 0]) rfl rfl (rfl) tf_30 (c_Patches _ _ _ Q.mid _) ?_)))
 intro H33 m34
 have m35 := m30.trans m34
 refine AOps.cons rfl rfl (AOp.move _ rfl rfl (AOps.cons rfl rfl (AOp.extract _ rfl rfl rfl (AOps.cons rfl rfl (AOp.extract _ rfl rfl rfl (AOps.cons rfl rfl (AOp.assign _ rfl rfl (AOps.cons rfl rfl (AOp.assign _ rfl rfl ?_)))))))))
 refine AWP.seq (AWP.region rfl ?_)
 refine AOps.cons rfl rfl (AOp.fieldAddrF rfl rfl fl_26_0 (AOps.cons rfl rfl (AOp.loadF _ rfl rfl ty_22 rfl (AOps.cons rfl rfl (AOp.pcall («as» := [.sl ((quadR vs fs cr).1.Verts).length (((quadR vs fs cr).1.Verts).flatMap eV)]) rfl rfl (rfl) tf_26 (c_vBound ((quadR vs fs cr).1.Verts) (by omega)) ?_)))))
 intro H36 m37
 have m38 := m35.trans m37
 refine AOps.cons rfl rfl (AOp.move _ rfl rfl (AOps.cons rfl rfl (AOp.extract _ rfl rfl rfl (AOps.cons rfl rfl (AOp.extract _ rfl rfl rfl (AOps.cons rfl rfl (AOp.alloc rfl tz_57 ?_)))))))
 intro i39 H40 n41 h42 k43
 have z44 := Mono.free m38 n41
 have m45 := Mono.new m38 n41 k43
 refine AOps.cons rfl rfl (AOp.store' (cells' := [.int .i64 ((((boundR ((quadR vs fs cr).1.Verts)).1).Lo).X), .int .i64 ((((boundR ((quadR vs fs cr).1.Verts)).1).Lo).Y), .int .i64 ((((boundR ((quadR vs fs cr).1.Verts)).1).Lo).Z), .int .i64 ((((boundR ((quadR vs fs cr).1.Verts)).1).Hi).X), .int .i64 ((((boundR ((quadR vs fs cr).1.Verts)).1).Hi).Y), .int .i64 ((((boundR ((quadR vs fs cr).1.Verts)).1).Hi).Z)]) (.agg [.int .i64 ((((boundR ((quadR vs fs cr).1.Verts)).1).Lo).X), .int .i64 ((((boundR ((quadR vs fs cr).1.Verts)).1).Lo).Y), .int .i64 ((((boundR ((quadR vs fs cr).1.Verts)).1).Lo).Z), .int .i64 ((((boundR ((quadR vs fs cr).1.Verts)).1).Hi).X), .int .i64 ((((boundR ((quadR vs fs cr).1.Verts)).1).Hi).Y), .int .i64 ((((boundR ((quadR vs fs cr).1.Verts)).1).Hi).Z)]) rfl rfl ts_57 h42 rfl rfl rfl rfl ?_)
 intro H46 h47 k48
 have m50 := Mono.set m45 z44 k48
 refine AOps.cons rfl rfl (AOp.assign _ rfl rfl ?_)
 refine AWP.seq ?_
 refine AWP.seq ?_
 refine AWP.frzP 7 h47 z44 rfl m50 fun H51 m52 k53 => ?_
 refine AWP.region rfl ?_
 refine AOps.cons rfl rfl (AOp.assign _ rfl rfl ?_)
 refine AWP.block ?_
 refine AWP.loop (fun q54 fq Hq => ∃ (i : Int), q54 = ((((patR (quadR vs fs cr).1.Verts (quadR vs fs cr).1.Faces (quadR vs fs cr).1.Creases 0).1.length : Int) : Int) - i).toNat ∧ fq 9 = .int .i64 i ∧ fq 3 = .fptr [.sl ((quadR vs fs cr).1.Verts).length (((quadR vs fs cr).1.Verts).flatMap eV), .sl ((quadR vs fs cr).1.Faces).length (((quadR vs fs cr).1.Faces).map eF), .sl ((quadR vs fs cr).1.Creases).length (((quadR vs fs cr).1.Creases).flatMap eCr)] 0 ∧ fq 5 = .sl ((patR ((quadR vs fs cr).1.Verts) ((quadR vs fs cr).1.Faces) ((quadR vs fs cr).1.Creases) 0).1).length (((patR ((quadR vs fs cr).1.Verts) ((quadR vs fs cr).1.Faces) ((quadR vs fs cr).1.Creases) 0).1).flatMap ePatch) ∧ fq 6 = .int .i64 ((patR ((quadR vs fs cr).1.Verts) ((quadR vs fs cr).1.Faces) ((quadR vs fs cr).1.Creases) 0).2) ∧ fq 7 = .fptr [.int .i64 ((((boundR ((quadR vs fs cr).1.Verts)).1).Lo).X), .int .i64 ((((boundR ((quadR vs fs cr).1.Verts)).1).Lo).Y), .int .i64 ((((boundR ((quadR vs fs cr).1.Verts)).1).Lo).Z), .int .i64 ((((boundR ((quadR vs fs cr).1.Verts)).1).Hi).X), .int .i64 ((((boundR ((quadR vs fs cr).1.Verts)).1).Hi).Y), .int .i64 ((((boundR ((quadR vs fs cr).1.Verts)).1).Hi).Z)] 0 ∧ Mono H0 Hq ∧ (0 ≤ i) ∧ (i ≤ ((patR (quadR vs fs cr).1.Verts (quadR vs fs cr).1.Faces (quadR vs fs cr).1.Creases 0).1.length : Int))) (k := ((((patR (quadR vs fs cr).1.Verts (quadR vs fs cr).1.Faces (quadR vs fs cr).1.Creases 0).1.length : Int) : Int) - 0).toNat) ?_ ?_
 exact ⟨0, rfl, rfl, rfl, rfl, rfl, rfl, m52, by omega, by omega⟩
 rintro _ f56 H55 ⟨i, rfl, s57, s58, s59, s60, s61, m62, hi0, hi1⟩
 refine AWP.seq ?_
 refine AWP.seq (AWP.region rfl ?_)
 refine AOps.cons rfl rfl (AOp.move _ rfl s57 (AOps.cons rfl rfl (AOp.move _ rfl s59 (AOps.cons rfl rfl (AOp.len (m := ((patR ((quadR vs fs cr).1.Verts) ((quadR vs fs cr).1.Faces) ((quadR vs fs cr).1.Creases) 0).1).length) rfl rfl (.inr (.inl ⟨_, rfl⟩)) u_63 (AOps.cons rfl rfl (AOp.bin _ rfl rfl rfl rfl ?_)))))))
 refine AOps.nil ?_
 change AWP _ _ _ _ _ _
 by_cases b63 : i < ((((patR ((quadR vs fs cr).1.Verts) ((quadR vs fs cr).1.Faces) ((quadR vs fs cr).1.Creases) 0).1).length) : Int)
 refine AWP.condT rfl (decide_eq_true b63) ?_
 refine AWP.skip ?_
 refine AWP.seq ?_
 refine AWP.block ?_
 refine AWP.seq ?_
 refine AWP.seq (AWP.region rfl ?_)
 refine AOps.cons rfl rfl (AOp.assign _ rfl rfl ?_)
 refine AWP.block ?_
 refine AWP.loop (fun q64 fq Hq => ∃ (k : Int), q64 = ((16 : Int) - k).toNat ∧ fq 10 = .int .i64 k ∧ fq 9 = .int .i64 i ∧ fq 3 = .fptr [.sl ((quadR vs fs cr).1.Verts).length (((quadR vs fs cr).1.Verts).flatMap eV), .sl ((quadR vs fs cr).1.Faces).length (((quadR vs fs cr).1.Faces).map eF), .sl ((quadR vs fs cr).1.Creases).length (((quadR vs fs cr).1.Creases).flatMap eCr)] 0 ∧ fq 5 = .sl ((patR ((quadR vs fs cr).1.Verts) ((quadR vs fs cr).1.Faces) ((quadR vs fs cr).1.Creases) 0).1).length (((patR ((quadR vs fs cr).1.Verts) ((quadR vs fs cr).1.Faces) ((quadR vs fs cr).1.Creases) 0).1).flatMap ePatch) ∧ fq 6 = .int .i64 ((patR ((quadR vs fs cr).1.Verts) ((quadR vs fs cr).1.Faces) ((quadR vs fs cr).1.Creases) 0).2) ∧ fq 7 = .fptr [.int .i64 ((((boundR ((quadR vs fs cr).1.Verts)).1).Lo).X), .int .i64 ((((boundR ((quadR vs fs cr).1.Verts)).1).Lo).Y), .int .i64 ((((boundR ((quadR vs fs cr).1.Verts)).1).Lo).Z), .int .i64 ((((boundR ((quadR vs fs cr).1.Verts)).1).Hi).X), .int .i64 ((((boundR ((quadR vs fs cr).1.Verts)).1).Hi).Y), .int .i64 ((((boundR ((quadR vs fs cr).1.Verts)).1).Hi).Z)] 0 ∧ Mono H0 Hq ∧ (0 ≤ k) ∧ (k ≤ 16)) (k := ((16 : Int) - 0).toNat) ?_ ?_
 exact ⟨0, rfl, rfl, s57, s58, s59, s60, s61, m62, by omega, by omega⟩
 rintro _ f66 H65 ⟨k, rfl, s67, s68, s69, s70, s71, s72, m73, hk0, hk1⟩
 refine AWP.seq ?_
 refine AWP.seq (AWP.region rfl ?_)
 refine AOps.cons rfl rfl (AOp.move _ rfl s67 (AOps.cons rfl rfl (AOp.bin _ rfl rfl rfl rfl ?_)))
 refine AOps.nil ?_
 change AWP _ _ _ _ _ _
 by_cases b74 : k < 16
 refine AWP.condT rfl (decide_eq_true b74) ?_
 refine AWP.skip ?_
 refine AWP.seq ?_
 refine AWP.block ?_
 refine AWP.seq ?_
 refine AWP.region_quiet mixed (by kernel_rfl) 10 [] rfl (by kernel_rfl) (Mono H65) (Mono.refl _) ?_
 refine QE.op rfl rfl (.inl ⟨rfl, fun f' H' hf hM => AOp.loadF _ rfl ((hf 7 rfl).trans s72) ty_57 rfl ⟨rfl, hM⟩⟩) ?_
 refine QE.op rfl rfl (.inl ⟨rfl, fun f' H' hf hM => AOp.move _ rfl ((hf 5 rfl).trans s70) ⟨rfl, hM⟩⟩) ?_
 refine QE.op rfl rfl (.inl ⟨rfl, fun f' H' hf hM => AOp.move _ rfl ((hf 9 rfl).trans s68) ⟨rfl, hM⟩⟩) ?_
 refine QE.op rfl rfl (.inl ⟨rfl, fun f' H' hf hM => AOp.move _ rfl ((hf 10 rfl).trans s67) ⟨rfl, hM⟩⟩) ?_
 refine QE.op rfl rfl (.inl ⟨rfl, fun f' H' hf hM => AOp.indexAddrS rfl ((hf 43 rfl).trans rfl) ((hf 44 rfl).trans rfl) sl_63 (by omega) (by omega) ⟨rfl, hM⟩⟩) ?_
 refine QE.op rfl rfl (.inl ⟨rfl, fun f' H' hf hM => AOp.fieldAddrF rfl ((hf 46 rfl).trans rfl) fl_70_0 ⟨rfl, hM⟩⟩) ?_
 refine QE.op rfl rfl (.inl ⟨rfl, fun f' H' hf hM => AOp.indexAddrFA rfl ((hf 47 rfl).trans rfl) ((hf 45 rfl).trans rfl) ar_66 (by omega) (by omega) ⟨rfl, hM⟩⟩) ?_
 refine QE.op rfl rfl (.inl ⟨rfl, fun f' H' hf hM => AOp.loadF _ rfl ((hf 48 rfl).trans rfl) ty_42 (ld_off (o := i.toNat * 65 + 0 + (k : Int).toNat * 3) (o' := i.toNat * 65 + (0 + k.toNat * 3)) (by omega) (ldE ePatch_len (i := i) (by omega) (by omega) (fun h => by first | rfl | cases h) (ld_off (o := 0 + k.toNat * 3) (by omega) (ld_fst (fun h => by first | rfl | cases h) (ldM eV_len (i := k) (by omega) (by first | (have := (at_ ((patR ((quadR vs fs cr).1.Verts) ((quadR vs fs cr).1.Faces) ((quadR vs fs cr).1.Creases) 0).1) i).lP; omega) | (simp; omega))))))) ⟨rfl, hM⟩⟩) ?_
 refine QE.op rfl rfl (.inl ⟨rfl, fun f' H' hf hM => AOp.pcall («as» := [.agg [.int .i64 ((((boundR ((quadR vs fs cr).1.Verts)).1).Lo).X), .int .i64 ((((boundR ((quadR vs fs cr).1.Verts)).1).Lo).Y), .int .i64 ((((boundR ((quadR vs fs cr).1.Verts)).1).Lo).Z), .int .i64 ((((boundR ((quadR vs fs cr).1.Verts)).1).Hi).X), .int .i64 ((((boundR ((quadR vs fs cr).1.Verts)).1).Hi).Y), .int .i64 ((((boundR ((quadR vs fs cr).1.Verts)).1).Hi).Z)], .agg (eV (at_ ((at_ ((patR ((quadR vs fs cr).1.Verts) ((quadR vs fs cr).1.Faces) ((quadR vs fs cr).1.Creases) 0).1) i).aP) k))]) rfl rfl (lapp (lcons ((hf 42 rfl).trans rfl) (lcons ((hf 49 rfl).trans rfl) rfl)) rfl) tf_27 (c_vHas ((boundR ((quadR vs fs cr).1.Verts)).1) (at_ ((at_ ((patR ((quadR vs fs cr).1.Verts) ((quadR vs fs cr).1.Faces) ((quadR vs fs cr).1.Creases) 0).1) i).aP) k)) fun H2 m2 => ⟨rfl, hM.trans m2⟩⟩) ?_
 refine QE.op rfl rfl (.inl ⟨rfl, fun f' H' hf hM => AOp.not rfl ((hf 50 rfl).trans rfl) ⟨rfl, hM⟩⟩) ?_
 refine QE.done fun H75 m76 => ?_
 have m77 := m73.trans m76
 refine AWP.condF rfl (nb (decide_eq_true ((PF.p i hi0 (by omega) k hk0 (by omega))))) ?_
 refine AWP.skip ?_
 refine AWP.region rfl ?_
 refine AOps.cons rfl rfl (AOp.move _ rfl s67 (AOps.cons rfl rfl (AOp.bin _ rfl rfl rfl (iadd (by omega)) (AOps.cons rfl rfl (AOp.assign _ rfl rfl ?_)))))
 refine AOps.nil ?_
 exact ⟨_, by omega, k + 1, rfl, rfl, s68, s69, s70, s71, s72, m77, by omega, by omega⟩
 refine AWP.condF rfl (decide_eq_false b74) ?_
 refine AWP.exit ?_
 change AWP _ _ _ _ _ _
 refine AWP.seq (AWP.region rfl ?_)
 refine AOps.cons rfl rfl (AOp.assign _ rfl rfl ?_)
 refine AWP.block ?_
 refine AWP.loop (fun q78 fq Hq => ∃ (m : Int), q78 = ((4 : Int) - m).toNat ∧ fq 11 = .int .i64 m ∧ fq 9 = .int .i64 i ∧ fq 3 = .fptr [.sl ((quadR vs fs cr).1.Verts).length (((quadR vs fs cr).1.Verts).flatMap eV), .sl ((quadR vs fs cr).1.Faces).length (((quadR vs fs cr).1.Faces).map eF), .sl ((quadR vs fs cr).1.Creases).length (((quadR vs fs cr).1.Creases).flatMap eCr)] 0 ∧ fq 5 = .sl ((patR ((quadR vs fs cr).1.Verts) ((quadR vs fs cr).1.Faces) ((quadR vs fs cr).1.Creases) 0).1).length (((patR ((quadR vs fs cr).1.Verts) ((quadR vs fs cr).1.Faces) ((quadR vs fs cr).1.Creases) 0).1).flatMap ePatch) ∧ fq 6 = .int .i64 ((patR ((quadR vs fs cr).1.Verts) ((quadR vs fs cr).1.Faces) ((quadR vs fs cr).1.Creases) 0).2) ∧ fq 7 = .fptr [.int .i64 ((((boundR ((quadR vs fs cr).1.Verts)).1).Lo).X), .int .i64 ((((boundR ((quadR vs fs cr).1.Verts)).1).Lo).Y), .int .i64 ((((boundR ((quadR vs fs cr).1.Verts)).1).Lo).Z), .int .i64 ((((boundR ((quadR vs fs cr).1.Verts)).1).Hi).X), .int .i64 ((((boundR ((quadR vs fs cr).1.Verts)).1).Hi).Y), .int .i64 ((((boundR ((quadR vs fs cr).1.Verts)).1).Hi).Z)] 0 ∧ Mono H0 Hq ∧ (0 ≤ m) ∧ (m ≤ 4)) (k := ((4 : Int) - 0).toNat) ?_ ?_
 exact ⟨0, rfl, rfl, s68, s69, s70, s71, s72, m73, by omega, by omega⟩
 rintro _ f80 H79 ⟨m, rfl, s81, s82, s83, s84, s85, s86, m87, hm0, hm1⟩
 refine AWP.seq ?_
 refine AWP.seq (AWP.region rfl ?_)
 refine AOps.cons rfl rfl (AOp.move _ rfl s81 (AOps.cons rfl rfl (AOp.bin _ rfl rfl rfl rfl ?_)))
 refine AOps.nil ?_
 change AWP _ _ _ _ _ _
 by_cases b88 : m < 4
 refine AWP.condT rfl (decide_eq_true b88) ?_
 refine AWP.skip ?_
 refine AWP.seq ?_
 refine AWP.block ?_
 refine AWP.seq (AWP.region rfl ?_)
 refine AOps.cons rfl rfl (AOp.move _ rfl s84 (AOps.cons rfl rfl (AOp.move _ rfl s82 (AOps.cons rfl rfl (AOp.move _ rfl s81 (AOps.cons rfl rfl (AOp.indexAddrS rfl rfl rfl sl_63 (by omega) (by omega) (AOps.cons rfl rfl (AOp.fieldAddrF rfl rfl fl_70_2 (AOps.cons rfl rfl (AOp.indexAddrFA rfl rfl rfl ar_68 (by omega) (by omega) ?_)))))))))))
 refine AOps.cons rfl rfl (AOp.loadF _ rfl rfl ty_42 (ld_off (o := i.toNat * 65 + 52 + (m : Int).toNat * 3) (o' := i.toNat * 65 + (52 + m.toNat * 3)) (by omega) (ldE ePatch_len (i := i) (by omega) (by omega) (fun h => by first | rfl | cases h) (ld_skip (off' := 4 + ((m).toNat * 3)) (lenM eV_len (at_ ((patR ((quadR vs fs cr).1.Verts) ((quadR vs fs cr).1.Faces) ((quadR vs fs cr).1.Creases) 0).1) i).lP rfl) (by omega) (ld_skip (off' := (m).toNat * 3) (len1 (at_ ((patR ((quadR vs fs cr).1.Verts) ((quadR vs fs cr).1.Faces) ((quadR vs fs cr).1.Creases) 0).1) i).lCorners) (by omega) (ld_fst (fun h => by first | rfl | cases h) (ldM eV_len (i := m) (by omega) (by first | (have := (at_ ((patR ((quadR vs fs cr).1.Verts) ((quadR vs fs cr).1.Faces) ((quadR vs fs cr).1.Creases) 0).1) i).lNormals; omega) | (simp; omega)))))))) (AOps.cons rfl rfl (AOp.pcall («as» := [.agg (eV (at_ ((at_ ((patR ((quadR vs fs cr).1.Verts) ((quadR vs fs cr).1.Faces) ((quadR vs fs cr).1.Creases) 0).1) i).aNormals) m)), .int .i64 1023]) rfl rfl (rfl) tf_21 (c_vWithin (at_ ((at_ ((patR ((quadR vs fs cr).1.Verts) ((quadR vs fs cr).1.Faces) ((quadR vs fs cr).1.Creases) 0).1) i).aNormals) m) 1023 (by omega)) ?_)))
 intro H89 m90
 have m91 := m87.trans m90
 refine AOps.cons rfl rfl (AOp.not rfl rfl ?_)
 refine AWP.condF rfl (nb (decide_eq_true ((PF.n i hi0 (by omega) m hm0 (by omega))))) ?_
 refine AWP.skip ?_
 refine AWP.region rfl ?_
 refine AOps.cons rfl rfl (AOp.move _ rfl s81 (AOps.cons rfl rfl (AOp.bin _ rfl rfl rfl (iadd (by omega)) (AOps.cons rfl rfl (AOp.assign _ rfl rfl ?_)))))
 refine AOps.nil ?_
 exact ⟨_, by omega, m + 1, rfl, rfl, s82, s83, s84, s85, s86, m91, by omega, by omega⟩
 refine AWP.condF rfl (decide_eq_false b88) ?_
 refine AWP.exit ?_
 change AWP _ _ _ _ _ _
 refine AWP.region rfl ?_
 refine AOps.cons rfl rfl (AOp.move _ rfl s82 (AOps.cons rfl rfl (AOp.bin _ rfl rfl rfl (iadd (by omega)) (AOps.cons rfl rfl (AOp.assign _ rfl rfl ?_)))))
 refine AOps.nil ?_
 exact ⟨_, by omega, i + 1, rfl, rfl, s83, s84, s85, s86, m87, by omega, by omega⟩
 refine AWP.condF rfl (decide_eq_false b63) ?_
 refine AWP.exit ?_
 change AWP _ _ _ _ _ _
 refine AWP.seq (AWP.region rfl ?_)
 refine AOps.cons rfl rfl (AOp.move _ rfl s60 (AOps.cons rfl rfl (AOp.bin _ rfl rfl rfl ieq (AOps.cons rfl rfl (AOp.move _ rfl rfl (AOps.yes rfl rfl rfl rfl rfl rfl rfl (decide_eq_true (PF.e)) (AOp.move _ rfl s59 (AOps.yes rfl rfl rfl rfl rfl rfl rfl (decide_eq_true (PF.e)) (AOp.len (m := ((patR ((quadR vs fs cr).1.Verts) ((quadR vs fs cr).1.Faces) ((quadR vs fs cr).1.Creases) 0).1).length) rfl rfl (.inr (.inl ⟨_, rfl⟩)) u_63 (AOps.yes rfl rfl rfl rfl rfl rfl rfl (decide_eq_true (PF.e)) (AOp.fieldAddrF rfl s58 fl_26_1 ?_)))))))))))
 refine AOps.yes rfl rfl rfl rfl rfl rfl rfl (decide_eq_true (PF.e)) (AOp.loadF _ rfl rfl ty_23 rfl (AOps.yes rfl rfl rfl rfl rfl rfl rfl (decide_eq_true (PF.e)) (AOp.len (m := ((quadR vs fs cr).1.Faces).length) rfl rfl (.inr (.inl ⟨_, rfl⟩)) u_23 (AOps.yes rfl rfl rfl rfl rfl rfl rfl (decide_eq_true (PF.e)) (AOp.bin _ rfl rfl rfl ieq (AOps.cons rfl rfl (AOp.pickT _ rfl rfl (decide_eq_true (PF.e)) rfl (AOps.cons rfl rfl (AOp.assign _ rfl rfl ?_)))))))))
 refine AWP.ret ?_
 refine ⟨_, _, Ghost.refl, .inr rfl, _, Res.one rfl rfl, ?_, m62⟩
 exact (congrArg AV.bool (show (decide (((((patR ((quadR vs fs cr).1.Verts) ((quadR vs fs cr).1.Faces) ((quadR vs fs cr).1.Creases) 0).1).length) : Int) = ((((quadR vs fs cr).1.Faces).length) : Int)) : Bool) = true from by first | rfl | exact decide_eq_true (by omega)))
 refine AWP.condT rfl (nb b32) ?_
 refine AWP.seq (AWP.region rfl ?_)
 refine AOps.cons rfl rfl (AOp.assign _ rfl rfl ?_)
 refine AWP.ret ?_
 refine ⟨_, _, Ghost.refl, .inr rfl, _, Res.one rfl rfl, ?_, m30⟩
 exact rfl
end Go.Proofs.U
