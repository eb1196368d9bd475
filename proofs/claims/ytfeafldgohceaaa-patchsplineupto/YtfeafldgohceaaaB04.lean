/- A part of the proof that a law answers true for every input of its row: own work, by an AI agent. -/
import Derived.Test.YtfeafldgohceaaaB01
import Derived.Test.YtfeafldgohceaaaB03
import Derived.Test.YtfeafldgohceaaaB02
import Derived.KernelRfl
import Derived.OpenShut
import Derived.Deep.Slices
import Derived.Lib.LaidTab
import Derived.Deep.OwnRows
import Derived.WideKeyArgs
import Derived.Test.YtfeafldgohceaaaRows
import Derived.WalkKit
import Derived.ProofKit
import Derived.JoinedCond
import Derived.Deep.DeepHandedRow
import Derived.Deep.Matrix
set_option linter.unusedSimpArgs false
set_option linter.unusedVariables false
set_option linter.defProp false
namespace Go.Proofs.U
open Go Go.AH Go.Proofs.T
set_option maxRecDepth 4000
set_option linter.unusedSimpArgs false
set_option linter.unusedVariables false
set_option maxHeartbeats 4000000
theorem c_Level (vs : List VT) (fs : List (List Int)) (cr : List CrT) (hvl : vs.length ≤ 1000) (hfs : fs.length ≤ 1000) (hfss0 : ∀ l ∈ fs, l.length ≤ 100000) (hsl : (sides fs).length ≤ 50000) (hcl : cr.length ≤ 1048576) (hcS : ∀ c ∈ cr, c.S ≤ 9223372036854775807) : PC Try.prog 15 [.agg [.sl vs.length (vs.flatMap eV), .sl fs.length (fs.map eF), .sl cr.length (cr.flatMap eCr)]] (.tup [.agg [.sl ((levelR vs fs cr).1.Verts).length (((levelR vs fs cr).1.Verts).flatMap eV), .sl ((levelR vs fs cr).1.Faces).length (((levelR vs fs cr).1.Faces).map eF), .sl ((levelR vs fs cr).1.Creases).length (((levelR vs fs cr).1.Creases).flatMap eCr)], .int .i64 ((levelR vs fs cr).2)]) := by
 intro H0
 refine ACalls.of_body' (n := 181) rfl rfl rfl rfl ?_
 have m0 := Mono.refl H0
 refine Sr ?_
 refine C rfl (bx_ (.agg [.sl vs.length (vs.flatMap eV), .sl fs.length (fs.map eF), .sl cr.length (cr.flatMap eCr)]) rfl rfl rfl ?_)
 intro i1 H2 n3 h4 k5
 have z6 := Mono.free m0 n3
 have m7 := Mono.new m0 n3 k5
 refine C rfl (al_ rfl tz_26 ?_)
 intro i8 H9 n10 h11 k12
 have e13 := ne_new h4 n10
 have z14 := Mono.free m7 n10
 have h15 := keep k12 (ne_new h4 n10) h4
 have m16 := Mono.new m7 n10 k12
 refine C rfl (As (.int .i64 0) rfl rfl ?_)
 refine AWP.seq ?_
 refine fz_ 1 h15 z6 rfl m16 fun H17 m18 k19 => ?_
 have h20 := (k19 _ (Ne.symm e13)).trans h11
 refine AWP.region rfl ?_
 refine F rfl rfl fl_26_0 (C rfl (Lf (.sl vs.length (vs.flatMap eV)) rfl rfl ty_22 rfl (C rfl (AOp.len (m := vs.length) rfl rfl (.inr (.inl ⟨_, rfl⟩)) u_22 (F rfl rfl fl_26_1 (C rfl (Lf (.sl fs.length (fs.map eF)) rfl rfl ty_23 rfl (C rfl (Pc («as» := [.int .i64 (vs.length : Int), .sl fs.length (fs.map eF)]) rfl rfl (rfl) tf_16 (c12 _ (by omega) (fun l h => Nat.le_trans (hfss0 l h) (by decide)) _ (by omega) (by omega)) ?_)))))))))
 intro H21 m22
 have h23 := m22 _ _ h20
 have m24 := m18.trans m22
 refine C rfl (Mv (.tup [.agg [.sl ((buildT vs.length fs).ed).length (((buildT vs.length fs).ed).flatMap eE), .sl ((buildT vs.length fs).fan).length (((buildT vs.length fs).fan).map eF), .sl ((buildT vs.length fs).rnd).length (((buildT vs.length fs).rnd).map eBo)], .int .i64 (buildE vs.length fs)]) rfl rfl (C rfl (Ex (.agg [.sl ((buildT vs.length fs).ed).length (((buildT vs.length fs).ed).flatMap eE), .sl ((buildT vs.length fs).fan).length (((buildT vs.length fs).fan).map eF), .sl ((buildT vs.length fs).rnd).length (((buildT vs.length fs).rnd).map eBo)]) rfl rfl rfl (C rfl (Ex (.int .i64 (buildE vs.length fs)) rfl rfl rfl (C rfl (al_ rfl tz_35 ?_)))))))
 intro i25 H26 n27 h28 k29
 have e30 := ne_new h23 n27
 have z31 := Mono.free m24 n27
 have h32 := keep k29 (ne_new h23 n27) h23
 have m33 := Mono.new m24 n27 k29
 refine C rfl (Sw rfl rfl ts_35 h28 rfl rfl rfl ?_)
 intro H34 h35 k36
 have h37 := keep k36 e30 h32
 have m39 := Mono.set m33 z31 k36
 refine C rfl (As (.int .i64 (buildE vs.length fs)) rfl rfl ?_)
 refine AWP.seq ?_
 refine AWP.seq ?_
 refine fz_ 4 h35 z31 rfl m39 fun H40 m41 k42 => ?_
 have h43 := (k42 _ e30).trans h37
 refine AWP.region rfl ?_
 refine C rfl (Mv (.int .i64 (buildE vs.length fs)) rfl rfl (C rfl (Bi (.bool (!decide (buildE vs.length fs = 0))) rfl rfl rfl ine ?_)))
 refine AOps.nil ?_
 change AWP _ _ _ _ _ _
 by_cases b44 : buildE vs.length fs = 0
 refine cf_ rfl (nb (decide_eq_true b44)) ?_
 refine AWP.skip ?_
 refine AWP.seq ?_
 have hok := build_OK b44
 have tf := topo_facts hok (by omega) hfs hsl
 have hel := tf.el
 have hfss := ok_faces hok hfss0
 have hfr := ok_rng hok
 refine AWP.region rfl ?_
 refine C rfl (Lf (.agg [.sl vs.length (vs.flatMap eV), .sl fs.length (fs.map eF), .sl cr.length (cr.flatMap eCr)]) rfl rfl ty_26 rfl (C rfl (Lf (.agg [.sl ((buildT vs.length fs).ed).length (((buildT vs.length fs).ed).flatMap eE), .sl ((buildT vs.length fs).fan).length (((buildT vs.length fs).fan).map eF), .sl ((buildT vs.length fs).rnd).length (((buildT vs.length fs).rnd).map eBo)]) rfl rfl ty_35 rfl (C rfl (Pc («as» := [.agg [.sl vs.length (vs.flatMap eV), .sl fs.length (fs.map eF), .sl cr.length (cr.flatMap eCr)], .agg [.sl ((buildT vs.length fs).ed).length (((buildT vs.length fs).ed).flatMap eE), .sl ((buildT vs.length fs).fan).length (((buildT vs.length fs).fan).map eF), .sl ((buildT vs.length fs).rnd).length (((buildT vs.length fs).rnd).map eBo)]]) rfl rfl (rfl) tf_17 (c_Sharp _ _ _ _ (by omega) (by omega) tf.se) ?_)))))
 intro H45 m46
 have h47 := m46 _ _ h43
 have m48 := m41.trans m46
 refine C rfl (Mv (.tup [.sl ((sharpR (buildT vs.length fs) cr).1).length (((sharpR (buildT vs.length fs) cr).1).map eI), .int .i64 ((sharpR (buildT vs.length fs) cr).2)]) rfl rfl (C rfl (Ex (.sl ((sharpR (buildT vs.length fs) cr).1).length (((sharpR (buildT vs.length fs) cr).1).map eI)) rfl rfl rfl (C rfl (Ex (.int .i64 ((sharpR (buildT vs.length fs) cr).2)) rfl rfl rfl (C rfl (As (.sl ((sharpR (buildT vs.length fs) cr).1).length (((sharpR (buildT vs.length fs) cr).1).map eI)) rfl rfl (C rfl (As (.int .i64 ((sharpR (buildT vs.length fs) cr).2)) rfl rfl ?_)))))))))
 refine AWP.seq ?_
 refine Sr ?_
 refine C rfl (Mv (.int .i64 ((sharpR (buildT vs.length fs) cr).2)) rfl rfl (C rfl (Bi (.bool (!decide ((sharpR (buildT vs.length fs) cr).2 = 0))) rfl rfl rfl ine ?_)))
 refine AOps.nil ?_
 change AWP _ _ _ _ _ _
 by_cases b49 : (sharpR (buildT vs.length fs) cr).2 = 0
 refine cf_ rfl (nb (decide_eq_true b49)) ?_
 refine AWP.skip ?_
 refine AWP.seq ?_
 refine AWP.seq ?_
 have sf := sharp_facts hcS b49
 refine AWP.region rfl ?_
 refine F rfl rfl fl_26_0 (C rfl (Lf (.sl vs.length (vs.flatMap eV)) rfl rfl ty_22 rfl (C rfl (Pc («as» := [.sl vs.length (vs.flatMap eV), .fn 34 []]) rfl rfl (rfl) tf_33 (c_anyV _ (by omega)) ?_))))
 intro H50 m51
 have h52 := m51 _ _ h47
 have m53 := m48.trans m51
 refine AOps.nil ?_
 change AWP _ _ _ _ _ _
 rcases Bool.eq_false_or_eq_true (vs.any farV) with b54 | b54
 refine ct_ rfl b54 ?_
 refine Sr ?_
 refine C rfl (Bl (cells := [.snil, .snil, .snil]) rfl tz_26 pl_26 rfl rfl (C rfl (Sw rfl rfl ts_26 h52 rfl rfl rfl ?_)))
 intro H55 h56 k57
 have m59 := Mono.set m53 z14 k57
 refine C rfl (As (.int .i64 21) rfl rfl ?_)
 refine rt_ ?_
 refine Fin.frzCell 0 (Own.nil H0 H55 1) h56 z14 rfl (NotId.nil _) m59 fun H60 h61 m62 k63 => ?_
 have h64 : H60 i8 = some (.row 0 ([.sl 0 ([]), .snil, .snil])) := h61
 refine Fin.frzCell 1 (Own.nil H0 H60 1) h64 z14 rfl (NotId.nil _) m62 fun H65 h66 m67 k68 => ?_
 have h69 : H65 i8 = some (.row 0 ([.sl 0 ([]), .sl 0 ([]), .snil])) := h66
 refine Fin.frzCell 2 (Own.nil H0 H65 1) h69 z14 rfl (NotId.nil _) m67 fun H70 h71 m72 k73 => ?_
 have h74 : H70 i8 = some (.row 0 ([.sl 0 ([]), .sl 0 ([]), .sl 0 ([])])) := h71
 refine Rr (Res.list rfl rfl (.cell (v := .agg [.sl 0 ([]), .sl 0 ([]), .sl 0 ([])]) rfl ty_26 h74 rfl (.tmp rfl (.nil)))) ?_ m72
 exact congrArg AV.tup (lc (congrArg AV.agg (lc (congrArg (fun l : List VT => AV.sl l.length (l.flatMap eV)) (show ([] : List VT) = (levelR vs fs cr).1.Verts from by rw [level_3 b44 b49 b54])) (lc (congrArg (fun l : List (List Int) => AV.sl l.length (l.map eF)) (show ([] : List (List Int)) = (levelR vs fs cr).1.Faces from by rw [level_3 b44 b49 b54])) (lc (congrArg (fun l : List CrT => AV.sl l.length (l.flatMap eCr)) (show ([] : List CrT) = (levelR vs fs cr).1.Creases from by rw [level_3 b44 b49 b54])) rfl)))) (lc (congrArg (AV.int .i64) (show (21 : Int) = (levelR vs fs cr).2 from by rw [level_3 b44 b49 b54])) rfl))
 refine cf_ rfl b54 ?_
 refine AWP.skip ?_
 refine AWP.seq ?_
 have hv := any_in b54
 refine AWP.region_str mixed (by kernel_rfl) [(0, none), (1, none), (2, none), (3, none), (4, none), (5, none), (6, some [0, 1, 2])] [7, 8, 9] (by kernel_rfl) ?_
 refine STR.op rfl rfl (.inl ⟨rfl, fun H1 f' H' hf hN hM => Lf (.agg [.sl vs.length (vs.flatMap eV), .sl fs.length (fs.map eF), .sl cr.length (cr.flatMap eCr)]) rfl ((hf 1 rfl).trans rfl) ty_26 rfl ⟨rfl, hN⟩⟩) ?_
 refine STR.op rfl rfl (.inl ⟨rfl, fun H1 f' H' hf hN hM => Lf (.agg [.sl ((buildT vs.length fs).ed).length (((buildT vs.length fs).ed).flatMap eE), .sl ((buildT vs.length fs).fan).length (((buildT vs.length fs).fan).map eF), .sl ((buildT vs.length fs).rnd).length (((buildT vs.length fs).rnd).map eBo)]) rfl ((hf 4 rfl).trans rfl) ty_35 rfl ⟨rfl, hN⟩⟩) ?_
 refine STR.op rfl rfl (.inl ⟨rfl, fun H1 f' H' hf hN hM => Mv (.sl ((sharpR (buildT vs.length fs) cr).1).length (((sharpR (buildT vs.length fs) cr).1).map eI)) rfl ((hf 6 rfl).trans rfl) ⟨rfl, hN⟩⟩) ?_
 refine STR.op rfl rfl (.inl ⟨rfl, fun H1 f' H' hf hN hM => Ff rfl ((hf 1 rfl).trans rfl) fl_26_0 ⟨rfl, hN⟩⟩) ?_
 refine STR.op rfl rfl (.inl ⟨rfl, fun H1 f' H' hf hN hM => Lf (.sl vs.length (vs.flatMap eV)) rfl ((hf 47 rfl).trans rfl) ty_22 rfl ⟨rfl, hN⟩⟩) ?_
 refine STR.op rfl rfl (.inl ⟨rfl, fun H1 f' H' hf hN hM => AOp.len (m := vs.length) rfl ((hf 48 rfl).trans rfl) (.inr (.inl ⟨_, rfl⟩)) u_22 ⟨rfl, hN⟩⟩) ?_
 refine STR.eff rfl rfl rfl fun f75 H76 hf77 m78 => ?_
 have h79 := m78 _ _ h52
 have m80 := m53.trans m78
 refine AOp.makeSlice_own rfl u_23 ts_38 tz_38 tb_38 (by decide) ((hf77 49 rfl).trans rfl) ((hf77 49 rfl).trans rfl) (by omega) (by omega) m80 ?_
 intro v81 H82 o83 m84 k85 j86
 have o87 : Own H0 H82 1 v81 (List.replicate (vs.length : Int).toNat AV.snil).length ((List.replicate (vs.length : Int).toNat AV.snil).map eA) := Own.re o83 (by rw [List.length_replicate]) (by rw [List.map_replicate]; rfl)
 have h88 := (k85 _ (by rw [h79]; simp)).trans h79
 have no89 := j86 _ (by rw [h79]; simp)
 refine ⟨_, rfl, .inl (fun i X hX => (k85 i (by rw [hX]; simp)).trans hX), ?_⟩
 refine STR.done fun H90 m91 => ?_
 have h92 := m91 _ _ h88
 have o93 := Own.mono o87 m91
 have m94 := m84.trans m91
 refine C rfl (Bl (cells := [.sl vs.length (vs.flatMap eV), .sl fs.length (fs.map eF), .sl cr.length (cr.flatMap eCr), .sl ((buildT vs.length fs).ed).length (((buildT vs.length fs).ed).flatMap eE), .sl ((buildT vs.length fs).fan).length (((buildT vs.length fs).fan).map eF), .sl ((buildT vs.length fs).rnd).length (((buildT vs.length fs).rnd).map eBo), .sl ((sharpR (buildT vs.length fs) cr).1).length (((sharpR (buildT vs.length fs) cr).1).map eI), v81, .snil]) rfl tz_79 pl_79 rfl (fill_step rfl rfl rfl rfl rfl (fill_step rfl rfl rfl rfl rfl (fill_step rfl rfl rfl rfl rfl (fill_own o93 rfl rfl rfl rfl)))) (C rfl (bx_ (.agg [.sl vs.length (vs.flatMap eV), .sl fs.length (fs.map eF), .sl cr.length (cr.flatMap eCr), .sl ((buildT vs.length fs).ed).length (((buildT vs.length fs).ed).flatMap eE), .sl ((buildT vs.length fs).fan).length (((buildT vs.length fs).fan).map eF), .sl ((buildT vs.length fs).rnd).length (((buildT vs.length fs).rnd).map eBo), .sl ((sharpR (buildT vs.length fs) cr).1).length (((sharpR (buildT vs.length fs) cr).1).map eI), v81, .snil]) rfl rfl rfl ?_)))
 intro i95 H96 n97 h98 k99
 have e100 := ne_new h92 n97
 have z101 := Mono.free m94 n97
 have h102 := keep k99 (ne_new h92 n97) h92
 have o103 := Own.keep o93 k99 (Own.notnew o93 n97)
 have no104 := Own.notnew o93 n97
 have m105 := Mono.new m94 n97 k99
 refine C rfl (As (.ptr i95 0 0) rfl rfl ?_)
 refine AWP.seq ?_
 refine AWP.seq ?_
 have oM : MO H0 H96 [] := MO.nil _ _
 have oG := Own.re (k := (gvals [] vs.length).length) (cs := (gvals [] vs.length).map eA) o103 (by rw [gvals_len, List.length_replicate]; omega) (by rw [gvals_nil, Int.toNat_natCast])
 skip
 refine AWP.region rfl ?_
 refine F rfl rfl fl_35_0 (C rfl (Lf (.sl ((buildT vs.length fs).ed).length (((buildT vs.length fs).ed).flatMap eE)) rfl rfl ty_32 rfl (C rfl (AOp.len (m := ((buildT vs.length fs).ed).length) rfl rfl (.inr (.inl ⟨_, rfl⟩)) u_32 (C rfl (Mv (.int .i64 0) rfl rfl ?_))))))
 refine bk_ ?_
 refine AWP.loop (fun q106 fq Hq => ∃ (k : Int) (L : List ME) (w7_7 : AV), q106 = (((buildT vs.length fs).ed.length : Int) - k).toNat ∧ fq 56 = .int .i64 k ∧ fq 1 = .fptr [.sl vs.length (vs.flatMap eV), .sl fs.length (fs.map eF), .sl cr.length (cr.flatMap eCr)] 0 ∧ fq 2 = .ptr i8 0 0 ∧ fq 3 = .int .i64 0 ∧ fq 4 = .fptr [.sl ((buildT vs.length fs).ed).length (((buildT vs.length fs).ed).flatMap eE), .sl ((buildT vs.length fs).fan).length (((buildT vs.length fs).fan).map eF), .sl ((buildT vs.length fs).rnd).length (((buildT vs.length fs).rnd).map eBo)] 0 ∧ fq 7 = .ptr i95 0 0 ∧ fq 54 = .sl ((buildT vs.length fs).ed).length (((buildT vs.length fs).ed).flatMap eE) ∧ fq 55 = .int .i64 ((((buildT vs.length fs).ed).length) : Int) ∧ Own H0 Hq 1 w7_7 (gvals L vs.length).length ((gvals L vs.length).map eA) ∧ NotId w7_7 i8 ∧ NotId w7_7 i95 ∧ MO H0 Hq L ∧ NotIdM L i8 ∧ NotIdM L i95 ∧ SepM L w7_7 ∧ Hq i8 = some (.row 0 ([.snil, .snil, .snil])) ∧ Hq i95 = some (.row 0 ([.sl vs.length (vs.flatMap eV), .sl fs.length (fs.map eF), .sl cr.length (cr.flatMap eCr), .sl ((buildT vs.length fs).ed).length (((buildT vs.length fs).ed).flatMap eE), .sl ((buildT vs.length fs).fan).length (((buildT vs.length fs).fan).map eF), .sl ((buildT vs.length fs).rnd).length (((buildT vs.length fs).rnd).map eBo), .sl ((sharpR (buildT vs.length fs) cr).1).length (((sharpR (buildT vs.length fs) cr).1).map eI), w7_7, .snil])) ∧ Mono H0 Hq ∧ (0 ≤ k) ∧ (k ≤ ((buildT vs.length fs).ed.length : Int)) ∧ (∀ x : Int, (getM L x).2 = adjU (buildT vs.length fs).ed k x)) (k := (((buildT vs.length fs).ed.length : Int) - 0).toNat) ?_ ?_
 exact ⟨0, ([] : List ME), v81, rfl, rfl, rfl, rfl, rfl, rfl, rfl, rfl, rfl, (have hx : ((gvals [] vs.length) : List AV) = gvals ([] : List ME) vs.length := (by first | rfl | simp); Own.re oG (congrArg List.length hx) (congrArg (fun l : List AV => l.map eA) hx)), no89, no104, oM, (NotIdM.nil _), (NotIdM.nil _), (SepM.nil _), h102, h98, m105, by omega, by omega, by intro x; rfl⟩
 rintro _ f108 H107 ⟨k, L, w7_7, rfl, s109, s110, s111, s112, s113, s114, s115, s116, o117, no118, no119, o120, no121, no122, sp123, h124, h125, m126, hk0, hk1, hG⟩
 refine Sr ?_
 refine C rfl (Bi (.bool (decide (k < ((((buildT vs.length fs).ed).length) : Int)))) rfl s109 s116 rfl ?_)
 refine AWP.seq ?_
 by_cases b127 : k < ((((buildT vs.length fs).ed).length) : Int)
 refine ct_ rfl (decide_eq_true b127) ?_
 refine AWP.skip ?_
 refine AWP.seq ?_
 refine bk_ ?_
 refine AWP.seq ?_
 have hek := tf.ab _ (at_mem hk0 (by omega : k < (buildT vs.length fs).ed.length))
 refine AWP.region rfl ?_
 refine C rfl (Mv (.int .i64 k) rfl s109 (C rfl (iS_ rfl s115 s109 sl_32 (by omega) (by omega) (C rfl (Lf (.agg [.int .i64 ((at_ ((buildT vs.length fs).ed) k).A), .int .i64 ((at_ ((buildT vs.length fs).ed) k).B), .int .i64 ((at_ ((buildT vs.length fs).ed) k).F), .int .i64 ((at_ ((buildT vs.length fs).ed) k).G)]) rfl rfl ty_47 (ldM eE_len (by omega) (by omega)) (C rfl (al_ rfl tz_47 ?_)))))))
 intro i128 H129 n130 h131 k132
 have e133 := ne_new h124 n130
 have e134 := ne_new h125 n130
 have z135 := Mono.free m126 n130
 have h136 := keep k132 (ne_new h124 n130) h124
 have h137 := keep k132 (ne_new h125 n130) h125
 have o138 := Own.keep o117 k132 (Own.notnew o117 n130)
 have no139 := Own.notnew o117 n130
 have o140 := MO.keep o120 k132 (MO.notnew o120 n130)
 have no141 := MO.notnew o120 n130
 have m142 := Mono.new m126 n130 k132
 refine C rfl (As (.int .i64 k) rfl rfl (C rfl (Sw rfl rfl ts_47 h131 rfl rfl rfl ?_)))
 intro H143 h144 k145
 have h146 := keep k145 e133 h136
 have h147 := keep k145 e134 h137
 have o149 := Own.keep o138 k145 no139
 have o150 := MO.keep o140 k145 no141
 have m151 := Mono.set m142 z135 k145
 refine AWP.seq ?_
 refine fz_ 9 h144 z135 rfl m151 fun H152 m153 k154 => ?_
 have h155 := (k154 _ e133).trans h146
 have h156 := (k154 _ e134).trans h147
 have o157 := Own.keep o149 k154 no139
 have o158 := MO.keep o150 k154 no141
 have hl1 := adj_len (buildT vs.length fs).ed k (at_ (buildT vs.length fs).ed k).A
 rw [← hG] at hl1
 refine AWP.region_str mixed (by kernel_rfl) [(0, none), (1, none), (2, none), (3, none), (4, none), (5, none), (6, none), (7, none), (8, none), (9, none), (10, none), (11, none), (12, none), (13, none), (14, none), (15, some [0, 1, 2, 3, 4, 5, 6, 7, 8, 9, 10, 11, 12, 13]), (16, some [0, 1, 2, 3, 4, 5])] [17, 18] (by kernel_rfl) ?_
 refine STR.op rfl rfl (.inl ⟨rfl, fun H1 f' H' hf hN hM => Mv (.ptr i95 0 0) rfl ((hf 7 rfl).trans s114) ⟨rfl, hN⟩⟩) ?_
 refine STR.op rfl rfl (.inl ⟨rfl, fun H1 f' H' hf hN hM => nc_ (.ptr i95 0 0) rfl ((hf 61 rfl).trans rfl) rfl ⟨rfl, hN⟩⟩) ?_
 refine STR.op rfl rfl (.inl ⟨rfl, fun H1 f' H' hf hN hM => Fa rfl ((hf 62 rfl).trans rfl) fl_79_3 ⟨rfl, hN⟩ (hid := ⟨_, (hM _ _ h156)⟩)⟩) ?_
 refine STR.op rfl rfl (.inl ⟨rfl, fun H1 f' H' hf hN hM => Ld (w7_7) rfl ((hf 63 rfl).trans rfl) ty_23 (hM _ _ h156) rfl ⟨rfl, hN⟩⟩) ?_
 refine STR.op rfl rfl (.inl ⟨rfl, fun H1 f' H' hf hN hM => Ff rfl ((hf 9 rfl).trans rfl) fl_47_0 ⟨rfl, hN⟩⟩) ?_
 refine STR.op rfl rfl (.inl ⟨rfl, fun H1 f' H' hf hN hM => Lf (.int .i64 ((at_ ((buildT vs.length fs).ed) k).A)) rfl ((hf 65 rfl).trans rfl) ty_3 rfl ⟨rfl, hN⟩⟩) ?_
 refine STR.op rfl rfl (.inl ⟨rfl, fun H1 f' H' hf hN hM => Mv (.ptr i95 0 0) rfl ((hf 7 rfl).trans s114) ⟨rfl, hN⟩⟩) ?_
 refine STR.op rfl rfl (.inl ⟨rfl, fun H1 f' H' hf hN hM => nc_ (.ptr i95 0 0) rfl ((hf 67 rfl).trans rfl) rfl ⟨rfl, hN⟩⟩) ?_
 refine STR.op rfl rfl (.inl ⟨rfl, fun H1 f' H' hf hN hM => Fa rfl ((hf 68 rfl).trans rfl) fl_79_3 ⟨rfl, hN⟩ (hid := ⟨_, (hM _ _ h156)⟩)⟩) ?_
 refine STR.op rfl rfl (.inl ⟨rfl, fun H1 f' H' hf hN hM => Ld (w7_7) rfl ((hf 69 rfl).trans rfl) ty_23 (hM _ _ h156) rfl ⟨rfl, hN⟩⟩) ?_
 refine STR.op rfl rfl (.inl ⟨rfl, fun H1 f' H' hf hN hM => Ff rfl ((hf 9 rfl).trans rfl) fl_47_0 ⟨rfl, hN⟩⟩) ?_
 refine STR.op rfl rfl (.inl ⟨rfl, fun H1 f' H' hf hN hM => Lf (.int .i64 ((at_ ((buildT vs.length fs).ed) k).A)) rfl ((hf 71 rfl).trans rfl) ty_3 rfl ⟨rfl, hN⟩⟩) ?_
 obtain ⟨i159, ver160, e161, h162, _, _⟩ := Own.pos o157 (by first | omega | (rw [gvals_len]; omega))
 refine STR.op rfl rfl (.inl ⟨rfl, fun H1 f' H' hf hN hM => AOp.indexAddrO rfl (Eq.trans ((hf 70 rfl).trans rfl) e161) ((hf 72 rfl).trans rfl) sl_23 (by first | omega | (rw [gvals_len]; omega)) (by first | omega | (rw [gvals_len]; omega)) (hM _ _ h162) ⟨rfl, hN⟩⟩) ?_
 obtain ⟨w163, hw164⟩ : ∃ w, w = (getM L ((at_ ((buildT vs.length fs).ed) k).A)).1 := ⟨_, rfl⟩
 obtain ⟨oA165, oB166, oC167⟩ := MO.take o158 ((at_ ((buildT vs.length fs).ed) k).A)
 rw [← hw164] at oA165 oC167
 have no168 := NotIdM.get no121 ((at_ ((buildT vs.length fs).ed) k).A)
 rw [← hw164] at no168
 have no169 := NotIdM.rest no121 ((at_ ((buildT vs.length fs).ed) k).A)
 have no170 := NotIdM.get no122 ((at_ ((buildT vs.length fs).ed) k).A)
 rw [← hw164] at no170
 have no171 := NotIdM.rest no122 ((at_ ((buildT vs.length fs).ed) k).A)
 have sp172 := SepM.get sp123 ((at_ ((buildT vs.length fs).ed) k).A)
 rw [← hw164] at sp172
 have sp173 := SepM.rest sp123 ((at_ ((buildT vs.length fs).ed) k).A)
 refine STR.op rfl rfl (.inl ⟨rfl, fun H1 f' H' hf hN hM => Ld (w163) rfl ((hf 73 rfl).trans rfl) ty_38 (hM _ _ h162) (by rw [hw164]; exact gld (by omega) (by omega)) ⟨rfl, hN⟩⟩) ?_
 refine STR.op rfl rfl (.inl ⟨rfl, fun H1 f' H' hf hN hM => Mv (.int .i64 k) rfl ((hf 8 rfl).trans rfl) ⟨rfl, hN⟩⟩) ?_
 refine STR.eff rfl rfl rfl fun f174 H175 hf176 m177 => ?_
 have h178 := m177 _ _ h155
 have h179 := m177 _ _ h156
 have o180 := Own.mono o157 m177
 have o181 := MO.mono oB166 m177
 have o182 := Own.mono oA165 m177
 have m183 := m153.trans m177
 refine AOp.buildSlice (cells := [.int .i64 k]) rfl u_38 ts_3 tz_3 rfl (lconsP ((hf176 75 rfl).trans rfl) rfl) rfl ?_
 intro i184 H185 n186 h187 k188
 have h192 := keep k188 (ne_new h178 n186) h178
 have h193 := keep k188 (ne_new h179 n186) h179
 have o194 := Own.keep o180 k188 (Own.notnew o180 n186)
 have o196 := MO.keep o181 k188 (MO.notnew o181 n186)
 have o198 := Own.keep o182 k188 (Own.notnew o182 n186)
 have m200 := Mono.new m183 n186 k188
 refine ⟨_, rfl, .inl (Mono.new (Mono.refl _) n186 k188), ?_⟩
 refine STR.eff rfl rfl rfl fun f201 H202 hf203 m204 => ?_
 have h205 := m204 _ _ h192
 have h206 := m204 _ _ h193
 have h207 := m204 _ _ h187
 have o208 := Own.mono o194 m204
 have o209 := MO.mono o196 m204
 have o210 := Own.mono o198 m204
 have m211 := m200.trans m204
 refine AOp.append_own (es := 1) (m := 1) (len := (((getM L ((at_ ((buildT vs.length fs).ed) k).A)).2).length)) (old := ((getM L ((at_ ((buildT vs.length fs).ed) k).A)).2).map eI) (cells := [.int .i64 k]) rfl u_38 ts_3 tzn_3 tb_3 (by decide) ni_38 ((hf203 74 rfl).trans rfl) o210 m211 ((hf203 76 rfl).trans rfl) (.slm h207 rfl) (one_of rfl) (by decide) (by first | omega | (simp; omega)) ?_
 intro v212 H213 o214 m215 k216 j217
 have o218 := Own.snoc1 (xs := (((getM L ((at_ ((buildT vs.length fs).ed) k).A)).2) : List Int)) (y := k) (e := eI) (by simp) o214
 have h219 := (k216 _ no168 (by rw [h205]; simp)).trans h205
 have no220 := j217 _ no168 (by rw [h205]; simp)
 have h221 := (k216 _ no170 (by rw [h206]; simp)).trans h206
 have no222 := j217 _ no170 (by rw [h206]; simp)
 have sp224 := Own.sep o208 (Sep.symm sp172) j217
 have o223 := Own.stay o208 (Sep.symm sp172) k216
 have sp226 := MO.sep o209 oC167 j217
 have o225 := MO.stay o209 oC167 k216
 refine ⟨_, rfl, .inr (RevR.skip rfl (RevR.skip rfl (RevR.skip rfl (RevR.skip rfl (RevR.skip rfl (RevR.skip rfl (RevR.skip rfl (RevR.skip rfl (RevR.skip rfl (RevR.skip rfl (RevR.cons rfl (.inl ⟨rfl, fun H1 f' H' hf hN hM => Lf (.int .i64 ((at_ ((buildT vs.length fs).ed) k).A)) rfl ((hf 65 rfl).trans rfl) ty_3 rfl ⟨rfl, hN⟩⟩) (RevR.cons rfl (.inl ⟨rfl, fun H1 f' H' hf hN hM => Ff rfl ((hf 9 rfl).trans rfl) fl_47_0 ⟨rfl, hN⟩⟩) (RevR.cons rfl (.inl ⟨rfl, fun H1 f' H' hf hN hM => Ld (w7_7) rfl ((hf 63 rfl).trans rfl) ty_23 (hM _ _ h221) rfl ⟨rfl, hN⟩⟩) (RevR.cons rfl (.inl ⟨rfl, fun H1 f' H' hf hN hM => Fa rfl ((hf 62 rfl).trans rfl) fl_79_3 ⟨rfl, hN⟩ (hid := ⟨_, (hM _ _ h221)⟩)⟩) (RevR.cons rfl (.inl ⟨rfl, fun H1 f' H' hf hN hM => nc_ (.ptr i95 0 0) rfl ((hf 61 rfl).trans rfl) rfl ⟨rfl, hN⟩⟩) (RevR.cons rfl (.inl ⟨rfl, fun H1 f' H' hf hN hM => Mv (.ptr i95 0 0) rfl ((hf 7 rfl).trans s114) ⟨rfl, hN⟩⟩) RevR.nil)))))))))))))))), ?_⟩
 refine STR.done fun H227 m228 => ?_
 have h229 := m228 _ _ h219
 have h230 := m228 _ _ h221
 have o231 := Own.mono o223 m228
 have o232 := MO.mono o225 m228
 have o233 := Own.mono o218 m228
 have m234 := m215.trans m228
 obtain ⟨i235, ver236, e237, h238, _, _⟩ := Own.pos o231 (by first | omega | (rw [gvals_len]; omega))
 refine C rfl (AOp.indexAddrO rfl (Eq.trans rfl e237) rfl sl_23 (by first | omega | (rw [gvals_len]; omega)) (by first | omega | (rw [gvals_len]; omega)) h238 (C rfl (AOp.storeO (cells' := ((gvals L vs.length).set ((at_ ((buildT vs.length fs).ed) k).A).toNat v212).map eA) rfl rfl o233 ts_38 (Own.at_ e237 o231).1 (blelen (by rw [List.length_map]) (by rw [gvals_len]; omega)) (wr_set1 (e := eA) (by omega) (by rw [gvals_len]; omega)) ?_)))
 intro H239 h240 k241
 have h242 := (k241 _ (NotId.ne no118 e237)).trans h229
 have h243 := (k241 _ (NotId.ne no119 e237)).trans h230
 have o244 := Own.store e237 o231 h240 (len' := ((gvals L vs.length).set ((at_ ((buildT vs.length fs).ed) k).A).toNat v212).length) (by rw [List.length_set]) (by rw [List.length_map, Nat.mul_one, List.length_set])
 have m245 := Mono.set m234 (Own.at_ e237 o231).2.1 k241
 have o246 := MO.stay o232 sp173 (fun i hi _ => k241 i (NotId.ne hi e237))
 have o247 := Own.stay o233 (Sep.symm sp224) (fun i hi _ => k241 i (NotId.ne hi e237))
 have o248 := MO.put (L := L) o246 o247 sp226
 have hg249 := gvals_set (L := L) (n := vs.length) (x := (at_ ((buildT vs.length fs).ed) k).A) (w := v212) (xs := (((getM L ((at_ ((buildT vs.length fs).ed) k).A)).2) ++ [k])) (by omega) (by omega)
 have o250 := Own.re o244 (congrArg List.length hg249) (congrArg (fun l : List AV => l.map eA) hg249)
 have no251 := NotIdM.put (xs := (((getM L ((at_ ((buildT vs.length fs).ed) k).A)).2) ++ [k])) no169 no220
 have no252 := NotIdM.put (xs := (((getM L ((at_ ((buildT vs.length fs).ed) k).A)).2) ++ [k])) no171 no222
 have sp253 := SepM.put_ (xs := (((getM L ((at_ ((buildT vs.length fs).ed) k).A)).2) ++ [k])) sp173 (Sep.symm sp224)
 refine AOps.nil ?_
 change AWP _ _ _ _ _ _
 have hG1 := adj_A (w := v212) (xs := (((getM L ((at_ ((buildT vs.length fs).ed) k).A)).2) ++ [k])) hG rfl
 have hl2 := adjM_len (buildT vs.length fs).ed hk0 (at_ (buildT vs.length fs).ed k).B
 rw [← hG1] at hl2
 skip
 refine AWP.region_str mixed (by kernel_rfl) [(0, none), (1, none), (2, none), (3, none), (4, none), (5, none), (6, none), (7, none), (8, none), (9, none), (10, none), (11, none), (12, none), (13, none), (14, none), (15, some [0, 1, 2, 3, 4, 5, 6, 7, 8, 9, 10, 11, 12, 13]), (16, some [0, 1, 2, 3, 4, 5])] [17, 18] (by kernel_rfl) ?_
 refine STR.op rfl rfl (.inl ⟨rfl, fun H1 f' H' hf hN hM => Mv (.ptr i95 0 0) rfl ((hf 7 rfl).trans s114) ⟨rfl, hN⟩⟩) ?_
 refine STR.op rfl rfl (.inl ⟨rfl, fun H1 f' H' hf hN hM => nc_ (.ptr i95 0 0) rfl ((hf 79 rfl).trans rfl) rfl ⟨rfl, hN⟩⟩) ?_
 refine STR.op rfl rfl (.inl ⟨rfl, fun H1 f' H' hf hN hM => Fa rfl ((hf 80 rfl).trans rfl) fl_79_3 ⟨rfl, hN⟩ (hid := ⟨_, (hM _ _ h243)⟩)⟩) ?_
 refine STR.op rfl rfl (.inl ⟨rfl, fun H1 f' H' hf hN hM => Ld (w7_7) rfl ((hf 81 rfl).trans rfl) ty_23 (hM _ _ h243) rfl ⟨rfl, hN⟩⟩) ?_
 refine STR.op rfl rfl (.inl ⟨rfl, fun H1 f' H' hf hN hM => Ff rfl ((hf 9 rfl).trans rfl) fl_47_1 ⟨rfl, hN⟩⟩) ?_
 refine STR.op rfl rfl (.inl ⟨rfl, fun H1 f' H' hf hN hM => Lf (.int .i64 ((at_ ((buildT vs.length fs).ed) k).B)) rfl ((hf 83 rfl).trans rfl) ty_3 rfl ⟨rfl, hN⟩⟩) ?_
 refine STR.op rfl rfl (.inl ⟨rfl, fun H1 f' H' hf hN hM => Mv (.ptr i95 0 0) rfl ((hf 7 rfl).trans s114) ⟨rfl, hN⟩⟩) ?_
 refine STR.op rfl rfl (.inl ⟨rfl, fun H1 f' H' hf hN hM => nc_ (.ptr i95 0 0) rfl ((hf 85 rfl).trans rfl) rfl ⟨rfl, hN⟩⟩) ?_
 refine STR.op rfl rfl (.inl ⟨rfl, fun H1 f' H' hf hN hM => Fa rfl ((hf 86 rfl).trans rfl) fl_79_3 ⟨rfl, hN⟩ (hid := ⟨_, (hM _ _ h243)⟩)⟩) ?_
 refine STR.op rfl rfl (.inl ⟨rfl, fun H1 f' H' hf hN hM => Ld (w7_7) rfl ((hf 87 rfl).trans rfl) ty_23 (hM _ _ h243) rfl ⟨rfl, hN⟩⟩) ?_
 refine STR.op rfl rfl (.inl ⟨rfl, fun H1 f' H' hf hN hM => Ff rfl ((hf 9 rfl).trans rfl) fl_47_1 ⟨rfl, hN⟩⟩) ?_
 refine STR.op rfl rfl (.inl ⟨rfl, fun H1 f' H' hf hN hM => Lf (.int .i64 ((at_ ((buildT vs.length fs).ed) k).B)) rfl ((hf 89 rfl).trans rfl) ty_3 rfl ⟨rfl, hN⟩⟩) ?_
 obtain ⟨i254, ver255, e256, h257, _, _⟩ := Own.pos o250 (by first | omega | (rw [gvals_len]; omega))
 refine STR.op rfl rfl (.inl ⟨rfl, fun H1 f' H' hf hN hM => AOp.indexAddrO rfl (Eq.trans ((hf 88 rfl).trans rfl) e256) ((hf 90 rfl).trans rfl) sl_23 (by first | omega | (rw [gvals_len]; omega)) (by first | omega | (rw [gvals_len]; omega)) (hM _ _ h257) ⟨rfl, hN⟩⟩) ?_
 obtain ⟨w258, hw259⟩ : ∃ w, w = (getM (putM L ((at_ ((buildT vs.length fs).ed) k).A) v212 (((getM L ((at_ ((buildT vs.length fs).ed) k).A)).2) ++ [k])) ((at_ ((buildT vs.length fs).ed) k).B)).1 := ⟨_, rfl⟩
 obtain ⟨oA260, oB261, oC262⟩ := MO.take o248 ((at_ ((buildT vs.length fs).ed) k).B)
 rw [← hw259] at oA260 oC262
 have no263 := NotIdM.get no251 ((at_ ((buildT vs.length fs).ed) k).B)
 rw [← hw259] at no263
 have no264 := NotIdM.rest no251 ((at_ ((buildT vs.length fs).ed) k).B)
 have no265 := NotIdM.get no252 ((at_ ((buildT vs.length fs).ed) k).B)
 rw [← hw259] at no265
 have no266 := NotIdM.rest no252 ((at_ ((buildT vs.length fs).ed) k).B)
 have sp267 := SepM.get sp253 ((at_ ((buildT vs.length fs).ed) k).B)
 rw [← hw259] at sp267
 have sp268 := SepM.rest sp253 ((at_ ((buildT vs.length fs).ed) k).B)
 refine STR.op rfl rfl (.inl ⟨rfl, fun H1 f' H' hf hN hM => Ld (w258) rfl ((hf 91 rfl).trans rfl) ty_38 (hM _ _ h257) (by rw [hw259]; exact gld (by omega) (by omega)) ⟨rfl, hN⟩⟩) ?_
 refine STR.op rfl rfl (.inl ⟨rfl, fun H1 f' H' hf hN hM => Mv (.int .i64 k) rfl ((hf 8 rfl).trans rfl) ⟨rfl, hN⟩⟩) ?_
 refine STR.eff rfl rfl rfl fun f269 H270 hf271 m272 => ?_
 have h273 := m272 _ _ h242
 have h274 := m272 _ _ h243
 have o275 := Own.mono o250 m272
 have o276 := MO.mono oB261 m272
 have o277 := Own.mono oA260 m272
 have m278 := m245.trans m272
 refine AOp.buildSlice (cells := [.int .i64 k]) rfl u_38 ts_3 tz_3 rfl (lconsP ((hf271 93 rfl).trans rfl) rfl) rfl ?_
 intro i279 H280 n281 h282 k283
 have h287 := keep k283 (ne_new h273 n281) h273
 have h288 := keep k283 (ne_new h274 n281) h274
 have o289 := Own.keep o275 k283 (Own.notnew o275 n281)
 have o291 := MO.keep o276 k283 (MO.notnew o276 n281)
 have o293 := Own.keep o277 k283 (Own.notnew o277 n281)
 have m295 := Mono.new m278 n281 k283
 refine ⟨_, rfl, .inl (Mono.new (Mono.refl _) n281 k283), ?_⟩
 refine STR.eff rfl rfl rfl fun f296 H297 hf298 m299 => ?_
 have h300 := m299 _ _ h287
 have h301 := m299 _ _ h288
 have h302 := m299 _ _ h282
 have o303 := Own.mono o289 m299
 have o304 := MO.mono o291 m299
 have o305 := Own.mono o293 m299
 have m306 := m295.trans m299
 refine AOp.append_own (es := 1) (m := 1) (len := (((getM (putM L ((at_ ((buildT vs.length fs).ed) k).A) v212 (((getM L ((at_ ((buildT vs.length fs).ed) k).A)).2) ++ [k])) ((at_ ((buildT vs.length fs).ed) k).B)).2).length)) (old := ((getM (putM L ((at_ ((buildT vs.length fs).ed) k).A) v212 (((getM L ((at_ ((buildT vs.length fs).ed) k).A)).2) ++ [k])) ((at_ ((buildT vs.length fs).ed) k).B)).2).map eI) (cells := [.int .i64 k]) rfl u_38 ts_3 tzn_3 tb_3 (by decide) ni_38 ((hf298 92 rfl).trans rfl) o305 m306 ((hf298 94 rfl).trans rfl) (.slm h302 rfl) (one_of rfl) (by decide) (by first | omega | (simp; omega)) ?_
 intro v307 H308 o309 m310 k311 j312
 have o313 := Own.snoc1 (xs := (((getM (putM L ((at_ ((buildT vs.length fs).ed) k).A) v212 (((getM L ((at_ ((buildT vs.length fs).ed) k).A)).2) ++ [k])) ((at_ ((buildT vs.length fs).ed) k).B)).2) : List Int)) (y := k) (e := eI) (by simp) o309
 have h314 := (k311 _ no263 (by rw [h300]; simp)).trans h300
 have no315 := j312 _ no263 (by rw [h300]; simp)
 have h316 := (k311 _ no265 (by rw [h301]; simp)).trans h301
 have no317 := j312 _ no265 (by rw [h301]; simp)
 have sp319 := Own.sep o303 (Sep.symm sp267) j312
 have o318 := Own.stay o303 (Sep.symm sp267) k311
 have sp321 := MO.sep o304 oC262 j312
 have o320 := MO.stay o304 oC262 k311
 refine ⟨_, rfl, .inr (RevR.skip rfl (RevR.skip rfl (RevR.skip rfl (RevR.skip rfl (RevR.skip rfl (RevR.skip rfl (RevR.skip rfl (RevR.skip rfl (RevR.skip rfl (RevR.skip rfl (RevR.cons rfl (.inl ⟨rfl, fun H1 f' H' hf hN hM => Lf (.int .i64 ((at_ ((buildT vs.length fs).ed) k).B)) rfl ((hf 83 rfl).trans rfl) ty_3 rfl ⟨rfl, hN⟩⟩) (RevR.cons rfl (.inl ⟨rfl, fun H1 f' H' hf hN hM => Ff rfl ((hf 9 rfl).trans rfl) fl_47_1 ⟨rfl, hN⟩⟩) (RevR.cons rfl (.inl ⟨rfl, fun H1 f' H' hf hN hM => Ld (w7_7) rfl ((hf 81 rfl).trans rfl) ty_23 (hM _ _ h316) rfl ⟨rfl, hN⟩⟩) (RevR.cons rfl (.inl ⟨rfl, fun H1 f' H' hf hN hM => Fa rfl ((hf 80 rfl).trans rfl) fl_79_3 ⟨rfl, hN⟩ (hid := ⟨_, (hM _ _ h316)⟩)⟩) (RevR.cons rfl (.inl ⟨rfl, fun H1 f' H' hf hN hM => nc_ (.ptr i95 0 0) rfl ((hf 79 rfl).trans rfl) rfl ⟨rfl, hN⟩⟩) (RevR.cons rfl (.inl ⟨rfl, fun H1 f' H' hf hN hM => Mv (.ptr i95 0 0) rfl ((hf 7 rfl).trans s114) ⟨rfl, hN⟩⟩) RevR.nil)))))))))))))))), ?_⟩
 refine STR.done fun H322 m323 => ?_
 have h324 := m323 _ _ h314
 have h325 := m323 _ _ h316
 have o326 := Own.mono o318 m323
 have o327 := MO.mono o320 m323
 have o328 := Own.mono o313 m323
 have m329 := m310.trans m323
 obtain ⟨i330, ver331, e332, h333, _, _⟩ := Own.pos o326 (by first | omega | (rw [gvals_len]; omega))
 refine C rfl (AOp.indexAddrO rfl (Eq.trans rfl e332) rfl sl_23 (by first | omega | (rw [gvals_len]; omega)) (by first | omega | (rw [gvals_len]; omega)) h333 (C rfl (AOp.storeO (cells' := ((gvals (putM L ((at_ ((buildT vs.length fs).ed) k).A) v212 (((getM L ((at_ ((buildT vs.length fs).ed) k).A)).2) ++ [k])) vs.length).set ((at_ ((buildT vs.length fs).ed) k).B).toNat v307).map eA) rfl rfl o328 ts_38 (Own.at_ e332 o326).1 (blelen (by rw [List.length_map]) (by rw [gvals_len]; omega)) (wr_set1 (e := eA) (by omega) (by rw [gvals_len]; omega)) ?_)))
 intro H334 h335 k336
 have h337 := (k336 _ (NotId.ne no118 e332)).trans h324
 have h338 := (k336 _ (NotId.ne no119 e332)).trans h325
 have o339 := Own.store e332 o326 h335 (len' := ((gvals (putM L ((at_ ((buildT vs.length fs).ed) k).A) v212 (((getM L ((at_ ((buildT vs.length fs).ed) k).A)).2) ++ [k])) vs.length).set ((at_ ((buildT vs.length fs).ed) k).B).toNat v307).length) (by rw [List.length_set]) (by rw [List.length_map, Nat.mul_one, List.length_set])
 have m340 := Mono.set m329 (Own.at_ e332 o326).2.1 k336
 have o341 := MO.stay o327 sp268 (fun i hi _ => k336 i (NotId.ne hi e332))
 have o342 := Own.stay o328 (Sep.symm sp319) (fun i hi _ => k336 i (NotId.ne hi e332))
 have o343 := MO.put (L := (putM L ((at_ ((buildT vs.length fs).ed) k).A) v212 (((getM L ((at_ ((buildT vs.length fs).ed) k).A)).2) ++ [k]))) o341 o342 sp321
 have hg344 := gvals_set (L := (putM L ((at_ ((buildT vs.length fs).ed) k).A) v212 (((getM L ((at_ ((buildT vs.length fs).ed) k).A)).2) ++ [k]))) (n := vs.length) (x := (at_ ((buildT vs.length fs).ed) k).B) (w := v307) (xs := (((getM (putM L ((at_ ((buildT vs.length fs).ed) k).A) v212 (((getM L ((at_ ((buildT vs.length fs).ed) k).A)).2) ++ [k])) ((at_ ((buildT vs.length fs).ed) k).B)).2) ++ [k])) (by omega) (by omega)
 have o345 := Own.re o339 (congrArg List.length hg344) (congrArg (fun l : List AV => l.map eA) hg344)
 have no346 := NotIdM.put (xs := (((getM (putM L ((at_ ((buildT vs.length fs).ed) k).A) v212 (((getM L ((at_ ((buildT vs.length fs).ed) k).A)).2) ++ [k])) ((at_ ((buildT vs.length fs).ed) k).B)).2) ++ [k])) no264 no315
 have no347 := NotIdM.put (xs := (((getM (putM L ((at_ ((buildT vs.length fs).ed) k).A) v212 (((getM L ((at_ ((buildT vs.length fs).ed) k).A)).2) ++ [k])) ((at_ ((buildT vs.length fs).ed) k).B)).2) ++ [k])) no266 no317
 have sp348 := SepM.put_ (xs := (((getM (putM L ((at_ ((buildT vs.length fs).ed) k).A) v212 (((getM L ((at_ ((buildT vs.length fs).ed) k).A)).2) ++ [k])) ((at_ ((buildT vs.length fs).ed) k).B)).2) ++ [k])) sp268 (Sep.symm sp319)
 refine AWP.region rfl ?_
 refine C rfl (Bi (.int .i64 (k + 1)) rfl s109 rfl (iadd (by omega)) (C rfl (Mv (.int .i64 (k + 1)) rfl rfl ?_)))
 refine AOps.nil ?_
 exact ⟨_, by omega, k + 1, (putM (putM L ((at_ ((buildT vs.length fs).ed) k).A) v212 (((getM L ((at_ ((buildT vs.length fs).ed) k).A)).2) ++ [k])) ((at_ ((buildT vs.length fs).ed) k).B) v307 (((getM (putM L ((at_ ((buildT vs.length fs).ed) k).A) v212 (((getM L ((at_ ((buildT vs.length fs).ed) k).A)).2) ++ [k])) ((at_ ((buildT vs.length fs).ed) k).B)).2) ++ [k])), w7_7, rfl, rfl, s110, s111, s112, s113, s114, s115, s116, o345, no118, no119, o343, no346, no347, sp348, h337, h338, m340, by omega, by omega, by exact adj_B hk0 hG1 rfl⟩
 refine cf_ rfl (decide_eq_false b127) ?_
 refine AWP.exit ?_
 change AWP _ _ _ _ _ _
 refine AWP.seq ?_
 refine AWP.seq ?_
 refine AWP.frzGroup (L := L) (N := vs.length) o120 (Own.re o117 (gvals_len _ _) rfl) sp123 m126 fun H349 o350 m351 k352 => ?_
 have h353 := (k352 _ no118 no121).trans h124
 have h354 := (k352 _ no119 no122).trans h125
 have hgf := gF_eg (n := vs.length) hG (show k = ((buildT vs.length fs).ed.length : Int) by omega)
 have o355 := Own.re (k := (egR (buildT vs.length fs).ed vs.length).length) (cs := (egR (buildT vs.length fs).ed vs.length).map eF) o350 (egR_len _ _).symm (by rw [hgf])
 refine AWP.frzCell 7 o355 h354 z101 rfl no119 m351 fun H356 h357 m358 k359 => ?_
 have h360 := (k359 _ e100 no118).trans h353
 have h361 : H356 i95 = some (.row 0 ([.sl vs.length (vs.flatMap eV), .sl fs.length (fs.map eF), .sl cr.length (cr.flatMap eCr), .sl ((buildT vs.length fs).ed).length (((buildT vs.length fs).ed).flatMap eE), .sl ((buildT vs.length fs).fan).length (((buildT vs.length fs).fan).map eF), .sl ((buildT vs.length fs).rnd).length (((buildT vs.length fs).rnd).map eBo), .sl ((sharpR (buildT vs.length fs) cr).1).length (((sharpR (buildT vs.length fs) cr).1).map eI), .sl (egR (buildT vs.length fs).ed vs.length).length ((egR (buildT vs.length fs).ed vs.length).map eF), .snil])) := h357
 have hel2 := egR_len (buildT vs.length fs).ed vs.length
 refine AWP.region rfl ?_
 refine F rfl s110 fl_26_1 (C rfl (Lf (.sl fs.length (fs.map eF)) rfl rfl ty_23 rfl (C rfl (AOp.len (m := fs.length) rfl rfl (.inr (.inl ⟨_, rfl⟩)) u_23 (C rfl (Mv (.int .i64 0) rfl rfl ?_))))))
 refine bk_ ?_
 refine AWP.loop (fun q362 fq Hq => ∃ (f : Int) (w7_8 : AV), q362 = (((fs.length : Int) : Int) - f).toNat ∧ fq 101 = .int .i64 f ∧ fq 1 = .fptr [.sl vs.length (vs.flatMap eV), .sl fs.length (fs.map eF), .sl cr.length (cr.flatMap eCr)] 0 ∧ fq 2 = .ptr i8 0 0 ∧ fq 3 = .int .i64 0 ∧ fq 4 = .fptr [.sl ((buildT vs.length fs).ed).length (((buildT vs.length fs).ed).flatMap eE), .sl ((buildT vs.length fs).fan).length (((buildT vs.length fs).fan).map eF), .sl ((buildT vs.length fs).rnd).length (((buildT vs.length fs).rnd).map eBo)] 0 ∧ fq 7 = .ptr i95 0 0 ∧ fq 99 = .sl fs.length (fs.map eF) ∧ fq 100 = .int .i64 (fs.length : Int) ∧ Own H0 Hq 3 w7_8 (fcR vs fs f).length ((fcR vs fs f).flatMap eV) ∧ NotId w7_8 i8 ∧ NotId w7_8 i95 ∧ Hq i8 = some (.row 0 ([.snil, .snil, .snil])) ∧ Hq i95 = some (.row 0 ([.sl vs.length (vs.flatMap eV), .sl fs.length (fs.map eF), .sl cr.length (cr.flatMap eCr), .sl ((buildT vs.length fs).ed).length (((buildT vs.length fs).ed).flatMap eE), .sl ((buildT vs.length fs).fan).length (((buildT vs.length fs).fan).map eF), .sl ((buildT vs.length fs).rnd).length (((buildT vs.length fs).rnd).map eBo), .sl ((sharpR (buildT vs.length fs) cr).1).length (((sharpR (buildT vs.length fs) cr).1).map eI), .sl (egR (buildT vs.length fs).ed vs.length).length ((egR (buildT vs.length fs).ed vs.length).map eF), w7_8])) ∧ Mono H0 Hq ∧ (0 ≤ f) ∧ (f ≤ (fs.length : Int))) (k := (((fs.length : Int) : Int) - 0).toNat) ?_ ?_
 exact ⟨0, .snil, rfl, rfl, s110, s111, s112, s113, s114, rfl, rfl, Own.nil _ _ _, (NotId.nil _), (NotId.nil _), h360, h361, m358, by omega, by omega⟩
 rintro _ f364 H363 ⟨f, w7_8, rfl, s365, s366, s367, s368, s369, s370, s371, s372, o373, no374, no375, h376, h377, m378, hf0, hf1⟩
 refine Sr ?_
 refine C rfl (Bi (.bool (decide (f < (fs.length : Int)))) rfl s365 s372 rfl ?_)
 refine AWP.seq ?_
 by_cases b379 : f < (fs.length : Int)
 refine ct_ rfl (decide_eq_true b379) ?_
 refine AWP.skip ?_
 refine AWP.seq ?_
 refine bk_ ?_
 refine Sr ?_
 refine C rfl (iS_ rfl s371 s365 sl_23 (by omega) (by omega) (C rfl (Lf (.sl (at_ fs f).length ((at_ fs f).map eI)) rfl rfl ty_38 (ld1 (by omega) (by omega)) (C rfl (As (.sl (at_ fs f).length ((at_ fs f).map eI)) rfl rfl ?_)))))
 refine AOps.nil ?_
 change AWP _ _ _ _ _ _
 have hff := hfr _ (at_mem hf0 (by omega : f < fs.length))
 have hfl := hfss _ (at_mem hf0 (by omega : f < fs.length))
 have hful : (fcR vs fs f).length = f.toNat := U_len _ _
 refine AWP.region_str mixed (by kernel_rfl) [(0, none), (1, none), (2, none), (3, none), (4, none), (5, none), (6, none), (7, none), (8, some [0, 1, 2, 3, 4]), (9, some [0])] [10, 11, 12] (by kernel_rfl) ?_
 refine STR.op rfl rfl (.inl ⟨rfl, fun H1 f' H' hf hN hM => Mv (.ptr i95 0 0) rfl ((hf 7 rfl).trans s370) ⟨rfl, hN⟩⟩) ?_
 refine STR.op rfl rfl (.inl ⟨rfl, fun H1 f' H' hf hN hM => Mv (.ptr i95 0 0) rfl ((hf 7 rfl).trans s370) ⟨rfl, hN⟩⟩) ?_
 refine STR.op rfl rfl (.inl ⟨rfl, fun H1 f' H' hf hN hM => nc_ (.ptr i95 0 0) rfl ((hf 106 rfl).trans rfl) rfl ⟨rfl, hN⟩⟩) ?_
 refine STR.op rfl rfl (.inl ⟨rfl, fun H1 f' H' hf hN hM => Fa rfl ((hf 107 rfl).trans rfl) fl_79_4 ⟨rfl, hN⟩ (hid := ⟨_, (hM _ _ h377)⟩)⟩) ?_
 refine STR.op rfl rfl (.inl ⟨rfl, fun H1 f' H' hf hN hM => Ld (w7_8) rfl ((hf 108 rfl).trans rfl) ty_22 (hM _ _ h377) rfl ⟨rfl, hN⟩⟩) ?_
 refine STR.op rfl rfl (.inl ⟨rfl, fun H1 f' H' hf hN hM => Mv (.ptr i95 0 0) rfl ((hf 7 rfl).trans s370) ⟨rfl, hN⟩⟩) ?_
 refine STR.op rfl rfl (.inl ⟨rfl, fun H1 f' H' hf hN hM => Mv (.sl (at_ fs f).length ((at_ fs f).map eI)) rfl ((hf 11 rfl).trans rfl) ⟨rfl, hN⟩⟩) ?_
 refine STR.op rfl rfl (.inl ⟨rfl, fun H1 f' H' hf hN hM => AOp.pcallH («as» := [.ptr i95 0 0, .sl (at_ fs f).length ((at_ fs f).map eI)]) rfl rfl (lapp (lcons ((hf 110 rfl).trans rfl) (lcons ((hf 111 rfl).trans rfl) rfl)) rfl) tf_35 (c_face vs fs cr (buildT vs.length fs) (sharpR (buildT vs.length fs) cr).1 (at_ fs f) hff hfl (by omega) hv (hM _ _ h377)) fun H2 m2 => ⟨rfl, hN.trans m2⟩⟩) ?_
 refine STR.eff rfl rfl rfl fun f380 H381 hf382 m383 => ?_
 have h384 := m383 _ _ h376
 have h385 := m383 _ _ h377
 have o386 := Own.mono o373 m383
 have m387 := m378.trans m383
 refine AOp.buildSlice (cells := (eV (faceP vs (at_ fs f)))) rfl u_22 ts_42 tz_42 rfl (lconsP ((hf382 112 rfl).trans rfl) rfl) rfl ?_
 intro i388 H389 n390 h391 k392
 have h396 := keep k392 (ne_new h384 n390) h384
 have h397 := keep k392 (ne_new h385 n390) h385
 have o398 := Own.keep o386 k392 (Own.notnew o386 n390)
 have m400 := Mono.new m387 n390 k392
 refine ⟨_, rfl, .inl (Mono.new (Mono.refl _) n390 k392), ?_⟩
 refine STR.eff rfl rfl rfl fun f401 H402 hf403 m404 => ?_
 have h405 := m404 _ _ h396
 have h406 := m404 _ _ h397
 have h407 := m404 _ _ h391
 have o408 := Own.mono o398 m404
 have m409 := m400.trans m404
 refine AOp.append_own (es := 3) (m := 1) (len := ((fcR vs fs f).length)) (old := (fcR vs fs f).flatMap eV) (cells := (eV (faceP vs (at_ fs f)))) rfl u_22 ts_42 tzn_42 tb_42 (by decide) ni_22 ((hf403 109 rfl).trans rfl) o408 m409 ((hf403 113 rfl).trans rfl) (.slm h407 rfl) (one_of rfl) (by decide) (by first | omega | (simp only [List.length_append, List.length_cons, List.length_nil]; omega)) ?_
 intro v410 H411 o412 m413 k414 j415
 have o416 := Own.snocM (xs := ((fcR vs fs f) : List VT)) (y := (faceP vs (at_ fs f))) (e := eV) (by simp) o412
 have h417 := (k414 _ no374 (by rw [h405]; simp)).trans h405
 have no418 := j415 _ no374 (by rw [h405]; simp)
 have h419 := (k414 _ no375 (by rw [h406]; simp)).trans h406
 have no420 := j415 _ no375 (by rw [h406]; simp)
 refine ⟨_, rfl, .inr (RevR.skip rfl (RevR.skip rfl (RevR.skip rfl (RevR.skip rfl (RevR.skip rfl (RevR.skip rfl (RevR.skip rfl (RevR.skip rfl (RevR.cons rfl (.inl ⟨rfl, fun H1 f' H' hf hN hM => Mv (.ptr i95 0 0) rfl ((hf 7 rfl).trans s370) ⟨rfl, hN⟩⟩) RevR.nil))))))))), ?_⟩
 refine STR.done fun H421 m422 => ?_
 have h423 := m422 _ _ h417
 have h424 := m422 _ _ h419
 have o425 := Own.mono o416 m422
 have m426 := m413.trans m422
 refine C rfl (nc_ (.ptr i95 0 0) rfl rfl rfl ?_)
 refine C rfl (Fa rfl rfl fl_79_4 ?_ (hid := ⟨_, h424⟩))
 refine C rfl (AOp.storeO (cells' := [.sl vs.length (vs.flatMap eV), .sl fs.length (fs.map eF), .sl cr.length (cr.flatMap eCr), .sl ((buildT vs.length fs).ed).length (((buildT vs.length fs).ed).flatMap eE), .sl ((buildT vs.length fs).fan).length (((buildT vs.length fs).fan).map eF), .sl ((buildT vs.length fs).rnd).length (((buildT vs.length fs).rnd).map eBo), .sl ((sharpR (buildT vs.length fs) cr).1).length (((sharpR (buildT vs.length fs) cr).1).map eI), .sl (egR (buildT vs.length fs).ed vs.length).length ((egR (buildT vs.length fs).ed vs.length).map eF), v410]) rfl rfl o425 ts_22 h424 rfl rfl ?_)
 intro H427 h428 k429
 have h430 := keep k429 e100 h423
 have o432 := Own.keep o425 k429 no420
 have m433 := Mono.set m426 z101 k429
 refine AWP.region rfl ?_
 refine C rfl (Bi (.int .i64 (f + 1)) rfl s365 rfl (iadd (by omega)) (C rfl (Mv (.int .i64 (f + 1)) rfl rfl ?_)))
 refine AOps.nil ?_
 exact ⟨_, by omega, f + 1, v410, rfl, rfl, s366, s367, s368, s369, s370, s371, s372, (have hx : (((fcR vs fs f) ++ [(faceP vs (at_ fs f))]) : List VT) = fcR vs fs (f + 1) := (by exact U_step hf0); Own.re o432 (congrArg List.length hx) (congrArg (fun l : List VT => l.flatMap eV) hx)), no418, no420, h430, h428, m433, by omega, by omega⟩
 refine cf_ rfl (decide_eq_false b379) ?_
 refine AWP.exit ?_
 change AWP _ _ _ _ _ _
 refine Sr ?_
 refine C rfl (al_ rfl tz_26 ?_)
 intro i434 H435 n436 h437 k438
 have e439 := ne_new h376 n436
 have e440 := ne_new h377 n436
 have z441 := Mono.free m378 n436
 have h442 := keep k438 (ne_new h376 n436) h376
 have h443 := keep k438 (ne_new h377 n436) h377
 have o444 := Own.keep o373 k438 (Own.notnew o373 n436)
 have no445 := Own.notnew o373 n436
 have m446 := Mono.new m378 n436 k438
 refine AWP.seq ?_
 refine AWP.seq ?_
 have hfce : fcR vs fs f = fcR vs fs fs.length := by congr 1; omega
 have o447 := Own.re (k := (fcR vs fs fs.length).length) (cs := (fcR vs fs fs.length).flatMap eV) o444 (by rw [hfce]) (by rw [hfce])
 refine AWP.frzCell 8 o447 h443 z101 rfl no375 m446 fun H448 h449 m450 k451 => ?_
 have h452 := (k451 _ e100 no374).trans h442
 have h453 := (k451 _ (Ne.symm e440) no445).trans h437
 have h454 : H448 i95 = some (.row 0 ([.sl vs.length (vs.flatMap eV), .sl fs.length (fs.map eF), .sl cr.length (cr.flatMap eCr), .sl ((buildT vs.length fs).ed).length (((buildT vs.length fs).ed).flatMap eE), .sl ((buildT vs.length fs).fan).length (((buildT vs.length fs).fan).map eF), .sl ((buildT vs.length fs).rnd).length (((buildT vs.length fs).rnd).map eBo), .sl ((sharpR (buildT vs.length fs) cr).1).length (((sharpR (buildT vs.length fs) cr).1).map eI), .sl (egR (buildT vs.length fs).ed vs.length).length ((egR (buildT vs.length fs).ed vs.length).map eF), .sl (fcR vs fs fs.length).length ((fcR vs fs fs.length).flatMap eV)])) := h449
 have hfc := fc_in hv hfr hfss
 have hfcl := fcR_len (vs := vs) (fs := fs)
 refine AWP.region rfl ?_
 refine F rfl s366 fl_26_0 (C rfl (Lf (.sl vs.length (vs.flatMap eV)) rfl rfl ty_22 rfl (C rfl (AOp.len (m := vs.length) rfl rfl (.inr (.inl ⟨_, rfl⟩)) u_22 (C rfl (Mv (.int .i64 0) rfl rfl ?_))))))
 refine bk_ ?_
 refine AWP.loop (fun q455 fq Hq => ∃ (v : Int) (w12_0 : AV), q455 = (((vs.length : Int) : Int) - v).toNat ∧ fq 121 = .int .i64 v ∧ fq 1 = .fptr [.sl vs.length (vs.flatMap eV), .sl fs.length (fs.map eF), .sl cr.length (cr.flatMap eCr)] 0 ∧ fq 2 = .ptr i8 0 0 ∧ fq 3 = .int .i64 0 ∧ fq 4 = .fptr [.sl ((buildT vs.length fs).ed).length (((buildT vs.length fs).ed).flatMap eE), .sl ((buildT vs.length fs).fan).length (((buildT vs.length fs).fan).map eF), .sl ((buildT vs.length fs).rnd).length (((buildT vs.length fs).rnd).map eBo)] 0 ∧ fq 7 = .ptr i95 0 0 ∧ fq 12 = .ptr i434 0 0 ∧ fq 120 = .int .i64 (vs.length : Int) ∧ Own H0 Hq 3 w12_0 ((v1R vs (fcR vs fs fs.length) (buildT vs.length fs) (sharpR (buildT vs.length fs) cr).1 v)).length (((v1R vs (fcR vs fs fs.length) (buildT vs.length fs) (sharpR (buildT vs.length fs) cr).1 v)).flatMap eV) ∧ NotId w12_0 i8 ∧ NotId w12_0 i434 ∧ NotId w12_0 i95 ∧ Hq i8 = some (.row 0 ([.snil, .snil, .snil])) ∧ Hq i434 = some (.row 0 ([w12_0, .snil, .snil])) ∧ Hq i95 = some (.row 0 ([.sl vs.length (vs.flatMap eV), .sl fs.length (fs.map eF), .sl cr.length (cr.flatMap eCr), .sl ((buildT vs.length fs).ed).length (((buildT vs.length fs).ed).flatMap eE), .sl ((buildT vs.length fs).fan).length (((buildT vs.length fs).fan).map eF), .sl ((buildT vs.length fs).rnd).length (((buildT vs.length fs).rnd).map eBo), .sl ((sharpR (buildT vs.length fs) cr).1).length (((sharpR (buildT vs.length fs) cr).1).map eI), .sl (egR (buildT vs.length fs).ed vs.length).length ((egR (buildT vs.length fs).ed vs.length).map eF), .sl (fcR vs fs fs.length).length ((fcR vs fs fs.length).flatMap eV)])) ∧ Mono H0 Hq ∧ (0 ≤ v) ∧ (v ≤ (vs.length : Int))) (k := (((vs.length : Int) : Int) - 0).toNat) ?_ ?_
 exact ⟨0, .snil, rfl, rfl, s366, s367, s368, s369, s370, rfl, rfl, Own.nil _ _ _, (NotId.nil _), (NotId.nil _), (NotId.nil _), h452, h453, h454, m450, by omega, by omega⟩
 rintro _ f457 H456 ⟨v, w12_0, rfl, s458, s459, s460, s461, s462, s463, s464, s465, o466, no467, no468, no469, h470, h471, h472, m473, hv0, hv1⟩
 refine Sr ?_
 refine C rfl (Bi (.bool (decide (v < (vs.length : Int)))) rfl s458 s465 rfl ?_)
 refine AWP.seq ?_
 by_cases b474 : v < (vs.length : Int)
 refine ct_ rfl (decide_eq_true b474) ?_
 refine AWP.skip ?_
 refine AWP.seq ?_
 refine bk_ ?_
 refine Sr ?_
 refine C rfl (Mv (.int .i64 v) rfl s458 (C rfl (As (.int .i64 v) rfl rfl ?_)))
 refine AOps.nil ?_
 change AWP _ _ _ _ _ _
 have hvul : (v1R vs (fcR vs fs fs.length) (buildT vs.length fs) (sharpR (buildT vs.length fs) cr).1 v).length = v.toNat := U_len _ _
 refine AWP.region_str mixed (by kernel_rfl) [(0, none), (1, none), (2, none), (3, none), (4, none), (5, some [0, 1])] [6, 7, 8] (by kernel_rfl) ?_
 refine STR.op rfl rfl (.inl ⟨rfl, fun H1 f' H' hf hN hM => Fa rfl ((hf 12 rfl).trans s464) fl_26_0 ⟨rfl, hN⟩ (hid := ⟨_, (hM _ _ h471)⟩)⟩) ?_
 refine STR.op rfl rfl (.inl ⟨rfl, fun H1 f' H' hf hN hM => Ld (w12_0) rfl ((hf 124 rfl).trans rfl) ty_22 (hM _ _ h471) rfl ⟨rfl, hN⟩⟩) ?_
 refine STR.op rfl rfl (.inl ⟨rfl, fun H1 f' H' hf hN hM => Mv (.ptr i95 0 0) rfl ((hf 7 rfl).trans s463) ⟨rfl, hN⟩⟩) ?_
 refine STR.op rfl rfl (.inl ⟨rfl, fun H1 f' H' hf hN hM => Mv (.int .i64 v) rfl ((hf 13 rfl).trans rfl) ⟨rfl, hN⟩⟩) ?_
 refine STR.op rfl rfl (.inl ⟨rfl, fun H1 f' H' hf hN hM => AOp.pcallH («as» := [.ptr i95 0 0, .int .i64 v]) rfl rfl (lapp (lcons ((hf 126 rfl).trans rfl) (lcons ((hf 127 rfl).trans rfl) rfl)) rfl) tf_36 (c_vertexL hvl tf sf hv hfc v hv0 (by omega) (hM _ _ h472)) fun H2 m2 => ⟨rfl, hN.trans m2⟩⟩) ?_
 refine STR.eff rfl rfl rfl fun f475 H476 hf477 m478 => ?_
 have h479 := m478 _ _ h470
 have h480 := m478 _ _ h471
 have h481 := m478 _ _ h472
 have o482 := Own.mono o466 m478
 have m483 := m473.trans m478
 refine AOp.buildSlice (cells := (eV (vertP vs (fcR vs fs fs.length) (buildT vs.length fs).ed (sharpR (buildT vs.length fs) cr).1 (at_ (buildT vs.length fs).fan v) (at_ (egR (buildT vs.length fs).ed vs.length) v) v))) rfl u_22 ts_42 tz_42 rfl (lconsP ((hf477 128 rfl).trans rfl) rfl) rfl ?_
 intro i484 H485 n486 h487 k488
 have h493 := keep k488 (ne_new h479 n486) h479
 have h494 := keep k488 (ne_new h480 n486) h480
 have h495 := keep k488 (ne_new h481 n486) h481
 have o496 := Own.keep o482 k488 (Own.notnew o482 n486)
 have m498 := Mono.new m483 n486 k488
 refine ⟨_, rfl, .inl (Mono.new (Mono.refl _) n486 k488), ?_⟩
 refine STR.done fun H499 m500 => ?_
 have h501 := m500 _ _ h493
 have h502 := m500 _ _ h494
 have h503 := m500 _ _ h495
 have h504 := m500 _ _ h487
 have o505 := Own.mono o496 m500
 have m506 := m498.trans m500
 refine C rfl (AOp.append_own (es := 3) (m := 1) (len := (((v1R vs (fcR vs fs fs.length) (buildT vs.length fs) (sharpR (buildT vs.length fs) cr).1 v)).length)) (old := ((v1R vs (fcR vs fs fs.length) (buildT vs.length fs) (sharpR (buildT vs.length fs) cr).1 v)).flatMap eV) (cells := (eV (vertP vs (fcR vs fs fs.length) (buildT vs.length fs).ed (sharpR (buildT vs.length fs) cr).1 (at_ (buildT vs.length fs).fan v) (at_ (egR (buildT vs.length fs).ed vs.length) v) v))) rfl u_22 ts_42 tzn_42 tb_42 (by decide) ni_22 rfl o505 m506 rfl (.slm h504 rfl) (one_of rfl) (by decide) (by first | omega | (simp only [List.length_append, List.length_cons, List.length_nil]; omega)) ?_)
 intro v507 H508 o509 m510 k511 j512
 have o513 := Own.snocM (xs := (((v1R vs (fcR vs fs fs.length) (buildT vs.length fs) (sharpR (buildT vs.length fs) cr).1 v)) : List VT)) (y := (vertP vs (fcR vs fs fs.length) (buildT vs.length fs).ed (sharpR (buildT vs.length fs) cr).1 (at_ (buildT vs.length fs).fan v) (at_ (egR (buildT vs.length fs).ed vs.length) v) v)) (e := eV) (by simp) o509
 have h514 := (k511 _ no467 (by rw [h501]; simp)).trans h501
 have no515 := j512 _ no467 (by rw [h501]; simp)
 have h516 := (k511 _ no468 (by rw [h502]; simp)).trans h502
 have no517 := j512 _ no468 (by rw [h502]; simp)
 have h518 := (k511 _ no469 (by rw [h503]; simp)).trans h503
 have no519 := j512 _ no469 (by rw [h503]; simp)
 refine C rfl (Fa rfl s464 fl_26_0 ?_ (hid := ⟨_, h516⟩))
 refine C rfl (AOp.storeO (cells' := [v507, .snil, .snil]) rfl rfl o513 ts_22 h516 rfl rfl ?_)
 intro H520 h521 k522
 have h523 := keep k522 e439 h514
 have h525 := keep k522 e440 h518
 have o526 := Own.keep o513 k522 no517
 have m527 := Mono.set m510 z441 k522
 refine AWP.region rfl ?_
 refine C rfl (Bi (.int .i64 (v + 1)) rfl s458 rfl (iadd (by omega)) (C rfl (Mv (.int .i64 (v + 1)) rfl rfl ?_)))
 refine AOps.nil ?_
 exact ⟨_, by omega, v + 1, v507, rfl, rfl, s459, s460, s461, s462, s463, s464, s465, (have hx : ((((v1R vs (fcR vs fs fs.length) (buildT vs.length fs) (sharpR (buildT vs.length fs) cr).1 v)) ++ [(vertP vs (fcR vs fs fs.length) (buildT vs.length fs).ed (sharpR (buildT vs.length fs) cr).1 (at_ (buildT vs.length fs).fan v) (at_ (egR (buildT vs.length fs).ed vs.length) v) v)]) : List VT) = (v1R vs (fcR vs fs fs.length) (buildT vs.length fs) (sharpR (buildT vs.length fs) cr).1 (v + 1)) := (by exact U_step hv0); Own.re o526 (congrArg List.length hx) (congrArg (fun l : List VT => l.flatMap eV) hx)), no515, no517, no519, h523, h521, h525, m527, by omega, by omega⟩
 refine cf_ rfl (decide_eq_false b474) ?_
 refine AWP.exit ?_
 change AWP _ _ _ _ _ _
 refine AWP.seq ?_
 refine Sr ?_
 refine F rfl s462 fl_35_0 (C rfl (Lf (.sl ((buildT vs.length fs).ed).length (((buildT vs.length fs).ed).flatMap eE)) rfl rfl ty_32 rfl (C rfl (AOp.len (m := ((buildT vs.length fs).ed).length) rfl rfl (.inr (.inl ⟨_, rfl⟩)) u_32 (C rfl (Mv (.int .i64 0) rfl rfl ?_))))))
 refine bk_ ?_
 refine AWP.loop (fun q528 fq Hq => ∃ (i : Int) (w12_0 : AV) (w12_2 : AV), q528 = ((((buildT vs.length fs).ed.length : Int) : Int) - i).toNat ∧ fq 136 = .int .i64 i ∧ fq 1 = .fptr [.sl vs.length (vs.flatMap eV), .sl fs.length (fs.map eF), .sl cr.length (cr.flatMap eCr)] 0 ∧ fq 2 = .ptr i8 0 0 ∧ fq 3 = .int .i64 0 ∧ fq 7 = .ptr i95 0 0 ∧ fq 12 = .ptr i434 0 0 ∧ fq 135 = .int .i64 ((((buildT vs.length fs).ed).length) : Int) ∧ Own H0 Hq 3 w12_0 (((v1R vs (fcR vs fs fs.length) (buildT vs.length fs) (sharpR (buildT vs.length fs) cr).1 vs.length) ++ (v2R vs (fcR vs fs fs.length) (buildT vs.length fs) (sharpR (buildT vs.length fs) cr).1 i))).length ((((v1R vs (fcR vs fs fs.length) (buildT vs.length fs) (sharpR (buildT vs.length fs) cr).1 vs.length) ++ (v2R vs (fcR vs fs fs.length) (buildT vs.length fs) (sharpR (buildT vs.length fs) cr).1 i))).flatMap eV) ∧ Own H0 Hq 3 w12_2 (crR vs.length (buildT vs.length fs) (sharpR (buildT vs.length fs) cr).1 i).length ((crR vs.length (buildT vs.length fs) (sharpR (buildT vs.length fs) cr).1 i).flatMap eCr) ∧ NotId w12_0 i8 ∧ NotId w12_0 i434 ∧ NotId w12_0 i95 ∧ NotId w12_2 i8 ∧ NotId w12_2 i434 ∧ NotId w12_2 i95 ∧ Sep w12_0 w12_2 ∧ Hq i8 = some (.row 0 ([.snil, .snil, .snil])) ∧ Hq i434 = some (.row 0 ([w12_0, .snil, w12_2])) ∧ Hq i95 = some (.row 0 ([.sl vs.length (vs.flatMap eV), .sl fs.length (fs.map eF), .sl cr.length (cr.flatMap eCr), .sl ((buildT vs.length fs).ed).length (((buildT vs.length fs).ed).flatMap eE), .sl ((buildT vs.length fs).fan).length (((buildT vs.length fs).fan).map eF), .sl ((buildT vs.length fs).rnd).length (((buildT vs.length fs).rnd).map eBo), .sl ((sharpR (buildT vs.length fs) cr).1).length (((sharpR (buildT vs.length fs) cr).1).map eI), .sl (egR (buildT vs.length fs).ed vs.length).length ((egR (buildT vs.length fs).ed vs.length).map eF), .sl (fcR vs fs fs.length).length ((fcR vs fs fs.length).flatMap eV)])) ∧ Mono H0 Hq ∧ (0 ≤ i) ∧ (i ≤ ((buildT vs.length fs).ed.length : Int))) (k := ((((buildT vs.length fs).ed.length : Int) : Int) - 0).toNat) ?_ ?_
 exact ⟨0, w12_0, .snil, rfl, rfl, s459, s460, s461, s463, s464, rfl, (have hx : (((v1R vs (fcR vs fs fs.length) (buildT vs.length fs) (sharpR (buildT vs.length fs) cr).1 v)) : List VT) = ((v1R vs (fcR vs fs fs.length) (buildT vs.length fs) (sharpR (buildT vs.length fs) cr).1 vs.length) ++ (v2R vs (fcR vs fs fs.length) (buildT vs.length fs) (sharpR (buildT vs.length fs) cr).1 0)) := (by rw [show v = (vs.length : Int) by omega]; exact (List.append_nil _).symm); Own.re o466 (congrArg List.length hx) (congrArg (fun l : List VT => l.flatMap eV) hx)), Own.nil _ _ _, no467, no468, no469, (NotId.nil _), (NotId.nil _), (NotId.nil _), (Sep.nilR _), h470, h471, h472, m473, by omega, by omega⟩
 rintro _ f530 H529 ⟨i, w12_0, w12_2, rfl, s531, s532, s533, s534, s535, s536, s537, o538, o539, no540, no541, no542, no543, no544, no545, sp546, h547, h548, h549, m550, hi0, hi1⟩
 refine Sr ?_
 refine C rfl (Bi (.bool (decide (i < ((((buildT vs.length fs).ed).length) : Int)))) rfl s531 s537 rfl ?_)
 refine AWP.seq ?_
 by_cases b551 : i < ((((buildT vs.length fs).ed).length) : Int)
 refine ct_ rfl (decide_eq_true b551) ?_
 refine AWP.skip ?_
 refine AWP.seq ?_
 refine bk_ ?_
 refine Sr ?_
 refine C rfl (Mv (.int .i64 i) rfl s531 (C rfl (As (.int .i64 i) rfl rfl ?_)))
 refine AWP.seq ?_
 have h1ul : (v1R vs (fcR vs fs fs.length) (buildT vs.length fs) (sharpR (buildT vs.length fs) cr).1 vs.length).length = (vs.length : Int).toNat := U_len _ _
 have h2ul : (v2R vs (fcR vs fs fs.length) (buildT vs.length fs) (sharpR (buildT vs.length fs) cr).1 i).length = i.toNat := U_len _ _
 refine AWP.region_str mixed (by kernel_rfl) [(0, none), (1, none), (2, none), (3, none), (4, none), (5, some [0, 1])] [6, 7, 8] (by kernel_rfl) ?_
 refine STR.op rfl rfl (.inl ⟨rfl, fun H1 f' H' hf hN hM => Fa rfl ((hf 12 rfl).trans s536) fl_26_0 ⟨rfl, hN⟩ (hid := ⟨_, (hM _ _ h548)⟩)⟩) ?_
 refine STR.op rfl rfl (.inl ⟨rfl, fun H1 f' H' hf hN hM => Ld (w12_0) rfl ((hf 139 rfl).trans rfl) ty_22 (hM _ _ h548) rfl ⟨rfl, hN⟩⟩) ?_
 refine STR.op rfl rfl (.inl ⟨rfl, fun H1 f' H' hf hN hM => Mv (.ptr i95 0 0) rfl ((hf 7 rfl).trans s535) ⟨rfl, hN⟩⟩) ?_
 refine STR.op rfl rfl (.inl ⟨rfl, fun H1 f' H' hf hN hM => Mv (.int .i64 i) rfl ((hf 14 rfl).trans rfl) ⟨rfl, hN⟩⟩) ?_
 refine STR.op rfl rfl (.inl ⟨rfl, fun H1 f' H' hf hN hM => AOp.pcallH («as» := [.ptr i95 0 0, .int .i64 i]) rfl rfl (lapp (lcons ((hf 141 rfl).trans rfl) (lcons ((hf 142 rfl).trans rfl) rfl)) rfl) tf_37 (c_edgeL hvl tf sf hv hfc i hi0 (by omega) (hM _ _ h549)) fun H2 m2 => ⟨rfl, hN.trans m2⟩⟩) ?_
 refine STR.eff rfl rfl rfl fun f552 H553 hf554 m555 => ?_
 have h556 := m555 _ _ h547
 have h557 := m555 _ _ h548
 have h558 := m555 _ _ h549
 have o559 := Own.mono o538 m555
 have o560 := Own.mono o539 m555
 have m561 := m550.trans m555
 refine AOp.buildSlice (cells := (eV (edgeP vs (fcR vs fs fs.length) (at_ (buildT vs.length fs).ed i) (at_ (sharpR (buildT vs.length fs) cr).1 i)))) rfl u_22 ts_42 tz_42 rfl (lconsP ((hf554 143 rfl).trans rfl) rfl) rfl ?_
 intro i562 H563 n564 h565 k566
 have h571 := keep k566 (ne_new h556 n564) h556
 have h572 := keep k566 (ne_new h557 n564) h557
 have h573 := keep k566 (ne_new h558 n564) h558
 have o574 := Own.keep o559 k566 (Own.notnew o559 n564)
 have o576 := Own.keep o560 k566 (Own.notnew o560 n564)
 have m578 := Mono.new m561 n564 k566
 refine ⟨_, rfl, .inl (Mono.new (Mono.refl _) n564 k566), ?_⟩
 refine STR.done fun H579 m580 => ?_
 have h581 := m580 _ _ h571
 have h582 := m580 _ _ h572
 have h583 := m580 _ _ h573
 have h584 := m580 _ _ h565
 have o585 := Own.mono o574 m580
 have o586 := Own.mono o576 m580
 have m587 := m578.trans m580
 refine C rfl (AOp.append_own (es := 3) (m := 1) (len := ((((v1R vs (fcR vs fs fs.length) (buildT vs.length fs) (sharpR (buildT vs.length fs) cr).1 vs.length) ++ (v2R vs (fcR vs fs fs.length) (buildT vs.length fs) (sharpR (buildT vs.length fs) cr).1 i))).length)) (old := (((v1R vs (fcR vs fs fs.length) (buildT vs.length fs) (sharpR (buildT vs.length fs) cr).1 vs.length) ++ (v2R vs (fcR vs fs fs.length) (buildT vs.length fs) (sharpR (buildT vs.length fs) cr).1 i))).flatMap eV) (cells := (eV (edgeP vs (fcR vs fs fs.length) (at_ (buildT vs.length fs).ed i) (at_ (sharpR (buildT vs.length fs) cr).1 i)))) rfl u_22 ts_42 tzn_42 tb_42 (by decide) ni_22 rfl o585 m587 rfl (.slm h584 rfl) (one_of rfl) (by decide) (by first | omega | (simp only [List.length_append, List.length_cons, List.length_nil]; omega)) ?_)
 intro v588 H589 o590 m591 k592 j593
 have o594 := Own.snocM (xs := ((((v1R vs (fcR vs fs fs.length) (buildT vs.length fs) (sharpR (buildT vs.length fs) cr).1 vs.length) ++ (v2R vs (fcR vs fs fs.length) (buildT vs.length fs) (sharpR (buildT vs.length fs) cr).1 i))) : List VT)) (y := (edgeP vs (fcR vs fs fs.length) (at_ (buildT vs.length fs).ed i) (at_ (sharpR (buildT vs.length fs) cr).1 i))) (e := eV) (by simp) o590
 have h595 := (k592 _ no540 (by rw [h581]; simp)).trans h581
 have no596 := j593 _ no540 (by rw [h581]; simp)
 have h597 := (k592 _ no541 (by rw [h582]; simp)).trans h582
 have no598 := j593 _ no541 (by rw [h582]; simp)
 have h599 := (k592 _ no542 (by rw [h583]; simp)).trans h583
 have no600 := j593 _ no542 (by rw [h583]; simp)
 have sp602 := Own.sep o586 (Sep.symm sp546) j593
 have o601 := Own.stay o586 (Sep.symm sp546) k592
 refine C rfl (Fa rfl s536 fl_26_0 ?_ (hid := ⟨_, h597⟩))
 refine C rfl (AOp.storeO (cells' := [v588, .snil, w12_2]) rfl rfl o594 ts_22 h597 rfl rfl ?_)
 intro H603 h604 k605
 have h606 := keep k605 e439 h595
 have h608 := keep k605 e440 h599
 have o609 := Own.keep o601 k605 no544
 have o610 := Own.keep o594 k605 no598
 have m611 := Mono.set m591 z441 k605
 refine AOps.nil ?_
 change AWP _ _ _ _ _ _
 have hcrl := crR_len vs.length (buildT vs.length fs) (sharpR (buildT vs.length fs) cr).1 i
 have hcpl := crease_len vs.length (buildT vs.length fs) (sharpR (buildT vs.length fs) cr).1 i
 refine AWP.region_quiet mixed (by kernel_rfl) 5 [5, 6, 7] rfl (by kernel_rfl) (Mono H603) (Mono.refl _) ?_
 refine Q rfl (fun _ _ φ ψ => Fa rfl ((φ 12 rfl).trans s536) fl_26_2 ⟨rfl, ψ⟩ (hid := ⟨_, (ψ _ _ h604)⟩)) (Q rfl (fun _ _ φ ψ => Ld (w12_2) rfl (φ 147 rfl) ty_24 (ψ _ _ h604) rfl ⟨rfl, ψ⟩) (Q rfl (fun _ _ φ ψ => Mv (.ptr i95 0 0) rfl ((φ 7 rfl).trans s535) ⟨rfl, ψ⟩) (Q rfl (fun _ _ φ ψ => Mv (.int .i64 i) rfl (φ 14 rfl) ⟨rfl, ψ⟩) (Q rfl (fun _ _ φ ψ => AOp.pcallH («as» := [.ptr i95 0 0, .int .i64 i]) rfl rfl (lapp (lcons (φ 149 rfl) (lcons (φ 150 rfl) rfl)) rfl) tf_38 (c_creases vs fs cr (buildT vs.length fs) (sharpR (buildT vs.length fs) cr).1 i ⟨hi0, by omega⟩ (by omega) (by omega) sf.len ⟨sf.nn _ hi0 (by omega), sf.most _ hi0 (by omega)⟩ (ψ _ _ h608)) fun H2 m2 => ⟨rfl, ψ.trans m2⟩) ?_))))
 refine QE.done fun H612 m613 => ?_
 have h614 := m613 _ _ h606
 have h615 := m613 _ _ h608
 have h616 := m613 _ _ h604
 have o617 := Own.mono o609 m613
 have o618 := Own.mono o610 m613
 have m619 := m611.trans m613
 refine C rfl (AOp.append_any (es := 3) (m := (creaseP vs.length (buildT vs.length fs) (sharpR (buildT vs.length fs) cr).1 i).length) (len := ((crR vs.length (buildT vs.length fs) (sharpR (buildT vs.length fs) cr).1 i).length)) (old := (crR vs.length (buildT vs.length fs) (sharpR (buildT vs.length fs) cr).1 i).flatMap eCr) (cells := (creaseP vs.length (buildT vs.length fs) (sharpR (buildT vs.length fs) cr).1 i).flatMap eCr) rfl u_24 ts_53 tzn_53 tb_53 (by decide) ni_24 rfl o617 m619 rfl (.sl (flatMap_length eCr_len _)) (by exact one_flat eCr_one)  (by first | omega | (simp only [List.length_append, List.length_cons, List.length_nil]; omega)) ?_)
 intro v620 H621 o622 m623 k624 j625
 have o626 := Own.appM (xs := ((crR vs.length (buildT vs.length fs) (sharpR (buildT vs.length fs) cr).1 i) : List CrT)) (ys := creaseP vs.length (buildT vs.length fs) (sharpR (buildT vs.length fs) cr).1 i) (e := eCr) (by simp) o622
 have h627 := (k624 _ no543 (by rw [h614]; simp)).trans h614
 have no628 := j625 _ no543 (by rw [h614]; simp)
 have h629 := (k624 _ no545 (by rw [h615]; simp)).trans h615
 have no630 := j625 _ no545 (by rw [h615]; simp)
 have h631 := (k624 _ no544 (by rw [h616]; simp)).trans h616
 have no632 := j625 _ no544 (by rw [h616]; simp)
 have sp634 := Own.sep o618 (Sep.symm sp602) j625
 have o633 := Own.stay o618 (Sep.symm sp602) k624
 refine C rfl (Fa rfl s536 fl_26_2 ?_ (hid := ⟨_, h631⟩))
 refine C rfl (AOp.storeO (cells' := [v588, .snil, v620]) rfl rfl o626 ts_24 h631 rfl rfl ?_)
 intro H635 h636 k637
 have h638 := keep k637 e439 h627
 have h639 := keep k637 e440 h629
 have o641 := Own.keep o633 k637 no598
 have o642 := Own.keep o626 k637 no632
 have m643 := Mono.set m623 z441 k637
 refine AWP.region rfl ?_
 refine C rfl (Bi (.int .i64 (i + 1)) rfl s531 rfl (iadd (by omega)) (C rfl (Mv (.int .i64 (i + 1)) rfl rfl ?_)))
 refine AOps.nil ?_
 exact ⟨_, by omega, i + 1, v588, v620, rfl, rfl, s532, s533, s534, s535, s536, s537, (have hx : (((((v1R vs (fcR vs fs fs.length) (buildT vs.length fs) (sharpR (buildT vs.length fs) cr).1 vs.length) ++ (v2R vs (fcR vs fs fs.length) (buildT vs.length fs) (sharpR (buildT vs.length fs) cr).1 i))) ++ [(edgeP vs (fcR vs fs fs.length) (at_ (buildT vs.length fs).ed i) (at_ (sharpR (buildT vs.length fs) cr).1 i))]) : List VT) = ((v1R vs (fcR vs fs fs.length) (buildT vs.length fs) (sharpR (buildT vs.length fs) cr).1 vs.length) ++ (v2R vs (fcR vs fs fs.length) (buildT vs.length fs) (sharpR (buildT vs.length fs) cr).1 (i + 1))) := (by rw [List.append_assoc]; exact congrArg (fun l => _ ++ l) (U_step hi0)); Own.re o641 (congrArg List.length hx) (congrArg (fun l : List VT => l.flatMap eV) hx)), (have hx : (((crR vs.length (buildT vs.length fs) (sharpR (buildT vs.length fs) cr).1 i) ++ (creaseP vs.length (buildT vs.length fs) (sharpR (buildT vs.length fs) cr).1 i)) : List CrT) = crR vs.length (buildT vs.length fs) (sharpR (buildT vs.length fs) cr).1 (i + 1) := (by exact F_step hi0); Own.re o642 (congrArg List.length hx) (congrArg (fun l : List CrT => l.flatMap eCr) hx)), no596, no598, no600, no628, no632, no630, sp634, h638, h636, h639, m643, by omega, by omega⟩
 refine cf_ rfl (decide_eq_false b551) ?_
 refine AWP.exit ?_
 change AWP _ _ _ _ _ _
 refine AWP.seq ?_
 have h1ul : (v1R vs (fcR vs fs fs.length) (buildT vs.length fs) (sharpR (buildT vs.length fs) cr).1 vs.length).length = (vs.length : Int).toNat := U_len _ _
 have h2ul : (v2R vs (fcR vs fs fs.length) (buildT vs.length fs) (sharpR (buildT vs.length fs) cr).1 i).length = i.toNat := U_len _ _
 refine AWP.region_quiet mixed (by kernel_rfl) 6 [6, 7, 8] rfl (by kernel_rfl) (Mono H529) (Mono.refl _) ?_
 refine Q rfl (fun _ _ φ ψ => Fa rfl ((φ 12 rfl).trans s536) fl_26_0 ⟨rfl, ψ⟩ (hid := ⟨_, (ψ _ _ h548)⟩)) (Q rfl (fun _ _ φ ψ => Ld (w12_0) rfl (φ 155 rfl) ty_22 (ψ _ _ h548) rfl ⟨rfl, ψ⟩) (Q rfl (fun _ _ φ ψ => Mv (.ptr i95 0 0) rfl ((φ 7 rfl).trans s535) ⟨rfl, ψ⟩) (Q rfl (fun _ _ φ ψ => nc_ (.ptr i95 0 0) rfl (φ 157 rfl) rfl ⟨rfl, ψ⟩) (Q rfl (fun _ _ φ ψ => Fa rfl (φ 158 rfl) fl_79_4 ⟨rfl, ψ⟩ (hid := ⟨_, (ψ _ _ h549)⟩)) (Q rfl (fun _ _ φ ψ => Ld (.sl (fcR vs fs fs.length).length ((fcR vs fs fs.length).flatMap eV)) rfl (φ 159 rfl) ty_22 (ψ _ _ h549) rfl ⟨rfl, ψ⟩) ?_)))))
 refine QE.done fun H644 m645 => ?_
 have h646 := m645 _ _ h547
 have h647 := m645 _ _ h548
 have h648 := m645 _ _ h549
 have o649 := Own.mono o538 m645
 have o650 := Own.mono o539 m645
 have m651 := m550.trans m645
 refine C rfl (AOp.append_any (es := 3) (m := (fcR vs fs fs.length).length) (len := ((((v1R vs (fcR vs fs fs.length) (buildT vs.length fs) (sharpR (buildT vs.length fs) cr).1 vs.length) ++ (v2R vs (fcR vs fs fs.length) (buildT vs.length fs) (sharpR (buildT vs.length fs) cr).1 i))).length)) (old := (((v1R vs (fcR vs fs fs.length) (buildT vs.length fs) (sharpR (buildT vs.length fs) cr).1 vs.length) ++ (v2R vs (fcR vs fs fs.length) (buildT vs.length fs) (sharpR (buildT vs.length fs) cr).1 i))).flatMap eV) (cells := (fcR vs fs fs.length).flatMap eV) rfl u_22 ts_42 tzn_42 tb_42 (by decide) ni_22 rfl o649 m651 rfl (.sl (flatMap_length eV_len _)) (by exact one_flat eV_one)  (by first | omega | (simp only [List.length_append, List.length_cons, List.length_nil]; omega)) ?_)
 intro v652 H653 o654 m655 k656 j657
 have o658 := Own.appM (xs := ((((v1R vs (fcR vs fs fs.length) (buildT vs.length fs) (sharpR (buildT vs.length fs) cr).1 vs.length) ++ (v2R vs (fcR vs fs fs.length) (buildT vs.length fs) (sharpR (buildT vs.length fs) cr).1 i))) : List VT)) (ys := (fcR vs fs fs.length)) (e := eV) (by simp) o654
 have h659 := (k656 _ no540 (by rw [h646]; simp)).trans h646
 have no660 := j657 _ no540 (by rw [h646]; simp)
 have h661 := (k656 _ no541 (by rw [h647]; simp)).trans h647
 have no662 := j657 _ no541 (by rw [h647]; simp)
 have h663 := (k656 _ no542 (by rw [h648]; simp)).trans h648
 have no664 := j657 _ no542 (by rw [h648]; simp)
 have sp666 := Own.sep o650 (Sep.symm sp546) j657
 have o665 := Own.stay o650 (Sep.symm sp546) k656
 refine C rfl (Fa rfl s536 fl_26_0 ?_ (hid := ⟨_, h661⟩))
 refine C rfl (AOp.storeO (cells' := [v652, .snil, w12_2]) rfl rfl o658 ts_22 h661 rfl rfl ?_)
 intro H667 h668 k669
 have h670 := keep k669 e439 h659
 have h672 := keep k669 e440 h663
 have o673 := Own.keep o665 k669 no544
 have o674 := Own.keep o658 k669 no662
 have m675 := Mono.set m655 z441 k669
 refine AWP.seq ?_
 refine Sr ?_
 refine F rfl s532 fl_26_1 (C rfl (Lf (.sl fs.length (fs.map eF)) rfl rfl ty_23 rfl (C rfl (AOp.len (m := fs.length) rfl rfl (.inr (.inl ⟨_, rfl⟩)) u_23 (C rfl (Mv (.int .i64 0) rfl rfl ?_))))))
 refine bk_ ?_
 refine AWP.loop (fun q676 fq Hq => ∃ (f2 : Int) (w12_1 : AV), q676 = (((fs.length : Int) : Int) - f2).toNat ∧ fq 166 = .int .i64 f2 ∧ fq 2 = .ptr i8 0 0 ∧ fq 3 = .int .i64 0 ∧ fq 7 = .ptr i95 0 0 ∧ fq 12 = .ptr i434 0 0 ∧ fq 164 = .sl fs.length (fs.map eF) ∧ fq 165 = .int .i64 (fs.length : Int) ∧ Own H0 Hq 1 w12_1 (faR vs.length (buildT vs.length fs) fs f2).length ((faR vs.length (buildT vs.length fs) fs f2).map eF) ∧ Own H0 Hq 3 v652 (((((v1R vs (fcR vs fs fs.length) (buildT vs.length fs) (sharpR (buildT vs.length fs) cr).1 vs.length) ++ (v2R vs (fcR vs fs fs.length) (buildT vs.length fs) (sharpR (buildT vs.length fs) cr).1 i))) ++ (fcR vs fs fs.length)).length) (((((v1R vs (fcR vs fs fs.length) (buildT vs.length fs) (sharpR (buildT vs.length fs) cr).1 vs.length) ++ (v2R vs (fcR vs fs fs.length) (buildT vs.length fs) (sharpR (buildT vs.length fs) cr).1 i))) ++ (fcR vs fs fs.length)).flatMap eV) ∧ Own H0 Hq 3 w12_2 ((crR vs.length (buildT vs.length fs) (sharpR (buildT vs.length fs) cr).1 i).length) ((crR vs.length (buildT vs.length fs) (sharpR (buildT vs.length fs) cr).1 i).flatMap eCr) ∧ NotId w12_1 i8 ∧ NotId w12_1 i95 ∧ NotId w12_1 i434 ∧ NotId v652 i8 ∧ NotId v652 i95 ∧ NotId v652 i434 ∧ NotId w12_2 i8 ∧ NotId w12_2 i95 ∧ NotId w12_2 i434 ∧ Sep w12_1 v652 ∧ Sep w12_1 w12_2 ∧ Sep v652 w12_2 ∧ Hq i8 = some (.row 0 ([.snil, .snil, .snil])) ∧ Hq i95 = some (.row 0 ([.sl vs.length (vs.flatMap eV), .sl fs.length (fs.map eF), .sl cr.length (cr.flatMap eCr), .sl ((buildT vs.length fs).ed).length (((buildT vs.length fs).ed).flatMap eE), .sl ((buildT vs.length fs).fan).length (((buildT vs.length fs).fan).map eF), .sl ((buildT vs.length fs).rnd).length (((buildT vs.length fs).rnd).map eBo), .sl ((sharpR (buildT vs.length fs) cr).1).length (((sharpR (buildT vs.length fs) cr).1).map eI), .sl (egR (buildT vs.length fs).ed vs.length).length ((egR (buildT vs.length fs).ed vs.length).map eF), .sl (fcR vs fs fs.length).length ((fcR vs fs fs.length).flatMap eV)])) ∧ Hq i434 = some (.row 0 ([v652, w12_1, w12_2])) ∧ Mono H0 Hq ∧ (0 ≤ f2) ∧ (f2 ≤ (fs.length : Int))) (k := (((fs.length : Int) : Int) - 0).toNat) ?_ ?_
 exact ⟨0, .snil, rfl, rfl, s533, s534, s535, s536, rfl, rfl, Own.nil _ _ _, o674, o673, (NotId.nil _), (NotId.nil _), (NotId.nil _), no660, no664, no662, no543, no545, no544, (Sep.nilL _), (Sep.nilL _), (Sep.symm sp666), h670, h672, h668, m675, by omega, by omega⟩
 rintro _ f678 H677 ⟨f2, w12_1, rfl, s679, s680, s681, s682, s683, s684, s685, o686, o687, o688, no689, no690, no691, no692, no693, no694, no695, no696, no697, sp698, sp699, sp700, h701, h702, h703, m704, hf20, hf21⟩
 refine Sr ?_
 refine C rfl (Bi (.bool (decide (f2 < (fs.length : Int)))) rfl s679 s685 rfl ?_)
 refine AWP.seq ?_
 by_cases b705 : f2 < (fs.length : Int)
 refine ct_ rfl (decide_eq_true b705) ?_
 refine AWP.skip ?_
 refine AWP.seq ?_
 refine bk_ ?_
 refine Sr ?_
 refine C rfl (Mv (.int .i64 f2) rfl s679 (C rfl (iS_ rfl s684 s679 sl_23 (by omega) (by omega) (C rfl (Lf (.sl (at_ fs f2).length ((at_ fs f2).map eI)) rfl rfl ty_38 (ld1 (by omega) (by omega)) (C rfl (As (.int .i64 f2) rfl rfl (C rfl (As (.sl (at_ fs f2).length ((at_ fs f2).map eI)) rfl rfl ?_)))))))))
 refine AOps.nil ?_
 change AWP _ _ _ _ _ _
 have hfal := faR_len (n := vs.length) (t := (buildT vs.length fs)) (fs := fs) hfss hf21
 have hfpl := partsU_len (n := vs.length) (t := (buildT vs.length fs)) (k := f2) (f := at_ fs f2) (i := ((at_ fs f2).length : Int))
 have hfl := hfss _ (at_mem hf20 (by omega : f2 < fs.length))
 refine AWP.region_quiet mixed (by kernel_rfl) 6 [6, 7, 8] rfl (by kernel_rfl) (Mono H677) (Mono.refl _) ?_
 refine Q rfl (fun _ _ φ ψ => Fa rfl ((φ 12 rfl).trans s683) fl_26_1 ⟨rfl, ψ⟩ (hid := ⟨_, (ψ _ _ h703)⟩)) (Q rfl (fun _ _ φ ψ => Ld (w12_1) rfl (φ 171 rfl) ty_23 (ψ _ _ h703) rfl ⟨rfl, ψ⟩) (Q rfl (fun _ _ φ ψ => Mv (.ptr i95 0 0) rfl ((φ 7 rfl).trans s682) ⟨rfl, ψ⟩) (Q rfl (fun _ _ φ ψ => Mv (.int .i64 f2) rfl (φ 15 rfl) ⟨rfl, ψ⟩) (Q rfl (fun _ _ φ ψ => Mv (.sl (at_ fs f2).length ((at_ fs f2).map eI)) rfl (φ 16 rfl) ⟨rfl, ψ⟩) (Q rfl (fun _ _ φ ψ => AOp.pcallH («as» := [.ptr i95 0 0, .int .i64 f2, .sl (at_ fs f2).length ((at_ fs f2).map eI)]) rfl rfl (lapp (lcons (φ 173 rfl) (lcons (φ 174 rfl) (lcons (φ 175 rfl) rfl))) rfl) tf_39 (c_parts vs fs cr (buildT vs.length fs) (sharpR (buildT vs.length fs) cr).1 f2 (at_ fs f2) (by omega) (by omega) (by omega) (by omega) tf.se (ψ _ _ h702)) fun H2 m2 => ⟨rfl, ψ.trans m2⟩) ?_)))))
 refine QE.done fun H706 m707 => ?_
 have h708 := m707 _ _ h701
 have h709 := m707 _ _ h702
 have h710 := m707 _ _ h703
 have o711 := Own.mono o686 m707
 have o712 := Own.mono o687 m707
 have o713 := Own.mono o688 m707
 have m714 := m704.trans m707
 refine C rfl (AOp.append_any (es := 1) (m := (partsU (vs.length : Int) (buildT vs.length fs) f2 (at_ fs f2) (at_ fs f2).length).length) (len := ((faR vs.length (buildT vs.length fs) fs f2).length)) (old := (faR vs.length (buildT vs.length fs) fs f2).map eF) (cells := (partsU (vs.length : Int) (buildT vs.length fs) f2 (at_ fs f2) (at_ fs f2).length).map eF) rfl u_23 ts_38 tzn_38 tb_38 (by decide) ni_23 rfl o711 m714 rfl (.sl (by simp)) (by exact one_map eF_one)  (by first | omega | (simp only [List.length_append, List.length_cons, List.length_nil]; omega)) ?_)
 intro v715 H716 o717 m718 k719 j720
 have o721 := Own.app1 (xs := ((faR vs.length (buildT vs.length fs) fs f2) : List (List Int))) (ys := partsU (vs.length : Int) (buildT vs.length fs) f2 (at_ fs f2) (at_ fs f2).length) (e := eF) (by simp) o717
 have h722 := (k719 _ no689 (by rw [h708]; simp)).trans h708
 have no723 := j720 _ no689 (by rw [h708]; simp)
 have h724 := (k719 _ no690 (by rw [h709]; simp)).trans h709
 have no725 := j720 _ no690 (by rw [h709]; simp)
 have h726 := (k719 _ no691 (by rw [h710]; simp)).trans h710
 have no727 := j720 _ no691 (by rw [h710]; simp)
 have sp729 := Own.sep o712 (Sep.symm sp698) j720
 have o728 := Own.stay o712 (Sep.symm sp698) k719
 have sp731 := Own.sep o713 (Sep.symm sp699) j720
 have o730 := Own.stay o713 (Sep.symm sp699) k719
 refine C rfl (Fa rfl s683 fl_26_1 ?_ (hid := ⟨_, h726⟩))
 refine C rfl (AOp.storeO (cells' := [v652, v715, w12_2]) rfl rfl o721 ts_23 h726 rfl rfl ?_)
 intro H732 h733 k734
 have h735 := keep k734 e439 h722
 have h736 := keep k734 e440 h724
 have o738 := Own.keep o728 k734 no694
 have o739 := Own.keep o730 k734 no697
 have o740 := Own.keep o721 k734 no727
 have m741 := Mono.set m718 z441 k734
 refine AWP.region rfl ?_
 refine C rfl (Bi (.int .i64 (f2 + 1)) rfl s679 rfl (iadd (by omega)) (C rfl (Mv (.int .i64 (f2 + 1)) rfl rfl ?_)))
 refine AOps.nil ?_
 exact ⟨_, by omega, f2 + 1, v715, rfl, rfl, s680, s681, s682, s683, s684, s685, (have hx : (((faR vs.length (buildT vs.length fs) fs f2) ++ (partsU (vs.length : Int) (buildT vs.length fs) f2 (at_ fs f2) (at_ fs f2).length)) : List (List Int)) = faR vs.length (buildT vs.length fs) fs (f2 + 1) := (by exact F_step hf20); Own.re o740 (congrArg List.length hx) (congrArg (fun l : List (List Int) => l.map eF) hx)), o738, o739, no723, no725, no727, no692, no693, no694, no695, no696, no697, (Sep.symm sp729), (Sep.symm sp731), sp700, h735, h736, h733, m741, by omega, by omega⟩
 refine cf_ rfl (decide_eq_false b705) ?_
 refine AWP.exit ?_
 change AWP _ _ _ _ _ _
 refine Sr ?_
 refine C rfl (Ld (.agg [v652, w12_1, w12_2]) rfl s683 ty_26 h703 rfl (C rfl (So (cells' := [v652, w12_1, w12_2]) (.agg [v652, w12_1, w12_2]) s680 rfl ts_26 h701 (by simp only [AV.cells, List.all_cons, List.all_nil, Own.one_ o687, Own.one_ o686, Own.one_ o688]; rfl) rfl rfl rfl ?_)))
 intro H742 h743 k744
 have o748 := Own.keep o686 k744 no689
 have o749 := Own.keep o687 k744 no692
 have o750 := Own.keep o688 k744 no695
 have m751 := Mono.set m704 z14 k744
 refine C rfl (As (.int .i64 0) rfl rfl ?_)
 refine rt_ ?_
 refine Fin.frzCell 0 o749 h743 z14 rfl no692 m751 fun H752 h753 m754 k755 => ?_
 have o758 := Own.stay2 o748 sp698 no689 k755
 have o759 := Own.stay2 o750 (Sep.symm sp700) no695 k755
 have h760 : H752 i8 = some (.row 0 ([.sl ((((v1R vs (fcR vs fs fs.length) (buildT vs.length fs) (sharpR (buildT vs.length fs) cr).1 vs.length) ++ (v2R vs (fcR vs fs fs.length) (buildT vs.length fs) (sharpR (buildT vs.length fs) cr).1 i))) ++ (fcR vs fs fs.length)).length (((((v1R vs (fcR vs fs fs.length) (buildT vs.length fs) (sharpR (buildT vs.length fs) cr).1 vs.length) ++ (v2R vs (fcR vs fs fs.length) (buildT vs.length fs) (sharpR (buildT vs.length fs) cr).1 i))) ++ (fcR vs fs fs.length)).flatMap eV), w12_1, w12_2])) := h753
 refine Fin.frzCell 1 o758 h760 z14 rfl no689 m754 fun H761 h762 m763 k764 => ?_
 have o767 := Own.stay2 o759 (Sep.symm sp699) no695 k764
 have h768 : H761 i8 = some (.row 0 ([.sl ((((v1R vs (fcR vs fs fs.length) (buildT vs.length fs) (sharpR (buildT vs.length fs) cr).1 vs.length) ++ (v2R vs (fcR vs fs fs.length) (buildT vs.length fs) (sharpR (buildT vs.length fs) cr).1 i))) ++ (fcR vs fs fs.length)).length (((((v1R vs (fcR vs fs fs.length) (buildT vs.length fs) (sharpR (buildT vs.length fs) cr).1 vs.length) ++ (v2R vs (fcR vs fs fs.length) (buildT vs.length fs) (sharpR (buildT vs.length fs) cr).1 i))) ++ (fcR vs fs fs.length)).flatMap eV), .sl (faR vs.length (buildT vs.length fs) fs f2).length ((faR vs.length (buildT vs.length fs) fs f2).map eF), w12_2])) := h762
 refine Fin.frzCell 2 o767 h768 z14 rfl no695 m763 fun H769 h770 m771 k772 => ?_
 have h775 : H769 i8 = some (.row 0 ([.sl ((((v1R vs (fcR vs fs fs.length) (buildT vs.length fs) (sharpR (buildT vs.length fs) cr).1 vs.length) ++ (v2R vs (fcR vs fs fs.length) (buildT vs.length fs) (sharpR (buildT vs.length fs) cr).1 i))) ++ (fcR vs fs fs.length)).length (((((v1R vs (fcR vs fs fs.length) (buildT vs.length fs) (sharpR (buildT vs.length fs) cr).1 vs.length) ++ (v2R vs (fcR vs fs fs.length) (buildT vs.length fs) (sharpR (buildT vs.length fs) cr).1 i))) ++ (fcR vs fs fs.length)).flatMap eV), .sl (faR vs.length (buildT vs.length fs) fs f2).length ((faR vs.length (buildT vs.length fs) fs f2).map eF), .sl (crR vs.length (buildT vs.length fs) (sharpR (buildT vs.length fs) cr).1 i).length ((crR vs.length (buildT vs.length fs) (sharpR (buildT vs.length fs) cr).1 i).flatMap eCr)])) := h770
 refine Rr (Res.list rfl rfl (.cell (v := .agg [.sl ((((v1R vs (fcR vs fs fs.length) (buildT vs.length fs) (sharpR (buildT vs.length fs) cr).1 vs.length) ++ (v2R vs (fcR vs fs fs.length) (buildT vs.length fs) (sharpR (buildT vs.length fs) cr).1 i))) ++ (fcR vs fs fs.length)).length (((((v1R vs (fcR vs fs fs.length) (buildT vs.length fs) (sharpR (buildT vs.length fs) cr).1 vs.length) ++ (v2R vs (fcR vs fs fs.length) (buildT vs.length fs) (sharpR (buildT vs.length fs) cr).1 i))) ++ (fcR vs fs fs.length)).flatMap eV), .sl (faR vs.length (buildT vs.length fs) fs f2).length ((faR vs.length (buildT vs.length fs) fs f2).map eF), .sl (crR vs.length (buildT vs.length fs) (sharpR (buildT vs.length fs) cr).1 i).length ((crR vs.length (buildT vs.length fs) (sharpR (buildT vs.length fs) cr).1 i).flatMap eCr)]) s680 ty_26 h775 rfl (.tmp rfl (.nil)))) ?_ m771
 exact congrArg AV.tup (lc (congrArg AV.agg (lc (congrArg (fun l : List VT => AV.sl l.length (l.flatMap eV)) (show (((((v1R vs (fcR vs fs fs.length) (buildT vs.length fs) (sharpR (buildT vs.length fs) cr).1 vs.length) ++ (v2R vs (fcR vs fs fs.length) (buildT vs.length fs) (sharpR (buildT vs.length fs) cr).1 i))) ++ (fcR vs fs fs.length)) : List VT) = (levelR vs fs cr).1.Verts from by rw [level_4 b44 b49 b54]; rw [show i = ((buildT vs.length fs).ed.length : Int) by omega])) (lc (congrArg (fun l : List (List Int) => AV.sl l.length (l.map eF)) (show ((faR vs.length (buildT vs.length fs) fs f2) : List (List Int)) = (levelR vs fs cr).1.Faces from by rw [level_4 b44 b49 b54]; rw [show f2 = (fs.length : Int) by omega])) (lc (congrArg (fun l : List CrT => AV.sl l.length (l.flatMap eCr)) (show ((crR vs.length (buildT vs.length fs) (sharpR (buildT vs.length fs) cr).1 i) : List CrT) = (levelR vs fs cr).1.Creases from by rw [level_4 b44 b49 b54]; rw [show i = ((buildT vs.length fs).ed.length : Int) by omega])) rfl)))) (lc (congrArg (AV.int .i64) (show (0 : Int) = (levelR vs fs cr).2 from by rw [level_4 b44 b49 b54])) rfl))
 refine ct_ rfl (nb (decide_eq_false b49)) ?_
 refine Sr ?_
 refine C rfl (Bl (cells := [.snil, .snil, .snil]) rfl tz_26 pl_26 rfl rfl (C rfl (Mv (.int .i64 ((sharpR (buildT vs.length fs) cr).2)) rfl rfl (C rfl (Sw rfl rfl ts_26 h47 rfl rfl rfl ?_)))))
 intro H776 h777 k778
 have m780 := Mono.set m48 z14 k778
 refine C rfl (As (.int .i64 ((sharpR (buildT vs.length fs) cr).2)) rfl rfl ?_)
 refine rt_ ?_
 refine Fin.frzCell 0 (Own.nil H0 H776 1) h777 z14 rfl (NotId.nil _) m780 fun H781 h782 m783 k784 => ?_
 have h785 : H781 i8 = some (.row 0 ([.sl 0 ([]), .snil, .snil])) := h782
 refine Fin.frzCell 1 (Own.nil H0 H781 1) h785 z14 rfl (NotId.nil _) m783 fun H786 h787 m788 k789 => ?_
 have h790 : H786 i8 = some (.row 0 ([.sl 0 ([]), .sl 0 ([]), .snil])) := h787
 refine Fin.frzCell 2 (Own.nil H0 H786 1) h790 z14 rfl (NotId.nil _) m788 fun H791 h792 m793 k794 => ?_
 have h795 : H791 i8 = some (.row 0 ([.sl 0 ([]), .sl 0 ([]), .sl 0 ([])])) := h792
 refine Rr (Res.list rfl rfl (.cell (v := .agg [.sl 0 ([]), .sl 0 ([]), .sl 0 ([])]) rfl ty_26 h795 rfl (.tmp rfl (.nil)))) ?_ m793
 exact congrArg AV.tup (lc (congrArg AV.agg (lc (congrArg (fun l : List VT => AV.sl l.length (l.flatMap eV)) (show ([] : List VT) = (levelR vs fs cr).1.Verts from by rw [level_2 b44 b49])) (lc (congrArg (fun l : List (List Int) => AV.sl l.length (l.map eF)) (show ([] : List (List Int)) = (levelR vs fs cr).1.Faces from by rw [level_2 b44 b49])) (lc (congrArg (fun l : List CrT => AV.sl l.length (l.flatMap eCr)) (show ([] : List CrT) = (levelR vs fs cr).1.Creases from by rw [level_2 b44 b49])) rfl)))) (lc (congrArg (AV.int .i64) (show ((sharpR (buildT vs.length fs) cr).2 : Int) = (levelR vs fs cr).2 from by rw [level_2 b44 b49])) rfl))
 refine ct_ rfl (nb (decide_eq_false b44)) ?_
 refine Sr ?_
 refine C rfl (Bl (cells := [.snil, .snil, .snil]) rfl tz_26 pl_26 rfl rfl (C rfl (Mv (.int .i64 (buildE vs.length fs)) rfl rfl (C rfl (Sw rfl rfl ts_26 h43 rfl rfl rfl ?_)))))
 intro H796 h797 k798
 have m800 := Mono.set m41 z14 k798
 refine C rfl (As (.int .i64 (buildE vs.length fs)) rfl rfl ?_)
 refine rt_ ?_
 refine Fin.frzCell 0 (Own.nil H0 H796 1) h797 z14 rfl (NotId.nil _) m800 fun H801 h802 m803 k804 => ?_
 have h805 : H801 i8 = some (.row 0 ([.sl 0 ([]), .snil, .snil])) := h802
 refine Fin.frzCell 1 (Own.nil H0 H801 1) h805 z14 rfl (NotId.nil _) m803 fun H806 h807 m808 k809 => ?_
 have h810 : H806 i8 = some (.row 0 ([.sl 0 ([]), .sl 0 ([]), .snil])) := h807
 refine Fin.frzCell 2 (Own.nil H0 H806 1) h810 z14 rfl (NotId.nil _) m808 fun H811 h812 m813 k814 => ?_
 have h815 : H811 i8 = some (.row 0 ([.sl 0 ([]), .sl 0 ([]), .sl 0 ([])])) := h812
 refine Rr (Res.list rfl rfl (.cell (v := .agg [.sl 0 ([]), .sl 0 ([]), .sl 0 ([])]) rfl ty_26 h815 rfl (.tmp rfl (.nil)))) ?_ m813
 exact congrArg AV.tup (lc (congrArg AV.agg (lc (congrArg (fun l : List VT => AV.sl l.length (l.flatMap eV)) (show ([] : List VT) = (levelR vs fs cr).1.Verts from by rw [level_1 b44])) (lc (congrArg (fun l : List (List Int) => AV.sl l.length (l.map eF)) (show ([] : List (List Int)) = (levelR vs fs cr).1.Faces from by rw [level_1 b44])) (lc (congrArg (fun l : List CrT => AV.sl l.length (l.flatMap eCr)) (show ([] : List CrT) = (levelR vs fs cr).1.Creases from by rw [level_1 b44])) rfl)))) (lc (congrArg (AV.int .i64) (show (buildE vs.length fs : Int) = (levelR vs fs cr).2 from by rw [level_1 b44])) rfl))
end Go.Proofs.U
namespace Go.Proofs.U
open Go Go.AH Go.Proofs.T
set_option maxRecDepth 4000
def weighZ (vs : List VT) (fs : List (List Int)) (cr : List CrT) (m : Int) : Int := if (vs.length : Int) > m ∨ (cr.length : Int) > m ∨ (fs.length : Int) > m then m + 1 else weighS m fs ((vs.length : Int) + cr.length + fs.length)
def greatP (vs : List VT) (fs : List (List Int)) (cr : List CrT) : Prop := (vs.length : Int) > 60 ∨ weighZ vs fs cr 300 > 300
instance (vs : List VT) (fs : List (List Int)) (cr : List CrT) : Decidable (greatP vs fs cr) := by unfold greatP; infer_instance
theorem len_le_sides {fs : List (List Int)} : ∀ l ∈ fs, l.length ≤ (sides fs).length := by
  have key : ∀ (fs : List (List Int)) (k : Nat), ∀ l ∈ fs, l.length ≤ (sidesFrom k fs).length := by
    intro fs
    induction fs with
    | nil => intro k l h; cases h
    | cons x fs ih =>
      intro k l h
      rw [sidesFrom, List.length_append, List.length_map, wayF_len]
      rcases List.mem_cons.1 h with rfl | h
      · omega
      · have := ih (k + 1) l h; omega
  exact key fs 0
structure SmallC (vs : List VT) (fs : List (List Int)) (cr : List CrT) : Prop where
  v : vs.length ≤ 60
  f : fs.length ≤ 300
  c : cr.length ≤ 300
  s : (sides fs).length ≤ 300
  fs : ∀ l ∈ fs, l.length ≤ 300
def joinB (a b : BoxT) : BoxT := ⟨⟨min a.Lo.X b.Lo.X, min a.Lo.Y b.Lo.Y, min a.Lo.Z b.Lo.Z⟩, ⟨max a.Hi.X b.Hi.X, max a.Hi.Y b.Hi.Y, max a.Hi.Z b.Hi.Z⟩⟩
def hasB (b : BoxT) (p : VT) : Prop := (b.Lo.X ≤ p.X ∧ p.X ≤ b.Hi.X) ∧ (b.Lo.Y ≤ p.Y ∧ p.Y ≤ b.Hi.Y) ∧ b.Lo.Z ≤ p.Z ∧ p.Z ≤ b.Hi.Z
instance (b : BoxT) (p : VT) : Decidable (hasB b p) := by unfold hasB; infer_instance
def boxL (l : List VT) (b : BoxT) : BoxT := l.foldl (fun b p => joinB b (BoxT.mk p p)) b
def boundR (l : List VT) : BoxT × Bool := if l.length = 0 then (BoxT.mk (VT.mk 0 0 0) (VT.mk 0 0 0), false) else (boxL l (BoxT.mk (at_ l 0) (at_ l 0)), true)
end Go.Proofs.U
namespace Go.Proofs.U
open Go Go.AH Go.Proofs.T
set_option maxRecDepth 4000
set_option linter.unusedSimpArgs false
set_option linter.unusedVariables false
end Go.Proofs.U
namespace Go.AH
variable [Globs]
set_option linter.unusedSectionVars false
open Go
theorem mid_cases {α : Type} {pre post : List α} {a b : α} {Q : Nat → α → Prop} (hq : ∀ j x, (pre ++ a :: post)[j]? = some x → Q j x) (h : Q pre.length a → Q pre.length b) : ∀ j x, (pre ++ b :: post)[j]? = some x → Q j x := fun j x hx => by
  rcases Nat.lt_trichotomy j pre.length with hj | hj | hj
  · rw [List.getElem?_append_left hj] at hx
    exact hq j x (by rw [List.getElem?_append_left hj]; exact hx)
  · subst hj
    rw [List.getElem?_append_right (Nat.le_refl _), Nat.sub_self] at hx
    simp at hx; subst hx
    exact h (hq _ a (by rw [List.getElem?_append_right (Nat.le_refl _), Nat.sub_self]; rfl))
  · refine hq j x ?_
    rw [List.getElem?_append_right (by omega)] at hx ⊢
    obtain ⟨k, hk⟩ : ∃ k, j - pre.length = k + 1 := ⟨j - pre.length - 1, by omega⟩
    rw [hk] at hx ⊢; exact hx
theorem VR.nilIn {w : World} {μ : Nat → Nat} {H : Heap} {pre post : List AV} {v : Value} (h : VR w μ H (.agg (pre ++ AV.snil :: post)) v) : VR w μ H (.agg (pre ++ AV.sl 0 [] :: post)) v := by
  cases h with
  | @agg _ vs hl h =>
    refine .agg (by simpa using hl) fun j x y hx hy => ?_
    exact mid_cases (Q := fun j x => ∀ y, vs[j]? = some y → VR w μ H x y) (fun j x hx y hy => h j x y hx hy) (fun g y hy => VR.nil_sl (g y hy)) j x hx y hy
theorem PC.nilIn {P : Program} {g : FuncId} {pre post pa po : List AV} {r : AV} (h : PC P g (pa ++ .agg (pre ++ AV.sl 0 [] :: post) :: po) r) : PC P g (pa ++ .agg (pre ++ AV.snil :: post) :: po) r := fun H μ w vs hr hv => by
  refine h H μ w vs hr ⟨by simpa using hv.1, fun j x y hx hy => ?_⟩
  exact mid_cases (Q := fun j x => ∀ y, vs.toList[j]? = some y → VR w μ H x y) (fun j x hx y hy => hv.2 j x y hx hy) (fun q y hy => VR.nilIn (q y hy)) j x hx y hy
end Go.AH
namespace Go.Proofs.U
open Go Go.AH Go.Proofs.T
set_option maxRecDepth 20000
abbrev AV4 : List VT := [VT.mk 0 0 0, VT.mk 8 0 0, VT.mk 8 8 0, VT.mk 0 8 0]
abbrev AF4 : List (List Int) := [[0, 1, 2, 3]]
theorem int4 {P : Int → Prop} {n : Int} (h0 : P 0) (h1 : P 1) (h2 : P 2) (h3 : P 3) (hn : n ≤ 4) : ∀ i : Int, 0 ≤ i → i < n → P i := by
  intro i g0 g1
  have : i = 0 ∨ i = 1 ∨ i = 2 ∨ i = 3 := by omega
  rcases this with rfl | rfl | rfl | rfl <;> assumption
theorem ok4 : okS 4 AF4 := by
  refine ⟨by decide, fun f h0 h1 => ?_, int4 (by decide) (by decide) (by decide) (by decide) (by decide)⟩
  have : f = 0 := by simp at h1; omega
  subst this
  refine ⟨by decide, int4 (by decide) (by decide) (by decide) (by decide) (by decide), ?_, int4 (by decide) (by decide) (by decide) (by decide) (by decide)⟩
  intro i k k0 ki il
  have h3 : ((at_ AF4 0).length : Int) = 4 := rfl
  rw [h3] at il
  have : (i = 1 ∧ k = 0) ∨ (i = 2 ∧ k = 0) ∨ (i = 2 ∧ k = 1) ∨ (i = 3 ∧ k = 0) ∨ (i = 3 ∧ k = 1) ∨ (i = 3 ∧ k = 2) := by omega
  rcases this with ⟨rfl, rfl⟩ | ⟨rfl, rfl⟩ | ⟨rfl, rfl⟩ | ⟨rfl, rfl⟩ | ⟨rfl, rfl⟩ | ⟨rfl, rfl⟩ <;> decide
abbrev AT4 : Tp := ⟨eOut AF4 4 4, fansU AF4 4, rndU AF4 4⟩
theorem al_b : buildT AV4.length AF4 = AT4 ∧ buildE AV4.length AF4 = 0 := build_ok ok4
theorem al_s : (sharpR AT4 []).2 = 0 := by decide
theorem kokV {v : VT} (h : inR v.X ∧ inR v.Y ∧ inR v.Z) : KOK Try.prog 42 (.agg (eV v)) := KOK.ints (xs := [v.X, v.Y, v.Z]) rfl (by kernel_rfl) (by kernel_rfl) rfl (by kernel_rfl) rfl rfl (by simp [h])
end Go.Proofs.U
namespace Go.Proofs.U
open Go Go.AH Go.Proofs.T
theorem teq42 : TEq Try.prog 42 := TEq.mk' laid (m := 5) (by decide) (row_lt (by kernel_rfl)) (by kernel_rfl) (by kernel_rfl) (by kernel_rfl)
end Go.Proofs.U
namespace Go.Proofs.U
open Go Go.AH Go.Proofs.T
set_option maxRecDepth 4000
theorem level_ok {vs : List VT} {fs : List (List Int)} {cr : List CrT} (h : (levelR vs fs cr).2 = 0) : okS vs.length fs ∧ (sharpR (buildT vs.length fs) cr).2 = 0 ∧ vs.any farV = false ∧ levelR vs fs cr = (⟨v1R vs (fcR vs fs fs.length) (buildT vs.length fs) (sharpR (buildT vs.length fs) cr).1 vs.length ++ v2R vs (fcR vs fs fs.length) (buildT vs.length fs) (sharpR (buildT vs.length fs) cr).1 (buildT vs.length fs).ed.length ++ fcR vs fs fs.length,
    faR vs.length (buildT vs.length fs) fs fs.length, crR vs.length (buildT vs.length fs) (sharpR (buildT vs.length fs) cr).1 (buildT vs.length fs).ed.length⟩, 0) := by
  by_cases h1 : buildE vs.length fs = 0
  · by_cases h2 : (sharpR (buildT vs.length fs) cr).2 = 0
    · cases h3 : vs.any farV
      · exact ⟨build_OK h1, h2, rfl, level_4 h1 h2 h3⟩
      · rw [level_3 h1 h2 h3] at h; cases h
    · rw [level_2 h1 h2] at h; exact absurd h h2
  · rw [level_1 h1] at h; exact absurd h h1
theorem level_no {vs : List VT} {fs : List (List Int)} {cr : List CrT} (h : ¬ (levelR vs fs cr).2 = 0) : (levelR vs fs cr).1 = ⟨[], [], []⟩ := by
  by_cases h1 : buildE vs.length fs = 0
  · by_cases h2 : (sharpR (buildT vs.length fs) cr).2 = 0
    · cases h3 : vs.any farV
      · rw [level_4 h1 h2 h3] at h; exact absurd rfl h
      · rw [level_3 h1 h2 h3]
    · rw [level_2 h1 h2]
  · rw [level_1 h1]
theorem level_vlen {vs : List VT} {fs : List (List Int)} {cr : List CrT} (h : (levelR vs fs cr).2 = 0) : (levelR vs fs cr).1.Verts.length = vs.length + (buildT vs.length fs).ed.length + fs.length := by
  rw [(level_ok h).2.2.2]
  simp only [List.length_append, v1R, v2R, fcR, U_len]; omega
theorem level_vle {vs : List VT} {fs : List (List Int)} {cr : List CrT} (hv : vs.length ≤ 1000) (hf : fs.length ≤ 1000) (hs : (sides fs).length ≤ 50000) : (levelR vs fs cr).1.Verts.length ≤ 60000 := by
  by_cases h : (levelR vs fs cr).2 = 0
  · rw [level_vlen h]
    have := (topo_facts (level_ok h).1 (by omega) hf hs).el
    omega
  · rw [level_no h]; exact Nat.zero_le _
end Go.Proofs.U
namespace Go.Proofs.U
open Go Go.AH Go.Proofs.T
set_option maxRecDepth 4000
set_option linter.unusedSimpArgs false
set_option linter.unusedVariables false
end Go.Proofs.U
namespace Go.Proofs.U
open Go Go.AH Go.Proofs.T
set_option maxRecDepth 4000
def inN (lo hi d x : Int) : Prop := lo * d ≤ x ∧ x ≤ hi * d
theorem inN_add {lo hi d e x y : Int} (h : inN lo hi d x) (g : inN lo hi e y) : inN lo hi (d + e) (x + y) := by
  unfold inN at *; rw [Int.mul_add, Int.mul_add]; omega
theorem inN_scale {lo hi k x : Int} (h : lo ≤ x ∧ x ≤ hi) (hk : 0 ≤ k) : inN lo hi k (x * k) := ⟨Int.mul_le_mul_of_nonneg_right h.1 hk, Int.mul_le_mul_of_nonneg_right h.2 hk⟩
theorem round_inN {lo hi d x : Int} (hd : 1 ≤ d) (h : inN lo hi d x) : lo ≤ roundZ x d ∧ roundZ x d ≤ hi := by
  obtain ⟨h1, h2⟩ := h
  unfold roundZ
  have hp : 0 < 2 * d := by omega
  have e1 : lo * (2 * d) = 2 * (lo * d) := by rw [Int.mul_left_comm]
  have e2 : (hi + 1) * (2 * d) = 2 * (hi * d) + 2 * d := by rw [Int.add_mul, Int.one_mul, Int.mul_left_comm]
  constructor
  · refine Int.le_ediv_of_mul_le hp ?_
    rw [e1]; omega
  · have : (2 * x + d) / (2 * d) < hi + 1 := by
      refine Int.ediv_lt_of_lt_mul hp ?_
      rw [e2]; omega
    omega
def hasN (b : BoxT) (d : Int) (s : VT) : Prop := inN b.Lo.X b.Hi.X d s.X ∧ inN b.Lo.Y b.Hi.Y d s.Y ∧ inN b.Lo.Z b.Hi.Z d s.Z
section
variable {b : BoxT} {d e k : Int} {s t p : VT}
theorem hasN_add (h : hasN b d s) (g : hasN b e t) : hasN b (d + e) (addV s t) := ⟨inN_add h.1 g.1, inN_add h.2.1 g.2.1, inN_add h.2.2 g.2.2⟩
theorem hasN_scale (h : hasB b p) (hk : 0 ≤ k) : hasN b k (scaleV p k) := ⟨inN_scale h.1 hk, inN_scale h.2.1 hk, inN_scale h.2.2 hk⟩
theorem hasN_one (h : hasB b p) : hasN b 1 p := by have := hasN_scale (k := 1) h (by decide); rwa [scaleV_one] at this
theorem hasN_zero : hasN b 0 zV := by unfold hasN inN zV; simp
theorem hasN_re (h : hasN b d s) (e : d = k) : hasN b k s := e ▸ h
theorem of_has (hd : 1 ≤ d) (h : hasN b d s) : hasB b (ofV s d) := ⟨round_inN hd h.1, round_inN hd h.2.1, round_inN hd h.2.2⟩
theorem hasN_sum : ∀ {l : List VT}, (∀ x ∈ l, hasB b x) → hasN b l.length (sumL l)
  | [], _ => hasN_zero
  | x :: l, h => by
    rw [sumL_cons]
    exact hasN_re (hasN_add (hasN_one (h x List.mem_cons_self)) (hasN_sum fun y hy => h y (List.mem_cons_of_mem _ hy))) (by rw [List.length_cons]; push_cast; omega)
end
section
variable {b : BoxT} {vs fc : List VT}
theorem face_has {f : List Int} (hb : ∀ p ∈ vs, hasB b p) (hf : ∀ k ∈ f, 0 ≤ k ∧ k < (vs.length : Int)) (hl : 1 ≤ f.length) : hasB b (faceP vs f) := by
  refine of_has (by omega) (hasN_re (hasN_sum fun x hx => ?_) (by rw [List.length_map]))
  obtain ⟨k, hk, rfl⟩ := List.mem_map.1 hx
  exact hb _ (at_mem (hf k hk).1 (hf k hk).2)
theorem edge_has {e : Ed} {s : Int} (hA : hasB b (at_ vs e.A)) (hB : hasB b (at_ vs e.B)) (hFG : s = 0 → hasB b (at_ fc e.F) ∧ hasB b (at_ fc e.G)) : hasB b (edgeP vs fc e s) := by
  unfold edgeP
  split
  · rename_i h
    exact of_has (by decide) (hasN_add (hasN_add (hasN_add (hasN_one hA) (hasN_one hB)) (hasN_one (hFG h).1)) (hasN_one (hFG h).2))
  · exact of_has (by decide) (hasN_add (hasN_one hA) (hasN_one hB))
theorem oth_has {ed : List Ed} {v : Int} {es : List Int} (h : ∀ e ∈ es, hasB b (othV vs (at_ ed e) v)) : hasN b es.length (othL vs ed v es) := by
  unfold othL
  refine hasN_re (hasN_sum fun x hx => ?_) (by rw [List.length_map])
  obtain ⟨e, he, rfl⟩ := List.mem_map.1 hx
  exact h e he
theorem vert_has {ed : List Ed} {sh fan es : List Int} {v : Int} (hv : hasB b (at_ vs v)) (ho : ∀ e ∈ es, hasB b (othV vs (at_ ed e) v)) (hf : ∀ f ∈ fan, hasB b (at_ fc f)) (hn : (hardF sh es).length < 2 → es.length = fan.length ∧ 2 ≤ fan.length) : hasB b (vertP vs fc ed sh fan es v) := by
  unfold vertP
  split
  · exact hv
  · split
    · rename_i h2
      exact of_has (by decide) (hasN_re (hasN_add (oth_has fun e he => ho e ((List.mem_filter.1 he).1)) (hasN_scale hv (by decide))) (by rw [h2]; rfl))
    · rename_i h1 h2
      obtain ⟨e1, e2⟩ := hn (by omega)
      have hp : 0 < (fan.length : Int) * (fan.length : Int) := Int.mul_pos (by omega) (by omega)
      refine of_has (by omega) (hasN_re (hasN_add (hasN_add (oth_has ho) (hasN_scale hv (Int.mul_nonneg (by omega) (by omega)))) (hasN_sum fun x hx => ?_)) ?_)
      · obtain ⟨k, hk, rfl⟩ := List.mem_map.1 hx
        exact hf k hk
      · rw [e1, List.length_map, Int.mul_sub]; omega
end
end Go.Proofs.U
namespace Go.Proofs.U
open Go Go.AH Go.Proofs.T
set_option maxRecDepth 4000
theorem two_len {α : Type} {l : List α} {x y : α} (hx : x ∈ l) (hy : y ∈ l) (h : x ≠ y) : 2 ≤ l.length := by
  match l, hx, hy with
  | [], hx, _ => cases hx
  | [a], hx, hy =>
    rw [List.mem_singleton] at hx hy
    exact absurd (hx.trans hy.symm) h
  | _ :: _ :: _, _, _ => simp
theorem mem_adj {ed : List Ed} {k x e : Int} : e ∈ adjU ed k x ↔ (0 ≤ e ∧ e < k) ∧ ((at_ ed e).A = x ∨ (at_ ed e).B = x) := by
  constructor
  · intro h
    obtain ⟨h1, h2⟩ := adj_mem h
    exact ⟨h1, h2.imp Eq.symm Eq.symm⟩
  · rintro ⟨h1, h2⟩
    unfold adjU
    refine List.mem_flatMap.2 ⟨e, List.mem_map.2 ⟨e.toNat, List.mem_range.2 (by omega), by omega⟩, ?_⟩
    rcases h2 with h2 | h2
    · exact List.mem_append.2 (.inl (by rw [if_pos h2]; simp))
    · exact List.mem_append.2 (.inr (by rw [if_pos h2]; simp))
theorem adj_nodup {ed : List Ed} (hne : ∀ e ∈ ed, e.A ≠ e.B) : ∀ {k : Int}, k ≤ ed.length → ∀ x, (adjU ed k x).Nodup := by
  intro k hk x
  have key : ∀ m : Nat, (m : Int) ≤ ed.length → (adjU ed m x).Nodup := by
    intro m
    induction m with
    | zero => intro _; exact List.nodup_nil
    | succ m ih =>
      intro hm
      have e1 := adj_next (ed := ed) (k := (m : Int)) (by omega) x
      have e2 : ((m + 1 : Nat) : Int) = (m : Int) + 1 := by omega
      rw [e2, e1]; unfold adjM
      have hm2 := ih (by omega)
      have hno : ((m : Int)) ∉ adjU ed m x := fun h => by have := (mem_adj.1 h).1; omega
      have hab := hne _ (at_mem (l := ed) (i := (m : Int)) (by omega) (by omega))
      by_cases hA : (at_ ed (m : Int)).A = x
      · rw [if_pos hA, if_neg (fun hB => hab (hA.trans hB.symm)), List.append_nil]
        exact List.nodup_append.2 ⟨hm2, by simp, fun a ha b hb => by simp at hb; subst hb; rintro rfl; exact hno ha⟩
      · rw [if_neg hA, List.append_nil]
        split
        · exact List.nodup_append.2 ⟨hm2, by simp, fun a ha b hb => by simp at hb; subst hb; rintro rfl; exact hno ha⟩
        · rw [List.append_nil]; exact hm2
  by_cases h0 : 0 ≤ k
  · have := key k.toNat (by omega)
    rwa [Int.toNat_of_nonneg h0] at this
  · have e : k.toNat = 0 := by omega
    unfold adjU; rw [e]; exact List.nodup_nil
section
variable {n : Int} {fs : List (List Int)} {sh : List Int} {v : Int}
theorem no_lone (h : okS n fs) (sf : ShF (buildT n fs) sh) (h0 : 0 ≤ v) (h1 : v < n) (hh : (hardF sh (adjU (buildT n fs).ed (buildT n fs).ed.length v)).length < 2) : ∀ e ∈ (buildT n fs).ed, T.lone v e = false := by
  have hl := few_law h h0 h1
  unfold cntJ at hl
  rw [take_all (Int.le_refl _)] at hl
  have hnd : ((buildT n fs).ed.filter (T.lone v)).Nodup := by
    rw [(build_ok h).1, List.nodup_iff_pairwise_ne]
    refine List.Pairwise.filter _ ((eOut_sorted fs n).imp ?_)
    intro x y g e
    subst e; unfold ltE at g; omega
  have hin : ∀ e ∈ (buildT n fs).ed.filter (T.lone v), ∃ i, at_ (buildT n fs).ed i = e ∧ i ∈ hardF sh (adjU (buildT n fs).ed (buildT n fs).ed.length v) := fun e he => by
    obtain ⟨g1, g2⟩ := List.mem_filter.1 he
    obtain ⟨i, i0, i1, rfl⟩ := mem_at g1
    unfold T.lone at g2; rw [decide_eq_true_eq] at g2
    have hed : edgedS (buildT n fs) i = true := by unfold edgedS; rw [decide_eq_true_eq]; exact ⟨i0, i1, g2.2⟩
    have := sf.edged i i0 i1 hed
    exact ⟨i, rfl, List.mem_filter.2 ⟨mem_adj.2 ⟨⟨i0, i1⟩, g2.1⟩, by rw [decide_eq_true_eq]; omega⟩⟩
  have hz : (buildT n fs).ed.filter (T.lone v) = [] := by
    by_cases hr : fanR fs v = true
    · rw [if_pos hr] at hl; exact List.eq_nil_of_length_eq_zero (by omega)
    · rw [if_neg hr] at hl
      exfalso
      match hf : (buildT n fs).ed.filter (T.lone v), hl, hnd, hin with
      | [a, b], _, hnd, hin =>
        obtain ⟨i, e1, m1⟩ := hin a (by simp)
        obtain ⟨j, e2, m2⟩ := hin b (by simp)
        have hab : a ≠ b := by simp at hnd; exact hnd
        have := two_len m1 m2 (fun e => hab (by rw [← e1, ← e2, e]))
        omega
      | [], hl, _, _ => simp at hl
      | [_], hl, _, _ => simp at hl
      | _ :: _ :: _ :: _, hl, _, _ => simp at hl; omega
  intro e he
  cases hx : T.lone v e
  · rfl
  · have := List.mem_filter.2 ⟨he, hx⟩
    rw [hz] at this; cases this
end
end Go.Proofs.U
namespace Go.Proofs.U
open Go Go.AH Go.Proofs.T
set_option maxRecDepth 4000
def otE (e : Ed) (v : Int) : Int := e.A + e.B - v
section
variable {n : Int} {fs : List (List Int)} {v : Int}
theorem ed_at (h : okS n fs) {e : Ed} (he : e ∈ (buildT n fs).ed) (hv : e.A = v ∨ e.B = v) (hl : T.lone v e = false) : 0 ≤ alongS fs v (otE e v) ∧ 0 ≤ alongS fs (otE e v) v := by
  rw [(build_ok h).1] at he
  obtain ⟨a, b, c, hF, hG, hp⟩ := mem_eOut.1 he
  have hm : ¬ min e.F e.G < 0 := fun g => by
    have : T.lone v e = true := by unfold T.lone; rw [decide_eq_true_eq]; exact ⟨hv, g⟩
    rw [this] at hl; cases hl
  unfold otE
  rcases hv with hv | hv
  · have e1 : e.A + e.B - v = e.B := by omega
    rw [e1, ← hv, ← hF, ← hG]; omega
  · have e1 : e.A + e.B - v = e.A := by omega
    rw [e1, ← hv, ← hF, ← hG]; omega
theorem ed_of (h : okS n fs) {y : Int} (h0 : 0 ≤ v) (h1 : v < n) (y0 : 0 ≤ y) (y1 : y < n) (hne : y ≠ v) (ha : 0 ≤ alongS fs v y ∨ 0 ≤ alongS fs y v) : ∃ e ∈ (buildT n fs).ed, (e.A = v ∨ e.B = v) ∧ otE e v = y := by
  rw [(build_ok h).1]
  rcases Int.lt_or_gt_of_ne hne with g | g
  · exact ⟨⟨y, v, alongS fs y v, alongS fs v y⟩, mem_eOut.2 ⟨y0, g, h1, rfl, rfl, ha.symm⟩, .inr rfl, by unfold otE; simp only; omega⟩
  · exact ⟨⟨v, y, alongS fs v y, alongS fs y v⟩, mem_eOut.2 ⟨h0, g, y1, rfl, rfl, ha⟩, .inl rfl, by unfold otE; simp only; omega⟩
theorem ed_eq (h : okS n fs) {e g : Ed} (he : e ∈ (buildT n fs).ed) (hg : g ∈ (buildT n fs).ed) (h1 : e.A = v ∨ e.B = v) (h2 : g.A = v ∨ g.B = v) (ho : otE e v = otE g v) : e = g := by
  rw [(build_ok h).1] at he hg
  obtain ⟨a1, b1, c1, F1, G1, _⟩ := mem_eOut.1 he
  obtain ⟨a2, b2, c2, F2, G2, _⟩ := mem_eOut.1 hg
  unfold otE at ho
  have eA : e.A = g.A := by omega
  have eB : e.B = g.B := by omega
  obtain ⟨x1, x2, x3, x4⟩ := e
  obtain ⟨y1, y2, y3, y4⟩ := g
  simp only at *
  subst eA eB
  rw [F1, G1, F2, G2]
theorem adj_fan (h : okS n fs) (h0 : 0 ≤ v) (h1 : v < n) (hl : ∀ e ∈ (buildT n fs).ed, T.lone v e = false) : (adjU (buildT n fs).ed (buildT n fs).ed.length v).length = (fanL fs v).length ∧ 2 ≤ (fanL fs v).length := by
  have hg := h.2.1
  have hne : ∀ e ∈ (buildT n fs).ed, e.A ≠ e.B := fun e he => by
    rw [(build_ok h).1] at he; have := mem_eOut.1 he; omega
  have hpw : (buildT n fs).ed.Pairwise ltE := by rw [(build_ok h).1]; exact eOut_sorted fs n
  have hinj : ∀ i j : Int, 0 ≤ i → i < (buildT n fs).ed.length → 0 ≤ j → j < (buildT n fs).ed.length → at_ (buildT n fs).ed i = at_ (buildT n fs).ed j → i = j := by
    have key : ∀ i j : Int, 0 ≤ i → i < j → j < (buildT n fs).ed.length → at_ (buildT n fs).ed i ≠ at_ (buildT n fs).ed j := fun i j i0 ij j1 e => by
      have hi : i.toNat < (buildT n fs).ed.length := by omega
      have hj : j.toNat < (buildT n fs).ed.length := by omega
      have := List.pairwise_iff_getElem.1 hpw i.toNat j.toNat hi hj (by omega)
      have e1 : at_ (buildT n fs).ed i = (buildT n fs).ed[i.toNat] := by simp [at_, hi]
      have e2 : at_ (buildT n fs).ed j = (buildT n fs).ed[j.toNat] := by simp [at_, hj]
      rw [e1, e2] at e; rw [e] at this
      unfold ltE at this; omega
    intro i j i0 i1 j0 j1 e
    rcases Int.lt_trichotomy i j with g | g | g
    · exact absurd e (key i j i0 g j1)
    · exact g
    · exact absurd e.symm (key j i j0 g i1)
  have hes : ∀ e ∈ adjU (buildT n fs).ed (buildT n fs).ed.length v, (0 ≤ alongS fs v (otE (at_ (buildT n fs).ed e) v) ∧ 0 ≤ alongS fs (otE (at_ (buildT n fs).ed e) v) v) := fun e he => by
    obtain ⟨⟨e0, e1⟩, hv⟩ := mem_adj.1 he
    have hm := at_mem e0 e1
    exact ed_at h hm hv (hl _ hm)
  have hnd : ((adjU (buildT n fs).ed (buildT n fs).ed.length v).map fun e => alongS fs v (otE (at_ (buildT n fs).ed e) v)).Nodup := by
    rw [List.nodup_iff_pairwise_ne, List.pairwise_map]
    refine (List.nodup_iff_pairwise_ne.1 (adj_nodup hne (Int.le_refl _) v)).imp_of_mem ?_
    intro a b ha hb hab e
    obtain ⟨⟨a0, a1⟩, hva⟩ := mem_adj.1 ha
    obtain ⟨⟨b0, b1⟩, hvb⟩ := mem_adj.1 hb
    have g1 := (of_side hg (hes a ha).1).2.2
    have g2 := (of_side hg (hes b hb).1).2.2
    rw [e, g2] at g1
    exact hab (hinj a b a0 a1 b0 b1 (ed_eq h (at_mem a0 a1) (at_mem b0 b1) hva hvb g1.symm))
  have hidx : ∀ y : Int, 0 ≤ y → y < n → y ≠ v → (0 ≤ alongS fs v y ∨ 0 ≤ alongS fs y v) → ∃ e ∈ adjU (buildT n fs).ed (buildT n fs).ed.length v, otE (at_ (buildT n fs).ed e) v = y := fun y y0 y1 yv ha => by
    obtain ⟨e, he, hv, ho⟩ := ed_of h h0 h1 y0 y1 yv ha
    obtain ⟨i, i0, i1, rfl⟩ := mem_at he
    exact ⟨i, mem_adj.2 ⟨⟨i0, i1⟩, hv⟩, ho⟩
  have hnv : ∀ f : Int, 0 ≤ f → f < fs.length → v ∈ at_ fs f → nextS (at_ fs f) v 1 ≠ v ∧ nextS (at_ fs f) v (-1) ≠ v ∧ nextS (at_ fs f) v 1 ≠ nextS (at_ fs f) v (-1) := fun f f0 f1 fv => by
    have ha := good_apart hg f0 f1
    have h3 := (hg f f0 f1).1
    obtain ⟨w1, w2⟩ := way_next ha fv
    obtain ⟨i, i0, i1, e1, e2⟩ := mem_wayF.1 w1
    obtain ⟨j, j0, j1, e3, e4⟩ := mem_wayF.1 w2
    have hm1 := mod_in (x := i + 1) (y := ((at_ fs f).length : Int)) (by omega)
    have hm2 := mod_in (x := j + 1) (y := ((at_ fs f).length : Int)) (by omega)
    have inj : ∀ p q : Int, 0 ≤ p → p < (at_ fs f).length → 0 ≤ q → q < (at_ fs f).length → at_ (at_ fs f) p = at_ (at_ fs f) q → p = q := fun p q p0 p1 q0 q1 e => by
      rcases Int.lt_trichotomy p q with g | g | g
      · exact absurd e.symm (ha q p p0 g q1)
      · exact g
      · exact absurd e (ha p q q0 g p1)
    have hij := inj i _ i0 i1 hm2.1 hm2.2 (e1.symm.trans e4)
    have c1 : (i + 1) % ((at_ fs f).length : Int) = if i + 1 = (at_ fs f).length then 0 else i + 1 := by
      split
      · rename_i g; rw [g]; exact Int.emod_self
      · exact Int.emod_eq_of_lt (by omega) (by omega)
    have c2 : (j + 1) % ((at_ fs f).length : Int) = if j + 1 = (at_ fs f).length then 0 else j + 1 := by
      split
      · rename_i g; rw [g]; exact Int.emod_self
      · exact Int.emod_eq_of_lt (by omega) (by omega)
    refine ⟨fun e => ?_, fun e => ?_, fun e => ?_⟩
    · have := inj _ i hm1.1 hm1.2 i0 i1 (e2.symm.trans (e.trans e1)); rw [c1] at this; split at this <;> omega
    · have := inj j i j0 j1 i0 i1 (e3.symm.trans (e.trans e1)); rw [c2] at hij; split at hij <;> omega
    · have := inj _ j hm1.1 hm1.2 j0 j1 (e2.symm.trans (e.trans e3)); rw [c1] at this; rw [c2] at hij; split at this <;> split at hij <;> omega
  have hmem : ∀ f : Int, f ∈ ((adjU (buildT n fs).ed (buildT n fs).ed.length v).map fun e => alongS fs v (otE (at_ (buildT n fs).ed e) v)) ↔ f ∈ mineU fs v fs.length := fun f => by
    constructor
    · intro hf
      obtain ⟨e, he, rfl⟩ := List.mem_map.1 hf
      have g := of_side hg (hes e he).1
      exact mem_mineU.2 ⟨(hes e he).1, g.1, g.2.1⟩
    · intro hf
      obtain ⟨f0, f1, fv⟩ := mem_mineU.1 hf
      have hs := side_next hg f0 f1 fv
      have hn := next_in hg f0 f1 fv 1
      obtain ⟨e, he, ho⟩ := hidx _ hn.1 hn.2 (hnv f f0 f1 fv).1 (.inl (by rw [hs]; exact f0))
      exact List.mem_map.2 ⟨e, he, by rw [ho, hs]⟩
  have hperm := (List.perm_ext_iff_of_nodup hnd (mine_nodup fs v fs.length)).2 hmem
  have hlen := hperm.length_eq
  rw [List.length_map, ← fan_mine h h0 h1] at hlen
  refine ⟨hlen, ?_⟩
  obtain ⟨hmn, _⟩ := fan_of h h0 h1
  obtain ⟨f, hf⟩ := List.exists_mem_of_ne_nil _ hmn
  obtain ⟨f0, f1, fv⟩ := mem_mineU.1 hf
  have q := hnv f f0 f1 fv
  have n1 := next_in hg f0 f1 fv 1
  have n2 := next_in hg f0 f1 fv (-1)
  obtain ⟨a, ha, oa⟩ := hidx _ n1.1 n1.2 q.1 (.inl (by rw [side_next hg f0 f1 fv]; exact f0))
  obtain ⟨b, hb, ob⟩ := hidx _ n2.1 n2.2 q.2.1 (.inr (by rw [side_prev hg f0 f1 fv]; exact f0))
  have := two_len ha hb (fun e => q.2.2 (by rw [← oa, ← ob, e]))
  omega
end
end Go.Proofs.U
namespace Go.Proofs.U
open Go Go.AH Go.Proofs.T
set_option maxRecDepth 4000
theorem fan_at {n : Int} {fs : List (List Int)} (h : okS n fs) {v : Int} (h0 : 0 ≤ v) (h1 : v < n) : at_ (buildT n fs).fan v = fanL fs v := by
  have e2 : ((v.toNat : Nat) : Int) = v := by omega
  have h5 : v.toNat < n.toNat := by omega
  rw [(build_ok h).1]; simp [at_, fansU, h5, e2]
theorem oth_cases {vs : List VT} {e : Ed} {v : Int} (hv : e.A = v ∨ e.B = v) : othV vs e v = at_ vs e.A ∨ othV vs e v = at_ vs e.B := by
  unfold othV
  rcases hv with h | h
  · right; congr 1; omega
  · left; congr 1; omega
end Go.Proofs.U
namespace Go.AH
variable [Globs]
set_option linter.unusedSectionVars false
open Go Go.Deep
def nH : Heap := fun _ => none
abbrev idM : Nat → Nat := fun i => i
theorem nH_owned {μ : Nat → Nat} {b : Nat} : ¬ Owned μ nH b := by
  rintro ⟨_, _, h, _⟩; cases h
theorem nH_HR {w : World} {μ : Nat → Nat} (hg : GOK w μ nH) : HR w μ nH where
  glob := hg
  rows := fun _ _ _ h => by cases h
  maps := fun _ _ h => by cases h
  born := fun _ _ _ _ h => by cases h
  iters := fun _ _ h => by cases h
  inj := fun _ _ _ _ h => by cases h
  fin := ⟨0, fun _ _ => rfl⟩
theorem Ext.since0 {W W' : World} {μ μ' : Nat → Nat} {H' : Heap} (h : Ext W μ nH W' μ' H') : World.Since W.heap.size W W' :=
  ⟨h.rest.2.1, h.rest.1, h.rest.2.2.1, h.size, fun k hk => (h.frz k ⟨hk, nH_owned⟩).1⟩
theorem cell_spot0 {W : World} {a : Addr} {v : Value} (h : W.cell? a = some v) : a = ⟨a.block, a.off, none⟩ ∧ a.block < W.heap.size := by
  unfold World.cell? at h
  split at h
  · rename_i c e fr hb
    have hlt : a.block < W.heap.size := (Array.getElem?_eq_some_iff.1 hb).1
    split at h
    · cases h
    · rename_i hs
      refine ⟨?_, hlt⟩
      cases a with
      | mk b o s => cases s with
        | none => rfl
        | some s => simp at hs
  · cases h
section
variable {w : World} {μ : Nat → Nat} {H : Heap}
theorem VRs.nil : VRs w μ H [] [] := ⟨rfl, fun j x y h => by simp at h⟩
theorem VRs.one {x : AV} {v : Value} (h : VR w μ H x v) : VRs w μ H [x] [v] := ⟨rfl, fun j a b h1 h2 => by
  match j with
  | 0 => simp at h1 h2; subst h1 h2; exact h
  | j + 1 => simp at h1⟩
theorem VRs.app {xs ys : List AV} {«as» bs : List Value} (h : VRs w μ H xs «as») (g : VRs w μ H ys bs) : VRs w μ H (xs ++ ys) («as» ++ bs) := by
  refine ⟨by simp [h.1, g.1], fun j x y hx hy => ?_⟩
  rcases Nat.lt_or_ge j xs.length with hj | hj
  · rw [List.getElem?_append_left hj] at hx
    rw [List.getElem?_append_left (by rw [← h.1]; exact hj)] at hy
    exact h.2 j x y hx hy
  · rw [List.getElem?_append_right hj] at hx
    rw [List.getElem?_append_right (by rw [← h.1]; exact hj), ← h.1] at hy
    exact g.2 _ x y hx hy
theorem VRs.glue {xs ys : List AV} {cs : List Value} {o o' a b n : Nat} (h : VRs w μ H xs ((cs.drop o).take a)) (g : VRs w μ H ys ((cs.drop o').take b)) (ho : o' = o + a) (hn : n = a + b) : VRs w μ H (xs ++ ys) ((cs.drop o).take n) := by
  subst ho hn
  have e : (cs.drop o).take (a + b) = (cs.drop o).take a ++ (cs.drop (o + a)).take b := by
    rw [List.take_add, List.drop_drop]
  rw [e]; exact h.app g
theorem VRs.whole {xs : List AV} {cs : List Value} {n : Nat} (h : VRs w μ H xs ((cs.drop 0).take n)) (hn : cs.length = n) : VRs w μ H xs cs := by
  subst hn; simpa using h
theorem VRs.part {xs : List AV} {cs : List Value} {n : Nat} (h : VRs w μ H xs cs) (hn : cs.length = n) : VRs w μ H xs ((cs.drop 0).take n) := by
  subst hn; simpa using h
theorem VRs.agg {xs : List AV} {cs : Array Value} (h : VRs w μ H xs cs.toList) : VR w μ H (.agg xs) (.agg cs) := .agg (by simpa using h.1) fun j x y hx hy => h.2 j x y hx (by simpa using hy)
theorem VRs.get1 {x : AV} {v : Value} (h : VRs w μ H [x] [v]) : VR w μ H x v := h.2 0 x v rfl rfl
end
section
variable {D : Type} {enc : TypeId × Value → D} {P : Program} {W : World}
def Opn (enc : TypeId × Value → D) (P : Program) (W : World) (t : TypeId) {α : Type} (e : α → List AV) (Q : α → DataW D → Prop) : Prop :=
  ∀ (sp : Nat → Bool) (held : Bool) (fuel : Nat) (cs : List Value) (x : DataW D × List MemPlace), DataW.trod enc P W 0 sp held fuel t cs = some x → ∃ v, VRs W idM nH (e v) cs ∧ Q v x.1
theorem Opn.int {t : TypeId} {k : IntKind} (ht : P.underlying t = some (.int k)) : Opn enc P W t (fun n : Int => [.int k n]) (fun n _ => (Lit.int k n).wf = true) := fun sp held fuel cs x h => by
  obtain ⟨n, rfl, rfl, hw⟩ := DataW.trod_int ht h
  exact ⟨n, .one (.int _ _), hw⟩
theorem Opn.str {t : TypeId} (ht : P.underlying t = some .string) : Opn enc P W t (fun s : ByteArray => [.str s]) (fun s d => d = .lit (.string s.data.toList)) := fun sp held fuel cs x h => by
  obtain ⟨s, rfl, rfl, hw⟩ := DataW.trod_string ht h
  exact ⟨s, .one (.str _), rfl⟩
theorem Opn.bool {t : TypeId} (ht : P.underlying t = some .bool) : Opn enc P W t (fun s : Bool => [.bool s]) (fun _ _ => True) := fun sp held fuel cs x h => by
  obtain ⟨s, rfl, rfl⟩ := DataW.trod_bool ht h
  exact ⟨s, .one (.bool _), trivial⟩
theorem Opn.imp {t : TypeId} {α : Type} {e : α → List AV} {Q Q' : α → DataW D → Prop} (h : Opn enc P W t e Q) (hq : ∀ v d, Q v d → Q' v d) : Opn enc P W t e Q' := fun sp held fuel cs x hx => by
  obtain ⟨v, h1, h2⟩ := h sp held fuel cs x hx
  exact ⟨v, h1, hq _ _ h2⟩
theorem Opn.slice {t el : TypeId} {m : Nat} {α : Type} {e : α → List AV} {Q : α → DataW D → Prop} (ht : P.underlying t = some (.slice el)) (hm : P.cellsOf el = m) (hm0 : 0 < m) (he : Opn enc P W el e Q) :
    Opn enc P W t (fun l : List α => [.sl l.length (l.flatMap e)]) (fun l d => (l = [] ∧ d = .nil) ∨ ∃ ds sp, d = .slice ds sp ∧ l.length = ds.length ∧ ∀ x ∈ l, ∃ y ∈ ds, Q x y) := fun sp held fuel cs x h => by
  rcases Go.Deep.open_slice ht h with ⟨rfl, rfl⟩ | ⟨a, len, cap, mm, n, Dd, Pl, rfl, hb, hl, hcm, hmm, rfl, hx⟩
  · exact ⟨[], .one (.sl0 _ _), .inl ⟨rfl, rfl⟩⟩
  · rw [hm] at hx
    have hle : len ≤ mm := by rw [hmm]; split <;> omega
    have key : ∀ k, k ≤ len → ∃ l : List α, l.length = k ∧ (l.flatMap e).length = k * m ∧ (∃ ys : Nat → Value, ∀ j x, (l.flatMap e)[j]? = some x → W.cell? (a.add j) = some (ys j) ∧ VR W idM nH x (ys j)) ∧ ∀ x ∈ l, ∃ y ∈ (List.range len).map Dd, Q x y := by
      intro k
      induction k with
      | zero => intro _; exact ⟨[], rfl, by simp, ⟨fun _ => default, fun j x h => by simp at h⟩, fun _ h => by cases h⟩
      | succ k ih =>
        intro hk
        obtain ⟨l, h1, h2, ⟨ys, h3⟩, h4⟩ := ih (by omega)
        obtain ⟨cs', h5, h6⟩ := hx k (by omega)
        obtain ⟨v, h7, h8⟩ := he _ _ _ _ _ h6
        obtain ⟨_, hlen, hcell⟩ := World.cells?_some h5
        have hvl : (e v).length = m := by rw [h7.1, hlen]
        refine ⟨l ++ [v], by simp [h1], ?_, ⟨fun j => if j < k * m then ys j else cs'.getD (j - k * m) default, fun j x hj => ?_⟩, fun x hx => ?_⟩
        · rw [List.flatMap_append, List.flatMap_singleton, List.length_append, h2, hvl, Nat.add_mul]; omega
        · rw [List.flatMap_append, List.flatMap_singleton] at hj
          by_cases hjk : j < k * m
          · rw [List.getElem?_append_left (by omega)] at hj
            simp only [hjk, if_true]
            exact h3 j x hj
          · rw [List.getElem?_append_right (by omega), h2] at hj
            simp only [hjk, if_false]
            have hjl : j - k * m < cs'.length := by
              rcases Nat.lt_or_ge (j - k * m) (e v).length with g | g
              · omega
              · rw [List.getElem?_eq_none g] at hj; cases hj
            have hc := hcell (j - k * m) (by omega)
            rw [Go.Deep.add_add, show k * m + (j - k * m) = j by omega] at hc
            have hg : cs'.getD (j - k * m) default = cs'[j - k * m] := by simp [List.getD, hjl]
            refine ⟨?_, h7.2 _ _ _ hj (by rw [hg]; exact List.getElem?_eq_getElem hjl)⟩
            rw [hg, hc]; exact List.getElem?_eq_getElem hjl
        · rcases List.mem_append.1 hx with hx | hx
          · exact h4 x hx
          · simp at hx; subst hx
            exact ⟨_, List.mem_map_of_mem (List.mem_range.2 (by omega)), h8⟩
    obtain ⟨l, h1, h2, ⟨ys, h3⟩, h4⟩ := key len (Nat.le_refl _)
    refine ⟨l, .one ?_, .inr ⟨_, _, rfl, by simp [h1], h4⟩⟩
    rw [h1]
    by_cases h0 : len = 0
    · subst h0
      have : l = [] := List.eq_nil_of_length_eq_zero h1
      subst this
      exact .sl0 _ _
    · have hpos : 0 < (l.flatMap e).length := by rw [h2]; exact Nat.mul_pos (by omega) hm0
      have hc0 := (h3 0 _ (List.getElem?_eq_getElem hpos)).1
      obtain ⟨e0, hlt⟩ := cell_spot0 hc0
      have e2 : a = ⟨a.block, a.off, none⟩ := by
        have := congrArg Addr.spot e0
        cases a; simp [Addr.add] at this; subst this; rfl
      rw [e2]
      refine .sl (ys := ys) hl ⟨by simpa [Addr.add] using hlt, nH_owned⟩ (fun j x hx => ?_) (fun j x hx => (h3 j x hx).2)
      have := (h3 j x hx).1
      rw [e2] at this
      have e3 : (⟨a.block, a.off, none⟩ : Addr).add j = ⟨a.block, a.off + j, none⟩ := by
        by_cases hj : j = 0 <;> simp [Addr.add, hj]
      rw [e3] at this
      exact this
end
end Go.AH
namespace Go.Proofs.U
open Go Go.AH Go.Proofs.T Go.ChangeShapes Go.WideShapes Go.ChangeAt Go.RowKit Go.Deep Go.Proofs.Ytfeafldgohceaaa
set_option maxRecDepth 8000
set_option linter.unusedSimpArgs false
set_option linter.unusedVariables false
theorem bulk_one {H : Type} (d : DataW H) : 1 ≤ Rows.uptoBulk d := by
  cases d with
  | lit l => cases l <;> simp [Rows.uptoBulk]
  | _ => simp [Rows.uptoBulk]
theorem bulk_len {H : Type} (l : List (DataW H)) : l.length ≤ Rows.uptoBulkAll l := by
  induction l with
  | nil => simp [Rows.uptoBulkAll]
  | cons x r ih => have := bulk_one x; simp only [Rows.uptoBulkAll, List.length_cons]; omega
theorem bulk_part {H : Type} {d : DataW H} {l : List (DataW H)} (h : d ∈ l) : Rows.uptoBulk d ≤ Rows.uptoBulkAll l := by
  induction l with
  | nil => cases h
  | cons x r ih =>
    simp only [Rows.uptoBulkAll]
    rcases List.mem_cons.1 h with e | e
    · subst e; omega
    · have := ih e; omega
section
variable {H : Type} {enc : TypeId × Value → H} {W : World}
theorem c3 : Try.prog.cellsOf 3 = 1 := by kernel_rfl
theorem c23 : Try.prog.cellsOf 23 = 1 := by kernel_rfl
theorem c24 : Try.prog.cellsOf 24 = 1 := by kernel_rfl
theorem c38 : Try.prog.cellsOf 38 = 1 := by kernel_rfl
theorem c42 : Try.prog.cellsOf 42 = 3 := by kernel_rfl
abbrev ranV (v : VT) : Prop := inR v.X ∧ inR v.Y ∧ inR v.Z
abbrev ranC (v : CrT) : Prop := inR v.A ∧ inR v.B ∧ inR v.S
theorem opI : Opn enc Try.prog W 3 (fun n : Int => [.int .i64 n]) (fun n _ => inR n) := (Opn.int u_3).imp fun n _ h => bounds_i64 h
theorem opV : Opn enc Try.prog W 42 eV (fun v _ => ranV v) := fun sp held fuel cs x h => by
  obtain ⟨xs, n, _, rfl, hl, hxl, hf⟩ := DataW.trod_struct Try.underlying42 h
  match xs, hxl with
  | [y0, y1, y2], _ =>
    obtain ⟨a, a1, a2⟩ := opI (enc := enc) (W := W) _ _ _ _ _ (hf 0 _ rfl)
    obtain ⟨b, b1, b2⟩ := opI (enc := enc) (W := W) _ _ _ _ _ (hf 1 _ rfl)
    obtain ⟨c, e1, e2⟩ := opI (enc := enc) (W := W) _ _ _ _ _ (hf 2 _ rfl)
    simp only [c3] at a1 b1 e1
    exact ⟨⟨a, b, c⟩, (a1.glue (b1.glue e1 rfl rfl) rfl (n := 3) rfl).whole (by rw [hl, c42]), a2, b2, e2⟩
theorem opSl {t el : TypeId} {m : Nat} {α : Type} {e : α → List AV} {Q : α → DataW H → Prop} (ht : Try.prog.underlying t = some (.slice el)) (hm : Try.prog.cellsOf el = m) (hm0 : 0 < m) (he : Opn enc Try.prog W el e Q) :
    Opn enc Try.prog W t (fun l : List α => [.sl l.length (l.flatMap e)]) (fun l d => l.length ≤ Rows.uptoBulk d ∧ ∀ x ∈ l, ∃ y, Rows.uptoBulk y ≤ Rows.uptoBulk d ∧ Q x y) := fun sp held fuel cs x h => by
  obtain ⟨l, h1, h2⟩ := Opn.slice ht hm hm0 he sp held fuel cs x h
  refine ⟨l, h1, ?_⟩
  rcases h2 with ⟨rfl, _⟩ | ⟨ds, s, hd, hlen, hall⟩
  · exact ⟨Nat.zero_le _, fun _ h => by cases h⟩
  · rw [hd]
    have := bulk_len ds
    refine ⟨by simp only [Rows.uptoBulk]; omega, fun t ht => ?_⟩
    obtain ⟨y, hy, hb⟩ := hall t ht
    have := bulk_part hy
    exact ⟨y, by simp only [Rows.uptoBulk]; omega, hb⟩
theorem opVs : Opn enc Try.prog W 22 (fun l : List VT => [.sl l.length (l.flatMap eV)]) (fun l d => l.length ≤ Rows.uptoBulk d ∧ ∀ v ∈ l, ranV v) := (opSl u_22 c42 (by omega) opV).imp fun l d h => ⟨h.1, fun v hv => let ⟨_, _, g⟩ := h.2 v hv; g⟩
structure CageQ (c : CageT) (m : Nat) : Prop where
  v : c.Verts.length ≤ m
  f : c.Faces.length ≤ m
  fs : ∀ f ∈ c.Faces, f.length ≤ m
  cl : c.Creases.length ≤ m
  rv : ∀ v ∈ c.Verts, ranV v
  rc : ∀ v ∈ c.Creases, ranC v
theorem arg_sl {r : Reach} {b0 : Nat} {t el : TypeId} {v : Value} {d : DataW H} {p : List MemPlace} {α : Type} {e : α → AV} {Q : α → DataW H → Prop} (ht : Try.prog.underlying t = some (.slice el)) (ho : Opn enc Try.prog W t (fun a => [e a]) Q) (hv : Value.okWide Try.prog W r b0 t v) {sp : Nat → Bool} {held : Bool} (hd : DataW.Trod enc Try.prog W 0 sp held t v d p) :
    ∃ a, VR W idM nH (e a) v ∧ Q a d := by
  obtain ⟨ad, len, cap, rfl⟩ := okWide_slice ht hv
  obtain ⟨fuel, hf⟩ := hd
  obtain ⟨a, h1, h2⟩ := ho _ _ _ _ _ hf
  exact ⟨a, VRs.get1 h1, h2⟩
theorem own : ownKnob Try.prog.godebug = none := by kernel_rfl
theorem stays {W W' : World} (hs : World.Since W.heap.size W W') {x : MemPlace} (h : x.block < W.heap.size) : W.sameAt W' x := by
  cases x with
  | cell b o => exact hs.cell (a := ⟨b, o, none⟩) h
  | map b => exact hs.block b h
theorem globs_none {W : World} : GOK W idM nH := ⟨(fun g cells h => by cases h), (fun g cs h => by cases h)⟩
end
end Go.Proofs.U
namespace Go.Proofs.T
open Go Go.AH
set_option maxRecDepth 4000
structure WgT where
  k : Int
  V : VT
  deriving DecidableEq, Inhabited
def eWg (x : WgT) : List AV := [.int .i64 x.k, .int .i64 x.V.X, .int .i64 x.V.Y, .int .i64 x.V.Z]
theorem eWg_len (x : WgT) : (eWg x).length = 4 := rfl
structure PatchT where
  P : (List VT)
  Corners : (List Int)
  Normals : (List VT)
  Skin : Int
  deriving DecidableEq, Inhabited
def PatchT.aP (x : PatchT) : (List VT) := arrL 16 x.P
theorem PatchT.lP (x : PatchT) : x.aP.length = 16 := arrL_len _ _
def PatchT.aCorners (x : PatchT) : (List Int) := arrL 4 x.Corners
theorem PatchT.lCorners (x : PatchT) : x.aCorners.length = 4 := arrL_len _ _
def PatchT.aNormals (x : PatchT) : (List VT) := arrL 4 x.Normals
theorem PatchT.lNormals (x : PatchT) : x.aNormals.length = 4 := arrL_len _ _
def ePatch (x : PatchT) : List AV := x.aP.flatMap eV ++ (x.aCorners.map eI ++ (x.aNormals.flatMap eV ++ [.int .i64 x.Skin]))
theorem ePatch_len (x : PatchT) : (ePatch x).length = 65 := (by unfold ePatch; exact (len_app (m := 48) (n := 17) (k := 65) (lenM eV_len x.lP rfl) (len_app (m := 4) (n := 13) (k := 17) (len1 x.lCorners) (len_app (m := 12) (n := 1) (k := 13) (lenM eV_len x.lNormals rfl) rfl rfl) rfl) rfl))
end Go.Proofs.T
namespace Go.Proofs.U
open Go Go.AH Go.Proofs.T
set_option maxRecDepth 4000
def nearZ (x n d : Int) : Prop := x * d - n ≤ d ∧ n - x * d ≤ d
instance (x n d : Int) : Decidable (nearZ x n d) := by unfold nearZ; infer_instance
def nearT (x n : VT) (d : Int) : Prop := nearZ x.X n.X d ∧ nearZ x.Y n.Y d ∧ nearZ x.Z n.Z d
instance (x n : VT) (d : Int) : Decidable (nearT x n d) := by unfold nearT; infer_instance
theorem round_err {x d : Int} (hd : 1 ≤ d) : -d ≤ 2 * (x - roundZ x d * d) ∧ 2 * (x - roundZ x d * d) ≤ d := by
  unfold roundZ
  have hp : 0 < 2 * d := by omega
  have e1 := Int.ediv_mul_le (2 * x + d) (by omega : 2 * d ≠ 0)
  have e2 := Int.lt_ediv_add_one_mul_self (2 * x + d) hp
  generalize (2 * x + d) / (2 * d) = q at *
  have c1 : q * (2 * d) = 2 * (q * d) := Int.mul_left_comm _ _ _
  have c2 : (q + 1) * (2 * d) = 2 * (q * d) + 2 * d := by rw [Int.add_mul, c1, Int.one_mul]
  omega
def errV (k c : Int) (s p : VT) : Prop := inV c (subV s (scaleV p k))
theorem errV_0 {k : Int} : errV k 0 zV zV := by unfold errV inV subV scaleV zV; simp
theorem errV_add {k c e : Int} {s t p q : VT} (h : errV k c s p) (g : errV k e t q) : errV k (c + e) (addV s t) (addV p q) := by
  unfold errV inV subV scaleV addV at *; simp only [Int.add_mul] at *; omega
theorem errV_sum {k c : Int} {F G : Int → VT} : ∀ {l : List Int}, (∀ x ∈ l, errV k c (F x) (G x)) → errV k (c * l.length) (sumL (l.map F)) (sumL (l.map G))
  | [], _ => by simp only [List.map_nil, sumL_nil, List.length_nil]; rw [show c * ((0 : Nat) : Int) = 0 from by simp]; exact errV_0
  | x :: l, h => by
    simp only [List.map_cons, sumL_cons]
    have := errV_add (h x List.mem_cons_self) (errV_sum fun y hy => h y (List.mem_cons_of_mem _ hy))
    rw [List.length_cons]
    have e : c + c * (l.length : Int) = c * ((l.length + 1 : Nat) : Int) := by push_cast; rw [Int.mul_add]; omega
    rwa [e] at this
theorem near_c {x d : Int} (hd : 1 ≤ d) : nearZ (roundZ x d) x d := by
  have := round_err (x := x) hd
  unfold nearZ; omega
theorem near_of {s : VT} {d : Int} (hd : 1 ≤ d) : nearT (ofV s d) s d := ⟨near_c hd, near_c hd, near_c hd⟩
def meanS (vs : List VT) (f : List Int) : VT := scaleV (sumL (f.map fun k => at_ vs k)) (Int.tdiv 840 f.length)
theorem mean_c {x n : Int} (h1 : 1 ≤ n) (h8 : n ≤ 8) : -420 ≤ x * Int.tdiv 840 n - roundZ x n * 840 ∧ x * Int.tdiv 840 n - roundZ x n * 840 ≤ 420 := by
  have h := round_err (x := x) h1
  generalize roundZ x n = r at *
  have : n = 1 ∨ n = 2 ∨ n = 3 ∨ n = 4 ∨ n = 5 ∨ n = 6 ∨ n = 7 ∨ n = 8 := by omega
  rcases this with rfl | rfl | rfl | rfl | rfl | rfl | rfl | rfl
  · rw [show Int.tdiv 840 1 = 840 from rfl]; omega
  · rw [show Int.tdiv 840 2 = 420 from rfl]; omega
  · rw [show Int.tdiv 840 3 = 280 from rfl]; omega
  · rw [show Int.tdiv 840 4 = 210 from rfl]; omega
  · rw [show Int.tdiv 840 5 = 168 from rfl]; omega
  · rw [show Int.tdiv 840 6 = 140 from rfl]; omega
  · rw [show Int.tdiv 840 7 = 120 from rfl]; omega
  · rw [show Int.tdiv 840 8 = 105 from rfl]; omega
theorem mean_err {vs : List VT} {f : List Int} (h1 : 1 ≤ f.length) (h8 : f.length ≤ 8) : errV 840 420 (meanS vs f) (faceP vs f) := by
  unfold errV inV meanS faceP subV scaleV ofV
  exact ⟨mean_c (by omega) (by omega), mean_c (by omega) (by omega), mean_c (by omega) (by omega)⟩
theorem tdiv840 {n : Int} (h1 : 1 ≤ n) : 0 ≤ Int.tdiv 840 n ∧ Int.tdiv 840 n ≤ 840 := by
  have h := tdiv_rng (n := 840) (d := n) (B := 840) (by omega) h1
  have := Int.tdiv_nonneg (by decide : (0 : Int) ≤ 840) (by omega : 0 ≤ n)
  omega
theorem meanS_in {vs : List VT} {f : List Int} {C : Int} (hv : ∀ v ∈ vs, inV C v) (hf : ∀ k ∈ f, 0 ≤ k ∧ k < (vs.length : Int)) (h1 : 1 ≤ f.length) : inV (C * f.length * 840) (meanS vs f) := by
  have := tdiv840 (n := f.length) (by omega)
  exact inV_scale (sum_in hv hf) (by omega)
def vertA (vs : List VT) (ed : List Ed) (n v k : Int) : VT := addV (scaleV (at_ vs v) (840 * n * (n - 2))) (scaleV (othL vs ed v (adjU ed k v)) 840)
theorem vert_c {n o v S P : Int} (hn : 1 ≤ n) (hS : -(420 * n) ≤ S - P * 840 ∧ S - P * 840 ≤ 420 * n) : nearZ (roundZ (o + v * (n * (n - 2)) + P) (n * n)) (v * (840 * n * (n - 2)) + o * 840 + S) (840 * n * n) := by
  have hp : 0 < n * n := Int.mul_pos (by omega) (by omega)
  have h := round_err (x := o + v * (n * (n - 2)) + P) (d := n * n) (by omega)
  have hl : n * 1 ≤ n * n := Int.mul_le_mul_of_nonneg_left hn (by omega)
  have e1 : v * (840 * n * (n - 2)) = v * (n * (n - 2)) * 840 := by rw [Int.mul_assoc 840, Int.mul_left_comm, Int.mul_comm 840]
  have e2 : 840 * n * n = n * n * 840 := by rw [Int.mul_assoc, Int.mul_comm]
  unfold nearZ
  rw [e1, e2]
  generalize roundZ (o + v * (n * (n - 2)) + P) (n * n) = r at *
  generalize v * (n * (n - 2)) = w at *
  have e3 : r * (n * n * 840) = r * (n * n) * 840 := (Int.mul_assoc _ _ _).symm
  rw [e3]
  generalize r * (n * n) = z at *
  generalize n * n = N at *
  omega
theorem vert_near {vs fc sums : List VT} {ed : List Ed} {sh fan : List Int} {v k : Int} (hn : 1 ≤ fan.length) (hh : (hardF sh (adjU ed k v)).length < 2) (hS : ∀ f ∈ fan, errV 840 420 (at_ sums f) (at_ fc f)) :
    nearT (vertP vs fc ed sh fan (adjU ed k v) v) (addV (vertA vs ed fan.length v k) (sumL (fan.map fun f => at_ sums f))) (840 * fan.length * fan.length) := by
  unfold vertP vertA
  rw [if_neg (by omega), if_neg (by omega)]
  have := errV_sum (F := fun f => at_ sums f) (G := fun f => at_ fc f) hS
  exact ⟨vert_c (by omega) this.1, vert_c (by omega) this.2.1, vert_c (by omega) this.2.2⟩
section
variable {vs : List VT} {ed : List Ed} {sh : List Int} {n v i : Int}
end
theorem at_appL {α : Type} [Inhabited α] {a b : List α} {i : Int} (h0 : 0 ≤ i) (h1 : i < a.length) : at_ (a ++ b) i = at_ a i := by
  have h : i.toNat < a.length := by omega
  unfold at_; rw [List.getD_eq_getElem?_getD, List.getD_eq_getElem?_getD, List.getElem?_append_left h]
theorem at_appR {α : Type} [Inhabited α] {a b : List α} {i k : Int} (h0 : 0 ≤ i) (hk : k = (a.length : Int) + i) : at_ (a ++ b) k = at_ b i := by
  have h : a.length ≤ k.toNat := by omega
  have e : k.toNat - a.length = i.toNat := by omega
  unfold at_; rw [List.getD_eq_getElem?_getD, List.getD_eq_getElem?_getD, List.getElem?_append_right h, e]
theorem boxes_in {m : Int} {p : VT} : hasB ⟨⟨-m, -m, -m⟩, ⟨m, m, m⟩⟩ p ↔ inV m p := Iff.rfl
section
variable {vs : List VT} {fs : List (List Int)} {cr : List CrT}
theorem lev_V (h : (levelR vs fs cr).2 = 0) {v : Int} (h0 : 0 ≤ v) (h1 : v < vs.length) : at_ (levelR vs fs cr).1.Verts v = vertP vs (fcR vs fs fs.length) (buildT vs.length fs).ed (sharpR (buildT vs.length fs) cr).1 (at_ (buildT vs.length fs).fan v) (adjU (buildT vs.length fs).ed (buildT vs.length fs).ed.length v) v := by
  rw [(level_ok h).2.2.2]; simp only
  rw [List.append_assoc, at_appL h0 (by unfold v1R; rw [U_len]; omega)]
  unfold v1R; rw [U_at h0 h1, egR_at h0 (by omega)]
theorem lev_E (h : (levelR vs fs cr).2 = 0) {k e : Int} (h0 : 0 ≤ e) (h1 : e < (buildT vs.length fs).ed.length) (hk : k = (vs.length : Int) + e) : at_ (levelR vs fs cr).1.Verts k = edgeP vs (fcR vs fs fs.length) (at_ (buildT vs.length fs).ed e) (at_ (sharpR (buildT vs.length fs) cr).1 e) := by
  rw [(level_ok h).2.2.2]; simp only
  rw [List.append_assoc, at_appR (i := e) h0 (by unfold v1R; rw [U_len]; omega), at_appL h0 (by unfold v2R; rw [U_len]; omega)]
  unfold v2R; rw [U_at h0 h1]
theorem lev_F (h : (levelR vs fs cr).2 = 0) {k f : Int} (h0 : 0 ≤ f) (h1 : f < fs.length) (hk : k = (vs.length : Int) + (buildT vs.length fs).ed.length + f) : at_ (levelR vs fs cr).1.Verts k = faceP vs (at_ fs f) := by
  rw [(level_ok h).2.2.2]; simp only
  rw [at_appR (i := f) h0 (by rw [List.length_append]; unfold v1R v2R; rw [U_len, U_len]; omega)]
  unfold fcR; rw [U_at h0 h1]
structure MidC (vs : List VT) (fs : List (List Int)) (cr : List CrT) : Prop where
  v : vs.length ≤ 1000
  f : fs.length ≤ 1000
  s : (sides fs).length ≤ 50000
  fs : ∀ l ∈ fs, l.length ≤ 100000
  c : ∀ c ∈ cr, c.S ≤ 9223372036854775807
  cl : cr.length ≤ 1048576
theorem SmallC.mid {vs : List VT} {fs : List (List Int)} {cr : List CrT} (sm : SmallC vs fs cr) (hcS : ∀ c ∈ cr, c.S ≤ 9223372036854775807) : MidC vs fs cr :=
  ⟨by have := sm.v; omega, by have := sm.f; omega, by have := sm.s; omega, fun l hl => Nat.le_trans (sm.fs l hl) (by decide), hcS, by have := sm.c; omega⟩
theorem inside_box {b : BoxT} (hb : ∀ p ∈ vs, hasB b p) (sm : MidC vs fs cr) (h : (levelR vs fs cr).2 = 0) : ∀ p ∈ (levelR vs fs cr).1.Verts, hasB b p := by
  obtain ⟨hok, hsh, hfar, he⟩ := level_ok h
  have hv1 := sm.v
  have hf1 := sm.f
  have hs1 := sm.s
  have tf := topo_facts hok (by omega) (by omega) (by omega)
  have sf := sharp_facts sm.c hsh
  have hbi : ∀ k : Int, 0 ≤ k → k < vs.length → hasB b (at_ vs k) := fun k k0 k1 => hb _ (at_mem k0 k1)
  have hfr := ok_rng hok
  have hfl := ok_faces hok sm.fs
  have hfc : ∀ f : Int, 0 ≤ f → f < fs.length → hasB b (at_ (fcR vs fs fs.length) f) := fun f f0 f1 => by
    unfold fcR; rw [U_at f0 f1]
    have hm := at_mem (l := fs) f0 f1
    exact face_has hb (hfr _ hm) (hfl _ hm).1
  intro p hp
  rw [he] at hp
  simp only [List.mem_append] at hp
  rcases hp with (hp | hp) | hp
  · obtain ⟨v, h0, h1, rfl⟩ := mem_U hp
    rw [egR_at h0 (by omega)]
    refine vert_has (hbi v h0 h1) (fun e hem => ?_) (fun f hf => ?_) fun hh => ?_
    · obtain ⟨⟨e0, e1⟩, hv⟩ := mem_adj.1 hem
      have hab := tf.ab _ (at_mem e0 e1)
      rcases oth_cases (vs := vs) hv with g | g
      · rw [g]; exact hbi _ hab.1.1 hab.1.2
      · rw [g]; exact hbi _ hab.2.1 hab.2.2
    · have := (tf.fan v h0 h1).2 f hf
      exact hfc f this.1 this.2
    · have := adj_fan hok h0 h1 (no_lone hok sf h0 h1 hh)
      rw [fan_at hok h0 h1]; exact this
  · obtain ⟨i, h0, h1, rfl⟩ := mem_U hp
    have hab := tf.ab _ (at_mem h0 h1)
    refine edge_has (hbi _ hab.1.1 hab.1.2) (hbi _ hab.2.1 hab.2.2) fun hz => ?_
    have hne : edgedS (buildT vs.length fs) i = false := by
      cases hx : edgedS (buildT vs.length fs) i
      · rfl
      · have := sf.edged i h0 h1 hx; omega
    have g := tf.fg i h0 h1 hne
    exact ⟨hfc _ g.1.1 g.1.2, hfc _ g.2.1 g.2.2⟩
  · obtain ⟨f, h0, h1, rfl⟩ := mem_U hp
    have hm := at_mem (l := fs) h0 h1
    exact face_has hb (hfr _ hm) (hfl _ hm).1
theorem lev_inM {m : Int} (hb : ∀ p ∈ vs, inV m p) (sm : MidC vs fs cr) (h : (levelR vs fs cr).2 = 0) : ∀ p ∈ (levelR vs fs cr).1.Verts, inV m p :=
  fun p hp => boxes_in.1 (inside_box (fun q hq => boxes_in.2 (hb q hq)) sm h p hp)
end
abbrev sumsU (vs : List VT) (fs : List (List Int)) (k : Int) : List VT := U_ (fun f => meanS vs (at_ fs f)) k
abbrev NB : Int := 440401920
structure NearF (vs : List VT) (fs : List (List Int)) (cr : List CrT) : Prop where
  h : (levelR vs fs cr).2 = 0
  ok : okS vs.length fs
  tf : TopoF vs.length fs.length (buildT vs.length fs)
  sf : ShF (buildT vs.length fs) (sharpR (buildT vs.length fs) cr).1
  v : ∀ v ∈ vs, inV 65536 v
  r : ∀ l ∈ fs, ∀ k ∈ l, 0 ≤ k ∧ k < (vs.length : Int)
  l : ∀ f : Int, 0 ≤ f → f < fs.length → 1 ≤ (at_ fs f).length ∧ (at_ fs f).length ≤ 8
  p : ∀ p ∈ (levelR vs fs cr).1.Verts, inV 65536 p
  ne : ∀ e ∈ (buildT vs.length fs).ed, e.A ≠ e.B
section
variable {vs : List VT} {fs : List (List Int)} {cr : List CrT}
variable (N : NearF vs fs cr)
include N
theorem NearF.face {k f i : Int} (h0 : 0 ≤ f) (h1 : f < fs.length) (hi : ((at_ fs f).length : Int) ≤ i) (hk : k = (vs.length : Int) + (buildT vs.length fs).ed.length + f) : nearT (at_ (levelR vs fs cr).1.Verts k) (sumL (((at_ fs f).take i.toNat).map fun k => at_ vs k)) (at_ fs f).length := by
  rw [lev_F N.h h0 h1 hk, take_all hi]
  have := N.l f h0 h1
  exact near_of (by omega)
theorem NearF.err {f i : Int} (h0 : 0 ≤ f) (h1 : f < fs.length) (hi : i = fs.length) : errV 840 420 (at_ (sumsU vs fs i) f) (at_ (fcR vs fs fs.length) f) := by
  subst hi
  rw [U_at h0 h1]; unfold fcR; rw [U_at h0 h1]
  have := N.l f h0 h1
  exact mean_err this.1 this.2
theorem NearF.sum {f i : Int} (h0 : 0 ≤ f) (h1 : f < i) (hi : i ≤ fs.length) : inV NB (at_ (sumsU vs fs i) f) := by
  rw [U_at h0 h1]
  have := N.l f h0 (by omega)
  exact inV_le (meanS_in N.v (N.r _ (at_mem h0 (by omega))) this.1) (show _ ≤ (440401920 : Int) from by omega)
theorem NearF.fg {e : Int} (h0 : 0 ≤ e) (h1 : e < (buildT vs.length fs).ed.length) (hz : at_ (sharpR (buildT vs.length fs) cr).1 e = 0) : (0 ≤ (at_ (buildT vs.length fs).ed e).F ∧ (at_ (buildT vs.length fs).ed e).F < fs.length) ∧ 0 ≤ (at_ (buildT vs.length fs).ed e).G ∧ (at_ (buildT vs.length fs).ed e).G < fs.length := by
  refine N.tf.fg e h0 h1 ?_
  cases hx : edgedS (buildT vs.length fs) e
  · rfl
  · have := N.sf.edged e h0 h1 hx; omega
theorem NearF.vert {v m j i : Int} (h0 : 0 ≤ v) (h1 : v < vs.length) (hm : m = (buildT vs.length fs).ed.length) (hj : ((at_ (buildT vs.length fs).fan v).length : Int) ≤ j) (hi : i = fs.length) (hh : ((hardF (sharpR (buildT vs.length fs) cr).1 (adjU (buildT vs.length fs).ed m v)).length : Int) < 2) :
    nearT (at_ (levelR vs fs cr).1.Verts v) (addV (vertA vs (buildT vs.length fs).ed (at_ (buildT vs.length fs).fan v).length v m) (sumL (((at_ (buildT vs.length fs).fan v).take j.toNat).map fun k => at_ (sumsU vs fs i) k))) (840 * (at_ (buildT vs.length fs).fan v).length * (at_ (buildT vs.length fs).fan v).length) := by
  subst hm
  rw [lev_V N.h h0 h1, take_all hj]
  have hf := N.tf.fan v h0 h1
  exact vert_near hf.1.1 (by omega) fun f hm => N.err (hf.2 f hm).1 (hf.2 f hm).2 hi
theorem NearF.stay {v m : Int} (h0 : 0 ≤ v) (h1 : v < vs.length) (hm : m = (buildT vs.length fs).ed.length) (hh : ((hardF (sharpR (buildT vs.length fs) cr).1 (adjU (buildT vs.length fs).ed m v)).length : Int) > 2) : at_ (levelR vs fs cr).1.Verts v = at_ vs v := by
  subst hm
  rw [lev_V N.h h0 h1]; unfold vertP; rw [if_pos hh]
end
end Go.Proofs.U
namespace Go.Proofs.U
open Go Go.AH Go.Proofs.T
set_option maxRecDepth 4000
set_option linter.unusedSectionVars false
structure RelV (R : Int → Int → VT → VT → Prop) : Prop where
  zero : ∀ c, 0 ≤ c → R c 0 zV zV
  add : ∀ {c d e s s' t t'}, R c d s s' → R c e t t' → R c (d + e) (addV s t) (addV s' t')
  scale : ∀ {c k p p'}, 0 ≤ k → R c 1 p p' → R c k (scaleV p k) (scaleV p' k)
  mono : ∀ {c e w p p'}, 0 ≤ w → c ≤ e → R c w p p' → R e w p p'
  round : ∀ {c d s s'}, 1 ≤ d → R c d s s' → R (c + 17) 1 (ofV s d) (ofV s' d)
section
variable {R : Int → Int → VT → VT → Prop} (r : RelV R)
include r
theorem RelV.re {c d e : Int} {s s' : VT} (h : R c d s s') (g : d = e) : R c e s s' := g ▸ h
theorem RelV.sum {c : Int} (hc : 0 ≤ c) {F G : Int → VT} {l : List Int} (h : ∀ x ∈ l, R c 1 (F x) (G x)) : R c l.length (sumL (l.map F)) (sumL (l.map G)) := by
  induction l with
  | nil => simp only [List.map_nil, sumL_nil, List.length_nil]; exact r.zero c hc
  | cons x l ih =>
    simp only [List.map_cons, sumL_cons]
    exact r.re (r.add (h x List.mem_cons_self) (ih fun y hy => h y (List.mem_cons_of_mem _ hy))) (by rw [List.length_cons]; push_cast; omega)
variable {c : Int} {vs vs' fc fc' : List VT}
theorem RelV.face (hc : 0 ≤ c) {f : List Int} (h : ∀ k ∈ f, R c 1 (at_ vs k) (at_ vs' k)) (hl : 1 ≤ f.length) : R (c + 17) 1 (faceP vs f) (faceP vs' f) :=
  r.round (by omega) (r.sum hc h)
theorem RelV.edge {e : Ed} {s : Int} (hA : R c 1 (at_ vs e.A) (at_ vs' e.A)) (hB : R c 1 (at_ vs e.B) (at_ vs' e.B)) (hFG : s = 0 → R c 1 (at_ fc e.F) (at_ fc' e.F) ∧ R c 1 (at_ fc e.G) (at_ fc' e.G)) : R (c + 17) 1 (edgeP vs fc e s) (edgeP vs' fc' e s) := by
  unfold edgeP
  split
  · rename_i h
    exact r.round (by decide) (r.add (r.add (r.add hA hB) (hFG h).1) (hFG h).2)
  · exact r.round (by decide) (r.add hA hB)
theorem RelV.oth (hc : 0 ≤ c) {ed : List Ed} {v : Int} {es : List Int} (h : ∀ e ∈ es, R c 1 (othV vs (at_ ed e) v) (othV vs' (at_ ed e) v)) : R c es.length (othL vs ed v es) (othL vs' ed v es) := r.sum hc h
theorem RelV.vert (hc : 0 ≤ c) {ed : List Ed} {sh fan es : List Int} {v : Int} (hv : R c 1 (at_ vs v) (at_ vs' v)) (ho : ∀ e ∈ es, R c 1 (othV vs (at_ ed e) v) (othV vs' (at_ ed e) v)) (hf : ∀ f ∈ fan, R c 1 (at_ fc f) (at_ fc' f)) (hn : (hardF sh es).length < 2 → es.length = fan.length ∧ 2 ≤ fan.length) : R (c + 17) 1 (vertP vs fc ed sh fan es v) (vertP vs' fc' ed sh fan es v) := by
  unfold vertP
  split
  · exact r.mono (by decide) (by omega) hv
  · split
    · rename_i h2
      exact r.round (by decide) (r.re (r.add (r.oth hc fun e he => ho e ((List.mem_filter.1 he).1)) (r.scale (by decide) hv)) (by rw [h2]; rfl))
    · rename_i h1 h2
      obtain ⟨e1, e2⟩ := hn (by omega)
      have hp : 0 < (fan.length : Int) * (fan.length : Int) := Int.mul_pos (by omega) (by omega)
      refine r.round (by omega) (r.re (r.add (r.add (r.oth hc ho) (r.scale (Int.mul_nonneg (by omega) (by omega)) hv)) (r.sum hc hf)) ?_)
      rw [e1, Int.mul_sub]; omega
end
section
variable {R : Int → Int → VT → VT → Prop} {vs vs' : List VT} {fs : List (List Int)} {cr : List CrT} {c : Int}
theorem lev_err (hl : vs'.length = vs.length) (hf : vs.any farV = false) (hf' : vs'.any farV = false) : (levelR vs' fs cr).2 = (levelR vs fs cr).2 := by
  unfold levelR; rw [hl, hf, hf']
  split
  · rfl
  · split
    · rfl
    · rfl
theorem lev_same (hl : vs'.length = vs.length) (h : (levelR vs fs cr).2 = 0) (h' : (levelR vs' fs cr).2 = 0) : (levelR vs' fs cr).1.Faces = (levelR vs fs cr).1.Faces ∧ (levelR vs' fs cr).1.Creases = (levelR vs fs cr).1.Creases ∧ (levelR vs' fs cr).1.Verts.length = (levelR vs fs cr).1.Verts.length := by
  refine ⟨?_, ?_, ?_⟩
  · rw [(level_ok h).2.2.2, (level_ok h').2.2.2, hl]
  · rw [(level_ok h).2.2.2, (level_ok h').2.2.2, hl]
  · rw [level_vlen h, level_vlen h', hl]
theorem lev_rel (r : RelV R) (hc : 0 ≤ c) (sm : MidC vs fs cr) (hl : vs'.length = vs.length) (hv : ∀ k : Int, 0 ≤ k → k < vs.length → R c 1 (at_ vs k) (at_ vs' k)) (h : (levelR vs fs cr).2 = 0) (h' : (levelR vs' fs cr).2 = 0) :
    ∀ i : Int, 0 ≤ i → i < (levelR vs fs cr).1.Verts.length → R (c + 34) 1 (at_ (levelR vs fs cr).1.Verts i) (at_ (levelR vs' fs cr).1.Verts i) := by
  obtain ⟨hok, hsh, hfar, he⟩ := level_ok h
  have tf := topo_facts hok (by have := sm.v; omega) sm.f sm.s
  have sf := sharp_facts sm.c hsh
  have hfr := ok_rng hok
  have hfl := ok_faces hok sm.fs
  have hfc : ∀ f : Int, 0 ≤ f → f < fs.length → R (c + 17) 1 (at_ (fcR vs fs fs.length) f) (at_ (fcR vs' fs fs.length) f) := fun f f0 f1 => by
    unfold fcR; rw [U_at f0 f1, U_at f0 f1]
    have hm := at_mem (l := fs) f0 f1
    exact r.face hc (fun k hk => hv k (hfr _ hm k hk).1 (hfr _ hm k hk).2) (hfl _ hm).1
  have hv2 : ∀ k : Int, 0 ≤ k → k < vs.length → R (c + 17) 1 (at_ vs k) (at_ vs' k) := fun k k0 k1 => r.mono (by decide) (by omega) (hv k k0 k1)
  have e34 : c + 34 = c + 17 + 17 := by omega
  intro i i0 i1
  rw [level_vlen h] at i1
  by_cases c1 : i < vs.length
  · rw [lev_V h i0 c1, lev_V h' i0 (by omega), hl, e34]
    refine r.vert (by omega) (hv2 i i0 c1) (fun e hem => ?_) (fun f hf => ?_) fun hh => ?_
    · obtain ⟨⟨e0, e1⟩, hv⟩ := mem_adj.1 hem
      have hab := tf.ab _ (at_mem e0 e1)
      unfold othV
      rcases hv with g | g
      · have e2 : (at_ (buildT vs.length fs).ed e).A + (at_ (buildT vs.length fs).ed e).B - i = (at_ (buildT vs.length fs).ed e).B := by omega
        rw [e2]; exact hv2 _ hab.2.1 hab.2.2
      · have e2 : (at_ (buildT vs.length fs).ed e).A + (at_ (buildT vs.length fs).ed e).B - i = (at_ (buildT vs.length fs).ed e).A := by omega
        rw [e2]; exact hv2 _ hab.1.1 hab.1.2
    · have := (tf.fan i i0 c1).2 f hf
      exact hfc f this.1 this.2
    · have := adj_fan hok i0 c1 (no_lone hok sf i0 c1 hh)
      rw [fan_at hok i0 c1]; exact this
  · by_cases c2 : i < vs.length + (buildT vs.length fs).ed.length
    · have q0 : 0 ≤ i - vs.length := by omega
      have q1 : i - vs.length < (buildT vs.length fs).ed.length := by omega
      rw [lev_E h q0 q1 (by omega), lev_E h' (e := i - vs.length) q0 (by rw [hl]; exact q1) (by omega), hl, e34]
      have hab := tf.ab _ (at_mem q0 q1)
      refine r.edge (hv2 _ hab.1.1 hab.1.2) (hv2 _ hab.2.1 hab.2.2) fun hz => ?_
      have hne : edgedS (buildT vs.length fs) (i - vs.length) = false := by
        cases hx : edgedS (buildT vs.length fs) (i - vs.length)
        · rfl
        · have := sf.edged _ q0 q1 hx; omega
      have g := tf.fg _ q0 q1 hne
      exact ⟨hfc _ g.1.1 g.1.2, hfc _ g.2.1 g.2.2⟩
    · have q0 : 0 ≤ i - vs.length - (buildT vs.length fs).ed.length := by omega
      have q1 : i - vs.length - (buildT vs.length fs).ed.length < fs.length := by omega
      rw [lev_F h q0 q1 (by omega), lev_F h' (f := i - vs.length - (buildT vs.length fs).ed.length) q0 q1 (by rw [hl]; omega)]
      have hm := at_mem (l := fs) q0 q1
      exact r.mono (by decide) (by omega) (r.face hc (fun k hk => hv k (hfr _ hm k hk).1 (hfr _ hm k hk).2) (hfl _ hm).1)
end
def bigR (c w : Int) (s s' : VT) : Prop := inV (c * w) (scaleV (subV (scaleV s 16) s') 2)
theorem big_c {c d x x' : Int} (hd : 1 ≤ d) (h : -(c * d) ≤ (x * 16 - x') * 2 ∧ (x * 16 - x') * 2 ≤ c * d) : -((c + 17) * 1) ≤ (roundZ x d * 16 - roundZ x' d) * 2 ∧ (roundZ x d * 16 - roundZ x' d) * 2 ≤ (c + 17) * 1 := by
  have h1 := round_err (x := x) hd
  have h2 := round_err (x := x') hd
  generalize roundZ x d = a at *
  generalize roundZ x' d = b at *
  have key : ((a * 16 - b) * 2) * d = (a * d * 16 - b * d) * 2 := by rw [Int.mul_right_comm, Int.sub_mul, Int.mul_right_comm]
  have u : ((a * 16 - b) * 2) * d ≤ (c + 17) * d := by rw [key, Int.add_mul]; omega
  have l : (-(c + 17)) * d ≤ ((a * 16 - b) * 2) * d := by rw [key, Int.neg_mul, Int.add_mul]; omega
  have u2 := Int.le_of_mul_le_mul_right u (by omega)
  have l2 := Int.le_of_mul_le_mul_right l (by omega)
  omega
theorem big_rel : RelV bigR where
  zero c _ := by unfold bigR; rw [Int.mul_zero]; unfold inV scaleV subV zV; simp
  add {c d e s s' t t'} h g := by unfold bigR inV scaleV subV addV at *; simp only at *; rw [Int.mul_add]; omega
  scale {c k p p'} hk h := by
    unfold bigR at *
    rw [Int.mul_one] at h
    have e : scaleV (subV (scaleV (scaleV p k) 16) (scaleV p' k)) 2 = scaleV (scaleV (subV (scaleV p 16) p') 2) k := by
      have q : ∀ x x' : Int, (x * k * 16 - x' * k) * 2 = (x * 16 - x') * 2 * k := fun x x' => by
        rw [Int.mul_right_comm _ 2 k, Int.sub_mul (x * 16) x' k, Int.mul_right_comm x 16 k]
      simp only [scaleV, subV, VT.mk.injEq]
      exact ⟨q _ _, q _ _, q _ _⟩
    rw [e]
    unfold inV scaleV at *; simp only at *
    obtain ⟨⟨a1, a2⟩, ⟨b1, b2⟩, d1, d2⟩ := h
    have u : ∀ {x : Int}, x ≤ c → x * k ≤ c * k := fun h => Int.mul_le_mul_of_nonneg_right h hk
    have l : ∀ {x : Int}, -c ≤ x → -(c * k) ≤ x * k := fun h => by rw [← Int.neg_mul]; exact Int.mul_le_mul_of_nonneg_right h hk
    exact ⟨⟨l a1, u a2⟩, ⟨l b1, u b2⟩, l d1, u d2⟩
  mono {c e w p p'} hw hce h := inV_le h (Int.mul_le_mul_of_nonneg_right hce hw)
  round {c d s s'} hd h := by
    unfold bigR at *
    exact ⟨big_c hd h.1, big_c hd h.2.1, big_c hd h.2.2⟩
end Go.Proofs.U
namespace Go.Proofs.U
open Go Go.AH Go.Proofs.T
set_option maxRecDepth 4000
theorem far_of {vs : List VT} (h : ∀ p ∈ vs, inV 65536 p) : vs.any farV = false := by
  rw [List.any_eq_false]; intro v hv
  have := h v hv
  simp [farV, this]
section
variable {vs : List VT} {fs : List (List Int)} {cr : List CrT}
structure FlatF (vs : List VT) (fs : List (List Int)) (cr : List CrT) (b : VT) (M F : List VT) : Prop where
  e1 : (levelR vs fs cr).2 = (levelR M fs cr).2
  e2 : (levelR vs fs cr).2 = (levelR F fs cr).2
  l1 : (levelR vs fs cr).1.Verts.length = (levelR M fs cr).1.Verts.length
  l2 : (levelR vs fs cr).1.Verts.length = (levelR F fs cr).1.Verts.length
  a1 : ∀ i : Int, 0 ≤ i → i < (levelR vs fs cr).1.Verts.length → at_ (levelR M fs cr).1.Verts i = addV (at_ (levelR vs fs cr).1.Verts i) b
  a2 : ∀ i : Int, 0 ≤ i → i < (levelR vs fs cr).1.Verts.length → (at_ (levelR F fs cr).1.Verts i).Y = b.Y
  r1 : ∀ i : Int, 0 ≤ i → i < (levelR vs fs cr).1.Verts.length → inV 65536 (at_ (levelR vs fs cr).1.Verts i)
  r2 : ∀ i : Int, 0 ≤ i → i < (levelR vs fs cr).1.Verts.length → inV 65536 (at_ (levelR M fs cr).1.Verts i)
end
end Go.Proofs.U
namespace Go.Proofs.U
open Go Go.AH Go.Proofs.T
set_option maxRecDepth 4000
theorem F_sum {α : Type} {f : Int → List α} {g : Nat → Nat} {k : Int} (h : ∀ j : Nat, (j : Int) < k → (f j).length = g j) : (F_ f k).length = ((List.range k.toNat).map g).sum := by
  unfold F_ U_
  rw [List.length_flatten, List.map_map]
  congr 1
  refine List.map_congr_left fun j hj => ?_
  rw [List.mem_range] at hj
  exact h j (by omega)
theorem range_sum (fs : List (List Int)) : ((List.range fs.length).map fun (j : Nat) => (at_ fs j).length).sum = (fs.map List.length).sum := by
  congr 1
  refine List.ext_getElem? fun j => ?_
  rw [List.getElem?_map, List.getElem?_map]
  by_cases hj : j < fs.length
  · rw [List.getElem?_range hj, List.getElem?_eq_getElem hj]
    have e : at_ fs (j : Int) = fs[j] := by simp [at_, hj]
    simp only [Option.map_some, e]
  · rw [List.getElem?_eq_none (by simp; omega), List.getElem?_eq_none (by omega)]; rfl
section
variable {vs : List VT} {fs : List (List Int)} {cr : List CrT}
theorem far_len {n : Int} {t : Tp} : (faR n t fs fs.length).length = (sides fs).length := by
  have h1 := F_sum (f := fun f => partsU n t f (at_ fs f) (at_ fs f).length) (g := fun (j : Nat) => (at_ fs j).length) (k := fs.length) fun j _ => by rw [partsU_len]; omega
  have h2 := sides_sum fs
  unfold faR; rw [h1]
  have e : ((fs.length : Nat) : Int).toNat = fs.length := by omega
  rw [e, range_sum]
  unfold T.sumL at h2; omega
theorem mem_F {α : Type} {f : Int → List α} {k : Int} {x : α} (h : x ∈ F_ f k) : ∃ j : Int, 0 ≤ j ∧ j < k ∧ x ∈ f j := by
  unfold F_ at h
  obtain ⟨l, hl, hx⟩ := List.mem_flatten.1 h
  obtain ⟨j, j0, j1, rfl⟩ := mem_U hl
  exact ⟨j, j0, j1, hx⟩
theorem far_four {n : Int} {t : Tp} {k : Int} : ∀ l ∈ faR n t fs k, l.length = 4 := fun l hl => by
  obtain ⟨j, _, _, hx⟩ := mem_F hl
  unfold partsU at hx
  obtain ⟨i, _, rfl⟩ := List.mem_map.1 hx
  rfl
theorem four_sum : ∀ {l : List (List Int)}, (∀ x ∈ l, x.length = 4) → (l.map List.length).sum = 4 * l.length
  | [], _ => rfl
  | x :: l, h => by
    rw [List.map_cons, List.sum_cons, List.length_cons, four_sum fun y hy => h y (List.mem_cons_of_mem _ hy), h x List.mem_cons_self]; omega
theorem four_sides {l : List (List Int)} (h : ∀ x ∈ l, x.length = 4) : (sides l).length = 4 * l.length := by
  have h2 := sides_sum l
  unfold T.sumL at h2; rw [four_sum h] at h2; omega
theorem crease_S {n : Int} {t : Tp} {sh : List Int} (sf : ShF t sh) : ∀ c ∈ crR n t sh t.ed.length, c.S ≤ 9223372036854775807 := fun c hc => by
  obtain ⟨j, j0, j1, hx⟩ := mem_F hc
  have hm := sf.most j j0 j1
  have hl : lessS (at_ sh j) ≤ 9223372036854775807 := by unfold lessS; split <;> omega
  unfold creaseP at hx
  split at hx
  · cases hx
  · simp only [List.mem_cons, List.not_mem_nil, or_false] at hx
    rcases hx with rfl | rfl <;> exact hl
structure SixC (vs : List VT) (fs : List (List Int)) (cr : List CrT) : Prop where
  v : vs.length ≤ 60
  f : fs.length ≤ 60
  s : (sides fs).length ≤ 60
  c : cr.length ≤ 60
theorem SixC.mid (x : SixC vs fs cr) (hcS : ∀ c ∈ cr, c.S ≤ 9223372036854775807) : MidC vs fs cr :=
  ⟨by have := x.v; omega, by have := x.f; omega, by have := x.s; omega, fun l hl => by have := len_le_sides l hl; have := x.s; omega, hcS, by have := x.c; omega⟩
theorem SixC.next (x : SixC vs fs cr) (hcS : ∀ c ∈ cr, c.S ≤ 9223372036854775807) (h : (levelR vs fs cr).2 = 0) : MidC (levelR vs fs cr).1.Verts (levelR vs fs cr).1.Faces (levelR vs fs cr).1.Creases := by
  obtain ⟨hok, hsh, hfar, he⟩ := level_ok h
  have hv1 := x.v
  have hf1 := x.f
  have hs1 := x.s
  have tf := topo_facts hok (by omega) (by omega) (by omega)
  have sf := sharp_facts hcS hsh
  have h2 := two_law hok
  have h3 := two_le (buildT vs.length fs).ed (buildT vs.length fs).ed.length
  have h4 := level_vlen h
  have h5 : ∀ l ∈ (levelR vs fs cr).1.Faces, l.length = 4 := by rw [he]; exact far_four
  have h6 : (levelR vs fs cr).1.Faces.length = (sides fs).length := by rw [he]; exact far_len
  have h7 := four_sides h5
  refine ⟨by omega, by omega, by omega, fun l hl => by have := h5 l hl; omega, ?_, ?_⟩
  · rw [he]; exact crease_S sf
  · rw [he]
    have h8 := crR_len vs.length (buildT vs.length fs) (sharpR (buildT vs.length fs) cr).1 (buildT vs.length fs).ed.length
    have h9 := tf.el
    show (crR _ _ _ _).length ≤ _
    omega
end
noncomputable def itL (c : CageT) : Nat → CageT
  | 0 => c
  | n + 1 => (levelR (itL c n).Verts (itL c n).Faces (itL c n).Creases).1
noncomputable def itC (vs : List VT) (fs : List (List Int)) (cr : List CrT) (k : Int) : CageT := itL ⟨vs, fs, cr⟩ k.toNat
theorem itC_next {vs : List VT} {fs : List (List Int)} {cr : List CrT} {k : Int} (h : 0 ≤ k) : (levelR (itC vs fs cr k).Verts (itC vs fs cr k).Faces (itC vs fs cr k).Creases).1 = itC vs fs cr (k + 1) := by
  have e : (k + 1).toNat = k.toNat + 1 := by omega
  unfold itC; rw [e]; rfl
structure ScalI (c g : CageT) (e : Int) : Prop where
  l : g.Verts.length = c.Verts.length
  f : g.Faces = c.Faces
  k : g.Creases = c.Creases
  n : c.Verts.length ≤ 60000
  r : ∀ i : Int, 0 ≤ i → i < c.Verts.length → bigR e 1 (at_ c.Verts i) (at_ g.Verts i)
  vc : ∀ p ∈ c.Verts, inV 65536 p
  vg : ∀ p ∈ g.Verts, inV 65536 p
theorem ScalI.mid {c g : CageT} {e : Int} (S : ScalI c g e) (m : MidC c.Verts c.Faces c.Creases) : MidC g.Verts g.Faces g.Creases := by
  rw [S.f, S.k]; exact ⟨by rw [S.l]; exact m.v, m.f, m.s, m.fs, m.c, m.cl⟩
theorem ScalI.err {c g : CageT} {e : Int} (S : ScalI c g e) : (levelR c.Verts c.Faces c.Creases).2 = (levelR g.Verts g.Faces g.Creases).2 := by
  rw [S.f, S.k]; exact (lev_err S.l (far_of S.vc) (far_of S.vg)).symm
theorem ScalI.next {c g : CageT} {e : Int} (S : ScalI c g e) (he : 0 ≤ e) (m : MidC c.Verts c.Faces c.Creases) (h : (levelR c.Verts c.Faces c.Creases).2 = 0) : ScalI (levelR c.Verts c.Faces c.Creases).1 (levelR g.Verts g.Faces g.Creases).1 (e + 34) := by
  have hg : (levelR g.Verts g.Faces g.Creases).2 = 0 := by rw [← S.err]; exact h
  have mg := S.mid m
  have vg := lev_inM S.vg mg hg
  have vc := lev_inM S.vc m h
  rw [S.f, S.k] at hg vg ⊢
  have q := lev_same S.l h hg
  exact ⟨q.2.2, q.1, q.2.1, level_vle m.v m.f m.s, lev_rel big_rel he m S.l S.r h hg, vc, vg⟩
structure ScalF (vs : List VT) (fs : List (List Int)) (cr : List CrT) (gs : List VT) (k : Int) : Prop where
  i : ScalI (itC vs fs cr k) (itC gs fs cr k) (34 * k)
  m : k ≤ 1 → MidC (itC vs fs cr k).Verts (itC vs fs cr k).Faces (itC vs fs cr k).Creases
section
variable {vs gs : List VT} {fs : List (List Int)} {cr : List CrT} {k : Int}
theorem ScalF.next (S : ScalF vs fs cr gs k) (x : SixC vs fs cr) (hcS : ∀ c ∈ cr, c.S ≤ 9223372036854775807) (h0 : 0 ≤ k) (h1 : k ≤ 1) (h : (levelR (itC vs fs cr k).Verts (itC vs fs cr k).Faces (itC vs fs cr k).Creases).2 = 0) : ScalF vs fs cr gs (k + 1) := by
  have q := S.i.next (by omega) (S.m h1) h
  rw [itC_next h0, itC_next h0] at q
  have e : 34 * k + 34 = 34 * (k + 1) := by omega
  rw [e] at q
  refine ⟨q, fun g => ?_⟩
  have hz : k = 0 := by omega
  subst hz
  exact x.next hcS h
theorem ScalF.near (S : ScalF vs fs cr gs k) {j : Int} (j0 : 0 ≤ j) (j1 : j < (itC vs fs cr k).Verts.length) : inV (17 * k) (subV (scaleV (at_ (itC vs fs cr k).Verts j) 16) (at_ (itC gs fs cr k).Verts j)) := by
  have := S.i.r j j0 j1
  unfold bigR inV at *; unfold scaleV at this; simp only at this; unfold scaleV; omega
end
end Go.Proofs.U
namespace Go.Proofs.U
open Go Go.AH Go.Proofs.T
set_option maxRecDepth 4000
set_option linter.unusedSectionVars false
section
variable {vs fc : List VT} {n : Int} {fs : List (List Int)}
end
section
variable {vs : List VT} {fs : List (List Int)} {cr : List CrT}
structure TurnF (vs : List VT) (fs : List (List Int)) (cr : List CrT) (gs : List (List Int)) : Prop where
  e : (levelR vs fs cr).2 = (levelR vs gs cr).2
  v : (levelR vs fs cr).1.Verts = (levelR vs gs cr).1.Verts
  c : (levelR vs fs cr).1.Creases = (levelR vs gs cr).1.Creases
  f : (levelR vs fs cr).1.Faces.length = (levelR vs gs cr).1.Faces.length
end
end Go.Proofs.U
namespace Go.Proofs.T
open Go Go.AH
theorem MO.fresh {H0 H H' : Heap} {L : List ME} {es len : Nat} {v : AV} {cells : List AV} (h : MO H0 H L) (o : Own H H' es v len cells) : SepM L v := fun e he => Sep.fresh (h.1 e he) o
theorem MO.base {Hb H0 H : Heap} {L : List ME} (h : MO H0 H L) (m : Mono Hb H0) : MO Hb H L := ⟨fun e he => Own.base (h.1 e he) m, h.2⟩
theorem MO.free {H0 H : Heap} {L : List ME} {j : Nat} {b : AB} (h : MO H0 H L) (hb : H0 j = some b) : NotIdM L j := fun e he => Own.free (h.1 e he) hb
end Go.Proofs.T
namespace Go.Proofs.U
open Go Go.AH Go.Proofs.T
set_option maxRecDepth 20000
section
variable {vs : List VT} {fs : List (List Int)} {cr : List CrT}
theorem MidC.back (mid : MidC vs fs cr) : MidC vs (backS fs) cr := ⟨mid.v, by rw [back_len]; exact mid.f, by rw [sides_back_len]; exact mid.s, fun l hl => by
  obtain ⟨m, hm, rfl⟩ := List.mem_map.1 hl
  rw [List.length_reverse]; exact mid.fs m hm, mid.c, mid.cl⟩
end
def revK (f : List Int) (k : Int) : List Int := f.reverse.take k.toNat ++ f.drop k.toNat
theorem revK_n {f : List Int} {k : Int} (h : (f.length : Int) ≤ k) : revK f k = f.reverse := by
  unfold revK
  rw [List.take_of_length_le (by rw [List.length_reverse]; omega), List.drop_of_length_le (by omega), List.append_nil]
theorem revK_step {f : List Int} {k : Int} (h0 : 0 ≤ k) (h1 : k < f.length) : (revK f k).set k.toNat (at_ f ((f.length : Int) - 1 - k)) = revK f (k + 1) := by
  have hk : k.toNat < f.length := by omega
  have e3 := take_step (l := f.reverse) (i := k) h0 (by rw [List.length_reverse]; exact h1)
  rw [rev_at h0 h1] at e3
  have e : (k + 1).toNat = k.toNat + 1 := by omega
  unfold revK
  rw [e3, e, List.drop_eq_getElem_cons hk]
  have ht : (f.reverse.take k.toNat).length = k.toNat := by rw [List.length_take, List.length_reverse]; omega
  rw [List.set_append_right _ _ (by omega), ht, Nat.sub_self, List.set_cons_zero, List.append_assoc]; rfl
structure RevF (fs : List (List Int)) (L M : List ME) (i k : Int) : Prop where
  o : ∀ x : Int, 0 ≤ x → x < fs.length → x ≠ i → (getM M x).2 = (getM L x).2
  i : (getM M i).2 = revK (at_ fs i) k
theorem RevF.next {fs : List (List Int)} {L M : List ME} {i k : Int} {w : AV} {xs : List Int} (h : RevF fs L M i k) (k0 : 0 ≤ k) (k1 : k < (at_ fs i).length) (hx : xs = (getM M i).2.set k.toNat (at_ (at_ fs i) (((at_ fs i).length : Int) - 1 - k))) : RevF fs L (putM M i w xs) i (k + 1) := by
  refine ⟨fun x x0 x1 xi => ?_, ?_⟩
  · rw [getM_put, if_neg xi]; exact h.o x x0 x1 xi
  · rw [getM_put, if_pos rfl]; simp only; rw [hx, h.i, revK_step k0 k1]
theorem RevF.done {fs : List (List Int)} {L M : List ME} {i k : Int} (h : RevF fs L M i k) (hL : ∀ x : Int, 0 ≤ x → x < fs.length → (getM L x).2 = if x < i then (at_ fs x).reverse else at_ fs x) (hk : ((at_ fs i).length : Int) ≤ k) : ∀ x : Int, 0 ≤ x → x < fs.length → (getM M x).2 = if x < i + 1 then (at_ fs x).reverse else at_ fs x := fun x x0 x1 => by
  by_cases e : x = i
  · subst e; rw [h.i, revK_n hk, if_pos (by omega)]
  · rw [h.o x x0 x1 e, hL x x0 x1]
    by_cases g : x < i
    · rw [if_pos g, if_pos (by omega)]
    · rw [if_neg g, if_neg (by omega)]
end Go.Proofs.U
namespace Go.Proofs.T
open Go Go.AH
set_option maxRecDepth 4000
set_option linter.unusedSectionVars false
def InF (fs : List (List Int)) (c f : Int) : Prop := 0 ≤ f ∧ f < (fs.length : Int) ∧ c ∈ at_ fs f
inductive Rch (fs : List (List Int)) (c x : Int) : Int → Prop
  | refl : Rch fs c x x
  | step {y : Int} : Rch fs c x y → 0 ≤ stepS fs c y → Rch fs c x (stepS fs c y)
section
variable {n c x : Int} {fs : List (List Int)}
theorem Rch.in_ (hg : goodS n fs) (hx : InF fs c x) {y : Int} (h : Rch fs c x y) : InF fs c y := by
  induction h with
  | refl => exact hx
  | step h hs ih =>
    obtain ⟨a, b, d⟩ := ih
    have := step_mem hg a b d hs
    exact ⟨hs, this.1, this.2.1⟩
theorem Rch.trans {y z : Int} (h : Rch fs c x y) (g : Rch fs c y z) : Rch fs c x z := by
  induction g with
  | refl => exact h
  | step _ hs ih => exact .step ih hs
theorem Rch.head {y : Int} (h : Rch fs c x y) : x = y ∨ (0 ≤ stepS fs c x ∧ Rch fs c (stepS fs c x) y) := by
  induction h with
  | refl => exact .inl rfl
  | step h hs ih =>
    rcases ih with rfl | ⟨g1, g2⟩
    · exact .inr ⟨hs, .refl⟩
    · exact .inr ⟨g1, .step g2 hs⟩
theorem Rch.back {y z : Int} (h : Rch fs c x y) (hz : Rch fs c x z) (hs : 0 ≤ stepS fs c z) (e : stepS fs c z = x) : Rch fs c y x := by
  induction h with
  | refl => exact .refl
  | step h hs' ih =>
    rcases ih.head with e2 | ⟨_, g2⟩
    · rw [e2]
      rcases hz.head with e3 | ⟨_, g3⟩
      · rw [← e3] at e; rw [e]; exact .refl
      · have := Rch.step g3 hs
        rwa [e] at this
    · exact g2
theorem head_in (hx : InF fs c x) : InF fs c (headS fs c) := by
  have hne : mineU fs c fs.length ≠ [] := fun e => by
    have := mem_mineU.2 hx
    rw [e] at this; cases this
  exact mem_mineU.1 (head_mem hne)
theorem reach_head (hg : goodS n fs) (hx : InF fs c x) (h : ∀ f, InF fs c f → Rch fs c x f) : ∀ f, InF fs c f → Rch fs c (headS fs c) f := by
  intro f hf
  have hh := head_in hx
  have hk := first_key fs c fs.length
  have hd : headS fs c = if firstN fs c fs.length < 0 then at_ (mineU fs c fs.length) 0 else firstN fs c fs.length := rfl
  by_cases hr : firstN fs c fs.length < 0
  · have hz := hk.1 hr x hx.1 hx.2.1 hx.2.2
    have hs := pred_of hg hx.1 hx.2.1 hx.2.2 hz
    have hi := of_side' hg hz
    exact (Rch.back (h _ hh) (h _ ⟨hz, hi.1, hi.2.1⟩) (by rw [hs]; exact hx.1) hs).trans (h f hf)
  · rw [if_neg hr] at hd
    have hno := hk.2 (by omega)
    rw [← hd] at hno
    have key : ∀ y, Rch fs c x y → y = headS fs c → x = headS fs c := fun y hy e => by
      cases hy with
      | refl => exact e
      | step g gs =>
        rename_i z
        have hi := Rch.in_ hg hx g
        have := pred_iff hg hi.1 hi.2.1 hi.2.2 gs
        rw [e] at this; omega
    have := key _ (h _ hh) rfl
    rw [← this]; exact h f hf
theorem reach_ok (hg : goodS n fs) (hx : InF fs c x) (h : ∀ f, InF fs c f → Rch fs c x f) : fanOK fs c = true := by
  have hr := reach_head hg hx h
  have hh := head_in hx
  generalize hy : headS fs c = y at hr hh
  have hrun : Runs fs c y (stopK fs c y) := by
    intro i hi
    by_cases e : i = 0
    · subst e; exact ⟨hh.1, .inl rfl⟩
    · have := List.not_of_lt_findIdx (p := fun k => decide (1 ≤ k ∧ (iterS (stepS fs c) y k < 0 ∨ iterS (stepS fs c) y k = y))) (xs := List.range (fs.length + 1)) (i := i) hi
      simp only [List.getElem_range, decide_eq_false_iff_not] at this
      have h2 : 1 ≤ i := by omega
      refine ⟨?_, .inr fun e2 => this ⟨h2, .inr e2⟩⟩
      rcases Int.lt_or_le (iterS (stepS fs c) y i) 0 with g | g
      · exact absurd ⟨h2, .inl g⟩ this
      · exact g
  have hle := mine_le fs c fs.length
  have hrl := run_le hg hh.1 hh.2.1 hh.2.2 hrun
  have hK : stopK fs c y < (List.range (fs.length + 1)).length := by simp; omega
  have hstop := ((List.findIdx_eq (p := fun k => decide (1 ≤ k ∧ (iterS (stepS fs c) y k < 0 ∨ iterS (stepS fs c) y k = y))) (xs := List.range (fs.length + 1)) (i := stopK fs c y) hK).1 rfl).1
  rw [List.getElem_range, decide_eq_true_eq] at hstop
  have cover : ∀ f, Rch fs c y f → ∃ i, i < stopK fs c y ∧ iterS (stepS fs c) y i = f := fun f hf => by
    induction hf with
    | refl => exact ⟨0, by omega, rfl⟩
    | step _ hs ih =>
      obtain ⟨i, hi, e⟩ := ih
      have e2 : iterS (stepS fs c) y (i + 1) = stepS fs c (iterS (stepS fs c) y i) := rfl
      rw [← e] at hs ⊢
      by_cases g : i + 1 < stopK fs c y
      · exact ⟨i + 1, g, rfl⟩
      · have e3 : stopK fs c y = i + 1 := by omega
        rw [e3] at hstop
        rcases hstop.2 with q | q
        · rw [e2] at q; omega
        · exact ⟨0, by omega, by rw [← e2, q]; rfl⟩
  have F : Fan fs n c y (stopK fs c y) := ⟨hg, hh.1, hh.2.1, hh.2.2, hrun, hstop.1, hstop.2, fun f f0 f1 fv => cover f (hr f ⟨f0, f1, fv⟩)⟩
  subst hy
  exact F.ok.2
theorem reach_fan (h : okS n fs) (h0 : 0 ≤ c) (h1 : c < n) : InF fs c (headS fs c) ∧ ∀ f, InF fs c f → Rch fs c (headS fs c) f := by
  obtain ⟨hne, F⟩ := fan_of h h0 h1
  refine ⟨⟨F.x0, F.x1, F.xv⟩, fun f hf => ?_⟩
  have key : ∀ i, i < stopK fs c (headS fs c) → Rch fs c (headS fs c) (iterS (stepS fs c) (headS fs c) i) := by
    intro i
    induction i with
    | zero => intro _; exact .refl
    | succ i ih =>
      intro hi
      have := (F.run (i + 1) hi).1
      exact Rch.step (ih (by omega)) this
  obtain ⟨i, hi, rfl⟩ := F.cover f hf.1 hf.2.1 hf.2.2
  exact key i hi
theorem round_all (hx : InF fs c x) : fanR fs c = true ↔ ∀ f, InF fs c f → 0 ≤ alongS fs (nextS (at_ fs f) c 1) c := by
  have hne : mineU fs c fs.length ≠ [] := fun e => by
    have := mem_mineU.2 hx
    rw [e] at this; cases this
  have hk := first_key fs c fs.length
  have hl := first_le fs c fs.length
  unfold fanR roundB
  rw [if_neg hne, decide_eq_true_eq]
  constructor
  · exact fun g f hf => hk.1 g f hf.1 hf.2.1 hf.2.2
  · intro g
    apply Classical.byContradiction
    intro hn
    have h1 := hk.2 (by omega)
    have h2 := g _ ⟨by omega, hl.2.1, hl.2.2 (by omega)⟩
    omega
end
theorem wayF_nodup {l : List Int} (h : Apart l) : (wayF l).Nodup := by
  unfold wayF
  rw [List.nodup_iff_pairwise_ne, List.pairwise_map]
  refine List.Pairwise.imp_of_mem ?_ List.pairwise_lt_range
  intro a b ha hb hab e
  rw [List.mem_range] at ha hb
  exact h (b : Int) (a : Int) (by omega) (by omega) (by omega) (congrArg Prod.fst e).symm
theorem sides_nodup {fs : List (List Int)} (h : ∀ l ∈ fs, Apart l) : (sides fs).Nodup := by
  have key : ∀ (fs : List (List Int)) (k : Nat), (∀ l ∈ fs, Apart l) → (sidesFrom k fs).Nodup := by
    intro fs
    induction fs with
    | nil => intro k _; exact List.nodup_nil
    | cons l fs ih =>
      intro k hl
      rw [sidesFrom, List.nodup_append]
      refine ⟨?_, ih (k + 1) fun m hm => hl m (List.mem_cons_of_mem _ hm), ?_⟩
      · rw [List.nodup_iff_pairwise_ne, List.pairwise_map]
        exact (List.nodup_iff_pairwise_ne.1 (wayF_nodup (hl l List.mem_cons_self))).imp fun hab e => hab (congrArg Prod.fst e)
      · intro a ha b hb e
        obtain ⟨w, _, rfl⟩ := List.mem_map.1 ha
        subst e
        have := (mem_sidesFrom.1 hb).1
        omega
  exact key fs 0 h
theorem along_uniq {fs : List (List Int)} (ha : ∀ l ∈ fs, Apart l) {a b x : Int} (x0 : 0 ≤ x) (x1 : x < fs.length) (hx : (a, b) ∈ wayF (at_ fs x)) (hu : ∀ y : Int, 0 ≤ y → y < fs.length → (a, b) ∈ wayF (at_ fs y) → y = x) : alongS fs a b = x := by
  have hm : x.toNat ∈ hitsL (sides fs) a b := by
    rw [mem_hits, mem_sides]
    exact ⟨by omega, by rw [Int.toNat_of_nonneg x0]; exact hx⟩
  have hall : ∀ f ∈ hitsL (sides fs) a b, f = x.toNat := fun f hf => by
    rw [mem_hits, mem_sides] at hf
    have := hu f (by omega) (by omega) hf.2
    omega
  have hnd : (hitsL (sides fs) a b).Nodup := by
    unfold hitsL
    rw [List.nodup_iff_pairwise_ne, List.pairwise_map]
    refine List.Pairwise.imp_of_mem ?_ (List.nodup_iff_pairwise_ne.1 ((sides_nodup ha).filter _))
    intro s t hs ht hst e
    have h1 := of_decide_eq_true (List.mem_filter.1 hs).2
    have h2 := of_decide_eq_true (List.mem_filter.1 ht).2
    exact hst (Prod.ext (h1.trans h2.symm) e)
  rcases alongL_cases (sides fs) a b with ⟨h1, h2⟩ | ⟨g, h1, h2⟩ | ⟨h1, h2⟩
  · rw [h1] at hm; cases hm
  · have := hall g (by rw [h1]; exact .head _)
    unfold alongS; rw [h2]; omega
  · exfalso
    match hh : hitsL (sides fs) a b, h1, hnd, hall with
    | [], h1, _, _ => simp at h1
    | [_], h1, _, _ => simp at h1
    | p :: q :: r, _, hnd, hall =>
      have e1 := hall p (by simp)
      have e2 := hall q (by simp)
      rw [e1, e2] at hnd
      simp at hnd
end Go.Proofs.T
namespace Go.Proofs.U
open Go Go.AH Go.Proofs.T
set_option maxRecDepth 4000
set_option linter.unusedSectionVars false
abbrev nx (fs : List (List Int)) (f v : Int) : Int := nextS (at_ fs f) v 1
abbrev pv (fs : List (List Int)) (f v : Int) : Int := nextS (at_ fs f) v (-1)
def en (n : Int) (t : Tp) (a b : Int) : Int := n + optI (findS t a b)
def cell (n : Int) (t : Tp) (fs : List (List Int)) (f v : Int) : List Int := [v, en n t v (nx fs f v), n + t.ed.length + f, en n t v (pv fs f v)]
def off (fs : List (List Int)) (f : Int) : Int := T.sumL (fs.take f.toNat)
def ix (fs : List (List Int)) (f v : Int) : Int := off fs f + ((at_ fs f).idxOf v : Nat)
theorem way4 (p q r s : Int) : wayF [p, q, r, s] = [(p, q), (q, r), (r, s), (s, p)] := by simp [wayF, at_, List.range, List.range.loop]
theorem idx_in {l : List Int} {v : Int} (h : v ∈ l) : at_ l (l.idxOf v : Nat) = v := by
  have := List.idxOf_lt_length_of_mem h
  simp [at_, this]
section
variable {n : Int} {fs : List (List Int)}
theorem three (hg : goodS n fs) {f v : Int} (hf : InF fs v f) : (InF fs (nx fs f v) f ∧ InF fs (pv fs f v) f) ∧ (pv fs f (nx fs f v) = v ∧ nx fs f (pv fs f v) = v) ∧ nx fs f v ≠ v ∧ pv fs f v ≠ v ∧ nx fs f v ≠ pv fs f v := by
  obtain ⟨f0, f1, fv⟩ := hf
  have ha := good_apart hg f0 f1
  have h3 := (hg f f0 f1).1
  obtain ⟨w1, w2⟩ := way_next ha fv
  obtain ⟨i, i0, i1, e1, e2⟩ := mem_wayF.1 w1
  obtain ⟨j, j0, j1, e3, e4⟩ := mem_wayF.1 w2
  have hm1 := mod_in (x := i + 1) (y := ((at_ fs f).length : Int)) (by omega)
  have hm2 := mod_in (x := j + 1) (y := ((at_ fs f).length : Int)) (by omega)
  have hij := ha.eq i0 i1 hm2.1 hm2.2 (e1.symm.trans e4)
  have c1 : (i + 1) % ((at_ fs f).length : Int) = if i + 1 = (at_ fs f).length then 0 else i + 1 := by
    split
    · rename_i g; rw [g]; exact Int.emod_self
    · exact Int.emod_eq_of_lt (by omega) (by omega)
  have c2 : (j + 1) % ((at_ fs f).length : Int) = if j + 1 = (at_ fs f).length then 0 else j + 1 := by
    split
    · rename_i g; rw [g]; exact Int.emod_self
    · exact Int.emod_eq_of_lt (by omega) (by omega)
  refine ⟨⟨⟨f0, f1, ?_⟩, f0, f1, ?_⟩, ⟨(next_way ha w1).2, (next_way ha w2).1⟩, fun e => ?_, fun e => ?_, fun e => ?_⟩
  · show nextS (at_ fs f) v 1 ∈ at_ fs f
    rw [e2]; exact at_mem hm1.1 hm1.2
  · show nextS (at_ fs f) v (-1) ∈ at_ fs f
    rw [e3]; exact at_mem j0 j1
  · have := ha.eq hm1.1 hm1.2 i0 i1 (e2.symm.trans (e.trans e1)); rw [c1] at this; split at this <;> omega
  · have := ha.eq j0 j1 i0 i1 (e3.symm.trans (e.trans e1)); rw [c2] at hij; split at hij <;> omega
  · have := ha.eq hm1.1 hm1.2 j0 j1 (e2.symm.trans (e.trans e3)); rw [c1] at this; rw [c2] at hij; split at this <;> split at hij <;> omega
theorem en_sym (t : Tp) (a b : Int) : en n t a b = en n t b a := by
  unfold en findS; rw [Int.min_comm, Int.max_comm]
theorem ed_idx (h : okS n fs) {i j : Int} (i0 : 0 ≤ i) (i1 : i < (buildT n fs).ed.length) (j0 : 0 ≤ j) (j1 : j < (buildT n fs).ed.length) (hA : (at_ (buildT n fs).ed i).A = (at_ (buildT n fs).ed j).A) (hB : (at_ (buildT n fs).ed i).B = (at_ (buildT n fs).ed j).B) : i = j := by
  have hpw : (buildT n fs).ed.Pairwise ltE := by rw [(build_ok h).1]; exact eOut_sorted fs n
  have key : ∀ i j : Int, 0 ≤ i → i < j → j < (buildT n fs).ed.length → ltE (at_ (buildT n fs).ed i) (at_ (buildT n fs).ed j) := fun i j i0 ij j1 => by
    have hi : i.toNat < (buildT n fs).ed.length := by omega
    have hj : j.toNat < (buildT n fs).ed.length := by omega
    have := List.pairwise_iff_getElem.1 hpw i.toNat j.toNat hi hj (by omega)
    have e1 : at_ (buildT n fs).ed i = (buildT n fs).ed[i.toNat] := by simp [at_, hi]
    have e2 : at_ (buildT n fs).ed j = (buildT n fs).ed[j.toNat] := by simp [at_, hj]
    rw [e1, e2]; exact this
  rcases Int.lt_trichotomy i j with g | g | g
  · have := key i j i0 g j1; unfold ltE at this; omega
  · exact g
  · have := key j i j0 g i1; unfold ltE at this; omega
theorem en_spec (h : okS n fs) {a b : Int} (hw : 0 ≤ alongS fs a b ∨ 0 ≤ alongS fs b a) : (n ≤ en n (buildT n fs) a b ∧ en n (buildT n fs) a b < n + (buildT n fs).ed.length) ∧ (at_ (buildT n fs).ed (en n (buildT n fs) a b - n)).A = min a b ∧ (at_ (buildT n fs).ed (en n (buildT n fs) a b - n)).B = max a b := by
  have key : ∀ a b : Int, 0 ≤ alongS fs a b → (n ≤ en n (buildT n fs) a b ∧ en n (buildT n fs) a b < n + (buildT n fs).ed.length) ∧ (at_ (buildT n fs).ed (en n (buildT n fs) a b - n)).A = min a b ∧ (at_ (buildT n fs).ed (en n (buildT n fs) a b - n)).B = max a b := fun a b hw => by
    obtain ⟨g1, g2, _⟩ := along_some hw
    obtain ⟨i, i0, i1, e1, e2⟩ := mem_wayF.1 g2
    have hf := find_law h hw g1 i0 i1
    rw [← e1, ← e2] at hf
    obtain ⟨hs, hl, hu, _, _⟩ := hf
    unfold en
    refine ⟨by omega, ?_⟩
    have e3 : n + optI (findS (buildT n fs) a b) - n = optI (findS (buildT n fs) a b) := by omega
    rw [e3]
    unfold findS at *
    cases hk : (buildT n fs).ed.findIdx? (fun e => decide (e.A = min a b ∧ e.B = max a b)) with
    | none => rw [hk] at hs; cases hs
    | some k =>
      rw [List.findIdx?_eq_some_iff_getElem] at hk
      obtain ⟨k1, k2, _⟩ := hk
      have e : at_ (buildT n fs).ed (k : Int) = (buildT n fs).ed[k] := by simp [at_, k1]
      simp only [optI]
      rw [e]; exact of_decide_eq_true k2
  rcases hw with hw | hw
  · exact key a b hw
  · have := key b a hw
    rw [en_sym, Int.min_comm, Int.max_comm]; exact this
theorem en_inj (h : okS n fs) {a b c d : Int} (h1 : 0 ≤ alongS fs a b ∨ 0 ≤ alongS fs b a) (h2 : 0 ≤ alongS fs c d ∨ 0 ≤ alongS fs d c) (e : en n (buildT n fs) a b = en n (buildT n fs) c d) : (a = c ∧ b = d) ∨ (a = d ∧ b = c) := by
  have s1 := (en_spec h h1).2
  have s2 := (en_spec h h2).2
  rw [e] at s1
  omega
theorem off_0 : off fs 0 = 0 := rfl
theorem off_step {f : Int} (f0 : 0 ≤ f) (f1 : f < fs.length) : off fs (f + 1) = off fs f + (at_ fs f).length := T.sum_step f0 f1
theorem off_nn (f : Int) : 0 ≤ off fs f := (T.sum_le f).1
theorem idx_lt {f v : Int} (hf : InF fs v f) : ((at_ fs f).idxOf v : Int) < (at_ fs f).length := by
  have := List.idxOf_lt_length_of_mem hf.2.2
  omega
theorem idx_at {f v : Int} (hf : InF fs v f) : at_ (at_ fs f) ((at_ fs f).idxOf v : Nat) = v := idx_in hf.2.2
variable {t : Tp}
theorem cells_at : ∀ (k : Nat), k ≤ fs.length → ((faR n t fs k).length : Int) = off fs k ∧ ∀ f i : Int, 0 ≤ f → f < k → 0 ≤ i → i < (at_ fs f).length → at_ (faR n t fs k) (off fs f + i) = partF n t f (at_ fs f) i ∧ off fs f + i < off fs k := by
  intro k
  induction k with
  | zero => intro _; exact ⟨rfl, fun f i f0 f1 => by omega⟩
  | succ k ih =>
    intro hk
    obtain ⟨h1, h2⟩ := ih (by omega)
    have e : faR n t fs ((k + 1 : Nat) : Int) = faR n t fs (k : Int) ++ partsU n t (k : Int) (at_ fs (k : Int)) (at_ fs (k : Int)).length := by
      have := F_step (f := fun f => partsU n t f (at_ fs f) (at_ fs f).length) (k := (k : Int)) (by omega)
      unfold faR
      rw [show ((k + 1 : Nat) : Int) = (k : Int) + 1 by omega]; exact this.symm
    have eo : off fs ((k + 1 : Nat) : Int) = off fs (k : Int) + (at_ fs (k : Int)).length := by
      rw [show ((k + 1 : Nat) : Int) = (k : Int) + 1 by omega]; exact off_step (by omega) (by omega)
    refine ⟨?_, fun f i f0 f1 i0 i1 => ?_⟩
    · rw [e, eo, List.length_append, partsU_len]; omega
    · have hn := off_nn (fs := fs) f
      by_cases hf : f < k
      · have := h2 f i f0 hf i0 i1
        refine ⟨?_, by omega⟩
        rw [e, at_appL (by omega) (by omega)]; exact this.1
      · have hfk : f = k := by omega
        subst hfk
        refine ⟨?_, by omega⟩
        rw [e, at_appR (i := i) i0 (by omega)]
        exact U_at (f := fun j => partF n t (k : Int) (at_ fs (k : Int)) j) i0 i1
theorem cells_ex : ∀ (k : Nat), k ≤ fs.length → ∀ x : Int, 0 ≤ x → x < off fs k → ∃ f i : Int, (0 ≤ f ∧ f < k) ∧ (0 ≤ i ∧ i < (at_ fs f).length) ∧ x = off fs f + i := by
  intro k
  induction k with
  | zero => intro _ x h0 h1; rw [show ((0 : Nat) : Int) = 0 from rfl, off_0] at h1; omega
  | succ k ih =>
    intro hk x h0 h1
    rw [show ((k + 1 : Nat) : Int) = (k : Int) + 1 by omega, off_step (by omega) (by omega)] at h1
    by_cases g : x < off fs k
    · obtain ⟨f, i, hf, hi, e⟩ := ih (by omega) x h0 g
      exact ⟨f, i, ⟨hf.1, by omega⟩, hi, e⟩
    · exact ⟨k, x - off fs k, ⟨by omega, by omega⟩, ⟨by omega, by omega⟩, by omega⟩
theorem cell_part (hg : goodS n fs) {f v : Int} (hf : InF fs v f) : partF n t f (at_ fs f) ((at_ fs f).idxOf v : Nat) = cell n t fs f v := by
  have hl := idx_lt hf
  have ha := good_apart hg hf.1 hf.2.1
  have e := idx_at hf
  have e1 : nx fs f v = at_ (at_ fs f) ((((at_ fs f).idxOf v : Nat) + 1 : Int) % ((at_ fs f).length : Int)) := by
    have := nextS_at ha (i := ((at_ fs f).idxOf v : Nat)) (b := 1) (by omega) hl
    rw [e] at this
    show nextS (at_ fs f) v 1 = _
    rw [this]; congr 1
    rw [show (((at_ fs f).idxOf v : Nat) : Int) + ((at_ fs f).length : Int) + 1 = (((at_ fs f).idxOf v : Nat) : Int) + 1 + (at_ fs f).length by omega, Int.add_emod_right]
  have e2 : pv fs f v = at_ (at_ fs f) ((((at_ fs f).idxOf v : Nat) + ((at_ fs f).length : Int) - 1) % ((at_ fs f).length : Int)) := by
    have := nextS_at ha (i := ((at_ fs f).idxOf v : Nat)) (b := -1) (by omega) hl
    rw [e] at this
    show nextS (at_ fs f) v (-1) = _
    rw [this]; rfl
  unfold partF cell en
  rw [e1, e2, e]
end
structure Fin (n : Int) (fs : List (List Int)) (gs : List (List Int)) : Prop where
  ok : okS n fs
  e : gs = faR n (buildT n fs) fs fs.length
section
variable {n : Int} {fs gs : List (List Int)} (F : Fin n fs gs)
include F
theorem Fin.len : (gs.length : Int) = off fs fs.length := by rw [F.e]; exact (cells_at fs.length (Nat.le_refl _)).1
theorem Fin.at_ {f v : Int} (hf : InF fs v f) : (0 ≤ ix fs f v ∧ ix fs f v < gs.length) ∧ AH.at_ gs (ix fs f v) = cell n (buildT n fs) fs f v := by
  have hl := idx_lt hf
  have := (cells_at (n := n) (t := buildT n fs) (fs := fs) fs.length (Nat.le_refl _)).2 f ((AH.at_ fs f).idxOf v : Nat) hf.1 hf.2.1 (by omega) hl
  have hn := off_nn (fs := fs) f
  rw [F.len]
  refine ⟨⟨by unfold ix; omega, by unfold ix; exact this.2⟩, ?_⟩
  rw [F.e]; unfold ix; rw [this.1]
  exact cell_part F.ok.2.1 hf
theorem Fin.ex {x : Int} (h0 : 0 ≤ x) (h1 : x < gs.length) : ∃ f v, InF fs v f ∧ x = ix fs f v := by
  rw [F.len] at h1
  obtain ⟨f, i, hf, hi, e⟩ := cells_ex fs.length (Nat.le_refl _) x h0 h1
  have ha := good_apart F.ok.2.1 hf.1 hf.2
  refine ⟨f, AH.at_ (AH.at_ fs f) i, ⟨hf.1, hf.2, at_mem hi.1 hi.2⟩, ?_⟩
  have hin : InF fs (AH.at_ (AH.at_ fs f) i) f := ⟨hf.1, hf.2, at_mem hi.1 hi.2⟩
  have := ha.eq (by omega) (idx_lt hin) hi.1 hi.2 (idx_at hin)
  unfold ix; omega
theorem Fin.rng {f v : Int} (hf : InF fs v f) : (0 ≤ v ∧ v < n) ∧ (n ≤ en n (buildT n fs) v (nx fs f v) ∧ en n (buildT n fs) v (nx fs f v) < n + (buildT n fs).ed.length) ∧ (n ≤ en n (buildT n fs) v (pv fs f v) ∧ en n (buildT n fs) v (pv fs f v) < n + (buildT n fs).ed.length) := by
  have hg := F.ok.2.1
  have s1 := side_next hg hf.1 hf.2.1 hf.2.2
  have s2 := side_prev hg hf.1 hf.2.1 hf.2.2
  exact ⟨good_nn hg hf.1 hf.2.1 v hf.2.2, (en_spec F.ok (.inl (by rw [s1]; exact hf.1))).1, (en_spec F.ok (.inr (by rw [s2]; exact hf.1))).1⟩
theorem Fin.inj {f v g w : Int} (hf : InF fs v f) (hg : InF fs w g) (e : cell n (buildT n fs) fs f v = cell n (buildT n fs) fs g w) : f = g ∧ v = w := by
  unfold cell at e
  simp only [List.cons.injEq] at e
  omega
end
end Go.Proofs.U
namespace Go.Proofs.U
open Go Go.AH Go.Proofs.T
set_option maxRecDepth 4000
set_option linter.unusedSectionVars false
section
variable {n : Int} {fs gs : List (List Int)} (F : Fin n fs gs)
include F
theorem way_cell {f v a b : Int} : (a, b) ∈ wayF (cell n (buildT n fs) fs f v) ↔ (a = v ∧ b = en n (buildT n fs) v (nx fs f v)) ∨ (a = en n (buildT n fs) v (nx fs f v) ∧ b = n + (buildT n fs).ed.length + f) ∨ (a = n + (buildT n fs).ed.length + f ∧ b = en n (buildT n fs) v (pv fs f v)) ∨ (a = en n (buildT n fs) v (pv fs f v) ∧ b = v) := by
  unfold cell; rw [way4]; simp
theorem Fin.sd {f v : Int} (hf : InF fs v f) : alongS fs v (nx fs f v) = f ∧ alongS fs (pv fs f v) v = f := ⟨side_next F.ok.2.1 hf.1 hf.2.1 hf.2.2, side_prev F.ok.2.1 hf.1 hf.2.1 hf.2.2⟩
theorem Fin.nxE {f v g w : Int} (hf : InF fs v f) (hg : InF fs w g) (e : en n (buildT n fs) v (nx fs f v) = en n (buildT n fs) w (nx fs g w)) : (v = w ∧ nx fs f v = nx fs g w) ∨ (v = nx fs g w ∧ nx fs f v = w) :=
  en_inj F.ok (.inl (by rw [(F.sd hf).1]; exact hf.1)) (.inl (by rw [(F.sd hg).1]; exact hg.1)) e
theorem Fin.pvE {f v g w : Int} (hf : InF fs v f) (hg : InF fs w g) (e : en n (buildT n fs) v (pv fs f v) = en n (buildT n fs) w (pv fs g w)) : (v = w ∧ pv fs f v = pv fs g w) ∨ (v = pv fs g w ∧ pv fs f v = w) :=
  en_inj F.ok (.inr (by rw [(F.sd hf).2]; exact hf.1)) (.inr (by rw [(F.sd hg).2]; exact hg.1)) e
theorem Fin.uniq {f v g w a b : Int} (hf : InF fs v f) (hg : InF fs w g) (h1 : (a, b) ∈ wayF (cell n (buildT n fs) fs f v)) (h2 : (a, b) ∈ wayF (cell n (buildT n fs) fs g w)) : f = g ∧ v = w := by
  have r1 := F.rng hf
  have r2 := F.rng hg
  have d1 := F.sd hf
  have d2 := F.sd hg
  have f0 := hf.1
  have g0 := hg.1
  rw [way_cell F] at h1 h2
  rcases h1 with ⟨p1, p2⟩ | ⟨p1, p2⟩ | ⟨p1, p2⟩ | ⟨p1, p2⟩ <;> rcases h2 with ⟨q1, q2⟩ | ⟨q1, q2⟩ | ⟨q1, q2⟩ | ⟨q1, q2⟩ <;> try omega
  · have hvw : v = w := by omega
    subst hvw
    rcases F.nxE hf hg (p2.symm.trans q2) with ⟨_, e⟩ | ⟨e, _⟩
    · rw [e] at d1; exact ⟨by omega, rfl⟩
    · exact absurd e.symm (three F.ok.2.1 hg).2.2.1
  · have hfg : f = g := by omega
    subst hfg
    rcases F.nxE hf hg (p1.symm.trans q1) with ⟨e, _⟩ | ⟨e1, e2⟩
    · exact ⟨rfl, e⟩
    · have := (three F.ok.2.1 hg).2.1.1
      rw [← e1] at this
      exact absurd (e2.trans this.symm) (three F.ok.2.1 hf).2.2.2.2
  · have hfg : f = g := by omega
    subst hfg
    rcases F.pvE hf hg (p2.symm.trans q2) with ⟨e, _⟩ | ⟨e1, e2⟩
    · exact ⟨rfl, e⟩
    · have := (three F.ok.2.1 hg).2.1.2
      rw [← e1] at this
      exact absurd (this.trans e2.symm) (three F.ok.2.1 hf).2.2.2.2
  · have hvw : v = w := by omega
    subst hvw
    rcases F.pvE hf hg (p1.symm.trans q1) with ⟨_, e⟩ | ⟨e, _⟩
    · rw [e] at d1; exact ⟨by omega, rfl⟩
    · exact absurd e.symm (three F.ok.2.1 hg).2.2.2.1
theorem Fin.apart1 {f v : Int} (hf : InF fs v f) : Apart (cell n (buildT n fs) fs f v) := by
  have r := F.rng hf
  have t3 := (three F.ok.2.1 hf).2.2
  have d := F.sd hf
  have hne : en n (buildT n fs) v (nx fs f v) ≠ en n (buildT n fs) v (pv fs f v) := fun e => by
    rcases en_inj F.ok (.inl (by rw [d.1]; exact hf.1)) (.inr (by rw [d.2]; exact hf.1)) e with ⟨_, g⟩ | ⟨g, _⟩
    · exact t3.2.2 g
    · exact t3.2.1 g.symm
  apply apart_of
  unfold cell
  simp only [List.nodup_cons, List.mem_cons, List.not_mem_nil, or_false, not_or, List.nodup_nil, and_true, not_false_eq_true]
  have f0 := hf.1
  refine ⟨⟨by omega, by omega, by omega⟩, ⟨by omega, hne⟩, by omega⟩
theorem Fin.mem_ {l : List Int} (h : l ∈ gs) : ∃ f v, InF fs v f ∧ l = cell n (buildT n fs) fs f v := by
  obtain ⟨x, x0, x1, rfl⟩ := mem_at h
  obtain ⟨f, v, hf, rfl⟩ := F.ex x0 x1
  exact ⟨f, v, hf, (F.at_ hf).2⟩
theorem Fin.apart {l : List Int} (h : l ∈ gs) : Apart l := by
  obtain ⟨f, v, hf, rfl⟩ := F.mem_ h
  exact F.apart1 hf
theorem Fin.al {f v a b : Int} (hf : InF fs v f) (h : (a, b) ∈ wayF (cell n (buildT n fs) fs f v)) : alongS gs a b = ix fs f v := by
  have ha := F.at_ hf
  refine along_uniq (fun l hl => F.apart hl) ha.1.1 ha.1.2 (by rw [ha.2]; exact h) fun y y0 y1 hy => ?_
  obtain ⟨g, w, hg, rfl⟩ := F.ex y0 y1
  rw [(F.at_ hg).2] at hy
  obtain ⟨rfl, rfl⟩ := F.uniq hf hg h hy
  rfl
noncomputable def Nf (n : Int) (fs : List (List Int)) : Int := n + (buildT n fs).ed.length + fs.length
theorem Fin.good : goodS (Nf n fs) gs := by
  intro x x0 x1
  obtain ⟨f, v, hf, rfl⟩ := F.ex x0 x1
  have ha := F.at_ hf
  have hap := F.apart1 hf
  have r := F.rng hf
  have f0 := hf.1
  have f1 := hf.2.1
  rw [ha.2]
  refine ⟨by unfold cell; simp, fun i i0 i1 => ?_, hap, fun i i0 i1 => ?_⟩
  · have hm := at_mem (l := cell n (buildT n fs) fs f v) i0 i1
    generalize AH.at_ (cell n (buildT n fs) fs f v) i = y at hm
    unfold cell at hm
    simp only [List.mem_cons, List.not_mem_nil, or_false] at hm
    unfold Nf
    rcases hm with rfl | rfl | rfl | rfl <;> omega
  · have hw : (AH.at_ (cell n (buildT n fs) fs f v) i, AH.at_ (cell n (buildT n fs) fs f v) ((i + 1) % ((cell n (buildT n fs) fs f v).length : Int))) ∈ wayF (cell n (buildT n fs) fs f v) := mem_wayF.2 ⟨i, i0, i1, rfl, rfl⟩
    rw [F.al hf hw]; exact ha.1.1
theorem Fin.nexts {f v a b : Int} (hf : InF fs v f) (h : (a, b) ∈ wayF (cell n (buildT n fs) fs f v)) : nextS (AH.at_ gs (ix fs f v)) a 1 = b ∧ nextS (AH.at_ gs (ix fs f v)) b (-1) = a := by
  rw [(F.at_ hf).2]; exact next_way (F.apart1 hf) h
theorem Fin.step_v {f v : Int} (hf : InF fs v f) (hs : 0 ≤ stepS fs v f) : stepS gs v (ix fs f v) = ix fs (stepS fs v f) v := by
  have h := (F.nexts hf ((way_cell F).2 (.inr (.inr (.inr ⟨rfl, rfl⟩))))).2
  have hg := of_side F.ok.2.1 hs
  have hi : InF fs v (stepS fs v f) := ⟨hs, hg.1, hg.2.1⟩
  have e : nx fs (stepS fs v f) v = pv fs f v := hg.2.2
  show alongS gs v (nextS (AH.at_ gs (ix fs f v)) v (-1)) = _
  rw [h]
  exact F.al hi ((way_cell F).2 (.inl ⟨rfl, by rw [e]⟩))
theorem Fin.step_e {f v : Int} (hf : InF fs v f) (hs : 0 ≤ alongS fs (nx fs f v) v) : stepS gs (en n (buildT n fs) v (nx fs f v)) (ix fs f v) = ix fs (alongS fs (nx fs f v) v) v := by
  have h := (F.nexts hf ((way_cell F).2 (.inl ⟨rfl, rfl⟩))).2
  have hg := of_side' F.ok.2.1 hs
  have hi : InF fs v (alongS fs (nx fs f v) v) := ⟨hs, hg.1, hg.2.1⟩
  have e : pv fs (alongS fs (nx fs f v) v) v = nx fs f v := hg.2.2
  show alongS gs (en n (buildT n fs) v (nx fs f v)) (nextS (AH.at_ gs (ix fs f v)) (en n (buildT n fs) v (nx fs f v)) (-1)) = _
  rw [h]
  exact F.al hi ((way_cell F).2 (.inr (.inr (.inr ⟨by rw [e], rfl⟩))))
theorem Fin.step_p {f v : Int} (hf : InF fs v f) : stepS gs (en n (buildT n fs) v (pv fs f v)) (ix fs f v) = ix fs f (pv fs f v) := by
  have h := (F.nexts hf ((way_cell F).2 (.inr (.inr (.inl ⟨rfl, rfl⟩))))).2
  obtain ⟨⟨_, hi⟩, ⟨_, e⟩, _⟩ := three F.ok.2.1 hf
  show alongS gs (en n (buildT n fs) v (pv fs f v)) (nextS (AH.at_ gs (ix fs f v)) (en n (buildT n fs) v (pv fs f v)) (-1)) = _
  rw [h]
  exact F.al hi ((way_cell F).2 (.inr (.inl ⟨by rw [e]; exact en_sym _ _ _, rfl⟩)))
theorem Fin.step_f {f v : Int} (hf : InF fs v f) : stepS gs (n + (buildT n fs).ed.length + f) (ix fs f v) = ix fs f (nx fs f v) := by
  have h := (F.nexts hf ((way_cell F).2 (.inr (.inl ⟨rfl, rfl⟩)))).2
  obtain ⟨⟨hi, _⟩, ⟨e, _⟩, _⟩ := three F.ok.2.1 hf
  show alongS gs _ (nextS (AH.at_ gs (ix fs f v)) _ (-1)) = _
  rw [h]
  exact F.al hi ((way_cell F).2 (.inr (.inr (.inl ⟨rfl, by rw [e]; exact en_sym _ _ _⟩))))
theorem Fin.ix0 {f v : Int} (hf : InF fs v f) : 0 ≤ ix fs f v := (F.at_ hf).1.1
theorem Fin.inn {c x : Int} : InF gs c x ↔ ∃ f v, InF fs v f ∧ x = ix fs f v ∧ (c = v ∨ c = en n (buildT n fs) v (nx fs f v) ∨ c = n + (buildT n fs).ed.length + f ∨ c = en n (buildT n fs) v (pv fs f v)) := by
  constructor
  · rintro ⟨x0, x1, hm⟩
    obtain ⟨f, v, hf, rfl⟩ := F.ex x0 x1
    rw [(F.at_ hf).2] at hm
    unfold cell at hm
    simp only [List.mem_cons, List.not_mem_nil, or_false] at hm
    exact ⟨f, v, hf, rfl, hm⟩
  · rintro ⟨f, v, hf, rfl, hc⟩
    have ha := F.at_ hf
    refine ⟨ha.1.1, ha.1.2, ?_⟩
    rw [ha.2]; unfold cell
    simp only [List.mem_cons, List.not_mem_nil, or_false]
    exact hc
theorem Fin.inV {v x : Int} (h1 : v < n) : InF gs v x ↔ ∃ f, InF fs v f ∧ x = ix fs f v := by
  rw [F.inn]
  constructor
  · rintro ⟨f, w, hf, rfl, hc⟩
    have r := F.rng hf
    have f0 := hf.1
    rcases hc with rfl | hc | hc | hc
    · exact ⟨f, hf, rfl⟩
    · omega
    · omega
    · omega
  · rintro ⟨f, hf, rfl⟩
    exact ⟨f, v, hf, rfl, .inl rfl⟩
theorem Fin.fan_v {v : Int} (h0 : 0 ≤ v) (h1 : v < n) : fanOK gs v = true := by
  obtain ⟨hh, hr⟩ := reach_fan F.ok h0 h1
  have hi : InF gs v (ix fs (headS fs v) v) := (F.inV h1).2 ⟨_, hh, rfl⟩
  refine reach_ok F.good hi fun x hx => ?_
  obtain ⟨f, hf, rfl⟩ := (F.inV h1).1 hx
  have key : ∀ g, Rch fs v (headS fs v) g → Rch gs v (ix fs (headS fs v) v) (ix fs g v) := fun g hg => by
    induction hg with
    | refl => exact .refl
    | step hy hs ih =>
      rename_i y
      have hin := Rch.in_ F.ok.2.1 hh hy
      have e := F.step_v hin hs
      have hg := of_side F.ok.2.1 hs
      have hpos := F.ix0 (f := stepS fs v y) (v := v) ⟨hs, hg.1, hg.2.1⟩
      have := Rch.step ih (by rw [e]; exact hpos)
      rwa [e] at this
  exact key f (hr f hf)
theorem Fin.fan_e {a b : Int} (hs : 0 ≤ alongS fs a b) : fanOK gs (en n (buildT n fs) a b) = true := by
  have hg := F.ok.2.1
  have o1 := of_side hg hs
  have o2 := of_side' hg hs
  have ia : InF fs a (alongS fs a b) := ⟨hs, o1.1, o1.2.1⟩
  have ib : InF fs b (alongS fs a b) := ⟨hs, o2.1, o2.2.1⟩
  have ea : nx fs (alongS fs a b) a = b := o1.2.2
  have eb : pv fs (alongS fs a b) b = a := o2.2.2
  have ra := (en_spec F.ok (.inl hs)).1
  have r1 : Rch gs (en n (buildT n fs) a b) (ix fs (alongS fs a b) b) (ix fs (alongS fs a b) a) := by
    have e := F.step_p ib
    rw [eb, show en n (buildT n fs) b a = en n (buildT n fs) a b from en_sym _ _ _] at e
    have := Rch.step (fs := gs) (c := en n (buildT n fs) a b) (x := ix fs (alongS fs a b) b) .refl (by rw [e]; exact F.ix0 ia)
    rwa [e] at this
  have r2 : 0 ≤ alongS fs b a → Rch gs (en n (buildT n fs) a b) (ix fs (alongS fs a b) b) (ix fs (alongS fs b a) a) ∧ Rch gs (en n (buildT n fs) a b) (ix fs (alongS fs a b) b) (ix fs (alongS fs b a) b) := fun hs2 => by
    have o3 := of_side hg hs2
    have o4 := of_side' hg hs2
    have ia2 : InF fs a (alongS fs b a) := ⟨hs2, o4.1, o4.2.1⟩
    have ib2 : InF fs b (alongS fs b a) := ⟨hs2, o3.1, o3.2.1⟩
    have ea2 : pv fs (alongS fs b a) a = b := o4.2.2
    have e := F.step_e ia (by rw [ea]; exact hs2)
    rw [ea] at e
    have q1 := Rch.step r1 (by rw [e]; exact F.ix0 ia2)
    rw [e] at q1
    have e2 := F.step_p ia2
    rw [ea2] at e2
    have q2 := Rch.step q1 (by rw [e2]; exact F.ix0 ib2)
    rw [e2] at q2
    exact ⟨q1, q2⟩
  have hi : InF gs (en n (buildT n fs) a b) (ix fs (alongS fs a b) b) := F.inn.2 ⟨_, _, ib, rfl, .inr (.inr (.inr (by rw [eb]; exact en_sym _ _ _)))⟩
  refine reach_ok F.good hi fun x hx => ?_
  obtain ⟨f, v, hf, rfl, hc⟩ := F.inn.1 hx
  have r := F.rng hf
  have d := F.sd hf
  have f0 := hf.1
  rcases hc with hc | hc | hc | hc
  · omega
  · rcases en_inj F.ok (.inl hs) (.inl (by rw [d.1]; exact f0)) hc with ⟨e1, e2⟩ | ⟨e1, e2⟩
    · rw [← e2, ← e1] at d; subst e1; rw [← d.1]; exact r1
    · rw [← e1, ← e2] at d; subst e2; rw [← d.1]; exact (r2 (by rw [d.1]; exact f0)).2
  · omega
  · rcases en_inj F.ok (.inl hs) (.inr (by rw [d.2]; exact f0)) hc with ⟨e1, e2⟩ | ⟨e1, e2⟩
    · rw [← e2, ← e1] at d; subst e1; rw [← d.2]; exact (r2 (by rw [d.2]; exact f0)).1
    · rw [← e1, ← e2] at d; subst e2; rw [← d.2]; exact .refl
theorem Fin.fan_f {f : Int} (f0 : 0 ≤ f) (f1 : f < fs.length) : fanOK gs (n + (buildT n fs).ed.length + f) = true := by
  have hg := F.ok.2.1
  have h3 := (hg f f0 f1).1
  have hin : ∀ i : Int, 0 ≤ i → i < (AH.at_ fs f).length → InF fs (AH.at_ (AH.at_ fs f) i) f := fun i i0 i1 => ⟨f0, f1, at_mem i0 i1⟩
  have h0 := hin 0 (by omega) (by omega)
  have hi : InF gs (n + (buildT n fs).ed.length + f) (ix fs f (AH.at_ (AH.at_ fs f) 0)) := F.inn.2 ⟨_, _, h0, rfl, .inr (.inr (.inl rfl))⟩
  have key : ∀ i : Nat, i < (AH.at_ fs f).length → Rch gs (n + (buildT n fs).ed.length + f) (ix fs f (AH.at_ (AH.at_ fs f) 0)) (ix fs f (AH.at_ (AH.at_ fs f) (i : Int))) := by
    intro i
    induction i with
    | zero => intro _; exact .refl
    | succ i ih =>
      intro hlt
      have hii := hin i (by omega) (by omega)
      have e := F.step_f hii
      have en_ : nx fs f (AH.at_ (AH.at_ fs f) (i : Int)) = AH.at_ (AH.at_ fs f) ((i + 1 : Nat) : Int) := by
        have := nextS_at (good_apart hg f0 f1) (i := (i : Int)) (b := 1) (by omega) (by omega)
        show nextS (AH.at_ fs f) _ 1 = _
        rw [this]; congr 1
        rw [show (i : Int) + ((AH.at_ fs f).length : Int) + 1 = ((i + 1 : Nat) : Int) + (AH.at_ fs f).length by omega, Int.add_emod_right]
        exact Int.emod_eq_of_lt (by omega) (by omega)
      rw [en_] at e
      have := Rch.step (ih (by omega)) (by rw [e]; exact F.ix0 (hin _ (by omega) (by omega)))
      rwa [e] at this
  refine reach_ok F.good hi fun x hx => ?_
  obtain ⟨g, v, hgv, rfl, hc⟩ := F.inn.1 hx
  have r := F.rng hgv
  have g0 := hgv.1
  have hgf : g = f := by
    rcases hc with hc | hc | hc | hc <;> omega
  subst hgf
  obtain ⟨i, i0, i1, rfl⟩ := mem_at hgv.2.2
  have := key i.toNat (by omega)
  rwa [Int.toNat_of_nonneg i0] at this
theorem Fin.okS : okS (Nf n fs) gs := by
  have hn := F.ok.1
  refine ⟨by unfold Nf; omega, F.good, fun c c0 c1 => ?_⟩
  unfold Nf at c1
  by_cases h1 : c < n
  · exact F.fan_v c0 h1
  · by_cases h2 : c < n + (buildT n fs).ed.length
    · have k0 : 0 ≤ c - n := by omega
      have k1 : c - n < (buildT n fs).ed.length := by omega
      have hm := at_mem k0 k1
      generalize he : AH.at_ (buildT n fs).ed (c - n) = e at hm
      rw [(build_ok F.ok).1] at hm
      obtain ⟨a0, ab, bn, hF, hG, hp⟩ := mem_eOut.1 hm
      have hside : 0 ≤ alongS fs e.A e.B ∨ 0 ≤ alongS fs e.B e.A := by rw [← hF, ← hG]; exact hp
      have hs := en_spec F.ok hside
      have hidx := ed_idx F.ok (i := en n (buildT n fs) e.A e.B - n) (j := c - n) (by omega) (by omega) k0 k1 (by rw [hs.2.1, he]; omega) (by rw [hs.2.2, he]; omega)
      have hc : c = en n (buildT n fs) e.A e.B := by omega
      rw [hc]
      rcases hside with g | g
      · exact F.fan_e g
      · rw [en_sym]; exact F.fan_e g
    · have := F.fan_f (f := c - n - (buildT n fs).ed.length) (by omega) (by omega)
      rwa [show n + ((buildT n fs).ed.length : Int) + (c - n - (buildT n fs).ed.length) = c by omega] at this
end
end Go.Proofs.U
namespace Go.Proofs.U
open Go Go.AH Go.Proofs.T
set_option maxRecDepth 4000
set_option linter.unusedSectionVars false
section
variable {n : Int} {fs gs : List (List Int)} (F : Fin n fs gs)
include F
theorem Fin.pred {f v : Int} (hf : InF fs v f) (h1 : v < n) : 0 ≤ alongS gs (nextS (AH.at_ gs (ix fs f v)) v 1) v ↔ 0 ≤ alongS fs (nx fs f v) v := by
  have hn := (F.nexts hf ((way_cell F).2 (.inl ⟨rfl, rfl⟩))).1
  have hg := F.ok.2.1
  have d := F.sd hf
  rw [hn]
  constructor
  · intro h
    obtain ⟨y1, hw, _⟩ := along_some h
    obtain ⟨g, w, hgw, e⟩ := F.ex h y1
    rw [e, (F.at_ hgw).2, way_cell F] at hw
    have r1 := F.rng hf
    have r2 := F.rng hgw
    have g0 := hgw.1
    rcases hw with ⟨p, q⟩ | ⟨p, q⟩ | ⟨p, q⟩ | ⟨p, q⟩
    · omega
    · omega
    · omega
    · subst q
      have d2 := F.sd hgw
      rcases en_inj F.ok (.inl (by rw [d.1]; exact hf.1)) (.inr (by rw [d2.2]; exact g0)) p with ⟨_, k⟩ | ⟨k, _⟩
      · show 0 ≤ alongS fs (nx fs f v) v
        rw [k, d2.2]; exact g0
      · exact absurd k.symm (three hg hgw).2.2.2.1
  · intro h
    have o := of_side' hg h
    have hi : InF fs v (alongS fs (nx fs f v) v) := ⟨h, o.1, o.2.1⟩
    have e : pv fs (alongS fs (nx fs f v) v) v = nx fs f v := o.2.2
    rw [F.al hi ((way_cell F).2 (.inr (.inr (.inr ⟨by rw [e], rfl⟩))))]
    exact F.ix0 hi
theorem Fin.round {v : Int} (h0 : 0 ≤ v) (h1 : v < n) : fanR gs v = fanR fs v := by
  obtain ⟨hh, _⟩ := reach_fan F.ok h0 h1
  have hi : InF gs v (ix fs (headS fs v) v) := (F.inV h1).2 ⟨_, hh, rfl⟩
  rw [Bool.eq_iff_iff, round_all hi, round_all hh]
  constructor
  · intro h f hf
    exact (F.pred hf h1).1 (h _ ((F.inV h1).2 ⟨f, hf, rfl⟩))
  · intro h x hx
    obtain ⟨f, hf, rfl⟩ := (F.inV h1).1 hx
    exact (F.pred hf h1).2 (h f hf)
end
structure QuadF (vs : List VT) (fs : List (List Int)) (cr : List CrT) : Prop where
  ok : okS (levelR vs fs cr).1.Verts.length (levelR vs fs cr).1.Faces
  vl : ((levelR vs fs cr).1.Verts.length : Int) = (vs.length : Int) + (buildT vs.length fs).ed.length + fs.length
  fl : ((levelR vs fs cr).1.Faces.length : Int) = T.sumL fs
  four : ∀ l ∈ (levelR vs fs cr).1.Faces, l.length = 4
  rnd : ∀ v : Int, 0 ≤ v → v < vs.length → at_ (buildT (levelR vs fs cr).1.Verts.length (levelR vs fs cr).1.Faces).rnd v = at_ (buildT vs.length fs).rnd v
  fan : ∀ v : Int, 0 ≤ v → v < vs.length → (at_ (buildT (levelR vs fs cr).1.Verts.length (levelR vs fs cr).1.Faces).fan v).length = (at_ (buildT vs.length fs).fan v).length
section
variable {vs : List VT} {fs : List (List Int)} {cr : List CrT}
end
end Go.Proofs.U
namespace Go.Proofs.U
open Go Go.AH Go.Proofs.T
theorem rnd_len {n : Int} {fs : List (List Int)} (h : okS n fs) : ((buildT n fs).rnd.length : Int) = n := by
  have := h.1
  rw [(build_ok h).1]; simp [rndU]; omega
end Go.Proofs.U
namespace Go.AH
variable [Globs]
set_option linter.unusedSectionVars false
open Go
variable {P : Program} {n d : Nat} {f : Nat → AV} {H : Heap} {K : (Nat → AV) → Heap → Prop} {ty : TypeId} {pos : String} {after : Array Edge} {guard : Option (Nat × Bool)}
theorem AOp.arrPtrS {t e : TypeId} {k : Nat} {x : Operand} {len : Nat} {cells : List AV} (hn : Nat.ble (d + 1) n = true) (hx : ev f x = .sl len cells) (ht : P.underlying t = some (.array k e)) (h0 : 0 < k) (h1 : k ≤ len)
    (hK : K (upd f d (.fptr cells 0)) H) : AOp P n ⟨some d, .sliceToArrayPointer t x, ty, pos, after, guard⟩ K f H :=
  .pureV _ hn (fun μ a w hs => by
    have g1 := hs.ev x; rw [hx] at g1
    generalize hz : a.eval x = z at g1
    cases g1 with
    | sl0 => omega
    | sl hl hb hc hv =>
      rename_i cap b o ys
      refine ⟨.pointer (some ⟨b, o + 0, none⟩), ?_, .fptr hb hc hv⟩
      have hlt : ¬ len < k := by omega
      simp [execOp, hz, Instr.arrayAt, run_under ht, hlt]) hK
end Go.AH
namespace Go.Proofs.U
open Go Go.AH Go.Proofs.T
set_option maxRecDepth 4000
def crossV (a b : VT) : VT := ⟨a.Y * b.Z - a.Z * b.Y, a.Z * b.X - a.X * b.Z, a.X * b.Y - a.Y * b.X⟩
def halfV (v : VT) : VT := ⟨Int.tdiv v.X 2, Int.tdiv v.Y 2, Int.tdiv v.Z 2⟩
def cutF (m : Int) : Nat → VT → VT
  | 0, v => v
  | n + 1, v => if inV m v then v else cutF m n (halfV v)
theorem cut_T {m : Int} {j : Nat} {v : VT} (h : inV m v) : cutF m j v = v := by
  cases j with
  | zero => rfl
  | succ j => unfold cutF; rw [if_pos h]
theorem cut_F {m : Int} {j : Nat} {v : VT} (h : ¬ inV m v) : cutF m (j + 1) v = cutF m j (halfV v) := by
  conv => lhs; unfold cutF
  rw [if_neg h]
theorem half_in {c : Int} {v : VT} (h : inV (2 * c) v) : inV c (halfV v) := by
  have key : ∀ x : Int, -(2 * c) ≤ x ∧ x ≤ 2 * c → -c ≤ Int.tdiv x 2 ∧ Int.tdiv x 2 ≤ c := fun x hx => by
    have e := Int.tmod_add_mul_tdiv x 2
    have b := tmod_rng (n := x) (d := 2) (by decide)
    omega
  exact ⟨key _ h.1, key _ h.2.1, key _ h.2.2⟩
def twoP (j : Int) : Int := ((2 ^ j.toNat : Nat) : Int)
theorem twoP_step {j : Int} (h : 1 ≤ j) : twoP j = 2 * twoP (j - 1) := by
  have e : j.toNat = (j - 1).toNat + 1 := by omega
  unfold twoP; rw [e, Nat.pow_succ]; push_cast; omega
theorem twoP_62 {j : Int} (h : j ≤ 62) : twoP j ≤ 4611686018427387904 := by
  have := Nat.pow_le_pow_right (n := 2) (by decide) (show j.toNat ≤ 62 by omega)
  unfold twoP
  have e : (2 : Nat) ^ 62 = 4611686018427387904 := by decide
  omega
theorem twoP_0 : twoP 0 = 1 := rfl
def wsum (l : List WgT) : VT := l.foldl (fun s p => addV s (scaleV p.V p.k)) zV
theorem wsum_step {l : List WgT} {i : Int} (h0 : 0 ≤ i) (h1 : i < l.length) : addV (wsum (l.take i.toNat)) (scaleV (at_ l i).V (at_ l i).k) = wsum (l.take (i + 1).toNat) := by
  rw [take_step h0 h1]; unfold wsum; rw [List.foldl_append]; rfl
theorem wsum_in {C : Int} {l : List WgT} {i : Int} (h0 : 0 ≤ i) (h1 : i < l.length) (h : inV (C * i) (wsum (l.take i.toNat))) (hx : inV C (scaleV (at_ l i).V (at_ l i).k)) : inV (C * (i + 1)) (wsum (l.take (i + 1).toNat)) := by
  rw [← wsum_step h0 h1]
  refine inV_le (inV_add h hx) ?_
  rw [Int.mul_add]; omega
def idxI (l : List Int) (v : Int) : Int := if v ∈ l then (l.idxOf v : Nat) else -1
theorem idx_hit {l : List Int} {v i : Int} (h0 : 0 ≤ i) (h1 : i < l.length) (hi : v = at_ l i) (hp : ∀ j : Int, 0 ≤ j → j < i → v ≠ at_ l j) : i = idxI l v := by
  have hm : v ∈ l := hi ▸ at_mem h0 h1
  unfold idxI; rw [if_pos hm]
  have h2 := List.idxOf_lt_length_of_mem hm
  have h3 := idx_in hm
  rcases Int.lt_trichotomy i (l.idxOf v : Nat) with g | g | g
  · exfalso
    have := List.not_of_lt_findIdx (p := (· == v)) (xs := l) (i := i.toNat) (by show i.toNat < l.idxOf v; omega)
    have e : at_ l i = l[i.toNat]'(by omega) := by simp [at_, show i.toNat < l.length by omega]
    rw [← e, ← hi] at this
    simp at this
  · exact g
  · exact absurd h3.symm (hp _ (by omega) g)
theorem idx_none {l : List Int} {v i : Int} (h1 : (l.length : Int) ≤ i) (hp : ∀ j : Int, 0 ≤ j → j < i → v ≠ at_ l j) : (-1 : Int) = idxI l v := by
  unfold idxI
  rw [if_neg]
  intro hm
  obtain ⟨j, j0, j1, e⟩ := mem_at hm
  exact hp j j0 (by omega) e.symm
end Go.Proofs.U
namespace Go.Proofs.U
open Go Go.AH Go.Proofs.T
set_option maxRecDepth 4000
set_option linter.unusedSimpArgs false
set_option linter.unusedVariables false
set_option maxHeartbeats 4000000
theorem c_vSub (a b : VT) (ha : inV 2305843009213693952 a) (hb : inV 2305843009213693952 b) : PC Try.prog 84 [.agg [.int .i64 a.X, .int .i64 a.Y, .int .i64 a.Z], .agg [.int .i64 b.X, .int .i64 b.Y, .int .i64 b.Z]] (.agg [.int .i64 ((subV a b).X), .int .i64 ((subV a b).Y), .int .i64 ((subV a b).Z)]) := by
 intro H0
 simp only [inV] at ha hb
 refine ACalls.of_body' (n := 21) rfl rfl rfl rfl ?_
 have m0 := Mono.refl H0
 refine Sr ?_
 refine C rfl (bx_ (.agg (eV a)) rfl rfl rfl ?_)
 intro i1 H2 n3 h4 k5
 have z6 := Mono.free m0 n3
 have m7 := Mono.new m0 n3 k5
 refine C rfl (bx_ (.agg (eV b)) rfl rfl rfl ?_)
 intro i8 H9 n10 h11 k12
 have e13 := ne_new h4 n10
 have z14 := Mono.free m7 n10
 have h15 := keep k12 (ne_new h4 n10) h4
 have m16 := Mono.new m7 n10 k12
 refine C rfl (al_ rfl tz_42 ?_)
 intro i17 H18 n19 h20 k21
 have e22 := ne_new h15 n19
 have e23 := ne_new h11 n19
 have z24 := Mono.free m16 n19
 have h25 := keep k21 (ne_new h15 n19) h15
 have h26 := keep k21 (ne_new h11 n19) h11
 have m27 := Mono.new m16 n19 k21
 refine AWP.seq ?_
 refine fz_ 2 h25 z6 rfl m27 fun H28 m29 k30 => ?_
 have h31 := (k30 _ (Ne.symm e13)).trans h26
 have h32 := (k30 _ (Ne.symm e22)).trans h20
 refine fz_ 3 h31 z14 rfl m29 fun H33 m34 k35 => ?_
 have h36 := (k35 _ (Ne.symm e23)).trans h32
 refine AWP.region rfl ?_
 refine F rfl rfl fl_42_0 (L rfl rfl ty_3 rfl (F rfl rfl fl_42_0 (L rfl rfl ty_3 rfl (B rfl rfl rfl (isub (by omega)) (F rfl rfl fl_42_1 (L rfl rfl ty_3 rfl (F rfl rfl fl_42_1 (L rfl rfl ty_3 rfl (B rfl rfl rfl (isub (by omega)) (F rfl rfl fl_42_2 (L rfl rfl ty_3 rfl (F rfl rfl fl_42_2 (L rfl rfl ty_3 rfl (B rfl rfl rfl (isub (by omega)) (C rfl (Bl (cells := [.int .i64 (a.X - b.X), .int .i64 (a.Y - b.Y), .int .i64 (a.Z - b.Z)]) rfl tz_42 pl_42 rfl rfl (C rfl (Sw rfl rfl ts_42 h36 rfl rfl rfl ?_))))))))))))))))))
 intro H37 h38 k39
 have m41 := Mono.set m34 z24 k39
 refine rt_ ?_
 refine Rr (Res.list1 rfl (.cell (v := .agg [.int .i64 (a.X - b.X), .int .i64 (a.Y - b.Y), .int .i64 (a.Z - b.Z)]) rfl ty_42 h38 rfl (.nil))) ?_ m41
 exact (congrArg AV.agg (lc (congrArg (AV.int .i64) (show (a.X - b.X : Int) = (subV a b).X from by rfl)) (lc (congrArg (AV.int .i64) (show (a.Y - b.Y : Int) = (subV a b).Y from by rfl)) (lc (congrArg (AV.int .i64) (show (a.Z - b.Z : Int) = (subV a b).Z from by rfl)) rfl))))
theorem c_vCross (a b : VT) (ha : inV 131072 a) (hb : inV 131072 b) : PC Try.prog 83 [.agg [.int .i64 a.X, .int .i64 a.Y, .int .i64 a.Z], .agg [.int .i64 b.X, .int .i64 b.Y, .int .i64 b.Z]] (.agg [.int .i64 ((crossV a b).X), .int .i64 ((crossV a b).Y), .int .i64 ((crossV a b).Z)]) := by
 intro H0
 simp only [inV] at ha hb
 have hp0 := mul_rng (x := a.Y) (k := b.Z) (a := 131072) (c := 131072) (by omega) (by omega)
 have hp1 := mul_rng (x := a.Z) (k := b.Y) (a := 131072) (c := 131072) (by omega) (by omega)
 have hp2 := mul_rng (x := a.Z) (k := b.X) (a := 131072) (c := 131072) (by omega) (by omega)
 have hp3 := mul_rng (x := a.X) (k := b.Z) (a := 131072) (c := 131072) (by omega) (by omega)
 have hp4 := mul_rng (x := a.X) (k := b.Y) (a := 131072) (c := 131072) (by omega) (by omega)
 have hp5 := mul_rng (x := a.Y) (k := b.X) (a := 131072) (c := 131072) (by omega) (by omega)
 refine ACalls.of_body' (n := 39) rfl rfl rfl rfl ?_
 have m0 := Mono.refl H0
 refine Sr ?_
 refine C rfl (bx_ (.agg (eV a)) rfl rfl rfl ?_)
 intro i1 H2 n3 h4 k5
 have z6 := Mono.free m0 n3
 have m7 := Mono.new m0 n3 k5
 refine C rfl (bx_ (.agg (eV b)) rfl rfl rfl ?_)
 intro i8 H9 n10 h11 k12
 have e13 := ne_new h4 n10
 have z14 := Mono.free m7 n10
 have h15 := keep k12 (ne_new h4 n10) h4
 have m16 := Mono.new m7 n10 k12
 refine C rfl (al_ rfl tz_42 ?_)
 intro i17 H18 n19 h20 k21
 have e22 := ne_new h15 n19
 have e23 := ne_new h11 n19
 have z24 := Mono.free m16 n19
 have h25 := keep k21 (ne_new h15 n19) h15
 have h26 := keep k21 (ne_new h11 n19) h11
 have m27 := Mono.new m16 n19 k21
 refine AWP.seq ?_
 refine fz_ 2 h25 z6 rfl m27 fun H28 m29 k30 => ?_
 have h31 := (k30 _ (Ne.symm e13)).trans h26
 have h32 := (k30 _ (Ne.symm e22)).trans h20
 refine fz_ 3 h31 z14 rfl m29 fun H33 m34 k35 => ?_
 have h36 := (k35 _ (Ne.symm e23)).trans h32
 refine AWP.region rfl ?_
 refine F rfl rfl fl_42_1 (L rfl rfl ty_3 rfl (F rfl rfl fl_42_2 (L rfl rfl ty_3 rfl (B rfl rfl rfl (imul (by omega)) (F rfl rfl fl_42_2 (L rfl rfl ty_3 rfl (F rfl rfl fl_42_1 (L rfl rfl ty_3 rfl (B rfl rfl rfl (imul (by omega)) (B rfl rfl rfl (isub (by omega)) (F rfl rfl fl_42_2 (L rfl rfl ty_3 rfl (F rfl rfl fl_42_0 (L rfl rfl ty_3 rfl (B rfl rfl rfl (imul (by omega)) (F rfl rfl fl_42_0 (L rfl rfl ty_3 rfl ?_)))))))))))))))))
 refine F rfl rfl fl_42_2 (L rfl rfl ty_3 rfl (B rfl rfl rfl (imul (by omega)) (B rfl rfl rfl (isub (by omega)) (F rfl rfl fl_42_0 (L rfl rfl ty_3 rfl (F rfl rfl fl_42_1 (L rfl rfl ty_3 rfl (B rfl rfl rfl (imul (by omega)) (F rfl rfl fl_42_1 (L rfl rfl ty_3 rfl (F rfl rfl fl_42_0 (L rfl rfl ty_3 rfl (B rfl rfl rfl (imul (by omega)) (B rfl rfl rfl (isub (by omega)) (C rfl (Bl (cells := [.int .i64 (a.Y * b.Z - (a.Z * b.Y)), .int .i64 (a.Z * b.X - (a.X * b.Z)), .int .i64 (a.X * b.Y - (a.Y * b.X))]) rfl tz_42 pl_42 rfl rfl (C rfl (Sw rfl rfl ts_42 h36 rfl rfl rfl ?_))))))))))))))))))
 intro H37 h38 k39
 have m41 := Mono.set m34 z24 k39
 refine rt_ ?_
 refine Rr (Res.list1 rfl (.cell (v := .agg [.int .i64 (a.Y * b.Z - (a.Z * b.Y)), .int .i64 (a.Z * b.X - (a.X * b.Z)), .int .i64 (a.X * b.Y - (a.Y * b.X))]) rfl ty_42 h38 rfl (.nil))) ?_ m41
 exact (congrArg AV.agg (lc (congrArg (AV.int .i64) (show (a.Y * b.Z - (a.Z * b.Y) : Int) = (crossV a b).X from by rfl)) (lc (congrArg (AV.int .i64) (show (a.Z * b.X - (a.X * b.Z) : Int) = (crossV a b).Y from by rfl)) (lc (congrArg (AV.int .i64) (show (a.X * b.Y - (a.Y * b.X) : Int) = (crossV a b).Z from by rfl)) rfl))))
theorem c_of2 (s : VT) (d : Int) (hs : inV 2305843009213693952 s) (hd : 1 ≤ d ∧ d ≤ 2305843009213693952) : PC Try.prog 80 [.agg [.int .i64 s.X, .int .i64 s.Y, .int .i64 s.Z], .int .i64 d] (.agg [.int .i64 ((ofV s d).X), .int .i64 ((ofV s d).Y), .int .i64 ((ofV s d).Z)]) := by
 intro H0
 simp only [inV] at hs
 refine ACalls.of_body' (n := 18) rfl rfl rfl rfl ?_
 have m0 := Mono.refl H0
 refine Sr ?_
 refine C rfl (bx_ (.agg (eV s)) rfl rfl rfl ?_)
 intro i1 H2 n3 h4 k5
 have z6 := Mono.free m0 n3
 have m7 := Mono.new m0 n3 k5
 refine C rfl (al_ rfl tz_42 ?_)
 intro i8 H9 n10 h11 k12
 have e13 := ne_new h4 n10
 have z14 := Mono.free m7 n10
 have h15 := keep k12 (ne_new h4 n10) h4
 have m16 := Mono.new m7 n10 k12
 refine AWP.seq ?_
 refine fz_ 2 h15 z6 rfl m16 fun H17 m18 k19 => ?_
 have h20 := (k19 _ (Ne.symm e13)).trans h11
 refine AWP.region_quiet mixed (by kernel_rfl) 13 [13] rfl (by kernel_rfl) (Mono H17) (Mono.refl _) ?_
 refine QF rfl rfl fl_42_0 (QL rfl rfl ty_3 rfl (QV rfl rfl (Q rfl (fun _ _ φ ψ => Pc («as» := [.int .i64 s.X, .int .i64 d]) rfl rfl (lapp (lcons (φ 6 rfl) (lcons (φ 7 rfl) rfl)) rfl) tf_75 (c_vRound _ _ (by omega) (by omega)) fun H2 m2 => ⟨rfl, ψ.trans m2⟩) (QF rfl rfl fl_42_1 (QL rfl rfl ty_3 rfl (QV rfl rfl (Q rfl (fun _ _ φ ψ => Pc («as» := [.int .i64 s.Y, .int .i64 d]) rfl rfl (lapp (lcons (φ 10 rfl) (lcons (φ 11 rfl) rfl)) rfl) tf_75 (c_vRound _ _ (by omega) (by omega)) fun H2 m2 => ⟨rfl, ψ.trans m2⟩) (QF rfl rfl fl_42_2 (QL rfl rfl ty_3 rfl (QV rfl rfl (Q rfl (fun _ _ φ ψ => Pc («as» := [.int .i64 s.Z, .int .i64 d]) rfl rfl (lapp (lcons (φ 14 rfl) (lcons (φ 15 rfl) rfl)) rfl) tf_75 (c_vRound _ _ (by omega) (by omega)) fun H2 m2 => ⟨rfl, ψ.trans m2⟩) (Q rfl (fun _ _ φ ψ => Bl (cells := [.int .i64 (roundZ s.X d), .int .i64 (roundZ s.Y d), .int .i64 (roundZ s.Z d)]) rfl tz_42 pl_42 (lconsP (φ 8 rfl) (lconsP (φ 12 rfl) (lconsP (φ 16 rfl) rfl))) rfl ⟨rfl, ψ⟩) ?_))))))))))))
 refine QE.done fun H21 m22 => ?_
 have h23 := m22 _ _ h20
 have m24 := m18.trans m22
 refine C rfl (Sw rfl rfl ts_42 h23 rfl rfl rfl ?_)
 intro H25 h26 k27
 have m29 := Mono.set m24 z14 k27
 refine rt_ ?_
 refine Rr (Res.list1 rfl (.cell (v := .agg [.int .i64 (roundZ s.X d), .int .i64 (roundZ s.Y d), .int .i64 (roundZ s.Z d)]) rfl ty_42 h26 rfl (.nil))) ?_ m29
 exact (congrArg AV.agg (lc (congrArg (AV.int .i64) (show (roundZ s.X d : Int) = (ofV s d).X from by rfl)) (lc (congrArg (AV.int .i64) (show (roundZ s.Y d : Int) = (ofV s d).Y from by rfl)) (lc (congrArg (AV.int .i64) (show (roundZ s.Z d : Int) = (ofV s d).Z from by rfl)) rfl))))
theorem c_psum (l : List WgT) (hl : l.length ≤ 1000) (hv : ∀ p ∈ l, inV 1125899906842624 (scaleV p.V p.k)) : PC Try.prog 81 [.sl l.length (l.flatMap eWg)] (.agg [.int .i64 ((wsum l).X), .int .i64 ((wsum l).Y), .int .i64 ((wsum l).Z)]) := by
 intro H0
 refine ACalls.of_body' (n := 21) rfl rfl rfl rfl ?_
 have m0 := Mono.refl H0
 refine Sr ?_
 refine C rfl (al_ rfl tz_42 ?_)
 intro i1 H2 n3 h4 k5
 have z6 := Mono.free m0 n3
 have m7 := Mono.new m0 n3 k5
 refine Sr ?_
 refine C rfl (al_ rfl tz_42 ?_)
 intro i8 H9 n10 h11 k12
 have e13 := ne_new h4 n10
 have z14 := Mono.free m7 n10
 have h15 := keep k12 (ne_new h4 n10) h4
 have m16 := Mono.new m7 n10 k12
 refine AWP.seq ?_
 refine Sr ?_
 refine V rfl rfl (C rfl (AOp.len (m := l.length) rfl rfl (.inr (.inl ⟨_, rfl⟩)) u_146 (V rfl rfl ?_)))
 refine bk_ ?_
 refine AWP.loop (fun q17 fq Hq => ∃ (i : Int), q17 = (((l.length : Int) : Int) - i).toNat ∧ fq 8 = .int .i64 i ∧ fq 2 = .ptr i1 0 0 ∧ fq 3 = .ptr i8 0 0 ∧ fq 6 = .sl l.length (l.flatMap eWg) ∧ fq 7 = .int .i64 (l.length : Int) ∧ Hq i1 = some (.row 0 ([.int .i64 0, .int .i64 0, .int .i64 0])) ∧ Hq i8 = some (.row 0 ((eV (wsum (l.take i.toNat))))) ∧ Mono H0 Hq ∧ (0 ≤ i) ∧ (i ≤ (l.length : Int)) ∧ (inV (1125899906842624 * i) (wsum (l.take i.toNat)))) (k := (((l.length : Int) : Int) - 0).toNat) ?_ ?_
 exact ⟨0, rfl, rfl, rfl, rfl, rfl, rfl, h15, (h11.trans (congrArg (fun c => some (AB.row 0 c)) (show ([.int .i64 0, .int .i64 0, .int .i64 0] : List AV) = (eV (wsum (l.take (0 : Int).toNat))) from by first | rfl | (rw [wsum_step hi0 (by omega)])))), m16, by omega, by omega, by exact z_in (by omega)⟩
 rintro _ f19 H18 ⟨i, rfl, s20, s21, s22, s23, s24, h25, h26, m27, hi0, hi1, hin⟩
 refine Sr ?_
 refine B rfl s20 s24 rfl ?_
 refine AWP.seq ?_
 by_cases b28 : i < (l.length : Int)
 refine ct_ rfl (decide_eq_true b28) ?_
 refine AWP.skip ?_
 refine AWP.seq ?_
 refine bk_ ?_
 refine Sr ?_
 refine C rfl (iS_ rfl s23 s20 sl_146 (by omega) (by omega) (L rfl rfl ty_134 (ldM eWg_len (by omega) (by omega)) (C rfl (al_ rfl tz_134 ?_))))
 intro i29 H30 n31 h32 k33
 have e34 := ne_new h25 n31
 have e35 := ne_new h26 n31
 have z36 := Mono.free m27 n31
 have h37 := keep k33 (ne_new h25 n31) h25
 have h38 := keep k33 (ne_new h26 n31) h26
 have m39 := Mono.new m27 n31 k33
 refine C rfl (Sw rfl rfl ts_134 h32 rfl rfl rfl ?_)
 intro H40 h41 k42
 have h43 := keep k42 e34 h37
 have h44 := keep k42 e35 h38
 have m46 := Mono.set m39 z36 k42
 refine fz_ 5 h41 z36 rfl m46 fun H47 m48 k49 => ?_
 have h50 := (k49 _ e34).trans h43
 have h51 := (k49 _ e35).trans h44
 have hp := hv _ (at_mem hi0 (by omega : i < l.length))
 have hp2 : inV 2305843009213693952 (scaleV (at_ l i).V (at_ l i).k) := inV_le hp (by decide)
 have hA : inV 2305843009213693952 (wsum (l.take i.toNat)) := inV_le hin (by omega)
 refine AWP.region_quiet mixed (by kernel_rfl) 7 [7] rfl (by kernel_rfl) (Mono H47) (Mono.refl _) ?_
 refine Q rfl (fun _ _ φ ψ => Ld _ rfl ((φ 3 rfl).trans s22) ty_42 (ψ _ _ h51) rfl ⟨rfl, ψ⟩) (QF rfl rfl fl_134_1 (QL rfl rfl ty_42 rfl (QF rfl rfl fl_134_0 (QL rfl rfl ty_3 rfl (Q rfl (fun _ _ φ ψ => Pc («as» := [.agg (eV ((at_ l i).V)), .int .i64 ((at_ l i).k)]) rfl rfl (lapp (lcons (φ 14 rfl) (lcons (φ 16 rfl) rfl)) rfl) tf_74 (c_vScale ((at_ l i).V) ((at_ l i).k) (by assumption)) fun H2 m2 => ⟨rfl, ψ.trans m2⟩) (Q rfl (fun _ _ φ ψ => Pc («as» := [.agg (eV (wsum (l.take i.toNat))), .agg (eV (scaleV ((at_ l i).V) ((at_ l i).k)))]) rfl rfl (lapp (lcons (φ 12 rfl) (lcons (φ 17 rfl) rfl)) rfl) tf_73 (c_vAdd (wsum (l.take i.toNat)) (scaleV ((at_ l i).V) ((at_ l i).k)) (by assumption) (by assumption)) fun H2 m2 => ⟨rfl, ψ.trans m2⟩) ?_))))))
 refine QE.done fun H52 m53 => ?_
 have h54 := m53 _ _ h50
 have h55 := m53 _ _ h51
 have m56 := m48.trans m53
 refine C rfl (Sw s22 rfl ts_42 h55 rfl rfl rfl ?_)
 intro H57 h58 k59
 have h60 := keep k59 e13 h54
 have m62 := Mono.set m56 z14 k59
 refine AWP.region rfl ?_
 refine B rfl s20 rfl (iadd (by omega)) (V rfl rfl ?_)
 refine AOps.nil ?_
 exact ⟨_, by omega, i + 1, rfl, rfl, s21, s22, s23, s24, h60, (h58.trans (congrArg (fun c => some (AB.row 0 c)) (show ((eV (addV (wsum (l.take i.toNat)) (scaleV ((at_ l i).V) ((at_ l i).k)))) : List AV) = (eV (wsum (l.take (i + 1).toNat))) from by first | rfl | (rw [wsum_step hi0 (by omega)])))), m62, by omega, by omega, by exact wsum_in hi0 (by omega) hin hp⟩
 refine cf_ rfl (decide_eq_false b28) ?_
 refine AWP.exit ?_
 change AWP _ _ _ _ _ _
 refine Sr ?_
 refine C rfl (Ld _ rfl s22 ty_42 h26 rfl (C rfl (Sw s21 rfl ts_42 h25 rfl rfl rfl ?_)))
 intro H63 h64 k65
 have m68 := Mono.set m27 z6 k65
 refine rt_ ?_
 refine Rr (Res.list1 rfl (.cell (v := .agg (eV (wsum (l.take i.toNat)))) s21 ty_42 h64 rfl (.nil))) ?_ m68
 exact (congrArg (fun x : VT => AV.agg (eV x)) (show (wsum (l.take i.toNat) : VT) = wsum l from by rw [take_all (by omega)]))
theorem c_Index (l : List Int) (v : Int) (hl : l.length ≤ 1048576) : PC Try.prog 76 [.sl l.length (l.map eI), .int .i64 v] (.int .i64 (idxI l v)) := by
 intro H0
 refine ACalls.of_body' (n := 19) rfl rfl rfl rfl ?_
 have m0 := Mono.refl H0
 refine Sr ?_
 refine A rfl rfl ?_
 refine AWP.seq ?_
 refine Sr ?_
 refine V rfl rfl (C rfl (AOp.len (m := l.length) rfl rfl (.inr (.inl ⟨_, rfl⟩)) u_38 (V rfl rfl ?_)))
 refine bk_ ?_
 refine AWP.loop (fun q1 fq Hq => ∃ (i : Int), q1 = (((l.length : Int) : Int) - i).toNat ∧ fq 8 = .int .i64 i ∧ fq 0 = .sl l.length (l.map eI) ∧ fq 1 = .int .i64 v ∧ fq 7 = .int .i64 (l.length : Int) ∧ Mono H0 Hq ∧ (0 ≤ i) ∧ (i ≤ (l.length : Int)) ∧ (∀ j : Int, 0 ≤ j → j < i → v ≠ at_ l j)) (k := (((l.length : Int) : Int) - 0).toNat) ?_ ?_
 exact ⟨0, rfl, rfl, rfl, rfl, rfl, m0, by omega, by omega, by intro j; omega⟩
 rintro _ f3 H2 ⟨i, rfl, s4, s5, s6, s7, m8, hi0, hi1, pre⟩
 refine Sr ?_
 refine B rfl s4 s7 rfl ?_
 refine AWP.seq ?_
 by_cases b9 : i < (l.length : Int)
 refine ct_ rfl (decide_eq_true b9) ?_
 refine AWP.skip ?_
 refine AWP.seq ?_
 refine bk_ ?_
 refine Sr ?_
 refine V rfl s4 (A rfl rfl ?_)
 refine Sr ?_
 refine V rfl s6 (V rfl s5 (V rfl rfl (C rfl (iS_ rfl rfl rfl sl_38 (by omega) (by omega) (L rfl rfl ty_3 (ld1 (by omega) (by omega)) (B rfl rfl rfl ieq ?_))))))
 refine AOps.nil ?_
 change AWP _ _ _ _ _ _
 by_cases b10 : v = at_ l i
 refine ct_ rfl (decide_eq_true b10) ?_
 refine Sr ?_
 refine V rfl rfl (A rfl rfl ?_)
 refine rt_ ?_
 refine Rr (Res.one rfl rfl) ?_ m8
 exact (congrArg (AV.int .i64) (show (i : Int) = idxI l v from by exact idx_hit hi0 (by omega) b10 pre))
 refine cf_ rfl (decide_eq_false b10) ?_
 refine AWP.skip ?_
 refine AWP.region rfl ?_
 refine B rfl s4 rfl (iadd (by omega)) (V rfl rfl ?_)
 refine AOps.nil ?_
 exact ⟨_, by omega, i + 1, rfl, rfl, s5, s6, s7, m8, by omega, by omega, by exact fun j j0 j1 => if e : j = i then e ▸ b10 else pre j j0 (by omega)⟩
 refine cf_ rfl (decide_eq_false b9) ?_
 refine AWP.exit ?_
 change AWP _ _ _ _ _ _
 refine Sr ?_
 refine A rfl rfl ?_
 refine rt_ ?_
 refine Rr (Res.one rfl rfl) ?_ m8
 exact (congrArg (AV.int .i64) (show (-1 : Int) = idxI l v from by exact idx_none (by omega) pre))
theorem c_vCut (v : VT) (m : Int) (hm : 1 ≤ m ∧ m ≤ 1048576) (hv : inV 2305843009213693952 v) : PC Try.prog 85 [.agg [.int .i64 v.X, .int .i64 v.Y, .int .i64 v.Z], .int .i64 m] (.agg [.int .i64 ((cutF m 62 v).X), .int .i64 ((cutF m 62 v).Y), .int .i64 ((cutF m 62 v).Z)]) := by
 intro H0
 refine ACalls.of_body' (n := 25) rfl rfl rfl rfl ?_
 have m0 := Mono.refl H0
 refine Sr ?_
 refine C rfl (bx_ (.agg (eV v)) rfl rfl rfl ?_)
 intro i1 H2 n3 h4 k5
 have z6 := Mono.free m0 n3
 have m7 := Mono.new m0 n3 k5
 refine C rfl (al_ rfl tz_42 ?_)
 intro i8 H9 n10 h11 k12
 have e13 := ne_new h4 n10
 have z14 := Mono.free m7 n10
 have h15 := keep k12 (ne_new h4 n10) h4
 have m16 := Mono.new m7 n10 k12
 refine AWP.seq ?_
 refine Sr ?_
 refine V rfl rfl (B rfl rfl rfl rfl ?_)
 refine cf_ rfl (decide_eq_false (by omega)) ?_
 refine AWP.skip ?_
 refine AWP.seq ?_
 refine bk_ ?_
 refine AWP.loop (fun q17 fq Hq => ∃ (j : Int) (w : VT), q17 = j.toNat ∧ fq 1 = .int .i64 m ∧ fq 2 = .ptr i1 0 0 ∧ fq 4 = .ptr i8 0 0 ∧ Hq i1 = some (.row 0 ((eV w))) ∧ Hq i8 = some (.row 0 ([.int .i64 0, .int .i64 0, .int .i64 0])) ∧ Mono H0 Hq ∧ (0 ≤ j) ∧ (j ≤ 62) ∧ (inV (twoP j) w) ∧ (cutF m 62 v = cutF m j.toNat w)) (k := (62 : Int).toNat) ?_ ?_
 exact ⟨62, v, rfl, rfl, rfl, rfl, h15, h11, m16, by omega, by omega, by exact inV_le hv (by decide), by rfl⟩
 rintro _ f19 H18 ⟨j, w, rfl, s20, s21, s22, h23, h24, m25, hj0, hj1, hin, hcut⟩
 refine AWP.seq ?_
 refine Sr ?_
 refine C rfl (Ld _ rfl s21 ty_42 h23 rfl (V rfl s20 (C rfl (Pc («as» := [.agg (eV w), .int .i64 m]) rfl rfl (rfl) tf_21 (c_vWithin w m (by omega)) ?_))))
 intro H26 m27
 have h28 := m27 _ _ h23
 have h29 := m27 _ _ h24
 have m30 := m25.trans m27
 refine C rfl (AOp.not rfl rfl ?_)
 refine AOps.nil ?_
 change AWP _ _ _ _ _ _
 by_cases b31 : inV m w
 refine cf_ rfl (nb (decide_eq_true b31)) ?_
 refine AWP.exit ?_
 change AWP _ _ _ _ _ _
 refine Sr ?_
 refine C rfl (Ld _ rfl s21 ty_42 h28 rfl (C rfl (Sw s22 rfl ts_42 h29 rfl rfl rfl ?_)))
 intro H32 h33 k34
 have m37 := Mono.set m30 z14 k34
 refine rt_ ?_
 refine Rr (Res.list1 rfl (.cell (v := .agg (eV w)) s22 ty_42 h33 rfl (.nil))) ?_ m37
 exact (congrArg (fun x : VT => AV.agg (eV x)) (show (w : VT) = cutF m 62 v from by rw [hcut, cut_T b31]))
 refine ct_ rfl (nb (decide_eq_false b31)) ?_
 refine AWP.skip ?_
 refine bk_ ?_
 refine AWP.seq ?_
 have hj2 : 1 ≤ j := by apply Classical.byContradiction; intro g; exact b31 (inV_le hin (by rw [show j = 0 by omega, twoP_0]; exact hm.1))
 refine AWP.region rfl ?_
 refine C rfl (Fa rfl s21 fl_42_0 ?_ (hid := ⟨_, h28⟩))
 refine C rfl (Ld _ rfl rfl ty_3 h28 rfl (C rfl (AOp.quoT rfl rfl rfl (by omega) (by (have q := half_in (c := 2305843009213693952) (v := w) (inV_le hin (by have := twoP_62 hj1; omega)); unfold inV halfV at q; simp only at q; omega)) ?_)))
 refine C rfl (Fa rfl s21 fl_42_0 ?_ (hid := ⟨_, h28⟩))
 refine C rfl (So (cells' := [.int .i64 (Int.tdiv w.X 2), .int .i64 w.Y, .int .i64 w.Z]) (.int .i64 (Int.tdiv w.X 2)) rfl rfl ts_3 h28 rfl rfl rfl rfl ?_)
 intro H38 h39 k40
 have h42 := keep k40 (Ne.symm e13) h29
 have m43 := Mono.set m30 z6 k40
 refine Sr ?_
 refine C rfl (Fa rfl s21 fl_42_1 ?_ (hid := ⟨_, h39⟩))
 refine C rfl (Ld _ rfl rfl ty_3 h39 rfl (C rfl (AOp.quoT rfl rfl rfl (by omega) (by (have q := half_in (c := 2305843009213693952) (v := w) (inV_le hin (by have := twoP_62 hj1; omega)); unfold inV halfV at q; simp only at q; omega)) ?_)))
 refine C rfl (Fa rfl s21 fl_42_1 ?_ (hid := ⟨_, h39⟩))
 refine C rfl (So (cells' := [.int .i64 (Int.tdiv w.X 2), .int .i64 (Int.tdiv w.Y 2), .int .i64 w.Z]) (.int .i64 (Int.tdiv w.Y 2)) rfl rfl ts_3 h39 rfl rfl rfl rfl ?_)
 intro H44 h45 k46
 have h47 := keep k46 (Ne.symm e13) h42
 have m49 := Mono.set m43 z6 k46
 refine AWP.region rfl ?_
 refine C rfl (Fa rfl s21 fl_42_2 ?_ (hid := ⟨_, h45⟩))
 refine C rfl (Ld _ rfl rfl ty_3 h45 rfl (C rfl (AOp.quoT rfl rfl rfl (by omega) (by (have q := half_in (c := 2305843009213693952) (v := w) (inV_le hin (by have := twoP_62 hj1; omega)); unfold inV halfV at q; simp only at q; omega)) ?_)))
 refine C rfl (Fa rfl s21 fl_42_2 ?_ (hid := ⟨_, h45⟩))
 refine C rfl (So (cells' := [.int .i64 (Int.tdiv w.X 2), .int .i64 (Int.tdiv w.Y 2), .int .i64 (Int.tdiv w.Z 2)]) (.int .i64 (Int.tdiv w.Z 2)) rfl rfl ts_3 h45 rfl rfl rfl rfl ?_)
 intro H50 h51 k52
 have h53 := keep k52 (Ne.symm e13) h47
 have m55 := Mono.set m49 z6 k52
 refine AOps.nil ?_
 exact ⟨_, by omega, j - 1, halfV w, rfl, s20, s21, s22, (h51.trans (congrArg (fun c => some (AB.row 0 c)) (show ([.int .i64 (Int.tdiv w.X 2), .int .i64 (Int.tdiv w.Y 2), .int .i64 (Int.tdiv w.Z 2)] : List AV) = (eV (halfV w)) from by rfl))), h53, m55, by omega, by omega, by exact half_in (by rw [← twoP_step hj2]; exact hin), by rw [hcut, show j.toNat = (j - 1).toNat + 1 by omega]; exact cut_F b31⟩
end Go.Proofs.U
namespace Go.Proofs.U
open Go Go.AH Go.Proofs.T
set_option maxRecDepth 4000
def eVs (l : List VT) : AV := .sl l.length (l.flatMap eV)
def atP (vs : List VT) (face : List Int) (k by_ : Int) : VT := at_ vs (at_ face ((k + by_) % 4))
def innerN (t : Tp) (hd : List (List VT)) (v : Int) : Int := if at_ t.rnd v = true ∧ ((at_ hd v).length : Int) < 2 then ((at_ t.fan v).length : Int) else 4
def innerP (vs : List VT) (fs : List (List Int)) (t : Tp) (hd : List (List VT)) (f v : Int) : VT :=
  ofV (wsum [WgT.mk (innerN t hd v) (atP vs (at_ fs f) (idxI (at_ fs f) v) 0), WgT.mk 2 (atP vs (at_ fs f) (idxI (at_ fs f) v) 1), WgT.mk 2 (atP vs (at_ fs f) (idxI (at_ fs f) v) 3), WgT.mk 1 (atP vs (at_ fs f) (idxI (at_ fs f) v) 2)]) (innerN t hd v + 5)
def edgeQ (vs : List VT) (fs : List (List Int)) (t : Tp) (sh : List Int) (hd : List (List VT)) (v w : Int) : VT :=
  if at_ sh (optI (findS t v w)) = 0 then ofV (addV (innerP vs fs t hd (at_ t.ed (optI (findS t v w))).F v) (innerP vs fs t hd (at_ t.ed (optI (findS t v w))).G v)) 2
  else ofV (wsum [WgT.mk 2 (at_ vs v), WgT.mk 1 (at_ vs w)]) 3
def cornerQ (vs : List VT) (fs : List (List Int)) (t : Tp) (hd : List (List VT)) (v : Int) : VT :=
  if ((at_ hd v).length : Int) > 2 then at_ vs v
  else if ((at_ hd v).length : Int) = 2 then ofV (wsum [WgT.mk 4 (at_ vs v), WgT.mk 1 (at_ (at_ hd v) 0), WgT.mk 1 (at_ (at_ hd v) 1)]) 6
  else ofV (sumL ((at_ t.fan v).map fun f => innerP vs fs t hd f v)) ((at_ t.fan v).length : Int)
def crossF (vs : List VT) (c : List Int) : VT := crossV (subV (at_ vs (at_ c 2)) (at_ vs (at_ c 0))) (subV (at_ vs (at_ c 3)) (at_ vs (at_ c 1)))
def normalQ (vs : List VT) (fs : List (List Int)) (t : Tp) (v : Int) : VT := cutF 1023 62 (sumL ((at_ t.fan v).map fun f => crossF vs (at_ fs f)))
structure ShpF (vs : List VT) (fs : List (List Int)) (t : Tp) (sh : List Int) (hd : List (List VT)) : Prop where
  v1 : vs.length ≤ 1000
  g : goodS vs.length fs
  v : ∀ p ∈ vs, inV 65536 p
  f1 : fs.length ≤ 1000
  q : ∀ f : Int, 0 ≤ f → f < fs.length → (at_ fs f).length = 4
  r : ∀ l ∈ fs, ∀ k ∈ l, 0 ≤ k ∧ k < (vs.length : Int)
  tf : TopoF vs.length fs.length t
  fin : ∀ v : Int, 0 ≤ v → v < vs.length → ∀ f ∈ at_ t.fan v, InF fs v f
  rl : (t.rnd.length : Int) = vs.length
  hl : (hd.length : Int) = vs.length
  hv : ∀ v : Int, 0 ≤ v → v < vs.length → (at_ hd v).length ≤ 100000 ∧ ∀ p ∈ at_ hd v, inV 65536 p
  hm : ∀ v : Int, 0 ≤ v → v < vs.length → ∀ p ∈ at_ hd v, p ∈ vs
  sl : sh.length = t.ed.length
  fg : ∀ i : Int, 0 ≤ i → i < t.ed.length → at_ sh i = 0 → ∀ v : Int, v = (at_ t.ed i).A ∨ v = (at_ t.ed i).B → InF fs v (at_ t.ed i).F ∧ InF fs v (at_ t.ed i).G
  fd : ∀ a b : Int, (0 ≤ alongS fs a b ∨ 0 ≤ alongS fs b a) → (findS t a b).isSome = true ∧ (0 ≤ optI (findS t a b) ∧ optI (findS t a b) < t.ed.length) ∧ (a = (at_ t.ed (optI (findS t a b))).A ∨ a = (at_ t.ed (optI (findS t a b))).B)
theorem wsum_le {C : Int} {l : List WgT} (h : ∀ p ∈ l, inV C (scaleV p.V p.k)) : inV (C * l.length) (wsum l) := by
  have key : ∀ k : Nat, k ≤ l.length → inV (C * k) (wsum (l.take k)) := by
    intro k
    induction k with
    | zero => intro _; simp [wsum, inV, zV]
    | succ k ih =>
      intro hk
      have := wsum_in (l := l) (i := (k : Int)) (by omega) (by omega) (by rw [Int.toNat_natCast]; exact ih (by omega)) (h _ (at_mem (by omega) (by omega)))
      rw [show ((k : Int) + 1).toNat = k + 1 by omega] at this
      rw [show ((k + 1 : Nat) : Int) = (k : Int) + 1 by omega]; exact this
  have := key l.length (Nat.le_refl _)
  rwa [List.take_length] at this
theorem w_in {k : Int} {p : VT} (hk : -1048576 ≤ k ∧ k ≤ 1048576) (h : inV 65536 p) : inV 1125899906842624 (scaleV p k) := inV_le (inV_scale h hk) (by decide)
theorem w4_in {k a b c : Int} {p q r s : VT} (hk : -1048576 ≤ k ∧ k ≤ 1048576) (ha : -1048576 ≤ a ∧ a ≤ 1048576) (hb : -1048576 ≤ b ∧ b ≤ 1048576) (hc : -1048576 ≤ c ∧ c ≤ 1048576) (h1 : inV 65536 p) (h2 : inV 65536 q) (h3 : inV 65536 r) (h4 : inV 65536 s) : ∀ x ∈ [WgT.mk k p, WgT.mk a q, WgT.mk b r, WgT.mk c s], inV 1125899906842624 (scaleV x.V x.k) := fun x hx => by
  simp only [List.mem_cons, List.not_mem_nil, or_false] at hx
  rcases hx with rfl | rfl | rfl | rfl
  · exact w_in hk h1
  · exact w_in ha h2
  · exact w_in hb h3
  · exact w_in hc h4
theorem w3_in {k a b : Int} {p q r : VT} (hk : -1048576 ≤ k ∧ k ≤ 1048576) (ha : -1048576 ≤ a ∧ a ≤ 1048576) (hb : -1048576 ≤ b ∧ b ≤ 1048576) (h1 : inV 65536 p) (h2 : inV 65536 q) (h3 : inV 65536 r) : ∀ x ∈ [WgT.mk k p, WgT.mk a q, WgT.mk b r], inV 1125899906842624 (scaleV x.V x.k) := fun x hx => by
  simp only [List.mem_cons, List.not_mem_nil, or_false] at hx
  rcases hx with rfl | rfl | rfl
  · exact w_in hk h1
  · exact w_in ha h2
  · exact w_in hb h3
theorem w2_in {k a : Int} {p q : VT} (hk : -1048576 ≤ k ∧ k ≤ 1048576) (ha : -1048576 ≤ a ∧ a ≤ 1048576) (h1 : inV 65536 p) (h2 : inV 65536 q) : ∀ x ∈ [WgT.mk k p, WgT.mk a q], inV 1125899906842624 (scaleV x.V x.k) := fun x hx => by
  simp only [List.mem_cons, List.not_mem_nil, or_false] at hx
  rcases hx with rfl | rfl
  · exact w_in hk h1
  · exact w_in ha h2
theorem hasN_w {b : BoxT} : ∀ {l : List WgT} {s : VT} {d : Int}, hasN b d s → (∀ p ∈ l, hasB b p.V ∧ 0 ≤ p.k) → hasN b (d + (l.map WgT.k).sum) (l.foldl (fun s p => addV s (scaleV p.V p.k)) s)
  | [], s, d, h, _ => by simpa using h
  | p :: l, s, d, h, hl => by
    rw [List.foldl_cons, List.map_cons, List.sum_cons]
    have hp := hl p List.mem_cons_self
    exact hasN_re (hasN_w (hasN_add h (hasN_scale hp.1 hp.2)) fun q hq => hl q (List.mem_cons_of_mem _ hq)) (by omega)
section
variable {vs : List VT} {fs : List (List Int)} {t : Tp} {sh : List Int} {hd : List (List VT)} (S : ShpF vs fs t sh hd)
include S
theorem ShpF.n {v : Int} (h0 : 0 ≤ v) (h1 : v < vs.length) : 1 ≤ innerN t hd v ∧ innerN t hd v ≤ 1000 := by
  have := S.tf.fan v h0 h1
  unfold innerN; split <;> omega
theorem ShpF.k {f v : Int} (hf : InF fs v f) : 0 ≤ idxI (at_ fs f) v ∧ idxI (at_ fs f) v < 4 := by
  have h1 := List.idxOf_lt_length_of_mem hf.2.2
  have h2 := S.q f hf.1 hf.2.1
  unfold idxI; rw [if_pos hf.2.2]; omega
theorem ShpF.at_ {b : BoxT} (hb : ∀ p ∈ vs, hasB b p) {f k j : Int} (f0 : 0 ≤ f) (f1 : f < fs.length) : hasB b (atP vs (AH.at_ fs f) k j) := by
  have h2 := S.q f f0 f1
  have hm := mod_in (x := k + j) (y := 4) (by decide)
  have := S.r _ (at_mem f0 f1) _ (at_mem (l := AH.at_ fs f) hm.1 (by omega))
  exact hb _ (at_mem this.1 this.2)
theorem ShpF.inner {b : BoxT} (hb : ∀ p ∈ vs, hasB b p) {f v : Int} (h0 : 0 ≤ v) (h1 : v < vs.length) (f0 : 0 ≤ f) (f1 : f < fs.length) : hasB b (innerP vs fs t hd f v) := by
  have hn := S.n h0 h1
  unfold innerP
  refine of_has (by omega) (hasN_re (hasN_w (hasN_zero (b := b)) fun p hp => ?_) ?_)
  · simp only [List.mem_cons, List.not_mem_nil, or_false] at hp
    rcases hp with rfl | rfl | rfl | rfl
    · exact ⟨S.at_ hb f0 f1, by show 0 ≤ innerN t hd v; omega⟩
    · exact ⟨S.at_ hb f0 f1, by show (0 : Int) ≤ 2; decide⟩
    · exact ⟨S.at_ hb f0 f1, by show (0 : Int) ≤ 2; decide⟩
    · exact ⟨S.at_ hb f0 f1, by show (0 : Int) ≤ 1; decide⟩
  · simp only [List.map_cons, List.map_nil, List.sum_cons, List.sum_nil]; omega
theorem ShpF.boxes : ∀ p ∈ vs, hasB ⟨⟨-65536, -65536, -65536⟩, ⟨65536, 65536, 65536⟩⟩ p := fun p hp => boxes_in.2 (S.v p hp)
theorem ShpF.innerI {f v : Int} (h0 : 0 ≤ v) (h1 : v < vs.length) (f0 : 0 ≤ f) (f1 : f < fs.length) : inV 65536 (innerP vs fs t hd f v) := boxes_in.1 (S.inner S.boxes h0 h1 f0 f1)
theorem ShpF.atI {f k j : Int} (f0 : 0 ≤ f) (f1 : f < fs.length) : inV 65536 (atP vs (AH.at_ fs f) k j) := boxes_in.1 (S.at_ S.boxes f0 f1)
theorem ShpF.cross {f : Int} (f0 : 0 ≤ f) (f1 : f < fs.length) : (inV 131072 (subV (AH.at_ vs (AH.at_ (AH.at_ fs f) 2)) (AH.at_ vs (AH.at_ (AH.at_ fs f) 0))) ∧ inV 131072 (subV (AH.at_ vs (AH.at_ (AH.at_ fs f) 3)) (AH.at_ vs (AH.at_ (AH.at_ fs f) 1)))) ∧ inV 34359738368 (crossF vs (AH.at_ fs f)) := by
  have h2 := S.q f f0 f1
  have hv : ∀ i : Int, 0 ≤ i → i < 4 → inV 65536 (AH.at_ vs (AH.at_ (AH.at_ fs f) i)) := fun i i0 i1 => by
    have := S.r _ (at_mem f0 f1) _ (at_mem (l := AH.at_ fs f) i0 (by omega))
    exact S.v _ (at_mem this.1 this.2)
  have ha : inV 131072 (subV (AH.at_ vs (AH.at_ (AH.at_ fs f) 2)) (AH.at_ vs (AH.at_ (AH.at_ fs f) 0))) := inV_le (inV_sub (hv 2 (by decide) (by decide)) (hv 0 (by decide) (by decide))) (by decide)
  have hb : inV 131072 (subV (AH.at_ vs (AH.at_ (AH.at_ fs f) 3)) (AH.at_ vs (AH.at_ (AH.at_ fs f) 1))) := inV_le (inV_sub (hv 3 (by decide) (by decide)) (hv 1 (by decide) (by decide))) (by decide)
  refine ⟨⟨ha, hb⟩, ?_⟩
  unfold crossF
  generalize subV (AH.at_ vs (AH.at_ (AH.at_ fs f) 2)) (AH.at_ vs (AH.at_ (AH.at_ fs f) 0)) = a at *
  generalize subV (AH.at_ vs (AH.at_ (AH.at_ fs f) 3)) (AH.at_ vs (AH.at_ (AH.at_ fs f) 1)) = c at *
  have m : ∀ {x y : Int}, -131072 ≤ x ∧ x ≤ 131072 → -131072 ≤ y ∧ y ≤ 131072 → -17179869184 ≤ x * y ∧ x * y ≤ 17179869184 := fun hx hy => mul_rng hx hy
  have p1 := m ha.2.1 hb.2.2
  have p2 := m ha.2.2 hb.2.1
  have p3 := m ha.2.2 hb.1
  have p4 := m ha.1 hb.2.2
  have p5 := m ha.1 hb.2.1
  have p6 := m ha.2.1 hb.1
  unfold inV crossV; simp only; omega
end
theorem innerP_4 {vs : List VT} {fs : List (List Int)} {t : Tp} {hd : List (List VT)} {f v : Int} (h : ¬ (at_ t.rnd v = true ∧ ((at_ hd v).length : Int) < 2)) : innerP vs fs t hd f v = ofV (wsum [WgT.mk 4 (atP vs (at_ fs f) (idxI (at_ fs f) v) 0), WgT.mk 2 (atP vs (at_ fs f) (idxI (at_ fs f) v) 1), WgT.mk 2 (atP vs (at_ fs f) (idxI (at_ fs f) v) 3), WgT.mk 1 (atP vs (at_ fs f) (idxI (at_ fs f) v) 2)]) 9 := by
  unfold innerP innerN; rw [if_neg h]; rfl
theorem innerP_n {vs : List VT} {fs : List (List Int)} {t : Tp} {hd : List (List VT)} {f v : Int} (h : at_ t.rnd v = true ∧ ((at_ hd v).length : Int) < 2) : innerP vs fs t hd f v = ofV (wsum [WgT.mk (at_ t.fan v).length (atP vs (at_ fs f) (idxI (at_ fs f) v) 0), WgT.mk 2 (atP vs (at_ fs f) (idxI (at_ fs f) v) 1), WgT.mk 2 (atP vs (at_ fs f) (idxI (at_ fs f) v) 3), WgT.mk 1 (atP vs (at_ fs f) (idxI (at_ fs f) v) 2)]) ((at_ t.fan v).length + 5) := by
  unfold innerP innerN; rw [if_pos h]
theorem sum_stepQ {F : Int → VT} {l : List Int} {i : Int} (h0 : 0 ≤ i) (h1 : i < l.length) : addV (sumL ((l.take i.toNat).map F)) (F (at_ l i)) = sumL ((l.take (i + 1).toNat).map F) := by
  rw [take_step h0 h1, List.map_append, sumL_app, List.map_singleton, sumL_one]
theorem sum_inQ {C : Int} {F : Int → VT} {l : List Int} {i : Int} (h0 : 0 ≤ i) (h1 : i < l.length) (h : inV (C * i) (sumL ((l.take i.toNat).map F))) (hx : inV C (F (at_ l i))) : inV (C * (i + 1)) (sumL ((l.take (i + 1).toNat).map F)) := by
  rw [← sum_stepQ h0 h1]
  refine inV_le (inV_add h hx) ?_
  rw [Int.mul_add]; omega
end Go.Proofs.U
