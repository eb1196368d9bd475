/- A part of the proof that a law answers true for every input of its row: own work, by an AI agent. -/
import Derived.Test.YtfeafldgohceaaaB01
import Derived.KernelRfl
import Derived.Shelf.SlSortCmp.NoneTotal
import Derived.Ground.SlsfProg
set_option linter.unusedSimpArgs false
set_option linter.unusedVariables false
set_option linter.defProp false
namespace Go.Proofs.T
open Go Go.AH
set_option maxRecDepth 4000
set_option linter.unusedSimpArgs false
set_option linter.unusedVariables false
theorem c40 (x : Int) : PC Try.prog 79 [.int .i64 x] (.bool false) := by
 intro H0
 refine ACalls.of_body' (n := 6) rfl rfl rfl rfl ?_
 have m0 := Mono.refl H0
 refine Sr ?_
 refine A rfl rfl ?_
 refine Sr ?_
 refine V rfl rfl (V rfl rfl (B rfl rfl rfl ine (A rfl rfl ?_)))
 refine rt_ ?_
 refine Rr (Res.one rfl rfl) ?_ m0
 exact (congrArg AV.bool (show (!decide (x = x) : Bool) = false from by first | rfl | omega | simp_all))
theorem c32 (x y : Int) : PC Try.prog 63 [.int .i64 x, .int .i64 y] (.int .i64 (cmpI x y)) := by
 intro H0
 refine ACalls.of_body' (n := 20) rfl rfl rfl rfl ?_
 have m0 := Mono.refl H0
 refine Sr ?_
 refine A rfl rfl ?_
 refine Sr ?_
 refine V rfl rfl (C rfl (Pc («as» := [.int .i64 x]) rfl rfl (rfl) tf_79 (c40 _) ?_))
 intro H1 m2
 have m3 := m0.trans m2
 refine A rfl rfl ?_
 refine Sr ?_
 refine V rfl rfl (C rfl (Pc («as» := [.int .i64 y]) rfl rfl (rfl) tf_79 (c40 _) ?_))
 intro H4 m5
 have m6 := m3.trans m5
 refine A rfl rfl ?_
 refine AWP.seq ?_
 refine Sr ?_
 refine V rfl rfl ?_
 refine cf_ rfl rfl ?_
 refine AWP.skip ?_
 refine AWP.seq ?_
 refine Sr ?_
 refine V rfl rfl ?_
 refine cf_ rfl rfl ?_
 refine AWP.skip ?_
 refine AWP.seq ?_
 refine Sr ?_
 refine V rfl rfl (V rfl rfl (B rfl rfl rfl rfl ?_))
 refine AOps.nil ?_
 change AWP _ _ _ _ _ _
 by_cases b7 : x < y
 refine ct_ rfl (decide_eq_true b7) ?_
 refine Sr ?_
 refine A rfl rfl ?_
 refine rt_ ?_
 refine Rr (Res.one rfl rfl) ?_ m6
 exact (congrArg (AV.int .i64) (show (-1 : Int) = cmpI x y from by unfold cmpI; split <;> (try split) <;> omega))
 refine cf_ rfl (decide_eq_false b7) ?_
 refine AWP.skip ?_
 refine AWP.seq ?_
 refine Sr ?_
 refine V rfl rfl (V rfl rfl (B rfl rfl rfl rfl ?_))
 refine AOps.nil ?_
 change AWP _ _ _ _ _ _
 by_cases b8 : x > y
 refine ct_ rfl (decide_eq_true b8) ?_
 refine Sr ?_
 refine A rfl rfl ?_
 refine rt_ ?_
 refine Rr (Res.one rfl rfl) ?_ m6
 exact (congrArg (AV.int .i64) (show (1 : Int) = cmpI x y from by unfold cmpI; split <;> (try split) <;> omega))
 refine cf_ rfl (decide_eq_false b8) ?_
 refine AWP.skip ?_
 refine Sr ?_
 refine A rfl rfl ?_
 refine rt_ ?_
 refine Rr (Res.one rfl rfl) ?_ m6
 exact (congrArg (AV.int .i64) (show (0 : Int) = cmpI x y from by unfold cmpI; split <;> (try split) <;> omega))
theorem c31 (l : List Int) (hl : l.length ≤ 1048576) : PC Try.prog 62 [.sl l.length (l.map eI)] (.int .i64 (orI l)) := by
 intro H0
 refine ACalls.of_body' (n := 18) rfl rfl rfl rfl ?_
 have m0 := Mono.refl H0
 refine Sr ?_
 refine A rfl rfl ?_
 refine Sr ?_
 refine A rfl rfl ?_
 refine AWP.seq ?_
 refine Sr ?_
 refine V rfl rfl (C rfl (AOp.len (m := l.length) rfl rfl (.inr (.inl ⟨_, rfl⟩)) u_38 (V rfl rfl ?_)))
 refine bk_ ?_
 refine AWP.loop (fun q1 fq Hq => ∃ (i : Int), q1 = (((l.length : Int) : Int) - i).toNat ∧ fq 8 = .int .i64 i ∧ fq 3 = .int .i64 0 ∧ fq 6 = .sl l.length (l.map eI) ∧ fq 7 = .int .i64 (l.length : Int) ∧ Mono H0 Hq ∧ (0 ≤ i) ∧ (i ≤ (l.length : Int)) ∧ (∀ j : Int, 0 ≤ j → j < i → at_ l j = 0)) (k := (((l.length : Int) : Int) - 0).toNat) ?_ ?_
 exact ⟨0, rfl, rfl, rfl, rfl, rfl, m0, by omega, by omega, by intro j; omega⟩
 rintro _ f3 H2 ⟨i, rfl, s4, s5, s6, s7, m8, hi0, hi1, pre⟩
 refine Sr ?_
 refine B rfl s4 s7 rfl ?_
 refine AWP.seq ?_
 by_cases b9 : i < (l.length : Int)
 refine ct_ rfl (decide_eq_true b9) ?_
 refine AWP.skip ?_
 refine AWP.seq ?_
 refine bk_ ?_
 refine Sr ?_
 refine C rfl (iS_ rfl s6 s4 sl_38 (by omega) (by omega) (L rfl rfl ty_3 (ld1 (by omega) (by omega)) (A rfl rfl ?_)))
 refine Sr ?_
 refine V rfl rfl (V rfl s5 (B rfl rfl rfl ine ?_))
 refine AOps.nil ?_
 change AWP _ _ _ _ _ _
 by_cases b10 : at_ l i = 0
 refine cf_ rfl (nb (decide_eq_true b10)) ?_
 refine AWP.skip ?_
 refine AWP.region rfl ?_
 refine B rfl s4 rfl (iadd (by omega)) (V rfl rfl ?_)
 refine AOps.nil ?_
 exact ⟨_, by omega, i + 1, rfl, rfl, s5, s6, s7, m8, by omega, by omega, by exact fa_step pre b10⟩
 refine ct_ rfl (nb (decide_eq_false b10)) ?_
 refine Sr ?_
 refine V rfl rfl (A rfl rfl ?_)
 refine rt_ ?_
 refine Rr (Res.one rfl rfl) ?_ m8
 exact (congrArg (AV.int .i64) (show (at_ l i : Int) = orI l from by exact or_hit hi0 (by omega) pre b10))
 refine cf_ rfl (decide_eq_false b9) ?_
 refine AWP.exit ?_
 change AWP _ _ _ _ _ _
 refine Sr ?_
 refine V rfl s5 (A rfl rfl ?_)
 refine rt_ ?_
 refine Rr (Res.one rfl rfl) ?_ m8
 exact (congrArg (AV.int .i64) (show (0 : Int) = orI l from by exact or_miss (fun j h1 h2 => pre j h1 (by omega))))
theorem c41 (l : List Int) (hl : l.length ≤ 1048576) (v : Int) : PC Try.prog 76 [.sl l.length (l.map eI), .int .i64 v] (.int .i64 (ixI l v)) := by
 intro H0
 refine ACalls.of_body' (n := 19) rfl rfl rfl rfl ?_
 have m0 := Mono.refl H0
 refine Sr ?_
 refine A rfl rfl ?_
 refine AWP.seq ?_
 refine Sr ?_
 refine V rfl rfl (C rfl (AOp.len (m := l.length) rfl rfl (.inr (.inl ⟨_, rfl⟩)) u_38 (V rfl rfl ?_)))
 refine bk_ ?_
 refine AWP.loop (fun q1 fq Hq => ∃ (i : Int), q1 = (((l.length : Int) : Int) - i).toNat ∧ fq 8 = .int .i64 i ∧ fq 0 = .sl l.length (l.map eI) ∧ fq 1 = .int .i64 v ∧ fq 7 = .int .i64 (l.length : Int) ∧ Mono H0 Hq ∧ (0 ≤ i) ∧ (i ≤ (l.length : Int)) ∧ (∀ j : Int, 0 ≤ j → j < i → v ≠ at_ l j)) (k := (((l.length : Int) : Int) - 0).toNat) ?_ ?_
 exact ⟨0, rfl, rfl, rfl, rfl, rfl, m0, by omega, by omega, by intro j; omega⟩
 rintro _ f3 H2 ⟨i, rfl, s4, s5, s6, s7, m8, hi0, hi1, pre⟩
 refine Sr ?_
 refine B rfl s4 s7 rfl ?_
 refine AWP.seq ?_
 by_cases b9 : i < (l.length : Int)
 refine ct_ rfl (decide_eq_true b9) ?_
 refine AWP.skip ?_
 refine AWP.seq ?_
 refine bk_ ?_
 refine Sr ?_
 refine V rfl s4 (A rfl rfl ?_)
 refine Sr ?_
 refine V rfl s6 (V rfl s5 (V rfl rfl (C rfl (iS_ rfl rfl rfl sl_38 (by omega) (by omega) (L rfl rfl ty_3 (ld1 (by omega) (by omega)) (B rfl rfl rfl ieq ?_))))))
 refine AOps.nil ?_
 change AWP _ _ _ _ _ _
 by_cases b10 : v = at_ l i
 refine ct_ rfl (decide_eq_true b10) ?_
 refine Sr ?_
 refine V rfl rfl (A rfl rfl ?_)
 refine rt_ ?_
 refine Rr (Res.one rfl rfl) ?_ m8
 exact (congrArg (AV.int .i64) (show (i : Int) = ixI l v from by exact ix_hit hi0 (by omega) b10 pre))
 refine cf_ rfl (decide_eq_false b10) ?_
 refine AWP.skip ?_
 refine AWP.region rfl ?_
 refine B rfl s4 rfl (iadd (by omega)) (V rfl rfl ?_)
 refine AOps.nil ?_
 exact ⟨_, by omega, i + 1, rfl, rfl, s5, s6, s7, m8, by omega, by omega, by exact fa_step pre b10⟩
 refine cf_ rfl (decide_eq_false b9) ?_
 refine AWP.exit ?_
 change AWP _ _ _ _ _ _
 refine Sr ?_
 refine A rfl rfl ?_
 refine rt_ ?_
 refine Rr (Res.one rfl rfl) ?_ m8
 exact (congrArg (AV.int .i64) (show (-1 : Int) = ixI l v from by exact ix_miss (fun j h1 h2 => pre j h1 (by omega))))
theorem c33 (l : List Int) (hl : l.length ≤ 1048576) (v : Int) : PC Try.prog 57 [.sl l.length (l.map eI), .int .i64 v] (.bool (decide (v ∈ l))) := by
 intro H0
 refine ACalls.of_body' (n := 9) rfl rfl rfl rfl ?_
 have m0 := Mono.refl H0
 refine Sr ?_
 refine A rfl rfl ?_
 refine Sr ?_
 refine V rfl rfl (V rfl rfl (C rfl (Pc («as» := [.sl l.length (l.map eI), .int .i64 v]) rfl rfl (rfl) tf_76 (c41 _ (by first | omega | (simp; omega)) _) ?_)))
 intro H1 m2
 have m3 := m0.trans m2
 refine B rfl rfl rfl rfl (A rfl rfl ?_)
 refine rt_ ?_
 refine Rr (Res.one rfl rfl) ?_ m3
 exact (congrArg AV.bool (show (decide (ixI l v ≥ 0) : Bool) = decide (v ∈ l) from by exact ix_dec))
theorem c34 (l : List Int) (hl : l.length ≤ 1048576) : PC Try.prog 58 [.sl l.length (l.map eI)] (.sl (wayF l).length ((wayF l).flatMap eW)) := by
 intro H0
 refine ACalls.of_body' (n := 28) rfl rfl rfl rfl ?_
 have m0 := Mono.refl H0
 refine Sr ?_
 refine A rfl rfl ?_
 refine Sr ?_
 refine A rfl rfl ?_
 refine AWP.seq ?_
 refine Sr ?_
 refine V rfl rfl (C rfl (AOp.len (m := l.length) rfl rfl (.inr (.inl ⟨_, rfl⟩)) u_38 (V rfl rfl ?_)))
 refine bk_ ?_
 refine AWP.loop (fun q1 fq Hq => ∃ (i : Int) (w3 : AV), q1 = (((l.length : Int) : Int) - i).toNat ∧ fq 8 = .int .i64 i ∧ fq 0 = .sl l.length (l.map eI) ∧ fq 2 = .snil ∧ fq 6 = .sl l.length (l.map eI) ∧ fq 7 = .int .i64 (l.length : Int) ∧ fq 3 = w3 ∧ Own H0 Hq 2 w3 ((wayF l).take i.toNat).length (((wayF l).take i.toNat).flatMap eW) ∧ Mono H0 Hq ∧ (0 ≤ i) ∧ (i ≤ (l.length : Int))) (k := (((l.length : Int) : Int) - 0).toNat) ?_ ?_
 exact ⟨0, .snil, rfl, rfl, rfl, rfl, rfl, rfl, rfl, Own.nil _ _ _, m0, by omega, by omega⟩
 rintro _ f3 H2 ⟨i, w3, rfl, s4, s5, s6, s7, s8, s9, o10, m11, hi0, hi1⟩
 refine Sr ?_
 refine B rfl s4 s8 rfl ?_
 refine AWP.seq ?_
 by_cases b12 : i < (l.length : Int)
 refine ct_ rfl (decide_eq_true b12) ?_
 refine AWP.skip ?_
 refine AWP.seq ?_
 refine bk_ ?_
 refine Sr ?_
 refine V rfl s4 (C rfl (iS_ rfl s7 s4 sl_38 (by omega) (by omega) (L rfl rfl ty_3 (ld1 (by omega) (by omega)) (A rfl rfl (A rfl rfl ?_)))))
 refine AWP.region rfl ?_
 refine V rfl s9 (V rfl rfl (V rfl s5 (V rfl rfl (B rfl rfl rfl (iadd (by omega)) (V rfl s5 (C rfl (AOp.len (m := l.length) rfl rfl (.inr (.inl ⟨_, rfl⟩)) u_38 ?_)))))))
 have r13 := mod_in (x := i + 1) (y := (l.length : Int)) (by omega)
 refine C rfl (AOp.remP rfl rfl rfl (by omega) (by omega) (C rfl (iS_ rfl rfl rfl sl_38 (by omega) (by omega) (L rfl rfl ty_3 (ld1 (by omega) (by omega)) (C rfl (Bl (cells := [.int .i64 (at_ l i), .int .i64 (at_ l ((i + 1) % (l.length : Int)))]) rfl tz_115 pl_115 rfl rfl (C rfl (AOp.buildSlice (cells := [.int .i64 (at_ l i), .int .i64 (at_ l ((i + 1) % (l.length : Int)))]) rfl u_112 ts_115 tz_115 rfl rfl rfl ?_))))))))
 intro i14 H15 n16 h17 k18
 have o20 := Own.keep o10 k18 (Own.notnew o10 n16)
 have m22 := Mono.new m11 n16 k18
 refine C rfl (AOp.append_own (es := 2) (m := 1) (len := (((wayF l).take i.toNat).length)) (old := ((wayF l).take i.toNat).flatMap eW) (cells := [.int .i64 (at_ l i), .int .i64 (at_ l ((i + 1) % (l.length : Int)))]) rfl u_112 ts_115 tzn_115 tb_115 (by decide) ni_112 rfl o20 m22 rfl (.slm h17 rfl) (one_of rfl) (by decide) (by first | omega | (simp; omega)) ?_)
 intro v23 H24 o25 m26 k27 j28
 have o29 := Own.snocM (xs := (((wayF l).take i.toNat) : List (Int × Int))) (y := (at_ l i, at_ l ((i + 1) % (l.length : Int)))) (e := eW) (by simp) o25
 refine A rfl rfl ?_
 refine AWP.region rfl ?_
 refine B rfl s4 rfl (iadd (by omega)) (V rfl rfl ?_)
 refine AOps.nil ?_
 exact ⟨_, by omega, i + 1, v23, rfl, rfl, s5, s6, s7, s8, rfl, (have hx : ((((wayF l).take i.toNat) ++ [(at_ l i, at_ l ((i + 1) % (l.length : Int)))]) : List (Int × Int)) = (wayF l).take (i + 1).toNat := (by (rw [take_step (l := wayF l) hi0 (by rw [wayF_len]; omega), at_wayF hi0 (by omega)])); Own.re o29 (congrArg List.length hx) (congrArg (fun l : List (Int × Int) => l.flatMap eW) hx)), m26, by omega, by omega⟩
 refine cf_ rfl (decide_eq_false b12) ?_
 refine AWP.exit ?_
 change AWP _ _ _ _ _ _
 refine Sr ?_
 refine V rfl s9 (A rfl rfl ?_)
 refine rt_ ?_
 refine Fin.frz 2 o10 rfl m11 fun H30 m31 k32 => ?_
 refine Rr (Res.one rfl rfl) ?_ m31
 exact (congrArg (fun l : List (Int × Int) => AV.sl l.length (l.flatMap eW)) (show (((wayF l).take i.toNat) : List (Int × Int)) = wayF l from by exact take_all (by rw [wayF_len]; omega)))
theorem c18 (t : Tp) (e : Int) (ht : t.ed.length ≤ 1048576) : PC Try.prog 43 [.agg [.sl t.ed.length (t.ed.flatMap eE), .sl t.fan.length (t.fan.map eF), .sl t.rnd.length (t.rnd.map eBo)], .int .i64 e] (.bool (edgedS t e)) := by
 intro H0
 refine ACalls.of_body' (n := 30) rfl rfl rfl rfl ?_
 have m0 := Mono.refl H0
 refine Sr ?_
 refine C rfl (bx_ (.agg [.sl t.ed.length (t.ed.flatMap eE), .sl t.fan.length (t.fan.map eF), .sl t.rnd.length (t.rnd.map eBo)]) rfl rfl rfl ?_)
 intro i1 H2 n3 h4 k5
 have m7 := Mono.new m0 n3 k5
 refine A rfl rfl ?_
 refine AWP.seq ?_
 refine AWP.region_quiet mixed (by kernel_rfl) 26 [] rfl (by kernel_rfl) (Mono H2) (Mono.refl _) ?_
 refine QV rfl rfl (QB rfl rfl rfl rfl (QV rfl rfl ?_))
 by_cases b8 : e ≥ 0
 refine QE.op rfl rfl (QOp.yes rfl rfl rfl rfl (decide_eq_true b8) fun f' H' hf hM => Mv _ rfl ((hf 1 rfl).trans rfl) ⟨rfl, hM⟩) ?_
 refine QE.op rfl rfl (QOp.yes rfl rfl rfl rfl (decide_eq_true b8) fun f' H' hf hM => Fa rfl ((hf 2 rfl).trans rfl) fl_35_0 ⟨rfl, hM⟩ (hid := ⟨_, (hM _ _ h4)⟩)) ?_
 refine QE.op rfl rfl (QOp.yes rfl rfl rfl rfl (decide_eq_true b8) fun f' H' hf hM => Ld _ rfl ((hf 9 rfl).trans rfl) ty_32 (hM _ _ h4) rfl ⟨rfl, hM⟩) ?_
 refine QE.op rfl rfl (QOp.yes rfl rfl rfl rfl (decide_eq_true b8) fun f' H' hf hM => AOp.len (m := t.ed.length) rfl ((hf 10 rfl).trans rfl) (.inr (.inl ⟨_, rfl⟩)) u_32 ⟨rfl, hM⟩) ?_
 refine QE.op rfl rfl (QOp.yes rfl rfl rfl rfl (decide_eq_true b8) fun f' H' hf hM => Bi _ rfl ((hf 8 rfl).trans rfl) ((hf 11 rfl).trans rfl) rfl ⟨rfl, hM⟩) ?_
 refine Q rfl (fun _ _ φ ψ => Pt _ rfl (φ 7 rfl) (decide_eq_true b8) (φ 12 rfl) ⟨rfl, ψ⟩) (QV rfl rfl ?_)
 by_cases b9 : e < (t.ed.length : Int)
 refine QE.op rfl rfl (QOp.yes rfl rfl rfl rfl (decide_eq_true b9) fun f' H' hf hM => Fa rfl ((hf 2 rfl).trans rfl) fl_35_0 ⟨rfl, hM⟩ (hid := ⟨_, (hM _ _ h4)⟩)) ?_
 refine QE.op rfl rfl (QOp.yes rfl rfl rfl rfl (decide_eq_true b9) fun f' H' hf hM => Ld _ rfl ((hf 15 rfl).trans rfl) ty_32 (hM _ _ h4) rfl ⟨rfl, hM⟩) ?_
 refine QE.op rfl rfl (QOp.yes rfl rfl rfl rfl (decide_eq_true b9) fun f' H' hf hM => Mv _ rfl ((hf 1 rfl).trans rfl) ⟨rfl, hM⟩) ?_
 refine QE.op rfl rfl (QOp.yes rfl rfl rfl rfl (decide_eq_true b9) fun f' H' hf hM => iS_ rfl ((hf 16 rfl).trans rfl) ((hf 17 rfl).trans rfl) sl_32 (by omega) (by omega) ⟨rfl, hM⟩) ?_
 refine QE.op rfl rfl (QOp.yes rfl rfl rfl rfl (decide_eq_true b9) fun f' H' hf hM => Ff rfl ((hf 18 rfl).trans rfl) fl_47_2 ⟨rfl, hM⟩) ?_
 refine QE.op rfl rfl (QOp.yes rfl rfl rfl rfl (decide_eq_true b9) fun f' H' hf hM => Lf _ rfl ((hf 19 rfl).trans rfl) ty_3 (ldF eE_len (by omega) (by omega) rfl (by decide)) ⟨rfl, hM⟩) ?_
 refine QE.op rfl rfl (QOp.yes rfl rfl rfl rfl (decide_eq_true b9) fun f' H' hf hM => Fa rfl ((hf 2 rfl).trans rfl) fl_35_0 ⟨rfl, hM⟩ (hid := ⟨_, (hM _ _ h4)⟩)) ?_
 refine QE.op rfl rfl (QOp.yes rfl rfl rfl rfl (decide_eq_true b9) fun f' H' hf hM => Ld _ rfl ((hf 21 rfl).trans rfl) ty_32 (hM _ _ h4) rfl ⟨rfl, hM⟩) ?_
 refine QE.op rfl rfl (QOp.yes rfl rfl rfl rfl (decide_eq_true b9) fun f' H' hf hM => Mv _ rfl ((hf 1 rfl).trans rfl) ⟨rfl, hM⟩) ?_
 refine QE.op rfl rfl (QOp.yes rfl rfl rfl rfl (decide_eq_true b9) fun f' H' hf hM => iS_ rfl ((hf 22 rfl).trans rfl) ((hf 23 rfl).trans rfl) sl_32 (by omega) (by omega) ⟨rfl, hM⟩) ?_
 refine QE.op rfl rfl (QOp.yes rfl rfl rfl rfl (decide_eq_true b9) fun f' H' hf hM => Ff rfl ((hf 24 rfl).trans rfl) fl_47_3 ⟨rfl, hM⟩) ?_
 refine QE.op rfl rfl (QOp.yes rfl rfl rfl rfl (decide_eq_true b9) fun f' H' hf hM => Lf _ rfl ((hf 25 rfl).trans rfl) ty_3 (ldF eE_len (by omega) (by omega) rfl (by decide)) ⟨rfl, hM⟩) ?_
 refine QE.op rfl rfl (QOp.yes rfl rfl rfl rfl (decide_eq_true b9) fun f' H' hf hM => AOp.min2 rfl ((hf 20 rfl).trans rfl) ((hf 26 rfl).trans rfl) ⟨rfl, hM⟩) ?_
 refine QE.op rfl rfl (QOp.yes rfl rfl rfl rfl (decide_eq_true b9) fun f' H' hf hM => Bi _ rfl ((hf 27 rfl).trans rfl) rfl rfl ⟨rfl, hM⟩) ?_
 refine Q rfl (fun _ _ φ ψ => Pt _ rfl (φ 14 rfl) (decide_eq_true b9) (φ 28 rfl) ⟨rfl, ψ⟩) (Q rfl (fun _ _ φ ψ => As _ rfl (φ 29 rfl) ⟨rfl, ψ⟩) ?_)
 refine QE.done fun H10 m11 => ?_
 have h12 := m11 _ _ h4
 have m13 := m7.trans m11
 refine rt_ ?_
 refine Rr (Res.one rfl rfl) ?_ m13
 exact (congrArg AV.bool (show (decide (min ((at_ t.ed e).F) ((at_ t.ed e).G) < 0) : Bool) = edgedS t e from by unfold edgedS; first | exact decide_eq_decide.2 (by omega) | exact (decide_eq_false (by omega)).symm))
 refine QE.op rfl rfl (QOp.no rfl rfl rfl rfl (ble_of (decide_eq_false b9) (by decide)) rfl) ?_
 refine QE.op rfl rfl (QOp.no rfl rfl rfl rfl (ble_of (decide_eq_false b9) (by decide)) rfl) ?_
 refine QE.op rfl rfl (QOp.no rfl rfl rfl rfl (ble_of (decide_eq_false b9) (by decide)) rfl) ?_
 refine QE.op rfl rfl (QOp.no rfl rfl rfl rfl (ble_of (decide_eq_false b9) (by decide)) rfl) ?_
 refine QE.op rfl rfl (QOp.no rfl rfl rfl rfl (ble_of (decide_eq_false b9) (by decide)) rfl) ?_
 refine QE.op rfl rfl (QOp.no rfl rfl rfl rfl (ble_of (decide_eq_false b9) (by decide)) rfl) ?_
 refine QE.op rfl rfl (QOp.no rfl rfl rfl rfl (ble_of (decide_eq_false b9) (by decide)) rfl) ?_
 refine QE.op rfl rfl (QOp.no rfl rfl rfl rfl (ble_of (decide_eq_false b9) (by decide)) rfl) ?_
 refine QE.op rfl rfl (QOp.no rfl rfl rfl rfl (ble_of (decide_eq_false b9) (by decide)) rfl) ?_
 refine QE.op rfl rfl (QOp.no rfl rfl rfl rfl (ble_of (decide_eq_false b9) (by decide)) rfl) ?_
 refine QE.op rfl rfl (QOp.no rfl rfl rfl rfl (ble_of (decide_eq_false b9) (by decide)) rfl) ?_
 refine QE.op rfl rfl (QOp.no rfl rfl rfl rfl (ble_of (decide_eq_false b9) (by decide)) rfl) ?_
 refine QE.op rfl rfl (QOp.no rfl rfl rfl rfl (ble_of (decide_eq_false b9) (by decide)) rfl) ?_
 refine QE.op rfl rfl (QOp.no rfl rfl rfl rfl (ble_of (decide_eq_false b9) (by decide)) rfl) ?_
 refine Q rfl (fun _ _ φ ψ => Pf _ rfl (φ 14 rfl) (decide_eq_false b9) rfl ⟨rfl, ψ⟩) (Q rfl (fun _ _ φ ψ => As _ rfl (φ 29 rfl) ⟨rfl, ψ⟩) ?_)
 refine QE.done fun H14 m15 => ?_
 have h16 := m15 _ _ h4
 have m17 := m7.trans m15
 refine rt_ ?_
 refine Rr (Res.one rfl rfl) ?_ m17
 exact (congrArg AV.bool (show (false : Bool) = edgedS t e from by unfold edgedS; first | exact decide_eq_decide.2 (by omega) | exact (decide_eq_false (by omega)).symm))
 refine QE.op rfl rfl (QOp.no rfl rfl rfl rfl (ble_of (decide_eq_false b8) (by decide)) rfl) ?_
 refine QE.op rfl rfl (QOp.no rfl rfl rfl rfl (ble_of (decide_eq_false b8) (by decide)) rfl) ?_
 refine QE.op rfl rfl (QOp.no rfl rfl rfl rfl (ble_of (decide_eq_false b8) (by decide)) rfl) ?_
 refine QE.op rfl rfl (QOp.no rfl rfl rfl rfl (ble_of (decide_eq_false b8) (by decide)) rfl) ?_
 refine QE.op rfl rfl (QOp.no rfl rfl rfl rfl (ble_of (decide_eq_false b8) (by decide)) rfl) ?_
 refine Q rfl (fun _ _ φ ψ => Pf _ rfl (φ 7 rfl) (decide_eq_false b8) rfl ⟨rfl, ψ⟩) (QV rfl rfl ?_)
 refine QE.op rfl rfl (QOp.no rfl rfl rfl rfl (ble_of rfl (by decide)) rfl) ?_
 refine QE.op rfl rfl (QOp.no rfl rfl rfl rfl (ble_of rfl (by decide)) rfl) ?_
 refine QE.op rfl rfl (QOp.no rfl rfl rfl rfl (ble_of rfl (by decide)) rfl) ?_
 refine QE.op rfl rfl (QOp.no rfl rfl rfl rfl (ble_of rfl (by decide)) rfl) ?_
 refine QE.op rfl rfl (QOp.no rfl rfl rfl rfl (ble_of rfl (by decide)) rfl) ?_
 refine QE.op rfl rfl (QOp.no rfl rfl rfl rfl (ble_of rfl (by decide)) rfl) ?_
 refine QE.op rfl rfl (QOp.no rfl rfl rfl rfl (ble_of rfl (by decide)) rfl) ?_
 refine QE.op rfl rfl (QOp.no rfl rfl rfl rfl (ble_of rfl (by decide)) rfl) ?_
 refine QE.op rfl rfl (QOp.no rfl rfl rfl rfl (ble_of rfl (by decide)) rfl) ?_
 refine QE.op rfl rfl (QOp.no rfl rfl rfl rfl (ble_of rfl (by decide)) rfl) ?_
 refine QE.op rfl rfl (QOp.no rfl rfl rfl rfl (ble_of rfl (by decide)) rfl) ?_
 refine QE.op rfl rfl (QOp.no rfl rfl rfl rfl (ble_of rfl (by decide)) rfl) ?_
 refine QE.op rfl rfl (QOp.no rfl rfl rfl rfl (ble_of rfl (by decide)) rfl) ?_
 refine QE.op rfl rfl (QOp.no rfl rfl rfl rfl (ble_of rfl (by decide)) rfl) ?_
 refine Q rfl (fun _ _ φ ψ => Pf _ rfl (φ 14 rfl) rfl rfl ⟨rfl, ψ⟩) (Q rfl (fun _ _ φ ψ => As _ rfl (φ 29 rfl) ⟨rfl, ψ⟩) ?_)
 refine QE.done fun H18 m19 => ?_
 have h20 := m19 _ _ h4
 have m21 := m7.trans m19
 refine rt_ ?_
 refine Rr (Res.one rfl rfl) ?_ m21
 exact (congrArg AV.bool (show (false : Bool) = edgedS t e from by unfold edgedS; first | exact decide_eq_decide.2 (by omega) | exact (decide_eq_false (by omega)).symm))
end Go.Proofs.T
namespace Go.Proofs.T
open Go Go.AH
set_option maxRecDepth 4000
set_option linter.unusedSimpArgs false
set_option linter.unusedVariables false
theorem c30 (e : Ed) (w : Int × Int) : PC Try.prog 66 [.agg [.int .i64 e.A, .int .i64 e.B, .int .i64 e.F, .int .i64 e.G], .agg [.int .i64 w.1, .int .i64 w.2]] (.int .i64 (cE e w)) := by
 intro H0
 refine ACalls.of_body' (n := 17) rfl rfl rfl rfl ?_
 have m0 := Mono.refl H0
 refine Sr ?_
 refine C rfl (bx_ (.agg [.int .i64 e.A, .int .i64 e.B, .int .i64 e.F, .int .i64 e.G]) rfl rfl rfl ?_)
 intro i1 H2 n3 h4 k5
 have m7 := Mono.new m0 n3 k5
 refine C rfl (bx_ (.agg [.int .i64 w.1, .int .i64 w.2]) rfl rfl rfl ?_)
 intro i8 H9 n10 h11 k12
 have h15 := keep k12 (ne_new h4 n10) h4
 have m16 := Mono.new m7 n10 k12
 refine A rfl rfl ?_
 refine AWP.seq ?_
 refine AWP.region_quiet mixed (by kernel_rfl) 10 [10, 11, 12] rfl (by kernel_rfl) (Mono H9) (Mono.refl _) ?_
 refine Q rfl (fun _ _ φ ψ => Fa rfl (φ 2 rfl) fl_47_0 ⟨rfl, ψ⟩ (hid := ⟨_, (ψ _ _ h15)⟩)) (Q rfl (fun _ _ φ ψ => Ld _ rfl (φ 5 rfl) ty_3 (ψ _ _ h15) rfl ⟨rfl, ψ⟩) (Q rfl (fun _ _ φ ψ => Fa rfl (φ 3 rfl) fl_115_0 ⟨rfl, ψ⟩ (hid := ⟨_, (ψ _ _ h11)⟩)) (Q rfl (fun _ _ φ ψ => Ld _ rfl (φ 7 rfl) ty_3 (ψ _ _ h11) rfl ⟨rfl, ψ⟩) (Q rfl (fun _ _ φ ψ => Pc («as» := [.int .i64 e.A, .int .i64 w.1]) rfl rfl (lapp (lcons (φ 6 rfl) (lcons (φ 8 rfl) rfl)) rfl) tf_63 (c32 _ _) fun H2 m2 => ⟨rfl, ψ.trans m2⟩) (Q rfl (fun _ _ φ ψ => Fa rfl (φ 2 rfl) fl_47_1 ⟨rfl, ψ⟩ (hid := ⟨_, (ψ _ _ h15)⟩)) (Q rfl (fun _ _ φ ψ => Ld _ rfl (φ 10 rfl) ty_3 (ψ _ _ h15) rfl ⟨rfl, ψ⟩) (Q rfl (fun _ _ φ ψ => Fa rfl (φ 3 rfl) fl_115_1 ⟨rfl, ψ⟩ (hid := ⟨_, (ψ _ _ h11)⟩)) (Q rfl (fun _ _ φ ψ => Ld _ rfl (φ 12 rfl) ty_3 (ψ _ _ h11) rfl ⟨rfl, ψ⟩) (Q rfl (fun _ _ φ ψ => Pc («as» := [.int .i64 e.B, .int .i64 w.2]) rfl rfl (lapp (lcons (φ 11 rfl) (lcons (φ 13 rfl) rfl)) rfl) tf_63 (c32 _ _) fun H2 m2 => ⟨rfl, ψ.trans m2⟩) ?_)))))))))
 refine QE.done fun H17 m18 => ?_
 have h19 := m18 _ _ h15
 have h20 := m18 _ _ h11
 have m21 := m16.trans m18
 refine C rfl (AOp.buildSlice (cells := [.int .i64 (cmpI e.A w.1), .int .i64 (cmpI e.B w.2)]) rfl u_38 ts_3 tz_3 rfl rfl rfl ?_)
 intro i22 H23 n24 h25 k26
 have e27 := ne_new h19 n24
 have e28 := ne_new h20 n24
 have z29 := Mono.free m21 n24
 have h30 := keep k26 (ne_new h19 n24) h19
 have h31 := keep k26 (ne_new h20 n24) h20
 have m32 := Mono.new m21 n24 k26
 obtain ⟨v33, e34⟩ : ∃ v : AV, v = .slm i22 0 1 0 2 := ⟨_, rfl⟩
 have o35 : Own H0 H23 1 v33 2 [.int .i64 (cmpI e.A w.1), .int .i64 (cmpI e.B w.2)] := .inr ⟨_, _, e34, h25, z29, rfl⟩
 have no36 : NotId v33 i1 := by rw [e34]; exact NotId.slm e27
 have no37 : NotId v33 i8 := by rw [e34]; exact NotId.slm e28
 refine C rfl ?_
 refine AOp.frz 15 (o35) e34.symm m32 fun H38 m39 k40 => ?_
 have h41 := (k40 _ no36).trans h30
 have h42 := (k40 _ no37).trans h31
 refine Pc («as» := [.sl ([cmpI e.A w.1, cmpI e.B w.2] : List Int).length (([cmpI e.A w.1, cmpI e.B w.2] : List Int).map eI)]) rfl rfl (rfl) tf_62 (c31 ([cmpI e.A w.1, cmpI e.B w.2] : List Int) (by simp)) ?_
 intro H43 m44
 have h45 := m44 _ _ h41
 have h46 := m44 _ _ h42
 have m47 := m39.trans m44
 refine A rfl rfl ?_
 refine rt_ ?_
 refine Rr (Res.one rfl rfl) ?_ m47
 exact (congrArg (AV.int .i64) (show (orI ([cmpI e.A w.1, cmpI e.B w.2] : List Int) : Int) = cE e w from by rfl))
theorem c37 (e g : Ed) : PC Try.prog 61 [.agg [.int .i64 e.A, .int .i64 e.B, .int .i64 e.F, .int .i64 e.G], .agg [.int .i64 g.A, .int .i64 g.B, .int .i64 g.F, .int .i64 g.G]] (.int .i64 (cE e (g.A, g.B))) := by
 intro H0
 refine ACalls.of_body' (n := 17) rfl rfl rfl rfl ?_
 have m0 := Mono.refl H0
 refine Sr ?_
 refine C rfl (bx_ (.agg [.int .i64 e.A, .int .i64 e.B, .int .i64 e.F, .int .i64 e.G]) rfl rfl rfl ?_)
 intro i1 H2 n3 h4 k5
 have m7 := Mono.new m0 n3 k5
 refine C rfl (bx_ (.agg [.int .i64 g.A, .int .i64 g.B, .int .i64 g.F, .int .i64 g.G]) rfl rfl rfl ?_)
 intro i8 H9 n10 h11 k12
 have h15 := keep k12 (ne_new h4 n10) h4
 have m16 := Mono.new m7 n10 k12
 refine A rfl rfl ?_
 refine AWP.seq ?_
 refine AWP.region_quiet mixed (by kernel_rfl) 10 [10, 11, 12] rfl (by kernel_rfl) (Mono H9) (Mono.refl _) ?_
 refine Q rfl (fun _ _ φ ψ => Fa rfl (φ 2 rfl) fl_47_0 ⟨rfl, ψ⟩ (hid := ⟨_, (ψ _ _ h15)⟩)) (Q rfl (fun _ _ φ ψ => Ld _ rfl (φ 5 rfl) ty_3 (ψ _ _ h15) rfl ⟨rfl, ψ⟩) (Q rfl (fun _ _ φ ψ => Fa rfl (φ 3 rfl) fl_47_0 ⟨rfl, ψ⟩ (hid := ⟨_, (ψ _ _ h11)⟩)) (Q rfl (fun _ _ φ ψ => Ld _ rfl (φ 7 rfl) ty_3 (ψ _ _ h11) rfl ⟨rfl, ψ⟩) (Q rfl (fun _ _ φ ψ => Pc («as» := [.int .i64 e.A, .int .i64 g.A]) rfl rfl (lapp (lcons (φ 6 rfl) (lcons (φ 8 rfl) rfl)) rfl) tf_63 (c32 _ _) fun H2 m2 => ⟨rfl, ψ.trans m2⟩) (Q rfl (fun _ _ φ ψ => Fa rfl (φ 2 rfl) fl_47_1 ⟨rfl, ψ⟩ (hid := ⟨_, (ψ _ _ h15)⟩)) (Q rfl (fun _ _ φ ψ => Ld _ rfl (φ 10 rfl) ty_3 (ψ _ _ h15) rfl ⟨rfl, ψ⟩) (Q rfl (fun _ _ φ ψ => Fa rfl (φ 3 rfl) fl_47_1 ⟨rfl, ψ⟩ (hid := ⟨_, (ψ _ _ h11)⟩)) (Q rfl (fun _ _ φ ψ => Ld _ rfl (φ 12 rfl) ty_3 (ψ _ _ h11) rfl ⟨rfl, ψ⟩) (Q rfl (fun _ _ φ ψ => Pc («as» := [.int .i64 e.B, .int .i64 g.B]) rfl rfl (lapp (lcons (φ 11 rfl) (lcons (φ 13 rfl) rfl)) rfl) tf_63 (c32 _ _) fun H2 m2 => ⟨rfl, ψ.trans m2⟩) ?_)))))))))
 refine QE.done fun H17 m18 => ?_
 have h19 := m18 _ _ h15
 have h20 := m18 _ _ h11
 have m21 := m16.trans m18
 refine C rfl (AOp.buildSlice (cells := [.int .i64 (cmpI e.A g.A), .int .i64 (cmpI e.B g.B)]) rfl u_38 ts_3 tz_3 rfl rfl rfl ?_)
 intro i22 H23 n24 h25 k26
 have e27 := ne_new h19 n24
 have e28 := ne_new h20 n24
 have z29 := Mono.free m21 n24
 have h30 := keep k26 (ne_new h19 n24) h19
 have h31 := keep k26 (ne_new h20 n24) h20
 have m32 := Mono.new m21 n24 k26
 obtain ⟨v33, e34⟩ : ∃ v : AV, v = .slm i22 0 1 0 2 := ⟨_, rfl⟩
 have o35 : Own H0 H23 1 v33 2 [.int .i64 (cmpI e.A g.A), .int .i64 (cmpI e.B g.B)] := .inr ⟨_, _, e34, h25, z29, rfl⟩
 have no36 : NotId v33 i1 := by rw [e34]; exact NotId.slm e27
 have no37 : NotId v33 i8 := by rw [e34]; exact NotId.slm e28
 refine C rfl ?_
 refine AOp.frz 15 (o35) e34.symm m32 fun H38 m39 k40 => ?_
 have h41 := (k40 _ no36).trans h30
 have h42 := (k40 _ no37).trans h31
 refine Pc («as» := [.sl ([cmpI e.A g.A, cmpI e.B g.B] : List Int).length (([cmpI e.A g.A, cmpI e.B g.B] : List Int).map eI)]) rfl rfl (rfl) tf_62 (c31 ([cmpI e.A g.A, cmpI e.B g.B] : List Int) (by simp)) ?_
 intro H43 m44
 have h45 := m44 _ _ h41
 have h46 := m44 _ _ h42
 have m47 := m39.trans m44
 refine A rfl rfl ?_
 refine rt_ ?_
 refine Rr (Res.one rfl rfl) ?_ m47
 exact (congrArg (AV.int .i64) (show (orI ([cmpI e.A g.A, cmpI e.B g.B] : List Int) : Int) = cE e (g.A, g.B) from by rfl))
theorem c29 (l : List Ed) (w : Int × Int) (hl : l.length ≤ 1048576) (hs : SortedE l) : PC Try.prog 65 [.sl l.length (l.flatMap eE), .agg [.int .i64 w.1, .int .i64 w.2], .fn 66 []] (.tup [.int .i64 (lowS l w), .bool (isAt l w)]) := by
 intro H0
 refine ACalls.of_body' (n := 49) rfl rfl rfl rfl ?_
 have m0 := Mono.refl H0
 refine Sr ?_
 refine C rfl (bx_ (.agg [.int .i64 w.1, .int .i64 w.2]) rfl rfl rfl ?_)
 intro i1 H2 n3 h4 k5
 have m7 := Mono.new m0 n3 k5
 refine A rfl rfl (A rfl rfl ?_)
 refine Sr ?_
 refine V rfl rfl (C rfl (AOp.len (m := l.length) rfl rfl (.inr (.inl ⟨_, rfl⟩)) u_32 (A rfl rfl ?_)))
 refine Sr ?_
 refine V rfl rfl (A rfl rfl (A rfl rfl ?_))
 refine AWP.seq ?_
 refine bk_ ?_
 refine AWP.loop (fun q8 fq Hq => ∃ (i : Int) (j : Int), q8 = (j - i).toNat ∧ fq 9 = .int .i64 i ∧ fq 10 = .int .i64 j ∧ fq 0 = .sl l.length (l.flatMap eE) ∧ fq 2 = .fn 66 [] ∧ fq 4 = .ptr i1 0 0 ∧ fq 6 = .int .i64 0 ∧ fq 7 = .bool false ∧ fq 8 = .int .i64 (l.length : Int) ∧ Hq i1 = some (.row 0 ([.int .i64 w.1, .int .i64 w.2])) ∧ Mono H0 Hq ∧ (0 ≤ i) ∧ (i ≤ j) ∧ (j ≤ l.length) ∧ (∀ k : Int, 0 ≤ k → k < i → cE (at_ l k) w < 0) ∧ (∀ k : Int, j ≤ k → k < l.length → ¬ cE (at_ l k) w < 0)) (k := ((l.length : Int) - 0).toNat) ?_ ?_
 exact ⟨0, (l.length : Int), rfl, rfl, rfl, rfl, rfl, rfl, rfl, rfl, rfl, h4, m7, by omega, by omega, by omega, by intro k; omega, by intro k; omega⟩
 rintro _ f10 H9 ⟨i, j, rfl, s11, s12, s13, s14, s15, s16, s17, s18, h19, m20, hi0, hij, hj, hlo, hhi⟩
 refine AWP.seq ?_
 refine Sr ?_
 refine V rfl s11 (V rfl s12 (B rfl rfl rfl rfl ?_))
 refine AOps.nil ?_
 change AWP _ _ _ _ _ _
 by_cases b21 : i < j
 refine ct_ rfl (decide_eq_true b21) ?_
 refine AWP.skip ?_
 refine bk_ ?_
 refine Sr ?_
 refine V rfl s11 (V rfl s12 (B rfl rfl rfl (iadd (by omega)) (C rfl (AOp.convIntP rfl rfl u_3 u_130 (IntWalk.u64_in _ (by omega)) (C rfl (AOp.shr1 rfl rfl rfl rfl (C rfl (AOp.convIntP rfl rfl u_130 u_3 (IntWalk.i64_in _ (by omega)) (A rfl rfl ?_)))))))))
 refine AWP.seq ?_
 refine AWP.region_quiet mixed (by kernel_rfl) 8 [] rfl (by kernel_rfl) (Mono H9) (Mono.refl _) ?_
 refine QV rfl s14 (QV rfl s13 (QV rfl rfl (Q rfl (fun _ _ φ ψ => iS_ rfl (φ 25 rfl) (φ 26 rfl) sl_32 (by omega) (by omega) ⟨rfl, ψ⟩) (QL rfl rfl ty_47 (ldM eE_len (by omega) (by omega)) (Q rfl (fun _ _ φ ψ => Ld _ rfl ((φ 4 rfl).trans s15) ty_115 (ψ _ _ h19) rfl ⟨rfl, ψ⟩) (Q rfl (fun _ _ φ ψ => Pc («as» := [.agg [.int .i64 ((at_ l ((i + j) / 2)).A), .int .i64 ((at_ l ((i + j) / 2)).B), .int .i64 ((at_ l ((i + j) / 2)).F), .int .i64 ((at_ l ((i + j) / 2)).G)], .agg [.int .i64 w.1, .int .i64 w.2]]) rfl (φ 24 rfl) (lapp (lcons (φ 28 rfl) (lcons (φ 29 rfl) rfl)) rfl) tf_66 (c30 _ _) fun H2 m2 => ⟨rfl, ψ.trans m2⟩) (QB rfl rfl rfl rfl ?_)))))))
 refine QE.done fun H22 m23 => ?_
 have h24 := m23 _ _ h19
 have m25 := m20.trans m23
 refine AOps.nil ?_
 change AWP _ _ _ _ _ _
 by_cases b26 : cE (at_ l ((i + j) / 2)) w < 0
 refine ct_ rfl (decide_eq_true b26) ?_
 refine AWP.region rfl ?_
 refine V rfl rfl (B rfl rfl rfl (iadd (by omega)) (A rfl rfl ?_))
 refine AOps.nil ?_
 exact ⟨_, by omega, (i + j) / 2 + 1, j, rfl, rfl, s12, s13, s14, s15, s16, s17, s18, h24, m25, by omega, by omega, by omega, by exact fun k h1 h2 => sorted_neg hs h1 (by omega) (by omega) b26, by exact hhi⟩
 refine cf_ rfl (decide_eq_false b26) ?_
 refine AWP.region rfl ?_
 refine V rfl rfl (A rfl rfl ?_)
 refine AOps.nil ?_
 exact ⟨_, by omega, i, (i + j) / 2, rfl, s11, rfl, s13, s14, s15, s16, s17, s18, h24, m25, by omega, by omega, by omega, by exact hlo, by exact fun k h1 h2 => sorted_nn hs (by omega) h1 h2 b26⟩
 refine cf_ rfl (decide_eq_false b21) ?_
 refine AWP.exit ?_
 change AWP _ _ _ _ _ _
 refine AWP.seq ?_
 refine AWP.region_quiet mixed (by kernel_rfl) 16 [] rfl (by kernel_rfl) (Mono H9) (Mono.refl _) ?_
 refine QV rfl s11 (QV rfl s11 (QV rfl s18 (QB rfl rfl rfl rfl (QV rfl rfl ?_))))
 by_cases b27 : i < (l.length : Int)
 refine QE.op rfl rfl (QOp.yes rfl rfl rfl rfl (decide_eq_true b27) fun f' H' hf hM => Mv _ rfl ((hf 2 rfl).trans s14) ⟨rfl, hM⟩) ?_
 refine QE.op rfl rfl (QOp.yes rfl rfl rfl rfl (decide_eq_true b27) fun f' H' hf hM => Mv _ rfl ((hf 0 rfl).trans s13) ⟨rfl, hM⟩) ?_
 refine QE.op rfl rfl (QOp.yes rfl rfl rfl rfl (decide_eq_true b27) fun f' H' hf hM => Mv _ rfl ((hf 9 rfl).trans s11) ⟨rfl, hM⟩) ?_
 refine QE.op rfl rfl (QOp.yes rfl rfl rfl rfl (decide_eq_true b27) fun f' H' hf hM => iS_ rfl ((hf 41 rfl).trans rfl) ((hf 42 rfl).trans rfl) sl_32 (by omega) (by omega) ⟨rfl, hM⟩) ?_
 refine QE.op rfl rfl (QOp.yes rfl rfl rfl rfl (decide_eq_true b27) fun f' H' hf hM => Lf _ rfl ((hf 43 rfl).trans rfl) ty_47 (ldM eE_len (by omega) (by omega)) ⟨rfl, hM⟩) ?_
 refine QE.op rfl rfl (QOp.yes rfl rfl rfl rfl (decide_eq_true b27) fun f' H' hf hM => Ld _ rfl ((hf 4 rfl).trans s15) ty_115 (hM _ _ h19) rfl ⟨rfl, hM⟩) ?_
 refine QE.op rfl rfl (QOp.yes rfl rfl rfl rfl (decide_eq_true b27) fun f' H' hf hM => Pc («as» := [.agg [.int .i64 ((at_ l i).A), .int .i64 ((at_ l i).B), .int .i64 ((at_ l i).F), .int .i64 ((at_ l i).G)], .agg [.int .i64 w.1, .int .i64 w.2]]) rfl ((hf 40 rfl).trans rfl) (lapp (lcons ((hf 44 rfl).trans rfl) (lcons ((hf 45 rfl).trans rfl) rfl)) rfl) tf_66 (c30 _ _) fun H2 m2 => ⟨rfl, hM.trans m2⟩) ?_
 refine QE.op rfl rfl (QOp.yes rfl rfl rfl rfl (decide_eq_true b27) fun f' H' hf hM => Bi _ rfl ((hf 46 rfl).trans rfl) rfl ieq ⟨rfl, hM⟩) ?_
 refine Q rfl (fun _ _ φ ψ => Pt _ rfl (φ 39 rfl) (decide_eq_true b27) (φ 47 rfl) ⟨rfl, ψ⟩) (Q rfl (fun _ _ φ ψ => As _ rfl (φ 35 rfl) ⟨rfl, ψ⟩) (Q rfl (fun _ _ φ ψ => As _ rfl (φ 48 rfl) ⟨rfl, ψ⟩) ?_))
 refine QE.done fun H28 m29 => ?_
 have h30 := m29 _ _ h19
 have m31 := m20.trans m29
 refine rt_ ?_
 refine Rr (Res.two rfl rfl rfl) ?_ m31
 exact congrArg AV.tup (lc (congrArg (AV.int .i64) (show (i : Int) = lowS l w from by exact (low_of hi0 (by omega) hlo (fun h => hhi i (by omega) h)))) (lc (congrArg AV.bool (show (decide (cE (at_ l i) w = 0) : Bool) = isAt l w from by unfold isAt; rw [← (low_of hi0 (by omega) hlo (fun h => hhi i (by omega) h))]; first | exact decide_eq_decide.2 (by omega) | exact (decide_eq_false (by omega)).symm)) rfl))
 refine QE.op rfl rfl (QOp.no rfl rfl rfl rfl (ble_of (decide_eq_false b27) (by decide)) rfl) ?_
 refine QE.op rfl rfl (QOp.no rfl rfl rfl rfl (ble_of (decide_eq_false b27) (by decide)) rfl) ?_
 refine QE.op rfl rfl (QOp.no rfl rfl rfl rfl (ble_of (decide_eq_false b27) (by decide)) rfl) ?_
 refine QE.op rfl rfl (QOp.no rfl rfl rfl rfl (ble_of (decide_eq_false b27) (by decide)) rfl) ?_
 refine QE.op rfl rfl (QOp.no rfl rfl rfl rfl (ble_of (decide_eq_false b27) (by decide)) rfl) ?_
 refine QE.op rfl rfl (QOp.no rfl rfl rfl rfl (ble_of (decide_eq_false b27) (by decide)) rfl) ?_
 refine QE.op rfl rfl (QOp.no rfl rfl rfl rfl (ble_of (decide_eq_false b27) (by decide)) rfl) ?_
 refine QE.op rfl rfl (QOp.no rfl rfl rfl rfl (ble_of (decide_eq_false b27) (by decide)) rfl) ?_
 refine Q rfl (fun _ _ φ ψ => Pf _ rfl (φ 39 rfl) (decide_eq_false b27) rfl ⟨rfl, ψ⟩) (Q rfl (fun _ _ φ ψ => As _ rfl (φ 35 rfl) ⟨rfl, ψ⟩) (Q rfl (fun _ _ φ ψ => As _ rfl (φ 48 rfl) ⟨rfl, ψ⟩) ?_))
 refine QE.done fun H32 m33 => ?_
 have h34 := m33 _ _ h19
 have m35 := m20.trans m33
 refine rt_ ?_
 refine Rr (Res.two rfl rfl rfl) ?_ m35
 exact congrArg AV.tup (lc (congrArg (AV.int .i64) (show (i : Int) = lowS l w from by exact (low_of hi0 (by omega) hlo (fun h => hhi i (by omega) h)))) (lc (congrArg AV.bool (show (false : Bool) = isAt l w from by unfold isAt; rw [← (low_of hi0 (by omega) hlo (fun h => hhi i (by omega) h))]; first | exact decide_eq_decide.2 (by omega) | exact (decide_eq_false (by omega)).symm)) rfl))
theorem c19 (t : Tp) (a b : Int) (ht : t.ed.length ≤ 1048576) (hs : SortedE t.ed) : PC Try.prog 44 [.agg [.sl t.ed.length (t.ed.flatMap eE), .sl t.fan.length (t.fan.map eF), .sl t.rnd.length (t.rnd.map eBo)], .int .i64 a, .int .i64 b] (.tup [.int .i64 (optI (findS t a b)), .bool ((findS t a b).isSome)]) := by
 intro H0
 refine ACalls.of_body' (n := 28) rfl rfl rfl rfl ?_
 have m0 := Mono.refl H0
 refine Sr ?_
 refine C rfl (bx_ (.agg [.sl t.ed.length (t.ed.flatMap eE), .sl t.fan.length (t.fan.map eF), .sl t.rnd.length (t.rnd.map eBo)]) rfl rfl rfl ?_)
 intro i1 H2 n3 h4 k5
 have m7 := Mono.new m0 n3 k5
 refine A rfl rfl (A rfl rfl ?_)
 refine Sr ?_
 refine V rfl rfl (V rfl rfl (C rfl (AOp.min2 rfl rfl rfl (V rfl rfl (V rfl rfl (C rfl (AOp.max2 rfl rfl rfl (C rfl (Bl (cells := [.int .i64 (min a b), .int .i64 (max a b)]) rfl tz_115 pl_115 rfl rfl (C rfl (al_ rfl tz_115 ?_)))))))))))
 intro i8 H9 n10 h11 k12
 have e13 := ne_new h4 n10
 have z14 := Mono.free m7 n10
 have h15 := keep k12 (ne_new h4 n10) h4
 have m16 := Mono.new m7 n10 k12
 refine C rfl (Sw rfl rfl ts_115 h11 rfl rfl rfl ?_)
 intro H17 h18 k19
 have h20 := keep k19 e13 h15
 have m22 := Mono.set m16 z14 k19
 refine Sr ?_
 refine C rfl (Fa rfl rfl fl_35_0 ?_ (hid := ⟨_, h20⟩))
 refine C rfl (Ld _ rfl rfl ty_32 h20 rfl (C rfl (Ld _ rfl rfl ty_115 h18 rfl (C rfl (Pc («as» := [.sl t.ed.length (t.ed.flatMap eE), .agg [.int .i64 (min a b), .int .i64 (max a b)], .fn 66 []]) rfl rfl (rfl) tf_65 (c29 _ (min a b, max a b) (by omega) (by assumption)) ?_)))))
 intro H23 m24
 have h25 := m24 _ _ h20
 have h26 := m24 _ _ h18
 have m27 := m22.trans m24
 refine V rfl rfl (E rfl rfl rfl (E rfl rfl rfl (A rfl rfl (A rfl rfl ?_))))
 refine AWP.seq ?_
 refine Sr ?_
 refine V rfl rfl (C rfl (AOp.not rfl rfl ?_))
 refine AOps.nil ?_
 change AWP _ _ _ _ _ _
 rcases Bool.eq_false_or_eq_true (isAt t.ed (min a b, max a b)) with b28 | b28
 refine cf_ rfl (nb b28) ?_
 refine AWP.skip ?_
 refine Sr ?_
 refine V rfl rfl (A rfl rfl (A rfl rfl ?_))
 refine rt_ ?_
 refine Rr (Res.two rfl rfl rfl) ?_ m27
 exact congrArg AV.tup (lc (congrArg (AV.int .i64) (show (lowS t.ed (min a b, max a b) : Int) = optI (findS t a b) from by exact (low_find hs a b).2 b28)) (lc (congrArg AV.bool (show (true : Bool) = (findS t a b).isSome from by exact ((low_find hs a b).1.symm.trans b28).symm)) rfl))
 refine ct_ rfl (nb b28) ?_
 refine Sr ?_
 refine A rfl rfl (A rfl rfl ?_)
 refine rt_ ?_
 refine Rr (Res.two rfl rfl rfl) ?_ m27
 exact congrArg AV.tup (lc (congrArg (AV.int .i64) (show (0 : Int) = optI (findS t a b) from by rw [fs_none ((low_find hs a b).1.symm.trans b28)]; rfl)) (lc (congrArg AV.bool (show (false : Bool) = (findS t a b).isSome from by exact ((low_find hs a b).1.symm.trans b28).symm)) rfl))
end Go.Proofs.T
namespace Go.Proofs.T
open Go Go.AH
set_option maxRecDepth 4000
set_option linter.unusedSimpArgs false
set_option linter.unusedVariables false
theorem c38 {H0 : Heap} {sid mid : Nat} (fs : List (List Int)) (hfs : fs.length ≤ 1048576) (hfss : ∀ l ∈ fs, l.length ≤ 1048576) (f v b : Int) (hf : 0 ≤ f ∧ f < fs.length) (hv : v ∈ at_ fs f) (hb : -1 ≤ b ∧ b ≤ 1) (hs : H0 sid = some (.row 0 [.sl fs.length (fs.map eF), .map mid])) : ACalls Try.prog 64 [.ptr sid 0 0, .int .i64 f, .int .i64 v, .int .i64 b] H0 fun r H' => r = (.int .i64 (nextS (at_ fs f) v b)) ∧ Mono H0 H' := by
 refine ACalls.of_body' (n := 31) rfl rfl rfl rfl ?_
 have m0 := Mono.refl H0
 refine Sr ?_
 refine A rfl rfl ?_
 refine AWP.seq ?_
 have hq : (at_ fs f).length ≤ 1048576 := hfss _ (at_mem (by omega) (by omega))
 have hix := ix_in hv
 refine AWP.region rfl ?_
 refine V rfl rfl (C rfl (nc_ (.ptr sid 0 0) rfl rfl rfl ?_))
 refine C rfl (Fa rfl rfl fl_87_0 ?_ (hid := ⟨_, hs⟩))
 refine C rfl (Ld _ rfl rfl ty_23 hs rfl (V rfl rfl (C rfl (iS_ rfl rfl rfl sl_23 (by omega) (by omega) (L rfl rfl ty_38 (ld1 (by omega) (by omega)) (A rfl rfl ?_))))))
 refine Sr ?_
 refine V rfl rfl (V rfl rfl (V rfl rfl (C rfl (Pc («as» := [.sl (at_ fs f).length ((at_ fs f).map eI), .int .i64 v]) rfl rfl (rfl) tf_76 (c41 _ (by first | omega | (simp; omega)) _) ?_))))
 intro H1 m2
 have h3 := m2 _ _ hs
 have m4 := m0.trans m2
 refine V rfl rfl (B rfl rfl rfl (iadd (by omega)) (V rfl rfl (C rfl (AOp.len (m := (at_ fs f).length) rfl rfl (.inr (.inl ⟨_, rfl⟩)) u_38 (B rfl rfl rfl (iadd (by omega)) (V rfl rfl (C rfl (AOp.len (m := (at_ fs f).length) rfl rfl (.inr (.inl ⟨_, rfl⟩)) u_38 ?_))))))))
 have r5 := mod_in (x := ixI (at_ fs f) v + b + (((at_ fs f).length) : Int)) (y := (((at_ fs f).length) : Int)) (by omega)
 refine C rfl (AOp.remP rfl rfl rfl (by omega) (by omega) (C rfl (iS_ rfl rfl rfl sl_38 (by omega) (by omega) (L rfl rfl ty_3 (ld1 (by omega) (by omega)) (A rfl rfl ?_)))))
 refine rt_ ?_
 refine Rr (Res.one rfl rfl) ?_ m4
 exact (congrArg (AV.int .i64) (show (at_ (at_ fs f) ((ixI (at_ fs f) v + b + (((at_ fs f).length) : Int)) % (((at_ fs f).length) : Int)) : Int) = nextS (at_ fs f) v b from by exact beside_eq hv))
theorem c25 {H0 : Heap} {sid mid : Nat} (fs : List (List Int)) (hfs : fs.length ≤ 1048576) (hfss : ∀ l ∈ fs, l.length ≤ 1048576) (n v : Int) (hn : n ≤ 1000) (hv : 0 ≤ v ∧ v < n) (hg : goodS n fs) (hs : H0 sid = some (.row 0 [.sl fs.length (fs.map eF), .map mid])) (hsm : H0 mid = some (.map ((sides fs).map eS))) : ACalls Try.prog 42 [.ptr sid 0 0, .int .i64 v, .sl (mineU fs v fs.length).length ((mineU fs v fs.length).map eI)] H0 fun r H' => r = (.tup [.sl (fanL fs v).length ((fanL fs v).map eI), .bool (fanR fs v), .bool (fanOK fs v)]) ∧ Mono H0 H' := by
 have hK := good_keys hg
 have hKR := good_KR hn hg
 have hml := mine_le fs v fs.length
 have hmm : ∀ f ∈ mineU fs v fs.length, 0 ≤ f ∧ f < fs.length ∧ v ∈ at_ fs f := fun f hf => mem_mineU.1 hf
 have hnb : ∀ f : Int, 0 ≤ f → f < fs.length → v ∈ at_ fs f → ∀ b : Int, 0 ≤ nextS (at_ fs f) v b ∧ nextS (at_ fs f) v b < n := fun f h0 h1 h2 b => next_in hg h0 h1 h2 b
 refine ACalls.of_body' (n := 92) rfl rfl rfl rfl ?_
 have m0 := Mono.refl H0
 refine Sr ?_
 refine A rfl rfl (A rfl rfl (A rfl rfl ?_))
 refine AWP.seq ?_
 refine Sr ?_
 refine V rfl rfl (C rfl (AOp.len (m := (mineU fs v fs.length).length) rfl rfl (.inr (.inl ⟨_, rfl⟩)) u_38 (B rfl rfl rfl ieq ?_)))
 refine AOps.nil ?_
 change AWP _ _ _ _ _ _
 by_cases b1 : (((mineU fs v fs.length).length) : Int) = 0
 refine ct_ rfl (decide_eq_true b1) ?_
 refine AWP.seq ?_
 have he : mineU fs v fs.length = [] := List.eq_nil_of_length_eq_zero (by omega)
 refine AWP.region rfl ?_
 refine A rfl rfl (A rfl rfl (A rfl rfl ?_))
 refine rt_ ?_
 refine Fin.frz 6 (Own.nil H0 H0 1) rfl m0 fun H2 m3 k4 => ?_
 refine Rr (Res.three rfl rfl rfl rfl) ?_ m3
 exact congrArg AV.tup (lc (congrArg (fun l : List Int => AV.sl l.length (l.map eI)) (show ([] : List Int) = fanL fs v from by unfold fanL; rw [if_pos he])) (lc (congrArg AV.bool (show (false : Bool) = fanR fs v from by unfold fanR; rw [if_pos he])) (lc (congrArg AV.bool (show (false : Bool) = fanOK fs v from by unfold fanOK; rw [if_pos he])) rfl)))
 refine cf_ rfl (decide_eq_false b1) ?_
 refine AWP.skip ?_
 refine AWP.seq ?_
 have hne : mineU fs v fs.length ≠ [] := fun e => by have h0 := congrArg List.length e; simp only [List.length_nil] at h0; omega
 have hx := mem_mineU.1 (head_mem hne)
 refine AWP.region rfl ?_
 refine V rfl rfl (C rfl (iS_ rfl rfl rfl sl_38 (by omega) (by omega) (L rfl rfl ty_3 (ld1 (by omega) (by omega)) (A rfl rfl (A rfl rfl ?_)))))
 refine AWP.seq ?_
 refine Sr ?_
 refine V rfl rfl (C rfl (AOp.len (m := (mineU fs v fs.length).length) rfl rfl (.inr (.inl ⟨_, rfl⟩)) u_38 (V rfl rfl ?_)))
 refine bk_ ?_
 refine AWP.loop (fun q7 fq Hq => ∃ (i : Int), q7 = ((((mineU fs v fs.length).length : Int) : Int) - i).toNat ∧ fq 26 = .int .i64 i ∧ fq 9 = .int .i64 (foldB fs v ((mineU fs v fs.length).take i.toNat) (at_ (mineU fs v fs.length) 0)) ∧ fq 10 = .bool (allG fs v ((mineU fs v fs.length).take i.toNat)) ∧ fq 0 = .ptr sid 0 0 ∧ fq 1 = .int .i64 v ∧ fq 2 = .sl (mineU fs v fs.length).length ((mineU fs v fs.length).map eI) ∧ fq 6 = .snil ∧ fq 7 = .bool false ∧ fq 8 = .bool false ∧ fq 24 = .sl (mineU fs v fs.length).length ((mineU fs v fs.length).map eI) ∧ fq 25 = .int .i64 (((mineU fs v fs.length).length) : Int) ∧ Hq sid = some (.row 0 ([.sl fs.length (fs.map eF), .map mid])) ∧ Hq mid = some (.map ((sides fs).map eS)) ∧ Mono H0 Hq ∧ (0 ≤ i) ∧ (i ≤ ((mineU fs v fs.length).length : Int))) (k := ((((mineU fs v fs.length).length : Int) : Int) - 0).toNat) ?_ ?_
 exact ⟨0, rfl, rfl, (congrArg (AV.int .i64) (show (at_ (mineU fs v fs.length) 0 : Int) = foldB fs v ((mineU fs v fs.length).take (0 : Int).toNat) (at_ (mineU fs v fs.length) 0) from by rfl)), (congrArg AV.bool (show (true : Bool) = allG fs v ((mineU fs v fs.length).take (0 : Int).toNat) from by rfl)), rfl, rfl, rfl, rfl, rfl, rfl, rfl, rfl, hs, hsm, m0, by omega, by omega⟩
 rintro _ f9 H8 ⟨i, rfl, s10, s11, s12, s13, s14, s15, s16, s17, s18, s19, s20, h21, h22, m23, hi0, hi1⟩
 refine Sr ?_
 refine B rfl s10 s20 rfl ?_
 refine AWP.seq ?_
 by_cases b24 : i < (((mineU fs v fs.length).length) : Int)
 refine ct_ rfl (decide_eq_true b24) ?_
 refine AWP.skip ?_
 refine AWP.seq ?_
 refine bk_ ?_
 refine Sr ?_
 refine C rfl (iS_ rfl s19 s10 sl_38 (by omega) (by omega) (L rfl rfl ty_3 (ld1 (by omega) (by omega)) (A rfl rfl ?_)))
 refine AWP.seq ?_
 have hm1 := hmm _ (at_mem hi0 (by omega))
 have hm2 := hnb _ hm1.1 hm1.2.1 hm1.2.2 1
 have hm3 := hm1.2.2
 refine AWP.region_quiet mixed (by kernel_rfl) 16 [] rfl (by kernel_rfl) (Mono H8) (Mono.refl _) ?_
 refine QV rfl s13 (Q rfl (fun _ _ φ ψ => nc_ (.ptr sid 0 0) rfl (φ 31 rfl) rfl ⟨rfl, ψ⟩) (Q rfl (fun _ _ φ ψ => Fa rfl (φ 32 rfl) fl_87_1 ⟨rfl, ψ⟩ (hid := ⟨_, (ψ _ _ h21)⟩)) (Q rfl (fun _ _ φ ψ => Ld _ rfl (φ 33 rfl) ty_85 (ψ _ _ h21) rfl ⟨rfl, ψ⟩) (QV rfl s13 (QV rfl rfl (QV rfl s14 (Q rfl (fun _ _ φ ψ => AOp.pcallH («as» := [.ptr sid 0 0, .int .i64 (at_ (mineU fs v fs.length) i), .int .i64 v, .int .i64 1]) rfl rfl (lapp (lcons (φ 35 rfl) (lcons (φ 36 rfl) (lcons (φ 37 rfl) (lcons rfl rfl)))) rfl) tf_64 (c38 _ (by assumption) (by assumption) _ _ _ (by omega) (by assumption) (by omega) (ψ _ _ h21)) fun H2 m2 => ⟨rfl, ψ.trans m2⟩) (QV rfl s14 (Q rfl (fun _ _ φ ψ => Bl (cells := [.int .i64 (nextS (at_ fs (at_ (mineU fs v fs.length) i)) v 1), .int .i64 v]) rfl tz_115 pl_115 (lconsP (φ 38 rfl) (lconsP (φ 39 rfl) rfl)) rfl ⟨rfl, ψ⟩) (Q rfl (fun _ _ φ ψ => AOp.lookupOk' rfl (φ 34 rfl) (ψ _ _ h22) (φ 40 rfl) (kok63 ⟨by omega, by omega⟩ ⟨by omega, by omega⟩) (kes hKR) tm52 tzv_3 (look_sides hK (nextS (at_ fs (at_ (mineU fs v fs.length) i)) v 1) (v)) ⟨rfl, ψ⟩) (QV rfl rfl (Q rfl (fun _ _ φ ψ => Ex _ rfl (φ 30 rfl) rfl ⟨rfl, ψ⟩) (Q rfl (fun _ _ φ ψ => Ex _ rfl (φ 30 rfl) rfl ⟨rfl, ψ⟩) ?_)))))))))))))
 refine Q rfl (fun _ _ φ ψ => As _ rfl (φ 42 rfl) ⟨rfl, ψ⟩) (Q rfl (fun _ _ φ ψ => As _ rfl (φ 43 rfl) ⟨rfl, ψ⟩) ?_)
 refine QE.done fun H25 m26 => ?_
 have h27 := m26 _ _ h21
 have h28 := m26 _ _ h22
 have m29 := m23.trans m26
 refine Sr ?_
 refine V rfl rfl (C rfl (AOp.not rfl rfl ?_))
 refine AOps.nil ?_
 change AWP _ _ _ _ _ _
 by_cases b30 : 0 ≤ alongS fs (nextS (at_ fs (at_ (mineU fs v fs.length) i)) v 1) v
 refine cf_ rfl (nb (decide_eq_true b30)) ?_
 refine AWP.skip ?_
 refine AWP.region rfl ?_
 refine B rfl s10 rfl (iadd (by omega)) (V rfl rfl ?_)
 refine AOps.nil ?_
 exact ⟨_, by omega, i + 1, rfl, rfl, (s11.trans (congrArg (AV.int .i64) (show (foldB fs v ((mineU fs v fs.length).take i.toNat) (at_ (mineU fs v fs.length) 0) : Int) = foldB fs v ((mineU fs v fs.length).take (i + 1).toNat) (at_ (mineU fs v fs.length) 0) from by exact (fold_F (x := at_ (mineU fs v fs.length) 0) hi0 (by omega) (by omega)).1.symm))), (s12.trans (congrArg AV.bool (show (allG fs v ((mineU fs v fs.length).take i.toNat) : Bool) = allG fs v ((mineU fs v fs.length).take (i + 1).toNat) from by exact (fold_F (x := at_ (mineU fs v fs.length) 0) hi0 (by omega) (by omega)).2.symm))), s13, s14, s15, s16, s17, s18, s19, s20, h27, h28, m29, by omega, by omega⟩
 refine ct_ rfl (nb (decide_eq_false b30)) ?_
 refine AWP.region rfl ?_
 refine V rfl rfl (A rfl rfl (A rfl rfl ?_))
 refine AWP.region rfl ?_
 refine B rfl s10 rfl (iadd (by omega)) (V rfl rfl ?_)
 refine AOps.nil ?_
 exact ⟨_, by omega, i + 1, rfl, rfl, (congrArg (AV.int .i64) (show (at_ (mineU fs v fs.length) i : Int) = foldB fs v ((mineU fs v fs.length).take (i + 1).toNat) (at_ (mineU fs v fs.length) 0) from by exact (fold_T (x := at_ (mineU fs v fs.length) 0) hi0 (by omega) (by omega)).1.symm)), (congrArg AV.bool (show (false : Bool) = allG fs v ((mineU fs v fs.length).take (i + 1).toNat) from by exact (fold_T (x := at_ (mineU fs v fs.length) 0) hi0 (by omega) (by omega)).2.symm)), s13, s14, s15, s16, s17, s18, s19, s20, h27, h28, m29, by omega, by omega⟩
 refine cf_ rfl (decide_eq_false b24) ?_
 refine AWP.exit ?_
 change AWP _ _ _ _ _ _
 refine AWP.seq ?_
 have hie : i = (mineU fs v fs.length).length := by omega
 have hh := fold_head (fs := fs) (v := v)
 have htk : (mineU fs v fs.length).take i.toNat = mineU fs v fs.length := take_all (by omega)
 refine AWP.region rfl ?_
 refine V rfl s11 (C rfl (AOp.buildSlice (cells := [.int .i64 (foldB fs v ((mineU fs v fs.length).take i.toNat) (at_ (mineU fs v fs.length) 0))]) rfl u_38 ts_3 tz_3 rfl rfl rfl ?_))
 intro i31 H32 n33 h34 k35
 have e36 := ne_new h21 n33
 have e37 := ne_new h22 n33
 have z38 := Mono.free m23 n33
 have h39 := keep k35 (ne_new h21 n33) h21
 have h40 := keep k35 (ne_new h22 n33) h22
 have m41 := Mono.new m23 n33 k35
 refine A rfl rfl ?_
 refine AWP.seq ?_
 refine bk_ ?_
 obtain ⟨v42, e43⟩ : ∃ v : AV, v = .slm i31 0 1 0 1 := ⟨_, rfl⟩
 have o44 : Own H0 H32 1 v42 1 [.int .i64 (foldB fs v ((mineU fs v fs.length).take i.toNat) (at_ (mineU fs v fs.length) 0))] := .inr ⟨_, _, e43, h34, z38, rfl⟩
 have no45 : NotId v42 sid := by rw [e43]; exact NotId.slm e36
 have no46 : NotId v42 mid := by rw [e43]; exact NotId.slm e37
 refine AWP.loop (fun q47 fq Hq => ∃ (k : Nat) (w15 : AV), q47 = fs.length + 1 - k ∧ fq 9 = .int .i64 (headS fs v) ∧ fq 10 = .bool (roundB fs v) ∧ fq 0 = .ptr sid 0 0 ∧ fq 1 = .int .i64 v ∧ fq 2 = .sl (mineU fs v fs.length).length ((mineU fs v fs.length).map eI) ∧ fq 6 = .snil ∧ fq 7 = .bool false ∧ fq 8 = .bool false ∧ fq 15 = w15 ∧ Own H0 Hq 1 w15 (orbS fs v (headS fs v) k).length ((orbS fs v (headS fs v) k).map eI) ∧ NotId w15 sid ∧ NotId w15 mid ∧ Hq sid = some (.row 0 ([.sl fs.length (fs.map eF), .map mid])) ∧ Hq mid = some (.map ((sides fs).map eS)) ∧ Mono H0 Hq ∧ (Runs fs v (headS fs v) k) ∧ (1 ≤ k)) (k := fs.length + 1 - 1) ?_ ?_
 exact ⟨1, v42, rfl, (s11.trans (congrArg (AV.int .i64) (show (foldB fs v ((mineU fs v fs.length).take i.toNat) (at_ (mineU fs v fs.length) 0) : Int) = headS fs v from by rw [htk]; exact hh.1))), (s12.trans (congrArg AV.bool (show (allG fs v ((mineU fs v fs.length).take i.toNat) : Bool) = roundB fs v from by rw [htk]; exact hh.2))), s13, s14, s15, s16, s17, s18, e43.symm, (have hx : (([foldB fs v ((mineU fs v fs.length).take i.toNat) (at_ (mineU fs v fs.length) 0)] : List Int) : List Int) = orbS fs v (headS fs v) 1 := (by rw [htk, hh.1]; rfl); Own.re (o44) (congrArg List.length hx) (congrArg (fun l : List Int => l.map eI) hx)), no45, no46, h39, h40, m41, by exact runs_one hx.1, by omega⟩
 rintro _ f49 H48 ⟨k, w15, rfl, s50, s51, s52, s53, s54, s55, s56, s57, s58, o59, no60, no61, h62, h63, m64, hr, hk1⟩
 refine AWP.seq ?_
 refine Sr ?_
 refine V rfl s58 (C rfl (AOp.len_own (m := ((orbS fs v (headS fs v) k).length)) rfl rfl o59 u_38 (V rfl s54 (C rfl (AOp.len (m := (mineU fs v fs.length).length) rfl rfl (.inr (.inl ⟨_, rfl⟩)) u_38 (B rfl rfl rfl rfl ?_))))))
 refine AOps.nil ?_
 change AWP _ _ _ _ _ _
 by_cases b65 : (((orbS fs v (headS fs v) k).length) : Int) ≤ (((mineU fs v fs.length).length) : Int)
 refine ct_ rfl (decide_eq_true b65) ?_
 refine AWP.skip ?_
 refine bk_ ?_
 refine AWP.seq ?_
 have hol := orb_len fs v (headS fs v) k
 have hlast : at_ (orbS fs v (headS fs v) k) (((orbS fs v (headS fs v) k).length : Int) - 1) = iterS (stepS fs v) (headS fs v) (k - 1) := orb_last hk1
 have hme := run_mem hg hx.1 hx.2.1 hx.2.2 hr (k - 1) (by omega)
 have hbn := hnb _ hme.1 hme.2.1 hme.2.2 (-1)
 have hv3 := hme.2.2
 rw [← hlast] at hbn hv3 hme
 have hit : alongS fs v (nextS (at_ fs (at_ (orbS fs v (headS fs v) k) (((orbS fs v (headS fs v) k).length : Int) - 1))) v (-1)) = iterS (stepS fs v) (headS fs v) k := by rw [hlast]; exact iter_pred hk1
 refine AWP.region_quiet mixed (by kernel_rfl) 21 [] rfl (by kernel_rfl) (Mono H48) (Mono.refl _) ?_
 refine QV rfl s52 (Q rfl (fun _ _ φ ψ => nc_ (.ptr sid 0 0) rfl (φ 56 rfl) rfl ⟨rfl, ψ⟩) (Q rfl (fun _ _ φ ψ => Fa rfl (φ 57 rfl) fl_87_1 ⟨rfl, ψ⟩ (hid := ⟨_, (ψ _ _ h62)⟩)) (Q rfl (fun _ _ φ ψ => Ld _ rfl (φ 58 rfl) ty_85 (ψ _ _ h62) rfl ⟨rfl, ψ⟩) (QV rfl s53 (QV rfl s52 (QV rfl s58 (QV rfl s58 (Q rfl (fun _ _ φ ψ => AOp.len_own (m := ((orbS fs v (headS fs v) k).length)) rfl (φ 63 rfl) o59 u_38 ⟨rfl, ψ⟩) (QB rfl rfl rfl (isub (by omega)) ?_)))))))))
 obtain ⟨i66, ver67, e68, h69, _, _⟩ := Own.pos o59 (by omega)
 refine Q rfl (fun _ _ φ ψ => AOp.indexAddrO rfl (Eq.trans (φ 62 rfl) e68) (φ 65 rfl) sl_38 (by omega) (by omega) (ψ _ _ h69) ⟨rfl, ψ⟩) (Q rfl (fun _ _ φ ψ => Ld _ rfl (φ 66 rfl) ty_3 (ψ _ _ h69) (ld1 (by omega) (by omega)) ⟨rfl, ψ⟩) (QV rfl s53 (Q rfl (fun _ _ φ ψ => AOp.pcallH («as» := [.ptr sid 0 0, .int .i64 (at_ (orbS fs v (headS fs v) k) ((((orbS fs v (headS fs v) k).length) : Int) - 1)), .int .i64 v, .int .i64 (-1)]) rfl rfl (lapp (lcons (φ 61 rfl) (lcons (φ 67 rfl) (lcons (φ 68 rfl) (lcons rfl rfl)))) rfl) tf_64 (c38 _ (by assumption) (by assumption) _ _ _ (by omega) (by assumption) (by omega) (ψ _ _ h62)) fun H2 m2 => ⟨rfl, ψ.trans m2⟩) (Q rfl (fun _ _ φ ψ => Bl (cells := [.int .i64 v, .int .i64 (nextS (at_ fs (at_ (orbS fs v (headS fs v) k) ((((orbS fs v (headS fs v) k).length) : Int) - 1))) v (-1))]) rfl tz_115 pl_115 (lconsP (φ 60 rfl) (lconsP (φ 69 rfl) rfl)) rfl ⟨rfl, ψ⟩) (Q rfl (fun _ _ φ ψ => AOp.lookupOk' rfl (φ 59 rfl) (ψ _ _ h63) (φ 70 rfl) (kok63 ⟨by omega, by omega⟩ ⟨by omega, by omega⟩) (kes hKR) tm52 tzv_3 (look_sides hK (v) (nextS (at_ fs (at_ (orbS fs v (headS fs v) k) ((((orbS fs v (headS fs v) k).length) : Int) - 1))) v (-1))) ⟨rfl, ψ⟩) (QV rfl rfl (Q rfl (fun _ _ φ ψ => Ex _ rfl (φ 55 rfl) rfl ⟨rfl, ψ⟩) (Q rfl (fun _ _ φ ψ => Ex _ rfl (φ 55 rfl) rfl ⟨rfl, ψ⟩) (Q rfl (fun _ _ φ ψ => As _ rfl (φ 72 rfl) ⟨rfl, ψ⟩) (Q rfl (fun _ _ φ ψ => As _ rfl (φ 73 rfl) ⟨rfl, ψ⟩) ?_))))))))))
 refine QE.done fun H70 m71 => ?_
 have h72 := m71 _ _ h62
 have h73 := m71 _ _ h63
 have o74 := Own.mono o59 m71
 have m75 := m64.trans m71
 refine AWP.seq ?_
 refine Sr ?_
 refine V rfl rfl (C rfl (AOp.not rfl rfl (V rfl rfl ?_)))
 by_cases b76 : 0 ≤ alongS fs v (nextS (at_ fs (at_ (orbS fs v (headS fs v) k) ((((orbS fs v (headS fs v) k).length) : Int) - 1))) v (-1))
 refine Y rfl rfl rfl (nb (decide_eq_true b76)) (Mv _ rfl rfl (Y rfl rfl rfl (nb (decide_eq_true b76)) (Mv _ rfl s50 (Y rfl rfl rfl (nb (decide_eq_true b76)) (Bi _ rfl rfl rfl ieq (C rfl (Pf _ rfl rfl (nb (decide_eq_true b76)) rfl ?_)))))))
 refine AOps.nil ?_
 change AWP _ _ _ _ _ _
 by_cases b77 : gotA fs v (nextS (at_ fs (at_ (orbS fs v (headS fs v) k) ((((orbS fs v (headS fs v) k).length) : Int) - 1))) v (-1)) = headS fs v
 refine ct_ rfl (decide_eq_true b77) ?_
 refine AWP.exit ?_
 change AWP _ _ _ _ _ _
 refine AWP.seq ?_
 have hol := orb_len fs v (headS fs v) k
 have hle := run_le hg hx.1 hx.2.1 hx.2.2 hr
 have hst : isStop fs v (headS fs v) k := ⟨hk1, .inr (by have h1 := b77; unfold gotA at h1; rw [if_pos b76] at h1; omega)⟩
 have hfl : fanL fs v = orbS fs v (headS fs v) k := by unfold fanL; rw [if_neg hne, ← stop_of (by omega) hr hst]
 refine AWP.region rfl ?_
 refine V rfl s58 (V rfl s51 (V rfl s58 (C rfl (AOp.len_own (m := ((orbS fs v (headS fs v) k).length)) rfl rfl o74 u_38 (V rfl s54 (C rfl (AOp.len (m := (mineU fs v fs.length).length) rfl rfl (.inr (.inl ⟨_, rfl⟩)) u_38 (B rfl rfl rfl ieq (A rfl rfl (A rfl rfl (A rfl rfl ?_)))))))))))
 refine rt_ ?_
 refine Fin.frz 6 o74 rfl m75 fun H78 m79 k80 => ?_
 refine Rr (Res.three rfl rfl rfl rfl) ?_ m79
 exact congrArg AV.tup (lc (congrArg (fun l : List Int => AV.sl l.length (l.map eI)) (show ((orbS fs v (headS fs v) k) : List Int) = fanL fs v from by rw [hfl])) (lc (congrArg AV.bool (show (roundB fs v : Bool) = fanR fs v from by unfold fanR; rw [if_neg hne])) (lc (congrArg AV.bool (show (decide ((((orbS fs v (headS fs v) k).length) : Int) = (((mineU fs v fs.length).length) : Int)) : Bool) = fanOK fs v from by unfold fanOK; rw [if_neg hne, hfl]; exact decide_eq_decide.2 (by omega))) rfl)))
 refine cf_ rfl (decide_eq_false b77) ?_
 refine AWP.skip ?_
 change AWP _ _ _ _ _ _
 have hga : gotA fs v (nextS (at_ fs (at_ (orbS fs v (headS fs v) k) (((orbS fs v (headS fs v) k).length : Int) - 1))) v (-1)) = iterS (stepS fs v) (headS fs v) k := by unfold gotA; rw [if_pos b76]; exact hit
 have hr2 := runs_step hr (by have := b76; omega) (.inr (by have := b77; rw [hga] at this; exact this))
 have hle2 := run_le hg hx.1 hx.2.1 hx.2.2 hr2
 refine AWP.region rfl ?_
 refine V rfl s58 (V rfl rfl (C rfl (AOp.buildSlice (cells := [.int .i64 (gotA fs v (nextS (at_ fs (at_ (orbS fs v (headS fs v) k) ((((orbS fs v (headS fs v) k).length) : Int) - 1))) v (-1)))]) rfl u_38 ts_3 tz_3 rfl rfl rfl ?_)))
 intro i83 H84 n85 h86 k87
 have h91 := keep k87 (ne_new h72 n85) h72
 have h92 := keep k87 (ne_new h73 n85) h73
 have o93 := Own.keep o74 k87 (Own.notnew o74 n85)
 have m95 := Mono.new m75 n85 k87
 refine C rfl (AOp.append_own (es := 1) (m := 1) (len := ((orbS fs v (headS fs v) k).length)) (old := (orbS fs v (headS fs v) k).map eI) (cells := [.int .i64 (gotA fs v (nextS (at_ fs (at_ (orbS fs v (headS fs v) k) ((((orbS fs v (headS fs v) k).length) : Int) - 1))) v (-1)))]) rfl u_38 ts_3 tzn_3 tb_3 (by decide) ni_38 rfl o93 m95 rfl (.slm h86 rfl) (one_of rfl) (by decide) (by first | omega | (simp; omega)) ?_)
 intro v96 H97 o98 m99 k100 j101
 have o102 := Own.snoc1 (xs := ((orbS fs v (headS fs v) k) : List Int)) (y := gotA fs v (nextS (at_ fs (at_ (orbS fs v (headS fs v) k) ((((orbS fs v (headS fs v) k).length) : Int) - 1))) v (-1))) (e := eI) (by simp) o98
 have h103 := (k100 _ no60 (by rw [h91]; simp)).trans h91
 have no104 := j101 _ no60 (by rw [h91]; simp)
 have h105 := (k100 _ no61 (by rw [h92]; simp)).trans h92
 have no106 := j101 _ no61 (by rw [h92]; simp)
 refine A rfl rfl ?_
 refine AOps.nil ?_
 exact ⟨_, by omega, k + 1, v96, rfl, s50, s51, s52, s53, s54, s55, s56, s57, rfl, (have hx : (((orbS fs v (headS fs v) k) ++ [gotA fs v (nextS (at_ fs (at_ (orbS fs v (headS fs v) k) ((((orbS fs v (headS fs v) k).length) : Int) - 1))) v (-1))]) : List Int) = orbS fs v (headS fs v) (k + 1) := (by rw [orb_step, hga]); Own.re o102 (congrArg List.length hx) (congrArg (fun l : List Int => l.map eI) hx)), no104, no106, h103, h105, m99, by exact hr2, by omega⟩
 refine N rfl rfl (nb (decide_eq_false b76)) (N rfl rfl (nb (decide_eq_false b76)) (N rfl rfl (nb (decide_eq_false b76)) (C rfl (Pt _ rfl rfl (nb (decide_eq_false b76)) rfl ?_))))
 refine ct_ rfl rfl ?_
 refine AWP.exit ?_
 change AWP _ _ _ _ _ _
 refine AWP.seq ?_
 have hol := orb_len fs v (headS fs v) k
 have hle := run_le hg hx.1 hx.2.1 hx.2.2 hr
 have hst : isStop fs v (headS fs v) k := ⟨hk1, .inl (by omega)⟩
 have hfl : fanL fs v = orbS fs v (headS fs v) k := by unfold fanL; rw [if_neg hne, ← stop_of (by omega) hr hst]
 refine AWP.region rfl ?_
 refine V rfl s58 (V rfl s51 (V rfl s58 (C rfl (AOp.len_own (m := ((orbS fs v (headS fs v) k).length)) rfl rfl o74 u_38 (V rfl s54 (C rfl (AOp.len (m := (mineU fs v fs.length).length) rfl rfl (.inr (.inl ⟨_, rfl⟩)) u_38 (B rfl rfl rfl ieq (A rfl rfl (A rfl rfl (A rfl rfl ?_)))))))))))
 refine rt_ ?_
 refine Fin.frz 6 o74 rfl m75 fun H107 m108 k109 => ?_
 refine Rr (Res.three rfl rfl rfl rfl) ?_ m108
 exact congrArg AV.tup (lc (congrArg (fun l : List Int => AV.sl l.length (l.map eI)) (show ((orbS fs v (headS fs v) k) : List Int) = fanL fs v from by rw [hfl])) (lc (congrArg AV.bool (show (roundB fs v : Bool) = fanR fs v from by unfold fanR; rw [if_neg hne])) (lc (congrArg AV.bool (show (decide ((((orbS fs v (headS fs v) k).length) : Int) = (((mineU fs v fs.length).length) : Int)) : Bool) = fanOK fs v from by unfold fanOK; rw [if_neg hne, hfl]; exact decide_eq_decide.2 (by omega))) rfl)))
 refine cf_ rfl (decide_eq_false b65) ?_
 refine AWP.exit ?_
 change AWP _ _ _ _ _ _
 refine AWP.seq ?_
 have hol := orb_len fs v (headS fs v) k
 have hle := run_le hg hx.1 hx.2.1 hx.2.2 hr
 have hst : isStop fs v (headS fs v) k := by exfalso; omega
 have hfl : fanL fs v = orbS fs v (headS fs v) k := by unfold fanL; rw [if_neg hne, ← stop_of (by omega) hr hst]
 refine AWP.region rfl ?_
 refine V rfl s58 (V rfl s51 (V rfl s58 (C rfl (AOp.len_own (m := ((orbS fs v (headS fs v) k).length)) rfl rfl o59 u_38 (V rfl s54 (C rfl (AOp.len (m := (mineU fs v fs.length).length) rfl rfl (.inr (.inl ⟨_, rfl⟩)) u_38 (B rfl rfl rfl ieq (A rfl rfl (A rfl rfl (A rfl rfl ?_)))))))))))
 refine rt_ ?_
 refine Fin.frz 6 o59 rfl m64 fun H112 m113 k114 => ?_
 refine Rr (Res.three rfl rfl rfl rfl) ?_ m113
 exact congrArg AV.tup (lc (congrArg (fun l : List Int => AV.sl l.length (l.map eI)) (show ((orbS fs v (headS fs v) k) : List Int) = fanL fs v from by rw [hfl])) (lc (congrArg AV.bool (show (roundB fs v : Bool) = fanR fs v from by unfold fanR; rw [if_neg hne])) (lc (congrArg AV.bool (show (decide ((((orbS fs v (headS fs v) k).length) : Int) = (((mineU fs v fs.length).length) : Int)) : Bool) = fanOK fs v from by unfold fanOK; rw [if_neg hne, hfl]; exact decide_eq_decide.2 (by omega))) rfl)))
theorem c35 {H0 : Heap} {sid mid cid : Nat} (fs : List (List Int)) (hfs : fs.length ≤ 1048576) (hfss : ∀ l ∈ fs, l.length ≤ 1048576) (w : Int × Int) (hw : inR w.1 ∧ inR w.2) (hK : Keys (sides fs)) (hKR : KR (sides fs)) (hc : H0 cid = some (.row 0 [.ptr sid 0 0])) (hs : H0 sid = some (.row 0 [.sl fs.length (fs.map eF), .map mid])) (hsm : H0 mid = some (.map ((sides fs).map eS))) : ACalls Try.prog 59 [.agg [.int .i64 w.1, .int .i64 w.2], .ptr cid 0 0] H0 fun r H' => r = (.int .i64 (alongS fs w.1 w.2)) ∧ Mono H0 H' := by
 refine ACalls.of_body' (n := 17) rfl rfl rfl rfl ?_
 have m0 := Mono.refl H0
 refine Sr ?_
 refine C rfl (bx_ (.agg [.int .i64 w.1, .int .i64 w.2]) rfl rfl rfl ?_)
 intro i1 H2 n3 h4 k5
 have h10 := keep k5 (ne_new hs n3) hs
 have h11 := keep k5 (ne_new hsm n3) hsm
 have h12 := keep k5 (ne_new hc n3) hc
 have m13 := Mono.new m0 n3 k5
 refine A rfl rfl ?_
 refine AWP.seq ?_
 refine AWP.seq ?_
 refine AWP.region_quiet mixed (by kernel_rfl) 11 [] rfl (by kernel_rfl) (Mono H2) (Mono.refl _) ?_
 refine Q rfl (fun _ _ φ ψ => Ld _ rfl (φ 1 rfl) ty_84 (ψ _ _ h12) rfl ⟨rfl, ψ⟩) (Q rfl (fun _ _ φ ψ => nc_ (.ptr sid 0 0) rfl (φ 7 rfl) rfl ⟨rfl, ψ⟩) (Q rfl (fun _ _ φ ψ => Fa rfl (φ 8 rfl) fl_87_1 ⟨rfl, ψ⟩ (hid := ⟨_, (ψ _ _ h10)⟩)) (Q rfl (fun _ _ φ ψ => Ld _ rfl (φ 9 rfl) ty_85 (ψ _ _ h10) rfl ⟨rfl, ψ⟩) (Q rfl (fun _ _ φ ψ => Ld _ rfl (φ 2 rfl) ty_115 (ψ _ _ h4) rfl ⟨rfl, ψ⟩) (Q rfl (fun _ _ φ ψ => AOp.lookupOk' rfl (φ 10 rfl) (ψ _ _ h11) (φ 11 rfl) (kok63 hw.1 hw.2) (kes hKR) tm52 tzv_3 (look_sides hK (w.1) (w.2)) ⟨rfl, ψ⟩) (QV rfl rfl (Q rfl (fun _ _ φ ψ => Ex _ rfl (φ 6 rfl) rfl ⟨rfl, ψ⟩) (Q rfl (fun _ _ φ ψ => Ex _ rfl (φ 6 rfl) rfl ⟨rfl, ψ⟩) (Q rfl (fun _ _ φ ψ => As _ rfl (φ 13 rfl) ⟨rfl, ψ⟩) (Q rfl (fun _ _ φ ψ => As _ rfl (φ 14 rfl) ⟨rfl, ψ⟩) ?_))))))))))
 refine QE.done fun H14 m15 => ?_
 have h16 := m15 _ _ h10
 have h17 := m15 _ _ h11
 have h18 := m15 _ _ h12
 have h19 := m15 _ _ h4
 have m20 := m13.trans m15
 refine Sr ?_
 refine V rfl rfl ?_
 refine AOps.nil ?_
 change AWP _ _ _ _ _ _
 by_cases b21 : 0 ≤ alongS fs w.1 w.2
 refine ct_ rfl (decide_eq_true b21) ?_
 refine Sr ?_
 refine V rfl rfl (A rfl rfl ?_)
 refine rt_ ?_
 refine Rr (Res.one rfl rfl) ?_ m20
 exact (congrArg (AV.int .i64) (show (gotA fs w.1 w.2 : Int) = alongS fs w.1 w.2 from by unfold gotA; rw [if_pos b21]))
 refine cf_ rfl (decide_eq_false b21) ?_
 refine AWP.skip ?_
 refine Sr ?_
 refine A rfl rfl ?_
 refine rt_ ?_
 refine Rr (Res.one rfl rfl) ?_ m20
 exact (congrArg (AV.int .i64) (show (-1 : Int) = alongS fs w.1 w.2 from by have := (along_keys hK w.1 w.2).2; omega))
theorem c23 {H0 : Heap} {sid mid : Nat} (fs : List (List Int)) (hfs : fs.length ≤ 1048576) (hfss : ∀ l ∈ fs, l.length ≤ 1048576) (n f : Int) (hn : n ≤ 1000) (hf : 0 ≤ f ∧ f < fs.length) (hpre : ∀ g : Int, 0 ≤ g → g < f → addF n fs g) (hne : sid ≠ mid) (hs : H0 sid = some (.row 0 [.sl fs.length (fs.map eF), .map mid])) (hsm : H0 mid = some (.map ((psides fs f 0).map eS))) : ACalls Try.prog 40 [.ptr sid 0 0, .int .i64 f, .int .i64 n] H0 fun r H' => Mono (hide H0 mid) H' ∧ ∃ L, H' mid = some (.map (L.map eS)) ∧ ((r = .bool true ∧ addF n fs f ∧ L = psides fs (f + 1) 0) ∨ (r = .bool false ∧ ¬ addF n fs f)) := by
 refine ACalls.of_body' (n := 70) rfl rfl rfl rfl ?_
 have m0 := hide_mono H0 mid
 refine Sr ?_
 refine A rfl rfl ?_
 refine Sr ?_
 refine V rfl rfl (C rfl (nc_ (.ptr sid 0 0) rfl rfl rfl ?_))
 refine C rfl (Fa rfl rfl fl_87_0 ?_ (hid := ⟨_, hs⟩))
 refine C rfl (Ld _ rfl rfl ty_23 hs rfl (V rfl rfl (C rfl (iS_ rfl rfl rfl sl_23 (by omega) (by omega) (L rfl rfl ty_38 (ld1 (by omega) (by omega)) (A rfl rfl ?_))))))
 refine AWP.seq ?_
 refine AWP.seq ?_
 have hq : (at_ fs f).length ≤ 1048576 := hfss _ (at_mem (by omega) (by omega))
 refine AWP.region rfl ?_
 refine V rfl rfl (C rfl (AOp.len (m := (at_ fs f).length) rfl rfl (.inr (.inl ⟨_, rfl⟩)) u_38 (B rfl rfl rfl rfl ?_)))
 refine AOps.nil ?_
 change AWP _ _ _ _ _ _
 by_cases b1 : (((at_ fs f).length) : Int) < 3
 refine ct_ rfl (decide_eq_true b1) ?_
 refine Sr ?_
 refine A rfl rfl ?_
 refine rt_ ?_
 refine ⟨_, _, Ghost.refl, .inr rfl, _, Res.one rfl rfl, m0, ?_⟩
 exact ⟨_, hsm, .inr ⟨rfl, fun h => by have := h.1; omega⟩⟩
 refine cf_ rfl (decide_eq_false b1) ?_
 refine AWP.skip ?_
 refine AWP.seq ?_
 refine Sr ?_
 refine V rfl rfl (C rfl (AOp.len (m := (at_ fs f).length) rfl rfl (.inr (.inl ⟨_, rfl⟩)) u_38 (V rfl rfl ?_)))
 refine bk_ ?_
 refine AWP.loop (fun q2 fq Hq => ∃ (i : Int), q2 = ((((at_ fs f).length : Int) : Int) - i).toNat ∧ fq 26 = .int .i64 i ∧ fq 0 = .ptr sid 0 0 ∧ fq 1 = .int .i64 f ∧ fq 2 = .int .i64 n ∧ fq 7 = .sl (at_ fs f).length ((at_ fs f).map eI) ∧ fq 24 = .sl (at_ fs f).length ((at_ fs f).map eI) ∧ fq 25 = .int .i64 (((at_ fs f).length) : Int) ∧ Hq sid = some (.row 0 ([.sl fs.length (fs.map eF), .map mid])) ∧ Hq mid = some (.map ((psides fs f 0).map eS)) ∧ Mono (hide H0 mid) Hq ∧ (0 ≤ i) ∧ (i ≤ ((at_ fs f).length : Int)) ∧ (∀ j : Int, 0 ≤ j → j < i → 0 ≤ at_ (at_ fs f) j ∧ at_ (at_ fs f) j < n) ∧ (∀ j k : Int, 0 ≤ k → k < j → j < i → at_ (at_ fs f) j ≠ at_ (at_ fs f) k)) (k := ((((at_ fs f).length : Int) : Int) - 0).toNat) ?_ ?_
 exact ⟨0, rfl, rfl, rfl, rfl, rfl, rfl, rfl, rfl, hs, hsm, m0, by omega, by omega, by intro j; omega, by intro j; omega⟩
 rintro _ f4 H3 ⟨i, rfl, s5, s6, s7, s8, s9, s10, s11, h12, h13, m14, hi0, hi1, preA, preB⟩
 refine Sr ?_
 refine B rfl s5 s11 rfl ?_
 refine AWP.seq ?_
 by_cases b15 : i < (((at_ fs f).length) : Int)
 refine ct_ rfl (decide_eq_true b15) ?_
 refine AWP.skip ?_
 refine AWP.seq ?_
 refine bk_ ?_
 refine Sr ?_
 refine V rfl s5 (C rfl (iS_ rfl s10 s5 sl_38 (by omega) (by omega) (L rfl rfl ty_3 (ld1 (by omega) (by omega)) (A rfl rfl (A rfl rfl ?_)))))
 refine Sr ?_
 refine V rfl rfl (B rfl rfl rfl rfl (V rfl rfl ?_))
 by_cases b16 : at_ (at_ fs f) i < 0
 refine N rfl rfl (decide_eq_true b16) (N rfl rfl (decide_eq_true b16) (N rfl rfl (decide_eq_true b16) (C rfl (Pt _ rfl rfl (decide_eq_true b16) rfl (V rfl rfl (N rfl rfl rfl (N rfl rfl rfl (N rfl rfl rfl (N rfl rfl rfl (N rfl rfl rfl (C rfl (Pt _ rfl rfl rfl rfl ?_))))))))))))
 refine ct_ rfl rfl ?_
 refine Sr ?_
 refine A rfl rfl ?_
 refine rt_ ?_
 refine ⟨_, _, Ghost.refl, .inr rfl, _, Res.one rfl rfl, m14, ?_⟩
 exact ⟨_, h13, .inr ⟨rfl, fun h => by have := h.2.1 i hi0 (by omega); omega⟩⟩
 refine Y rfl rfl rfl (decide_eq_false b16) (Mv _ rfl rfl (Y rfl rfl rfl (decide_eq_false b16) (Mv _ rfl s8 (Y rfl rfl rfl (decide_eq_false b16) (Bi _ rfl rfl rfl rfl (C rfl (Pf _ rfl rfl (decide_eq_false b16) rfl (V rfl rfl ?_))))))))
 by_cases b17 : at_ (at_ fs f) i ≥ n
 refine N rfl rfl (decide_eq_true b17) (N rfl rfl (decide_eq_true b17) (N rfl rfl (decide_eq_true b17) (N rfl rfl (decide_eq_true b17) (N rfl rfl (decide_eq_true b17) (C rfl (Pt _ rfl rfl (decide_eq_true b17) rfl ?_))))))
 refine ct_ rfl rfl ?_
 refine Sr ?_
 refine A rfl rfl ?_
 refine rt_ ?_
 refine ⟨_, _, Ghost.refl, .inr rfl, _, Res.one rfl rfl, m14, ?_⟩
 exact ⟨_, h13, .inr ⟨rfl, fun h => by have := h.2.1 i hi0 (by omega); omega⟩⟩
 refine Y rfl rfl rfl (decide_eq_false b17) (Mv _ rfl s9 (Y rfl rfl rfl (decide_eq_false b17) (Mv _ rfl rfl (Y rfl rfl rfl (decide_eq_false b17) (AOp.sliceST1 (l := 0) (h := i) rfl rfl  sl_38 rfl (hi_of rfl) (by omega) (by omega) (by omega) (Y rfl rfl rfl (decide_eq_false b17) (Mv _ rfl rfl (Y rfl rfl rfl (decide_eq_false b17) (Pc («as» := [.sl ((at_ fs f).take i.toNat).length (((at_ fs f).take i.toNat).map eI), .int .i64 (at_ (at_ fs f) i)]) rfl rfl (rfl) tf_57 (c33 _ (by first | omega | (simp; omega)) _) ?_)))))))))
 intro H18 m19
 have h20 := m19 _ _ h12
 have h21 := m19 _ _ h13
 have m22 := m14.trans m19
 refine C rfl (Pf _ rfl rfl (decide_eq_false b17) rfl ?_)
 refine AOps.nil ?_
 change AWP _ _ _ _ _ _
 by_cases b23 : at_ (at_ fs f) i ∈ ((at_ fs f).take i.toNat)
 refine ct_ rfl (decide_eq_true b23) ?_
 refine Sr ?_
 refine A rfl rfl ?_
 refine rt_ ?_
 refine ⟨_, _, Ghost.refl, .inr rfl, _, Res.one rfl rfl, m22, ?_⟩
 exact ⟨_, h21, .inr ⟨rfl, fun h => (take_mem hi0 (by omega) b23).elim fun k hk => h.2.2.1 i k hk.1 hk.2.1 (by omega) hk.2.2.symm⟩⟩
 refine cf_ rfl (decide_eq_false b23) ?_
 refine AWP.skip ?_
 refine AWP.region rfl ?_
 refine B rfl s5 rfl (iadd (by omega)) (V rfl rfl ?_)
 refine AOps.nil ?_
 exact ⟨_, by omega, i + 1, rfl, rfl, s6, s7, s8, s9, s10, s11, h20, h21, m22, by omega, by omega, by exact fa_step preA (by omega), by exact apart_step hi0 (by omega) preB b23⟩
 refine cf_ rfl (decide_eq_false b15) ?_
 refine AWP.exit ?_
 change AWP _ _ _ _ _ _
 refine AWP.seq ?_
 refine AWP.seq ?_
 have hwl := wayF_len (at_ fs f)
 have hA : ∀ j : Int, 0 ≤ j → j < (at_ fs f).length → 0 ≤ at_ (at_ fs f) j ∧ at_ (at_ fs f) j < n := fun j h0 h1 => preA j h0 (by omega)
 have hB : Apart (at_ fs f) := fun i k h1 h2 h3 => preB i k h1 h2 (by omega)
 refine AWP.region rfl ?_
 refine V rfl s9 (C rfl (Pc («as» := [.sl (at_ fs f).length ((at_ fs f).map eI)]) rfl rfl (rfl) tf_58 (c34 _ (by omega)) ?_))
 intro H24 m25
 have h26 := m25 _ _ h12
 have h27 := m25 _ _ h13
 have m28 := m14.trans m25
 refine C rfl (AOp.len (m := (wayF (at_ fs f)).length) rfl rfl (.inr (.inl ⟨_, rfl⟩)) u_112 (V rfl rfl ?_))
 refine bk_ ?_
 refine AWP.loop (fun q29 fq Hq => ∃ (i : Int), q29 = ((((at_ fs f).length : Int) : Int) - i).toNat ∧ fq 49 = .int .i64 i ∧ fq 0 = .ptr sid 0 0 ∧ fq 1 = .int .i64 f ∧ fq 47 = .sl (wayF (at_ fs f)).length ((wayF (at_ fs f)).flatMap eW) ∧ fq 48 = .int .i64 (((wayF (at_ fs f)).length) : Int) ∧ Hq sid = some (.row 0 ([.sl fs.length (fs.map eF), .map mid])) ∧ Hq mid = some (.map ((psides fs f i).map eS)) ∧ Mono (hide H0 mid) Hq ∧ (0 ≤ i) ∧ (i ≤ ((at_ fs f).length : Int)) ∧ (∀ j : Int, 0 ≤ j → j < i → hitsL (psides fs f j) (at_ (at_ fs f) j) (at_ (at_ fs f) ((j + 1) % (at_ fs f).length)) = [])) (k := ((((at_ fs f).length : Int) : Int) - 0).toNat) ?_ ?_
 exact ⟨0, rfl, rfl, s6, s7, rfl, rfl, h26, h27, m28, by omega, by omega, by intro j; omega⟩
 rintro _ f31 H30 ⟨i, rfl, s32, s33, s34, s35, s36, h37, h38, m39, hi0, hi1, preD⟩
 refine Sr ?_
 refine B rfl s32 s36 rfl ?_
 refine AWP.seq ?_
 by_cases b40 : i < (((wayF (at_ fs f)).length) : Int)
 refine ct_ rfl (decide_eq_true b40) ?_
 refine AWP.skip ?_
 refine AWP.seq ?_
 refine bk_ ?_
 refine AWP.seq ?_
 have hwi := at_wayF (l := at_ fs f) hi0 (by omega)
 have hri := mod_in (x := i + 1) (y := ((at_ fs f).length : Int)) (by omega)
 have hA1 := hA i hi0 (by omega)
 have hA2 := hA _ hri.1 hri.2
 have hka : inR (at_ (wayF (at_ fs f)) i).1 := by rw [hwi]; unfold inR; omega
 have hkb : inR (at_ (wayF (at_ fs f)) i).2 := by rw [hwi]; unfold inR; omega
 have hKRi : KR (psides fs f i) := psides_KR hn hf.1 (fun g h0 h1 h2 => (hpre g h0 h1).2.1) hA
 obtain ⟨lx, hlk1, hlk2⟩ := look_hits (psides fs f i) (at_ (wayF (at_ fs f)) i).1 (at_ (wayF (at_ fs f)) i).2
 refine AWP.region rfl ?_
 refine C rfl (iS_ rfl s35 s32 sl_112 (by omega) (by omega) (L rfl rfl ty_115 (ldM eW_len (by omega) (by omega)) (C rfl (al_ rfl tz_115 ?_))))
 intro i41 H42 n43 h44 k45
 have e46 := ne_new h37 n43
 have e47 := ne_new h38 n43
 have z48 := Mono.free m39 n43
 have h49 := keep k45 (ne_new h37 n43) h37
 have h50 := keep k45 (ne_new h38 n43) h38
 have m51 := Mono.new m39 n43 k45
 refine C rfl (Sw rfl rfl ts_115 h44 rfl rfl rfl ?_)
 intro H52 h53 k54
 have h55 := keep k54 e46 h49
 have h56 := keep k54 e47 h50
 have m58 := Mono.set m51 z48 k54
 refine AWP.seq ?_
 refine AWP.seq ?_
 refine AWP.region_quiet mixed (by kernel_rfl) 11 [] rfl (by kernel_rfl) (Mono H52) (Mono.refl _) ?_
 refine QV rfl s33 (Q rfl (fun _ _ φ ψ => nc_ (.ptr sid 0 0) rfl (φ 54 rfl) rfl ⟨rfl, ψ⟩) (Q rfl (fun _ _ φ ψ => Fa rfl (φ 55 rfl) fl_87_1 ⟨rfl, ψ⟩ (hid := ⟨_, (ψ _ _ h55)⟩)) (Q rfl (fun _ _ φ ψ => Ld _ rfl (φ 56 rfl) ty_85 (ψ _ _ h55) rfl ⟨rfl, ψ⟩) (Q rfl (fun _ _ φ ψ => Ld _ rfl (φ 11 rfl) ty_115 (ψ _ _ h53) rfl ⟨rfl, ψ⟩) (Q rfl (fun _ _ φ ψ => AOp.lookupOk' rfl (φ 57 rfl) (ψ _ _ h56) (φ 58 rfl) (kok63 hka hkb) (kes hKRi) tm52 tzv_3 (⟨hlk1, hlk2⟩) ⟨rfl, ψ⟩) (QV rfl rfl (Q rfl (fun _ _ φ ψ => Ex _ rfl (φ 53 rfl) rfl ⟨rfl, ψ⟩) (Q rfl (fun _ _ φ ψ => Ex _ rfl (φ 53 rfl) rfl ⟨rfl, ψ⟩) (Q rfl (fun _ _ φ ψ => As _ rfl (φ 60 rfl) ⟨rfl, ψ⟩) (Q rfl (fun _ _ φ ψ => As _ rfl (φ 61 rfl) ⟨rfl, ψ⟩) ?_))))))))))
 refine QE.done fun H59 m60 => ?_
 have h61 := m60 _ _ h55
 have h62 := m60 _ _ h56
 have h63 := m60 _ _ h53
 have m64 := m58.trans m60
 refine Sr ?_
 refine V rfl rfl ?_
 refine AOps.nil ?_
 change AWP _ _ _ _ _ _
 by_cases b65 : hitsL (psides fs f i) ((at_ (wayF (at_ fs f)) i).1) ((at_ (wayF (at_ fs f)) i).2) = []
 refine cf_ rfl (nb (decide_eq_true b65)) ?_
 refine AWP.skip ?_
 refine AWP.region_quiet mixed (by kernel_rfl) 6 [6] rfl (by kernel_rfl) (Mono H59) (Mono.refl _) ?_
 refine QV rfl s33 (Q rfl (fun _ _ φ ψ => nc_ (.ptr sid 0 0) rfl (φ 63 rfl) rfl ⟨rfl, ψ⟩) (Q rfl (fun _ _ φ ψ => Fa rfl (φ 64 rfl) fl_87_1 ⟨rfl, ψ⟩ (hid := ⟨_, (ψ _ _ h61)⟩)) (Q rfl (fun _ _ φ ψ => Ld _ rfl (φ 65 rfl) ty_85 (ψ _ _ h61) rfl ⟨rfl, ψ⟩) (Q rfl (fun _ _ φ ψ => Ld _ rfl (φ 11 rfl) ty_115 (ψ _ _ h63) rfl ⟨rfl, ψ⟩) (QV rfl s34 ?_)))))
 refine QE.done fun H66 m67 => ?_
 have h68 := m67 _ _ h61
 have h69 := m67 _ _ h62
 have h70 := m67 _ _ h63
 have m71 := m64.trans m67
 refine C rfl (AOp.mapUpdate2 (es' := (psides fs f i ++ [(at_ (wayF (at_ fs f)) i, f.toNat)]).map eS) rfl h69 rfl (kok63 hka hkb) (kes hKRi) tm52 rfl ((by have := mputL (f := f.toNat) (w := at_ (wayF (at_ fs f)) i) b65; rw [Int.toNat_of_nonneg hf.1] at this; exact this)) ?_)
 intro H72 h73 k74
 have h75 := keep k74 hne h68
 have m78 := Mono.set m71 (hide_none H0 mid) k74
 refine AWP.region rfl ?_
 refine B rfl s32 rfl (iadd (by omega)) (V rfl rfl ?_)
 refine AOps.nil ?_
 exact ⟨_, by omega, i + 1, rfl, rfl, s33, s34, s35, s36, h75, (by rw [psides_step hi0 (by omega), ← hwi]; exact h73), m78, by omega, by omega, by exact fa_step preD (by have := b65; rw [hwi] at this; exact this)⟩
 refine ct_ rfl (nb (decide_eq_false b65)) ?_
 refine Sr ?_
 refine A rfl rfl ?_
 refine rt_ ?_
 refine ⟨_, _, Ghost.refl, .inr rfl, _, Res.one rfl rfl, m64, ?_⟩
 exact ⟨_, h62, .inr ⟨rfl, fun h => b65 (by have := h.2.2.2 i hi0 (by omega); rw [hwi]; exact this)⟩⟩
 refine cf_ rfl (decide_eq_false b40) ?_
 refine AWP.exit ?_
 change AWP _ _ _ _ _ _
 refine AWP.seq ?_
 have hadd : ((at_ fs f).length : Int) ≤ i → addF n fs f := fun _ => ⟨by omega, hA, hB, fun j h0 h1 => preD j h0 (by omega)⟩
 refine AWP.region rfl ?_
 refine A rfl rfl ?_
 refine rt_ ?_
 refine ⟨_, _, Ghost.refl, .inr rfl, _, Res.one rfl rfl, m39, ?_⟩
 exact ⟨psides fs f i, h38, .inl ⟨rfl, hadd (by omega), by rw [psides_end hf.1 hf.2 (by omega), psides_0]⟩⟩
end Go.Proofs.T
namespace Go.AH
variable [Globs]
set_option linter.unusedSectionVars false
open Go Go.Maps Go.Sort Go.Shelf Go.Proofs
def noHeap : Heap := fun _ => none
def NoGlobs : Prop := ∀ g, Globs.val g = none ∧ Globs.blk g = none
theorem noHeap_HR (hn : NoGlobs) (w : World) (μ : Nat → Nat) : HR w μ noHeap where
  glob := ⟨fun g c h => (by rw [(hn g).1] at h; cases h), fun g c h => (by rw [(hn g).2] at h; cases h)⟩
  rows := fun _ _ _ h => by cases h
  maps := fun _ _ h => by cases h
  born := fun _ _ _ _ h => by cases h
  iters := fun _ _ h => by cases h
  inj := fun _ _ _ _ h => by cases h
  fin := ⟨0, fun _ _ => rfl⟩
theorem noHeap_owned {μ : Nat → Nat} {b : Nat} : ¬ Owned μ noHeap b := by
  rintro ⟨_, _, h, _⟩; cases h
theorem Ext.grown (tick : Tick) {w w' : World} {μ μ' : Nat → Nat} {H' : Heap} (h : Ext w μ noHeap w' μ' H') : ∃ q os', w' = grow (w.drewN q) os' := by
  obtain ⟨h1, h2, h3, h4⟩ := h.rest
  have h4 := h4 tick
  refine ⟨w'.drawn - w.drawn, w'.heap.extract w.heap.size w'.heap.size, ?_⟩
  have hh : w'.heap = w.heap ++ w'.heap.extract w.heap.size w'.heap.size := by
    have hs := h.size
    apply Array.ext_getElem?
    intro i
    rcases Nat.lt_or_ge i w.heap.size with hi | hi
    · rw [(h.frz i ⟨hi, noHeap_owned⟩).1, Array.getElem?_append_left hi]
    · rw [Array.getElem?_append_right hi, Array.getElem?_extract]
      by_cases g : i < w'.heap.size
      · rw [if_pos (by omega)]; congr 1; omega
      · rw [if_neg (by omega), Array.getElem?_eq_none (by omega)]
  unfold grow World.drewN
  cases w'
  simp only at h1 h2 h3 h4 hh ⊢
  rw [← hh, h1, h2, h3]
  congr 1
  omega
theorem PC.plain (tick : Tick) (hn : NoGlobs) {P : Program} {g : FuncId} {args : List AV} {r : AV} (h : PC P g args r) {w : World} {vs : Array Value} {v : Value} (hv : VRs w (fun i => i) noHeap args vs.toList) (hr : ∀ w' μ' H' x, VR w' μ' H' r x → x = v) :
    Calls P g vs w fun e w' => e = .returned v ∧ ∃ q os', w' = grow (w.drewN q) os' :=
  (h noHeap (fun i => i) w vs (noHeap_HR hn _ _) hv).mono fun _ _ ⟨x, e, μ', H', r', _, h2, h3, h4, _⟩ => ⟨by rw [e, hr _ _ _ x (h4 ▸ h2)], h3.grown tick⟩
theorem flat_get {α : Type} {e : α → List AV} {m : Nat} (he : ∀ x, (e x).length = m) {l : List α} {t : Nat} (ht : t < l.length * m) {x : α} (hx : l[t / m]? = some x) : (l.flatMap e)[t]? = (e x)[t % m]? := by
  have h0 : 0 < m := by
    rcases Nat.eq_zero_or_pos m with h | h
    · subst h; simp at ht
    · exact h
  have hl : t / m < l.length := (List.getElem?_eq_some_iff.1 hx).1
  have e1 : (l.flatMap e)[t]? = ((l.flatMap e).drop (t / m * m))[t % m]? := by
    rw [List.getElem?_drop]; congr 1; rw [Nat.mul_comm]; exact (Nat.div_add_mod t m).symm
  rw [e1, flatMap_drop he, List.drop_eq_getElem_cons hl, List.flatMap_cons, List.getElem?_append_left (by rw [he]; exact Nat.mod_lt _ h0)]
  rw [List.getElem?_eq_getElem hl] at hx
  cases hx; rfl
theorem grow_Ext {w : World} {μ : Nat → Nat} {H : Heap} (hr : HR w μ H) (n : Nat) (os : Array Obj) : Ext w μ H (grow (w.drewN n) os) μ H ∧ HR (grow (w.drewN n) os) μ H := by
  have hlt : ∀ id B, H id = some B → B.live = true → μ id < w.heap.size := fun id B h1 h2 => hr.lt h1 h2
  have hold : ∀ b, b < w.heap.size → (grow (w.drewN n) os).heap[b]? = w.heap[b]? := fun b hb => Array.getElem?_append_left hb
  have he : Ext w μ H (grow (w.drewN n) os) μ H := by
    refine ⟨by simp [grow, World.drewN], fun b hb => ⟨hold b hb.1, hb.2⟩, fun _ _ h => h, fun id ver _ ha => ⟨ha, rfl, ?_⟩, fun _ h => ⟨h, rfl⟩, fun _ h => ⟨h, rfl⟩, ⟨rfl, rfl, rfl, fun _ => by simp [grow, World.drewN]⟩⟩
    obtain ⟨c, hc⟩ := ha
    simp only [bsize, hold _ (hlt _ _ hc rfl)]
  refine ⟨he, ⟨fun id ver cells hi => ?_, fun id es hi => ?_, fun id es ents clock hi hw => ?_, fun id it hi => ?_, hr.inj, hr.fin, hr.glob.ext he⟩⟩
  · obtain ⟨cs, T, h1, h2, h3⟩ := hr.rows id ver cells hi
    exact ⟨cs, T, by rw [hold _ (hlt _ _ hi rfl)]; exact h1, h2, fun j x hx => let ⟨y, g1, g2⟩ := h3 j x hx; ⟨y, g1, g2.ext he⟩⟩
  · obtain ⟨h0, en, c, h1, h2, h3⟩ := hr.maps id es hi
    exact ⟨h0, en, c, by rw [hold _ (hlt _ _ hi rfl)]; exact h1, h2, fun j x e hx hy => ⟨(h3 j x e hx hy).1.ext he, (h3 j x e hx hy).2.ext he⟩⟩
  · rw [hold _ (hlt _ _ hi rfl)] at hw
    exact hr.born id es ents clock hi hw
  · rw [hold _ (hlt _ _ hi rfl)]
    exact hr.iters id it hi
section
variable {α : Type} [Inhabited α]
theorem sort_calls {P : Program} {g cg : FuncId} {k : Nat} {e : α → List AV} {enc : α → List Value} {lt : α → α → Bool} (hk0 : 0 < k) (hk : ∀ x, (e x).length = k) (hkV : ∀ x, (enc x).length = k) (hc : ∀ x (j : Nat) (a : AV), (e x)[j]? = some a → ∃ v, (enc x)[j]? = some v ∧ concA a = some v)
    (hvr : ∀ (w : World) (μ : Nat → Nat) (H : Heap) a v, concA a = some v → VR w μ H a v)
    (hcon : ∀ (blk off cap : Nat) (d : Array α) (w : World), HoldsK enc k w blk off d → blk < w.heap.size → d.size < 4611686018427387904 →
      Calls P g #[.slice (some ⟨blk, off, none⟩) d.size cap, .func (.func cg) #[] #[]] w fun e w' => e = .returned (.tuple #[]) ∧ ∃ d' n os, PermIn 0 d.size d d' ∧ SortedIn lt 0 d.size d' ∧ w' = sortWorldK enc k w blk off n d' os)
    (hnone : ∀ (p : Option Addr) (cap : Nat) (w : World), Calls P g #[.slice p 0 cap, .func (.func cg) #[] #[]] w fun e w' => e = .returned (.tuple #[]) ∧ w' = w)
    {H0 H : Heap} {v : AV} {l : List α} (ho : Own H0 H k v l.length (l.flatMap e)) (hm : Mono H0 H) (hbig : l.length < 4611686018427387904) :
    ACalls P g [v, .fn cg []] H fun r H' => r = .tup [] ∧ Mono H0 H' ∧ (∀ i, NotId v i → H' i = H i) ∧ ∃ l' : List α, Own H0 H' k v l'.length (l'.flatMap e) ∧ l'.Perm l ∧ l'.Pairwise (fun x y => lt y x = false) := by
  intro μ w vs hr hv
  obtain ⟨hv1, hv2⟩ := hv
  match vs, hv1, hv2 with
  | ⟨[a, b]⟩, _, hv2 =>
    have ha := hv2 0 _ _ rfl rfl
    have hb := hv2 1 _ _ rfl rfl
    cases hb with
    | @fn _ _ vs' hl hb =>
      have : vs' = #[] := Array.eq_empty_of_size_eq_zero (by simpa using hl.symm)
      subst this
      rcases ho with ⟨h1, h2, h3⟩ | ⟨id, ver, h1, h2, h3, h4⟩
      · subst h1
        cases ha
        refine (hnone none 0 w).mono ?_
        rintro ex w' ⟨rfl, rfl⟩
        have hl0 : l = [] := List.eq_nil_of_length_eq_zero h2
        subst hl0
        exact ⟨_, rfl, μ, H, _, hr, .tup (cells := []) rfl (by simp), .refl _ _ _, rfl, hm, fun _ _ => rfl, [], .nil _ _ _, .refl _, .nil⟩
      · subst h1
        obtain ⟨cap, rfl, hcap, hbs, _⟩ := ha.slm_inv ⟨_, h2⟩
        obtain ⟨cs, T, b1, b2, b3⟩ := hr.rows id ver _ h2
        have hlen : (l.flatMap e).length = l.length * k := h4
        have hcell : ∀ t, t < l.length * k → cs[t]? = some ((enc (l.toArray[t / k]!))[t % k]!) := by
          intro t ht
          have hd : t / k < l.length := Nat.div_lt_of_lt_mul (by rw [Nat.mul_comm]; exact ht)
          have hmod : t % k < k := Nat.mod_lt _ hk0
          have hx : l[t / k]? = some l[t / k] := List.getElem?_eq_getElem hd
          have hcl := flat_get hk ht hx
          have hgx : (e l[t / k])[t % k]? = some ((e l[t / k])[t % k]'(by rw [hk]; exact hmod)) := List.getElem?_eq_getElem (by rw [hk]; exact hmod)
          rw [hgx] at hcl
          obtain ⟨y, y1, y2⟩ := b3 t _ hcl
          obtain ⟨u, u1, u2⟩ := hc l[t / k] (t % k) _ hgx
          have := concA_VR y2 u2
          subst this
          rw [y1]
          have e1 : l.toArray[t / k]! = l[t / k] := by simp [hd]
          rw [e1]
          congr 1
          rw [List.getElem!_eq_getElem?_getD, u1]; rfl
        have hH : HoldsK enc k w (μ id) 0 l.toArray := by
          intro t ht
          rw [size_flatK] at ht
          have ht' : t < l.length * k := by simpa using ht
          rw [Nat.zero_add]
          refine ⟨?_, by simp [World.frozen?, b1]⟩
          simp only [World.cell?, b1, Option.isSome_none, Bool.false_eq_true, if_false]
          rw [hcell t ht', get_flatK _ _ _ _ ht]; rfl
        refine (hcon (μ id) 0 cap l.toArray w hH (hr.lt h2 rfl) (by simpa using hbig)).mono ?_
        rintro ex w' ⟨rfl, d', n, os, hp, hs, rfl⟩
        -- the row's new cells
        have hsz : d'.size = l.length := by simpa using hp.1
        have hperm : d'.toList.Perm l := by
          have := hp.2.2
          rw [Array.extract_size, show l.toArray.size = d'.size by simp [hsz], Array.extract_size] at this
          exact this
        have hlen' : (d'.toList.flatMap e).length = l.length * k := by rw [flatMap_length hk]; simp [hsz]
        have hFs : (flatK enc k d').size = l.length * k := by rw [size_flatK, hsz]
        have hset := setrow (w := w) (w' := putRowK enc k (Sort.ahead w n) (μ id) 0 d') (ver' := ver) (cells' := d'.toList.flatMap e) (cs' := putCells _root_.id 0 (flatK enc k d') cs) ⟨rfl, rfl, rfl, fun _ => by simp [putRowK, putRow, mapBlock, Sort.ahead]⟩ hr (Nat.le_refl ver) h2 b1
          (by simp [putRowK, putRow, mapBlock, Sort.ahead, Array.getElem?_modify, b1, onCells]) (by simp [putCells]) (fun b hb => by simp [putRowK, putRow, mapBlock, Sort.ahead, Array.getElem?_modify, Ne.symm hb]) (by simp [putRowK, putRow, mapBlock, Sort.ahead])
          (by rw [hlen']; simp only [putCells, Array.size_mapIdx]; omega) (fun j x hx => by
            have hj : j < d'.toList.length * k := by
              rcases Nat.lt_or_ge j (d'.toList.flatMap e).length with h | h
              · rw [flatMap_length hk] at h; exact h
              · rw [List.getElem?_eq_none h] at hx; cases hx
            have hd : j / k < d'.toList.length := Nat.div_lt_of_lt_mul (by rw [Nat.mul_comm]; exact hj)
            have hmod : j % k < k := Nat.mod_lt _ hk0
            have hxx : d'.toList[j / k]? = some d'.toList[j / k] := List.getElem?_eq_getElem hd
            rw [flat_get hk hj hxx] at hx
            obtain ⟨u, u1, u2⟩ := hc _ _ _ hx
            have hjc : j < cs.size := by
              have : j < l.length * k := by simpa [hsz] using hj
              omega
            refine ⟨u, ?_, hvr _ _ _ _ _ u2⟩
            simp only [putCells, Array.getElem?_mapIdx, Array.getElem?_eq_getElem hjc, Option.map_some, Nat.zero_le, true_and, Nat.zero_add, Nat.sub_zero]
            rw [if_pos (by rw [hFs]; simpa [hsz] using hj), get_flatK _ _ _ _ (by simpa using hj)]
            have hd2 : j / k < d'.size := by simpa using hd
            have e1 : d'[j / k]! = d'.toList[j / k] := by simp [hd2]
            rw [e1, List.getElem!_eq_getElem?_getD, u1]; rfl)
        obtain ⟨q1, q2⟩ := hset
        obtain ⟨t1, t2⟩ := grow_Ext q2 0 os
        have hE := q1.trans t1
        refine ⟨_, rfl, μ, _, .tup [], t2, .tup (cells := []) rfl (by simp), hE, rfl, hm.set h3 fun _ h => updH_ne _ _ h, fun i hi => updH_ne _ _ (hi _ _ _ _ _ rfl), d'.toList, ?_, hperm, ?_⟩
        · refine .inr ⟨id, ver, ?_, updH_same _ _ _, h3, flatMap_length hk _⟩
          have : d'.toList.length = l.length := by simp [hsz]
          rw [this]
        · rw [List.pairwise_iff_getElem]
          intro i j hi hj hij
          have := hs i j (Nat.zero_le _) hij (by simp at hj ⊢; omega)
          have hi' : i < d'.size := by simpa using hi
          have hj' : j < d'.size := by simpa using hj
          simpa [hi', hj'] using this
theorem concVR (w : World) (μ : Nat → Nat) (H : Heap) (a : AV) (v : Value) (h : concA a = some v) : VR w μ H a v := by
  cases a <;> simp [concA] at h <;> subst h <;> constructor
end
end Go.AH
namespace Go.Proofs
open Go.Shelf Go.RowKit Go.Lib Go.Sort
set_option maxRecDepth 20000
def T.sortE_ren : Go.Shelf.Ren := ⟨fun | 6 => 60 | 15 => 78 | 14 => 77 | 28 => 94 | 29 => 95 | 20 => 86 | 21 => 87 | 22 => 88 | 23 => 89 | 24 => 90 | 25 => 91 | 26 => 92 | 27 => 93 | 46 => 96 | 47 => 97 | 48 => 98 | 49 => 99 | 50 => 100 | 57 => 101 | n => n, fun | 22 => 32 | 24 => 47 | 25 => 120 | 3 => 3 | 39 => 130 | 0 => 0 | 53 => 143 | 55 => 145 | 4 => 4 | 46 => 137 | 45 => 136 | 50 => 94 | 5 => 5 | 9 => 9 | 66 => 147 | 70 => 151 | 76 => 153 | 77 => 154 | n => n, fun | n => n⟩
theorem T.sortE : Go.Proofs.SlLaysF0.n6 Try.prog T.sortE_ren := {
  mixed := by kernel_rfl
  f6 := ⟨Try.f60.name, by decide, Try.func60.trans (congrArg some (by kernel_rfl))⟩
  f14 := ⟨Try.f77.name, by decide, Try.func77.trans (congrArg some (by kernel_rfl))⟩
  f15 := Try.func78.trans (congrArg some (by kernel_rfl))
  f20 := ⟨Try.f86.name, by decide, Try.func86.trans (congrArg some (by kernel_rfl))⟩
  f21 := ⟨Try.f87.name, by decide, Try.func87.trans (congrArg some (by kernel_rfl))⟩
  f22 := ⟨Try.f88.name, by decide, Try.func88.trans (congrArg some (by kernel_rfl))⟩
  f23 := ⟨Try.f89.name, by decide, Try.func89.trans (congrArg some (by kernel_rfl))⟩
  f24 := ⟨Try.f90.name, by decide, Try.func90.trans (congrArg some (by kernel_rfl))⟩
  f25 := ⟨Try.f91.name, by decide, Try.func91.trans (congrArg some (by kernel_rfl))⟩
  f26 := ⟨Try.f92.name, by decide, Try.func92.trans (congrArg some (by kernel_rfl))⟩
  f27 := ⟨Try.f93.name, by decide, Try.func93.trans (congrArg some (by kernel_rfl))⟩
  f28 := Try.func94.trans (congrArg some (by kernel_rfl))
  f29 := Try.func95.trans (congrArg some (by kernel_rfl))
  f46 := ⟨Try.f96.name, by decide, Try.func96.trans (congrArg some (by kernel_rfl))⟩
  f47 := Try.func97.trans (congrArg some (by kernel_rfl))
  f48 := Try.func98.trans (congrArg some (by kernel_rfl))
  f49 := ⟨Try.f99.name, by decide, Try.func99.trans (congrArg some (by kernel_rfl))⟩
  f50 := ⟨Try.f100.name, by decide, Try.func100.trans (congrArg some (by kernel_rfl))⟩
  f57 := ⟨Try.f101.name, by decide, Try.func101.trans (congrArg some (by kernel_rfl))⟩
  t0 := Try.underlying0
  a0 := Try.isAgg0
  z0 := Try.sizeOf0
  v0 := Try.zeroValue0
  t3 := Try.underlying3
  a3 := Try.isAgg3
  z3 := Try.sizeOf3
  v3 := Try.zeroValue3
  t4 := Try.underlying4
  a4 := Try.isAgg4
  z4 := Try.sizeOf4
  v4 := Try.zeroValue4
  t5 := Try.underlying5
  a5 := Try.isAgg5
  z5 := Try.sizeOf5
  v5 := Try.zeroValue5
  t9 := Try.underlying9
  a9 := Try.isAgg9
  z9 := Try.sizeOf9
  v9 := Try.zeroValue9
  t22 := Try.underlying32
  a22 := Try.isAgg32
  z22 := Try.sizeOf32
  v22 := Try.zeroValue32
  t25 := Try.underlying120
  a25 := Try.isAgg120
  z25 := Try.sizeOf120
  v25 := Try.zeroValue120
  t39 := Try.underlying130
  a39 := Try.isAgg130
  z39 := Try.sizeOf130
  v39 := Try.zeroValue130
  t45 := Try.underlying136
  a45 := Try.isAgg136
  z45 := Try.sizeOf136
  v45 := Try.zeroValue136
  t46 := Try.underlying137
  a46 := Try.isAgg137
  z46 := Try.sizeOf137
  v46 := Try.zeroValue137
  t50 := Try.underlying94
  a50 := Try.isAgg94
  z50 := Try.sizeOf94
  v50 := Try.zeroValue94
  t53 := Try.underlying143
  a53 := Try.isAgg143
  z53 := Try.sizeOf143
  v53 := Try.zeroValue143
  t55 := Try.underlying145
  a55 := Try.isAgg145
  z55 := Try.sizeOf145
  v55 := Try.zeroValue145
  t66 := Try.underlying147
  a66 := Try.isAgg147
  z66 := Try.sizeOf147
  v66 := Try.zeroValue147
  t70 := Try.underlying151
  a70 := Try.isAgg151
  z70 := Try.sizeOf151
  v70 := Try.zeroValue151
  t76 := Try.underlying153
  a76 := Try.isAgg153
  z76 := Try.sizeOf153
  v76 := Try.zeroValue153
  t77 := Try.underlying154
  a77 := Try.isAgg154
  z77 := Try.sizeOf154
  v77 := Try.zeroValue154 }
end Go.Proofs
namespace Go.Proofs.T
open Go Go.AH Go.Sort Go.Shelf Go.RowKit Go.Proofs
set_option maxRecDepth 20000
def encE (e : Ed) : List Value := [.int .i64 e.A, .int .i64 e.B, .int .i64 e.F, .int .i64 e.G]
def cmpE (x y : Ed) : Int := cE x (y.A, y.B)
def lessE (x y : Ed) : Bool := ltOf cmpE x y
theorem lessE_iff (x y : Ed) : lessE x y = true ↔ ltE x y := by
  unfold lessE ltOf cmpE ltE; rw [decide_eq_true_eq, cE_neg]
theorem swoE : SWO (ltOf cmpE) where
  irrefl x := by
    have := lessE_iff x x; unfold lessE ltE at this
    cases h : ltOf cmpE x x with
    | false => rfl
    | true => rw [h] at this; have := this.1 rfl; omega
  trans x y z h1 h2 := by
    have a := (lessE_iff x y).1 h1
    have b := (lessE_iff y z).1 h2
    refine (lessE_iff x z).2 ?_
    unfold ltE at *; omega
  ntrans x y z h1 h2 := by
    have a : ¬ ltE x y := fun h => by rw [show ltOf cmpE x y = true from (lessE_iff x y).2 h] at h1; cases h1
    have b : ¬ ltE y z := fun h => by rw [show ltOf cmpE y z = true from (lessE_iff y z).2 h] at h2; cases h2
    cases h : ltOf cmpE x z with
    | false => rfl
    | true => have := (lessE_iff x z).1 h; unfold ltE at *; omega
theorem lays37 (blk off size : Nat) (w : World) : CmpLays Try.prog 61 #[] encE 4 cmpE blk off size w := fun m os dk _ x y => by
  refine (c37 x y).plain True.intro noG ⟨rfl, ?_⟩ (fun w' μ' H' z h => by cases h; rfl)
  have hag : ∀ (e : Ed) W, VR W (fun i => i) noHeap (.agg [.int .i64 e.A, .int .i64 e.B, .int .i64 e.F, .int .i64 e.G]) (.agg (encE e).toArray) := fun e W => .agg rfl fun j a b ha hb => by
    match j, ha, hb with
    | 0, ha, hb => cases ha; cases hb; exact .int _ _
    | 1, ha, hb => cases ha; cases hb; exact .int _ _
    | 2, ha, hb => cases ha; cases hb; exact .int _ _
    | 3, ha, hb => cases ha; cases hb; exact .int _ _
    | n + 4, ha, _ => simp at ha
  intro j a b ha hb
  match j, ha, hb with
  | 0, ha, hb => cases ha; cases hb; exact hag x _
  | 1, ha, hb => cases ha; cases hb; exact hag y _
  | n + 2, ha, _ => simp at ha
theorem agg24 : ∀ w, (isAgg 47).run Try.prog w = .ok true w := fun w => ty_47.run w
theorem size24 : ∀ w, (Go.sizeOf 47).run Try.prog w = .ok 4 w := fun w => ts_47.run w
theorem c36 {H0 H : Heap} {v : AV} {l : List Ed} (ho : Own H0 H 4 v l.length (l.flatMap eE)) (hm : Mono H0 H) (hbig : l.length < 4611686018427387904) :
    ACalls Try.prog 60 [v, .fn 61 []] H fun r H' => r = .tup [] ∧ Mono H0 H' ∧ (∀ i, NotId v i → H' i = H i) ∧ ∃ l' : List Ed, Own H0 H' 4 v l'.length (l'.flatMap eE) ∧ l'.Perm l ∧ l'.Pairwise (fun x y => lessE y x = false) := by
  have eg : ∀ args w, (callFunc 61 args).run Try.prog w = .ok (.enter 61 args) w := enters_of (by rfl) (by kernel_rfl) rfl
  refine sort_calls (k := 4) (enc := encE) (by decide) (fun _ => rfl) (fun _ => rfl) (fun x j a h => ?_) concVR (fun blk off cap d w hH hb hs => ?_) (fun p cap w => ?_) ho hm hbig
  · match j, h with
    | 0, h => cases h; exact ⟨_, rfl, rfl⟩
    | 1, h => cases h; exact ⟨_, rfl, rfl⟩
    | 2, h => cases h; exact ⟨_, rfl, rfl⟩
    | 3, h => cases h; exact ⟨_, rfl, rfl⟩
    | n + 4, h => simp [eE] at h
  · exact AnyQ.slices_SortFunc T.sortE 4 agg24 size24 encE (fun _ => rfl) (fun x v hv => by simp [encE] at hv; rcases hv with rfl | rfl | rfl | rfl <;> rfl) cmpE swoE 61 #[] blk off cap d w eg (lays37 blk off d.size w) hH hb hs
  · exact AnyF.slices_SortFunc_none T.sortE p cap _ w
end Go.Proofs.T
namespace Go.Proofs.T
open Go Go.AH
set_option maxRecDepth 20000
def edgeOf (fs : List (List Int)) (w : Int × Int) : List Ed :=
  if w.1 < w.2 ∨ ¬ 0 ≤ alongS fs w.2 w.1 then [⟨min w.1 w.2, max w.1 w.2, alongS fs (min w.1 w.2) (max w.1 w.2), alongS fs (max w.1 w.2) (min w.1 w.2)⟩] else []
def edgeJ (fs : List (List Int)) (j : Nat) : List Ed := edgeOf fs ((sides fs)[j]?.getD default).1
theorem seen_T {fs : List (List Int)} {seen : List Nat} {j : Nat} {s : (Int × Int) × Nat} (hs : (sides fs)[j]? = some s) (h : s.1.1 < s.1.2 ∨ ¬ 0 ≤ alongS fs s.1.2 s.1.1) :
    (seen ++ [j]).flatMap (edgeJ fs) = seen.flatMap (edgeJ fs) ++ [⟨min s.1.1 s.1.2, max s.1.1 s.1.2, alongS fs (min s.1.1 s.1.2) (max s.1.1 s.1.2), alongS fs (max s.1.1 s.1.2) (min s.1.1 s.1.2)⟩] := by
  rw [List.flatMap_append]; simp only [List.flatMap_cons, List.flatMap_nil, List.append_nil]
  unfold edgeJ edgeOf; rw [hs]; simp only [Option.getD_some]; rw [if_pos h]
theorem seen_F {fs : List (List Int)} {seen : List Nat} {j : Nat} {s : (Int × Int) × Nat} (hs : (sides fs)[j]? = some s) (h : ¬ (s.1.1 < s.1.2 ∨ ¬ 0 ≤ alongS fs s.1.2 s.1.1)) :
    (seen ++ [j]).flatMap (edgeJ fs) = seen.flatMap (edgeJ fs) := by
  rw [List.flatMap_append]; simp only [List.flatMap_cons, List.flatMap_nil, List.append_nil]
  unfold edgeJ edgeOf; rw [hs]; simp only [Option.getD_some]; rw [if_neg h]; simp
theorem edgeJ_len (fs : List (List Int)) (j : Nat) : (edgeJ fs j).length ≤ 1 := by unfold edgeJ edgeOf; split <;> simp
theorem seen_len (fs : List (List Int)) (seen : List Nat) : (seen.flatMap (edgeJ fs)).length ≤ seen.length := by
  induction seen with
  | nil => simp
  | cons j seen ih => rw [List.flatMap_cons, List.length_append, List.length_cons]; have := edgeJ_len fs j; omega
theorem seen_le {seen : List Nat} {n : Nat} (hn : seen.Nodup) (h : ∀ j ∈ seen, j < n) : seen.length ≤ n := by
  have := List.Nodup.length_le_of_subset hn (l₂ := List.range n) (fun j hj => List.mem_range.2 (h j hj))
  simpa using this
theorem seen_lt {seen : List Nat} {n j : Nat} (hn : seen.Nodup) (h : ∀ j ∈ seen, j < n) (hj : j ∉ seen) (hjn : j < n) : seen.length < n := by
  have := seen_le (seen := j :: seen) (n := n) (List.nodup_cons.2 ⟨hj, hn⟩) (fun i hi => by
    rcases List.mem_cons.1 hi with rfl | hi
    · exact hjn
    · exact h i hi)
  simp only [List.length_cons] at this
  omega
theorem mem_eOut {fs : List (List Int)} {n : Int} {x : Ed} : x ∈ eOut fs n n ↔ 0 ≤ x.A ∧ x.A < x.B ∧ x.B < n ∧ x.F = alongS fs x.A x.B ∧ x.G = alongS fs x.B x.A ∧ (0 ≤ x.F ∨ 0 ≤ x.G) := by
  unfold eOut
  rw [List.mem_flatMap]
  constructor
  · rintro ⟨a, ha, h⟩
    unfold eIn at h
    rw [List.mem_flatMap] at h
    obtain ⟨b, hb, h⟩ := h
    rw [List.mem_range] at ha hb
    split at h
    · unfold eAt at h
      split at h
      · simp only [List.mem_singleton] at h
        subst h
        exact ⟨by simp, by assumption, by simp; omega, rfl, rfl, by assumption⟩
      · simp at h
    · simp at h
  · rintro ⟨h1, h2, h3, h4, h5, h6⟩
    refine ⟨x.A.toNat, List.mem_range.2 (by omega), ?_⟩
    unfold eIn
    rw [List.mem_flatMap]
    refine ⟨x.B.toNat, List.mem_range.2 (by omega), ?_⟩
    rw [Int.toNat_of_nonneg h1, Int.toNat_of_nonneg (by omega), if_pos h2]
    unfold eAt
    rw [if_pos (by rw [← h4, ← h5]; exact h6), ← h4, ← h5]
    simp
theorem eOut_sorted (fs : List (List Int)) (n : Int) : (eOut fs n n).Pairwise ltE := by
  unfold eOut
  rw [List.pairwise_flatMap]
  refine ⟨fun a _ => ?_, ?_⟩
  · unfold eIn
    rw [List.pairwise_flatMap]
    refine ⟨fun b _ => ?_, ?_⟩
    · split
      · unfold eAt; split <;> simp
      · simp
    · refine List.pairwise_lt_range.imp ?_
      intro b c hbc x hx y hy
      split at hx
      · unfold eAt at hx
        split at hx
        · split at hy
          · unfold eAt at hy
            split at hy
            · simp at hx hy; subst hx hy; right; exact ⟨rfl, by simp; exact hbc⟩
            · simp at hy
          · simp at hy
        · simp at hx
      · simp at hx
  · refine List.pairwise_lt_range.imp ?_
    intro a c hac x hx y hy
    have hA : ∀ (a : Nat) x, x ∈ eIn fs a n → x.A = a := by
      intro a x hx
      unfold eIn at hx
      rw [List.mem_flatMap] at hx
      obtain ⟨b, _, h⟩ := hx
      split at h
      · unfold eAt at h
        split at h
        · simp at h; subst h; rfl
        · simp at h
      · simp at h
    left
    rw [hA a x hx, hA c y hy]; omega
theorem eOut_small {fs : List (List Int)} {n : Int} : ∀ x ∈ eOut fs n n, 0 ≤ x.A ∧ x.A < n ∧ 0 ≤ x.B ∧ x.B < n ∧ -2 ≤ x.F ∧ x.F < fs.length ∧ -2 ≤ x.G ∧ x.G < fs.length ∨ x.F = -2 := by
  intro x hx
  obtain ⟨h1, h2, h3, h4, h5, h6⟩ := mem_eOut.1 hx
  have a := along_lt fs x.A x.B
  have b := along_lt fs x.B x.A
  left
  rw [← h4] at a
  rw [← h5] at b
  by_cases c : 0 ≤ x.F <;> by_cases d : 0 ≤ x.G
  · have := a.2 c; have := b.2 d; omega
  · have := a.2 c; omega
  · have := b.2 d; omega
  · omega
theorem side_in {n : Int} {fs : List (List Int)} (hg : goodS n fs) {s : (Int × Int) × Nat} (hs : s ∈ sides fs) : 0 ≤ s.1.1 ∧ s.1.1 < n ∧ 0 ≤ s.1.2 ∧ s.1.2 < n ∧ s.1.1 ≠ s.1.2 ∧ 0 ≤ alongS fs s.1.1 s.1.2 := by
  obtain ⟨h1, h2⟩ := mem_sides.1 (show (s.1, s.2) ∈ sides fs from hs)
  obtain ⟨j, j0, j1, e1, e2⟩ := mem_wayF.1 (show (s.1.1, s.1.2) ∈ wayF _ from h2)
  have hf := hg s.2 (by omega) (by omega)
  have g1 := hf.2.1 j j0 j1
  have g2 := mod_in (x := j + 1) (y := (at_ fs (s.2 : Int)).length) (by omega)
  have g3 := hf.2.1 _ g2.1 g2.2
  have g4 := hf.2.2.2 j j0 j1
  rw [← e1] at g1 g4
  rw [← e2] at g3 g4
  refine ⟨g1.1, g1.2, g3.1, g3.2, fun e => ?_, g4⟩
  rw [e1, e2] at e
  have := Apart.eq hf.2.2.1 j0 j1 g2.1 g2.2 e
  by_cases c : j + 1 = (at_ fs (s.2 : Int)).length
  · rw [c, Int.emod_self] at this; have := hf.1; omega
  · rw [Int.emod_eq_of_lt (by omega) (by omega)] at this; omega
theorem mem_edgeOf {n : Int} {fs : List (List Int)} (hg : goodS n fs) {x : Ed} : (∃ s ∈ sides fs, x ∈ edgeOf fs s.1) ↔ x ∈ eOut fs n n := by
  rw [mem_eOut]
  constructor
  · rintro ⟨s, hs, hx⟩
    obtain ⟨h1, h2, h3, h4, h5, h6⟩ := side_in hg hs
    unfold edgeOf at hx
    split at hx
    · simp only [List.mem_singleton] at hx
      subst hx
      refine ⟨by dsimp only; omega, by dsimp only; omega, by dsimp only; omega, rfl, rfl, ?_⟩
      dsimp only
      by_cases c : s.1.1 < s.1.2
      · left; rw [Int.min_eq_left (by omega), Int.max_eq_right (by omega)]; exact h6
      · right; rw [Int.min_eq_right (by omega), Int.max_eq_left (by omega)]; exact h6
    · simp at hx
  · rintro ⟨h1, h2, h3, h4, h5, h6⟩
    have key : ∀ a b : Int, 0 ≤ alongS fs a b → ((a, b), (alongS fs a b).toNat) ∈ sides fs := fun a b h => by
      obtain ⟨k1, k2, _⟩ := along_some h
      rw [mem_sides]
      refine ⟨by omega, ?_⟩
      rw [Int.toNat_of_nonneg h]; exact k2
    by_cases c : 0 ≤ alongS fs x.A x.B
    · refine ⟨_, key _ _ c, ?_⟩
      unfold edgeOf
      rw [if_pos (.inl h2)]
      simp only [List.mem_singleton]
      rw [Int.min_eq_left (by omega), Int.max_eq_right (by omega), ← h4, ← h5]
    · have d : 0 ≤ alongS fs x.B x.A := by rw [h4, h5] at h6; exact h6.resolve_left c
      refine ⟨_, key _ _ d, ?_⟩
      unfold edgeOf
      rw [if_pos (.inr c)]
      simp only [List.mem_singleton]
      rw [Int.min_eq_right (by omega), Int.max_eq_left (by omega), ← h4, ← h5]
theorem seen_nodup {n : Int} {fs : List (List Int)} (hg : goodS n fs) {seen : List Nat} (hn : seen.Nodup) (hl : ∀ j ∈ seen, j < (sides fs).length) : (seen.flatMap (edgeJ fs)).Nodup := by
  rw [List.nodup_iff_pairwise_ne, List.pairwise_flatMap]
  refine ⟨fun j _ => ?_, ?_⟩
  · unfold edgeJ edgeOf; split <;> simp
  · rw [List.nodup_iff_pairwise_ne] at hn
    refine List.Pairwise.imp_of_mem ?_ hn
    intro i j hi hj hij x hx y hy e
    subst e
    have hi' := hl i hi
    have hj' := hl j hj
    have hsi : (sides fs)[i]? = some (sides fs)[i] := List.getElem?_eq_getElem hi'
    have hsj : (sides fs)[j]? = some (sides fs)[j] := List.getElem?_eq_getElem hj'
    have hki := side_in hg (List.getElem_mem hi')
    have hkj := side_in hg (List.getElem_mem hj')
    unfold edgeJ at hx hy
    rw [hsi] at hx
    rw [hsj] at hy
    simp only [Option.getD_some] at hx hy
    have hk := good_keys hg
    unfold Keys at hk
    have hne : ((sides fs)[i]).1 ≠ ((sides fs)[j]).1 := by
      intro e
      have h1 := List.nodup_iff_pairwise_ne.1 hk
      rw [List.pairwise_map, List.pairwise_iff_getElem] at h1
      rcases Nat.lt_trichotomy i j with h | h | h
      · exact h1 i j hi' hj' h e
      · exact hij h
      · exact h1 j i hj' hi' h e.symm
    generalize (sides fs)[i] = s at hx hki hne
    generalize (sides fs)[j] = t at hy hkj hne
    obtain ⟨⟨s1, s2⟩, s3⟩ := s
    obtain ⟨⟨t1, t2⟩, t3⟩ := t
    simp only at hx hy hki hkj hne
    unfold edgeOf at hx hy
    simp only at hx hy
    split at hx
    · rename_i cx
      split at hy
      · rename_i cy
        simp only [List.mem_singleton] at hx hy
        rw [hx] at hy
        have e1 := congrArg Ed.A hy
        have e2 := congrArg Ed.B hy
        simp only at e1 e2
        have : (s1 = t1 ∧ s2 = t2) ∨ (s1 = t2 ∧ s2 = t1) := by omega
        rcases this with ⟨rfl, rfl⟩ | ⟨rfl, rfl⟩
        · exact hne rfl
        · have h1 := hki.2.2.2.2.2
          have h2 := hkj.2.2.2.2.2
          rcases cx with cx | cx
          · rcases cy with cy | cy
            · omega
            · exact cy h1
          · exact cx h2
      · simp at hy
    · simp at hx
theorem edges_eq {n : Int} {fs : List (List Int)} (hg : goodS n fs) {seen : List Nat} (hn : seen.Nodup) (hl : ∀ j ∈ seen, j < (sides fs).length) (hall : ∀ j, j < (sides fs).length → j ∈ seen) {l : List Ed}
    (hp : l.Perm (seen.flatMap (edgeJ fs))) (hs : l.Pairwise fun x y => lessE y x = false) : l = eOut fs n n := by
  have hnd : (eOut fs n n).Nodup := by
    rw [List.nodup_iff_pairwise_ne]
    refine (eOut_sorted fs n).imp ?_
    intro x y h e
    subst e; unfold ltE at h; omega
  have hmem : ∀ x, x ∈ seen.flatMap (edgeJ fs) ↔ x ∈ eOut fs n n := by
    intro x
    rw [← mem_edgeOf hg, List.mem_flatMap]
    constructor
    · rintro ⟨j, hj, hx⟩
      have hj' := hl j hj
      unfold edgeJ at hx
      rw [List.getElem?_eq_getElem hj'] at hx
      exact ⟨_, List.getElem_mem hj', hx⟩
    · rintro ⟨s, hs, hx⟩
      obtain ⟨j, hj, rfl⟩ := List.getElem_of_mem hs
      refine ⟨j, hall j hj, ?_⟩
      unfold edgeJ
      rw [List.getElem?_eq_getElem hj]; exact hx
  have hp2 : (seen.flatMap (edgeJ fs)).Perm (eOut fs n n) := (List.perm_ext_iff_of_nodup (seen_nodup hg hn hl) hnd).2 hmem
  have hp3 := hp.trans hp2
  refine List.Perm.eq_of_pairwise (le := fun x y => lessE y x = false) (fun x y hx hy h1 h2 => ?_) hs ((eOut_sorted fs n).imp ?_) hp3
  · have hx' := mem_eOut.1 (hp3.mem_iff.1 hx)
    have hy' := mem_eOut.1 hy
    have a : ¬ ltE y x := fun h => by rw [(lessE_iff y x).2 h] at h1; cases h1
    have b : ¬ ltE x y := fun h => by rw [(lessE_iff x y).2 h] at h2; cases h2
    unfold ltE at a b
    have eA : x.A = y.A := by omega
    have eB : x.B = y.B := by omega
    have eF : x.F = y.F := by rw [hx'.2.2.2.1, hy'.2.2.2.1, eA, eB]
    have eG : x.G = y.G := by rw [hx'.2.2.2.2.1, hy'.2.2.2.2.1, eA, eB]
    cases x; cases y; simp_all
  · intro x y h
    cases hc : lessE y x with
    | false => rfl
    | true => have := (lessE_iff y x).1 hc; unfold ltE at h this; omega
theorem eS_get {L : List ((Int × Int) × Nat)} {j : Nat} {e : AV × AV} (h : (L.map eS)[j]? = some e) : ∃ s, L[j]? = some s ∧ e = eS s := by
  rw [List.getElem?_map, Option.map_eq_some_iff] at h
  obtain ⟨s, h1, h2⟩ := h
  exact ⟨s, h1, h2.symm⟩
theorem nd_snoc {seen : List Nat} {j : Nat} (h : seen.Nodup) (hj : j ∉ seen) : (seen ++ [j]).Nodup := by
  rw [List.nodup_append]
  refine ⟨h, by simp, fun a ha b hb => ?_⟩
  simp at hb; subst hb
  rintro rfl; exact hj ha
theorem lt_snoc {seen : List Nat} {j n : Nat} (h : ∀ i ∈ seen, i < n) (hj : j < n) : ∀ i ∈ seen ++ [j], i < n := by
  intro i hi
  rcases List.mem_append.1 hi with hi | hi
  · exact h i hi
  · simp at hi; omega
end Go.Proofs.T
namespace Go.Proofs.T
open Go Go.AH
set_option maxRecDepth 20000
abbrev ME := Int × AV × List Int
def eM (e : ME) : AV × AV := (.int .i64 e.1, e.2.1)
def MO (H0 H : Heap) (L : List ME) : Prop := (∀ e ∈ L, Own H0 H 1 e.2.1 e.2.2.length (e.2.2.map eI)) ∧ (∀ a ∈ L, ∀ b ∈ L, a.1 ≠ b.1 → Sep a.2.1 b.2.1) ∧ ∀ a ∈ L, ∀ b ∈ L, a.1 = b.1 → a = b
def NotIdM (L : List ME) (i : Nat) : Prop := ∀ e ∈ L, NotId e.2.1 i
def SepM (L : List ME) (v : AV) : Prop := ∀ e ∈ L, Sep e.2.1 v
section
variable {H0 H H' : Heap} {L : List ME} {v v' : AV} {i : Nat}
theorem MO.nil (H0 H : Heap) : MO H0 H [] := ⟨fun _ h => (by cases h), fun _ h => (by cases h), fun _ h => (by cases h)⟩
theorem NotIdM.nil (i : Nat) : NotIdM [] i := fun _ h => by cases h
theorem SepM.nil (v : AV) : SepM [] v := fun _ h => by cases h
theorem MO.mono (h : MO H0 H L) (m : Mono H H') : MO H0 H' L := ⟨fun e he => (h.1 e he).mono m, h.2⟩
theorem MO.keep (h : MO H0 H L) (ho : ∀ j, j ≠ i → H' j = H j) (hn : NotIdM L i) : MO H0 H' L := ⟨fun e he => (h.1 e he).keep ho (hn e he), h.2⟩
theorem MO.notnew (h : MO H0 H L) (hi : H i = none) : NotIdM L i := fun e he => (h.1 e he).notnew hi
theorem MO.stay (h : MO H0 H L) (hs : SepM L v) (hk : ∀ i, NotId v i → H i ≠ none → H' i = H i) : MO H0 H' L := ⟨fun e he => (h.1 e he).stay (hs e he) hk, h.2⟩
theorem MO.stay2 {rid : Nat} (h : MO H0 H L) (hs : SepM L v) (hr : NotIdM L rid) (hk : ∀ i, i ≠ rid → NotId v i → H' i = H i) : MO H0 H' L := ⟨fun e he => (h.1 e he).stay2 (hs e he) (hr e he) hk, h.2⟩
theorem MO.sep (h : MO H0 H L) (hs : SepM L v) (hk : ∀ i, NotId v i → H i ≠ none → NotId v' i) : SepM L v' := fun e he => (h.1 e he).sep (hs e he) hk
theorem SepM.nilR (L : List ME) : SepM L .snil := fun _ _ => .nilR _
theorem SepM.new (h : MO H0 H L) (hi : H i = none) {a b c d : Nat} : SepM L (.slm i a b c d) := fun e he => Sep.ofNotId' ((h.1 e he).notnew hi)
theorem MO.sub {K : List ME} (h : MO H0 H L) (hk : ∀ e ∈ K, e ∈ L) : MO H0 H K := ⟨fun e he => h.1 e (hk e he), fun a ha b hb => h.2.1 a (hk a ha) b (hk b hb), fun a ha b hb => h.2.2 a (hk a ha) b (hk b hb)⟩
end
def getM (L : List ME) (x : Int) : AV × List Int := ((L.find? fun e => decide (e.1 = x)).map (·.2)).getD (.snil, [])
def restM (L : List ME) (x : Int) : List ME := L.filter fun e => decide (e.1 ≠ x)
def putM (L : List ME) (x : Int) (w : AV) (xs : List Int) : List ME := if (L.find? fun e => decide (e.1 = x)).isSome then L.map fun e => if e.1 = x then (x, w, xs) else e else L ++ [(x, w, xs)]
theorem mgetM (L : List ME) (x : Int) : (mget (L.map eM) (.int .i64 x)).getD .snil = (getM L x).1 := by
  unfold getM mget
  rw [List.find?_map]
  have : ((fun e : AV × AV => @decide (e.1 = AV.int .i64 x) (Classical.propDecidable _)) ∘ eM) = fun e : ME => decide (e.1 = x) := by
    funext e
    simp [eM]
  rw [this]
  cases L.find? (fun e => decide (e.1 = x)) <;> rfl
theorem mputM (L : List ME) (x : Int) (w : AV) (xs : List Int) : mput (L.map eM) (.int .i64 x) w = (putM L x w xs).map eM := by
  unfold mput putM
  have h : (mget (L.map eM) (.int .i64 x)).isSome = (L.find? fun e => decide (e.1 = x)).isSome := by
    unfold mget
    rw [List.find?_map]
    have : ((fun e : AV × AV => @decide (e.1 = AV.int .i64 x) (Classical.propDecidable _)) ∘ eM) = fun e : ME => decide (e.1 = x) := by
      funext e
      simp [eM]
    rw [this]
    cases L.find? (fun e => decide (e.1 = x)) <;> rfl
  rw [h]
  split
  · rw [List.map_map, List.map_map]
    apply List.map_congr_left
    intro e _
    simp only [Function.comp, eM]
    by_cases c : e.1 = x
    · simp [c]
    · simp [c]
  · simp [eM]
theorem getM_cases (L : List ME) (x : Int) : (∃ e ∈ L, e.1 = x ∧ getM L x = e.2 ∧ (L.find? fun e => decide (e.1 = x)).isSome = true) ∨ ((∀ e ∈ L, e.1 ≠ x) ∧ getM L x = (.snil, []) ∧ (L.find? fun e => decide (e.1 = x)).isSome = false) := by
  unfold getM
  cases h : L.find? (fun e => decide (e.1 = x)) with
  | none =>
    right
    rw [List.find?_eq_none] at h
    exact ⟨fun e he => by simpa using h e he, rfl, rfl⟩
  | some e =>
    left
    have h1 := List.find?_some h
    exact ⟨e, List.mem_of_find?_eq_some h, by simpa using h1, rfl, rfl⟩
theorem MO.take {H0 H : Heap} {L : List ME} (h : MO H0 H L) (x : Int) : Own H0 H 1 (getM L x).1 (getM L x).2.length ((getM L x).2.map eI) ∧ MO H0 H (restM L x) ∧ SepM (restM L x) (getM L x).1 := by
  refine ⟨?_, h.sub fun e he => (List.mem_filter.1 he).1, ?_⟩
  · rcases getM_cases L x with ⟨e, he, _, h2, _⟩ | ⟨_, h2, _⟩
    · rw [h2]; exact h.1 e he
    · rw [h2]; exact .nil _ _ _
  · intro a ha
    obtain ⟨h1, h2⟩ := List.mem_filter.1 ha
    rcases getM_cases L x with ⟨e, he, h3, h4, _⟩ | ⟨_, h4, _⟩
    · rw [h4]; exact h.2.1 a h1 e he (by rw [h3]; simpa using h2)
    · rw [h4]; exact .nilR _
theorem mem_putM {L : List ME} {x : Int} {w : AV} {xs : List Int} {e : ME} (h : e ∈ putM L x w xs) : e = (x, w, xs) ∨ (e ∈ L ∧ e.1 ≠ x) := by
  unfold putM at h
  split at h
  · obtain ⟨a, ha, rfl⟩ := List.mem_map.1 h
    by_cases c : a.1 = x
    · rw [if_pos c]; exact .inl rfl
    · rw [if_neg c]; exact .inr ⟨ha, c⟩
  · rename_i hn
    rcases List.mem_append.1 h with h | h
    · refine .inr ⟨h, fun c => hn ?_⟩
      rw [List.find?_isSome]
      exact ⟨e, h, by simpa using c⟩
    · simp at h; exact .inl h
theorem putM_mem (L : List ME) (x : Int) (w : AV) (xs : List Int) : (x, w, xs) ∈ putM L x w xs ∧ ∀ e ∈ L, e.1 ≠ x → e ∈ putM L x w xs := by
  unfold putM
  split
  · rename_i hs
    rw [List.find?_isSome] at hs
    obtain ⟨a, ha, c⟩ := hs
    exact ⟨List.mem_map.2 ⟨a, ha, by simpa using fun h => absurd (by simpa using c) h⟩, fun e he hx => List.mem_map.2 ⟨e, he, by rw [if_neg hx]⟩⟩
  · exact ⟨by simp, fun e he _ => List.mem_append_left _ he⟩
theorem MO.put {H0 H : Heap} {L : List ME} {x : Int} {w : AV} {xs : List Int} (h : MO H0 H (restM L x)) (ho : Own H0 H 1 w xs.length (xs.map eI)) (hs : SepM (restM L x) w) : MO H0 H (putM L x w xs) := by
  have hr : ∀ e ∈ L, e.1 ≠ x → e ∈ restM L x := fun e he hx => List.mem_filter.2 ⟨he, by simpa using hx⟩
  refine ⟨fun e he => ?_, fun a ha b hb hab => ?_, fun a ha b hb hab => ?_⟩
  · rcases mem_putM he with rfl | ⟨h1, h2⟩
    · exact ho
    · exact h.1 e (hr e h1 h2)
  · rcases mem_putM ha with rfl | ⟨h1, h2⟩
    · rcases mem_putM hb with rfl | ⟨h3, h4⟩
      · exact absurd rfl hab
      · exact (hs b (hr b h3 h4)).symm
    · rcases mem_putM hb with rfl | ⟨h3, h4⟩
      · exact hs a (hr a h1 h2)
      · exact h.2.1 a (hr a h1 h2) b (hr b h3 h4) hab
  · rcases mem_putM ha with rfl | ⟨h1, h2⟩
    · rcases mem_putM hb with rfl | ⟨h3, h4⟩
      · rfl
      · exact absurd hab.symm h4
    · rcases mem_putM hb with rfl | ⟨h3, h4⟩
      · exact absurd hab h2
      · exact h.2.2 a (hr a h1 h2) b (hr b h3 h4) hab
def Tells (L : List ME) (c : Int → List Int) : Prop := (∀ e ∈ L, e.2.2 = c e.1 ∧ c e.1 ≠ []) ∧ ∀ x, c x ≠ [] → ∃ e ∈ L, e.1 = x
theorem Tells.get {L : List ME} {c : Int → List Int} (h : Tells L c) (x : Int) : (getM L x).2 = c x := by
  rcases getM_cases L x with ⟨e, he, h1, h2, _⟩ | ⟨h1, h2, _⟩
  · rw [h2, (h.1 e he).1, h1]
  · rw [h2]
    by_cases hc : c x = []
    · exact hc.symm
    · obtain ⟨e, he, hx⟩ := h.2 x hc; exact absurd hx (h1 e he)
theorem Tells.put {L : List ME} {c c' : Int → List Int} {x : Int} {w : AV} {xs : List Int} (h : Tells L c) (hx : c' x = xs) (hne : xs ≠ []) (ho : ∀ y, y ≠ x → c' y = c y) : Tells (putM L x w xs) c' := by
  refine ⟨fun e he => ?_, fun y hy => ?_⟩
  · rcases mem_putM he with rfl | ⟨h1, h2⟩
    · exact ⟨hx.symm, by rw [hx]; exact hne⟩
    · rw [ho _ h2]; exact h.1 e h1
  · by_cases e : y = x
    · subst e; exact ⟨_, (putM_mem L y w xs).1, rfl⟩
    · rw [ho y e] at hy
      obtain ⟨a, ha, rfl⟩ := h.2 y hy
      exact ⟨a, (putM_mem L x w xs).2 a ha e, rfl⟩
theorem Tells.same {L : List ME} {c c' : Int → List Int} (h : Tells L c) (ho : ∀ y, c' y = c y) : Tells L c' := by
  have : c' = c := funext ho
  rw [this]; exact h
def contM (fs : List (List Int)) (f i : Int) (x : Int) : List Int := mineU fs x f ++ if x ∈ (at_ fs f).take i.toNat then [f] else []
theorem cont_0 (fs : List (List Int)) (f x : Int) : contM fs f 0 x = mineU fs x f := by simp [contM]
theorem cont_hit {fs : List (List Int)} {f i : Int} (ha : Apart (at_ fs f)) (h0 : 0 ≤ i) (h1 : i < (at_ fs f).length) : contM fs f (i + 1) (at_ (at_ fs f) i) = contM fs f i (at_ (at_ fs f) i) ++ [f] := by
  unfold contM
  have hn : at_ (at_ fs f) i ∉ (at_ fs f).take i.toNat := fun h => by
    obtain ⟨k, k0, k1, k2⟩ := take_mem h0 (by omega) h
    exact ha i k k0 k1 h1 k2.symm
  rw [if_neg hn, take_step h0 h1, if_pos (by simp)]; simp
theorem cont_miss {fs : List (List Int)} {f i x : Int} (h0 : 0 ≤ i) (h1 : i < (at_ fs f).length) (hx : x ≠ at_ (at_ fs f) i) : contM fs f (i + 1) x = contM fs f i x := by
  unfold contM
  rw [take_step h0 h1]
  congr 1
  simp [hx]
theorem cont_end {fs : List (List Int)} {f i x : Int} (h0 : 0 ≤ f) (hi : ((at_ fs f).length : Int) ≤ i) : contM fs f i x = mineU fs x (f + 1) := by
  unfold contM
  rw [take_all hi]
  by_cases h : x ∈ at_ fs f
  · rw [mine_T h0 h, if_pos h]
  · rw [mine_F h0 h, if_neg h]; simp
theorem putM_keys {L : List ME} {x : Int} {w : AV} {xs : List Int} (h : (L.map (·.1)).Nodup) : ((putM L x w xs).map (·.1)).Nodup := by
  unfold putM
  split
  · rw [List.map_map]
    have : ((fun e : ME => e.1) ∘ fun e : ME => if e.1 = x then (x, w, xs) else e) = fun e : ME => e.1 := by
      funext e
      simp only [Function.comp]
      split
      · rename_i h; exact h.symm
      · rfl
    rw [this]; exact h
  · rename_i hn
    rw [List.map_append, List.nodup_append]
    refine ⟨h, by simp, fun a ha b hb => ?_⟩
    simp at hb; subst hb
    rintro rfl
    obtain ⟨e, he, h2⟩ := List.mem_map.1 ha
    apply hn
    rw [List.find?_isSome]
    exact ⟨e, he, by simpa using h2⟩
theorem keys_count {L : List ME} {n : Int} (h1 : (L.map (·.1)).Nodup) (hr : ∀ e ∈ L, 0 ≤ e.1 ∧ e.1 < n) (hn : 0 ≤ n) : (L.length : Int) ≤ n ∧ ((∀ x : Int, 0 ≤ x → x < n → ∃ e ∈ L, e.1 = x) → (L.length : Int) = n) := by
  have h2 := List.Nodup.length_le_of_subset h1 (l₂ := (List.range n.toNat).map fun (k : Nat) => (k : Int)) (fun x hx => by
    obtain ⟨e, he, rfl⟩ := List.mem_map.1 hx
    have := hr e he
    exact List.mem_map.2 ⟨e.1.toNat, List.mem_range.2 (by omega), by omega⟩)
  have h3 : ((List.range n.toNat).map fun (k : Nat) => (k : Int)).Nodup := by
    rw [List.nodup_iff_pairwise_ne, List.pairwise_map]
    exact List.pairwise_lt_range.imp (by intro a b h; omega)
  simp only [List.length_map, List.length_range] at h2
  refine ⟨by omega, fun hall => ?_⟩
  have h4 := List.Nodup.length_le_of_subset h3 (l₂ := L.map (·.1)) (fun x hx => by
    obtain ⟨k, hk, rfl⟩ := List.mem_map.1 hx
    rw [List.mem_range] at hk
    obtain ⟨e, he, hx⟩ := hall k (by omega) (by omega)
    exact List.mem_map.2 ⟨e, he, hx⟩)
  simp only [List.length_map, List.length_range] at h4
  omega
theorem SepM.ofNotId {L : List ME} {i a b c d : Nat} (h : NotIdM L i) : SepM L (.slm i a b c d) := fun e he => Sep.ofNotId' (h e he)
theorem NotIdM.get {L : List ME} {j : Nat} (h : NotIdM L j) (x : Int) : NotId (getM L x).1 j := by
  rcases getM_cases L x with ⟨e, he, _, h2, _⟩ | ⟨_, h2, _⟩
  · rw [h2]; exact h e he
  · rw [h2]; exact .nil _
theorem NotIdM.rest {L : List ME} {j : Nat} (h : NotIdM L j) (x : Int) : NotIdM (restM L x) j := fun e he => h e (List.mem_filter.1 he).1
theorem NotIdM.put {L : List ME} {j : Nat} {x : Int} {w : AV} {xs : List Int} (h : NotIdM (restM L x) j) (hw : NotId w j) : NotIdM (putM L x w xs) j := fun e he => by
  rcases mem_putM he with rfl | ⟨h1, h2⟩
  · exact hw
  · exact h e (List.mem_filter.2 ⟨h1, by simpa using h2⟩)
theorem SepM.get {L : List ME} {v : AV} (h : SepM L v) (x : Int) : Sep (getM L x).1 v := by
  rcases getM_cases L x with ⟨e, he, _, h2, _⟩ | ⟨_, h2, _⟩
  · rw [h2]; exact h e he
  · rw [h2]; exact .nilL _
theorem SepM.rest {L : List ME} {v : AV} (h : SepM L v) (x : Int) : SepM (restM L x) v := fun e he => h e (List.mem_filter.1 he).1
theorem filter_step {L : List ME} {v : Int} : restM (L.filter fun e => decide (v ≤ e.1)) v = L.filter fun e => decide (v + 1 ≤ e.1) := by
  unfold restM
  rw [List.filter_filter]
  congr 1
  funext e
  rw [← Bool.decide_and]
  apply decide_eq_decide.2
  omega
theorem filter_start {L : List ME} (h : ∀ e ∈ L, 0 ≤ e.1) : L = L.filter fun e => decide (0 ≤ e.1) := (List.filter_eq_self.2 fun e he => by simpa using h e he).symm
theorem getM_filter {L : List ME} {v : Int} : getM (L.filter fun e => decide (v ≤ e.1)) v = getM L v := by
  unfold getM
  rw [List.find?_filter]
  congr 3
  funext e
  by_cases c : e.1 = v
  · simp [c]
  · simp [c]
theorem hide_get {H : Heap} {m j : Nat} {B : AB} (hne : j ≠ m) (h : H j = some B) : hide H m j = some B := by unfold hide; rw [if_neg hne]; exact h
theorem Own.hide_ {H0 H H2 : Heap} {es len m : Nat} {v : AV} {cells : List AV} (h : Own H0 H es v len cells) (hn : NotId v m) (hm : Mono (hide H m) H2) : Own H0 H2 es v len cells := by
  rcases h with h | ⟨id, ver, h1, h2, h3⟩
  · exact .inl h
  · exact .inr ⟨id, ver, h1, hm _ _ (hide_get (fun e => hn _ _ _ _ _ h1 e.symm) h2), h3⟩
theorem MO.hide_ {H0 H H2 : Heap} {L : List ME} {m : Nat} (h : MO H0 H L) (hn : NotIdM L m) (hm : Mono (hide H m) H2) : MO H0 H2 L := ⟨fun e he => Own.hide_ (h.1 e he) (hn e he) hm, h.2⟩
theorem Mono.hide_ {H0 H H2 : Heap} {m : Nat} (h : Mono H0 H) (h0 : H0 m = none) (hm : Mono (hide H m) H2) : Mono H0 H2 := fun i B hi => by
  have : i ≠ m := by rintro rfl; rw [h0] at hi; cases hi
  exact hm _ _ (hide_get this (h i B hi))
theorem ok_full {n : Int} {fs : List (List Int)} {L : List ME} (h : okS n fs) (ht : Tells L fun x => mineU fs x fs.length) : ∀ x : Int, 0 ≤ x → x < n → ∃ e ∈ L, e.1 = x := by
  intro x h0 h1
  have hf := h.2.2 x h0 h1
  refine ht.2 x fun e => ?_
  unfold fanOK at hf
  rw [if_pos e] at hf
  cases hf
theorem MO.take_at {H0 H : Heap} {L : List ME} {c : Int} {xs : List Int} (h : MO H0 H (L.filter fun e => decide (c ≤ e.1))) (hx : (getM L c).2 = xs) :
    Own H0 H 1 (getM L c).1 xs.length (xs.map eI) ∧ MO H0 H (restM (L.filter fun e => decide (c ≤ e.1)) c) ∧ SepM (restM (L.filter fun e => decide (c ≤ e.1)) c) (getM L c).1 := by
  have := h.take c
  rw [getM_filter, hx] at this
  exact this
theorem kesM {L : List ME} {n : Int} (h : ∀ e ∈ L, 0 ≤ e.1 ∧ e.1 < n) : n ≤ 1000 → ∀ e ∈ L.map eM, KOK Try.prog 3 e.1 := by
  intro hn e he
  obtain ⟨a, ha, rfl⟩ := List.mem_map.1 he
  have := h a ha
  exact kok3 ⟨by omega, by omega⟩
theorem tells_nil (fs : List (List Int)) : Tells [] fun x => mineU fs x 0 := ⟨fun _ h => (by cases h), fun x h => absurd rfl h⟩
theorem putM_rng {L : List ME} {n x : Int} {w : AV} {xs : List Int} (h : ∀ e ∈ L, 0 ≤ e.1 ∧ e.1 < n) (hx : 0 ≤ x ∧ x < n) : ∀ e ∈ putM L x w xs, 0 ≤ e.1 ∧ e.1 < n := fun e he => by
  rcases mem_putM he with rfl | ⟨h1, _⟩
  · exact hx
  · exact h e h1
theorem cont_len {fs : List (List Int)} {f i x : Int} (h0 : 0 ≤ f) (h1 : f ≤ 1048576) : (contM fs f i x).length ≤ 1048577 := by
  unfold contM
  have := mine_le fs x f.toNat
  rw [Int.toNat_of_nonneg h0] at this
  rw [List.length_append]
  split <;> simp <;> omega
end Go.Proofs.T
namespace Go.AH
variable [Globs]
set_option linter.unusedSectionVars false
open Go Go.Maps Go.Sort Go.Shelf Go.Proofs
inductive LowP : AV → Prop where
  | undef : LowP .undef
  | int (k : IntKind) (n : Int) : LowP (.int k n)
  | bool (b : Bool) : LowP (.bool b)
  | str (s : ByteArray) : LowP (.str s)
  | sl (len : Nat) (cells : List AV) (h : ∀ x ∈ cells, LowP x) : LowP (.sl len cells)
section
variable {α : Type} [Inhabited α]
end
end Go.AH
namespace Go.AH
variable [Globs]
set_option linter.unusedSectionVars false
open Go Go.Maps Go.Sort Go.Shelf Go.Proofs
theorem PC.live (tick : Tick) (hn : NoGlobs) {P : Program} {g : FuncId} {args args0 : List AV} {k : IntKind} {z : Int} {H : Heap} (h : PC P g args0 (.int k z))
    (hv : ∀ w μ (vs : List Value), HR w μ H → VRs w μ H args vs → VRs w (fun i => i) noHeap args0 vs) : ACalls P g args H fun r H' => r = .int k z ∧ H' = H := by
  intro μ w vs hr hvs
  refine (PC.plain tick hn h (hv w μ _ hr hvs) (v := .int k z) fun _ _ _ _ h => h.int_inv).mono ?_
  rintro e w' ⟨rfl, q, os, rfl⟩
  obtain ⟨g1, g2⟩ := grow_Ext hr q os
  exact ⟨_, rfl, μ, H, _, g2, .int _ _, g1, rfl, rfl⟩
theorem zeroRow_one (z : AV) : ∀ n, zeroRow [z] n = List.replicate n z := fun n => by
  refine List.ext_getElem? fun j => ?_
  simp only [zeroRow, List.getElem?_replicate]
  by_cases h : j < n
  · simp [h, Nat.mod_one]
  · simp [h]
theorem AOp.makeSlice_own {P : Program} {n : Nat} {f : Nat → AV} {H H0 : Heap} {K : (Nat → AV) → Heap → Prop} {ty : TypeId} {pos : String} {after : Array Edge} {guard : Option (Nat × Bool)} {d : Nat} {t e : TypeId} {x y : Operand} {k k' : IntKind} {l : Int} {bm : Nat} {z : AV} (hn : Nat.ble (d + 1) n = true)
    (ht : P.underlying t = some (.slice e)) (hs' : TSize P e 1) (hz : TZero P e [z]) (hb : TBytes P e bm) (hbm : bm ≤ 1024) (hx : ev f x = .int k l) (hy : ev f y = .int k' l) (h0 : 0 ≤ l) (h2 : l ≤ 4294967296) (hm : Mono H0 H)
    (hK : ∀ v' H', Own H0 H' 1 v' l.toNat (List.replicate l.toNat z) → Mono H0 H' → (∀ i, H i ≠ none → H' i = H i) → (∀ i, H i ≠ none → NotId v' i) → K (upd f d v') H') : AOp P n ⟨some d, .makeSlice t x y, ty, pos, after, guard⟩ K f H :=
  .makeSlice hn ht hs' hz hb hbm hx hy h0 (Int.le_refl _) h2 fun id H' hid hrow hoth => by
    refine hK _ _ (.inr ⟨id, 0, rfl, by rw [hrow, zeroRow_one, Nat.mul_one], hm.free hid, by simp⟩) (hm.new hid hoth) (fun i hi => hoth i fun e => hi (by rw [e]; exact hid)) fun i hi => NotId.slm fun e => hi (by rw [e]; exact hid)
end Go.AH
namespace Go.Proofs.T
open Go Go.AH
set_option maxRecDepth 4000
def eA (a : AV) : AV := a
instance instInhAV : Inhabited AV := ⟨.snil⟩
def gvals (L : List ME) (n : Nat) : List AV := (List.range n).map fun (j : Nat) => (getM L (j : Int)).1
theorem gvals_len (L : List ME) (n : Nat) : (gvals L n).length = n := by simp [gvals]
theorem gvals_at {L : List ME} {n : Nat} {x : Int} (h0 : 0 ≤ x) (h1 : x < n) : at_ (gvals L n) x = (getM L x).1 := by
  have h : x.toNat < n := by omega
  have e : ((x.toNat : Nat) : Int) = x := by omega
  simp [at_, gvals, h, e]
theorem gvals_nil (n : Nat) : gvals [] n = List.replicate n .snil := by
  refine List.ext_getElem? fun j => ?_
  simp only [gvals, List.getElem?_map, List.getElem?_replicate, List.getElem?_range]
  by_cases h : j < n
  · simp [h, getM]
  · simp [h]
theorem getM_put (L : List ME) (x : Int) (w : AV) (xs : List Int) (y : Int) : getM (putM L x w xs) y = if y = x then (w, xs) else getM L y := by
  unfold putM
  split
  · rename_i hs
    unfold getM
    by_cases e : y = x
    · subst e; rw [if_pos rfl]
      rw [List.find?_map]
      have : ((fun e : ME => decide (e.1 = y)) ∘ fun e : ME => if e.1 = y then (y, w, xs) else e) = fun e : ME => decide (e.1 = y) := by
        funext e; simp only [Function.comp]; split
        · rename_i h; simp [h]
        · rfl
      rw [this]
      cases hf : L.find? (fun e => decide (e.1 = y)) with
      | none => rw [hf] at hs; cases hs
      | some a =>
        have := List.find?_some hf
        simp only [decide_eq_true_eq] at this
        simp [this]
    · rw [if_neg e, List.find?_map]
      have : ((fun e : ME => decide (e.1 = y)) ∘ fun e : ME => if e.1 = x then (x, w, xs) else e) = fun e : ME => decide (e.1 = y) := by
        funext a; simp only [Function.comp]; split
        · rename_i h; simp only [h]
        · rfl
      rw [this]
      cases hf : L.find? (fun e => decide (e.1 = y)) with
      | none => rfl
      | some a =>
        have := List.find?_some hf
        simp only [decide_eq_true_eq] at this
        have hne : a.1 ≠ x := fun h => e (this.symm.trans h)
        simp [hne]
  · rename_i hs
    have hn : L.find? (fun e => decide (e.1 = x)) = none := by
      cases h : L.find? (fun e => decide (e.1 = x)) with
      | none => rfl
      | some a => rw [h] at hs; exact absurd rfl hs
    unfold getM
    rw [List.find?_append]
    by_cases e : y = x
    · subst e; rw [if_pos rfl, hn]; simp
    · rw [if_neg e]
      have : ([(x, w, xs)] : List ME).find? (fun e => decide (e.1 = y)) = none := by simp; exact fun h => e h.symm
      rw [this]; cases L.find? (fun e => decide (e.1 = y)) <;> rfl
theorem gvals_set {L : List ME} {n : Nat} {x : Int} {w : AV} {xs : List Int} (h0 : 0 ≤ x) (h1 : x < n) : (gvals L n).set x.toNat w = gvals (putM L x w xs) n := by
  refine List.ext_getElem? fun j => ?_
  rw [List.getElem?_set]
  simp only [gvals, List.getElem?_map, List.getElem?_range, List.length_map, List.length_range]
  by_cases hj : x.toNat = j
  · subst hj
    have h : x.toNat < n := by omega
    have e : ((x.toNat : Nat) : Int) = x := by omega
    rw [if_pos rfl, if_pos h]
    simp [h, e, getM_put]
  · rw [if_neg hj]
    by_cases h : j < n
    · have e : (j : Int) ≠ x := by omega
      simp [h, getM_put, e]
    · simp [h]
def gF (L : List ME) (n : Nat) : List (List Int) := (List.range n).map fun (j : Nat) => (getM L (j : Int)).2
def gMix (L : List ME) (n k : Nat) : List AV := (List.range n).map fun (j : Nat) => if j < k then eF (getM L (j : Int)).2 else (getM L (j : Int)).1
theorem gMix_0 (L : List ME) (n : Nat) : gMix L n 0 = (gvals L n).map eA := by simp [gMix, gvals, eA, Function.comp]
theorem gMix_n (L : List ME) (n : Nat) : gMix L n n = (gF L n).map eF := by
  unfold gMix gF; rw [List.map_map]
  refine List.map_congr_left fun j hj => ?_
  rw [List.mem_range] at hj; simp [hj]
theorem gMix_set (L : List ME) (n k : Nat) (h : k < n) : (gMix L n k).set k (eF (getM L (k : Int)).2) = gMix L n (k + 1) := by
  refine List.ext_getElem? fun j => ?_
  rw [List.getElem?_set]
  simp only [gMix, List.getElem?_map, List.getElem?_range, List.length_map, List.length_range]
  by_cases hj : k = j
  · subst hj; rw [if_pos rfl, if_pos h]; simp [h]
  · rw [if_neg hj]
    by_cases g : j < n
    · have e : (j < k + 1) ↔ j < k := by omega
      simp [g, e]
    · simp [g]
theorem Ghost.group {H0 H : Heap} {n : Nat} {f : Nat → AV} {L : List ME} {v : AV} {N : Nat} (hM : MO H0 H L) (ho : Own H0 H 1 v N ((gvals L N).map eA)) (hs : SepM L v) (hm : Mono H0 H) :
    ∃ H', Ghost n f H f H' ∧ Own H0 H' 1 v N ((gF L N).map eF) ∧ Mono H0 H' ∧ (∀ i, NotId v i → NotIdM L i → H' i = H i) := by
  by_cases hN : N = 0
  · subst hN
    exact ⟨H, Ghost.refl, Own.re ho rfl (by simp [gvals, gF]), hm, fun _ _ _ => rfl⟩
  obtain ⟨id, ver, rfl, hrow, hfree, hlen⟩ := Own.pos ho (by omega)
  have hsv : ∀ x : Int, NotId (getM L x).1 id := fun x => by
    obtain ⟨_, _, hsx⟩ := hM.take x
    rcases getM_cases L x with ⟨e, he, _, h2, _⟩ | ⟨_, h2, _⟩
    · rw [h2]; exact Sep.notId (hs e he).symm rfl
    · rw [h2]; exact NotId.nil _
  have main : ∀ k, k ≤ N → ∃ Hk, Ghost n f H f Hk ∧ Hk id = some (.row ver (gMix L N k)) ∧ Mono H0 Hk ∧ ∀ i, i ≠ id → (∀ j : Nat, j < k → NotId (getM L (j : Int)).1 i) → Hk i = H i := by
    intro k
    induction k with
    | zero => intro _; exact ⟨H, Ghost.refl, by rw [gMix_0]; exact hrow, hm, fun _ _ _ => rfl⟩
    | succ k ih =>
      intro hk
      obtain ⟨Hk, g1, g2, g3, g4⟩ := ih (by omega)
      obtain ⟨oA, _, oC⟩ := hM.take (k : Int)
      have oK : Own H0 Hk 1 (getM L (k : Int)).1 (getM L (k : Int)).2.length ((getM L (k : Int)).2.map eI) := by
        rcases oA with h | ⟨id', ver', h1, h2, h3⟩
        · exact .inl h
        · refine .inr ⟨id', ver', h1, (g4 id' ?_ fun j hj => ?_).trans h2, h3⟩
          · intro e; subst e; exact hsv (k : Int) _ _ _ _ _ h1 rfl
          · rcases getM_cases L (j : Int) with ⟨e, he, h5, h6, _⟩ | ⟨_, h6, _⟩
            · rw [h6]
              have : e ∈ restM L (k : Int) := List.mem_filter.2 ⟨he, by simp; omega⟩
              exact Sep.notId (oC e this).symm h1
            · rw [h6]; exact NotId.nil _
      obtain ⟨H', a1, a2, a3, a4⟩ := Ghost.ownCell (n := n) (f := f) (k := k) oK g2 hfree (by simp [gMix, show k < N from by omega]) (hsv _) g3
      refine ⟨H', g1.trans a1, ?_, a3, fun i h1 h2 => (a4 i h1 (h2 k (by omega))).trans (g4 i h1 fun j hj => h2 j (by omega))⟩
      rw [a2, ← gMix_set L N k (by omega)]; rfl
  obtain ⟨H', b1, b2, b3, b4⟩ := main N (Nat.le_refl _)
  refine ⟨H', b1, .inr ⟨id, ver, rfl, by rw [← gMix_n]; exact b2, hfree, by simp [gF]⟩, b3, fun i h1 h2 => b4 i (fun e => ?_) fun j _ => h2.get _⟩
  exact h1 _ _ _ _ _ rfl e
theorem AWP.frzGroup {P : Program} {c : Code} {Q : Exit → (Nat → AV) → Heap → Prop} {H0 H : Heap} {n : Nat} {f : Nat → AV} {L : List ME} {v : AV} {N : Nat} (hM : MO H0 H L) (ho : Own H0 H 1 v N ((gvals L N).map eA)) (hs : SepM L v) (hm : Mono H0 H)
    (hK : ∀ H', Own H0 H' 1 v N ((gF L N).map eF) → Mono H0 H' → (∀ i, NotId v i → NotIdM L i → H' i = H i) → AWP P n c Q f H') : AWP P n c Q f H :=
  let ⟨H', g, o, m, k⟩ := Ghost.group (n := n) (f := f) hM ho hs hm
  .ghost g (hK H' o m k)
end Go.Proofs.T
namespace Go.Proofs.U
open Go Go.AH Go.Proofs.T
set_option maxRecDepth 4000
def addV (a b : VT) : VT := ⟨a.X + b.X, a.Y + b.Y, a.Z + b.Z⟩
def subV (a b : VT) : VT := ⟨a.X - b.X, a.Y - b.Y, a.Z - b.Z⟩
def scaleV (a : VT) (k : Int) : VT := ⟨a.X * k, a.Y * k, a.Z * k⟩
def zV : VT := ⟨0, 0, 0⟩
def inV (m : Int) (v : VT) : Prop := (-m ≤ v.X ∧ v.X ≤ m) ∧ (-m ≤ v.Y ∧ v.Y ≤ m) ∧ -m ≤ v.Z ∧ v.Z ≤ m
instance (m : Int) (v : VT) : Decidable (inV m v) := by unfold inV; infer_instance
theorem inV_le {a b : Int} {v : VT} (h : inV a v) (hl : a ≤ b) : inV b v := by unfold inV at *; omega
theorem inV_add {a b : Int} {v w : VT} (h : inV a v) (g : inV b w) : inV (a + b) (addV v w) := by unfold inV addV at *; simp only; omega
theorem inV_sub {a b : Int} {v w : VT} (h : inV a v) (g : inV b w) : inV (a + b) (subV v w) := by unfold inV subV at *; simp only; omega
theorem mul_rng {x k a c : Int} (h : -a ≤ x ∧ x ≤ a) (hk : -c ≤ k ∧ k ≤ c) : -(a * c) ≤ x * k ∧ x * k ≤ a * c := by
  have ha : 0 ≤ a := by omega
  have hc : 0 ≤ c := by omega
  have h1 : x.natAbs ≤ a.natAbs := by omega
  have h2 : k.natAbs ≤ c.natAbs := by omega
  have h3 : (x * k).natAbs ≤ (a * c).natAbs := by rw [Int.natAbs_mul, Int.natAbs_mul]; exact Nat.mul_le_mul h1 h2
  have h4 : 0 ≤ a * c := Int.mul_nonneg ha hc
  omega
theorem inV_scale {a c : Int} {v : VT} {k : Int} (h : inV a v) (hk : -c ≤ k ∧ k ≤ c) : inV (a * c) (scaleV v k) := by
  obtain ⟨h1, h2, h3⟩ := h
  exact ⟨mul_rng h1 hk, mul_rng h2 hk, mul_rng h3 hk⟩
def roundZ (n d : Int) : Int := (2 * n + d) / (2 * d)
theorem tdiv_rng {n d B : Int} (hn : -B ≤ n ∧ n ≤ B) (hd : 1 ≤ d) : -B ≤ n.tdiv d ∧ n.tdiv d ≤ B := by
  have h1 : (n.tdiv d).natAbs ≤ n.natAbs := by rw [Int.natAbs_tdiv]; exact Nat.div_le_self _ _
  omega
theorem tmod_rng {n d : Int} (hd : 1 ≤ d) : -d < n.tmod d ∧ n.tmod d < d := by
  have h1 := Int.natAbs_tmod n d
  have h2 : n.natAbs % d.natAbs < d.natAbs := Nat.mod_lt _ (by omega)
  omega
theorem roundZ_of {n d q : Int} (hd : 1 ≤ d) (h0 : 2 * d * q ≤ 2 * n + d) (h1 : 2 * n + d < 2 * d * q + 2 * d) : q = roundZ n d := by
  unfold roundZ
  have hp : 0 < 2 * d := by omega
  have e1 := Int.ediv_mul_le (2 * n + d) (by omega : 2 * d ≠ 0)
  have e2 := Int.lt_ediv_add_one_mul_self (2 * n + d) hp
  generalize (2 * n + d) / (2 * d) = r at *
  have c1 : 2 * d * (r + 1) = (r + 1) * (2 * d) := Int.mul_comm _ _
  have c2 : 2 * d * r = r * (2 * d) := Int.mul_comm _ _
  have c3 : 2 * d * (q + 1) = 2 * d * q + 2 * d := by rw [Int.mul_add, Int.mul_one]
  have a1 : 2 * d * q < 2 * d * (r + 1) := by rw [c1]; exact Int.lt_of_le_of_lt h0 e2
  have a2 : 2 * d * r < 2 * d * (q + 1) := by rw [c2, c3]; exact Int.lt_of_le_of_lt e1 h1
  have b1 := Int.lt_of_mul_lt_mul_left a1 (by omega)
  have b2 := Int.lt_of_mul_lt_mul_left a2 (by omega)
  omega
theorem tm {n d : Int} : d * n.tdiv d = n - n.tmod d := by have := Int.tmod_add_mul_tdiv n d; omega
theorem round_a {n d : Int} (hd : 1 ≤ d) (hr : n.tmod d < 0) (h : n.tmod d + d ≥ d - (n.tmod d + d)) : n.tdiv d - 1 + 1 = roundZ n d := by
  have e := tm (n := n) (d := d); have hb := tmod_rng (n := n) hd
  refine roundZ_of hd ?_ ?_ <;> (rw [Int.mul_assoc, Int.sub_add_cancel, e]; omega)
theorem round_b {n d : Int} (hd : 1 ≤ d) (hr : n.tmod d < 0) (h : ¬ n.tmod d + d ≥ d - (n.tmod d + d)) : n.tdiv d - 1 = roundZ n d := by
  have e := tm (n := n) (d := d); have hb := tmod_rng (n := n) hd
  refine roundZ_of hd ?_ ?_ <;> (rw [Int.mul_assoc, Int.mul_sub, e]; omega)
theorem round_c {n d : Int} (hd : 1 ≤ d) (hr : ¬ n.tmod d < 0) (h : n.tmod d ≥ d - n.tmod d) : n.tdiv d + 1 = roundZ n d := by
  have e := tm (n := n) (d := d); have hb := tmod_rng (n := n) hd
  refine roundZ_of hd ?_ ?_ <;> (rw [Int.mul_assoc, Int.mul_add, e]; omega)
theorem round_d {n d : Int} (hd : 1 ≤ d) (hr : ¬ n.tmod d < 0) (h : ¬ n.tmod d ≥ d - n.tmod d) : n.tdiv d = roundZ n d := by
  have e := tm (n := n) (d := d); have hb := tmod_rng (n := n) hd
  refine roundZ_of hd ?_ ?_ <;> (rw [Int.mul_assoc, e]; omega)
def ofV (s : VT) (d : Int) : VT := ⟨roundZ s.X d, roundZ s.Y d, roundZ s.Z d⟩
def addL (s : VT) (k : Int) (l : List VT) : VT := l.foldl (fun s p => addV s (scaleV p k)) s
theorem addL_step {s : VT} {k : Int} {l : List VT} {i : Int} (h0 : 0 ≤ i) (h1 : i < l.length) : addV (addL s k (l.take i.toNat)) (scaleV (at_ l i) k) = addL s k (l.take (i + 1).toNat) := by
  rw [take_step h0 h1]; unfold addL; rw [List.foldl_append]; rfl
theorem addL_all {s : VT} {k : Int} {l : List VT} {i : Int} (h1 : (l.length : Int) ≤ i) : addL s k (l.take i.toNat) = addL s k l := by rw [take_all h1]
end Go.Proofs.U
namespace Go.Proofs.U
open Go Go.AH Go.Proofs.T
set_option maxRecDepth 4000
set_option linter.unusedSimpArgs false
set_option linter.unusedVariables false
theorem c_vAdd (a b : VT) (ha : inV 2305843009213693952 a) (hb : inV 2305843009213693952 b) : PC Try.prog 73 [.agg [.int .i64 a.X, .int .i64 a.Y, .int .i64 a.Z], .agg [.int .i64 b.X, .int .i64 b.Y, .int .i64 b.Z]] (.agg [.int .i64 ((addV a b).X), .int .i64 ((addV a b).Y), .int .i64 ((addV a b).Z)]) := by
 intro H0
 simp only [inV] at ha hb
 refine ACalls.of_body' (n := 21) rfl rfl rfl rfl ?_
 have m0 := Mono.refl H0
 refine Sr ?_
 refine C rfl (bx_ (.agg (eV a)) rfl rfl rfl ?_)
 intro i1 H2 n3 h4 k5
 have z6 := Mono.free m0 n3
 have m7 := Mono.new m0 n3 k5
 refine C rfl (bx_ (.agg (eV b)) rfl rfl rfl ?_)
 intro i8 H9 n10 h11 k12
 have e13 := ne_new h4 n10
 have z14 := Mono.free m7 n10
 have h15 := keep k12 (ne_new h4 n10) h4
 have m16 := Mono.new m7 n10 k12
 refine C rfl (al_ rfl tz_42 ?_)
 intro i17 H18 n19 h20 k21
 have e22 := ne_new h15 n19
 have e23 := ne_new h11 n19
 have z24 := Mono.free m16 n19
 have h25 := keep k21 (ne_new h15 n19) h15
 have h26 := keep k21 (ne_new h11 n19) h11
 have m27 := Mono.new m16 n19 k21
 refine AWP.seq ?_
 refine fz_ 2 h25 z6 rfl m27 fun H28 m29 k30 => ?_
 have h31 := (k30 _ (Ne.symm e13)).trans h26
 have h32 := (k30 _ (Ne.symm e22)).trans h20
 refine fz_ 3 h31 z14 rfl m29 fun H33 m34 k35 => ?_
 have h36 := (k35 _ (Ne.symm e23)).trans h32
 refine AWP.region rfl ?_
 refine F rfl rfl fl_42_0 (L rfl rfl ty_3 rfl (F rfl rfl fl_42_0 (L rfl rfl ty_3 rfl (B rfl rfl rfl (iadd (by omega)) (F rfl rfl fl_42_1 (L rfl rfl ty_3 rfl (F rfl rfl fl_42_1 (L rfl rfl ty_3 rfl (B rfl rfl rfl (iadd (by omega)) (F rfl rfl fl_42_2 (L rfl rfl ty_3 rfl (F rfl rfl fl_42_2 (L rfl rfl ty_3 rfl (B rfl rfl rfl (iadd (by omega)) (C rfl (Bl (cells := [.int .i64 (a.X + b.X), .int .i64 (a.Y + b.Y), .int .i64 (a.Z + b.Z)]) rfl tz_42 pl_42 rfl rfl (C rfl (Sw rfl rfl ts_42 h36 rfl rfl rfl ?_))))))))))))))))))
 intro H37 h38 k39
 have m41 := Mono.set m34 z24 k39
 refine rt_ ?_
 refine Rr (Res.list1 rfl (.cell (v := .agg [.int .i64 (a.X + b.X), .int .i64 (a.Y + b.Y), .int .i64 (a.Z + b.Z)]) rfl ty_42 h38 rfl (.nil))) ?_ m41
 exact (congrArg AV.agg (lc (congrArg (AV.int .i64) (show (a.X + b.X : Int) = (addV a b).X from by rfl)) (lc (congrArg (AV.int .i64) (show (a.Y + b.Y : Int) = (addV a b).Y from by rfl)) (lc (congrArg (AV.int .i64) (show (a.Z + b.Z : Int) = (addV a b).Z from by rfl)) rfl))))
theorem c_rAdd (a b : VT) (ha : inV 2305843009213693952 a) (hb : inV 2305843009213693952 b) : PC Try.prog 18 [.agg [.int .i64 a.X, .int .i64 a.Y, .int .i64 a.Z], .agg [.int .i64 b.X, .int .i64 b.Y, .int .i64 b.Z]] (.agg [.int .i64 ((addV a b).X), .int .i64 ((addV a b).Y), .int .i64 ((addV a b).Z)]) := by
 intro H0
 simp only [inV] at ha hb
 refine ACalls.of_body' (n := 21) rfl rfl rfl rfl ?_
 have m0 := Mono.refl H0
 refine Sr ?_
 refine C rfl (bx_ (.agg (eV a)) rfl rfl rfl ?_)
 intro i1 H2 n3 h4 k5
 have z6 := Mono.free m0 n3
 have m7 := Mono.new m0 n3 k5
 refine C rfl (bx_ (.agg (eV b)) rfl rfl rfl ?_)
 intro i8 H9 n10 h11 k12
 have e13 := ne_new h4 n10
 have z14 := Mono.free m7 n10
 have h15 := keep k12 (ne_new h4 n10) h4
 have m16 := Mono.new m7 n10 k12
 refine C rfl (al_ rfl tz_42 ?_)
 intro i17 H18 n19 h20 k21
 have e22 := ne_new h15 n19
 have e23 := ne_new h11 n19
 have z24 := Mono.free m16 n19
 have h25 := keep k21 (ne_new h15 n19) h15
 have h26 := keep k21 (ne_new h11 n19) h11
 have m27 := Mono.new m16 n19 k21
 refine AWP.seq ?_
 refine fz_ 2 h25 z6 rfl m27 fun H28 m29 k30 => ?_
 have h31 := (k30 _ (Ne.symm e13)).trans h26
 have h32 := (k30 _ (Ne.symm e22)).trans h20
 refine fz_ 3 h31 z14 rfl m29 fun H33 m34 k35 => ?_
 have h36 := (k35 _ (Ne.symm e23)).trans h32
 refine AWP.region rfl ?_
 refine F rfl rfl fl_42_0 (L rfl rfl ty_3 rfl (F rfl rfl fl_42_0 (L rfl rfl ty_3 rfl (B rfl rfl rfl (iadd (by omega)) (F rfl rfl fl_42_1 (L rfl rfl ty_3 rfl (F rfl rfl fl_42_1 (L rfl rfl ty_3 rfl (B rfl rfl rfl (iadd (by omega)) (F rfl rfl fl_42_2 (L rfl rfl ty_3 rfl (F rfl rfl fl_42_2 (L rfl rfl ty_3 rfl (B rfl rfl rfl (iadd (by omega)) (C rfl (Bl (cells := [.int .i64 (a.X + b.X), .int .i64 (a.Y + b.Y), .int .i64 (a.Z + b.Z)]) rfl tz_42 pl_42 rfl rfl (C rfl (Sw rfl rfl ts_42 h36 rfl rfl rfl ?_))))))))))))))))))
 intro H37 h38 k39
 have m41 := Mono.set m34 z24 k39
 refine rt_ ?_
 refine Rr (Res.list1 rfl (.cell (v := .agg [.int .i64 (a.X + b.X), .int .i64 (a.Y + b.Y), .int .i64 (a.Z + b.Z)]) rfl ty_42 h38 rfl (.nil))) ?_ m41
 exact (congrArg AV.agg (lc (congrArg (AV.int .i64) (show (a.X + b.X : Int) = (addV a b).X from by rfl)) (lc (congrArg (AV.int .i64) (show (a.Y + b.Y : Int) = (addV a b).Y from by rfl)) (lc (congrArg (AV.int .i64) (show (a.Z + b.Z : Int) = (addV a b).Z from by rfl)) rfl))))
theorem c_vScale (a : VT) (k : Int) (h : inV 2305843009213693952 (scaleV a k)) : PC Try.prog 74 [.agg [.int .i64 a.X, .int .i64 a.Y, .int .i64 a.Z], .int .i64 k] (.agg [.int .i64 ((scaleV a k).X), .int .i64 ((scaleV a k).Y), .int .i64 ((scaleV a k).Z)]) := by
 intro H0
 simp only [inV, scaleV] at h
 refine ACalls.of_body' (n := 18) rfl rfl rfl rfl ?_
 have m0 := Mono.refl H0
 refine Sr ?_
 refine C rfl (bx_ (.agg (eV a)) rfl rfl rfl ?_)
 intro i1 H2 n3 h4 k5
 have z6 := Mono.free m0 n3
 have m7 := Mono.new m0 n3 k5
 refine C rfl (al_ rfl tz_42 ?_)
 intro i8 H9 n10 h11 k12
 have e13 := ne_new h4 n10
 have z14 := Mono.free m7 n10
 have h15 := keep k12 (ne_new h4 n10) h4
 have m16 := Mono.new m7 n10 k12
 refine AWP.seq ?_
 refine fz_ 2 h15 z6 rfl m16 fun H17 m18 k19 => ?_
 have h20 := (k19 _ (Ne.symm e13)).trans h11
 refine AWP.region rfl ?_
 refine F rfl rfl fl_42_0 (L rfl rfl ty_3 rfl (V rfl rfl (B rfl rfl rfl (imul (by omega)) (F rfl rfl fl_42_1 (L rfl rfl ty_3 rfl (V rfl rfl (B rfl rfl rfl (imul (by omega)) (F rfl rfl fl_42_2 (L rfl rfl ty_3 rfl (V rfl rfl (B rfl rfl rfl (imul (by omega)) (C rfl (Bl (cells := [.int .i64 (a.X * k), .int .i64 (a.Y * k), .int .i64 (a.Z * k)]) rfl tz_42 pl_42 rfl rfl (C rfl (Sw rfl rfl ts_42 h20 rfl rfl rfl ?_)))))))))))))))
 intro H21 h22 k23
 have m25 := Mono.set m18 z14 k23
 refine rt_ ?_
 refine Rr (Res.list1 rfl (.cell (v := .agg [.int .i64 (a.X * k), .int .i64 (a.Y * k), .int .i64 (a.Z * k)]) rfl ty_42 h22 rfl (.nil))) ?_ m25
 exact (congrArg AV.agg (lc (congrArg (AV.int .i64) (show (a.X * k : Int) = (scaleV a k).X from by rfl)) (lc (congrArg (AV.int .i64) (show (a.Y * k : Int) = (scaleV a k).Y from by rfl)) (lc (congrArg (AV.int .i64) (show (a.Z * k : Int) = (scaleV a k).Z from by rfl)) rfl))))
theorem c_rScale (a : VT) (k : Int) (h : inV 2305843009213693952 (scaleV a k)) : PC Try.prog 19 [.agg [.int .i64 a.X, .int .i64 a.Y, .int .i64 a.Z], .int .i64 k] (.agg [.int .i64 ((scaleV a k).X), .int .i64 ((scaleV a k).Y), .int .i64 ((scaleV a k).Z)]) := by
 intro H0
 simp only [inV, scaleV] at h
 refine ACalls.of_body' (n := 18) rfl rfl rfl rfl ?_
 have m0 := Mono.refl H0
 refine Sr ?_
 refine C rfl (bx_ (.agg (eV a)) rfl rfl rfl ?_)
 intro i1 H2 n3 h4 k5
 have z6 := Mono.free m0 n3
 have m7 := Mono.new m0 n3 k5
 refine C rfl (al_ rfl tz_42 ?_)
 intro i8 H9 n10 h11 k12
 have e13 := ne_new h4 n10
 have z14 := Mono.free m7 n10
 have h15 := keep k12 (ne_new h4 n10) h4
 have m16 := Mono.new m7 n10 k12
 refine AWP.seq ?_
 refine fz_ 2 h15 z6 rfl m16 fun H17 m18 k19 => ?_
 have h20 := (k19 _ (Ne.symm e13)).trans h11
 refine AWP.region rfl ?_
 refine F rfl rfl fl_42_0 (L rfl rfl ty_3 rfl (V rfl rfl (B rfl rfl rfl (imul (by omega)) (F rfl rfl fl_42_1 (L rfl rfl ty_3 rfl (V rfl rfl (B rfl rfl rfl (imul (by omega)) (F rfl rfl fl_42_2 (L rfl rfl ty_3 rfl (V rfl rfl (B rfl rfl rfl (imul (by omega)) (C rfl (Bl (cells := [.int .i64 (a.X * k), .int .i64 (a.Y * k), .int .i64 (a.Z * k)]) rfl tz_42 pl_42 rfl rfl (C rfl (Sw rfl rfl ts_42 h20 rfl rfl rfl ?_)))))))))))))))
 intro H21 h22 k23
 have m25 := Mono.set m18 z14 k23
 refine rt_ ?_
 refine Rr (Res.list1 rfl (.cell (v := .agg [.int .i64 (a.X * k), .int .i64 (a.Y * k), .int .i64 (a.Z * k)]) rfl ty_42 h22 rfl (.nil))) ?_ m25
 exact (congrArg AV.agg (lc (congrArg (AV.int .i64) (show (a.X * k : Int) = (scaleV a k).X from by rfl)) (lc (congrArg (AV.int .i64) (show (a.Y * k : Int) = (scaleV a k).Y from by rfl)) (lc (congrArg (AV.int .i64) (show (a.Z * k : Int) = (scaleV a k).Z from by rfl)) rfl))))
theorem c_vRound (n d : Int) (hn : -2305843009213693952 ≤ n ∧ n ≤ 2305843009213693952) (hd : 1 ≤ d ∧ d ≤ 2305843009213693952) : PC Try.prog 75 [.int .i64 n, .int .i64 d] (.int .i64 (roundZ n d)) := by
 intro H0
 refine ACalls.of_body' (n := 42) rfl rfl rfl rfl ?_
 have m0 := Mono.refl H0
 refine Sr ?_
 refine A rfl rfl ?_
 refine AWP.seq ?_
 refine Sr ?_
 refine V rfl rfl (B rfl rfl rfl rfl (V rfl rfl (Y rfl rfl rfl (decide_eq_false (by omega)) (Mv _ rfl rfl (Y rfl rfl rfl (decide_eq_false (by omega)) (Mv _ rfl rfl (Y rfl rfl rfl (decide_eq_false (by omega)) (Mv _ rfl rfl (Y rfl rfl rfl (decide_eq_false (by omega)) (AOp.negP rfl rfl (by omega) (Y rfl rfl rfl (decide_eq_false (by omega)) (AOp.max3 rfl rfl rfl rfl (Y rfl rfl rfl (decide_eq_false (by omega)) (Bi _ rfl rfl rfl rfl (C rfl (Pf _ rfl rfl (decide_eq_false (by omega)) rfl (V rfl rfl (Y rfl rfl rfl (decide_eq_false (by omega)) (Mv _ rfl rfl (Y rfl rfl rfl (decide_eq_false (by omega)) (Bi _ rfl rfl rfl rfl (C rfl (Pf _ rfl rfl (decide_eq_false (by omega)) rfl ?_)))))))))))))))))))))))
 refine cf_ rfl (decide_eq_false (by omega)) ?_
 refine AWP.skip ?_
 refine AWP.seq ?_
 refine AWP.region_quiet mixed (by kernel_rfl) 8 [] rfl (by kernel_rfl) (Mono H0) (Mono.refl _) ?_
 refine QV rfl rfl (QV rfl rfl (Q rfl (fun _ _ φ ψ => AOp.quoT rfl (φ 21 rfl) (φ 22 rfl) (by omega) (by have := tdiv_rng (d := d) hn (by omega); omega) ⟨rfl, ψ⟩) (QV rfl rfl (QV rfl rfl (Q rfl (fun _ _ φ ψ => AOp.rem rfl (φ 24 rfl) (φ 25 rfl) (by omega) ⟨rfl, ψ⟩) (Q rfl (fun _ _ φ ψ => As _ rfl (φ 23 rfl) ⟨rfl, ψ⟩) (Q rfl (fun _ _ φ ψ => As _ rfl (φ 26 rfl) ⟨rfl, ψ⟩) ?_)))))))
 refine QE.done fun H1 m2 => ?_
 have m3 := m0.trans m2
 refine AWP.seq ?_
 refine AWP.seq ?_
 have hq := tdiv_rng hn hd.1
 have hr := tmod_rng (n := n) hd.1
 refine AWP.region rfl ?_
 refine V rfl rfl (B rfl rfl rfl rfl ?_)
 refine AOps.nil ?_
 change AWP _ _ _ _ _ _
 by_cases b4 : Int.tmod n d < 0
 refine ct_ rfl (decide_eq_true b4) ?_
 refine AWP.region rfl ?_
 refine V rfl rfl (B rfl rfl rfl (isub (by omega)) (V rfl rfl (V rfl rfl (B rfl rfl rfl (iadd (by omega)) (A rfl rfl (A rfl rfl ?_))))))
 refine AWP.seq ?_
 refine Sr ?_
 refine V rfl rfl (V rfl rfl (V rfl rfl (B rfl rfl rfl (isub (by omega)) (B rfl rfl rfl rfl ?_))))
 refine AOps.nil ?_
 change AWP _ _ _ _ _ _
 by_cases b5 : Int.tmod n d + d ≥ d - (Int.tmod n d + d)
 refine ct_ rfl (decide_eq_true b5) ?_
 refine AWP.region rfl ?_
 refine V rfl rfl (B rfl rfl rfl (iadd (by omega)) (A rfl rfl ?_))
 refine Sr ?_
 refine V rfl rfl (A rfl rfl ?_)
 refine rt_ ?_
 refine Rr (Res.one rfl rfl) ?_ m3
 exact (congrArg (AV.int .i64) (show (Int.tdiv n d - 1 + 1 : Int) = roundZ n d from by exact round_a hd.1 b4 b5))
 refine cf_ rfl (decide_eq_false b5) ?_
 refine AWP.skip ?_
 refine Sr ?_
 refine V rfl rfl (A rfl rfl ?_)
 refine rt_ ?_
 refine Rr (Res.one rfl rfl) ?_ m3
 exact (congrArg (AV.int .i64) (show (Int.tdiv n d - 1 : Int) = roundZ n d from by exact round_b hd.1 b4 b5))
 refine cf_ rfl (decide_eq_false b4) ?_
 refine AWP.skip ?_
 refine AWP.seq ?_
 refine Sr ?_
 refine V rfl rfl (V rfl rfl (V rfl rfl (B rfl rfl rfl (isub (by omega)) (B rfl rfl rfl rfl ?_))))
 refine AOps.nil ?_
 change AWP _ _ _ _ _ _
 by_cases b6 : Int.tmod n d ≥ d - (Int.tmod n d)
 refine ct_ rfl (decide_eq_true b6) ?_
 refine AWP.region rfl ?_
 refine V rfl rfl (B rfl rfl rfl (iadd (by omega)) (A rfl rfl ?_))
 refine Sr ?_
 refine V rfl rfl (A rfl rfl ?_)
 refine rt_ ?_
 refine Rr (Res.one rfl rfl) ?_ m3
 exact (congrArg (AV.int .i64) (show (Int.tdiv n d + 1 : Int) = roundZ n d from by exact round_c hd.1 b4 b6))
 refine cf_ rfl (decide_eq_false b6) ?_
 refine AWP.skip ?_
 refine Sr ?_
 refine V rfl rfl (A rfl rfl ?_)
 refine rt_ ?_
 refine Rr (Res.one rfl rfl) ?_ m3
 exact (congrArg (AV.int .i64) (show (Int.tdiv n d : Int) = roundZ n d from by exact round_d hd.1 b4 b6))
end Go.Proofs.U
namespace Go.Proofs.U
open Go Go.AH Go.Proofs.T
set_option maxRecDepth 4000
def sumL (l : List VT) : VT := l.foldl addV zV
theorem addV_assoc (a b c : VT) : addV (addV a b) c = addV a (addV b c) := by simp only [addV, VT.mk.injEq]; omega
theorem addV_zero (a : VT) : addV a zV = a := by simp [addV, zV]
theorem zero_addV (a : VT) : addV zV a = a := by simp [addV, zV]
theorem foldl_addV (l : List VT) (s : VT) : l.foldl addV s = addV s (sumL l) := by
  induction l generalizing s with
  | nil => exact (addV_zero s).symm
  | cons x l ih => simp only [List.foldl_cons, sumL]; rw [ih, ih (addV zV x), zero_addV, addV_assoc]
theorem sumL_cons (x : VT) (l : List VT) : sumL (x :: l) = addV x (sumL l) := by
  show l.foldl addV (addV zV x) = _; rw [foldl_addV, zero_addV]
theorem sumL_app (a b : List VT) : sumL (a ++ b) = addV (sumL a) (sumL b) := by
  unfold sumL; rw [List.foldl_append, foldl_addV]; rfl
theorem sumL_nil : sumL [] = zV := rfl
theorem sumL_one (x : VT) : sumL [x] = x := by rw [sumL_cons, sumL_nil, addV_zero]
theorem scaleV_one (x : VT) : scaleV x 1 = x := by simp [scaleV]
theorem addL_one (s x : VT) (k : Int) : addL s k [x] = addV s (scaleV x k) := rfl
theorem addL_1 (s x : VT) : addL s 1 [x] = addV s x := by rw [addL_one, scaleV_one]
theorem addL_two (s x y : VT) : addL s 1 [x, y] = addV (addV s x) y := by
  show addV (addV s (scaleV x 1)) (scaleV y 1) = _; rw [scaleV_one, scaleV_one]
theorem inV_zero {m : Int} (h : 0 ≤ m) : inV m zV := by unfold inV zV; simp only; omega
theorem inV_addL {C : Int} {s : VT} {k : Int} {l : List VT} {i : Int} (h0 : 0 ≤ i) (h1 : i < l.length) (h : inV (C + C * i) (addL s k (l.take i.toNat))) (hs : ∀ v ∈ l, inV C (scaleV v k)) : inV (C + C * (i + 1)) (addL s k (l.take (i + 1).toNat)) := by
  rw [← addL_step h0 h1]
  refine inV_le (inV_add h (hs _ (at_mem h0 h1))) ?_
  rw [Int.mul_add]; omega
theorem sum_step {vs : List VT} {l : List Int} {i : Int} (h0 : 0 ≤ i) (h1 : i < l.length) : addL (sumL ((l.take i.toNat).map fun k => at_ vs k)) 1 [at_ vs (at_ l i)] = sumL ((l.take (i + 1).toNat).map fun k => at_ vs k) := by
  rw [addL_1, take_step h0 h1, List.map_append, sumL_app, List.map_singleton, sumL_one]
theorem inV_sumL {C : Int} : ∀ {l : List VT}, (∀ v ∈ l, inV C v) → inV (C * l.length) (sumL l)
  | [], _ => by simp [sumL_nil, inV, zV]
  | x :: l, h => by
    rw [sumL_cons]
    refine inV_le (inV_add (h x List.mem_cons_self) (inV_sumL fun v hv => h v (List.mem_cons_of_mem _ hv))) ?_
    rw [List.length_cons]; push_cast; rw [Int.mul_add]; omega
theorem sum_in {C : Int} {vs : List VT} {l : List Int} (hv : ∀ v ∈ vs, inV C v) (hl : ∀ k ∈ l, 0 ≤ k ∧ k < (vs.length : Int)) : inV (C * l.length) (sumL (l.map fun k => at_ vs k)) := by
  have := inV_sumL (C := C) (l := l.map fun k => at_ vs k) fun v h => by
    obtain ⟨k, hk, rfl⟩ := List.mem_map.1 h
    exact hv _ (at_mem (hl k hk).1 (hl k hk).2)
  rwa [List.length_map] at this
end Go.Proofs.U
namespace Go.Proofs.U
open Go Go.AH Go.Proofs.T
set_option maxRecDepth 4000
set_option linter.unusedSimpArgs false
set_option linter.unusedVariables false
theorem c_add {H0 : Heap} {sid : Nat} (s : VT) (k : Int) (l : List VT) (hl : l.length ≤ 1000) (hs : inV 1125899906842624 s) (hv : ∀ v ∈ l, inV 1125899906842624 (scaleV v k)) (hr : H0 sid = some (.row 0 [.int .i64 s.X, .int .i64 s.Y, .int .i64 s.Z])) : ACalls Try.prog 54 [.ptr sid 0 0, .int .i64 k, .sl l.length (l.flatMap eV)] H0 fun r H' => r = .tup [] ∧ Mono (hide H0 sid) H' ∧ H' sid = some (.row 0 [.int .i64 (addL s k l).X, .int .i64 (addL s k l).Y, .int .i64 (addL s k l).Z]) := by
 refine ACalls.of_body' (n := 26) rfl rfl rfl rfl ?_
 have m0 := hide_mono H0 sid
 refine Sr ?_
 refine V rfl rfl (C rfl (AOp.len (m := l.length) rfl rfl (.inr (.inl ⟨_, rfl⟩)) u_22 (V rfl rfl ?_)))
 refine bk_ ?_
 refine AWP.loop (fun q1 fq Hq => ∃ (i : Int), q1 = (((l.length : Int) : Int) - i).toNat ∧ fq 10 = .int .i64 i ∧ fq 0 = .ptr sid 0 0 ∧ fq 1 = .int .i64 k ∧ fq 8 = .sl l.length (l.flatMap eV) ∧ fq 9 = .int .i64 (l.length : Int) ∧ Hq sid = some (.row 0 ((eV (addL s k (l.take i.toNat))))) ∧ Mono (hide H0 sid) Hq ∧ (0 ≤ i) ∧ (i ≤ (l.length : Int)) ∧ (inV (1125899906842624 + 1125899906842624 * i) (addL s k (l.take i.toNat)))) (k := (((l.length : Int) : Int) - 0).toNat) ?_ ?_
 exact ⟨0, rfl, rfl, rfl, rfl, rfl, rfl, (hr.trans (congrArg (fun x : VT => some (AB.row 0 (eV x))) (by first | exact addL_step hi0 (by omega) | rfl))), m0, by omega, by omega, by exact inV_le hs (by omega)⟩
 rintro _ f3 H2 ⟨i, rfl, s4, s5, s6, s7, s8, h9, m10, hi0, hi1, hin⟩
 refine Sr ?_
 refine B rfl s4 s8 rfl ?_
 refine AWP.seq ?_
 by_cases b11 : i < (l.length : Int)
 refine ct_ rfl (decide_eq_true b11) ?_
 refine AWP.skip ?_
 refine AWP.seq ?_
 refine bk_ ?_
 refine Sr ?_
 refine C rfl (iS_ rfl s7 s4 sl_22 (by omega) (by omega) (L rfl rfl ty_42 (ldM eV_len (by omega) (by omega)) (C rfl (al_ rfl tz_42 ?_))))
 intro i12 H13 n14 h15 k16
 have e17 := ne_new h9 n14
 have z18 := Mono.free m10 n14
 have h19 := keep k16 (ne_new h9 n14) h9
 have m20 := Mono.new m10 n14 k16
 refine C rfl (Sw rfl rfl ts_42 h15 rfl rfl rfl ?_)
 intro H21 h22 k23
 have h24 := keep k23 e17 h19
 have m26 := Mono.set m20 z18 k23
 refine fz_ 7 h22 z18 rfl m26 fun H27 m28 k29 => ?_
 have h30 := (k29 _ e17).trans h24
 refine AWP.region_quiet mixed (by kernel_rfl) 11 [11] rfl (by kernel_rfl) (Mono H27) (Mono.refl _) ?_
 refine QV rfl s5 (QV rfl s5 (Q rfl (fun _ _ φ ψ => nc_ (.ptr sid 0 0) rfl (φ 15 rfl) rfl ⟨rfl, ψ⟩) (Q rfl (fun _ _ φ ψ => Fa rfl (φ 16 rfl) fl_108_0 ⟨rfl, ψ⟩ (hid := ⟨_, (ψ _ _ h30)⟩)) (Q rfl (fun _ _ φ ψ => Ld _ rfl (φ 17 rfl) ty_42 (ψ _ _ h30) rfl ⟨rfl, ψ⟩) (QL rfl rfl ty_42 rfl (QV rfl s6 (Q rfl (fun _ _ φ ψ => Pc («as» := [.agg (eV (at_ l i)), .int .i64 k]) rfl rfl (lapp (lcons (φ 19 rfl) (lcons (φ 20 rfl) rfl)) rfl) tf_74 (c_vScale (at_ l i) k (inV_le (hv _ (at_mem hi0 (by omega))) (by omega))) fun H2 m2 => ⟨rfl, ψ.trans m2⟩) (Q rfl (fun _ _ φ ψ => Pc («as» := [.agg (eV (addL s k (l.take i.toNat))), .agg (eV (scaleV (at_ l i) k))]) rfl rfl (lapp (lcons (φ 18 rfl) (lcons (φ 21 rfl) rfl)) rfl) tf_73 (c_vAdd (addL s k (l.take i.toNat)) (scaleV (at_ l i) k) (inV_le hin (by omega)) (inV_le (hv _ (at_mem hi0 (by omega))) (by omega))) fun H2 m2 => ⟨rfl, ψ.trans m2⟩) (Q rfl (fun _ _ φ ψ => nc_ (.ptr sid 0 0) rfl (φ 14 rfl) rfl ⟨rfl, ψ⟩) (Q rfl (fun _ _ φ ψ => Fa rfl (φ 23 rfl) fl_108_0 ⟨rfl, ψ⟩ (hid := ⟨_, (ψ _ _ h30)⟩)) ?_))))))))))
 refine QE.done fun H31 m32 => ?_
 have h33 := m32 _ _ h30
 have m34 := m28.trans m32
 refine C rfl (Sw rfl rfl ts_42 h33 rfl rfl rfl ?_)
 intro H35 h36 k37
 have m39 := Mono.set m34 (hide_none H0 sid) k37
 refine AWP.region rfl ?_
 refine B rfl s4 rfl (iadd (by omega)) (V rfl rfl ?_)
 refine AOps.nil ?_
 exact ⟨_, by omega, i + 1, rfl, rfl, s5, s6, s7, s8, (h36.trans (congrArg (fun x : VT => some (AB.row 0 (eV x))) (by first | exact addL_step hi0 (by omega) | rfl))), m39, by omega, by omega, by exact inV_addL hi0 (by omega) hin hv⟩
 refine cf_ rfl (decide_eq_false b11) ?_
 refine AWP.exit ?_
 refine ⟨_, _, Ghost.refl, .inl rfl, _, Res.zero rfl, rfl, m10, ?_⟩
 rw [← addL_all (s := s) (k := k) (l := l) (i := i) (by omega)]; exact h9
theorem c_of {H0 : Heap} {sid : Nat} (s : VT) (d : Int) (hs : inV 2305843009213693952 s) (hd : 1 ≤ d ∧ d ≤ 2305843009213693952) (hr : H0 sid = some (.row 0 [.int .i64 s.X, .int .i64 s.Y, .int .i64 s.Z])) : ACalls Try.prog 55 [.ptr sid 0 0, .int .i64 d] H0 fun r H' => r = (.agg [.int .i64 ((ofV s d).X), .int .i64 ((ofV s d).Y), .int .i64 ((ofV s d).Z)]) ∧ Mono H0 H' := by
 simp only [inV] at hs
 refine ACalls.of_body' (n := 27) rfl rfl rfl rfl ?_
 have m0 := Mono.refl H0
 refine Sr ?_
 refine C rfl (al_ rfl tz_42 ?_)
 intro i1 H2 n3 h4 k5
 have z7 := Mono.free m0 n3
 have h8 := keep k5 (ne_new hr n3) hr
 have m9 := Mono.new m0 n3 k5
 refine AWP.seq ?_
 refine AWP.region_quiet mixed (by kernel_rfl) 22 [22] rfl (by kernel_rfl) (Mono H2) (Mono.refl _) ?_
 refine QV rfl rfl (Q rfl (fun _ _ φ ψ => nc_ (.ptr sid 0 0) rfl (φ 5 rfl) rfl ⟨rfl, ψ⟩) (Q rfl (fun _ _ φ ψ => Fa rfl (φ 6 rfl) fl_108_0 ⟨rfl, ψ⟩ (hid := ⟨_, (ψ _ _ h8)⟩)) (Q rfl (fun _ _ φ ψ => Fa rfl (φ 7 rfl) fl_42_0 ⟨rfl, ψ⟩ (hid := ⟨_, (ψ _ _ h8)⟩)) (Q rfl (fun _ _ φ ψ => Ld _ rfl (φ 8 rfl) ty_3 (ψ _ _ h8) rfl ⟨rfl, ψ⟩) (QV rfl rfl (Q rfl (fun _ _ φ ψ => Pc («as» := [.int .i64 s.X, .int .i64 d]) rfl rfl (lapp (lcons (φ 9 rfl) (lcons (φ 10 rfl) rfl)) rfl) tf_75 (c_vRound _ _ (by omega) (by omega)) fun H2 m2 => ⟨rfl, ψ.trans m2⟩) (QV rfl rfl (Q rfl (fun _ _ φ ψ => nc_ (.ptr sid 0 0) rfl (φ 12 rfl) rfl ⟨rfl, ψ⟩) (Q rfl (fun _ _ φ ψ => Fa rfl (φ 13 rfl) fl_108_0 ⟨rfl, ψ⟩ (hid := ⟨_, (ψ _ _ h8)⟩)) (Q rfl (fun _ _ φ ψ => Fa rfl (φ 14 rfl) fl_42_1 ⟨rfl, ψ⟩ (hid := ⟨_, (ψ _ _ h8)⟩)) (Q rfl (fun _ _ φ ψ => Ld _ rfl (φ 15 rfl) ty_3 (ψ _ _ h8) rfl ⟨rfl, ψ⟩) (QV rfl rfl (Q rfl (fun _ _ φ ψ => Pc («as» := [.int .i64 s.Y, .int .i64 d]) rfl rfl (lapp (lcons (φ 16 rfl) (lcons (φ 17 rfl) rfl)) rfl) tf_75 (c_vRound _ _ (by omega) (by omega)) fun H2 m2 => ⟨rfl, ψ.trans m2⟩) ?_)))))))))))))
 refine QV rfl rfl (Q rfl (fun _ _ φ ψ => nc_ (.ptr sid 0 0) rfl (φ 19 rfl) rfl ⟨rfl, ψ⟩) (Q rfl (fun _ _ φ ψ => Fa rfl (φ 20 rfl) fl_108_0 ⟨rfl, ψ⟩ (hid := ⟨_, (ψ _ _ h8)⟩)) (Q rfl (fun _ _ φ ψ => Fa rfl (φ 21 rfl) fl_42_2 ⟨rfl, ψ⟩ (hid := ⟨_, (ψ _ _ h8)⟩)) (Q rfl (fun _ _ φ ψ => Ld _ rfl (φ 22 rfl) ty_3 (ψ _ _ h8) rfl ⟨rfl, ψ⟩) (QV rfl rfl (Q rfl (fun _ _ φ ψ => Pc («as» := [.int .i64 s.Z, .int .i64 d]) rfl rfl (lapp (lcons (φ 23 rfl) (lcons (φ 24 rfl) rfl)) rfl) tf_75 (c_vRound _ _ (by omega) (by omega)) fun H2 m2 => ⟨rfl, ψ.trans m2⟩) (Q rfl (fun _ _ φ ψ => Bl (cells := [.int .i64 (roundZ s.X d), .int .i64 (roundZ s.Y d), .int .i64 (roundZ s.Z d)]) rfl tz_42 pl_42 (lconsP (φ 11 rfl) (lconsP (φ 18 rfl) (lconsP (φ 25 rfl) rfl))) rfl ⟨rfl, ψ⟩) ?_)))))))
 refine QE.done fun H10 m11 => ?_
 have h12 := m11 _ _ h8
 have h13 := m11 _ _ h4
 have m14 := m9.trans m11
 refine C rfl (Sw rfl rfl ts_42 h13 rfl rfl rfl ?_)
 intro H15 h16 k17
 have m20 := Mono.set m14 z7 k17
 refine rt_ ?_
 refine Rr (Res.list1 rfl (.cell (v := .agg [.int .i64 (roundZ s.X d), .int .i64 (roundZ s.Y d), .int .i64 (roundZ s.Z d)]) rfl ty_42 h16 rfl (.nil))) ?_ m20
 exact (congrArg AV.agg (lc (congrArg (AV.int .i64) (show (roundZ s.X d : Int) = (ofV s d).X from by rfl)) (lc (congrArg (AV.int .i64) (show (roundZ s.Y d : Int) = (ofV s d).Y from by rfl)) (lc (congrArg (AV.int .i64) (show (roundZ s.Z d : Int) = (ofV s d).Z from by rfl)) rfl))))
end Go.Proofs.U
namespace Go.Proofs.U
open Go Go.AH Go.Proofs.T
set_option maxRecDepth 4000
theorem one_in {x : VT} (h : inV 65536 x) : ∀ v ∈ [x], inV 1125899906842624 (scaleV v 1) := fun v hv => by
  rw [List.mem_singleton] at hv; subst hv; rw [scaleV_one]; exact inV_le h (by decide)
theorem two_in {x y : VT} (h : inV 65536 x) (g : inV 65536 y) : ∀ v ∈ [x, y], inV 1125899906842624 (scaleV v 1) := fun v hv => by
  simp only [List.mem_cons, List.not_mem_nil, or_false] at hv
  rcases hv with rfl | rfl
  · rw [scaleV_one]; exact inV_le h (by decide)
  · rw [scaleV_one]; exact inV_le g (by decide)
theorem one_inK {x : VT} {k : Int} (h : inV 65536 x) (hk : -1048576 ≤ k ∧ k ≤ 1048576) : ∀ v ∈ [x], inV 1125899906842624 (scaleV v k) := fun v hv => by
  rw [List.mem_singleton] at hv; subst hv; exact inV_le (inV_scale h hk) (by decide)
theorem sum_inS {vs : List VT} {l : List Int} {i : Int} (h0 : 0 ≤ i) (h1 : i < l.length) (h : inV (65536 * i) (sumL ((l.take i.toNat).map fun k => at_ vs k))) (hx : inV 65536 (at_ vs (at_ l i))) : inV (65536 * (i + 1)) (sumL ((l.take (i + 1).toNat).map fun k => at_ vs k)) := by
  rw [← sum_step h0 h1, addL_1]
  refine inV_le (inV_add h hx) ?_
  rw [Int.mul_add]; omega
def othV (vs : List VT) (e : Ed) (v : Int) : VT := at_ vs (e.A + e.B - v)
def faceP (vs : List VT) (f : List Int) : VT := ofV (sumL (f.map fun k => at_ vs k)) f.length
def edgeP (vs fc : List VT) (e : Ed) (s : Int) : VT := if s = 0 then ofV (addV (addV (addV (at_ vs e.A) (at_ vs e.B)) (at_ fc e.F)) (at_ fc e.G)) 4 else ofV (addV (at_ vs e.A) (at_ vs e.B)) 2
theorem edge_T {vs fc : List VT} {e : Ed} {s : Int} (h : s = 0) : edgeP vs fc e s = ofV (addL (addL (VT.mk 0 0 0) 1 [at_ vs e.A, at_ vs e.B]) 1 [at_ fc e.F, at_ fc e.G]) 4 := by
  unfold edgeP; rw [if_pos h, addL_two, addL_two, show (VT.mk 0 0 0) = zV from rfl, zero_addV]
theorem edge_F {vs fc : List VT} {e : Ed} {s : Int} (h : ¬ s = 0) : edgeP vs fc e s = ofV (addL (VT.mk 0 0 0) 1 [at_ vs e.A, at_ vs e.B]) 2 := by
  unfold edgeP; rw [if_neg h, addL_two, show (VT.mk 0 0 0) = zV from rfl, zero_addV]
theorem z_in {m : Int} (h : 0 ≤ m) : inV m (VT.mk 0 0 0) := inV_zero h
theorem two_sum {s x y : VT} {c : Int} (hs : inV c s) (h : inV 65536 x) (g : inV 65536 y) : inV (c + 131072) (addL s 1 [x, y]) := by
  rw [addL_two]; exact inV_le (inV_add (inV_add hs h) g) (by omega)
end Go.Proofs.U
namespace Go.Proofs.U
open Go Go.AH Go.Proofs.T
set_option maxRecDepth 4000
set_option linter.unusedSimpArgs false
set_option linter.unusedVariables false
theorem c_other {H0 : Heap} {fid : Nat} (vs : List VT) (fs : List (List Int)) (cr : List CrT) (t : Tp) (sh : List Int) {x7 x8 : AV} (i v : Int) (hi : 0 ≤ i ∧ i < t.ed.length) (hA : 0 ≤ (at_ t.ed i).A ∧ (at_ t.ed i).A < vs.length) (hB : 0 ≤ (at_ t.ed i).B ∧ (at_ t.ed i).B < vs.length) (hw : v = (at_ t.ed i).A ∨ v = (at_ t.ed i).B) (hvl : vs.length ≤ 1048576) (hr : H0 fid = some (.row 0 [.sl vs.length (vs.flatMap eV), .sl fs.length (fs.map eF), .sl cr.length (cr.flatMap eCr), .sl t.ed.length (t.ed.flatMap eE), .sl t.fan.length (t.fan.map eF), .sl t.rnd.length (t.rnd.map eBo), .sl sh.length (sh.map eI), x7, x8])) : ACalls Try.prog 56 [.ptr fid 0 0, .int .i64 i, .int .i64 v] H0 fun r H' => r = (.agg [.int .i64 ((othV vs (at_ t.ed i) v).X), .int .i64 ((othV vs (at_ t.ed i) v).Y), .int .i64 ((othV vs (at_ t.ed i) v).Z)]) ∧ Mono H0 H' := by
 refine ACalls.of_body' (n := 30) rfl rfl rfl rfl ?_
 have m0 := Mono.refl H0
 refine AWP.seq (AWP.region rfl ?_)
 refine AOps.cons rfl rfl (AOp.alloc rfl tz_42 ?_)
 intro i1 H2 n3 h4 k5
 have z7 := Mono.free m0 n3
 have h8 := keep k5 (ne_new hr n3) hr
 have m9 := Mono.new m0 n3 k5
 refine AWP.seq (AWP.region rfl ?_)
 refine AOps.cons rfl rfl (AOp.move _ rfl rfl (AOps.cons rfl rfl (AOp.nilCheck (.ptr fid 0 0) rfl rfl rfl ?_)))
 refine AOps.cons rfl rfl (AOp.fieldAddr rfl rfl fl_79_1 ?_ (hid := ⟨_, h8⟩))
 refine AOps.cons rfl rfl (AOp.fieldAddr rfl rfl fl_35_0 ?_ (hid := ⟨_, h8⟩))
 refine AOps.cons rfl rfl (AOp.load _ rfl rfl ty_32 h8 rfl (AOps.cons rfl rfl (AOp.move _ rfl rfl (AOps.cons rfl rfl (AOp.indexAddrS rfl rfl rfl sl_32 (by omega) (by omega) (AOps.cons rfl rfl (AOp.loadF _ rfl rfl ty_47 (ldM eE_len (by omega) (by omega)) (AOps.cons rfl rfl (AOp.alloc rfl tz_47 ?_)))))))))
 intro i10 H11 n12 h13 k14
 have e15 := ne_new h8 n12
 have e16 := ne_new h4 n12
 have z17 := Mono.free m9 n12
 have h18 := keep k14 (ne_new h8 n12) h8
 have h19 := keep k14 (ne_new h4 n12) h4
 have m20 := Mono.new m9 n12 k14
 refine AOps.cons rfl rfl (AOp.store' (cells' := [.int .i64 ((at_ t.ed i).A), .int .i64 ((at_ t.ed i).B), .int .i64 ((at_ t.ed i).F), .int .i64 ((at_ t.ed i).G)]) (.agg [.int .i64 ((at_ t.ed i).A), .int .i64 ((at_ t.ed i).B), .int .i64 ((at_ t.ed i).F), .int .i64 ((at_ t.ed i).G)]) rfl rfl ts_47 h13 rfl rfl rfl rfl ?_)
 intro H21 h22 k23
 have h24 := keep k23 e15 h18
 have h25 := keep k23 e16 h19
 have m27 := Mono.set m20 z17 k23
 refine AWP.seq ?_
 refine AWP.frzP 7 h22 z17 rfl m27 fun H28 m29 k30 => ?_
 have h31 := (k30 _ e15).trans h24
 have h32 := (k30 _ e16).trans h25
 refine AWP.region_quiet mixed (by kernel_rfl) 14 [14] rfl (by kernel_rfl) (Mono H28) (Mono.refl _) ?_
 refine QE.op rfl rfl (.inl ⟨rfl, fun f' H' hf hM => AOp.move _ rfl ((hf 0 rfl).trans rfl) ⟨rfl, hM⟩⟩) ?_
 refine QE.op rfl rfl (.inl ⟨rfl, fun f' H' hf hM => AOp.nilCheck (.ptr fid 0 0) rfl ((hf 16 rfl).trans rfl) rfl ⟨rfl, hM⟩⟩) ?_
 refine QE.op rfl rfl (.inl ⟨rfl, fun f' H' hf hM => AOp.fieldAddr rfl ((hf 17 rfl).trans rfl) fl_79_0 ⟨rfl, hM⟩ (hid := ⟨_, (hM _ _ h31)⟩)⟩) ?_
 refine QE.op rfl rfl (.inl ⟨rfl, fun f' H' hf hM => AOp.fieldAddr rfl ((hf 18 rfl).trans rfl) fl_26_0 ⟨rfl, hM⟩ (hid := ⟨_, (hM _ _ h31)⟩)⟩) ?_
 refine QE.op rfl rfl (.inl ⟨rfl, fun f' H' hf hM => AOp.load _ rfl ((hf 19 rfl).trans rfl) ty_22 (hM _ _ h31) rfl ⟨rfl, hM⟩⟩) ?_
 refine QE.op rfl rfl (.inl ⟨rfl, fun f' H' hf hM => AOp.fieldAddrF rfl ((hf 7 rfl).trans rfl) fl_47_0 ⟨rfl, hM⟩⟩) ?_
 refine QE.op rfl rfl (.inl ⟨rfl, fun f' H' hf hM => AOp.loadF _ rfl ((hf 21 rfl).trans rfl) ty_3 rfl ⟨rfl, hM⟩⟩) ?_
 refine QE.op rfl rfl (.inl ⟨rfl, fun f' H' hf hM => AOp.fieldAddrF rfl ((hf 7 rfl).trans rfl) fl_47_1 ⟨rfl, hM⟩⟩) ?_
 refine QE.op rfl rfl (.inl ⟨rfl, fun f' H' hf hM => AOp.loadF _ rfl ((hf 23 rfl).trans rfl) ty_3 rfl ⟨rfl, hM⟩⟩) ?_
 refine QE.op rfl rfl (.inl ⟨rfl, fun f' H' hf hM => AOp.bin _ rfl ((hf 22 rfl).trans rfl) ((hf 24 rfl).trans rfl) (iadd (by omega)) ⟨rfl, hM⟩⟩) ?_
 refine QE.op rfl rfl (.inl ⟨rfl, fun f' H' hf hM => AOp.move _ rfl ((hf 2 rfl).trans rfl) ⟨rfl, hM⟩⟩) ?_
 refine QE.op rfl rfl (.inl ⟨rfl, fun f' H' hf hM => AOp.bin _ rfl ((hf 25 rfl).trans rfl) ((hf 26 rfl).trans rfl) (isub (by omega)) ⟨rfl, hM⟩⟩) ?_
 refine QE.op rfl rfl (.inl ⟨rfl, fun f' H' hf hM => AOp.indexAddrS rfl ((hf 20 rfl).trans rfl) ((hf 27 rfl).trans rfl) sl_22 (by omega) (by omega) ⟨rfl, hM⟩⟩) ?_
 refine QE.op rfl rfl (.inl ⟨rfl, fun f' H' hf hM => AOp.loadF _ rfl ((hf 28 rfl).trans rfl) ty_42 (ldM eV_len (by omega) (by omega)) ⟨rfl, hM⟩⟩) ?_
 refine QE.done fun H33 m34 => ?_
 have h35 := m34 _ _ h31
 have h36 := m34 _ _ h32
 have m37 := m29.trans m34
 refine AOps.cons rfl rfl (AOp.store' (cells' := (eV (at_ vs ((at_ t.ed i).A + ((at_ t.ed i).B) - v)))) (.agg (eV (at_ vs ((at_ t.ed i).A + ((at_ t.ed i).B) - v)))) rfl rfl ts_42 h36 rfl rfl rfl rfl ?_)
 intro H38 h39 k40
 have m43 := Mono.set m37 z7 k40
 refine AWP.ret ?_
 refine ⟨_, _, Ghost.refl, .inr rfl, _, Res.list1 rfl (.cell (v := .agg (eV (at_ vs ((at_ t.ed i).A + ((at_ t.ed i).B) - v)))) rfl ty_42 h39 rfl (.nil)), ?_, m43⟩
 exact (congrArg (fun x : VT => AV.agg (eV x)) (show (at_ vs ((at_ t.ed i).A + ((at_ t.ed i).B) - v) : VT) = othV vs (at_ t.ed i) v from by rfl))
theorem c_face {H0 : Heap} {fid : Nat} (vs : List VT) (fs : List (List Int)) (cr : List CrT) (t : Tp) (sh : List Int) {x7 x8 : AV} (f : List Int) (hf : ∀ k ∈ f, 0 ≤ k ∧ k < (vs.length : Int)) (hfl : 1 ≤ f.length ∧ f.length ≤ 100000) (hvl : vs.length ≤ 1048576) (hv : ∀ v ∈ vs, inV 65536 v)  (hr : H0 fid = some (.row 0 [.sl vs.length (vs.flatMap eV), .sl fs.length (fs.map eF), .sl cr.length (cr.flatMap eCr), .sl t.ed.length (t.ed.flatMap eE), .sl t.fan.length (t.fan.map eF), .sl t.rnd.length (t.rnd.map eBo), .sl sh.length (sh.map eI), x7, x8])) : ACalls Try.prog 35 [.ptr fid 0 0, .sl f.length (f.map eI)] H0 fun r H' => r = (.agg [.int .i64 ((faceP vs f).X), .int .i64 ((faceP vs f).Y), .int .i64 ((faceP vs f).Z)]) ∧ Mono H0 H' := by
 refine ACalls.of_body' (n := 28) rfl rfl rfl rfl ?_
 have m0 := Mono.refl H0
 refine AWP.seq (AWP.region rfl ?_)
 refine AOps.cons rfl rfl (AOp.alloc rfl tz_42 ?_)
 intro i1 H2 n3 h4 k5
 have z7 := Mono.free m0 n3
 have h8 := keep k5 (ne_new hr n3) hr
 have m9 := Mono.new m0 n3 k5
 refine AWP.seq (AWP.region rfl ?_)
 refine AOps.cons rfl rfl (AOp.alloc rfl tz_108 ?_)
 intro i10 H11 n12 h13 k14
 have e15 := ne_new h8 n12
 have e16 := ne_new h4 n12
 have z17 := Mono.free m9 n12
 have h18 := keep k14 (ne_new h8 n12) h8
 have h19 := keep k14 (ne_new h4 n12) h4
 have m20 := Mono.new m9 n12 k14
 refine AWP.seq ?_
 refine AWP.seq (AWP.region rfl ?_)
 refine AOps.cons rfl rfl (AOp.move _ rfl rfl (AOps.cons rfl rfl (AOp.len (m := f.length) rfl rfl (.inr (.inl ⟨_, rfl⟩)) u_38 (AOps.cons rfl rfl (AOp.move _ rfl rfl ?_)))))
 refine AWP.block ?_
 refine AWP.loop (fun q21 fq Hq => ∃ (i : Int), q21 = (((f.length : Int) : Int) - i).toNat ∧ fq 10 = .int .i64 i ∧ fq 0 = .ptr fid 0 0 ∧ fq 1 = .sl f.length (f.map eI) ∧ fq 4 = .ptr i1 0 0 ∧ fq 5 = .ptr i10 0 0 ∧ fq 8 = .sl f.length (f.map eI) ∧ fq 9 = .int .i64 (f.length : Int) ∧ Hq fid = some (.row 0 ([.sl vs.length (vs.flatMap eV), .sl fs.length (fs.map eF), .sl cr.length (cr.flatMap eCr), .sl t.ed.length (t.ed.flatMap eE), .sl t.fan.length (t.fan.map eF), .sl t.rnd.length (t.rnd.map eBo), .sl sh.length (sh.map eI), x7, x8])) ∧ Hq i1 = some (.row 0 ([.int .i64 0, .int .i64 0, .int .i64 0])) ∧ Hq i10 = some (.row 0 ((eV (sumL ((f.take i.toNat).map fun k => at_ vs k))))) ∧ Mono H0 Hq ∧ (0 ≤ i) ∧ (i ≤ (f.length : Int)) ∧ (inV (65536 * i) (sumL ((f.take i.toNat).map fun k => at_ vs k)))) (k := (((f.length : Int) : Int) - 0).toNat) ?_ ?_
 exact ⟨0, rfl, rfl, rfl, rfl, rfl, rfl, rfl, rfl, h18, h19, (h13.trans (congrArg (fun c => some (AB.row 0 c)) (show ([.int .i64 0, .int .i64 0, .int .i64 0] : List AV) = (eV (sumL ((f.take (0 : Int).toNat).map fun k => at_ vs k))) from by first | rfl | (rw [sum_step hi0 (by omega)])))), m20, by omega, by omega, by exact z_in (by omega)⟩
 rintro _ f23 H22 ⟨i, rfl, s24, s25, s26, s27, s28, s29, s30, h31, h32, h33, m34, hi0, hi1, hin⟩
 refine AWP.seq (AWP.region rfl ?_)
 refine AOps.cons rfl rfl (AOp.bin _ rfl s24 s30 rfl ?_)
 refine AWP.seq ?_
 by_cases b35 : i < (f.length : Int)
 refine AWP.condT rfl (decide_eq_true b35) ?_
 refine AWP.skip ?_
 refine AWP.seq ?_
 refine AWP.block ?_
 refine AWP.seq (AWP.region rfl ?_)
 refine AOps.cons rfl rfl (AOp.indexAddrS rfl s29 s24 sl_38 (by omega) (by omega) (AOps.cons rfl rfl (AOp.loadF _ rfl rfl ty_3 (ld1 (by omega) (by omega)) (AOps.cons rfl rfl (AOp.assign _ rfl rfl ?_)))))
 refine AOps.nil ?_
 change AWP _ _ _ _ _ _
 have hk := hf _ (at_mem hi0 (by omega : i < f.length))
 have hvk := hv _ (at_mem hk.1 hk.2)
 refine AWP.region rfl ?_
 refine AOps.cons rfl rfl (AOp.move _ rfl s25 (AOps.cons rfl rfl (AOp.nilCheck (.ptr fid 0 0) rfl rfl rfl ?_)))
 refine AOps.cons rfl rfl (AOp.fieldAddr rfl rfl fl_79_0 ?_ (hid := ⟨_, h31⟩))
 refine AOps.cons rfl rfl (AOp.fieldAddr rfl rfl fl_26_0 ?_ (hid := ⟨_, h31⟩))
 refine AOps.cons rfl rfl (AOp.load _ rfl rfl ty_22 h31 rfl (AOps.cons rfl rfl (AOp.move _ rfl rfl (AOps.cons rfl rfl (AOp.indexAddrS rfl rfl rfl sl_22 (by omega) (by omega) (AOps.cons rfl rfl (AOp.loadF _ rfl rfl ty_42 (ldM eV_len (by omega) (by omega)) (AOps.cons rfl rfl (AOp.buildSlice (cells := (eV (at_ vs (at_ f i)))) rfl u_22 ts_42 tz_42 rfl rfl rfl ?_)))))))))
 intro i36 H37 n38 h39 k40
 have e41 := ne_new h31 n38
 have e42 := ne_new h32 n38
 have e43 := ne_new h33 n38
 have z44 := Mono.free m34 n38
 have h45 := keep k40 (ne_new h31 n38) h31
 have h46 := keep k40 (ne_new h32 n38) h32
 have h47 := keep k40 (ne_new h33 n38) h33
 have m48 := Mono.new m34 n38 k40
 obtain ⟨v49, e50⟩ : ∃ v : AV, v = .slm i36 0 3 0 1 := ⟨_, rfl⟩
 have o51 : Own H0 H37 3 v49 1 (eV (at_ vs (at_ f i))) := .inr ⟨_, _, e50, h39, z44, rfl⟩
 have no52 : NotId v49 fid := by rw [e50]; exact NotId.slm e41
 have no53 : NotId v49 i1 := by rw [e50]; exact NotId.slm e42
 have no54 : NotId v49 i10 := by rw [e50]; exact NotId.slm e43
 refine AOps.cons rfl rfl ?_
 refine AOp.frz 22 (o51) e50.symm m48 fun H55 m56 k57 => ?_
 have h58 := (k57 _ no52).trans h45
 have h59 := (k57 _ no53).trans h46
 have h60 := (k57 _ no54).trans h47
 refine AOp.xcall («as» := [.ptr i10 0 0, .int .i64 1, .sl ([(at_ vs (at_ f i))] : List VT).length (([(at_ vs (at_ f i))] : List VT).flatMap eV)]) rfl rfl (lapp (lcons s28 (lcons rfl (lcons rfl rfl))) rfl) tf_54 (c_add (sumL ((f.take i.toNat).map fun k => at_ vs k)) 1 ([(at_ vs (at_ f i))] : List VT) (by simp) (inV_le hin (by omega)) (one_in hvk) h60) ?_
 rintro _ H61 ⟨rfl, m62, h63⟩
 have h64 := m62 _ _ (hide_get e15 h58)
 have h65 := m62 _ _ (hide_get e16 h59)
 have m66 := Mono.hide_ m56 z17 m62
 refine AWP.region rfl ?_
 refine AOps.cons rfl rfl (AOp.bin _ rfl s24 rfl (iadd (by omega)) (AOps.cons rfl rfl (AOp.move _ rfl rfl ?_)))
 refine AOps.nil ?_
 exact ⟨_, by omega, i + 1, rfl, rfl, s25, s26, s27, s28, s29, s30, h64, h65, (h63.trans (congrArg (fun c => some (AB.row 0 c)) (show ((eV (addL (sumL ((f.take i.toNat).map fun k => at_ vs k)) 1 ([(at_ vs (at_ f i))] : List VT))) : List AV) = (eV (sumL ((f.take (i + 1).toNat).map fun k => at_ vs k))) from by first | rfl | (rw [sum_step hi0 (by omega)])))), m66, by omega, by omega, by exact sum_inS hi0 (by omega) hin hvk⟩
 refine AWP.condF rfl (decide_eq_false b35) ?_
 refine AWP.exit ?_
 change AWP _ _ _ _ _ _
 refine AWP.seq (AWP.region rfl ?_)
 refine AOps.cons rfl rfl (AOp.move _ rfl s26 (AOps.cons rfl rfl (AOp.len (m := f.length) rfl rfl (.inr (.inl ⟨_, rfl⟩)) u_38 (AOps.cons rfl rfl (AOp.pcallH («as» := [.ptr i10 0 0, .int .i64 (f.length : Int)]) rfl rfl (lapp (lcons s28 (lcons rfl rfl)) rfl) tf_55 (c_of (sumL ((f.take i.toNat).map fun k => at_ vs k)) (f.length : Int) (inV_le hin (by omega)) (by omega) h33) ?_)))))
 intro H67 m68
 have h69 := m68 _ _ h31
 have h70 := m68 _ _ h32
 have h71 := m68 _ _ h33
 have m72 := m34.trans m68
 refine AOps.cons rfl rfl (AOp.store' (cells' := (eV (ofV (sumL ((f.take i.toNat).map fun k => at_ vs k)) (f.length : Int)))) (.agg (eV (ofV (sumL ((f.take i.toNat).map fun k => at_ vs k)) (f.length : Int)))) s27 rfl ts_42 h70 rfl rfl rfl rfl ?_)
 intro H73 h74 k75
 have m79 := Mono.set m72 z7 k75
 refine AWP.ret ?_
 refine ⟨_, _, Ghost.refl, .inr rfl, _, Res.list1 rfl (.cell (v := .agg (eV (ofV (sumL ((f.take i.toNat).map fun k => at_ vs k)) (f.length : Int)))) s27 ty_42 h74 rfl (.nil)), ?_, m79⟩
 exact (congrArg (fun x : VT => AV.agg (eV x)) (show (ofV (sumL ((f.take i.toNat).map fun k => at_ vs k)) (f.length : Int) : VT) = faceP vs f from by unfold faceP; rw [take_all (by omega)]))
theorem c_edge {H0 : Heap} {fid : Nat} (vs : List VT) (fs : List (List Int)) (cr : List CrT) (t : Tp) (sh : List Int) {x7 : AV} (fc : List VT) (i : Int) (hi : 0 ≤ i ∧ i < t.ed.length) (hA : 0 ≤ (at_ t.ed i).A ∧ (at_ t.ed i).A < vs.length) (hB : 0 ≤ (at_ t.ed i).B ∧ (at_ t.ed i).B < vs.length) (hsl : sh.length = t.ed.length) (hFG : at_ sh i = 0 → (0 ≤ (at_ t.ed i).F ∧ (at_ t.ed i).F < fc.length) ∧ 0 ≤ (at_ t.ed i).G ∧ (at_ t.ed i).G < fc.length) (hfc : ∀ v ∈ fc, inV 65536 v) (hvl : vs.length ≤ 1048576) (hv : ∀ v ∈ vs, inV 65536 v)  (hr : H0 fid = some (.row 0 [.sl vs.length (vs.flatMap eV), .sl fs.length (fs.map eF), .sl cr.length (cr.flatMap eCr), .sl t.ed.length (t.ed.flatMap eE), .sl t.fan.length (t.fan.map eF), .sl t.rnd.length (t.rnd.map eBo), .sl sh.length (sh.map eI), x7, .sl fc.length (fc.flatMap eV)])) : ACalls Try.prog 37 [.ptr fid 0 0, .int .i64 i] H0 fun r H' => r = (.agg [.int .i64 ((edgeP vs fc (at_ t.ed i) (at_ sh i)).X), .int .i64 ((edgeP vs fc (at_ t.ed i) (at_ sh i)).Y), .int .i64 ((edgeP vs fc (at_ t.ed i) (at_ sh i)).Z)]) ∧ Mono H0 H' := by
 have hvA := hv _ (at_mem hA.1 hA.2)
 have hvB := hv _ (at_mem hB.1 hB.2)
 refine ACalls.of_body' (n := 63) rfl rfl rfl rfl ?_
 have m0 := Mono.refl H0
 refine AWP.seq (AWP.region rfl ?_)
 refine AOps.cons rfl rfl (AOp.alloc rfl tz_42 ?_)
 intro i1 H2 n3 h4 k5
 have z7 := Mono.free m0 n3
 have h8 := keep k5 (ne_new hr n3) hr
 have m9 := Mono.new m0 n3 k5
 refine AWP.seq (AWP.region rfl ?_)
 refine AOps.cons rfl rfl (AOp.move _ rfl rfl (AOps.cons rfl rfl (AOp.nilCheck (.ptr fid 0 0) rfl rfl rfl ?_)))
 refine AOps.cons rfl rfl (AOp.fieldAddr rfl rfl fl_79_1 ?_ (hid := ⟨_, h8⟩))
 refine AOps.cons rfl rfl (AOp.fieldAddr rfl rfl fl_35_0 ?_ (hid := ⟨_, h8⟩))
 refine AOps.cons rfl rfl (AOp.load _ rfl rfl ty_32 h8 rfl (AOps.cons rfl rfl (AOp.move _ rfl rfl (AOps.cons rfl rfl (AOp.indexAddrS rfl rfl rfl sl_32 (by omega) (by omega) (AOps.cons rfl rfl (AOp.loadF _ rfl rfl ty_47 (ldM eE_len (by omega) (by omega)) (AOps.cons rfl rfl (AOp.alloc rfl tz_47 ?_)))))))))
 intro i10 H11 n12 h13 k14
 have e15 := ne_new h8 n12
 have e16 := ne_new h4 n12
 have z17 := Mono.free m9 n12
 have h18 := keep k14 (ne_new h8 n12) h8
 have h19 := keep k14 (ne_new h4 n12) h4
 have m20 := Mono.new m9 n12 k14
 refine AOps.cons rfl rfl (AOp.store' (cells' := [.int .i64 ((at_ t.ed i).A), .int .i64 ((at_ t.ed i).B), .int .i64 ((at_ t.ed i).F), .int .i64 ((at_ t.ed i).G)]) (.agg [.int .i64 ((at_ t.ed i).A), .int .i64 ((at_ t.ed i).B), .int .i64 ((at_ t.ed i).F), .int .i64 ((at_ t.ed i).G)]) rfl rfl ts_47 h13 rfl rfl rfl rfl ?_)
 intro H21 h22 k23
 have h24 := keep k23 e15 h18
 have h25 := keep k23 e16 h19
 have m27 := Mono.set m20 z17 k23
 refine AWP.seq ?_
 refine AWP.frzP 5 h22 z17 rfl m27 fun H28 m29 k30 => ?_
 have h31 := (k30 _ e15).trans h24
 have h32 := (k30 _ e16).trans h25
 refine AWP.region rfl ?_
 refine AOps.cons rfl rfl (AOp.alloc rfl tz_108 ?_)
 intro i33 H34 n35 h36 k37
 have e38 := ne_new h31 n35
 have e39 := ne_new h32 n35
 have z40 := Mono.free m29 n35
 have h41 := keep k37 (ne_new h31 n35) h31
 have h42 := keep k37 (ne_new h32 n35) h32
 have m43 := Mono.new m29 n35 k37
 refine AWP.seq ?_
 refine AWP.region_quiet mixed (by kernel_rfl) 18 [18, 19] rfl (by kernel_rfl) (Mono H34) (Mono.refl _) ?_
 refine QE.op rfl rfl (.inl ⟨rfl, fun f' H' hf hM => AOp.move _ rfl ((hf 0 rfl).trans rfl) ⟨rfl, hM⟩⟩) ?_
 refine QE.op rfl rfl (.inl ⟨rfl, fun f' H' hf hM => AOp.nilCheck (.ptr fid 0 0) rfl ((hf 15 rfl).trans rfl) rfl ⟨rfl, hM⟩⟩) ?_
 refine QE.op rfl rfl (.inl ⟨rfl, fun f' H' hf hM => AOp.fieldAddr rfl ((hf 16 rfl).trans rfl) fl_79_0 ⟨rfl, hM⟩ (hid := ⟨_, (hM _ _ h41)⟩)⟩) ?_
 refine QE.op rfl rfl (.inl ⟨rfl, fun f' H' hf hM => AOp.fieldAddr rfl ((hf 17 rfl).trans rfl) fl_26_0 ⟨rfl, hM⟩ (hid := ⟨_, (hM _ _ h41)⟩)⟩) ?_
 refine QE.op rfl rfl (.inl ⟨rfl, fun f' H' hf hM => AOp.load _ rfl ((hf 18 rfl).trans rfl) ty_22 (hM _ _ h41) rfl ⟨rfl, hM⟩⟩) ?_
 refine QE.op rfl rfl (.inl ⟨rfl, fun f' H' hf hM => AOp.fieldAddrF rfl ((hf 5 rfl).trans rfl) fl_47_0 ⟨rfl, hM⟩⟩) ?_
 refine QE.op rfl rfl (.inl ⟨rfl, fun f' H' hf hM => AOp.loadF _ rfl ((hf 20 rfl).trans rfl) ty_3 rfl ⟨rfl, hM⟩⟩) ?_
 refine QE.op rfl rfl (.inl ⟨rfl, fun f' H' hf hM => AOp.indexAddrS rfl ((hf 19 rfl).trans rfl) ((hf 21 rfl).trans rfl) sl_22 (by omega) (by omega) ⟨rfl, hM⟩⟩) ?_
 refine QE.op rfl rfl (.inl ⟨rfl, fun f' H' hf hM => AOp.loadF _ rfl ((hf 22 rfl).trans rfl) ty_42 (ldM eV_len (by omega) (by omega)) ⟨rfl, hM⟩⟩) ?_
 refine QE.op rfl rfl (.inl ⟨rfl, fun f' H' hf hM => AOp.move _ rfl ((hf 0 rfl).trans rfl) ⟨rfl, hM⟩⟩) ?_
 refine QE.op rfl rfl (.inl ⟨rfl, fun f' H' hf hM => AOp.nilCheck (.ptr fid 0 0) rfl ((hf 24 rfl).trans rfl) rfl ⟨rfl, hM⟩⟩) ?_
 refine QE.op rfl rfl (.inl ⟨rfl, fun f' H' hf hM => AOp.fieldAddr rfl ((hf 25 rfl).trans rfl) fl_79_0 ⟨rfl, hM⟩ (hid := ⟨_, (hM _ _ h41)⟩)⟩) ?_
 refine QE.op rfl rfl (.inl ⟨rfl, fun f' H' hf hM => AOp.fieldAddr rfl ((hf 26 rfl).trans rfl) fl_26_0 ⟨rfl, hM⟩ (hid := ⟨_, (hM _ _ h41)⟩)⟩) ?_
 refine QE.op rfl rfl (.inl ⟨rfl, fun f' H' hf hM => AOp.load _ rfl ((hf 27 rfl).trans rfl) ty_22 (hM _ _ h41) rfl ⟨rfl, hM⟩⟩) ?_
 refine QE.op rfl rfl (.inl ⟨rfl, fun f' H' hf hM => AOp.fieldAddrF rfl ((hf 5 rfl).trans rfl) fl_47_1 ⟨rfl, hM⟩⟩) ?_
 refine QE.op rfl rfl (.inl ⟨rfl, fun f' H' hf hM => AOp.loadF _ rfl ((hf 29 rfl).trans rfl) ty_3 rfl ⟨rfl, hM⟩⟩) ?_
 refine QE.op rfl rfl (.inl ⟨rfl, fun f' H' hf hM => AOp.indexAddrS rfl ((hf 28 rfl).trans rfl) ((hf 30 rfl).trans rfl) sl_22 (by omega) (by omega) ⟨rfl, hM⟩⟩) ?_
 refine QE.op rfl rfl (.inl ⟨rfl, fun f' H' hf hM => AOp.loadF _ rfl ((hf 31 rfl).trans rfl) ty_42 (ldM eV_len (by omega) (by omega)) ⟨rfl, hM⟩⟩) ?_
 refine QE.done fun H44 m45 => ?_
 have h46 := m45 _ _ h41
 have h47 := m45 _ _ h42
 have h48 := m45 _ _ h36
 have m49 := m43.trans m45
 refine AOps.cons rfl rfl (AOp.buildSlice (cells := [.int .i64 ((at_ vs ((at_ t.ed i).A)).X), .int .i64 ((at_ vs ((at_ t.ed i).A)).Y), .int .i64 ((at_ vs ((at_ t.ed i).A)).Z), .int .i64 ((at_ vs ((at_ t.ed i).B)).X), .int .i64 ((at_ vs ((at_ t.ed i).B)).Y), .int .i64 ((at_ vs ((at_ t.ed i).B)).Z)]) rfl u_22 ts_42 tz_42 rfl rfl rfl ?_)
 intro i50 H51 n52 h53 k54
 have e55 := ne_new h46 n52
 have e56 := ne_new h47 n52
 have e57 := ne_new h48 n52
 have z58 := Mono.free m49 n52
 have h59 := keep k54 (ne_new h46 n52) h46
 have h60 := keep k54 (ne_new h47 n52) h47
 have h61 := keep k54 (ne_new h48 n52) h48
 have m62 := Mono.new m49 n52 k54
 obtain ⟨v63, e64⟩ : ∃ v : AV, v = .slm i50 0 3 0 2 := ⟨_, rfl⟩
 have o65 : Own H0 H51 3 v63 2 [.int .i64 ((at_ vs ((at_ t.ed i).A)).X), .int .i64 ((at_ vs ((at_ t.ed i).A)).Y), .int .i64 ((at_ vs ((at_ t.ed i).A)).Z), .int .i64 ((at_ vs ((at_ t.ed i).B)).X), .int .i64 ((at_ vs ((at_ t.ed i).B)).Y), .int .i64 ((at_ vs ((at_ t.ed i).B)).Z)] := .inr ⟨_, _, e64, h53, z58, rfl⟩
 have no66 : NotId v63 fid := by rw [e64]; exact NotId.slm e55
 have no67 : NotId v63 i1 := by rw [e64]; exact NotId.slm e56
 have no68 : NotId v63 i33 := by rw [e64]; exact NotId.slm e57
 refine AOps.cons rfl rfl ?_
 refine AOp.frz 33 (o65) e64.symm m62 fun H69 m70 k71 => ?_
 have h72 := (k71 _ no66).trans h59
 have h73 := (k71 _ no67).trans h60
 have h74 := (k71 _ no68).trans h61
 refine AOp.xcall («as» := [.ptr i33 0 0, .int .i64 1, .sl ([(at_ vs ((at_ t.ed i).A)), (at_ vs ((at_ t.ed i).B))] : List VT).length (([(at_ vs ((at_ t.ed i).A)), (at_ vs ((at_ t.ed i).B))] : List VT).flatMap eV)]) rfl rfl (rfl) tf_54 (c_add (VT.mk 0 0 0) 1 ([(at_ vs ((at_ t.ed i).A)), (at_ vs ((at_ t.ed i).B))] : List VT) (by simp) (z_in (by decide)) (two_in hvA hvB) h74) ?_
 rintro _ H75 ⟨rfl, m76, h77⟩
 have h78 := m76 _ _ (hide_get e38 h72)
 have h79 := m76 _ _ (hide_get e39 h73)
 have m80 := Mono.hide_ m70 z40 m76
 refine AWP.seq ?_
 refine AWP.seq (AWP.region rfl ?_)
 refine AOps.cons rfl rfl (AOp.move _ rfl rfl (AOps.cons rfl rfl (AOp.nilCheck (.ptr fid 0 0) rfl rfl rfl ?_)))
 refine AOps.cons rfl rfl (AOp.fieldAddr rfl rfl fl_79_2 ?_ (hid := ⟨_, h78⟩))
 refine AOps.cons rfl rfl (AOp.load _ rfl rfl ty_38 h78 rfl (AOps.cons rfl rfl (AOp.move _ rfl rfl (AOps.cons rfl rfl (AOp.indexAddrS rfl rfl rfl sl_38 (by omega) (by omega) (AOps.cons rfl rfl (AOp.loadF _ rfl rfl ty_3 (ld1 (by omega) (by omega)) (AOps.cons rfl rfl (AOp.bin _ rfl rfl rfl ine ?_)))))))))
 refine AOps.nil ?_
 change AWP _ _ _ _ _ _
 by_cases b81 : at_ sh i = 0
 refine AWP.condF rfl (nb (decide_eq_true b81)) ?_
 refine AWP.skip ?_
 refine AWP.seq ?_
 have hg := hFG b81
 have hvF := hfc _ (at_mem hg.1.1 hg.1.2)
 have hvG := hfc _ (at_mem hg.2.1 hg.2.2)
 have h2i := two_sum (z_in (m := 0) (by decide)) hvA hvB
 refine AWP.region_quiet mixed (by kernel_rfl) 16 [16, 17] rfl (by kernel_rfl) (Mono H75) (Mono.refl _) ?_
 refine QE.op rfl rfl (.inl ⟨rfl, fun f' H' hf hM => AOp.move _ rfl ((hf 0 rfl).trans rfl) ⟨rfl, hM⟩⟩) ?_
 refine QE.op rfl rfl (.inl ⟨rfl, fun f' H' hf hM => AOp.nilCheck (.ptr fid 0 0) rfl ((hf 44 rfl).trans rfl) rfl ⟨rfl, hM⟩⟩) ?_
 refine QE.op rfl rfl (.inl ⟨rfl, fun f' H' hf hM => AOp.fieldAddr rfl ((hf 45 rfl).trans rfl) fl_79_4 ⟨rfl, hM⟩ (hid := ⟨_, (hM _ _ h78)⟩)⟩) ?_
 refine QE.op rfl rfl (.inl ⟨rfl, fun f' H' hf hM => AOp.load _ rfl ((hf 46 rfl).trans rfl) ty_22 (hM _ _ h78) rfl ⟨rfl, hM⟩⟩) ?_
 refine QE.op rfl rfl (.inl ⟨rfl, fun f' H' hf hM => AOp.fieldAddrF rfl ((hf 5 rfl).trans rfl) fl_47_2 ⟨rfl, hM⟩⟩) ?_
 refine QE.op rfl rfl (.inl ⟨rfl, fun f' H' hf hM => AOp.loadF _ rfl ((hf 48 rfl).trans rfl) ty_3 rfl ⟨rfl, hM⟩⟩) ?_
 refine QE.op rfl rfl (.inl ⟨rfl, fun f' H' hf hM => AOp.indexAddrS rfl ((hf 47 rfl).trans rfl) ((hf 49 rfl).trans rfl) sl_22 (by omega) (by omega) ⟨rfl, hM⟩⟩) ?_
 refine QE.op rfl rfl (.inl ⟨rfl, fun f' H' hf hM => AOp.loadF _ rfl ((hf 50 rfl).trans rfl) ty_42 (ldM eV_len (by omega) (by omega)) ⟨rfl, hM⟩⟩) ?_
 refine QE.op rfl rfl (.inl ⟨rfl, fun f' H' hf hM => AOp.move _ rfl ((hf 0 rfl).trans rfl) ⟨rfl, hM⟩⟩) ?_
 refine QE.op rfl rfl (.inl ⟨rfl, fun f' H' hf hM => AOp.nilCheck (.ptr fid 0 0) rfl ((hf 52 rfl).trans rfl) rfl ⟨rfl, hM⟩⟩) ?_
 refine QE.op rfl rfl (.inl ⟨rfl, fun f' H' hf hM => AOp.fieldAddr rfl ((hf 53 rfl).trans rfl) fl_79_4 ⟨rfl, hM⟩ (hid := ⟨_, (hM _ _ h78)⟩)⟩) ?_
 refine QE.op rfl rfl (.inl ⟨rfl, fun f' H' hf hM => AOp.load _ rfl ((hf 54 rfl).trans rfl) ty_22 (hM _ _ h78) rfl ⟨rfl, hM⟩⟩) ?_
 refine QE.op rfl rfl (.inl ⟨rfl, fun f' H' hf hM => AOp.fieldAddrF rfl ((hf 5 rfl).trans rfl) fl_47_3 ⟨rfl, hM⟩⟩) ?_
 refine QE.op rfl rfl (.inl ⟨rfl, fun f' H' hf hM => AOp.loadF _ rfl ((hf 56 rfl).trans rfl) ty_3 rfl ⟨rfl, hM⟩⟩) ?_
 refine QE.op rfl rfl (.inl ⟨rfl, fun f' H' hf hM => AOp.indexAddrS rfl ((hf 55 rfl).trans rfl) ((hf 57 rfl).trans rfl) sl_22 (by omega) (by omega) ⟨rfl, hM⟩⟩) ?_
 refine QE.op rfl rfl (.inl ⟨rfl, fun f' H' hf hM => AOp.loadF _ rfl ((hf 58 rfl).trans rfl) ty_42 (ldM eV_len (by omega) (by omega)) ⟨rfl, hM⟩⟩) ?_
 refine QE.done fun H82 m83 => ?_
 have h84 := m83 _ _ h78
 have h85 := m83 _ _ h79
 have h86 := m83 _ _ h77
 have m87 := m80.trans m83
 refine AOps.cons rfl rfl (AOp.buildSlice (cells := [.int .i64 ((at_ fc ((at_ t.ed i).F)).X), .int .i64 ((at_ fc ((at_ t.ed i).F)).Y), .int .i64 ((at_ fc ((at_ t.ed i).F)).Z), .int .i64 ((at_ fc ((at_ t.ed i).G)).X), .int .i64 ((at_ fc ((at_ t.ed i).G)).Y), .int .i64 ((at_ fc ((at_ t.ed i).G)).Z)]) rfl u_22 ts_42 tz_42 rfl rfl rfl ?_)
 intro i88 H89 n90 h91 k92
 have e93 := ne_new h84 n90
 have e94 := ne_new h85 n90
 have e95 := ne_new h86 n90
 have z96 := Mono.free m87 n90
 have h97 := keep k92 (ne_new h84 n90) h84
 have h98 := keep k92 (ne_new h85 n90) h85
 have h99 := keep k92 (ne_new h86 n90) h86
 have m100 := Mono.new m87 n90 k92
 obtain ⟨v101, e102⟩ : ∃ v : AV, v = .slm i88 0 3 0 2 := ⟨_, rfl⟩
 have o103 : Own H0 H89 3 v101 2 [.int .i64 ((at_ fc ((at_ t.ed i).F)).X), .int .i64 ((at_ fc ((at_ t.ed i).F)).Y), .int .i64 ((at_ fc ((at_ t.ed i).F)).Z), .int .i64 ((at_ fc ((at_ t.ed i).G)).X), .int .i64 ((at_ fc ((at_ t.ed i).G)).Y), .int .i64 ((at_ fc ((at_ t.ed i).G)).Z)] := .inr ⟨_, _, e102, h91, z96, rfl⟩
 have no104 : NotId v101 fid := by rw [e102]; exact NotId.slm e93
 have no105 : NotId v101 i1 := by rw [e102]; exact NotId.slm e94
 have no106 : NotId v101 i33 := by rw [e102]; exact NotId.slm e95
 refine AOps.cons rfl rfl ?_
 refine AOp.frz 60 (o103) e102.symm m100 fun H107 m108 k109 => ?_
 have h110 := (k109 _ no104).trans h97
 have h111 := (k109 _ no105).trans h98
 have h112 := (k109 _ no106).trans h99
 refine AOp.xcall («as» := [.ptr i33 0 0, .int .i64 1, .sl ([(at_ fc ((at_ t.ed i).F)), (at_ fc ((at_ t.ed i).G))] : List VT).length (([(at_ fc ((at_ t.ed i).F)), (at_ fc ((at_ t.ed i).G))] : List VT).flatMap eV)]) rfl rfl (rfl) tf_54 (c_add (addL (VT.mk 0 0 0) 1 ([(at_ vs ((at_ t.ed i).A)), (at_ vs ((at_ t.ed i).B))] : List VT)) 1 ([(at_ fc ((at_ t.ed i).F)), (at_ fc ((at_ t.ed i).G))] : List VT) (by simp) (inV_le h2i (by decide)) (two_in hvF hvG) h112) ?_
 rintro _ H113 ⟨rfl, m114, h115⟩
 have h116 := m114 _ _ (hide_get e38 h110)
 have h117 := m114 _ _ (hide_get e39 h111)
 have m118 := Mono.hide_ m108 z40 m114
 refine AWP.seq (AWP.region rfl ?_)
 refine AOps.cons rfl rfl (AOp.pcallH («as» := [.ptr i33 0 0, .int .i64 4]) rfl rfl (rfl) tf_55 (c_of (addL (addL (VT.mk 0 0 0) 1 ([(at_ vs ((at_ t.ed i).A)), (at_ vs ((at_ t.ed i).B))] : List VT)) 1 ([(at_ fc ((at_ t.ed i).F)), (at_ fc ((at_ t.ed i).G))] : List VT)) 4 (inV_le (two_sum h2i hvF hvG) (by decide)) (by decide) h115) ?_)
 intro H119 m120
 have h121 := m120 _ _ h116
 have h122 := m120 _ _ h117
 have h123 := m120 _ _ h115
 have m124 := m118.trans m120
 refine AOps.cons rfl rfl (AOp.store' (cells' := (eV (ofV (addL (addL (VT.mk 0 0 0) 1 ([(at_ vs ((at_ t.ed i).A)), (at_ vs ((at_ t.ed i).B))] : List VT)) 1 ([(at_ fc ((at_ t.ed i).F)), (at_ fc ((at_ t.ed i).G))] : List VT)) 4))) (.agg (eV (ofV (addL (addL (VT.mk 0 0 0) 1 ([(at_ vs ((at_ t.ed i).A)), (at_ vs ((at_ t.ed i).B))] : List VT)) 1 ([(at_ fc ((at_ t.ed i).F)), (at_ fc ((at_ t.ed i).G))] : List VT)) 4))) rfl rfl ts_42 h122 rfl rfl rfl rfl ?_)
 intro H125 h126 k127
 have m131 := Mono.set m124 z7 k127
 refine AWP.ret ?_
 refine ⟨_, _, Ghost.refl, .inr rfl, _, Res.list1 rfl (.cell (v := .agg (eV (ofV (addL (addL (VT.mk 0 0 0) 1 ([(at_ vs ((at_ t.ed i).A)), (at_ vs ((at_ t.ed i).B))] : List VT)) 1 ([(at_ fc ((at_ t.ed i).F)), (at_ fc ((at_ t.ed i).G))] : List VT)) 4))) rfl ty_42 h126 rfl (.nil)), ?_, m131⟩
 exact (congrArg (fun x : VT => AV.agg (eV x)) (show (ofV (addL (addL (VT.mk 0 0 0) 1 ([(at_ vs ((at_ t.ed i).A)), (at_ vs ((at_ t.ed i).B))] : List VT)) 1 ([(at_ fc ((at_ t.ed i).F)), (at_ fc ((at_ t.ed i).G))] : List VT)) 4 : VT) = edgeP vs fc (at_ t.ed i) (at_ sh i) from by rw [edge_T b81]))
 refine AWP.condT rfl (nb (decide_eq_false b81)) ?_
 refine AWP.seq (AWP.region rfl ?_)
 refine AOps.cons rfl rfl (AOp.pcallH («as» := [.ptr i33 0 0, .int .i64 2]) rfl rfl (rfl) tf_55 (c_of (addL (VT.mk 0 0 0) 1 ([(at_ vs ((at_ t.ed i).A)), (at_ vs ((at_ t.ed i).B))] : List VT)) 2 (inV_le (two_sum (z_in (m := 0) (by decide)) hvA hvB) (by decide)) (by decide) h77) ?_)
 intro H132 m133
 have h134 := m133 _ _ h78
 have h135 := m133 _ _ h79
 have h136 := m133 _ _ h77
 have m137 := m80.trans m133
 refine AOps.cons rfl rfl (AOp.store' (cells' := (eV (ofV (addL (VT.mk 0 0 0) 1 ([(at_ vs ((at_ t.ed i).A)), (at_ vs ((at_ t.ed i).B))] : List VT)) 2))) (.agg (eV (ofV (addL (VT.mk 0 0 0) 1 ([(at_ vs ((at_ t.ed i).A)), (at_ vs ((at_ t.ed i).B))] : List VT)) 2))) rfl rfl ts_42 h135 rfl rfl rfl rfl ?_)
 intro H138 h139 k140
 have m144 := Mono.set m137 z7 k140
 refine AWP.ret ?_
 refine ⟨_, _, Ghost.refl, .inr rfl, _, Res.list1 rfl (.cell (v := .agg (eV (ofV (addL (VT.mk 0 0 0) 1 ([(at_ vs ((at_ t.ed i).A)), (at_ vs ((at_ t.ed i).B))] : List VT)) 2))) rfl ty_42 h139 rfl (.nil)), ?_, m144⟩
 exact (congrArg (fun x : VT => AV.agg (eV x)) (show (ofV (addL (VT.mk 0 0 0) 1 ([(at_ vs ((at_ t.ed i).A)), (at_ vs ((at_ t.ed i).B))] : List VT)) 2 : VT) = edgeP vs fc (at_ t.ed i) (at_ sh i) from by rw [edge_F b81]))
end Go.Proofs.U
namespace Go.Proofs.U
open Go Go.AH Go.Proofs.T
set_option maxRecDepth 4000
def othL (vs : List VT) (ed : List Ed) (v : Int) (es : List Int) : VT := sumL (es.map fun e => othV vs (at_ ed e) v)
def hardF (sh : List Int) (es : List Int) : List Int := es.filter fun e => decide (¬ at_ sh e = 0)
theorem othL_app (vs : List VT) (ed : List Ed) (v : Int) (a b : List Int) : othL vs ed v (a ++ b) = addV (othL vs ed v a) (othL vs ed v b) := by unfold othL; rw [List.map_append, sumL_app]
theorem othL_one (vs : List VT) (ed : List Ed) (v e : Int) : othL vs ed v [e] = othV vs (at_ ed e) v := by unfold othL; rw [List.map_singleton, sumL_one]
section
variable {vs : List VT} {ed : List Ed} {sh es : List Int} {v i : Int}
theorem oth_step (h0 : 0 ≤ i) (h1 : i < es.length) : addL (othL vs ed v (es.take i.toNat)) 1 [othV vs (at_ ed (at_ es i)) v] = othL vs ed v (es.take (i + 1).toNat) := by
  rw [addL_1, take_step h0 h1, othL_app, othL_one]
theorem hard_T (h0 : 0 ≤ i) (h1 : i < es.length) (h : ¬ at_ sh (at_ es i) = 0) : hardF sh (es.take (i + 1).toNat) = hardF sh (es.take i.toNat) ++ [at_ es i] := by
  rw [take_step h0 h1]; unfold hardF; rw [List.filter_append]; congr 1; simp [h]
theorem hard_F (h0 : 0 ≤ i) (h1 : i < es.length) (h : at_ sh (at_ es i) = 0) : hardF sh (es.take (i + 1).toNat) = hardF sh (es.take i.toNat) := by
  rw [take_step h0 h1]; unfold hardF; rw [List.filter_append]; simp [h]
theorem hoth_T (h0 : 0 ≤ i) (h1 : i < es.length) (h : ¬ at_ sh (at_ es i) = 0) : addL (othL vs ed v (hardF sh (es.take i.toNat))) 1 [othV vs (at_ ed (at_ es i)) v] = othL vs ed v (hardF sh (es.take (i + 1).toNat)) := by
  rw [hard_T h0 h1 h, addL_1, othL_app, othL_one]
theorem oth_in (h0 : 0 ≤ i) (h1 : i < es.length) (h : inV (65536 * i) (othL vs ed v (es.take i.toNat))) (hx : inV 65536 (othV vs (at_ ed (at_ es i)) v)) : inV (65536 * (i + 1)) (othL vs ed v (es.take (i + 1).toNat)) := by
  rw [← oth_step h0 h1, addL_1]; refine inV_le (inV_add h hx) ?_; rw [Int.mul_add]; omega
theorem hoth_inT (h0 : 0 ≤ i) (h1 : i < es.length) (g : ¬ at_ sh (at_ es i) = 0) (h : inV (65536 * i) (othL vs ed v (hardF sh (es.take i.toNat)))) (hx : inV 65536 (othV vs (at_ ed (at_ es i)) v)) : inV (65536 * (i + 1)) (othL vs ed v (hardF sh (es.take (i + 1).toNat))) := by
  rw [← hoth_T h0 h1 g, addL_1]; refine inV_le (inV_add h hx) ?_; rw [Int.mul_add]; omega
theorem hoth_inF (h0 : 0 ≤ i) (h1 : i < es.length) (g : at_ sh (at_ es i) = 0) (h : inV (65536 * i) (othL vs ed v (hardF sh (es.take i.toNat)))) : inV (65536 * (i + 1)) (othL vs ed v (hardF sh (es.take (i + 1).toNat))) := by
  rw [hard_F h0 h1 g]; exact inV_le h (by omega)
theorem hlen_T (h0 : 0 ≤ i) (h1 : i < es.length) (h : ¬ at_ sh (at_ es i) = 0) : ((hardF sh (es.take i.toNat)).length : Int) + 1 = ((hardF sh (es.take (i + 1).toNat)).length : Int) := by
  rw [hard_T h0 h1 h, List.length_append]; rfl
theorem hlen_F (h0 : 0 ≤ i) (h1 : i < es.length) (h : at_ sh (at_ es i) = 0) : ((hardF sh (es.take i.toNat)).length : Int) = ((hardF sh (es.take (i + 1).toNat)).length : Int) := by
  rw [hard_F h0 h1 h]
end
theorem hardF_le (sh es : List Int) : (hardF sh es).length ≤ es.length := List.length_filter_le _ _
theorem fan_step {s : VT} {vs : List VT} {l : List Int} {i : Int} (h0 : 0 ≤ i) (h1 : i < l.length) : addL (addV s (sumL ((l.take i.toNat).map fun k => at_ vs k))) 1 [at_ vs (at_ l i)] = addV s (sumL ((l.take (i + 1).toNat).map fun k => at_ vs k)) := by
  rw [← sum_step h0 h1, addL_1, addL_1, addV_assoc]
def vertP (vs fc : List VT) (ed : List Ed) (sh : List Int) (fan es : List Int) (v : Int) : VT :=
  if ((hardF sh es).length : Int) > 2 then at_ vs v
  else if ((hardF sh es).length : Int) = 2 then ofV (addV (othL vs ed v (hardF sh es)) (scaleV (at_ vs v) 6)) 8
  else ofV (addV (addV (othL vs ed v es) (scaleV (at_ vs v) ((fan.length : Int) * ((fan.length : Int) - 2)))) (sumL (fan.map fun k => at_ fc k))) ((fan.length : Int) * (fan.length : Int))
section
variable {vs fc : List VT} {ed : List Ed} {sh fan es : List Int} {v i : Int}
theorem vert_3 (ha : es.take i.toNat = es) (h : ((hardF sh (es.take i.toNat)).length : Int) > 2) : vertP vs fc ed sh fan es v = at_ vs v := by
  rw [ha] at h; unfold vertP; rw [if_pos h]
theorem vert_2 (ha : es.take i.toNat = es) (h : ¬ ((hardF sh (es.take i.toNat)).length : Int) > 2) (g : ((hardF sh (es.take i.toNat)).length : Int) = 2) : ofV (addL (othL vs ed v (hardF sh (es.take i.toNat))) 6 [at_ vs v]) 8 = vertP vs fc ed sh fan es v := by
  rw [ha] at h g ⊢; unfold vertP; rw [if_neg h, if_pos g]; rfl
theorem vert_0 {j : Int} (hj : (fan.length : Int) ≤ j) (ha : es.take i.toNat = es) (h : ¬ ((hardF sh (es.take i.toNat)).length : Int) > 2) (g : ¬ ((hardF sh (es.take i.toNat)).length : Int) = 2) : ofV (addV (addV (othL vs ed v es) (scaleV (at_ vs v) ((fan.length : Int) * ((fan.length : Int) - 2)))) (sumL ((fan.take j.toNat).map fun k => at_ fc k))) ((fan.length : Int) * (fan.length : Int)) = vertP vs fc ed sh fan es v := by
  rw [ha] at h g; unfold vertP; rw [if_neg h, if_neg g, take_all hj]
theorem fan_0 {k : Int} {x : VT} {l : List Int} (ha : es.take i.toNat = es) : addL (othL vs ed v (es.take i.toNat)) k [x] = addV (addV (othL vs ed v es) (scaleV x k)) (sumL ((l.take (0 : Int).toNat).map fun k => at_ fc k)) := by
  rw [ha, addL_one]; exact (addV_zero _).symm
end
theorem nn_rng {n : Int} (h : 1 ≤ n ∧ n ≤ 1000) : (-1048576 ≤ n * (n - 2) ∧ n * (n - 2) ≤ 1048576) ∧ 1 ≤ n * n ∧ n * n ≤ 1048576 := by
  have h1 := mul_rng (x := n) (k := n - 2) (a := 1000) (c := 1000) (by omega) (by omega)
  have h2 := mul_rng (x := n) (k := n) (a := 1000) (c := 1000) (by omega) (by omega)
  have h3 : 0 < n * n := Int.mul_pos (by omega) (by omega)
  omega
theorem inV_fan {s : VT} {C : Int} {vs : List VT} {l : List Int} {i : Int} (hs : inV C s) (h : inV (65536 * i) (sumL ((l.take i.toNat).map fun k => at_ vs k))) : inV (C + 65536 * i) (addV s (sumL ((l.take i.toNat).map fun k => at_ vs k))) := inV_add hs h
end Go.Proofs.U
namespace Go.Proofs.U
open Go Go.AH Go.Proofs.T
set_option maxRecDepth 4000
set_option linter.unusedSimpArgs false
set_option linter.unusedVariables false
set_option maxHeartbeats 2000000
theorem c_vertex {H0 : Heap} {fid : Nat} (vs : List VT) (fs : List (List Int)) (cr : List CrT) (t : Tp) (sh : List Int) (eg : List (List Int)) (fc : List VT) (v : Int) (hvr : 0 ≤ v ∧ v < vs.length) (hAB : ∀ e ∈ t.ed, (0 ≤ e.A ∧ e.A < (vs.length : Int)) ∧ 0 ≤ e.B ∧ e.B < (vs.length : Int)) (hel : t.ed.length ≤ 1048576) (hsl : sh.length = t.ed.length) (hgl : v < eg.length) (hgv : (at_ eg v).length ≤ 100000) (heg : ∀ e ∈ at_ eg v, (0 ≤ e ∧ e < (t.ed.length : Int)) ∧ (v = (at_ t.ed e).A ∨ v = (at_ t.ed e).B)) (hfl : v < t.fan.length) (hfn : 1 ≤ (at_ t.fan v).length ∧ (at_ t.fan v).length ≤ 1000) (hff : ∀ f ∈ at_ t.fan v, 0 ≤ f ∧ f < (fc.length : Int)) (hfc : ∀ v ∈ fc, inV 65536 v) (hvl : vs.length ≤ 1048576) (hv : ∀ v ∈ vs, inV 65536 v)  (hr : H0 fid = some (.row 0 [.sl vs.length (vs.flatMap eV), .sl fs.length (fs.map eF), .sl cr.length (cr.flatMap eCr), .sl t.ed.length (t.ed.flatMap eE), .sl t.fan.length (t.fan.map eF), .sl t.rnd.length (t.rnd.map eBo), .sl sh.length (sh.map eI), .sl eg.length (eg.map eF), .sl fc.length (fc.flatMap eV)])) : ACalls Try.prog 36 [.ptr fid 0 0, .int .i64 v] H0 fun r H' => r = (.agg [.int .i64 ((vertP vs fc t.ed sh (at_ t.fan v) (at_ eg v) v).X), .int .i64 ((vertP vs fc t.ed sh (at_ t.fan v) (at_ eg v) v).Y), .int .i64 ((vertP vs fc t.ed sh (at_ t.fan v) (at_ eg v) v).Z)]) ∧ Mono H0 H' := by
 have hvv := hv _ (at_mem hvr.1 hvr.2)
 have hnr := nn_rng (n := ((at_ t.fan v).length : Int)) (by omega)
 refine ACalls.of_body' (n := 123) rfl rfl rfl rfl ?_
 have m0 := Mono.refl H0
 refine Sr ?_
 refine C rfl (al_ rfl tz_42 ?_)
 intro i1 H2 n3 h4 k5
 have z7 := Mono.free m0 n3
 have h8 := keep k5 (ne_new hr n3) hr
 have m9 := Mono.new m0 n3 k5
 refine Sr ?_
 refine C rfl (al_ rfl tz_108 ?_)
 intro i10 H11 n12 h13 k14
 have e15 := ne_new h8 n12
 have e16 := ne_new h4 n12
 have z17 := Mono.free m9 n12
 have h18 := keep k14 (ne_new h8 n12) h8
 have h19 := keep k14 (ne_new h4 n12) h4
 have m20 := Mono.new m9 n12 k14
 refine C rfl (al_ rfl tz_108 ?_)
 intro i21 H22 n23 h24 k25
 have e26 := ne_new h18 n23
 have e27 := ne_new h19 n23
 have e28 := ne_new h13 n23
 have z29 := Mono.free m20 n23
 have h30 := keep k25 (ne_new h18 n23) h18
 have h31 := keep k25 (ne_new h19 n23) h19
 have h32 := keep k25 (ne_new h13 n23) h13
 have m33 := Mono.new m20 n23 k25
 refine Sr ?_
 refine A rfl rfl ?_
 refine AWP.seq ?_
 refine Sr ?_
 refine V rfl rfl (C rfl (nc_ (.ptr fid 0 0) rfl rfl rfl ?_))
 refine C rfl (Fa rfl rfl fl_79_3 ?_ (hid := ⟨_, h30⟩))
 refine C rfl (Ld _ rfl rfl ty_23 h30 rfl (V rfl rfl (C rfl (iS_ rfl rfl rfl sl_23 (by omega) (by omega) (L rfl rfl ty_38 (ld1 (by omega) (by omega)) (C rfl (AOp.len (m := (at_ eg v).length) rfl rfl (.inr (.inl ⟨_, rfl⟩)) u_38 (V rfl rfl ?_))))))))
 refine bk_ ?_
 refine AWP.loop (fun q34 fq Hq => ∃ (i : Int), q34 = ((((at_ eg v).length : Int) : Int) - i).toNat ∧ fq 21 = .int .i64 i ∧ fq 7 = .int .i64 ((hardF sh ((at_ eg v).take i.toNat)).length : Int) ∧ fq 0 = .ptr fid 0 0 ∧ fq 1 = .int .i64 v ∧ fq 4 = .ptr i1 0 0 ∧ fq 5 = .ptr i10 0 0 ∧ fq 6 = .ptr i21 0 0 ∧ fq 19 = .sl (at_ eg v).length ((at_ eg v).map eI) ∧ fq 20 = .int .i64 (((at_ eg v).length) : Int) ∧ Hq fid = some (.row 0 ([.sl vs.length (vs.flatMap eV), .sl fs.length (fs.map eF), .sl cr.length (cr.flatMap eCr), .sl t.ed.length (t.ed.flatMap eE), .sl t.fan.length (t.fan.map eF), .sl t.rnd.length (t.rnd.map eBo), .sl sh.length (sh.map eI), .sl eg.length (eg.map eF), .sl fc.length (fc.flatMap eV)])) ∧ Hq i1 = some (.row 0 ([.int .i64 0, .int .i64 0, .int .i64 0])) ∧ Hq i10 = some (.row 0 ((eV (othL vs t.ed v ((at_ eg v).take i.toNat))))) ∧ Hq i21 = some (.row 0 ((eV (othL vs t.ed v (hardF sh ((at_ eg v).take i.toNat)))))) ∧ Mono H0 Hq ∧ (0 ≤ i) ∧ (i ≤ ((at_ eg v).length : Int)) ∧ (inV (65536 * i) (othL vs t.ed v ((at_ eg v).take i.toNat))) ∧ (inV (65536 * i) (othL vs t.ed v (hardF sh ((at_ eg v).take i.toNat))))) (k := ((((at_ eg v).length : Int) : Int) - 0).toNat) ?_ ?_
 exact ⟨0, rfl, rfl, (congrArg (AV.int .i64) (show (0 : Int) = ((hardF sh ((at_ eg v).take (0 : Int).toNat)).length : Int) from by rfl)), rfl, rfl, rfl, rfl, rfl, rfl, rfl, h30, h31, (h32.trans (congrArg (fun c => some (AB.row 0 c)) (show ([.int .i64 0, .int .i64 0, .int .i64 0] : List AV) = (eV (othL vs t.ed v ((at_ eg v).take (0 : Int).toNat))) from by first | rfl | (rw [oth_step hi0 (by omega)]) | (rw [fan_step hj0 (by omega)]) | (rw [fan_0 (fc := fc) (l := (at_ t.fan v)) hall])))), (h24.trans (congrArg (fun c => some (AB.row 0 c)) (show ([.int .i64 0, .int .i64 0, .int .i64 0] : List AV) = (eV (othL vs t.ed v (hardF sh ((at_ eg v).take (0 : Int).toNat)))) from by rfl))), m33, by omega, by omega, by exact z_in (by omega), by exact z_in (by omega)⟩
 rintro _ f36 H35 ⟨i, rfl, s37, s38, s39, s40, s41, s42, s43, s44, s45, h46, h47, h48, h49, m50, hi0, hi1, hin5, hin6⟩
 refine Sr ?_
 refine B rfl s37 s45 rfl ?_
 refine AWP.seq ?_
 by_cases b51 : i < (((at_ eg v).length) : Int)
 refine ct_ rfl (decide_eq_true b51) ?_
 refine AWP.skip ?_
 refine AWP.seq ?_
 refine bk_ ?_
 refine Sr ?_
 refine C rfl (iS_ rfl s44 s37 sl_38 (by omega) (by omega) (L rfl rfl ty_3 (ld1 (by omega) (by omega)) (A rfl rfl ?_)))
 refine AWP.seq ?_
 obtain ⟨he, hev⟩ := heg _ (at_mem hi0 (by omega : i < (at_ eg v).length))
 obtain ⟨heA, heB⟩ := hAB _ (at_mem he.1 he.2)
 have hoi : inV 65536 (othV vs (at_ t.ed (at_ (at_ eg v) i)) v) := hv _ (at_mem (by omega) (by omega))
 refine AWP.region rfl ?_
 refine V rfl s39 (V rfl rfl (V rfl s40 (C rfl (AOp.pcallH («as» := [.ptr fid 0 0, .int .i64 (at_ (at_ eg v) i), .int .i64 v]) rfl rfl (rfl) tf_56 (c_other vs fs cr t sh (at_ (at_ eg v) i) v he heA heB hev hvl h46) ?_))))
 intro H52 m53
 have h54 := m53 _ _ h46
 have h55 := m53 _ _ h47
 have h56 := m53 _ _ h48
 have h57 := m53 _ _ h49
 have m58 := m50.trans m53
 refine C rfl (AOp.buildSlice (cells := (eV (othV vs (at_ t.ed (at_ (at_ eg v) i)) v))) rfl u_22 ts_42 tz_42 rfl rfl rfl ?_)
 intro i59 H60 n61 h62 k63
 have e64 := ne_new h54 n61
 have e65 := ne_new h55 n61
 have e66 := ne_new h56 n61
 have e67 := ne_new h57 n61
 have z68 := Mono.free m58 n61
 have h69 := keep k63 (ne_new h54 n61) h54
 have h70 := keep k63 (ne_new h55 n61) h55
 have h71 := keep k63 (ne_new h56 n61) h56
 have h72 := keep k63 (ne_new h57 n61) h57
 have m73 := Mono.new m58 n61 k63
 obtain ⟨v74, e75⟩ : ∃ v : AV, v = .slm i59 0 3 0 1 := ⟨_, rfl⟩
 have o76 : Own H0 H60 3 v74 1 (eV (othV vs (at_ t.ed (at_ (at_ eg v) i)) v)) := .inr ⟨_, _, e75, h62, z68, rfl⟩
 have no77 : NotId v74 fid := by rw [e75]; exact NotId.slm e64
 have no78 : NotId v74 i1 := by rw [e75]; exact NotId.slm e65
 have no79 : NotId v74 i10 := by rw [e75]; exact NotId.slm e66
 have no80 : NotId v74 i21 := by rw [e75]; exact NotId.slm e67
 refine C rfl ?_
 refine AOp.frz 29 (o76) e75.symm m73 fun H81 m82 k83 => ?_
 have h84 := (k83 _ no77).trans h69
 have h85 := (k83 _ no78).trans h70
 have h86 := (k83 _ no79).trans h71
 have h87 := (k83 _ no80).trans h72
 refine AOp.xcall («as» := [.ptr i10 0 0, .int .i64 1, .sl ([(othV vs (at_ t.ed (at_ (at_ eg v) i)) v)] : List VT).length (([(othV vs (at_ t.ed (at_ (at_ eg v) i)) v)] : List VT).flatMap eV)]) rfl rfl (lapp (lcons s42 (lcons rfl (lcons rfl rfl))) rfl) tf_54 (c_add (othL vs t.ed v ((at_ eg v).take i.toNat)) 1 ([(othV vs (at_ t.ed (at_ (at_ eg v) i)) v)] : List VT) (by simp) (inV_le hin5 (by omega)) (one_in hoi) h86) ?_
 rintro _ H88 ⟨rfl, m89, h90⟩
 have h91 := m89 _ _ (hide_get e15 h84)
 have h92 := m89 _ _ (hide_get e16 h85)
 have h93 := m89 _ _ (hide_get (Ne.symm e28) h87)
 have m94 := Mono.hide_ m82 z17 m89
 refine Sr ?_
 refine V rfl s39 (C rfl (nc_ (.ptr fid 0 0) rfl rfl rfl ?_))
 refine C rfl (Fa rfl rfl fl_79_2 ?_ (hid := ⟨_, h91⟩))
 refine C rfl (Ld _ rfl rfl ty_38 h91 rfl (V rfl rfl (C rfl (iS_ rfl rfl rfl sl_38 (by omega) (by omega) (L rfl rfl ty_3 (ld1 (by omega) (by omega)) (B rfl rfl rfl ine ?_))))))
 refine AOps.nil ?_
 change AWP _ _ _ _ _ _
 by_cases b95 : at_ sh (at_ (at_ eg v) i) = 0
 refine cf_ rfl (nb (decide_eq_true b95)) ?_
 refine AWP.skip ?_
 refine AWP.region rfl ?_
 refine B rfl s37 rfl (iadd (by omega)) (V rfl rfl ?_)
 refine AOps.nil ?_
 exact ⟨_, by omega, i + 1, rfl, rfl, (s38.trans (congrArg (AV.int .i64) (show (((hardF sh ((at_ eg v).take i.toNat)).length : Int) : Int) = ((hardF sh ((at_ eg v).take (i + 1).toNat)).length : Int) from by exact hlen_F hi0 (by omega) b95))), s39, s40, s41, s42, s43, s44, s45, h91, h92, (h90.trans (congrArg (fun c => some (AB.row 0 c)) (show ((eV (addL (othL vs t.ed v ((at_ eg v).take i.toNat)) 1 ([(othV vs (at_ t.ed (at_ (at_ eg v) i)) v)] : List VT))) : List AV) = (eV (othL vs t.ed v ((at_ eg v).take (i + 1).toNat))) from by first | rfl | (rw [oth_step hi0 (by omega)]) | (rw [fan_step hj0 (by omega)]) | (rw [fan_0 (fc := fc) (l := (at_ t.fan v)) hall])))), (h93.trans (congrArg (fun c => some (AB.row 0 c)) (show ((eV (othL vs t.ed v (hardF sh ((at_ eg v).take i.toNat)))) : List AV) = (eV (othL vs t.ed v (hardF sh ((at_ eg v).take (i + 1).toNat)))) from by first | rfl | (rw [hoth_T hi0 (by omega) b95]) | (rw [hard_F hi0 (by omega) b95])))), m94, by omega, by omega, by exact oth_in hi0 (by omega) hin5 hoi, by exact hoth_inF hi0 (by omega) b95 hin6⟩
 refine ct_ rfl (nb (decide_eq_false b95)) ?_
 refine Sr ?_
 refine V rfl s39 (V rfl rfl (V rfl s40 (C rfl (AOp.pcallH («as» := [.ptr fid 0 0, .int .i64 (at_ (at_ eg v) i), .int .i64 v]) rfl rfl (rfl) tf_56 (c_other vs fs cr t sh (at_ (at_ eg v) i) v he heA heB hev hvl h91) ?_))))
 intro H96 m97
 have h98 := m97 _ _ h91
 have h99 := m97 _ _ h92
 have h100 := m97 _ _ h93
 have h101 := m97 _ _ h90
 have m102 := m94.trans m97
 refine C rfl (AOp.buildSlice (cells := (eV (othV vs (at_ t.ed (at_ (at_ eg v) i)) v))) rfl u_22 ts_42 tz_42 rfl rfl rfl ?_)
 intro i103 H104 n105 h106 k107
 have e108 := ne_new h98 n105
 have e109 := ne_new h99 n105
 have e110 := ne_new h100 n105
 have e111 := ne_new h101 n105
 have z112 := Mono.free m102 n105
 have h113 := keep k107 (ne_new h98 n105) h98
 have h114 := keep k107 (ne_new h99 n105) h99
 have h115 := keep k107 (ne_new h100 n105) h100
 have h116 := keep k107 (ne_new h101 n105) h101
 have m117 := Mono.new m102 n105 k107
 obtain ⟨v118, e119⟩ : ∃ v : AV, v = .slm i103 0 3 0 1 := ⟨_, rfl⟩
 have o120 : Own H0 H104 3 v118 1 (eV (othV vs (at_ t.ed (at_ (at_ eg v) i)) v)) := .inr ⟨_, _, e119, h106, z112, rfl⟩
 have no121 : NotId v118 fid := by rw [e119]; exact NotId.slm e108
 have no122 : NotId v118 i1 := by rw [e119]; exact NotId.slm e109
 have no123 : NotId v118 i21 := by rw [e119]; exact NotId.slm e110
 have no124 : NotId v118 i10 := by rw [e119]; exact NotId.slm e111
 refine C rfl ?_
 refine AOp.frz 43 (o120) e119.symm m117 fun H125 m126 k127 => ?_
 have h128 := (k127 _ no121).trans h113
 have h129 := (k127 _ no122).trans h114
 have h130 := (k127 _ no123).trans h115
 have h131 := (k127 _ no124).trans h116
 refine AOp.xcall («as» := [.ptr i21 0 0, .int .i64 1, .sl ([(othV vs (at_ t.ed (at_ (at_ eg v) i)) v)] : List VT).length (([(othV vs (at_ t.ed (at_ (at_ eg v) i)) v)] : List VT).flatMap eV)]) rfl rfl (lapp (lcons s43 (lcons rfl (lcons rfl rfl))) rfl) tf_54 (c_add (othL vs t.ed v (hardF sh ((at_ eg v).take i.toNat))) 1 ([(othV vs (at_ t.ed (at_ (at_ eg v) i)) v)] : List VT) (by simp) (inV_le hin6 (by omega)) (one_in hoi) h130) ?_
 rintro _ H132 ⟨rfl, m133, h134⟩
 have h135 := m133 _ _ (hide_get e26 h128)
 have h136 := m133 _ _ (hide_get e27 h129)
 have h137 := m133 _ _ (hide_get e28 h131)
 have m138 := Mono.hide_ m126 z29 m133
 refine AOps.nil ?_
 change AWP _ _ _ _ _ _
 have hle9 := hardF_le sh ((at_ eg v).take i.toNat)
 have hlt9 : ((at_ eg v).take i.toNat).length ≤ 100000 := by rw [List.length_take]; omega
 refine AWP.region rfl ?_
 refine V rfl s38 (B rfl rfl rfl (iadd (by omega)) (A rfl rfl ?_))
 refine AWP.region rfl ?_
 refine B rfl s37 rfl (iadd (by omega)) (V rfl rfl ?_)
 refine AOps.nil ?_
 exact ⟨_, by omega, i + 1, rfl, rfl, (congrArg (AV.int .i64) (show (((hardF sh ((at_ eg v).take i.toNat)).length : Int) + 1 : Int) = ((hardF sh ((at_ eg v).take (i + 1).toNat)).length : Int) from by exact hlen_T hi0 (by omega) b95)), s39, s40, s41, s42, s43, s44, s45, h135, h136, (h137.trans (congrArg (fun c => some (AB.row 0 c)) (show ((eV (addL (othL vs t.ed v ((at_ eg v).take i.toNat)) 1 ([(othV vs (at_ t.ed (at_ (at_ eg v) i)) v)] : List VT))) : List AV) = (eV (othL vs t.ed v ((at_ eg v).take (i + 1).toNat))) from by first | rfl | (rw [oth_step hi0 (by omega)]) | (rw [fan_step hj0 (by omega)]) | (rw [fan_0 (fc := fc) (l := (at_ t.fan v)) hall])))), (h134.trans (congrArg (fun c => some (AB.row 0 c)) (show ((eV (addL (othL vs t.ed v (hardF sh ((at_ eg v).take i.toNat))) 1 ([(othV vs (at_ t.ed (at_ (at_ eg v) i)) v)] : List VT))) : List AV) = (eV (othL vs t.ed v (hardF sh ((at_ eg v).take (i + 1).toNat)))) from by first | rfl | (rw [hoth_T hi0 (by omega) b95]) | (rw [hard_F hi0 (by omega) b95])))), m138, by omega, by omega, by exact oth_in hi0 (by omega) hin5 hoi, by exact hoth_inT hi0 (by omega) b95 hin6 hoi⟩
 refine cf_ rfl (decide_eq_false b51) ?_
 refine AWP.exit ?_
 change AWP _ _ _ _ _ _
 refine AWP.seq ?_
 refine bk_ ?_
 refine AWP.seq ?_
 have hall := take_all (l := (at_ eg v)) (i := i) (by omega)
 have hle := hardF_le sh ((at_ eg v).take i.toNat)
 refine AWP.region rfl ?_
 refine V rfl s38 (B rfl rfl rfl rfl (A rfl rfl ?_))
 refine AOps.nil ?_
 change AWP _ _ _ _ _ _
 by_cases b139 : ((hardF sh ((at_ eg v).take i.toNat)).length : Int) > 2
 refine ct_ rfl (decide_eq_true b139) ?_
 refine Sr ?_
 refine V rfl s39 (C rfl (nc_ (.ptr fid 0 0) rfl rfl rfl ?_))
 refine C rfl (Fa rfl rfl fl_79_0 ?_ (hid := ⟨_, h46⟩))
 refine C rfl (Fa rfl rfl fl_26_0 ?_ (hid := ⟨_, h46⟩))
 refine C rfl (Ld _ rfl rfl ty_22 h46 rfl (V rfl s40 (C rfl (iS_ rfl rfl rfl sl_22 (by omega) (by omega) (L rfl rfl ty_42 (ldM eV_len (by omega) (by omega)) (C rfl (Sw s41 rfl ts_42 h47 rfl rfl rfl ?_)))))))
 intro H140 h141 k142
 have m147 := Mono.set m50 z7 k142
 refine rt_ ?_
 refine Rr (Res.list1 rfl (.cell (v := .agg (eV (at_ vs v))) s41 ty_42 h141 rfl (.nil))) ?_ m147
 exact (congrArg (fun x : VT => AV.agg (eV x)) (show (at_ vs v : VT) = vertP vs fc t.ed sh (at_ t.fan v) (at_ eg v) v from by rw [vert_3 hall b139]))
 refine cf_ rfl (decide_eq_false b139) ?_
 refine Sr ?_
 refine V rfl s38 (B rfl rfl rfl ieq (A rfl rfl ?_))
 refine AOps.nil ?_
 change AWP _ _ _ _ _ _
 by_cases b148 : ((hardF sh ((at_ eg v).take i.toNat)).length : Int) = 2
 refine ct_ rfl (decide_eq_true b148) ?_
 refine Sr ?_
 refine V rfl s39 (C rfl (nc_ (.ptr fid 0 0) rfl rfl rfl ?_))
 refine C rfl (Fa rfl rfl fl_79_0 ?_ (hid := ⟨_, h46⟩))
 refine C rfl (Fa rfl rfl fl_26_0 ?_ (hid := ⟨_, h46⟩))
 refine C rfl (Ld _ rfl rfl ty_22 h46 rfl (V rfl s40 (C rfl (iS_ rfl rfl rfl sl_22 (by omega) (by omega) (L rfl rfl ty_42 (ldM eV_len (by omega) (by omega)) (C rfl (AOp.buildSlice (cells := (eV (at_ vs v))) rfl u_22 ts_42 tz_42 rfl rfl rfl ?_)))))))
 intro i149 H150 n151 h152 k153
 have e154 := ne_new h46 n151
 have e155 := ne_new h47 n151
 have e156 := ne_new h48 n151
 have e157 := ne_new h49 n151
 have z158 := Mono.free m50 n151
 have h159 := keep k153 (ne_new h46 n151) h46
 have h160 := keep k153 (ne_new h47 n151) h47
 have h161 := keep k153 (ne_new h48 n151) h48
 have h162 := keep k153 (ne_new h49 n151) h49
 have m163 := Mono.new m50 n151 k153
 obtain ⟨v164, e165⟩ : ∃ v : AV, v = .slm i149 0 3 0 1 := ⟨_, rfl⟩
 have o166 : Own H0 H150 3 v164 1 (eV (at_ vs v)) := .inr ⟨_, _, e165, h152, z158, rfl⟩
 have no167 : NotId v164 fid := by rw [e165]; exact NotId.slm e154
 have no168 : NotId v164 i1 := by rw [e165]; exact NotId.slm e155
 have no169 : NotId v164 i10 := by rw [e165]; exact NotId.slm e156
 have no170 : NotId v164 i21 := by rw [e165]; exact NotId.slm e157
 refine C rfl ?_
 refine AOp.frz 70 (o166) e165.symm m163 fun H171 m172 k173 => ?_
 have h174 := (k173 _ no167).trans h159
 have h175 := (k173 _ no168).trans h160
 have h176 := (k173 _ no169).trans h161
 have h177 := (k173 _ no170).trans h162
 refine AOp.xcall («as» := [.ptr i21 0 0, .int .i64 6, .sl ([(at_ vs v)] : List VT).length (([(at_ vs v)] : List VT).flatMap eV)]) rfl rfl (lapp (lcons s43 (lcons rfl (lcons rfl rfl))) rfl) tf_54 (c_add (othL vs t.ed v (hardF sh ((at_ eg v).take i.toNat))) 6 ([(at_ vs v)] : List VT) (by simp) (inV_le hin6 (by omega)) (one_inK hvv (by decide)) h177) ?_
 rintro _ H178 ⟨rfl, m179, h180⟩
 have h181 := m179 _ _ (hide_get e26 h174)
 have h182 := m179 _ _ (hide_get e27 h175)
 have h183 := m179 _ _ (hide_get e28 h176)
 have m184 := Mono.hide_ m172 z29 m179
 refine Sr ?_
 refine C rfl (AOp.pcallH («as» := [.ptr i21 0 0, .int .i64 8]) rfl rfl (lapp (lcons s43 (lcons rfl rfl)) rfl) tf_55 (c_of (addL (othL vs t.ed v (hardF sh ((at_ eg v).take i.toNat))) 6 ([(at_ vs v)] : List VT)) 8 (inV_le (inV_add hin6 (inV_scale hvv (c := 6) (by decide))) (by omega)) (by decide) h180) ?_)
 intro H185 m186
 have h187 := m186 _ _ h181
 have h188 := m186 _ _ h182
 have h189 := m186 _ _ h183
 have h190 := m186 _ _ h180
 have m191 := m184.trans m186
 refine C rfl (Sw s41 rfl ts_42 h188 rfl rfl rfl ?_)
 intro H192 h193 k194
 have m199 := Mono.set m191 z7 k194
 refine rt_ ?_
 refine Rr (Res.list1 rfl (.cell (v := .agg (eV (ofV (addL (othL vs t.ed v (hardF sh ((at_ eg v).take i.toNat))) 6 ([(at_ vs v)] : List VT)) 8))) s41 ty_42 h193 rfl (.nil))) ?_ m199
 exact (congrArg (fun x : VT => AV.agg (eV x)) (show (ofV (addL (othL vs t.ed v (hardF sh ((at_ eg v).take i.toNat))) 6 ([(at_ vs v)] : List VT)) 8 : VT) = vertP vs fc t.ed sh (at_ t.fan v) (at_ eg v) v from by rw [vert_2 hall b139 b148]))
 refine cf_ rfl (decide_eq_false b148) ?_
 refine AWP.skip ?_
 refine Sr ?_
 refine V rfl s39 (C rfl (nc_ (.ptr fid 0 0) rfl rfl rfl ?_))
 refine C rfl (Fa rfl rfl fl_79_1 ?_ (hid := ⟨_, h46⟩))
 refine C rfl (Fa rfl rfl fl_35_1 ?_ (hid := ⟨_, h46⟩))
 refine C rfl (Ld _ rfl rfl ty_23 h46 rfl (V rfl s40 (C rfl (iS_ rfl rfl rfl sl_23 (by omega) (by omega) (L rfl rfl ty_38 (ld1 (by omega) (by omega)) (C rfl (AOp.len (m := (at_ t.fan v).length) rfl rfl (.inr (.inl ⟨_, rfl⟩)) u_38 (A rfl rfl ?_))))))))
 refine Sr ?_
 refine V rfl rfl (V rfl rfl (B rfl rfl rfl (isub (by omega)) (B rfl rfl rfl (imul (by omega)) (V rfl s39 (C rfl (nc_ (.ptr fid 0 0) rfl rfl rfl ?_))))))
 refine C rfl (Fa rfl rfl fl_79_0 ?_ (hid := ⟨_, h46⟩))
 refine C rfl (Fa rfl rfl fl_26_0 ?_ (hid := ⟨_, h46⟩))
 refine C rfl (Ld _ rfl rfl ty_22 h46 rfl (V rfl s40 (C rfl (iS_ rfl rfl rfl sl_22 (by omega) (by omega) (L rfl rfl ty_42 (ldM eV_len (by omega) (by omega)) (C rfl (AOp.buildSlice (cells := (eV (at_ vs v))) rfl u_22 ts_42 tz_42 rfl rfl rfl ?_)))))))
 intro i200 H201 n202 h203 k204
 have e205 := ne_new h46 n202
 have e206 := ne_new h47 n202
 have e207 := ne_new h48 n202
 have e208 := ne_new h49 n202
 have z209 := Mono.free m50 n202
 have h210 := keep k204 (ne_new h46 n202) h46
 have h211 := keep k204 (ne_new h47 n202) h47
 have h212 := keep k204 (ne_new h48 n202) h48
 have h213 := keep k204 (ne_new h49 n202) h49
 have m214 := Mono.new m50 n202 k204
 obtain ⟨v215, e216⟩ : ∃ v : AV, v = .slm i200 0 3 0 1 := ⟨_, rfl⟩
 have o217 : Own H0 H201 3 v215 1 (eV (at_ vs v)) := .inr ⟨_, _, e216, h203, z209, rfl⟩
 have no218 : NotId v215 fid := by rw [e216]; exact NotId.slm e205
 have no219 : NotId v215 i1 := by rw [e216]; exact NotId.slm e206
 have no220 : NotId v215 i10 := by rw [e216]; exact NotId.slm e207
 have no221 : NotId v215 i21 := by rw [e216]; exact NotId.slm e208
 refine C rfl ?_
 refine AOp.frz 94 (o217) e216.symm m214 fun H222 m223 k224 => ?_
 have h225 := (k224 _ no218).trans h210
 have h226 := (k224 _ no219).trans h211
 have h227 := (k224 _ no220).trans h212
 have h228 := (k224 _ no221).trans h213
 refine AOp.xcall («as» := [.ptr i10 0 0, .int .i64 ((((at_ t.fan v).length) : Int) * ((((at_ t.fan v).length) : Int) - 2)), .sl ([(at_ vs v)] : List VT).length (([(at_ vs v)] : List VT).flatMap eV)]) rfl rfl (lapp (lcons s42 (lcons rfl (lcons rfl rfl))) rfl) tf_54 (c_add (othL vs t.ed v ((at_ eg v).take i.toNat)) ((((at_ t.fan v).length) : Int) * ((((at_ t.fan v).length) : Int) - 2)) ([(at_ vs v)] : List VT) (by simp) (inV_le hin5 (by omega)) (one_inK hvv hnr.1) h227) ?_
 rintro _ H229 ⟨rfl, m230, h231⟩
 have h232 := m230 _ _ (hide_get e15 h225)
 have h233 := m230 _ _ (hide_get e16 h226)
 have h234 := m230 _ _ (hide_get (Ne.symm e28) h228)
 have m235 := Mono.hide_ m223 z17 m230
 refine AWP.seq ?_
 refine AWP.seq ?_
 have hBs : inV (6553600000 + 68719476736) (addV (othL vs t.ed v (at_ eg v)) (scaleV (at_ vs v) (((at_ t.fan v).length : Int) * (((at_ t.fan v).length : Int) - 2)))) := inV_add (by rw [← hall]; exact inV_le hin5 (by omega)) (inV_le (inV_scale hvv hnr.1) (by decide))
 refine AWP.region rfl ?_
 refine V rfl s39 (C rfl (nc_ (.ptr fid 0 0) rfl rfl rfl ?_))
 refine C rfl (Fa rfl rfl fl_79_1 ?_ (hid := ⟨_, h232⟩))
 refine C rfl (Fa rfl rfl fl_35_1 ?_ (hid := ⟨_, h232⟩))
 refine C rfl (Ld _ rfl rfl ty_23 h232 rfl (V rfl s40 (C rfl (iS_ rfl rfl rfl sl_23 (by omega) (by omega) (L rfl rfl ty_38 (ld1 (by omega) (by omega)) (C rfl (AOp.len (m := (at_ t.fan v).length) rfl rfl (.inr (.inl ⟨_, rfl⟩)) u_38 (V rfl rfl ?_))))))))
 refine bk_ ?_
 refine AWP.loop (fun q236 fq Hq => ∃ (j : Int), q236 = ((((at_ t.fan v).length : Int) : Int) - j).toNat ∧ fq 105 = .int .i64 j ∧ fq 0 = .ptr fid 0 0 ∧ fq 4 = .ptr i1 0 0 ∧ fq 5 = .ptr i10 0 0 ∧ fq 10 = .int .i64 (((at_ t.fan v).length) : Int) ∧ fq 103 = .sl (at_ t.fan v).length ((at_ t.fan v).map eI) ∧ fq 104 = .int .i64 (((at_ t.fan v).length) : Int) ∧ Hq fid = some (.row 0 ([.sl vs.length (vs.flatMap eV), .sl fs.length (fs.map eF), .sl cr.length (cr.flatMap eCr), .sl t.ed.length (t.ed.flatMap eE), .sl t.fan.length (t.fan.map eF), .sl t.rnd.length (t.rnd.map eBo), .sl sh.length (sh.map eI), .sl eg.length (eg.map eF), .sl fc.length (fc.flatMap eV)])) ∧ Hq i1 = some (.row 0 ([.int .i64 0, .int .i64 0, .int .i64 0])) ∧ Hq i21 = some (.row 0 ((eV (othL vs t.ed v (hardF sh ((at_ eg v).take i.toNat)))))) ∧ Hq i10 = some (.row 0 ((eV (addV (addV (othL vs t.ed v (at_ eg v)) (scaleV (at_ vs v) (((at_ t.fan v).length : Int) * (((at_ t.fan v).length : Int) - 2)))) (sumL (((at_ t.fan v).take j.toNat).map fun k => at_ fc k)))))) ∧ Mono H0 Hq ∧ (0 ≤ j) ∧ (j ≤ ((at_ t.fan v).length : Int)) ∧ (inV (65536 * j) (sumL (((at_ t.fan v).take j.toNat).map fun k => at_ fc k)))) (k := ((((at_ t.fan v).length : Int) : Int) - 0).toNat) ?_ ?_
 exact ⟨0, rfl, rfl, s39, s41, s42, rfl, rfl, rfl, h232, h233, h234, (h231.trans (congrArg (fun c => some (AB.row 0 c)) (show ((eV (addL (othL vs t.ed v ((at_ eg v).take i.toNat)) ((((at_ t.fan v).length) : Int) * ((((at_ t.fan v).length) : Int) - 2)) ([(at_ vs v)] : List VT))) : List AV) = (eV (addV (addV (othL vs t.ed v (at_ eg v)) (scaleV (at_ vs v) (((at_ t.fan v).length : Int) * (((at_ t.fan v).length : Int) - 2)))) (sumL (((at_ t.fan v).take (0 : Int).toNat).map fun k => at_ fc k)))) from by first | rfl | (rw [oth_step hi0 (by omega)]) | (rw [fan_step hj0 (by omega)]) | (rw [fan_0 (fc := fc) (l := (at_ t.fan v)) hall])))), m235, by omega, by omega, by exact z_in (by omega)⟩
 rintro _ f238 H237 ⟨j, rfl, s239, s240, s241, s242, s243, s244, s245, h246, h247, h248, h249, m250, hj0, hj1, hin7⟩
 refine Sr ?_
 refine B rfl s239 s245 rfl ?_
 refine AWP.seq ?_
 by_cases b251 : j < (((at_ t.fan v).length) : Int)
 refine ct_ rfl (decide_eq_true b251) ?_
 refine AWP.skip ?_
 refine AWP.seq ?_
 refine bk_ ?_
 refine Sr ?_
 refine C rfl (iS_ rfl s244 s239 sl_38 (by omega) (by omega) (L rfl rfl ty_3 (ld1 (by omega) (by omega)) (A rfl rfl ?_)))
 refine AOps.nil ?_
 change AWP _ _ _ _ _ _
 have hfr := hff _ (at_mem hj0 (by omega : j < (at_ t.fan v).length))
 have hfk := hfc _ (at_mem hfr.1 hfr.2)
 refine AWP.region rfl ?_
 refine V rfl s240 (C rfl (nc_ (.ptr fid 0 0) rfl rfl rfl ?_))
 refine C rfl (Fa rfl rfl fl_79_4 ?_ (hid := ⟨_, h246⟩))
 refine C rfl (Ld _ rfl rfl ty_22 h246 rfl (V rfl rfl (C rfl (iS_ rfl rfl rfl sl_22 (by omega) (by omega) (L rfl rfl ty_42 (ldM eV_len (by omega) (by omega)) (C rfl (AOp.buildSlice (cells := (eV (at_ fc (at_ (at_ t.fan v) j)))) rfl u_22 ts_42 tz_42 rfl rfl rfl ?_)))))))
 intro i252 H253 n254 h255 k256
 have e257 := ne_new h246 n254
 have e258 := ne_new h247 n254
 have e259 := ne_new h248 n254
 have e260 := ne_new h249 n254
 have z261 := Mono.free m250 n254
 have h262 := keep k256 (ne_new h246 n254) h246
 have h263 := keep k256 (ne_new h247 n254) h247
 have h264 := keep k256 (ne_new h248 n254) h248
 have h265 := keep k256 (ne_new h249 n254) h249
 have m266 := Mono.new m250 n254 k256
 obtain ⟨v267, e268⟩ : ∃ v : AV, v = .slm i252 0 3 0 1 := ⟨_, rfl⟩
 have o269 : Own H0 H253 3 v267 1 (eV (at_ fc (at_ (at_ t.fan v) j))) := .inr ⟨_, _, e268, h255, z261, rfl⟩
 have no270 : NotId v267 fid := by rw [e268]; exact NotId.slm e257
 have no271 : NotId v267 i1 := by rw [e268]; exact NotId.slm e258
 have no272 : NotId v267 i21 := by rw [e268]; exact NotId.slm e259
 have no273 : NotId v267 i10 := by rw [e268]; exact NotId.slm e260
 refine C rfl ?_
 refine AOp.frz 116 (o269) e268.symm m266 fun H274 m275 k276 => ?_
 have h277 := (k276 _ no270).trans h262
 have h278 := (k276 _ no271).trans h263
 have h279 := (k276 _ no272).trans h264
 have h280 := (k276 _ no273).trans h265
 refine AOp.xcall («as» := [.ptr i10 0 0, .int .i64 1, .sl ([(at_ fc (at_ (at_ t.fan v) j))] : List VT).length (([(at_ fc (at_ (at_ t.fan v) j))] : List VT).flatMap eV)]) rfl rfl (lapp (lcons s242 (lcons rfl (lcons rfl rfl))) rfl) tf_54 (c_add (addV (addV (othL vs t.ed v (at_ eg v)) (scaleV (at_ vs v) (((at_ t.fan v).length : Int) * (((at_ t.fan v).length : Int) - 2)))) (sumL (((at_ t.fan v).take j.toNat).map fun k => at_ fc k))) 1 ([(at_ fc (at_ (at_ t.fan v) j))] : List VT) (by simp) (inV_le (inV_fan hBs hin7) (by omega)) (one_in hfk) h280) ?_
 rintro _ H281 ⟨rfl, m282, h283⟩
 have h284 := m282 _ _ (hide_get e15 h277)
 have h285 := m282 _ _ (hide_get e16 h278)
 have h286 := m282 _ _ (hide_get (Ne.symm e28) h279)
 have m287 := Mono.hide_ m275 z17 m282
 refine AWP.region rfl ?_
 refine B rfl s239 rfl (iadd (by omega)) (V rfl rfl ?_)
 refine AOps.nil ?_
 exact ⟨_, by omega, j + 1, rfl, rfl, s240, s241, s242, s243, s244, s245, h284, h285, h286, (h283.trans (congrArg (fun c => some (AB.row 0 c)) (show ((eV (addL (addV (addV (othL vs t.ed v (at_ eg v)) (scaleV (at_ vs v) (((at_ t.fan v).length : Int) * (((at_ t.fan v).length : Int) - 2)))) (sumL (((at_ t.fan v).take j.toNat).map fun k => at_ fc k))) 1 ([(at_ fc (at_ (at_ t.fan v) j))] : List VT))) : List AV) = (eV (addV (addV (othL vs t.ed v (at_ eg v)) (scaleV (at_ vs v) (((at_ t.fan v).length : Int) * (((at_ t.fan v).length : Int) - 2)))) (sumL (((at_ t.fan v).take (j + 1).toNat).map fun k => at_ fc k)))) from by first | rfl | (rw [oth_step hi0 (by omega)]) | (rw [fan_step hj0 (by omega)]) | (rw [fan_0 (fc := fc) (l := (at_ t.fan v)) hall])))), m287, by omega, by omega, by exact sum_inS hj0 (by omega) hin7 hfk⟩
 refine cf_ rfl (decide_eq_false b251) ?_
 refine AWP.exit ?_
 change AWP _ _ _ _ _ _
 refine Sr ?_
 refine V rfl s243 (V rfl s243 (B rfl rfl rfl (imul (by omega)) (C rfl (AOp.pcallH («as» := [.ptr i10 0 0, .int .i64 ((((at_ t.fan v).length) : Int) * (((at_ t.fan v).length) : Int))]) rfl rfl (lapp (lcons s242 (lcons rfl rfl)) rfl) tf_55 (c_of (addV (addV (othL vs t.ed v (at_ eg v)) (scaleV (at_ vs v) (((at_ t.fan v).length : Int) * (((at_ t.fan v).length : Int) - 2)))) (sumL (((at_ t.fan v).take j.toNat).map fun k => at_ fc k))) ((((at_ t.fan v).length) : Int) * (((at_ t.fan v).length) : Int)) (inV_le (inV_fan hBs hin7) (by omega)) (by omega) h249) ?_))))
 intro H288 m289
 have h290 := m289 _ _ h246
 have h291 := m289 _ _ h247
 have h292 := m289 _ _ h248
 have h293 := m289 _ _ h249
 have m294 := m250.trans m289
 refine C rfl (Sw s241 rfl ts_42 h291 rfl rfl rfl ?_)
 intro H295 h296 k297
 have m302 := Mono.set m294 z7 k297
 refine rt_ ?_
 refine Rr (Res.list1 rfl (.cell (v := .agg (eV (ofV (addV (addV (othL vs t.ed v (at_ eg v)) (scaleV (at_ vs v) (((at_ t.fan v).length : Int) * (((at_ t.fan v).length : Int) - 2)))) (sumL (((at_ t.fan v).take j.toNat).map fun k => at_ fc k))) ((((at_ t.fan v).length) : Int) * (((at_ t.fan v).length) : Int))))) s241 ty_42 h296 rfl (.nil))) ?_ m302
 exact (congrArg (fun x : VT => AV.agg (eV x)) (show (ofV (addV (addV (othL vs t.ed v (at_ eg v)) (scaleV (at_ vs v) (((at_ t.fan v).length : Int) * (((at_ t.fan v).length : Int) - 2)))) (sumL (((at_ t.fan v).take j.toNat).map fun k => at_ fc k))) ((((at_ t.fan v).length) : Int) * (((at_ t.fan v).length) : Int)) : VT) = vertP vs fc t.ed sh (at_ t.fan v) (at_ eg v) v from by rw [vert_0 (by omega) hall b139 b148]))
end Go.Proofs.U
