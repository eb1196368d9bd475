/- A part of the proof that a law answers true for every input of its row: own work, by an AI agent. -/
import Derived.Test.YtfgfalidpbbkhaaDoorB02
import Derived.Test.YtfgfalidpbbkhaaDoorB01
import Derived.KernelRfl
set_option linter.unusedSimpArgs false
set_option linter.unusedVariables false
set_option linter.defProp false
namespace Go.Proofs.M
open Go Go.AH
set_option maxRecDepth 4000
set_option linter.unusedSimpArgs false
set_option linter.unusedVariables false
theorem c_Cubic1 (ws : List Int) (hws : ws.length = 4) (k : Int) (hk : 0 ≤ k ∧ k < 4) : PC Tryd.prog 94 [J k, .fptr (ws.map eI) 0] (J (at_ ws k)) := by
 intro H0
 refine ACalls.of_body' (n := 7) rfl rfl rfl rfl ?_
 have m0 := Mono.refl H0
 refine Sr ?_
 refine A rfl rfl ?_
 refine Sr ?_
 refine V rfl rfl (C rfl (iF_ rfl rfl rfl ar_25 (by omega) (by omega) (L rfl rfl ty_3 (ld_off (o := 0 + k.toNat * 1) (by omega) (ld1 (i := k) (by omega) (by first | (have := hws; omega) | (simp; omega)))) (A rfl rfl ?_))))
 refine rt_ ?_
 refine Rr (Res.one rfl rfl) ?_ m0
 exact rfl
theorem c_Point1 (vs ws : List Int) (hvs : vs.length = 4) (hws : ws.length = 4) (hv : ∀ k : Int, 0 ≤ k → k < 4 → 0 ≤ at_ vs k ∧ at_ vs k ≤ 12288) (hw : ∀ k : Int, 0 ≤ k → k < 4 → 0 ≤ at_ ws k ∧ at_ ws k ≤ 12288) (k : Int) (hk : 0 ≤ k ∧ k < 16) : PC Tryd.prog 95 [J k, .fptr (vs.map eI) 0, .fptr (ws.map eI) 0] (J (at_ vs (k % 4) * at_ ws (k / 4))) := by
 intro H0
 refine ACalls.of_body' (n := 14) rfl rfl rfl rfl ?_
 have m0 := Mono.refl H0
 refine Sr ?_
 refine A rfl rfl ?_
 refine AWP.seq ?_
 refine AWP.region_quiet mixed (by kernel_rfl) 10 [] rfl (by kernel_rfl) (Mono H0) (Mono.refl _) ?_
 refine QV rfl rfl (Q rfl (fun _ _ φ ψ => AOp.remP rfl (φ 5 rfl) rfl (by omega) (by omega) ⟨rfl, ψ⟩) (Q rfl (fun _ _ φ ψ => iF_ rfl (φ 1 rfl) (φ 6 rfl) ar_25 (by omega) (by omega) ⟨rfl, ψ⟩) (QL rfl rfl ty_3 (ld_off (o := 0 + (k % 4).toNat * 1) (by omega) (ld1 (i := k % 4) (by omega) (by first | (have := hvs; omega) | (simp; omega)))) (QV rfl rfl (Q rfl (fun _ _ φ ψ => AOp.quoP rfl (φ 9 rfl) rfl (by omega) ⟨rfl, ψ⟩) (Q rfl (fun _ _ φ ψ => iF_ rfl (φ 2 rfl) (φ 10 rfl) ar_25 (by omega) (by omega) ⟨rfl, ψ⟩) (QL rfl rfl ty_3 (ld_off (o := 0 + (k / 4).toNat * 1) (by omega) (ld1 (i := k / 4) (by omega) (by first | (have := hws; omega) | (simp; omega)))) (QB rfl rfl rfl (imul (by have := mul_rng (x := at_ vs (k % 4)) (k := at_ ws (k / 4)) (A := 12288) (C := 12288) (by have := hv (k % 4) (by omega) (by omega); omega) (by have := hw (k / 4) (by omega) (by omega); omega); omega)) (Q rfl (fun _ _ φ ψ => As _ rfl (φ 13 rfl) ⟨rfl, ψ⟩) ?_)))))))))
 refine QE.done fun H1 m2 => ?_
 have m3 := m0.trans m2
 refine rt_ ?_
 refine Rr (Res.one rfl rfl) ?_ m3
 exact rfl
theorem c_weighC (l : List VT) (hl : l.length = 4) (ws : List Int) (hws : ws.length = 4) (hb : ∀ k : Int, 0 ≤ k → k < 4 → 0 ≤ at_ ws k ∧ at_ ws k ≤ 12288) : PC Tryd.prog 93 [.sl l.length (l.flatMap eV), .fn 94 [.fptr (ws.map eI) 0]] (.tup [.agg [J (((weighR l (fun k => at_ ws k)).1).X), J (((weighR l (fun k => at_ ws k)).1).Y), J (((weighR l (fun k => at_ ws k)).1).Z)], .bool ((weighR l (fun k => at_ ws k)).2)]) := by
 intro H0
 have hwt : ∀ k : Int, 0 ≤ k → k < 4 → 0 ≤ at_ ws k ∧ at_ ws k ≤ 12288 := hb
 refine ACalls.of_body' (n := 47) rfl rfl rfl rfl ?_
 have m0 := Mono.refl H0
 refine Sr ?_
 refine C rfl (al_ rfl tz_23 ?_)
 intro i1 H2 n3 h4 k5
 have z6 := Mono.free m0 n3
 have m7 := Mono.new m0 n3 k5
 refine A rfl rfl ?_
 refine Sr ?_
 refine C rfl (al_ rfl tz_23 ?_)
 intro i8 H9 n10 h11 k12
 have e13 := ne_new h4 n10
 have z14 := Mono.free m7 n10
 have h15 := keep k12 (ne_new h4 n10) h4
 have m16 := Mono.new m7 n10 k12
 refine Sr ?_
 refine A rfl rfl ?_
 refine AWP.seq ?_
 refine Sr ?_
 refine V rfl rfl (C rfl (AOp.len (m := l.length) rfl rfl (.inr (.inl ⟨_, rfl⟩)) u_34 (V rfl rfl ?_)))
 refine bk_ ?_
 refine AWP.loop (fun q17 fq Hq => ∃ (i : Int), q17 = ((l.length : Int) - i).toNat ∧ fq 12 = J i ∧ fq 7 = J (sumW (fun k => at_ ws k) i.toNat) ∧ fq 1 = .fn 94 [.fptr (ws.map eI) 0] ∧ fq 4 = .ptr i1 0 0 ∧ fq 6 = .ptr i8 0 0 ∧ fq 10 = .sl l.length (l.flatMap eV) ∧ fq 11 = J (l.length : Int) ∧ Hq i1 = some (.row 0 ([J 0, J 0, J 0])) ∧ Hq i8 = some (.row 0 ([J ((sumV l (fun k => at_ ws k) i.toNat).X), J ((sumV l (fun k => at_ ws k) i.toNat).Y), J ((sumV l (fun k => at_ ws k) i.toNat).Z)])) ∧ Mono H0 Hq ∧ (0 ≤ i) ∧ (i ≤ (l.length : Int)) ∧ (∀ j : Int, 0 ≤ j → j < i → inV 65536 (at_ l j))) (k := ((l.length : Int) - 0).toNat) ?_ ?_
 exact ⟨0, rfl, rfl, (congrArg (AV.int .i64) (show (0 : Int) = (sumW (fun k => at_ ws k) (0 : Int).toNat) from by rfl)), rfl, rfl, rfl, rfl, rfl, h15, (h11.trans (congrArg (fun c => some (AB.row 0 c)) (show ([J 0, J 0, J 0] : List AV) = [J ((sumV l (fun k => at_ ws k) (0 : Int).toNat).X), J ((sumV l (fun k => at_ ws k) (0 : Int).toNat).Y), J ((sumV l (fun k => at_ ws k) (0 : Int).toNat).Z)] from by first | rfl | (rw [sumV_step hi0])))), m16, by omega, by omega, by intro j; omega⟩
 rintro _ f19 H18 ⟨i, rfl, s20, s21, s22, s23, s24, s25, s26, h27, h28, m29, hi0, hi1, pre⟩
 refine Sr ?_
 refine B rfl s20 s26 rfl ?_
 refine AWP.seq ?_
 by_cases b30 : i < (l.length : Int)
 refine ct_ rfl (decide_eq_true b30) ?_
 refine AWP.skip ?_
 refine AWP.seq ?_
 refine bk_ ?_
 refine Sr ?_
 refine V rfl s20 (C rfl (iS_ rfl s25 s20 sl_34 (by omega) (by omega) (L rfl rfl ty_23 (ldM eV_len (by omega) (by omega)) (C rfl (al_ rfl tz_23 ?_)))))
 intro i31 H32 n33 h34 k35
 have e36 := ne_new h27 n33
 have e37 := ne_new h28 n33
 have z38 := Mono.free m29 n33
 have h39 := keep k35 (ne_new h27 n33) h27
 have h40 := keep k35 (ne_new h28 n33) h28
 have m41 := Mono.new m29 n33 k35
 refine A rfl rfl (C rfl (Sw rfl rfl ts_23 h34 rfl rfl rfl ?_))
 intro H42 h43 k44
 have h45 := keep k44 e36 h39
 have h46 := keep k44 e37 h40
 have m48 := Mono.set m41 z38 k44
 refine AWP.seq ?_
 refine AWP.seq ?_
 refine fz_ 9 h43 z38 rfl m48 fun H49 m50 k51 => ?_
 have h52 := (k51 _ e36).trans h45
 have h53 := (k51 _ e37).trans h46
 refine AWP.region rfl ?_
 refine L rfl rfl ty_23 rfl (C rfl (Pc («as» := [.agg [J ((at_ l i).X), J ((at_ l i).Y), J ((at_ l i).Z)], J 65536]) rfl rfl (rfl) tf_18 (c_vec_Within (at_ l i) 65536 (by first | omega | assumption | (constructor <;> omega) | simp)) ?_))
 intro H54 m55
 have h56 := m55 _ _ h52
 have h57 := m55 _ _ h53
 have m58 := m50.trans m55
 refine C rfl (AOp.not rfl rfl ?_)
 refine AOps.nil ?_
 change AWP _ _ _ _ _ _
 rcases Bool.eq_false_or_eq_true (R_vec_Within (at_ l i) 65536) with b59 | b59
 have iv60 : inV 65536 (at_ l i) := withinvec_in b59
 refine cf_ rfl (nb b59) ?_
 refine AWP.skip ?_
 refine AWP.seq ?_
 have hsv := sumV_rng (l := l) (wt := fun k => at_ ws k) (B := 12288) (n := i.toNat) (fun k hk => pre _ (by omega) (by omega)) (fun k hk => hwt _ (by omega) (by omega))
 have hsw := sumW_rng (wt := fun k => at_ ws k) (B := 12288) (n := i.toNat) (fun k hk => hwt _ (by omega) (by omega))
 rw [Int.toNat_of_nonneg hi0] at hsv hsw
 have hsv2 : inV 3221225472 (sumV l (fun k => at_ ws k) i.toNat) := inV_le hsv (by omega)
 have hwi := hwt i hi0 (by omega)
 refine AWP.region_quiet mixed (by kernel_rfl) 7 [7] rfl (by kernel_rfl) (Mono H54) (Mono.refl _) ?_
 refine Q rfl (fun _ _ φ ψ => Ld _ rfl ((φ 6 rfl).trans s24) ty_23 (ψ _ _ h57) rfl ⟨rfl, ψ⟩) (QL rfl rfl ty_23 rfl (QV rfl s22 (QV rfl rfl (Q rfl (fun _ _ φ ψ => Pc («as» := [J i, .fptr (ws.map eI) 0]) rfl (φ 23 rfl) (lapp (lcons (φ 24 rfl) rfl) rfl) tf_94 (c_Cubic1 ws hws i (by omega)) fun H2 m2 => ⟨rfl, ψ.trans m2⟩) (Q rfl (fun _ _ φ ψ => Pc («as» := [.agg [J ((at_ l i).X), J ((at_ l i).Y), J ((at_ l i).Z)], J (at_ ws i)]) rfl rfl (lapp (lcons (φ 22 rfl) (lcons (φ 25 rfl) rfl)) rfl) tf_59 (c_vec_Scale (at_ l i) (at_ ws i) (mulV_of iv60 (C := 12288) (by omega) (by decide))) fun H2 m2 => ⟨rfl, ψ.trans m2⟩) (Q rfl (fun _ _ φ ψ => Pc («as» := [.agg [J ((sumV l (fun k => at_ ws k) i.toNat).X), J ((sumV l (fun k => at_ ws k) i.toNat).Y), J ((sumV l (fun k => at_ ws k) i.toNat).Z)], .agg [J ((R_vec_Scale (at_ l i) (at_ ws i)).X), J ((R_vec_Scale (at_ l i) (at_ ws i)).Y), J ((R_vec_Scale (at_ l i) (at_ ws i)).Z)]]) rfl rfl (lapp (lcons (φ 21 rfl) (lcons (φ 26 rfl) rfl)) rfl) tf_38 (c_vec_Add (sumV l (fun k => at_ ws k) i.toNat) (R_vec_Scale (at_ l i) (at_ ws i)) (inV_le hsv2 (by decide)) (inV_le (inV_le (inV_vec_Scale iv60 (C := 12288) (by omega)) (by decide) : inV 805306368 _) (by decide))) fun H2 m2 => ⟨rfl, ψ.trans m2⟩) ?_))))))
 refine QE.done fun H61 m62 => ?_
 have h63 := m62 _ _ h56
 have h64 := m62 _ _ h57
 have m65 := m58.trans m62
 refine C rfl (Sw s24 rfl ts_23 h64 rfl rfl rfl ?_)
 intro H66 h67 k68
 have h69 := keep k68 e13 h63
 have m71 := Mono.set m65 z14 k68
 refine AWP.region rfl ?_
 refine V rfl s21 (V rfl s22 (V rfl rfl (C rfl (Pc («as» := [J i, .fptr (ws.map eI) 0]) rfl rfl (rfl) tf_94 (c_Cubic1 ws hws i (by omega)) ?_))))
 intro H72 m73
 have h74 := m73 _ _ h69
 have h75 := m73 _ _ h67
 have m76 := m71.trans m73
 refine B rfl rfl rfl (iadd (by omega)) (A rfl rfl ?_)
 refine AWP.region rfl ?_
 refine B rfl s20 rfl (iadd (by omega)) (V rfl rfl ?_)
 refine AOps.nil ?_
 exact ⟨_, by omega, i + 1, rfl, rfl, (congrArg (AV.int .i64) (show ((sumW (fun k => at_ ws k) i.toNat) + (at_ ws i) : Int) = (sumW (fun k => at_ ws k) (i + 1).toNat) from by rw [sumW_step hi0])), s22, s23, s24, s25, s26, h74, (h75.trans (congrArg (fun c => some (AB.row 0 c)) (show ([J ((R_vec_Add (sumV l (fun k => at_ ws k) i.toNat) (R_vec_Scale (at_ l i) (at_ ws i))).X), J ((R_vec_Add (sumV l (fun k => at_ ws k) i.toNat) (R_vec_Scale (at_ l i) (at_ ws i))).Y), J ((R_vec_Add (sumV l (fun k => at_ ws k) i.toNat) (R_vec_Scale (at_ l i) (at_ ws i))).Z)] : List AV) = [J ((sumV l (fun k => at_ ws k) (i + 1).toNat).X), J ((sumV l (fun k => at_ ws k) (i + 1).toNat).Y), J ((sumV l (fun k => at_ ws k) (i + 1).toNat).Z)] from by first | rfl | (rw [sumV_step hi0])))), m76, by omega, by omega, by exact fa_step pre iv60⟩
 refine ct_ rfl (nb b59) ?_
 refine Sr ?_
 refine C rfl (Bl (cells := [J 0, J 0, J 0]) rfl tz_23 pl_23 rfl rfl (C rfl (Sw s23 rfl ts_23 h56 rfl rfl rfl ?_)))
 intro H77 h78 k79
 have m82 := Mono.set m58 z6 k79
 refine A rfl rfl ?_
 refine rt_ ?_
 refine Rr (Res.list rfl rfl (.cell (v := .agg [J 0, J 0, J 0]) s23 ty_23 h78 rfl (.tmp rfl (.nil)))) ?_ m82
 exact congrArg AV.tup (lc (congrArg AV.agg (lc (congrArg (AV.int .i64) (show (0 : Int) = ((weighR l (fun k => at_ ws k)).1).X from by rw [weigh_F hi0 (by omega) b59])) (lc (congrArg (AV.int .i64) (show (0 : Int) = ((weighR l (fun k => at_ ws k)).1).Y from by rw [weigh_F hi0 (by omega) b59])) (lc (congrArg (AV.int .i64) (show (0 : Int) = ((weighR l (fun k => at_ ws k)).1).Z from by rw [weigh_F hi0 (by omega) b59])) rfl)))) (lc (congrArg AV.bool (show (false : Bool) = (weighR l (fun k => at_ ws k)).2 from by rw [weigh_F hi0 (by omega) b59])) rfl))
 refine cf_ rfl (decide_eq_false b30) ?_
 refine AWP.exit ?_
 change AWP _ _ _ _ _ _
 refine AWP.seq ?_
 have hie : i = l.length := by omega
 have hsv := sumV_rng (l := l) (wt := fun k => at_ ws k) (B := 12288) (n := i.toNat) (fun k hk => pre _ (by omega) (by omega)) (fun k hk => hwt _ (by omega) (by omega))
 have hsw := sumW_rng (wt := fun k => at_ ws k) (B := 12288) (n := i.toNat) (fun k hk => hwt _ (by omega) (by omega))
 rw [Int.toNat_of_nonneg hi0] at hsv hsw
 have hsv2 : inV 3221225472 (sumV l (fun k => at_ ws k) i.toNat) := inV_le hsv (by omega)
 skip
 refine AWP.region_quiet mixed (by kernel_rfl) 13 [13, 14] rfl (by kernel_rfl) (Mono H18) (Mono.refl _) ?_
 refine Q rfl (fun _ _ φ ψ => Fa rfl ((φ 6 rfl).trans s24) fl_23_0 ⟨rfl, ψ⟩ (hid := ⟨_, (ψ _ _ h28)⟩)) (Q rfl (fun _ _ φ ψ => Ld _ rfl (φ 34 rfl) ty_3 (ψ _ _ h28) rfl ⟨rfl, ψ⟩) (QV rfl s21 (Q rfl (fun _ _ φ ψ => Pc («as» := [J ((sumV l (fun k => at_ ws k) i.toNat).X), J (sumW (fun k => at_ ws k) i.toNat)]) rfl rfl (lapp (lcons (φ 35 rfl) (lcons (φ 36 rfl) rfl)) rfl) tf_57 (c_vec_Round ((sumV l (fun k => at_ ws k) i.toNat).X) (sumW (fun k => at_ ws k) i.toNat) (by first | omega | assumption | (constructor <;> omega) | simp) (by first | omega | assumption | (constructor <;> omega) | simp)) fun H2 m2 => ⟨rfl, ψ.trans m2⟩) (Q rfl (fun _ _ φ ψ => Fa rfl ((φ 6 rfl).trans s24) fl_23_1 ⟨rfl, ψ⟩ (hid := ⟨_, (ψ _ _ h28)⟩)) (Q rfl (fun _ _ φ ψ => Ld _ rfl (φ 38 rfl) ty_3 (ψ _ _ h28) rfl ⟨rfl, ψ⟩) (QV rfl s21 (Q rfl (fun _ _ φ ψ => Pc («as» := [J ((sumV l (fun k => at_ ws k) i.toNat).Y), J (sumW (fun k => at_ ws k) i.toNat)]) rfl rfl (lapp (lcons (φ 39 rfl) (lcons (φ 40 rfl) rfl)) rfl) tf_57 (c_vec_Round ((sumV l (fun k => at_ ws k) i.toNat).Y) (sumW (fun k => at_ ws k) i.toNat) (by first | omega | assumption | (constructor <;> omega) | simp) (by first | omega | assumption | (constructor <;> omega) | simp)) fun H2 m2 => ⟨rfl, ψ.trans m2⟩) (Q rfl (fun _ _ φ ψ => Fa rfl ((φ 6 rfl).trans s24) fl_23_2 ⟨rfl, ψ⟩ (hid := ⟨_, (ψ _ _ h28)⟩)) (Q rfl (fun _ _ φ ψ => Ld _ rfl (φ 42 rfl) ty_3 (ψ _ _ h28) rfl ⟨rfl, ψ⟩) (QV rfl s21 (Q rfl (fun _ _ φ ψ => Pc («as» := [J ((sumV l (fun k => at_ ws k) i.toNat).Z), J (sumW (fun k => at_ ws k) i.toNat)]) rfl rfl (lapp (lcons (φ 43 rfl) (lcons (φ 44 rfl) rfl)) rfl) tf_57 (c_vec_Round ((sumV l (fun k => at_ ws k) i.toNat).Z) (sumW (fun k => at_ ws k) i.toNat) (by first | omega | assumption | (constructor <;> omega) | simp) (by first | omega | assumption | (constructor <;> omega) | simp)) fun H2 m2 => ⟨rfl, ψ.trans m2⟩) (Q rfl (fun _ _ φ ψ => Bl (cells := [J (R_vec_Round ((sumV l (fun k => at_ ws k) i.toNat).X) (sumW (fun k => at_ ws k) i.toNat)), J (R_vec_Round ((sumV l (fun k => at_ ws k) i.toNat).Y) (sumW (fun k => at_ ws k) i.toNat)), J (R_vec_Round ((sumV l (fun k => at_ ws k) i.toNat).Z) (sumW (fun k => at_ ws k) i.toNat))]) rfl tz_23 pl_23 (lconsP (φ 37 rfl) (lconsP (φ 41 rfl) (lconsP (φ 45 rfl) rfl))) rfl ⟨rfl, ψ⟩) ?_))))))))))))
 refine QE.done fun H83 m84 => ?_
 have h85 := m84 _ _ h27
 have h86 := m84 _ _ h28
 have m87 := m29.trans m84
 refine C rfl (Sw s23 rfl ts_23 h85 rfl rfl rfl ?_)
 intro H88 h89 k90
 have m93 := Mono.set m87 z6 k90
 refine A rfl rfl ?_
 refine rt_ ?_
 refine Rr (Res.list rfl rfl (.cell (v := .agg [J (R_vec_Round ((sumV l (fun k => at_ ws k) i.toNat).X) (sumW (fun k => at_ ws k) i.toNat)), J (R_vec_Round ((sumV l (fun k => at_ ws k) i.toNat).Y) (sumW (fun k => at_ ws k) i.toNat)), J (R_vec_Round ((sumV l (fun k => at_ ws k) i.toNat).Z) (sumW (fun k => at_ ws k) i.toNat))]) s23 ty_23 h89 rfl (.tmp rfl (.nil)))) ?_ m93
 exact congrArg AV.tup (lc (congrArg AV.agg (lc (congrArg (AV.int .i64) (show (R_vec_Round ((sumV l (fun k => at_ ws k) i.toNat).X) (sumW (fun k => at_ ws k) i.toNat) : Int) = ((weighR l (fun k => at_ ws k)).1).X from by rw [weigh_T hie pre])) (lc (congrArg (AV.int .i64) (show (R_vec_Round ((sumV l (fun k => at_ ws k) i.toNat).Y) (sumW (fun k => at_ ws k) i.toNat) : Int) = ((weighR l (fun k => at_ ws k)).1).Y from by rw [weigh_T hie pre])) (lc (congrArg (AV.int .i64) (show (R_vec_Round ((sumV l (fun k => at_ ws k) i.toNat).Z) (sumW (fun k => at_ ws k) i.toNat) : Int) = ((weighR l (fun k => at_ ws k)).1).Z from by rw [weigh_T hie pre])) rfl)))) (lc (congrArg AV.bool (show (true : Bool) = (weighR l (fun k => at_ ws k)).2 from by rw [weigh_T hie pre])) rfl))
abbrev ZweighP_0 (l : List VT) (vs : List Int) (ws : List Int) (i : Int) := R_vec_Scale (at_ l i) (at_ vs (i % 4) * at_ ws (i / 4))
theorem c_weighP (l : List VT) (hl : l.length = 16) (vs ws : List Int) (hvs : vs.length = 4) (hws : ws.length = 4) (hv : ∀ k : Int, 0 ≤ k → k < 4 → 0 ≤ at_ vs k ∧ at_ vs k ≤ 12288) (hw : ∀ k : Int, 0 ≤ k → k < 4 → 0 ≤ at_ ws k ∧ at_ ws k ≤ 12288) : PC Tryd.prog 93 [.sl l.length (l.flatMap eV), .fn 95 [.fptr (vs.map eI) 0, .fptr (ws.map eI) 0]] (.tup [.agg [J (((weighR l (fun k => at_ vs (k % 4) * at_ ws (k / 4))).1).X), J (((weighR l (fun k => at_ vs (k % 4) * at_ ws (k / 4))).1).Y), J (((weighR l (fun k => at_ vs (k % 4) * at_ ws (k / 4))).1).Z)], .bool ((weighR l (fun k => at_ vs (k % 4) * at_ ws (k / 4))).2)]) := by
 intro H0
 have hwt : ∀ k : Int, 0 ≤ k → k < 16 → 0 ≤ at_ vs (k % 4) * at_ ws (k / 4) ∧ at_ vs (k % 4) * at_ ws (k / 4) ≤ 150994944 := fun k h0 h1 => mul_nn (hv _ (by omega) (by omega)) (hw _ (by omega) (by omega))
 refine ACalls.of_body' (n := 47) rfl rfl rfl rfl ?_
 have m0 := Mono.refl H0
 refine Sr ?_
 refine C rfl (al_ rfl tz_23 ?_)
 intro i1 H2 n3 h4 k5
 have z6 := Mono.free m0 n3
 have m7 := Mono.new m0 n3 k5
 refine A rfl rfl ?_
 refine Sr ?_
 refine C rfl (al_ rfl tz_23 ?_)
 intro i8 H9 n10 h11 k12
 have e13 := ne_new h4 n10
 have z14 := Mono.free m7 n10
 have h15 := keep k12 (ne_new h4 n10) h4
 have m16 := Mono.new m7 n10 k12
 refine Sr ?_
 refine A rfl rfl ?_
 refine AWP.seq ?_
 refine Sr ?_
 refine V rfl rfl (C rfl (AOp.len (m := l.length) rfl rfl (.inr (.inl ⟨_, rfl⟩)) u_34 (V rfl rfl ?_)))
 refine bk_ ?_
 refine AWP.loop (fun q17 fq Hq => ∃ (i : Int), q17 = ((l.length : Int) - i).toNat ∧ fq 12 = J i ∧ fq 7 = J (sumW (fun k => at_ vs (k % 4) * at_ ws (k / 4)) i.toNat) ∧ fq 1 = .fn 95 [.fptr (vs.map eI) 0, .fptr (ws.map eI) 0] ∧ fq 4 = .ptr i1 0 0 ∧ fq 6 = .ptr i8 0 0 ∧ fq 10 = .sl l.length (l.flatMap eV) ∧ fq 11 = J (l.length : Int) ∧ Hq i1 = some (.row 0 ([J 0, J 0, J 0])) ∧ Hq i8 = some (.row 0 ([J ((sumV l (fun k => at_ vs (k % 4) * at_ ws (k / 4)) i.toNat).X), J ((sumV l (fun k => at_ vs (k % 4) * at_ ws (k / 4)) i.toNat).Y), J ((sumV l (fun k => at_ vs (k % 4) * at_ ws (k / 4)) i.toNat).Z)])) ∧ Mono H0 Hq ∧ (0 ≤ i) ∧ (i ≤ (l.length : Int)) ∧ (∀ j : Int, 0 ≤ j → j < i → inV 65536 (at_ l j))) (k := ((l.length : Int) - 0).toNat) ?_ ?_
 exact ⟨0, rfl, rfl, (congrArg (AV.int .i64) (show (0 : Int) = (sumW (fun k => at_ vs (k % 4) * at_ ws (k / 4)) (0 : Int).toNat) from by rfl)), rfl, rfl, rfl, rfl, rfl, h15, (h11.trans (congrArg (fun c => some (AB.row 0 c)) (show ([J 0, J 0, J 0] : List AV) = [J ((sumV l (fun k => at_ vs (k % 4) * at_ ws (k / 4)) (0 : Int).toNat).X), J ((sumV l (fun k => at_ vs (k % 4) * at_ ws (k / 4)) (0 : Int).toNat).Y), J ((sumV l (fun k => at_ vs (k % 4) * at_ ws (k / 4)) (0 : Int).toNat).Z)] from by first | rfl | (rw [sumV_step hi0])))), m16, by omega, by omega, by intro j; omega⟩
 rintro _ f19 H18 ⟨i, rfl, s20, s21, s22, s23, s24, s25, s26, h27, h28, m29, hi0, hi1, pre⟩
 refine Sr ?_
 refine B rfl s20 s26 rfl ?_
 refine AWP.seq ?_
 by_cases b30 : i < (l.length : Int)
 refine ct_ rfl (decide_eq_true b30) ?_
 refine AWP.skip ?_
 refine AWP.seq ?_
 refine bk_ ?_
 refine Sr ?_
 refine V rfl s20 (C rfl (iS_ rfl s25 s20 sl_34 (by omega) (by omega) (L rfl rfl ty_23 (ldM eV_len (by omega) (by omega)) (C rfl (al_ rfl tz_23 ?_)))))
 intro i31 H32 n33 h34 k35
 have e36 := ne_new h27 n33
 have e37 := ne_new h28 n33
 have z38 := Mono.free m29 n33
 have h39 := keep k35 (ne_new h27 n33) h27
 have h40 := keep k35 (ne_new h28 n33) h28
 have m41 := Mono.new m29 n33 k35
 refine A rfl rfl (C rfl (Sw rfl rfl ts_23 h34 rfl rfl rfl ?_))
 intro H42 h43 k44
 have h45 := keep k44 e36 h39
 have h46 := keep k44 e37 h40
 have m48 := Mono.set m41 z38 k44
 refine AWP.seq ?_
 refine AWP.seq ?_
 refine fz_ 9 h43 z38 rfl m48 fun H49 m50 k51 => ?_
 have h52 := (k51 _ e36).trans h45
 have h53 := (k51 _ e37).trans h46
 refine AWP.region rfl ?_
 refine L rfl rfl ty_23 rfl (C rfl (Pc («as» := [.agg [J ((at_ l i).X), J ((at_ l i).Y), J ((at_ l i).Z)], J 65536]) rfl rfl (rfl) tf_18 (c_vec_Within (at_ l i) 65536 (by first | omega | assumption | (constructor <;> omega) | simp)) ?_))
 intro H54 m55
 have h56 := m55 _ _ h52
 have h57 := m55 _ _ h53
 have m58 := m50.trans m55
 refine C rfl (AOp.not rfl rfl ?_)
 refine AOps.nil ?_
 change AWP _ _ _ _ _ _
 rcases Bool.eq_false_or_eq_true (R_vec_Within (at_ l i) 65536) with b59 | b59
 have iv60 : inV 65536 (at_ l i) := withinvec_in b59
 refine cf_ rfl (nb b59) ?_
 refine AWP.skip ?_
 refine AWP.seq ?_
 have hsv := sumV_rng (l := l) (wt := fun k => at_ vs (k % 4) * at_ ws (k / 4)) (B := 150994944) (n := i.toNat) (fun k hk => pre _ (by omega) (by omega)) (fun k hk => hwt _ (by omega) (by omega))
 have hsw := sumW_rng (wt := fun k => at_ vs (k % 4) * at_ ws (k / 4)) (B := 150994944) (n := i.toNat) (fun k hk => hwt _ (by omega) (by omega))
 rw [Int.toNat_of_nonneg hi0] at hsv hsw
 have hsv2 : inV 158329674399744 (sumV l (fun k => at_ vs (k % 4) * at_ ws (k / 4)) i.toNat) := inV_le hsv (by omega)
 have hwi := hwt i hi0 (by omega)
 refine AWP.region_quiet mixed (by kernel_rfl) 7 [7] rfl (by kernel_rfl) (Mono H54) (Mono.refl _) ?_
 refine Q rfl (fun _ _ φ ψ => Ld _ rfl ((φ 6 rfl).trans s24) ty_23 (ψ _ _ h57) rfl ⟨rfl, ψ⟩) (QL rfl rfl ty_23 rfl (QV rfl s22 (QV rfl rfl (Q rfl (fun _ _ φ ψ => Pc («as» := [J i, .fptr (vs.map eI) 0, .fptr (ws.map eI) 0]) rfl (φ 23 rfl) (lapp (lcons (φ 24 rfl) rfl) rfl) tf_95 (c_Point1 vs ws hvs hws (by assumption) (by assumption) i (by omega)) fun H2 m2 => ⟨rfl, ψ.trans m2⟩) (Q rfl (fun _ _ φ ψ => Pc («as» := [.agg [J ((at_ l i).X), J ((at_ l i).Y), J ((at_ l i).Z)], J (at_ vs (i % 4) * at_ ws (i / 4))]) rfl rfl (lapp (lcons (φ 22 rfl) (lcons (φ 25 rfl) rfl)) rfl) tf_59 (c_vec_Scale (at_ l i) (at_ vs (i % 4) * at_ ws (i / 4)) (mulV_of iv60 (C := 150994944) (by omega) (by decide))) fun H2 m2 => ⟨rfl, ψ.trans m2⟩) (Q rfl (fun _ _ φ ψ => Pc («as» := [.agg [J ((sumV l (fun k => at_ vs (k % 4) * at_ ws (k / 4)) i.toNat).X), J ((sumV l (fun k => at_ vs (k % 4) * at_ ws (k / 4)) i.toNat).Y), J ((sumV l (fun k => at_ vs (k % 4) * at_ ws (k / 4)) i.toNat).Z)], .agg [J ((ZweighP_0 l vs ws i).X), J ((ZweighP_0 l vs ws i).Y), J ((ZweighP_0 l vs ws i).Z)]]) rfl rfl (lapp (lcons (φ 21 rfl) (lcons (φ 26 rfl) rfl)) rfl) tf_38 (c_vec_Add (sumV l (fun k => at_ vs (k % 4) * at_ ws (k / 4)) i.toNat) (ZweighP_0 l vs ws i) (inV_le hsv2 (by decide)) (inV_le (inV_le (inV_vec_Scale iv60 (C := 150994944) (by omega)) (by decide) : inV 9895604649984 _) (by decide))) fun H2 m2 => ⟨rfl, ψ.trans m2⟩) ?_))))))
 refine QE.done fun H61 m62 => ?_
 have h63 := m62 _ _ h56
 have h64 := m62 _ _ h57
 have m65 := m58.trans m62
 refine C rfl (Sw s24 rfl ts_23 h64 rfl rfl rfl ?_)
 intro H66 h67 k68
 have h69 := keep k68 e13 h63
 have m71 := Mono.set m65 z14 k68
 refine AWP.region rfl ?_
 refine V rfl s21 (V rfl s22 (V rfl rfl (C rfl (Pc («as» := [J i, .fptr (vs.map eI) 0, .fptr (ws.map eI) 0]) rfl rfl (rfl) tf_95 (c_Point1 vs ws hvs hws (by assumption) (by assumption) i (by omega)) ?_))))
 intro H72 m73
 have h74 := m73 _ _ h69
 have h75 := m73 _ _ h67
 have m76 := m71.trans m73
 refine B rfl rfl rfl (iadd (by omega)) (A rfl rfl ?_)
 refine AWP.region rfl ?_
 refine B rfl s20 rfl (iadd (by omega)) (V rfl rfl ?_)
 refine AOps.nil ?_
 exact ⟨_, by omega, i + 1, rfl, rfl, (congrArg (AV.int .i64) (show ((sumW (fun k => at_ vs (k % 4) * at_ ws (k / 4)) i.toNat) + (at_ vs (i % 4) * at_ ws (i / 4)) : Int) = (sumW (fun k => at_ vs (k % 4) * at_ ws (k / 4)) (i + 1).toNat) from by rw [sumW_step hi0])), s22, s23, s24, s25, s26, h74, (h75.trans (congrArg (fun c => some (AB.row 0 c)) (show ([J ((R_vec_Add (sumV l (fun k => at_ vs (k % 4) * at_ ws (k / 4)) i.toNat) (ZweighP_0 l vs ws i)).X), J ((R_vec_Add (sumV l (fun k => at_ vs (k % 4) * at_ ws (k / 4)) i.toNat) (ZweighP_0 l vs ws i)).Y), J ((R_vec_Add (sumV l (fun k => at_ vs (k % 4) * at_ ws (k / 4)) i.toNat) (ZweighP_0 l vs ws i)).Z)] : List AV) = [J ((sumV l (fun k => at_ vs (k % 4) * at_ ws (k / 4)) (i + 1).toNat).X), J ((sumV l (fun k => at_ vs (k % 4) * at_ ws (k / 4)) (i + 1).toNat).Y), J ((sumV l (fun k => at_ vs (k % 4) * at_ ws (k / 4)) (i + 1).toNat).Z)] from by first | rfl | (rw [sumV_step hi0])))), m76, by omega, by omega, by exact fa_step pre iv60⟩
 refine ct_ rfl (nb b59) ?_
 refine Sr ?_
 refine C rfl (Bl (cells := [J 0, J 0, J 0]) rfl tz_23 pl_23 rfl rfl (C rfl (Sw s23 rfl ts_23 h56 rfl rfl rfl ?_)))
 intro H77 h78 k79
 have m82 := Mono.set m58 z6 k79
 refine A rfl rfl ?_
 refine rt_ ?_
 refine Rr (Res.list rfl rfl (.cell (v := .agg [J 0, J 0, J 0]) s23 ty_23 h78 rfl (.tmp rfl (.nil)))) ?_ m82
 exact congrArg AV.tup (lc (congrArg AV.agg (lc (congrArg (AV.int .i64) (show (0 : Int) = ((weighR l (fun k => at_ vs (k % 4) * at_ ws (k / 4))).1).X from by rw [weigh_F hi0 (by omega) b59])) (lc (congrArg (AV.int .i64) (show (0 : Int) = ((weighR l (fun k => at_ vs (k % 4) * at_ ws (k / 4))).1).Y from by rw [weigh_F hi0 (by omega) b59])) (lc (congrArg (AV.int .i64) (show (0 : Int) = ((weighR l (fun k => at_ vs (k % 4) * at_ ws (k / 4))).1).Z from by rw [weigh_F hi0 (by omega) b59])) rfl)))) (lc (congrArg AV.bool (show (false : Bool) = (weighR l (fun k => at_ vs (k % 4) * at_ ws (k / 4))).2 from by rw [weigh_F hi0 (by omega) b59])) rfl))
 refine cf_ rfl (decide_eq_false b30) ?_
 refine AWP.exit ?_
 change AWP _ _ _ _ _ _
 refine AWP.seq ?_
 have hie : i = l.length := by omega
 have hsv := sumV_rng (l := l) (wt := fun k => at_ vs (k % 4) * at_ ws (k / 4)) (B := 150994944) (n := i.toNat) (fun k hk => pre _ (by omega) (by omega)) (fun k hk => hwt _ (by omega) (by omega))
 have hsw := sumW_rng (wt := fun k => at_ vs (k % 4) * at_ ws (k / 4)) (B := 150994944) (n := i.toNat) (fun k hk => hwt _ (by omega) (by omega))
 rw [Int.toNat_of_nonneg hi0] at hsv hsw
 have hsv2 : inV 158329674399744 (sumV l (fun k => at_ vs (k % 4) * at_ ws (k / 4)) i.toNat) := inV_le hsv (by omega)
 skip
 refine AWP.region_quiet mixed (by kernel_rfl) 13 [13, 14] rfl (by kernel_rfl) (Mono H18) (Mono.refl _) ?_
 refine Q rfl (fun _ _ φ ψ => Fa rfl ((φ 6 rfl).trans s24) fl_23_0 ⟨rfl, ψ⟩ (hid := ⟨_, (ψ _ _ h28)⟩)) (Q rfl (fun _ _ φ ψ => Ld _ rfl (φ 34 rfl) ty_3 (ψ _ _ h28) rfl ⟨rfl, ψ⟩) (QV rfl s21 (Q rfl (fun _ _ φ ψ => Pc («as» := [J ((sumV l (fun k => at_ vs (k % 4) * at_ ws (k / 4)) i.toNat).X), J (sumW (fun k => at_ vs (k % 4) * at_ ws (k / 4)) i.toNat)]) rfl rfl (lapp (lcons (φ 35 rfl) (lcons (φ 36 rfl) rfl)) rfl) tf_57 (c_vec_Round ((sumV l (fun k => at_ vs (k % 4) * at_ ws (k / 4)) i.toNat).X) (sumW (fun k => at_ vs (k % 4) * at_ ws (k / 4)) i.toNat) (by first | omega | assumption | (constructor <;> omega) | simp) (by first | omega | assumption | (constructor <;> omega) | simp)) fun H2 m2 => ⟨rfl, ψ.trans m2⟩) (Q rfl (fun _ _ φ ψ => Fa rfl ((φ 6 rfl).trans s24) fl_23_1 ⟨rfl, ψ⟩ (hid := ⟨_, (ψ _ _ h28)⟩)) (Q rfl (fun _ _ φ ψ => Ld _ rfl (φ 38 rfl) ty_3 (ψ _ _ h28) rfl ⟨rfl, ψ⟩) (QV rfl s21 (Q rfl (fun _ _ φ ψ => Pc («as» := [J ((sumV l (fun k => at_ vs (k % 4) * at_ ws (k / 4)) i.toNat).Y), J (sumW (fun k => at_ vs (k % 4) * at_ ws (k / 4)) i.toNat)]) rfl rfl (lapp (lcons (φ 39 rfl) (lcons (φ 40 rfl) rfl)) rfl) tf_57 (c_vec_Round ((sumV l (fun k => at_ vs (k % 4) * at_ ws (k / 4)) i.toNat).Y) (sumW (fun k => at_ vs (k % 4) * at_ ws (k / 4)) i.toNat) (by first | omega | assumption | (constructor <;> omega) | simp) (by first | omega | assumption | (constructor <;> omega) | simp)) fun H2 m2 => ⟨rfl, ψ.trans m2⟩) (Q rfl (fun _ _ φ ψ => Fa rfl ((φ 6 rfl).trans s24) fl_23_2 ⟨rfl, ψ⟩ (hid := ⟨_, (ψ _ _ h28)⟩)) (Q rfl (fun _ _ φ ψ => Ld _ rfl (φ 42 rfl) ty_3 (ψ _ _ h28) rfl ⟨rfl, ψ⟩) (QV rfl s21 (Q rfl (fun _ _ φ ψ => Pc («as» := [J ((sumV l (fun k => at_ vs (k % 4) * at_ ws (k / 4)) i.toNat).Z), J (sumW (fun k => at_ vs (k % 4) * at_ ws (k / 4)) i.toNat)]) rfl rfl (lapp (lcons (φ 43 rfl) (lcons (φ 44 rfl) rfl)) rfl) tf_57 (c_vec_Round ((sumV l (fun k => at_ vs (k % 4) * at_ ws (k / 4)) i.toNat).Z) (sumW (fun k => at_ vs (k % 4) * at_ ws (k / 4)) i.toNat) (by first | omega | assumption | (constructor <;> omega) | simp) (by first | omega | assumption | (constructor <;> omega) | simp)) fun H2 m2 => ⟨rfl, ψ.trans m2⟩) (Q rfl (fun _ _ φ ψ => Bl (cells := [J (R_vec_Round ((sumV l (fun k => at_ vs (k % 4) * at_ ws (k / 4)) i.toNat).X) (sumW (fun k => at_ vs (k % 4) * at_ ws (k / 4)) i.toNat)), J (R_vec_Round ((sumV l (fun k => at_ vs (k % 4) * at_ ws (k / 4)) i.toNat).Y) (sumW (fun k => at_ vs (k % 4) * at_ ws (k / 4)) i.toNat)), J (R_vec_Round ((sumV l (fun k => at_ vs (k % 4) * at_ ws (k / 4)) i.toNat).Z) (sumW (fun k => at_ vs (k % 4) * at_ ws (k / 4)) i.toNat))]) rfl tz_23 pl_23 (lconsP (φ 37 rfl) (lconsP (φ 41 rfl) (lconsP (φ 45 rfl) rfl))) rfl ⟨rfl, ψ⟩) ?_))))))))))))
 refine QE.done fun H83 m84 => ?_
 have h85 := m84 _ _ h27
 have h86 := m84 _ _ h28
 have m87 := m29.trans m84
 refine C rfl (Sw s23 rfl ts_23 h85 rfl rfl rfl ?_)
 intro H88 h89 k90
 have m93 := Mono.set m87 z6 k90
 refine A rfl rfl ?_
 refine rt_ ?_
 refine Rr (Res.list rfl rfl (.cell (v := .agg [J (R_vec_Round ((sumV l (fun k => at_ vs (k % 4) * at_ ws (k / 4)) i.toNat).X) (sumW (fun k => at_ vs (k % 4) * at_ ws (k / 4)) i.toNat)), J (R_vec_Round ((sumV l (fun k => at_ vs (k % 4) * at_ ws (k / 4)) i.toNat).Y) (sumW (fun k => at_ vs (k % 4) * at_ ws (k / 4)) i.toNat)), J (R_vec_Round ((sumV l (fun k => at_ vs (k % 4) * at_ ws (k / 4)) i.toNat).Z) (sumW (fun k => at_ vs (k % 4) * at_ ws (k / 4)) i.toNat))]) s23 ty_23 h89 rfl (.tmp rfl (.nil)))) ?_ m93
 exact congrArg AV.tup (lc (congrArg AV.agg (lc (congrArg (AV.int .i64) (show (R_vec_Round ((sumV l (fun k => at_ vs (k % 4) * at_ ws (k / 4)) i.toNat).X) (sumW (fun k => at_ vs (k % 4) * at_ ws (k / 4)) i.toNat) : Int) = ((weighR l (fun k => at_ vs (k % 4) * at_ ws (k / 4))).1).X from by rw [weigh_T hie pre])) (lc (congrArg (AV.int .i64) (show (R_vec_Round ((sumV l (fun k => at_ vs (k % 4) * at_ ws (k / 4)) i.toNat).Y) (sumW (fun k => at_ vs (k % 4) * at_ ws (k / 4)) i.toNat) : Int) = ((weighR l (fun k => at_ vs (k % 4) * at_ ws (k / 4))).1).Y from by rw [weigh_T hie pre])) (lc (congrArg (AV.int .i64) (show (R_vec_Round ((sumV l (fun k => at_ vs (k % 4) * at_ ws (k / 4)) i.toNat).Z) (sumW (fun k => at_ vs (k % 4) * at_ ws (k / 4)) i.toNat) : Int) = ((weighR l (fun k => at_ vs (k % 4) * at_ ws (k / 4))).1).Z from by rw [weigh_T hie pre])) rfl)))) (lc (congrArg AV.bool (show (true : Bool) = (weighR l (fun k => at_ vs (k % 4) * at_ ws (k / 4))).2 from by rw [weigh_T hie pre])) rfl))
def R_curve_Cubic (p : (List VT)) (i : Int) (n : Int) : VT × Bool :=
  if (R_curve_weights i n).2 = true then (((weighR p (fun k => at_ ((R_curve_weights i n).1) k)).1), (weighR p (fun k => at_ ((R_curve_weights i n).1) k)).2) else ((VT.mk 0 0 0), false)
def Tcurve_Cubic (r : VT × Bool) : AV := .tup [.agg [J r.1.X, J r.1.Y, J r.1.Z], .bool r.2]
theorem c_curve_Cubic (p : (List VT)) (h_p : p.length = 4) (i : Int) (n : Int) : PC Tryd.prog 84 [.agg (p.flatMap eV), J i, J n] (.tup [.agg [J (((R_curve_Cubic p i n).1).X), J (((R_curve_Cubic p i n).1).Y), J (((R_curve_Cubic p i n).1).Z)], .bool ((R_curve_Cubic p i n).2)]) := by
 intro H0
 refine ACalls.of_body' (n := 24) rfl rfl rfl rfl ?_
 have m0 := Mono.refl H0
 refine Sr ?_
 refine C rfl (bx_ (.agg (p.flatMap eV)) rfl rfl rfl ?_)
 intro i1 H2 n3 h4 k5
 have z6 := Mono.free m0 n3
 have m7 := Mono.new m0 n3 k5
 refine C rfl (al_ rfl tz_23 ?_)
 intro i8 H9 n10 h11 k12
 have e13 := ne_new h4 n10
 have z14 := Mono.free m7 n10
 have h15 := keep k12 (ne_new h4 n10) h4
 have m16 := Mono.new m7 n10 k12
 refine A rfl rfl ?_
 refine AWP.seq ?_
 refine fz_ 3 h15 z6 rfl m16 fun H17 m18 k19 => ?_
 have h20 := (k19 _ (Ne.symm e13)).trans h11
 refine AWP.region rfl ?_
 refine V rfl rfl (V rfl rfl (C rfl (Pc («as» := [J i, J n]) rfl rfl (rfl) tf_92 (c_curve_weights i n) ?_)))
 intro H21 m22
 have h23 := m22 _ _ h20
 have m24 := m18.trans m22
 refine V rfl rfl (E rfl rfl rfl (E rfl rfl rfl (C rfl (al_ rfl tz_25 ?_))))
 intro i25 H26 n27 h28 k29
 have e30 := ne_new h23 n27
 have z31 := Mono.free m24 n27
 have h32 := keep k29 (ne_new h23 n27) h23
 have m33 := Mono.new m24 n27 k29
 refine C rfl (So (cells' := ((R_curve_weights i n).1).map eI) (.agg (((R_curve_weights i n).1).map eI)) rfl rfl ts_25 h28 (by simp only [AV.cells, List.all_append, List.all_cons, List.all_nil, Bool.and_true, Bool.and_eq_true]; exact (all_one1 eI_one _)) (show (AV.cells (.agg (((R_curve_weights i n).1).map eI))).length = 4 from (len1 (R_curve_weights_len i n))) rfl (wr_all rfl (len1 (R_curve_weights_len i n))) ?_)
 intro H34 h35 k36
 have h37 := keep k36 e30 h32
 have m39 := Mono.set m33 z31 k36
 refine A rfl rfl ?_
 refine AWP.seq ?_
 refine AWP.seq ?_
 refine fz_ 8 h35 z31 rfl m39 fun H40 m41 k42 => ?_
 have h43 := (k42 _ e30).trans h37
 refine AWP.region rfl ?_
 refine V rfl rfl (C rfl (AOp.not rfl rfl ?_))
 refine AOps.nil ?_
 change AWP _ _ _ _ _ _
 rcases Bool.eq_false_or_eq_true ((R_curve_weights i n).2) with b44 | b44
 refine cf_ rfl (nb b44) ?_
 refine AWP.skip ?_
 refine Sr ?_
 refine C rfl (AOp.sliceAF rfl rfl ar_26 h_p SubAt.all (C rfl (AOp.makeFunc (cs := [.fptr (((R_curve_weights i n).1).map eI) 0]) rfl rfl (C rfl (Pc («as» := [.sl p.length (p.flatMap eV), .fn 94 [.fptr (((R_curve_weights i n).1).map eI) 0]]) rfl rfl (rfl) tf_93 (c_weighC p (by assumption) ((R_curve_weights i n).1) (R_curve_weights_len i n) (weights_rng _ _)) ?_)))))
 intro H45 m46
 have h47 := m46 _ _ h43
 have m48 := m41.trans m46
 refine E rfl rfl rfl (E rfl rfl rfl (C rfl (Sw rfl rfl ts_23 h47 rfl rfl rfl ?_)))
 intro H49 h50 k51
 have m53 := Mono.set m48 z14 k51
 refine A rfl rfl ?_
 refine rt_ ?_
 refine Rr (Res.list rfl rfl (.cell (v := .agg [J (((weighR p (fun k => at_ ((R_curve_weights i n).1) k)).1).X), J (((weighR p (fun k => at_ ((R_curve_weights i n).1) k)).1).Y), J (((weighR p (fun k => at_ ((R_curve_weights i n).1) k)).1).Z)]) rfl ty_23 h50 rfl (.tmp rfl (.nil)))) ?_ m53
 have hR : R_curve_Cubic p i n = (((weighR p (fun k => at_ ((R_curve_weights i n).1) k)).1), (weighR p (fun k => at_ ((R_curve_weights i n).1) k)).2) := by unfold R_curve_Cubic; rw [if_pos b44]
 exact (congrArg Tcurve_Cubic hR).symm
 refine ct_ rfl (nb b44) ?_
 refine Sr ?_
 refine C rfl (Bl (cells := [J 0, J 0, J 0]) rfl tz_23 pl_23 rfl rfl (C rfl (Sw rfl rfl ts_23 h43 rfl rfl rfl ?_)))
 intro H54 h55 k56
 have m58 := Mono.set m41 z14 k56
 refine A rfl rfl ?_
 refine rt_ ?_
 refine Rr (Res.list rfl rfl (.cell (v := .agg [J 0, J 0, J 0]) rfl ty_23 h55 rfl (.tmp rfl (.nil)))) ?_ m58
 have hR : R_curve_Cubic p i n = ((VT.mk 0 0 0), false) := by unfold R_curve_Cubic; rw [if_neg (ff b44)]
 exact (congrArg Tcurve_Cubic hR).symm
def R_curve_Point (p : (List VT)) (i : Int) (n : Int) (j : Int) (m : Int) : VT × Bool :=
  if (R_curve_weights i n).2 = true then (if (R_curve_weights j m).2 = true then (((weighR p (fun k => at_ ((R_curve_weights i n).1) (k % 4) * at_ ((R_curve_weights j m).1) (k / 4))).1), (weighR p (fun k => at_ ((R_curve_weights i n).1) (k % 4) * at_ ((R_curve_weights j m).1) (k / 4))).2) else ((VT.mk 0 0 0), false)) else ((VT.mk 0 0 0), false)
def Tcurve_Point (r : VT × Bool) : AV := .tup [.agg [J r.1.X, J r.1.Y, J r.1.Z], .bool r.2]
theorem c_curve_Point (p : (List VT)) (h_p : p.length = 16) (i : Int) (n : Int) (j : Int) (m : Int) : PC Tryd.prog 86 [.agg (p.flatMap eV), J i, J n, J j, J m] (.tup [.agg [J (((R_curve_Point p i n j m).1).X), J (((R_curve_Point p i n j m).1).Y), J (((R_curve_Point p i n j m).1).Z)], .bool ((R_curve_Point p i n j m).2)]) := by
 intro H0
 refine ACalls.of_body' (n := 40) rfl rfl rfl rfl ?_
 have m0 := Mono.refl H0
 refine Sr ?_
 refine C rfl (bx_ (.agg (p.flatMap eV)) rfl rfl rfl ?_)
 intro i1 H2 n3 h4 k5
 have z6 := Mono.free m0 n3
 have m7 := Mono.new m0 n3 k5
 refine C rfl (al_ rfl tz_23 ?_)
 intro i8 H9 n10 h11 k12
 have e13 := ne_new h4 n10
 have z14 := Mono.free m7 n10
 have h15 := keep k12 (ne_new h4 n10) h4
 have m16 := Mono.new m7 n10 k12
 refine A rfl rfl ?_
 refine AWP.seq ?_
 refine fz_ 5 h15 z6 rfl m16 fun H17 m18 k19 => ?_
 have h20 := (k19 _ (Ne.symm e13)).trans h11
 refine AWP.region rfl ?_
 refine V rfl rfl (V rfl rfl (C rfl (Pc («as» := [J i, J n]) rfl rfl (rfl) tf_92 (c_curve_weights i n) ?_)))
 intro H21 m22
 have h23 := m22 _ _ h20
 have m24 := m18.trans m22
 refine V rfl rfl (E rfl rfl rfl (E rfl rfl rfl (C rfl (al_ rfl tz_25 ?_))))
 intro i25 H26 n27 h28 k29
 have e30 := ne_new h23 n27
 have z31 := Mono.free m24 n27
 have h32 := keep k29 (ne_new h23 n27) h23
 have m33 := Mono.new m24 n27 k29
 refine C rfl (So (cells' := ((R_curve_weights i n).1).map eI) (.agg (((R_curve_weights i n).1).map eI)) rfl rfl ts_25 h28 (by simp only [AV.cells, List.all_append, List.all_cons, List.all_nil, Bool.and_true, Bool.and_eq_true]; exact (all_one1 eI_one _)) (show (AV.cells (.agg (((R_curve_weights i n).1).map eI))).length = 4 from (len1 (R_curve_weights_len i n))) rfl (wr_all rfl (len1 (R_curve_weights_len i n))) ?_)
 intro H34 h35 k36
 have h37 := keep k36 e30 h32
 have m39 := Mono.set m33 z31 k36
 refine A rfl rfl ?_
 refine AWP.seq ?_
 refine fz_ 12 h35 z31 rfl m39 fun H40 m41 k42 => ?_
 have h43 := (k42 _ e30).trans h37
 refine AWP.region rfl ?_
 refine V rfl rfl (V rfl rfl (C rfl (Pc («as» := [J j, J m]) rfl rfl (rfl) tf_92 (c_curve_weights j m) ?_)))
 intro H44 m45
 have h46 := m45 _ _ h43
 have m47 := m41.trans m45
 refine V rfl rfl (E rfl rfl rfl (E rfl rfl rfl (C rfl (al_ rfl tz_25 ?_))))
 intro i48 H49 n50 h51 k52
 have e53 := ne_new h46 n50
 have z54 := Mono.free m47 n50
 have h55 := keep k52 (ne_new h46 n50) h46
 have m56 := Mono.new m47 n50 k52
 refine C rfl (So (cells' := ((R_curve_weights j m).1).map eI) (.agg (((R_curve_weights j m).1).map eI)) rfl rfl ts_25 h51 (by simp only [AV.cells, List.all_append, List.all_cons, List.all_nil, Bool.and_true, Bool.and_eq_true]; exact (all_one1 eI_one _)) (show (AV.cells (.agg (((R_curve_weights j m).1).map eI))).length = 4 from (len1 (R_curve_weights_len j m))) rfl (wr_all rfl (len1 (R_curve_weights_len j m))) ?_)
 intro H57 h58 k59
 have h60 := keep k59 e53 h55
 have m62 := Mono.set m56 z54 k59
 refine A rfl rfl ?_
 refine AWP.seq ?_
 refine AWP.seq ?_
 refine fz_ 14 h58 z54 rfl m62 fun H63 m64 k65 => ?_
 have h66 := (k65 _ e53).trans h60
 refine AWP.region rfl ?_
 refine V rfl rfl (C rfl (AOp.not rfl rfl (V rfl rfl ?_)))
 rcases Bool.eq_false_or_eq_true ((R_curve_weights i n).2) with b67 | b67
 refine Y rfl rfl rfl (nb b67) (Mv _ rfl rfl (Y rfl rfl rfl (nb b67) (AOp.not rfl rfl (C rfl (Pf _ rfl rfl (nb b67) rfl ?_)))))
 refine AOps.nil ?_
 change AWP _ _ _ _ _ _
 rcases Bool.eq_false_or_eq_true ((R_curve_weights j m).2) with b68 | b68
 refine cf_ rfl (nb b68) ?_
 refine AWP.skip ?_
 refine Sr ?_
 refine C rfl (AOp.sliceAF rfl rfl ar_24 h_p SubAt.all (C rfl (AOp.makeFunc (cs := [.fptr (((R_curve_weights i n).1).map eI) 0, .fptr (((R_curve_weights j m).1).map eI) 0]) rfl rfl (C rfl (Pc («as» := [.sl p.length (p.flatMap eV), .fn 95 [.fptr (((R_curve_weights i n).1).map eI) 0, .fptr (((R_curve_weights j m).1).map eI) 0]]) rfl rfl (rfl) tf_93 (c_weighP p (by assumption) ((R_curve_weights i n).1) ((R_curve_weights j m).1) (R_curve_weights_len i n) (R_curve_weights_len j m) (weights_rng _ _) (weights_rng _ _)) ?_)))))
 intro H69 m70
 have h71 := m70 _ _ h66
 have m72 := m64.trans m70
 refine E rfl rfl rfl (E rfl rfl rfl (C rfl (Sw rfl rfl ts_23 h71 rfl rfl rfl ?_)))
 intro H73 h74 k75
 have m77 := Mono.set m72 z14 k75
 refine A rfl rfl ?_
 refine rt_ ?_
 refine Rr (Res.list rfl rfl (.cell (v := .agg [J (((weighR p (fun k => at_ ((R_curve_weights i n).1) (k % 4) * at_ ((R_curve_weights j m).1) (k / 4))).1).X), J (((weighR p (fun k => at_ ((R_curve_weights i n).1) (k % 4) * at_ ((R_curve_weights j m).1) (k / 4))).1).Y), J (((weighR p (fun k => at_ ((R_curve_weights i n).1) (k % 4) * at_ ((R_curve_weights j m).1) (k / 4))).1).Z)]) rfl ty_23 h74 rfl (.tmp rfl (.nil)))) ?_ m77
 have hR : R_curve_Point p i n j m = (((weighR p (fun k => at_ ((R_curve_weights i n).1) (k % 4) * at_ ((R_curve_weights j m).1) (k / 4))).1), (weighR p (fun k => at_ ((R_curve_weights i n).1) (k % 4) * at_ ((R_curve_weights j m).1) (k / 4))).2) := by unfold R_curve_Point; rw [if_pos b67, if_pos b68]
 exact (congrArg Tcurve_Point hR).symm
 refine ct_ rfl (nb b68) ?_
 refine Sr ?_
 refine C rfl (Bl (cells := [J 0, J 0, J 0]) rfl tz_23 pl_23 rfl rfl (C rfl (Sw rfl rfl ts_23 h66 rfl rfl rfl ?_)))
 intro H78 h79 k80
 have m82 := Mono.set m64 z14 k80
 refine A rfl rfl ?_
 refine rt_ ?_
 refine Rr (Res.list rfl rfl (.cell (v := .agg [J 0, J 0, J 0]) rfl ty_23 h79 rfl (.tmp rfl (.nil)))) ?_ m82
 have hR : R_curve_Point p i n j m = ((VT.mk 0 0 0), false) := by unfold R_curve_Point; rw [if_pos b67, if_neg (ff b68)]
 exact (congrArg Tcurve_Point hR).symm
 refine N rfl rfl (nb b67) (N rfl rfl (nb b67) (C rfl (Pt _ rfl rfl (nb b67) rfl ?_)))
 refine ct_ rfl rfl ?_
 refine Sr ?_
 refine C rfl (Bl (cells := [J 0, J 0, J 0]) rfl tz_23 pl_23 rfl rfl (C rfl (Sw rfl rfl ts_23 h66 rfl rfl rfl ?_)))
 intro H83 h84 k85
 have m87 := Mono.set m64 z14 k85
 refine A rfl rfl ?_
 refine rt_ ?_
 refine Rr (Res.list rfl rfl (.cell (v := .agg [J 0, J 0, J 0]) rfl ty_23 h84 rfl (.tmp rfl (.nil)))) ?_ m87
 have hR : R_curve_Point p i n j m = ((VT.mk 0 0 0), false) := by unfold R_curve_Point; rw [if_neg (ff b67)]
 exact (congrArg Tcurve_Point hR).symm
abbrev Zref11_Cubic_0 (p : List VT) (i : Int) (n : Int) (u : Int) := R_ref02_Scale (at_ p u) (at_ (R_ref11_Weights i n) u)
theorem c_ref11_Cubic (p : List VT) (h_p : p.length = 4) (i n : Int) : PC Tryd.prog 67 [.agg (p.flatMap eV), J i, J n] (.tup [.agg [J (((cubicR p i n).1).X), J (((cubicR p i n).1).Y), J (((cubicR p i n).1).Z)], .bool ((cubicR p i n).2)]) := by
 intro H0
 refine ACalls.of_body' (n := 46) rfl rfl rfl rfl ?_
 have m0 := Mono.refl H0
 refine Sr ?_
 refine C rfl (bx_ (.agg (p.flatMap eV)) rfl rfl rfl ?_)
 intro i1 H2 n3 h4 k5
 have z6 := Mono.free m0 n3
 have m7 := Mono.new m0 n3 k5
 refine C rfl (al_ rfl tz_23 ?_)
 intro i8 H9 n10 h11 k12
 have e13 := ne_new h4 n10
 have z14 := Mono.free m7 n10
 have h15 := keep k12 (ne_new h4 n10) h4
 have m16 := Mono.new m7 n10 k12
 refine A rfl rfl ?_
 refine AWP.seq ?_
 refine AWP.seq ?_
 refine fz_ 3 h15 z6 rfl m16 fun H17 m18 k19 => ?_
 have h20 := (k19 _ (Ne.symm e13)).trans h11
 refine AWP.region rfl ?_
 refine V rfl rfl (V rfl rfl (C rfl (Pc («as» := [J i, J n]) rfl rfl (rfl) tf_89 (c_ref11_there i n) ?_)))
 intro H21 m22
 have h23 := m22 _ _ h20
 have m24 := m18.trans m22
 refine C rfl (AOp.not rfl rfl ?_)
 refine AOps.nil ?_
 change AWP _ _ _ _ _ _
 rcases Bool.eq_false_or_eq_true (R_ref11_there i n) with b25 | b25
 have th26 := there_iff.1 b25
 refine cf_ rfl (nb b25) ?_
 refine AWP.skip ?_
 refine Sr ?_
 refine V rfl rfl (V rfl rfl (C rfl (Pc («as» := [J i, J n]) rfl rfl (rfl) tf_90 (c_ref11_Weights i n (by first | omega | assumption | (constructor <;> omega) | simp)) ?_)))
 intro H27 m28
 have h29 := m28 _ _ h23
 have m30 := m24.trans m28
 refine C rfl (al_ rfl tz_25 ?_)
 intro i31 H32 n33 h34 k35
 have e36 := ne_new h29 n33
 have z37 := Mono.free m30 n33
 have h38 := keep k35 (ne_new h29 n33) h29
 have m39 := Mono.new m30 n33 k35
 refine C rfl (So (cells' := (R_ref11_Weights i n).map eI) (.agg ((R_ref11_Weights i n).map eI)) rfl rfl ts_25 h34 (by simp only [AV.cells, List.all_append, List.all_cons, List.all_nil, Bool.and_true, Bool.and_eq_true]; exact (all_one1 eI_one _)) (show (AV.cells (.agg ((R_ref11_Weights i n).map eI))).length = 4 from (len1 (R_ref11_Weights_len i n))) rfl (wr_all rfl (len1 (R_ref11_Weights_len i n))) ?_)
 intro H40 h41 k42
 have h43 := keep k42 e36 h38
 have m45 := Mono.set m39 z37 k42
 refine AWP.seq ?_
 refine fz_ 8 h41 z37 rfl m45 fun H46 m47 k48 => ?_
 have h49 := (k48 _ e36).trans h43
 refine AWP.region rfl ?_
 refine C rfl (Bl (cells := [J 0, J 0, J 0]) rfl tz_23 pl_23 rfl rfl (C rfl (al_ rfl tz_23 ?_)))
 intro i50 H51 n52 h53 k54
 have e55 := ne_new h49 n52
 have z56 := Mono.free m47 n52
 have h57 := keep k54 (ne_new h49 n52) h49
 have m58 := Mono.new m47 n52 k54
 refine C rfl (Sw rfl rfl ts_23 h53 rfl rfl rfl ?_)
 intro H59 h60 k61
 have h62 := keep k61 e55 h57
 have m64 := Mono.set m58 z56 k61
 refine AWP.seq ?_
 refine Sr ?_
 refine A rfl rfl ?_
 refine bk_ ?_
 refine AWP.loop (fun q65 fq Hq => ∃ (u : Int), q65 = ((4 : Int) - u).toNat ∧ fq 10 = J u ∧ fq 2 = J n ∧ fq 3 = .fptr (p.flatMap eV) 0 ∧ fq 6 = .ptr i8 0 0 ∧ fq 8 = .fptr ((R_ref11_Weights i n).map eI) 0 ∧ fq 9 = .ptr i50 0 0 ∧ Hq i8 = some (.row 0 ([J 0, J 0, J 0])) ∧ Hq i50 = some (.row 0 ([J ((sumV p (fun k => at_ (R_ref11_Weights i n) k) u.toNat).X), J ((sumV p (fun k => at_ (R_ref11_Weights i n) k) u.toNat).Y), J ((sumV p (fun k => at_ (R_ref11_Weights i n) k) u.toNat).Z)])) ∧ Mono H0 Hq ∧ (0 ≤ u) ∧ (u ≤ 4) ∧ (∀ j : Int, 0 ≤ j → j < u → inV 65536 (at_ p j))) (k := ((4 : Int) - 0).toNat) ?_ ?_
 exact ⟨0, rfl, rfl, rfl, rfl, rfl, rfl, rfl, h62, (h60.trans (congrArg (fun c => some (AB.row 0 c)) (show ([J 0, J 0, J 0] : List AV) = [J ((sumV p (fun k => at_ (R_ref11_Weights i n) k) (0 : Int).toNat).X), J ((sumV p (fun k => at_ (R_ref11_Weights i n) k) (0 : Int).toNat).Y), J ((sumV p (fun k => at_ (R_ref11_Weights i n) k) (0 : Int).toNat).Z)] from by first | rfl | (rw [sumV_step hk0]; rfl)))), m64, by omega, by omega, by intro j; omega⟩
 rintro _ f67 H66 ⟨u, rfl, s68, s69, s70, s71, s72, s73, h74, h75, m76, hk0, hk1, pre⟩
 refine AWP.seq ?_
 refine Sr ?_
 refine V rfl s68 (B rfl rfl rfl rfl ?_)
 refine AOps.nil ?_
 change AWP _ _ _ _ _ _
 by_cases b77 : u < 4
 refine ct_ rfl (decide_eq_true b77) ?_
 refine AWP.skip ?_
 refine AWP.seq ?_
 refine bk_ ?_
 refine AWP.seq ?_
 refine Sr ?_
 refine V rfl s68 (C rfl (iF_ rfl s70 rfl ar_26 (by omega) (by omega) (L rfl rfl ty_23 (ld_off (o := 0 + u.toNat * 3) (by omega) (ldM eV_len (i := u) (by omega) (by first | (have := h_p; omega) | (simp; omega)))) (C rfl (Pc («as» := [.agg [J ((at_ p u).X), J ((at_ p u).Y), J ((at_ p u).Z)], J 65536]) rfl rfl (rfl) tf_60 (c_ref00_Within (at_ p u) 65536 (by first | omega | assumption | (constructor <;> omega) | simp)) ?_)))))
 intro H78 m79
 have h80 := m79 _ _ h74
 have h81 := m79 _ _ h75
 have m82 := m76.trans m79
 refine C rfl (AOp.not rfl rfl ?_)
 refine AOps.nil ?_
 change AWP _ _ _ _ _ _
 rcases Bool.eq_false_or_eq_true (R_ref00_Within (at_ p u) 65536) with b83 | b83
 have iv84 : inV 65536 (at_ p u) := withinref00_in b83
 refine cf_ rfl (nb b83) ?_
 refine AWP.skip ?_
 change AWP _ _ _ _ _ _
 have hwt := wts_rng (i := i) (n := n) (by omega) (by omega) (by omega)
 have hsv := sumV_rng (l := p) (wt := fun k => at_ (R_ref11_Weights i n) k) (B := 12288) (n := u.toNat) (fun k hk => pre _ (by omega) (by omega)) (fun k hk => hwt _ (by omega) (by omega))
 rw [Int.toNat_of_nonneg hk0] at hsv
 have hsv2 : inV 3221225472 (sumV p (fun k => at_ (R_ref11_Weights i n) k) u.toNat) := inV_le hsv (by omega)
 skip
 have hwi := hwt u hk0 (by omega)
 refine AWP.region_quiet mixed (by kernel_rfl) 9 [9] rfl (by kernel_rfl) (Mono H78) (Mono.refl _) ?_
 refine Q rfl (fun _ _ φ ψ => Ld _ rfl ((φ 9 rfl).trans s73) ty_23 (ψ _ _ h81) rfl ⟨rfl, ψ⟩) (QV rfl s68 (Q rfl (fun _ _ φ ψ => iF_ rfl ((φ 3 rfl).trans s70) (φ 31 rfl) ar_26 (by omega) (by omega) ⟨rfl, ψ⟩) (QL rfl rfl ty_23 (ld_off (o := 0 + u.toNat * 3) (by omega) (ldM eV_len (i := u) (by omega) (by first | (have := h_p; omega) | (simp; omega)))) (QV rfl s68 (Q rfl (fun _ _ φ ψ => iF_ rfl ((φ 8 rfl).trans s72) (φ 34 rfl) ar_25 (by omega) (by omega) ⟨rfl, ψ⟩) (QL rfl rfl ty_3 (ld_off (o := 0 + u.toNat * 1) (by omega) (ld1 (i := u) (by omega) (by first | (have := (R_ref11_Weights_len i n); omega) | (simp; omega)))) (Q rfl (fun _ _ φ ψ => Pc («as» := [.agg [J ((at_ p u).X), J ((at_ p u).Y), J ((at_ p u).Z)], J (at_ (R_ref11_Weights i n) u)]) rfl rfl (lapp (lcons (φ 33 rfl) (lcons (φ 36 rfl) rfl)) rfl) tf_75 (c_ref02_Scale (at_ p u) (at_ (R_ref11_Weights i n) u) (mulV_of iv84 (C := 12288) (by omega) (by decide))) fun H2 m2 => ⟨rfl, ψ.trans m2⟩) (Q rfl (fun _ _ φ ψ => Pc («as» := [.agg [J ((sumV p (fun k => at_ (R_ref11_Weights i n) k) u.toNat).X), J ((sumV p (fun k => at_ (R_ref11_Weights i n) k) u.toNat).Y), J ((sumV p (fun k => at_ (R_ref11_Weights i n) k) u.toNat).Z)], .agg [J ((Zref11_Cubic_0 p i n u).X), J ((Zref11_Cubic_0 p i n u).Y), J ((Zref11_Cubic_0 p i n u).Z)]]) rfl rfl (lapp (lcons (φ 30 rfl) (lcons (φ 37 rfl) rfl)) rfl) tf_20 (c_ref02_Add (sumV p (fun k => at_ (R_ref11_Weights i n) k) u.toNat) (Zref11_Cubic_0 p i n u) (inV_le hsv2 (by decide)) (inV_le (inV_le (inV_ref02_Scale iv84 (C := 12288) (by omega)) (by decide) : inV 805306368 _) (by decide))) fun H2 m2 => ⟨rfl, ψ.trans m2⟩) ?_))))))))
 refine QE.done fun H85 m86 => ?_
 have h87 := m86 _ _ h80
 have h88 := m86 _ _ h81
 have m89 := m82.trans m86
 refine C rfl (Sw s73 rfl ts_23 h88 rfl rfl rfl ?_)
 intro H90 h91 k92
 have h93 := keep k92 e55 h87
 have m95 := Mono.set m89 z56 k92
 refine AWP.region rfl ?_
 refine V rfl s68 (B rfl rfl rfl (iadd (by omega)) (A rfl rfl ?_))
 refine AOps.nil ?_
 exact ⟨_, by omega, u + 1, rfl, rfl, s69, s70, s71, s72, s73, h93, (h91.trans (congrArg (fun c => some (AB.row 0 c)) (show ([J ((R_ref02_Add (sumV p (fun k => at_ (R_ref11_Weights i n) k) u.toNat) (Zref11_Cubic_0 p i n u)).X), J ((R_ref02_Add (sumV p (fun k => at_ (R_ref11_Weights i n) k) u.toNat) (Zref11_Cubic_0 p i n u)).Y), J ((R_ref02_Add (sumV p (fun k => at_ (R_ref11_Weights i n) k) u.toNat) (Zref11_Cubic_0 p i n u)).Z)] : List AV) = [J ((sumV p (fun k => at_ (R_ref11_Weights i n) k) (u + 1).toNat).X), J ((sumV p (fun k => at_ (R_ref11_Weights i n) k) (u + 1).toNat).Y), J ((sumV p (fun k => at_ (R_ref11_Weights i n) k) (u + 1).toNat).Z)] from by first | rfl | (rw [sumV_step hk0]; rfl)))), m95, by omega, by omega, by exact fa_step pre iv84⟩
 refine ct_ rfl (nb b83) ?_
 refine Sr ?_
 refine C rfl (Bl (cells := [J 0, J 0, J 0]) rfl tz_23 pl_23 rfl rfl (C rfl (Sw s71 rfl ts_23 h80 rfl rfl rfl ?_)))
 intro H96 h97 k98
 have m101 := Mono.set m82 z14 k98
 refine A rfl rfl ?_
 refine rt_ ?_
 refine Rr (Res.list rfl rfl (.cell (v := .agg [J 0, J 0, J 0]) s71 ty_23 h97 rfl (.tmp rfl (.nil)))) ?_ m101
 exact congrArg AV.tup (lc (congrArg AV.agg (lc (congrArg (AV.int .i64) (show (0 : Int) = ((cubicR p i n).1).X from by rw [cubicR_F hk0 (by omega) b83])) (lc (congrArg (AV.int .i64) (show (0 : Int) = ((cubicR p i n).1).Y from by rw [cubicR_F hk0 (by omega) b83])) (lc (congrArg (AV.int .i64) (show (0 : Int) = ((cubicR p i n).1).Z from by rw [cubicR_F hk0 (by omega) b83])) rfl)))) (lc (congrArg AV.bool (show (false : Bool) = (cubicR p i n).2 from by rw [cubicR_F hk0 (by omega) b83])) rfl))
 refine cf_ rfl (decide_eq_false b77) ?_
 refine AWP.exit ?_
 change AWP _ _ _ _ _ _
 refine AWP.seq ?_
 have hwt := wts_rng (i := i) (n := n) (by omega) (by omega) (by omega)
 have hsv := sumV_rng (l := p) (wt := fun k => at_ (R_ref11_Weights i n) k) (B := 12288) (n := u.toNat) (fun k hk => pre _ (by omega) (by omega)) (fun k hk => hwt _ (by omega) (by omega))
 rw [Int.toNat_of_nonneg hk0] at hsv
 have hsv2 : inV 3221225472 (sumV p (fun k => at_ (R_ref11_Weights i n) k) u.toNat) := inV_le hsv (by omega)
 skip
 refine AWP.region rfl ?_
 refine C rfl (Ld _ rfl s73 ty_23 h75 rfl (V rfl s69 (V rfl s69 (B rfl rfl rfl (imul (by have := mul_rng (x := n) (k := n) (A := 16) (C := 16) (by omega) (by omega); omega)) (V rfl s69 (B rfl rfl rfl (imul (by have := mul_rng (x := n * n) (k := n) (A := 256) (C := 16) (by have := mul_rng (x := n) (k := n) (A := 16) (C := 16) (by omega) (by omega); omega) (by omega); omega)) (C rfl (Pc («as» := [.agg [J ((sumV p (fun k => at_ (R_ref11_Weights i n) k) u.toNat).X), J ((sumV p (fun k => at_ (R_ref11_Weights i n) k) u.toNat).Y), J ((sumV p (fun k => at_ (R_ref11_Weights i n) k) u.toNat).Z)], J ((n * n) * n)]) rfl rfl (rfl) tf_74 (c_ref09_Of (sumV p (fun k => at_ (R_ref11_Weights i n) k) u.toNat) ((n * n) * n) (inV_le hsv2 (by decide)) (by have : -4096 ≤ (n * n) * n ∧ (n * n) * n ≤ 4096 := (by have := mul_rng (x := (n * n)) (k := n) (A := 256) (C := 16) (by have := mul_rng (x := n) (k := n) (A := 16) (C := 16) (by omega) (by omega); omega) (by omega); omega); omega)) ?_))))))))
 intro H102 m103
 have h104 := m103 _ _ h74
 have h105 := m103 _ _ h75
 have m106 := m76.trans m103
 refine C rfl (Sw s71 rfl ts_23 h104 rfl rfl rfl ?_)
 intro H107 h108 k109
 have m112 := Mono.set m106 z14 k109
 refine A rfl rfl ?_
 refine rt_ ?_
 refine Rr (Res.list rfl rfl (.cell (v := .agg [J ((R_ref09_Of (sumV p (fun k => at_ (R_ref11_Weights i n) k) u.toNat) ((n * n) * n)).X), J ((R_ref09_Of (sumV p (fun k => at_ (R_ref11_Weights i n) k) u.toNat) ((n * n) * n)).Y), J ((R_ref09_Of (sumV p (fun k => at_ (R_ref11_Weights i n) k) u.toNat) ((n * n) * n)).Z)]) s71 ty_23 h108 rfl (.tmp rfl (.nil)))) ?_ m112
 exact congrArg AV.tup (lc (congrArg AV.agg (lc (congrArg (AV.int .i64) (show ((R_ref09_Of (sumV p (fun k => at_ (R_ref11_Weights i n) k) u.toNat) ((n * n) * n)).X : Int) = ((cubicR p i n).1).X from by rw [cubicR_T b25 (by omega) pre])) (lc (congrArg (AV.int .i64) (show ((R_ref09_Of (sumV p (fun k => at_ (R_ref11_Weights i n) k) u.toNat) ((n * n) * n)).Y : Int) = ((cubicR p i n).1).Y from by rw [cubicR_T b25 (by omega) pre])) (lc (congrArg (AV.int .i64) (show ((R_ref09_Of (sumV p (fun k => at_ (R_ref11_Weights i n) k) u.toNat) ((n * n) * n)).Z : Int) = ((cubicR p i n).1).Z from by rw [cubicR_T b25 (by omega) pre])) rfl)))) (lc (congrArg AV.bool (show (true : Bool) = (cubicR p i n).2 from by rw [cubicR_T b25 (by omega) pre])) rfl))
 refine ct_ rfl (nb b25) ?_
 refine Sr ?_
 refine C rfl (Bl (cells := [J 0, J 0, J 0]) rfl tz_23 pl_23 rfl rfl (C rfl (Sw rfl rfl ts_23 h23 rfl rfl rfl ?_)))
 intro H113 h114 k115
 have m117 := Mono.set m24 z14 k115
 refine A rfl rfl ?_
 refine rt_ ?_
 refine Rr (Res.list rfl rfl (.cell (v := .agg [J 0, J 0, J 0]) rfl ty_23 h114 rfl (.tmp rfl (.nil)))) ?_ m117
 exact congrArg AV.tup (lc (congrArg AV.agg (lc (congrArg (AV.int .i64) (show (0 : Int) = ((cubicR p i n).1).X from by rw [cubicR_no b25])) (lc (congrArg (AV.int .i64) (show (0 : Int) = ((cubicR p i n).1).Y from by rw [cubicR_no b25])) (lc (congrArg (AV.int .i64) (show (0 : Int) = ((cubicR p i n).1).Z from by rw [cubicR_no b25])) rfl)))) (lc (congrArg AV.bool (show (false : Bool) = (cubicR p i n).2 from by rw [cubicR_no b25])) rfl))
abbrev Zref11_Point_0 (p : List VT) (i : Int) (n : Int) (j : Int) (m : Int) (u : Int) := R_ref02_Scale (at_ p u) ((at_ (R_ref11_Weights i n) (u % 4)) * (at_ (R_ref11_Weights j m) (u / 4)))
theorem c_ref11_Point (p : List VT) (h_p : p.length = 16) (i n j m : Int) : PC Tryd.prog 69 [.agg (p.flatMap eV), J i, J n, J j, J m] (.tup [.agg [J (((pointR p i n j m).1).X), J (((pointR p i n j m).1).Y), J (((pointR p i n j m).1).Z)], .bool ((pointR p i n j m).2)]) := by
 intro H0
 refine ACalls.of_body' (n := 72) rfl rfl rfl rfl ?_
 have m0 := Mono.refl H0
 refine Sr ?_
 refine C rfl (bx_ (.agg (p.flatMap eV)) rfl rfl rfl ?_)
 intro i1 H2 n3 h4 k5
 have z6 := Mono.free m0 n3
 have m7 := Mono.new m0 n3 k5
 refine C rfl (al_ rfl tz_23 ?_)
 intro i8 H9 n10 h11 k12
 have e13 := ne_new h4 n10
 have z14 := Mono.free m7 n10
 have h15 := keep k12 (ne_new h4 n10) h4
 have m16 := Mono.new m7 n10 k12
 refine A rfl rfl ?_
 refine AWP.seq ?_
 refine AWP.seq ?_
 refine fz_ 5 h15 z6 rfl m16 fun H17 m18 k19 => ?_
 have h20 := (k19 _ (Ne.symm e13)).trans h11
 refine AWP.region rfl ?_
 refine V rfl rfl (V rfl rfl (C rfl (Pc («as» := [J i, J n]) rfl rfl (rfl) tf_89 (c_ref11_there i n) ?_)))
 intro H21 m22
 have h23 := m22 _ _ h20
 have m24 := m18.trans m22
 refine C rfl (AOp.not rfl rfl (V rfl rfl ?_))
 rcases Bool.eq_false_or_eq_true (R_ref11_there i n) with b25 | b25
 have th26 := there_iff.1 b25
 refine Y rfl rfl rfl (nb b25) (Mv _ rfl rfl (Y rfl rfl rfl (nb b25) (Mv _ rfl rfl (Y rfl rfl rfl (nb b25) (Pc («as» := [J j, J m]) rfl rfl (rfl) tf_89 (c_ref11_there j m) ?_)))))
 intro H27 m28
 have h29 := m28 _ _ h23
 have m30 := m24.trans m28
 refine Y rfl rfl rfl (nb b25) (AOp.not rfl rfl (C rfl (Pf _ rfl rfl (nb b25) rfl ?_)))
 refine AOps.nil ?_
 change AWP _ _ _ _ _ _
 rcases Bool.eq_false_or_eq_true (R_ref11_there j m) with b31 | b31
 have th32 := there_iff.1 b31
 refine cf_ rfl (nb b31) ?_
 refine AWP.skip ?_
 refine Sr ?_
 refine V rfl rfl (V rfl rfl (C rfl (Pc («as» := [J i, J n]) rfl rfl (rfl) tf_90 (c_ref11_Weights i n (by first | omega | assumption | (constructor <;> omega) | simp)) ?_)))
 intro H33 m34
 have h35 := m34 _ _ h29
 have m36 := m30.trans m34
 refine C rfl (al_ rfl tz_25 ?_)
 intro i37 H38 n39 h40 k41
 have e42 := ne_new h35 n39
 have z43 := Mono.free m36 n39
 have h44 := keep k41 (ne_new h35 n39) h35
 have m45 := Mono.new m36 n39 k41
 refine C rfl (So (cells' := (R_ref11_Weights i n).map eI) (.agg ((R_ref11_Weights i n).map eI)) rfl rfl ts_25 h40 (by simp only [AV.cells, List.all_append, List.all_cons, List.all_nil, Bool.and_true, Bool.and_eq_true]; exact (all_one1 eI_one _)) (show (AV.cells (.agg ((R_ref11_Weights i n).map eI))).length = 4 from (len1 (R_ref11_Weights_len i n))) rfl (wr_all rfl (len1 (R_ref11_Weights_len i n))) ?_)
 intro H46 h47 k48
 have h49 := keep k48 e42 h44
 have m51 := Mono.set m45 z43 k48
 refine AWP.seq ?_
 refine fz_ 12 h47 z43 rfl m51 fun H52 m53 k54 => ?_
 have h55 := (k54 _ e42).trans h49
 refine AWP.region rfl ?_
 refine V rfl rfl (V rfl rfl (C rfl (Pc («as» := [J j, J m]) rfl rfl (rfl) tf_90 (c_ref11_Weights j m (by first | omega | assumption | (constructor <;> omega) | simp)) ?_)))
 intro H56 m57
 have h58 := m57 _ _ h55
 have m59 := m53.trans m57
 refine C rfl (al_ rfl tz_25 ?_)
 intro i60 H61 n62 h63 k64
 have e65 := ne_new h58 n62
 have z66 := Mono.free m59 n62
 have h67 := keep k64 (ne_new h58 n62) h58
 have m68 := Mono.new m59 n62 k64
 refine C rfl (So (cells' := (R_ref11_Weights j m).map eI) (.agg ((R_ref11_Weights j m).map eI)) rfl rfl ts_25 h63 (by simp only [AV.cells, List.all_append, List.all_cons, List.all_nil, Bool.and_true, Bool.and_eq_true]; exact (all_one1 eI_one _)) (show (AV.cells (.agg ((R_ref11_Weights j m).map eI))).length = 4 from (len1 (R_ref11_Weights_len j m))) rfl (wr_all rfl (len1 (R_ref11_Weights_len j m))) ?_)
 intro H69 h70 k71
 have h72 := keep k71 e65 h67
 have m74 := Mono.set m68 z66 k71
 refine AWP.seq ?_
 refine fz_ 13 h70 z66 rfl m74 fun H75 m76 k77 => ?_
 have h78 := (k77 _ e65).trans h72
 refine AWP.region rfl ?_
 refine C rfl (Bl (cells := [J 0, J 0, J 0]) rfl tz_23 pl_23 rfl rfl (C rfl (al_ rfl tz_23 ?_)))
 intro i79 H80 n81 h82 k83
 have e84 := ne_new h78 n81
 have z85 := Mono.free m76 n81
 have h86 := keep k83 (ne_new h78 n81) h78
 have m87 := Mono.new m76 n81 k83
 refine C rfl (Sw rfl rfl ts_23 h82 rfl rfl rfl ?_)
 intro H88 h89 k90
 have h91 := keep k90 e84 h86
 have m93 := Mono.set m87 z85 k90
 refine AWP.seq ?_
 refine Sr ?_
 refine A rfl rfl ?_
 refine bk_ ?_
 refine AWP.loop (fun q94 fq Hq => ∃ (u : Int), q94 = ((16 : Int) - u).toNat ∧ fq 15 = J u ∧ fq 2 = J n ∧ fq 4 = J m ∧ fq 5 = .fptr (p.flatMap eV) 0 ∧ fq 10 = .ptr i8 0 0 ∧ fq 12 = .fptr ((R_ref11_Weights i n).map eI) 0 ∧ fq 13 = .fptr ((R_ref11_Weights j m).map eI) 0 ∧ fq 14 = .ptr i79 0 0 ∧ Hq i8 = some (.row 0 ([J 0, J 0, J 0])) ∧ Hq i79 = some (.row 0 ([J ((sumV p (fun k => at_ (R_ref11_Weights i n) (k % 4) * at_ (R_ref11_Weights j m) (k / 4)) u.toNat).X), J ((sumV p (fun k => at_ (R_ref11_Weights i n) (k % 4) * at_ (R_ref11_Weights j m) (k / 4)) u.toNat).Y), J ((sumV p (fun k => at_ (R_ref11_Weights i n) (k % 4) * at_ (R_ref11_Weights j m) (k / 4)) u.toNat).Z)])) ∧ Mono H0 Hq ∧ (0 ≤ u) ∧ (u ≤ 16) ∧ (∀ j : Int, 0 ≤ j → j < u → inV 65536 (at_ p j))) (k := ((16 : Int) - 0).toNat) ?_ ?_
 exact ⟨0, rfl, rfl, rfl, rfl, rfl, rfl, rfl, rfl, rfl, h91, (h89.trans (congrArg (fun c => some (AB.row 0 c)) (show ([J 0, J 0, J 0] : List AV) = [J ((sumV p (fun k => at_ (R_ref11_Weights i n) (k % 4) * at_ (R_ref11_Weights j m) (k / 4)) (0 : Int).toNat).X), J ((sumV p (fun k => at_ (R_ref11_Weights i n) (k % 4) * at_ (R_ref11_Weights j m) (k / 4)) (0 : Int).toNat).Y), J ((sumV p (fun k => at_ (R_ref11_Weights i n) (k % 4) * at_ (R_ref11_Weights j m) (k / 4)) (0 : Int).toNat).Z)] from by first | rfl | (rw [sumV_step hk0]; rfl)))), m93, by omega, by omega, by intro j; omega⟩
 rintro _ f96 H95 ⟨u, rfl, s97, s98, s99, s100, s101, s102, s103, s104, h105, h106, m107, hk0, hk1, pre⟩
 refine AWP.seq ?_
 refine Sr ?_
 refine V rfl s97 (B rfl rfl rfl rfl ?_)
 refine AOps.nil ?_
 change AWP _ _ _ _ _ _
 by_cases b108 : u < 16
 refine ct_ rfl (decide_eq_true b108) ?_
 refine AWP.skip ?_
 refine AWP.seq ?_
 refine bk_ ?_
 refine AWP.seq ?_
 refine Sr ?_
 refine V rfl s97 (C rfl (iF_ rfl s100 rfl ar_24 (by omega) (by omega) (L rfl rfl ty_23 (ld_off (o := 0 + u.toNat * 3) (by omega) (ldM eV_len (i := u) (by omega) (by first | (have := h_p; omega) | (simp; omega)))) (C rfl (Pc («as» := [.agg [J ((at_ p u).X), J ((at_ p u).Y), J ((at_ p u).Z)], J 65536]) rfl rfl (rfl) tf_60 (c_ref00_Within (at_ p u) 65536 (by first | omega | assumption | (constructor <;> omega) | simp)) ?_)))))
 intro H109 m110
 have h111 := m110 _ _ h105
 have h112 := m110 _ _ h106
 have m113 := m107.trans m110
 refine C rfl (AOp.not rfl rfl ?_)
 refine AOps.nil ?_
 change AWP _ _ _ _ _ _
 rcases Bool.eq_false_or_eq_true (R_ref00_Within (at_ p u) 65536) with b114 | b114
 have iv115 : inV 65536 (at_ p u) := withinref00_in b114
 refine cf_ rfl (nb b114) ?_
 refine AWP.skip ?_
 change AWP _ _ _ _ _ _
 have hwt : ∀ k : Int, 0 ≤ k → k < 16 → 0 ≤ at_ (R_ref11_Weights i n) (k % 4) * at_ (R_ref11_Weights j m) (k / 4) ∧ at_ (R_ref11_Weights i n) (k % 4) * at_ (R_ref11_Weights j m) (k / 4) ≤ 150994944 := fun k h0 h1 => mul_nn (wts_rng (i := i) (n := n) (by omega) (by omega) (by omega) _ (by omega) (by omega)) (wts_rng (i := j) (n := m) (by omega) (by omega) (by omega) _ (by omega) (by omega))
 have hsv := sumV_rng (l := p) (wt := fun k => at_ (R_ref11_Weights i n) (k % 4) * at_ (R_ref11_Weights j m) (k / 4)) (B := 150994944) (n := u.toNat) (fun k hk => pre _ (by omega) (by omega)) (fun k hk => hwt _ (by omega) (by omega))
 rw [Int.toNat_of_nonneg hk0] at hsv
 have hsv2 : inV 158329674399744 (sumV p (fun k => at_ (R_ref11_Weights i n) (k % 4) * at_ (R_ref11_Weights j m) (k / 4)) u.toNat) := inV_le hsv (by omega)
 skip
 have hwi := hwt u hk0 (by omega)
 refine AWP.region_quiet mixed (by kernel_rfl) 15 [15] rfl (by kernel_rfl) (Mono H109) (Mono.refl _) ?_
 refine Q rfl (fun _ _ φ ψ => Ld _ rfl ((φ 14 rfl).trans s104) ty_23 (ψ _ _ h112) rfl ⟨rfl, ψ⟩) (QV rfl s97 (Q rfl (fun _ _ φ ψ => iF_ rfl ((φ 5 rfl).trans s100) (φ 45 rfl) ar_24 (by omega) (by omega) ⟨rfl, ψ⟩) (QL rfl rfl ty_23 (ld_off (o := 0 + u.toNat * 3) (by omega) (ldM eV_len (i := u) (by omega) (by first | (have := h_p; omega) | (simp; omega)))) (QV rfl s97 (Q rfl (fun _ _ φ ψ => AOp.remP rfl (φ 48 rfl) rfl (by omega) (by omega) ⟨rfl, ψ⟩) (Q rfl (fun _ _ φ ψ => iF_ rfl ((φ 12 rfl).trans s102) (φ 49 rfl) ar_25 (by omega) (by omega) ⟨rfl, ψ⟩) (QL rfl rfl ty_3 (ld_off (o := 0 + (u % 4).toNat * 1) (by omega) (ld1 (i := u % 4) (by omega) (by first | (have := (R_ref11_Weights_len i n); omega) | (simp; omega)))) (QV rfl s97 (Q rfl (fun _ _ φ ψ => AOp.quoP rfl (φ 52 rfl) rfl (by omega) ⟨rfl, ψ⟩) (Q rfl (fun _ _ φ ψ => iF_ rfl ((φ 13 rfl).trans s103) (φ 53 rfl) ar_25 (by omega) (by omega) ⟨rfl, ψ⟩) (QL rfl rfl ty_3 (ld_off (o := 0 + (u / 4).toNat * 1) (by omega) (ld1 (i := u / 4) (by omega) (by first | (have := (R_ref11_Weights_len j m); omega) | (simp; omega)))) (QB rfl rfl rfl (imul (by have := mul_rng (x := at_ (R_ref11_Weights i n) (u % 4)) (k := at_ (R_ref11_Weights j m) (u / 4)) (A := 12288) (C := 12288) (by have := wts_rng (i := i) (n := n) (by omega) (by omega) (by omega) (u % 4) (by omega) (by omega); omega) (by have := wts_rng (i := j) (n := m) (by omega) (by omega) (by omega) (u / 4) (by omega) (by omega); omega); omega)) ?_))))))))))))
 refine Q rfl (fun _ _ φ ψ => Pc («as» := [.agg [J ((at_ p u).X), J ((at_ p u).Y), J ((at_ p u).Z)], J ((at_ (R_ref11_Weights i n) (u % 4)) * (at_ (R_ref11_Weights j m) (u / 4)))]) rfl rfl (lapp (lcons (φ 47 rfl) (lcons (φ 56 rfl) rfl)) rfl) tf_75 (c_ref02_Scale (at_ p u) ((at_ (R_ref11_Weights i n) (u % 4)) * (at_ (R_ref11_Weights j m) (u / 4))) (mulV_of iv115 (C := 150994944) (by omega) (by decide))) fun H2 m2 => ⟨rfl, ψ.trans m2⟩) (Q rfl (fun _ _ φ ψ => Pc («as» := [.agg [J ((sumV p (fun k => at_ (R_ref11_Weights i n) (k % 4) * at_ (R_ref11_Weights j m) (k / 4)) u.toNat).X), J ((sumV p (fun k => at_ (R_ref11_Weights i n) (k % 4) * at_ (R_ref11_Weights j m) (k / 4)) u.toNat).Y), J ((sumV p (fun k => at_ (R_ref11_Weights i n) (k % 4) * at_ (R_ref11_Weights j m) (k / 4)) u.toNat).Z)], .agg [J ((Zref11_Point_0 p i n j m u).X), J ((Zref11_Point_0 p i n j m u).Y), J ((Zref11_Point_0 p i n j m u).Z)]]) rfl rfl (lapp (lcons (φ 44 rfl) (lcons (φ 57 rfl) rfl)) rfl) tf_20 (c_ref02_Add (sumV p (fun k => at_ (R_ref11_Weights i n) (k % 4) * at_ (R_ref11_Weights j m) (k / 4)) u.toNat) (Zref11_Point_0 p i n j m u) (inV_le hsv2 (by decide)) (inV_le (inV_le (inV_ref02_Scale iv115 (C := 150994944) (by omega)) (by decide) : inV 9895604649984 _) (by decide))) fun H2 m2 => ⟨rfl, ψ.trans m2⟩) ?_)
 refine QE.done fun H116 m117 => ?_
 have h118 := m117 _ _ h111
 have h119 := m117 _ _ h112
 have m120 := m113.trans m117
 refine C rfl (Sw s104 rfl ts_23 h119 rfl rfl rfl ?_)
 intro H121 h122 k123
 have h124 := keep k123 e84 h118
 have m126 := Mono.set m120 z85 k123
 refine AWP.region rfl ?_
 refine V rfl s97 (B rfl rfl rfl (iadd (by omega)) (A rfl rfl ?_))
 refine AOps.nil ?_
 exact ⟨_, by omega, u + 1, rfl, rfl, s98, s99, s100, s101, s102, s103, s104, h124, (h122.trans (congrArg (fun c => some (AB.row 0 c)) (show ([J ((R_ref02_Add (sumV p (fun k => at_ (R_ref11_Weights i n) (k % 4) * at_ (R_ref11_Weights j m) (k / 4)) u.toNat) (Zref11_Point_0 p i n j m u)).X), J ((R_ref02_Add (sumV p (fun k => at_ (R_ref11_Weights i n) (k % 4) * at_ (R_ref11_Weights j m) (k / 4)) u.toNat) (Zref11_Point_0 p i n j m u)).Y), J ((R_ref02_Add (sumV p (fun k => at_ (R_ref11_Weights i n) (k % 4) * at_ (R_ref11_Weights j m) (k / 4)) u.toNat) (Zref11_Point_0 p i n j m u)).Z)] : List AV) = [J ((sumV p (fun k => at_ (R_ref11_Weights i n) (k % 4) * at_ (R_ref11_Weights j m) (k / 4)) (u + 1).toNat).X), J ((sumV p (fun k => at_ (R_ref11_Weights i n) (k % 4) * at_ (R_ref11_Weights j m) (k / 4)) (u + 1).toNat).Y), J ((sumV p (fun k => at_ (R_ref11_Weights i n) (k % 4) * at_ (R_ref11_Weights j m) (k / 4)) (u + 1).toNat).Z)] from by first | rfl | (rw [sumV_step hk0]; rfl)))), m126, by omega, by omega, by exact fa_step pre iv115⟩
 refine ct_ rfl (nb b114) ?_
 refine Sr ?_
 refine C rfl (Bl (cells := [J 0, J 0, J 0]) rfl tz_23 pl_23 rfl rfl (C rfl (Sw s101 rfl ts_23 h111 rfl rfl rfl ?_)))
 intro H127 h128 k129
 have m132 := Mono.set m113 z14 k129
 refine A rfl rfl ?_
 refine rt_ ?_
 refine Rr (Res.list rfl rfl (.cell (v := .agg [J 0, J 0, J 0]) s101 ty_23 h128 rfl (.tmp rfl (.nil)))) ?_ m132
 exact congrArg AV.tup (lc (congrArg AV.agg (lc (congrArg (AV.int .i64) (show (0 : Int) = ((pointR p i n j m).1).X from by rw [pointR_F hk0 (by omega) b114])) (lc (congrArg (AV.int .i64) (show (0 : Int) = ((pointR p i n j m).1).Y from by rw [pointR_F hk0 (by omega) b114])) (lc (congrArg (AV.int .i64) (show (0 : Int) = ((pointR p i n j m).1).Z from by rw [pointR_F hk0 (by omega) b114])) rfl)))) (lc (congrArg AV.bool (show (false : Bool) = (pointR p i n j m).2 from by rw [pointR_F hk0 (by omega) b114])) rfl))
 refine cf_ rfl (decide_eq_false b108) ?_
 refine AWP.exit ?_
 change AWP _ _ _ _ _ _
 refine AWP.seq ?_
 have hwt : ∀ k : Int, 0 ≤ k → k < 16 → 0 ≤ at_ (R_ref11_Weights i n) (k % 4) * at_ (R_ref11_Weights j m) (k / 4) ∧ at_ (R_ref11_Weights i n) (k % 4) * at_ (R_ref11_Weights j m) (k / 4) ≤ 150994944 := fun k h0 h1 => mul_nn (wts_rng (i := i) (n := n) (by omega) (by omega) (by omega) _ (by omega) (by omega)) (wts_rng (i := j) (n := m) (by omega) (by omega) (by omega) _ (by omega) (by omega))
 have hsv := sumV_rng (l := p) (wt := fun k => at_ (R_ref11_Weights i n) (k % 4) * at_ (R_ref11_Weights j m) (k / 4)) (B := 150994944) (n := u.toNat) (fun k hk => pre _ (by omega) (by omega)) (fun k hk => hwt _ (by omega) (by omega))
 rw [Int.toNat_of_nonneg hk0] at hsv
 have hsv2 : inV 158329674399744 (sumV p (fun k => at_ (R_ref11_Weights i n) (k % 4) * at_ (R_ref11_Weights j m) (k / 4)) u.toNat) := inV_le hsv (by omega)
 skip
 refine AWP.region rfl ?_
 refine C rfl (Ld _ rfl s104 ty_23 h106 rfl (V rfl s98 (V rfl s98 (B rfl rfl rfl (imul (by have := mul_rng (x := n) (k := n) (A := 16) (C := 16) (by omega) (by omega); omega)) (V rfl s98 (B rfl rfl rfl (imul (by have := mul_rng (x := n * n) (k := n) (A := 256) (C := 16) (by have := mul_rng (x := n) (k := n) (A := 16) (C := 16) (by omega) (by omega); omega) (by omega); omega)) (V rfl s99 (B rfl rfl rfl (imul (by have := mul_rng (x := (n * n) * n) (k := m) (A := 4096) (C := 16) (by have := mul_rng (x := (n * n)) (k := n) (A := 256) (C := 16) (by have := mul_rng (x := n) (k := n) (A := 16) (C := 16) (by omega) (by omega); omega) (by omega); omega) (by omega); omega)) (V rfl s99 (B rfl rfl rfl (imul (by have := mul_rng (x := ((n * n) * n) * m) (k := m) (A := 65536) (C := 16) (by have := mul_rng (x := ((n * n) * n)) (k := m) (A := 4096) (C := 16) (by have := mul_rng (x := (n * n)) (k := n) (A := 256) (C := 16) (by have := mul_rng (x := n) (k := n) (A := 16) (C := 16) (by omega) (by omega); omega) (by omega); omega) (by omega); omega) (by omega); omega)) (V rfl s99 (B rfl rfl rfl (imul (by have := mul_rng (x := (((n * n) * n) * m) * m) (k := m) (A := 1048576) (C := 16) (by have := mul_rng (x := (((n * n) * n) * m)) (k := m) (A := 65536) (C := 16) (by have := mul_rng (x := ((n * n) * n)) (k := m) (A := 4096) (C := 16) (by have := mul_rng (x := (n * n)) (k := n) (A := 256) (C := 16) (by have := mul_rng (x := n) (k := n) (A := 16) (C := 16) (by omega) (by omega); omega) (by omega); omega) (by omega); omega) (by omega); omega) (by omega); omega)) ?_))))))))))))
 refine C rfl (Pc («as» := [.agg [J ((sumV p (fun k => at_ (R_ref11_Weights i n) (k % 4) * at_ (R_ref11_Weights j m) (k / 4)) u.toNat).X), J ((sumV p (fun k => at_ (R_ref11_Weights i n) (k % 4) * at_ (R_ref11_Weights j m) (k / 4)) u.toNat).Y), J ((sumV p (fun k => at_ (R_ref11_Weights i n) (k % 4) * at_ (R_ref11_Weights j m) (k / 4)) u.toNat).Z)], J (((((n * n) * n) * m) * m) * m)]) rfl rfl (rfl) tf_74 (c_ref09_Of (sumV p (fun k => at_ (R_ref11_Weights i n) (k % 4) * at_ (R_ref11_Weights j m) (k / 4)) u.toNat) (((((n * n) * n) * m) * m) * m) (inV_le hsv2 (by decide)) (by have : -16777216 ≤ ((((n * n) * n) * m) * m) * m ∧ ((((n * n) * n) * m) * m) * m ≤ 16777216 := (by have := mul_rng (x := ((((n * n) * n) * m) * m)) (k := m) (A := 1048576) (C := 16) (by have := mul_rng (x := (((n * n) * n) * m)) (k := m) (A := 65536) (C := 16) (by have := mul_rng (x := ((n * n) * n)) (k := m) (A := 4096) (C := 16) (by have := mul_rng (x := (n * n)) (k := n) (A := 256) (C := 16) (by have := mul_rng (x := n) (k := n) (A := 16) (C := 16) (by omega) (by omega); omega) (by omega); omega) (by omega); omega) (by omega); omega) (by omega); omega); omega)) ?_)
 intro H133 m134
 have h135 := m134 _ _ h105
 have h136 := m134 _ _ h106
 have m137 := m107.trans m134
 refine C rfl (Sw s101 rfl ts_23 h135 rfl rfl rfl ?_)
 intro H138 h139 k140
 have m143 := Mono.set m137 z14 k140
 refine A rfl rfl ?_
 refine rt_ ?_
 refine Rr (Res.list rfl rfl (.cell (v := .agg [J ((R_ref09_Of (sumV p (fun k => at_ (R_ref11_Weights i n) (k % 4) * at_ (R_ref11_Weights j m) (k / 4)) u.toNat) (((((n * n) * n) * m) * m) * m)).X), J ((R_ref09_Of (sumV p (fun k => at_ (R_ref11_Weights i n) (k % 4) * at_ (R_ref11_Weights j m) (k / 4)) u.toNat) (((((n * n) * n) * m) * m) * m)).Y), J ((R_ref09_Of (sumV p (fun k => at_ (R_ref11_Weights i n) (k % 4) * at_ (R_ref11_Weights j m) (k / 4)) u.toNat) (((((n * n) * n) * m) * m) * m)).Z)]) s101 ty_23 h139 rfl (.tmp rfl (.nil)))) ?_ m143
 exact congrArg AV.tup (lc (congrArg AV.agg (lc (congrArg (AV.int .i64) (show ((R_ref09_Of (sumV p (fun k => at_ (R_ref11_Weights i n) (k % 4) * at_ (R_ref11_Weights j m) (k / 4)) u.toNat) (((((n * n) * n) * m) * m) * m)).X : Int) = ((pointR p i n j m).1).X from by rw [pointR_T b25 b31 (by omega) pre])) (lc (congrArg (AV.int .i64) (show ((R_ref09_Of (sumV p (fun k => at_ (R_ref11_Weights i n) (k % 4) * at_ (R_ref11_Weights j m) (k / 4)) u.toNat) (((((n * n) * n) * m) * m) * m)).Y : Int) = ((pointR p i n j m).1).Y from by rw [pointR_T b25 b31 (by omega) pre])) (lc (congrArg (AV.int .i64) (show ((R_ref09_Of (sumV p (fun k => at_ (R_ref11_Weights i n) (k % 4) * at_ (R_ref11_Weights j m) (k / 4)) u.toNat) (((((n * n) * n) * m) * m) * m)).Z : Int) = ((pointR p i n j m).1).Z from by rw [pointR_T b25 b31 (by omega) pre])) rfl)))) (lc (congrArg AV.bool (show (true : Bool) = (pointR p i n j m).2 from by rw [pointR_T b25 b31 (by omega) pre])) rfl))
 refine ct_ rfl (nb b31) ?_
 refine Sr ?_
 refine C rfl (Bl (cells := [J 0, J 0, J 0]) rfl tz_23 pl_23 rfl rfl (C rfl (Sw rfl rfl ts_23 h29 rfl rfl rfl ?_)))
 intro H144 h145 k146
 have m148 := Mono.set m30 z14 k146
 refine A rfl rfl ?_
 refine rt_ ?_
 refine Rr (Res.list rfl rfl (.cell (v := .agg [J 0, J 0, J 0]) rfl ty_23 h145 rfl (.tmp rfl (.nil)))) ?_ m148
 exact congrArg AV.tup (lc (congrArg AV.agg (lc (congrArg (AV.int .i64) (show (0 : Int) = ((pointR p i n j m).1).X from by rw [pointR_no (fun h => ff b31 h.2)])) (lc (congrArg (AV.int .i64) (show (0 : Int) = ((pointR p i n j m).1).Y from by rw [pointR_no (fun h => ff b31 h.2)])) (lc (congrArg (AV.int .i64) (show (0 : Int) = ((pointR p i n j m).1).Z from by rw [pointR_no (fun h => ff b31 h.2)])) rfl)))) (lc (congrArg AV.bool (show (false : Bool) = (pointR p i n j m).2 from by rw [pointR_no (fun h => ff b31 h.2)])) rfl))
 refine N rfl rfl (nb b25) (N rfl rfl (nb b25) (N rfl rfl (nb b25) (N rfl rfl (nb b25) (C rfl (Pt _ rfl rfl (nb b25) rfl ?_)))))
 refine ct_ rfl rfl ?_
 refine Sr ?_
 refine C rfl (Bl (cells := [J 0, J 0, J 0]) rfl tz_23 pl_23 rfl rfl (C rfl (Sw rfl rfl ts_23 h23 rfl rfl rfl ?_)))
 intro H149 h150 k151
 have m153 := Mono.set m24 z14 k151
 refine A rfl rfl ?_
 refine rt_ ?_
 refine Rr (Res.list rfl rfl (.cell (v := .agg [J 0, J 0, J 0]) rfl ty_23 h150 rfl (.tmp rfl (.nil)))) ?_ m153
 exact congrArg AV.tup (lc (congrArg AV.agg (lc (congrArg (AV.int .i64) (show (0 : Int) = ((pointR p i n j m).1).X from by rw [pointR_no (fun h => ff b25 h.1)])) (lc (congrArg (AV.int .i64) (show (0 : Int) = ((pointR p i n j m).1).Y from by rw [pointR_no (fun h => ff b25 h.1)])) (lc (congrArg (AV.int .i64) (show (0 : Int) = ((pointR p i n j m).1).Z from by rw [pointR_no (fun h => ff b25 h.1)])) rfl)))) (lc (congrArg AV.bool (show (false : Bool) = (pointR p i n j m).2 from by rw [pointR_no (fun h => ff b25 h.1)])) rfl))
end Go.Proofs.M
namespace Go.Proofs.M
set_option maxRecDepth 4000
open Go Go.AH Go.Maps
theorem laid : laidOutB Tryd.prog = true := by kernel_rfl
theorem row_lt {a b : Nat} (h : Nat.ble (a + 1) b = true) : a < b := Nat.le_of_ble_eq_true h
abbrev ranV (v : VT) : Prop := inR v.X ∧ inR v.Y ∧ inR v.Z
abbrev ranK (k : KeyT) : Prop := inR k.Kind ∧ inR k.Of ∧ inR k.A ∧ inR k.B ∧ inR k.N
abbrev ranI3 (k : I3T) : Prop := inR k.x0 ∧ inR k.x1 ∧ inR k.x2
abbrev ranB (b : BoxT) : Prop := ranV b.Lo ∧ ranV b.Hi
abbrev ranT (b : TriT) : Prop := ranV b.A ∧ ranV b.B ∧ ranV b.C
abbrev ranS (b : SpotT) : Prop := inR b.Kind ∧ inR b.A ∧ inR b.B
theorem teq23 : TEq Tryd.prog 23 := TEq.mk' laid (m := 5) (by decide) (row_lt (by kernel_rfl)) (by kernel_rfl) (by kernel_rfl) (by kernel_rfl)
theorem teq58 : TEq Tryd.prog 58 := TEq.mk' laid (m := 5) (by decide) (row_lt (by kernel_rfl)) (by kernel_rfl) (by kernel_rfl) (by kernel_rfl)
theorem teq59 : TEq Tryd.prog 59 := TEq.mk' laid (m := 5) (by decide) (row_lt (by kernel_rfl)) (by kernel_rfl) (by kernel_rfl) (by kernel_rfl)
theorem teq43 : TEq Tryd.prog 43 := TEq.mk' laid (m := 5) (by decide) (row_lt (by kernel_rfl)) (by kernel_rfl) (by kernel_rfl) (by kernel_rfl)
theorem teq47 : TEq Tryd.prog 47 := TEq.mk' laid (m := 5) (by decide) (row_lt (by kernel_rfl)) (by kernel_rfl) (by kernel_rfl) (by kernel_rfl)
theorem teq76 : TEq Tryd.prog 76 := TEq.mk' laid (m := 5) (by decide) (row_lt (by kernel_rfl)) (by kernel_rfl) (by kernel_rfl) (by kernel_rfl)
theorem kokV {v : VT} (h : ranV v) : KOK Tryd.prog 23 (.agg (eV v)) := KOK.flat (xs := [v.X, v.Y, v.Z]) 4 rfl (by kernel_rfl) (by kernel_rfl) (by kernel_rfl) (by kernel_rfl) (by simp [h])
theorem kokK {v : KeyT} (h : ranK v) : KOK Tryd.prog 58 (.agg (eKey v)) := KOK.flat (xs := [v.Kind, v.Of, v.A, v.B, v.N]) 4 rfl (by kernel_rfl) (by kernel_rfl) (by kernel_rfl) (by kernel_rfl) (by simp [h])
theorem kokI3 {v : I3T} (h : ranI3 v) : KOK Tryd.prog 59 (.agg (eI3 v)) := KOK.flat (xs := [v.x0, v.x1, v.x2]) 4 rfl (by kernel_rfl) (by kernel_rfl) (by kernel_rfl) (by kernel_rfl) (by simp [h])
theorem kokS {v : SpotT} (h : ranS v) : KOK Tryd.prog 76 (.agg (eSpot v)) := KOK.flat (xs := [v.Kind, v.A, v.B]) 4 rfl (by kernel_rfl) (by kernel_rfl) (by kernel_rfl) (by kernel_rfl) (by simp [h])
theorem kokB {v : BoxT} (h : ranB v) : KOK Tryd.prog 43 (.agg (eBox v)) := KOK.flat (xs := [v.Lo.X, v.Lo.Y, v.Lo.Z, v.Hi.X, v.Hi.Y, v.Hi.Z]) 4 rfl (by kernel_rfl) (by kernel_rfl) (by kernel_rfl) (by kernel_rfl) (by simp [h])
theorem kokT {v : TriT} (h : ranT v) : KOK Tryd.prog 47 (.agg (eTri v)) := KOK.flat (xs := [v.A.X, v.A.Y, v.A.Z, v.B.X, v.B.Y, v.B.Z, v.C.X, v.C.Y, v.C.Z]) 4 rfl (by kernel_rfl) (by kernel_rfl) (by kernel_rfl) (by kernel_rfl) (by simp [h])
theorem tm96 : TMap Tryd.prog 96 76 3 := TMap.mk' laid (m := 5) (by decide) rfl (row_lt (by kernel_rfl)) (by kernel_rfl) (by kernel_rfl)
theorem inR_of {a B : Int} (h : -B ≤ a ∧ a ≤ B) (hB : B ≤ 9223372036854775807) : inR a := by unfold inR; omega
theorem ranV_of {v : VT} {B : Int} (h : inV B v) (hB : B ≤ 9223372036854775807) : ranV v := by
  obtain ⟨h1, h2, h3, h4, h5, h6⟩ := h
  exact ⟨inR_of ⟨h1, h2⟩ hB, inR_of ⟨h3, h4⟩ hB, inR_of ⟨h5, h6⟩ hB⟩
theorem ediv_rng {n d : Int} (hn : 0 ≤ n) (hd : 1 ≤ d) : 0 ≤ n / d ∧ n / d ≤ n := ⟨Int.ediv_nonneg hn (by omega), Int.ediv_le_self _ hn⟩
def idxF (l : List VT) (m : Int) : Int := match l.findIdx? fun v => !R_vec_Within v m with | some k => k | none => -1
theorem idxF_hit {l : List VT} {m i : Int} (h0 : 0 ≤ i) (h1 : i < l.length) (hp : ∀ j : Int, 0 ≤ j → j < i → inV m (at_ l j)) (h : R_vec_Within (at_ l i) m = false) : i = idxF l m := by
  have e : l.findIdx? (fun v => !R_vec_Within v m) = some i.toNat := by
    rw [List.findIdx?_eq_some_iff_getElem]
    refine ⟨by omega, ?_, fun j hj => ?_⟩
    · have hl : i.toNat < l.length := by omega
      simpa [at_, hl] using h
    · have hl : j < l.length := by omega
      have := withinvec_iff.2 (hp j (by omega) (by omega))
      simp [at_, hl] at this
      simpa using this
  unfold idxF
  rw [e]
  simp only
  omega
theorem idxF_miss {l : List VT} {m : Int} (hp : ∀ j : Int, 0 ≤ j → j < l.length → inV m (at_ l j)) : -1 = idxF l m := by
  have e : l.findIdx? (fun v => !R_vec_Within v m) = none := by
    rw [List.findIdx?_eq_none_iff]
    intro v hv
    obtain ⟨i, h0, h1, rfl⟩ := mem_at hv
    rw [withinvec_iff.2 (hp i h0 h1)]; rfl
  unfold idxF
  rw [e]
theorem idxF_all (l : List VT) (m : Int) : decide (idxF l m ≥ 0) = !allIn l m := by
  cases h : allIn l m with
  | true => rw [← idxF_miss (allIn_T.1 h)]; rfl
  | false =>
    have : ∃ k, l.findIdx? (fun v => !R_vec_Within v m) = some k := by
      cases e : l.findIdx? (fun v => !R_vec_Within v m) with
      | some k => exact ⟨k, rfl⟩
      | none =>
        rw [List.findIdx?_eq_none_iff] at e
        have : allIn l m = true := by
          unfold allIn
          rw [List.all_eq_true]
          intro v hv
          have := e v hv
          simpa using this
        rw [h] at this; cases this
    obtain ⟨k, hk⟩ := this
    unfold idxF; rw [hk]; simp
def boxL (l : List VT) (b : BoxT) : BoxT := l.foldl (fun b p => R_vec_Join b (BoxT.mk p p)) b
def boundR (l : List VT) : BoxT × Bool := if l.length = 0 then (BoxT.mk (VT.mk 0 0 0) (VT.mk 0 0 0), false) else (boxL l (BoxT.mk (at_ l 0) (at_ l 0)), true)
theorem boxL_step {l : List VT} {b : BoxT} {i : Int} (h0 : 0 ≤ i) (h1 : i < l.length) : boxL (l.take (i + 1).toNat) b = R_vec_Join (boxL (l.take i.toNat) b) (BoxT.mk (at_ l i) (at_ l i)) := by
  unfold boxL; rw [take_step h0 h1, List.foldl_append]; rfl
theorem box_self (p : VT) : R_vec_Join (BoxT.mk p p) (BoxT.mk p p) = BoxT.mk p p := by
  simp [R_vec_Join]
theorem bound_drop {l : List VT} {i : Int} (hl : ¬ (l.length : Int) = 0) (hi : i = ((l.drop (1 : Int).toNat).length : Int)) : (boxL ((l.drop (1 : Int).toNat).take i.toNat) (BoxT.mk (at_ l 0) (at_ l 0)), true) = boundR l := by
  unfold boundR
  rw [if_neg (by omega), take_all (by omega)]
  cases l with
  | nil => simp at hl
  | cons a l =>
    have e : at_ (a :: l) 0 = a := rfl
    rw [e]
    show (boxL l _, true) = _
    unfold boxL
    rw [List.foldl_cons, box_self]
theorem bound_all {l : List VT} {i : Int} (hl : ¬ (l.length : Int) = 0) (hi : i = (l.length : Int)) : (boxL (l.take i.toNat) (BoxT.mk (at_ l 0) (at_ l 0)), true) = boundR l := by
  unfold boundR
  rw [if_neg (by omega), take_all (by omega)]
theorem bound_no {l : List VT} (hl : (l.length : Int) = 0) : (BoxT.mk (VT.mk 0 0 0) (VT.mk 0 0 0), false) = boundR l := by
  unfold boundR
  rw [if_pos (by omega)]
end Go.Proofs.M
namespace Go.Proofs.M
open Go Go.AH
set_option maxRecDepth 4000
set_option linter.unusedSimpArgs false
set_option linter.unusedVariables false
def R_rate_way (v : VT) : Int :=
  max v.X (-v.X) + (max v.Y (-v.Y)) + (max v.Z (-v.Z))
theorem way_rng {v : VT} {B : Int} (h : inV B v) : 0 ≤ R_rate_way v ∧ R_rate_way v ≤ 3 * B := by
  obtain ⟨h1, h2, h3, h4, h5, h6⟩ := h
  unfold R_rate_way; omega
theorem c_rate_way (v : VT) (hv : inV 1048576 v) : PC Tryd.prog 91 [.agg [J v.X, J v.Y, J v.Z]] (J (R_rate_way v)) := by
 intro H0
 refine ACalls.of_body' (n := 23) rfl rfl rfl rfl ?_
 have m0 := Mono.refl H0
 refine Sr ?_
 refine C rfl (bx_ (.agg [J v.X, J v.Y, J v.Z]) rfl rfl rfl ?_)
 intro i1 H2 n3 h4 k5
 have z6 := Mono.free m0 n3
 have m7 := Mono.new m0 n3 k5
 refine A rfl rfl ?_
 refine AWP.seq ?_
 refine fz_ 1 h4 z6 rfl m7 fun H8 m9 k10 => ?_
 refine AWP.region rfl ?_
 refine F rfl rfl fl_23_0 (L rfl rfl ty_3 rfl (F rfl rfl fl_23_0 (L rfl rfl ty_3 rfl (C rfl (AOp.negP rfl rfl (by omega) (C rfl (AOp.max2 rfl rfl rfl (F rfl rfl fl_23_1 (L rfl rfl ty_3 rfl (F rfl rfl fl_23_1 (L rfl rfl ty_3 rfl (C rfl (AOp.negP rfl rfl (by omega) (C rfl (AOp.max2 rfl rfl rfl (B rfl rfl rfl (iadd (by omega)) (F rfl rfl fl_23_2 (L rfl rfl ty_3 rfl (F rfl rfl fl_23_2 (L rfl rfl ty_3 rfl (C rfl (AOp.negP rfl rfl (by omega) ?_))))))))))))))))))))))
 refine C rfl (AOp.max2 rfl rfl rfl (B rfl rfl rfl (iadd (by omega)) (A rfl rfl ?_)))
 refine rt_ ?_
 refine Rr (Res.one rfl rfl) ?_ m9
 have hR : R_rate_way v = max v.X (-v.X) + (max v.Y (-v.Y)) + (max v.Z (-v.Z)) := rfl
 exact (congrArg (fun r : Int => (J r : AV)) hR).symm
def R_rate_Length (p : (List VT)) : Int × Bool :=
  if R_vec_Within (at_ p 0) 65536 = true then (if R_vec_Within (at_ p 1) 65536 = true then (if R_vec_Within (at_ p 2) 65536 = true then (if R_vec_Within (at_ p 3) 65536 = true then (0 + (R_rate_way (R_vec_Sub (at_ p 0) (at_ p 0))) + (R_rate_way (R_vec_Sub (at_ p 1) (at_ p 0))) + (R_rate_way (R_vec_Sub (at_ p 2) (at_ p 1))) + (R_rate_way (R_vec_Sub (at_ p 3) (at_ p 2))), true) else (0, false)) else (0, false)) else (0, false)) else (0, false)
theorem len_rng_rate (p : List VT) : 0 ≤ (R_rate_Length p).1 ∧ (R_rate_Length p).1 ≤ 4194304 := by
  unfold R_rate_Length
  split
  · rename_i h0
    split
    · rename_i h1
      split
      · rename_i h2
        split
        · rename_i h3
          have a := way_rng (inV_vec_Sub (withinvec_in h0) (withinvec_in h0))
          have b := way_rng (inV_vec_Sub (withinvec_in h1) (withinvec_in h0))
          have c := way_rng (inV_vec_Sub (withinvec_in h2) (withinvec_in h1))
          have d := way_rng (inV_vec_Sub (withinvec_in h3) (withinvec_in h2))
          simp only; omega
        · simp
      · simp
    · simp
  · simp
def Trate_Length (r : Int × Bool) : AV := .tup [J r.1, .bool r.2]
theorem c_rate_Length (p : (List VT)) (h_p : p.length = 4) : PC Tryd.prog 79 [.agg (p.flatMap eV)] (.tup [J ((R_rate_Length p).1), .bool ((R_rate_Length p).2)]) := by
 intro H0
 refine ACalls.of_body' (n := 27) rfl rfl rfl rfl ?_
 have m0 := Mono.refl H0
 refine Sr ?_
 refine C rfl (bx_ (.agg (p.flatMap eV)) rfl rfl rfl ?_)
 intro i1 H2 n3 h4 k5
 have z6 := Mono.free m0 n3
 have m7 := Mono.new m0 n3 k5
 refine C rfl (As (J 0) rfl rfl (C rfl (As (.bool false) rfl rfl ?_)))
 refine AWP.seq ?_
 refine fz_ 1 h4 z6 rfl m7 fun H8 m9 k10 => ?_
 refine AWP.region rfl ?_
 refine C rfl (As (J 0) rfl rfl ?_)
 refine AWP.seq ?_
 refine Sr ?_
 refine C rfl (Lf (.agg (p.flatMap eV)) rfl rfl ty_26 (ld_all (lenM eV_len h_p rfl)) (C rfl (Mv (J 0) rfl rfl ?_)))
 refine bk_ ?_
 refine AWP.unroll 20 ?_
 refine UN.step ?_
 refine Sr ?_
 refine C rfl (Bi (.bool (decide (0 < 4))) rfl rfl rfl rfl ?_)
 refine AWP.seq ?_
 refine ct_ rfl (decide_eq_true (by decide)) ?_
 refine AWP.skip ?_
 refine AWP.seq ?_
 refine bk_ ?_
 refine Sr ?_
 refine C rfl (Mv (J 0) rfl rfl (C rfl (AOp.indexArr (.agg [J ((at_ p 0).X), J ((at_ p 0).Y), J ((at_ p 0).Z)]) rfl rfl rfl ar_26 (by omega) (by omega) (ldM eV_len (i := 0) (by omega) (by have := h_p; omega)) (C rfl (al_ rfl tz_23 ?_)))))
 intro i11 H12 n13 h14 k15
 have z16 := Mono.free m9 n13
 have m17 := Mono.new m9 n13 k15
 refine C rfl (As (J 0) rfl rfl (C rfl (Sw rfl rfl ts_23 h14 rfl rfl rfl ?_)))
 intro H18 h19 k20
 have m22 := Mono.set m17 z16 k20
 refine AWP.seq ?_
 refine AWP.seq ?_
 refine fz_ 6 h19 z16 rfl m22 fun H23 m24 k25 => ?_
 refine AWP.region rfl ?_
 refine C rfl (Lf (.agg [J ((at_ p 0).X), J ((at_ p 0).Y), J ((at_ p 0).Z)]) rfl rfl ty_23 rfl (C rfl (Pc («as» := [.agg [J ((at_ p 0).X), J ((at_ p 0).Y), J ((at_ p 0).Z)], J 65536]) rfl rfl (rfl) tf_18 (c_vec_Within (at_ p 0) 65536 (by first | omega | assumption | (constructor <;> omega) | simp)) ?_)))
 intro H26 m27
 have m28 := m24.trans m27
 refine C rfl (AOp.not rfl rfl ?_)
 refine AOps.nil ?_
 change AWP _ _ _ _ _ _
 rcases Bool.eq_false_or_eq_true (R_vec_Within (at_ p 0) 65536) with b29 | b29
 have iv30 : inV 65536 (at_ p 0) := withinvec_in b29
 refine cf_ rfl (nb b29) ?_
 refine AWP.skip ?_
 change AWP _ _ _ _ _ _
 have hw0 := way_rng (inV_le (inV_vec_Sub iv30 iv30) (by decide) : inV 131072 _)
 refine AWP.region_quiet mixed (by kernel_rfl) 11 [] rfl (by kernel_rfl) (Mono H26) (Mono.refl _) ?_
 refine Q rfl (fun _ _ φ ψ => Mv (J 0) rfl (φ 4 rfl) ⟨rfl, ψ⟩) (Q rfl (fun _ _ φ ψ => Lf (.agg [J ((at_ p 0).X), J ((at_ p 0).Y), J ((at_ p 0).Z)]) rfl (φ 6 rfl) ty_23 rfl ⟨rfl, ψ⟩) (Q rfl (fun _ _ φ ψ => Mv (J 0) rfl (φ 5 rfl) ⟨rfl, ψ⟩) (QB rfl rfl rfl (isub (by omega)) (Q rfl (fun _ _ φ ψ => AOp.max2 rfl (φ 18 rfl) rfl ⟨rfl, ψ⟩) (Q rfl (fun _ _ φ ψ => iF_ rfl (φ 1 rfl) (φ 19 rfl) ar_26 (by omega) (by omega) ⟨rfl, ψ⟩) (Q rfl (fun _ _ φ ψ => Lf (.agg [J ((at_ p 0).X), J ((at_ p 0).Y), J ((at_ p 0).Z)]) rfl (φ 20 rfl) ty_23 (ldM eV_len (i := 0) (by omega) (by have := h_p; omega)) ⟨rfl, ψ⟩) (Q rfl (fun _ _ φ ψ => Pc («as» := [.agg [J ((at_ p 0).X), J ((at_ p 0).Y), J ((at_ p 0).Z)], .agg [J ((at_ p 0).X), J ((at_ p 0).Y), J ((at_ p 0).Z)]]) rfl rfl (lapp (lcons (φ 16 rfl) (lcons (φ 21 rfl) rfl)) rfl) tf_37 (c_vec_Sub (at_ p 0) (at_ p 0) (inV_le iv30 (by decide)) (inV_le iv30 (by decide))) fun H2 m2 => ⟨rfl, ψ.trans m2⟩) (Q rfl (fun _ _ φ ψ => Pc («as» := [.agg [J ((R_vec_Sub (at_ p 0) (at_ p 0)).X), J ((R_vec_Sub (at_ p 0) (at_ p 0)).Y), J ((R_vec_Sub (at_ p 0) (at_ p 0)).Z)]]) rfl rfl (lapp (lcons (φ 22 rfl) rfl) rfl) tf_91 (c_rate_way (R_vec_Sub (at_ p 0) (at_ p 0)) (inV_le (inV_le (inV_vec_Sub iv30 iv30) (by decide) : inV 131072 _) (by decide))) fun H2 m2 => ⟨rfl, ψ.trans m2⟩) (QB rfl rfl rfl (iadd (by omega)) (Q rfl (fun _ _ φ ψ => As (J (0 + (R_rate_way (R_vec_Sub (at_ p 0) (at_ p 0))))) rfl (φ 24 rfl) ⟨rfl, ψ⟩) ?_))))))))))
 refine QE.done fun H31 m32 => ?_
 have m33 := m28.trans m32
 refine AWP.region rfl ?_
 refine C rfl (Bi (J 1) rfl rfl rfl (iadd (by omega)) (C rfl (Mv (J 1) rfl rfl ?_)))
 refine AOps.nil ?_
 refine UN.step ?_
 refine Sr ?_
 refine C rfl (Bi (.bool (decide (1 < 4))) rfl rfl rfl rfl ?_)
 refine AWP.seq ?_
 refine ct_ rfl (decide_eq_true (by decide)) ?_
 refine AWP.skip ?_
 refine AWP.seq ?_
 refine bk_ ?_
 refine Sr ?_
 refine C rfl (Mv (J 1) rfl rfl (C rfl (AOp.indexArr (.agg [J ((at_ p 1).X), J ((at_ p 1).Y), J ((at_ p 1).Z)]) rfl rfl rfl ar_26 (by omega) (by omega) (ldM eV_len (i := 1) (by omega) (by have := h_p; omega)) (C rfl (al_ rfl tz_23 ?_)))))
 intro i34 H35 n36 h37 k38
 have z39 := Mono.free m33 n36
 have m40 := Mono.new m33 n36 k38
 refine C rfl (As (J 1) rfl rfl (C rfl (Sw rfl rfl ts_23 h37 rfl rfl rfl ?_)))
 intro H41 h42 k43
 have m45 := Mono.set m40 z39 k43
 refine AWP.seq ?_
 refine AWP.seq ?_
 refine fz_ 6 h42 z39 rfl m45 fun H46 m47 k48 => ?_
 refine AWP.region rfl ?_
 refine C rfl (Lf (.agg [J ((at_ p 1).X), J ((at_ p 1).Y), J ((at_ p 1).Z)]) rfl rfl ty_23 rfl (C rfl (Pc («as» := [.agg [J ((at_ p 1).X), J ((at_ p 1).Y), J ((at_ p 1).Z)], J 65536]) rfl rfl (rfl) tf_18 (c_vec_Within (at_ p 1) 65536 (by first | omega | assumption | (constructor <;> omega) | simp)) ?_)))
 intro H49 m50
 have m51 := m47.trans m50
 refine C rfl (AOp.not rfl rfl ?_)
 refine AOps.nil ?_
 change AWP _ _ _ _ _ _
 rcases Bool.eq_false_or_eq_true (R_vec_Within (at_ p 1) 65536) with b52 | b52
 have iv53 : inV 65536 (at_ p 1) := withinvec_in b52
 refine cf_ rfl (nb b52) ?_
 refine AWP.skip ?_
 change AWP _ _ _ _ _ _
 have hw1 := way_rng (inV_le (inV_vec_Sub iv53 iv30) (by decide) : inV 131072 _)
 refine AWP.region_quiet mixed (by kernel_rfl) 11 [] rfl (by kernel_rfl) (Mono H49) (Mono.refl _) ?_
 refine Q rfl (fun _ _ φ ψ => Mv (J (0 + (R_rate_way (R_vec_Sub (at_ p 0) (at_ p 0))))) rfl (φ 4 rfl) ⟨rfl, ψ⟩) (Q rfl (fun _ _ φ ψ => Lf (.agg [J ((at_ p 1).X), J ((at_ p 1).Y), J ((at_ p 1).Z)]) rfl (φ 6 rfl) ty_23 rfl ⟨rfl, ψ⟩) (Q rfl (fun _ _ φ ψ => Mv (J 1) rfl (φ 5 rfl) ⟨rfl, ψ⟩) (QB rfl rfl rfl (isub (by omega)) (Q rfl (fun _ _ φ ψ => AOp.max2 rfl (φ 18 rfl) rfl ⟨rfl, ψ⟩) (Q rfl (fun _ _ φ ψ => iF_ rfl (φ 1 rfl) (φ 19 rfl) ar_26 (by omega) (by omega) ⟨rfl, ψ⟩) (Q rfl (fun _ _ φ ψ => Lf (.agg [J ((at_ p 0).X), J ((at_ p 0).Y), J ((at_ p 0).Z)]) rfl (φ 20 rfl) ty_23 (ldM eV_len (i := 0) (by omega) (by have := h_p; omega)) ⟨rfl, ψ⟩) (Q rfl (fun _ _ φ ψ => Pc («as» := [.agg [J ((at_ p 1).X), J ((at_ p 1).Y), J ((at_ p 1).Z)], .agg [J ((at_ p 0).X), J ((at_ p 0).Y), J ((at_ p 0).Z)]]) rfl rfl (lapp (lcons (φ 16 rfl) (lcons (φ 21 rfl) rfl)) rfl) tf_37 (c_vec_Sub (at_ p 1) (at_ p 0) (inV_le iv53 (by decide)) (inV_le iv30 (by decide))) fun H2 m2 => ⟨rfl, ψ.trans m2⟩) (Q rfl (fun _ _ φ ψ => Pc («as» := [.agg [J ((R_vec_Sub (at_ p 1) (at_ p 0)).X), J ((R_vec_Sub (at_ p 1) (at_ p 0)).Y), J ((R_vec_Sub (at_ p 1) (at_ p 0)).Z)]]) rfl rfl (lapp (lcons (φ 22 rfl) rfl) rfl) tf_91 (c_rate_way (R_vec_Sub (at_ p 1) (at_ p 0)) (inV_le (inV_le (inV_vec_Sub iv53 iv30) (by decide) : inV 131072 _) (by decide))) fun H2 m2 => ⟨rfl, ψ.trans m2⟩) (QB rfl rfl rfl (iadd (by omega)) (Q rfl (fun _ _ φ ψ => As (J (0 + (R_rate_way (R_vec_Sub (at_ p 0) (at_ p 0))) + (R_rate_way (R_vec_Sub (at_ p 1) (at_ p 0))))) rfl (φ 24 rfl) ⟨rfl, ψ⟩) ?_))))))))))
 refine QE.done fun H54 m55 => ?_
 have m56 := m51.trans m55
 refine AWP.region rfl ?_
 refine C rfl (Bi (J 2) rfl rfl rfl (iadd (by omega)) (C rfl (Mv (J 2) rfl rfl ?_)))
 refine AOps.nil ?_
 refine UN.step ?_
 refine Sr ?_
 refine C rfl (Bi (.bool (decide (2 < 4))) rfl rfl rfl rfl ?_)
 refine AWP.seq ?_
 refine ct_ rfl (decide_eq_true (by decide)) ?_
 refine AWP.skip ?_
 refine AWP.seq ?_
 refine bk_ ?_
 refine Sr ?_
 refine C rfl (Mv (J 2) rfl rfl (C rfl (AOp.indexArr (.agg [J ((at_ p 2).X), J ((at_ p 2).Y), J ((at_ p 2).Z)]) rfl rfl rfl ar_26 (by omega) (by omega) (ldM eV_len (i := 2) (by omega) (by have := h_p; omega)) (C rfl (al_ rfl tz_23 ?_)))))
 intro i57 H58 n59 h60 k61
 have z62 := Mono.free m56 n59
 have m63 := Mono.new m56 n59 k61
 refine C rfl (As (J 2) rfl rfl (C rfl (Sw rfl rfl ts_23 h60 rfl rfl rfl ?_)))
 intro H64 h65 k66
 have m68 := Mono.set m63 z62 k66
 refine AWP.seq ?_
 refine AWP.seq ?_
 refine fz_ 6 h65 z62 rfl m68 fun H69 m70 k71 => ?_
 refine AWP.region rfl ?_
 refine C rfl (Lf (.agg [J ((at_ p 2).X), J ((at_ p 2).Y), J ((at_ p 2).Z)]) rfl rfl ty_23 rfl (C rfl (Pc («as» := [.agg [J ((at_ p 2).X), J ((at_ p 2).Y), J ((at_ p 2).Z)], J 65536]) rfl rfl (rfl) tf_18 (c_vec_Within (at_ p 2) 65536 (by first | omega | assumption | (constructor <;> omega) | simp)) ?_)))
 intro H72 m73
 have m74 := m70.trans m73
 refine C rfl (AOp.not rfl rfl ?_)
 refine AOps.nil ?_
 change AWP _ _ _ _ _ _
 rcases Bool.eq_false_or_eq_true (R_vec_Within (at_ p 2) 65536) with b75 | b75
 have iv76 : inV 65536 (at_ p 2) := withinvec_in b75
 refine cf_ rfl (nb b75) ?_
 refine AWP.skip ?_
 change AWP _ _ _ _ _ _
 have hw2 := way_rng (inV_le (inV_vec_Sub iv76 iv53) (by decide) : inV 131072 _)
 refine AWP.region_quiet mixed (by kernel_rfl) 11 [] rfl (by kernel_rfl) (Mono H72) (Mono.refl _) ?_
 refine Q rfl (fun _ _ φ ψ => Mv (J (0 + (R_rate_way (R_vec_Sub (at_ p 0) (at_ p 0))) + (R_rate_way (R_vec_Sub (at_ p 1) (at_ p 0))))) rfl (φ 4 rfl) ⟨rfl, ψ⟩) (Q rfl (fun _ _ φ ψ => Lf (.agg [J ((at_ p 2).X), J ((at_ p 2).Y), J ((at_ p 2).Z)]) rfl (φ 6 rfl) ty_23 rfl ⟨rfl, ψ⟩) (Q rfl (fun _ _ φ ψ => Mv (J 2) rfl (φ 5 rfl) ⟨rfl, ψ⟩) (QB rfl rfl rfl (isub (by omega)) (Q rfl (fun _ _ φ ψ => AOp.max2 rfl (φ 18 rfl) rfl ⟨rfl, ψ⟩) (Q rfl (fun _ _ φ ψ => iF_ rfl (φ 1 rfl) (φ 19 rfl) ar_26 (by omega) (by omega) ⟨rfl, ψ⟩) (Q rfl (fun _ _ φ ψ => Lf (.agg [J ((at_ p 1).X), J ((at_ p 1).Y), J ((at_ p 1).Z)]) rfl (φ 20 rfl) ty_23 (ldM eV_len (i := 1) (by omega) (by have := h_p; omega)) ⟨rfl, ψ⟩) (Q rfl (fun _ _ φ ψ => Pc («as» := [.agg [J ((at_ p 2).X), J ((at_ p 2).Y), J ((at_ p 2).Z)], .agg [J ((at_ p 1).X), J ((at_ p 1).Y), J ((at_ p 1).Z)]]) rfl rfl (lapp (lcons (φ 16 rfl) (lcons (φ 21 rfl) rfl)) rfl) tf_37 (c_vec_Sub (at_ p 2) (at_ p 1) (inV_le iv76 (by decide)) (inV_le iv53 (by decide))) fun H2 m2 => ⟨rfl, ψ.trans m2⟩) (Q rfl (fun _ _ φ ψ => Pc («as» := [.agg [J ((R_vec_Sub (at_ p 2) (at_ p 1)).X), J ((R_vec_Sub (at_ p 2) (at_ p 1)).Y), J ((R_vec_Sub (at_ p 2) (at_ p 1)).Z)]]) rfl rfl (lapp (lcons (φ 22 rfl) rfl) rfl) tf_91 (c_rate_way (R_vec_Sub (at_ p 2) (at_ p 1)) (inV_le (inV_le (inV_vec_Sub iv76 iv53) (by decide) : inV 131072 _) (by decide))) fun H2 m2 => ⟨rfl, ψ.trans m2⟩) (QB rfl rfl rfl (iadd (by omega)) (Q rfl (fun _ _ φ ψ => As (J (0 + (R_rate_way (R_vec_Sub (at_ p 0) (at_ p 0))) + (R_rate_way (R_vec_Sub (at_ p 1) (at_ p 0))) + (R_rate_way (R_vec_Sub (at_ p 2) (at_ p 1))))) rfl (φ 24 rfl) ⟨rfl, ψ⟩) ?_))))))))))
 refine QE.done fun H77 m78 => ?_
 have m79 := m74.trans m78
 refine AWP.region rfl ?_
 refine C rfl (Bi (J 3) rfl rfl rfl (iadd (by omega)) (C rfl (Mv (J 3) rfl rfl ?_)))
 refine AOps.nil ?_
 refine UN.step ?_
 refine Sr ?_
 refine C rfl (Bi (.bool (decide (3 < 4))) rfl rfl rfl rfl ?_)
 refine AWP.seq ?_
 refine ct_ rfl (decide_eq_true (by decide)) ?_
 refine AWP.skip ?_
 refine AWP.seq ?_
 refine bk_ ?_
 refine Sr ?_
 refine C rfl (Mv (J 3) rfl rfl (C rfl (AOp.indexArr (.agg [J ((at_ p 3).X), J ((at_ p 3).Y), J ((at_ p 3).Z)]) rfl rfl rfl ar_26 (by omega) (by omega) (ldM eV_len (i := 3) (by omega) (by have := h_p; omega)) (C rfl (al_ rfl tz_23 ?_)))))
 intro i80 H81 n82 h83 k84
 have z85 := Mono.free m79 n82
 have m86 := Mono.new m79 n82 k84
 refine C rfl (As (J 3) rfl rfl (C rfl (Sw rfl rfl ts_23 h83 rfl rfl rfl ?_)))
 intro H87 h88 k89
 have m91 := Mono.set m86 z85 k89
 refine AWP.seq ?_
 refine AWP.seq ?_
 refine fz_ 6 h88 z85 rfl m91 fun H92 m93 k94 => ?_
 refine AWP.region rfl ?_
 refine C rfl (Lf (.agg [J ((at_ p 3).X), J ((at_ p 3).Y), J ((at_ p 3).Z)]) rfl rfl ty_23 rfl (C rfl (Pc («as» := [.agg [J ((at_ p 3).X), J ((at_ p 3).Y), J ((at_ p 3).Z)], J 65536]) rfl rfl (rfl) tf_18 (c_vec_Within (at_ p 3) 65536 (by first | omega | assumption | (constructor <;> omega) | simp)) ?_)))
 intro H95 m96
 have m97 := m93.trans m96
 refine C rfl (AOp.not rfl rfl ?_)
 refine AOps.nil ?_
 change AWP _ _ _ _ _ _
 rcases Bool.eq_false_or_eq_true (R_vec_Within (at_ p 3) 65536) with b98 | b98
 have iv99 : inV 65536 (at_ p 3) := withinvec_in b98
 refine cf_ rfl (nb b98) ?_
 refine AWP.skip ?_
 change AWP _ _ _ _ _ _
 have hw3 := way_rng (inV_le (inV_vec_Sub iv99 iv76) (by decide) : inV 131072 _)
 refine AWP.region_quiet mixed (by kernel_rfl) 11 [] rfl (by kernel_rfl) (Mono H95) (Mono.refl _) ?_
 refine Q rfl (fun _ _ φ ψ => Mv (J (0 + (R_rate_way (R_vec_Sub (at_ p 0) (at_ p 0))) + (R_rate_way (R_vec_Sub (at_ p 1) (at_ p 0))) + (R_rate_way (R_vec_Sub (at_ p 2) (at_ p 1))))) rfl (φ 4 rfl) ⟨rfl, ψ⟩) (Q rfl (fun _ _ φ ψ => Lf (.agg [J ((at_ p 3).X), J ((at_ p 3).Y), J ((at_ p 3).Z)]) rfl (φ 6 rfl) ty_23 rfl ⟨rfl, ψ⟩) (Q rfl (fun _ _ φ ψ => Mv (J 3) rfl (φ 5 rfl) ⟨rfl, ψ⟩) (QB rfl rfl rfl (isub (by omega)) (Q rfl (fun _ _ φ ψ => AOp.max2 rfl (φ 18 rfl) rfl ⟨rfl, ψ⟩) (Q rfl (fun _ _ φ ψ => iF_ rfl (φ 1 rfl) (φ 19 rfl) ar_26 (by omega) (by omega) ⟨rfl, ψ⟩) (Q rfl (fun _ _ φ ψ => Lf (.agg [J ((at_ p 2).X), J ((at_ p 2).Y), J ((at_ p 2).Z)]) rfl (φ 20 rfl) ty_23 (ldM eV_len (i := 2) (by omega) (by have := h_p; omega)) ⟨rfl, ψ⟩) (Q rfl (fun _ _ φ ψ => Pc («as» := [.agg [J ((at_ p 3).X), J ((at_ p 3).Y), J ((at_ p 3).Z)], .agg [J ((at_ p 2).X), J ((at_ p 2).Y), J ((at_ p 2).Z)]]) rfl rfl (lapp (lcons (φ 16 rfl) (lcons (φ 21 rfl) rfl)) rfl) tf_37 (c_vec_Sub (at_ p 3) (at_ p 2) (inV_le iv99 (by decide)) (inV_le iv76 (by decide))) fun H2 m2 => ⟨rfl, ψ.trans m2⟩) (Q rfl (fun _ _ φ ψ => Pc («as» := [.agg [J ((R_vec_Sub (at_ p 3) (at_ p 2)).X), J ((R_vec_Sub (at_ p 3) (at_ p 2)).Y), J ((R_vec_Sub (at_ p 3) (at_ p 2)).Z)]]) rfl rfl (lapp (lcons (φ 22 rfl) rfl) rfl) tf_91 (c_rate_way (R_vec_Sub (at_ p 3) (at_ p 2)) (inV_le (inV_le (inV_vec_Sub iv99 iv76) (by decide) : inV 131072 _) (by decide))) fun H2 m2 => ⟨rfl, ψ.trans m2⟩) (QB rfl rfl rfl (iadd (by omega)) (Q rfl (fun _ _ φ ψ => As (J (0 + (R_rate_way (R_vec_Sub (at_ p 0) (at_ p 0))) + (R_rate_way (R_vec_Sub (at_ p 1) (at_ p 0))) + (R_rate_way (R_vec_Sub (at_ p 2) (at_ p 1))) + (R_rate_way (R_vec_Sub (at_ p 3) (at_ p 2))))) rfl (φ 24 rfl) ⟨rfl, ψ⟩) ?_))))))))))
 refine QE.done fun H100 m101 => ?_
 have m102 := m97.trans m101
 refine AWP.region rfl ?_
 refine C rfl (Bi (J 4) rfl rfl rfl (iadd (by omega)) (C rfl (Mv (J 4) rfl rfl ?_)))
 refine AOps.nil ?_
 refine UN.step ?_
 refine Sr ?_
 refine C rfl (Bi (.bool (decide (4 < 4))) rfl rfl rfl rfl ?_)
 refine AWP.seq ?_
 refine cf_ rfl (decide_eq_false (by decide)) ?_
 refine AWP.exit ?_
 change AWP _ _ _ _ _ _
 refine Sr ?_
 refine C rfl (Mv (J (0 + (R_rate_way (R_vec_Sub (at_ p 0) (at_ p 0))) + (R_rate_way (R_vec_Sub (at_ p 1) (at_ p 0))) + (R_rate_way (R_vec_Sub (at_ p 2) (at_ p 1))) + (R_rate_way (R_vec_Sub (at_ p 3) (at_ p 2))))) rfl rfl (C rfl (As (J (0 + (R_rate_way (R_vec_Sub (at_ p 0) (at_ p 0))) + (R_rate_way (R_vec_Sub (at_ p 1) (at_ p 0))) + (R_rate_way (R_vec_Sub (at_ p 2) (at_ p 1))) + (R_rate_way (R_vec_Sub (at_ p 3) (at_ p 2))))) rfl rfl (C rfl (As (.bool true) rfl rfl ?_)))))
 refine rt_ ?_
 refine Rr (Res.two rfl rfl rfl) ?_ m102
 have hR : R_rate_Length p = (0 + (R_rate_way (R_vec_Sub (at_ p 0) (at_ p 0))) + (R_rate_way (R_vec_Sub (at_ p 1) (at_ p 0))) + (R_rate_way (R_vec_Sub (at_ p 2) (at_ p 1))) + (R_rate_way (R_vec_Sub (at_ p 3) (at_ p 2))), true) := by unfold R_rate_Length; rw [if_pos b29, if_pos b52, if_pos b75, if_pos b98]
 exact (congrArg Trate_Length hR).symm
 refine ct_ rfl (nb b98) ?_
 refine Sr ?_
 refine C rfl (As (J 0) rfl rfl (C rfl (As (.bool false) rfl rfl ?_)))
 refine rt_ ?_
 refine Rr (Res.two rfl rfl rfl) ?_ m97
 have hR : R_rate_Length p = (0, false) := by unfold R_rate_Length; rw [if_pos b29, if_pos b52, if_pos b75, if_neg (ff b98)]
 exact (congrArg Trate_Length hR).symm
 refine ct_ rfl (nb b75) ?_
 refine Sr ?_
 refine C rfl (As (J 0) rfl rfl (C rfl (As (.bool false) rfl rfl ?_)))
 refine rt_ ?_
 refine Rr (Res.two rfl rfl rfl) ?_ m74
 have hR : R_rate_Length p = (0, false) := by unfold R_rate_Length; rw [if_pos b29, if_pos b52, if_neg (ff b75)]
 exact (congrArg Trate_Length hR).symm
 refine ct_ rfl (nb b52) ?_
 refine Sr ?_
 refine C rfl (As (J 0) rfl rfl (C rfl (As (.bool false) rfl rfl ?_)))
 refine rt_ ?_
 refine Rr (Res.two rfl rfl rfl) ?_ m51
 have hR : R_rate_Length p = (0, false) := by unfold R_rate_Length; rw [if_pos b29, if_neg (ff b52)]
 exact (congrArg Trate_Length hR).symm
 refine ct_ rfl (nb b29) ?_
 refine Sr ?_
 refine C rfl (As (J 0) rfl rfl (C rfl (As (.bool false) rfl rfl ?_)))
 refine rt_ ?_
 refine Rr (Res.two rfl rfl rfl) ?_ m28
 have hR : R_rate_Length p = (0, false) := by unfold R_rate_Length; rw [if_neg (ff b29)]
 exact (congrArg Trate_Length hR).symm
def R_ref12_size (n : Int) : Int :=
  if n < 0 then -n else n
theorem size_rng {n B : Int} (h : -B ≤ n ∧ n ≤ B) : 0 ≤ R_ref12_size n ∧ R_ref12_size n ≤ B := by
  unfold R_ref12_size; split <;> omega
theorem c_ref12_size (n : Int) (hn : -1048576 ≤ n ∧ n ≤ 1048576) : PC Tryd.prog 96 [J n] (J (R_ref12_size n)) := by
 intro H0
 refine ACalls.of_body' (n := 8) rfl rfl rfl rfl ?_
 have m0 := Mono.refl H0
 refine Sr ?_
 refine A rfl rfl ?_
 refine AWP.seq ?_
 refine Sr ?_
 refine V rfl rfl (B rfl rfl rfl rfl ?_)
 refine AOps.nil ?_
 change AWP _ _ _ _ _ _
 by_cases b1 : n < 0
 refine ct_ rfl (decide_eq_true b1) ?_
 refine Sr ?_
 refine V rfl rfl (C rfl (AOp.negP rfl rfl (by omega) (A rfl rfl ?_)))
 refine rt_ ?_
 refine Rr (Res.one rfl rfl) ?_ m0
 have hR : R_ref12_size n = -n := by unfold R_ref12_size; rw [if_pos b1]
 exact (congrArg (fun r : Int => (J r : AV)) hR).symm
 refine cf_ rfl (decide_eq_false b1) ?_
 refine AWP.skip ?_
 refine Sr ?_
 refine V rfl rfl (A rfl rfl ?_)
 refine rt_ ?_
 refine Rr (Res.one rfl rfl) ?_ m0
 have hR : R_ref12_size n = n := by unfold R_ref12_size; rw [if_neg b1]
 exact (congrArg (fun r : Int => (J r : AV)) hR).symm
def R_ref12_Length (p : (List VT)) : Int × Bool :=
  if R_ref00_Within (at_ p 0) 65536 = true then (if R_ref00_Within (at_ p 1) 65536 = true then (if R_ref00_Within (at_ p 2) 65536 = true then (if R_ref00_Within (at_ p 3) 65536 = true then (0 + (R_ref12_size ((at_ p 1).X - ((at_ p 0).X)) + (R_ref12_size ((at_ p 1).Y - ((at_ p 0).Y))) + (R_ref12_size ((at_ p 1).Z - ((at_ p 0).Z)))) + (R_ref12_size ((at_ p 2).X - ((at_ p 1).X)) + (R_ref12_size ((at_ p 2).Y - ((at_ p 1).Y))) + (R_ref12_size ((at_ p 2).Z - ((at_ p 1).Z)))) + (R_ref12_size ((at_ p 3).X - ((at_ p 2).X)) + (R_ref12_size ((at_ p 3).Y - ((at_ p 2).Y))) + (R_ref12_size ((at_ p 3).Z - ((at_ p 2).Z)))), true) else (0, false)) else (0, false)) else (0, false)) else (0, false)
theorem len_rng_ref12 (p : List VT) : 0 ≤ (R_ref12_Length p).1 ∧ (R_ref12_Length p).1 ≤ 4194304 := by
  unfold R_ref12_Length
  split
  · rename_i h0
    split
    · rename_i h1
      split
      · rename_i h2
        split
        · rename_i h3
          obtain ⟨a1, a2, a3, a4, a5, a6⟩ := withinref00_in h0
          obtain ⟨b1, b2, b3, b4, b5, b6⟩ := withinref00_in h1
          obtain ⟨c1, c2, c3, c4, c5, c6⟩ := withinref00_in h2
          obtain ⟨d1, d2, d3, d4, d5, d6⟩ := withinref00_in h3
          have x1 := size_rng (n := (at_ p 1).X - (at_ p 0).X) (B := 131072) (by omega)
          have y1 := size_rng (n := (at_ p 1).Y - (at_ p 0).Y) (B := 131072) (by omega)
          have z1 := size_rng (n := (at_ p 1).Z - (at_ p 0).Z) (B := 131072) (by omega)
          have x2 := size_rng (n := (at_ p 2).X - (at_ p 1).X) (B := 131072) (by omega)
          have y2 := size_rng (n := (at_ p 2).Y - (at_ p 1).Y) (B := 131072) (by omega)
          have z2 := size_rng (n := (at_ p 2).Z - (at_ p 1).Z) (B := 131072) (by omega)
          have x3 := size_rng (n := (at_ p 3).X - (at_ p 2).X) (B := 131072) (by omega)
          have y3 := size_rng (n := (at_ p 3).Y - (at_ p 2).Y) (B := 131072) (by omega)
          have z3 := size_rng (n := (at_ p 3).Z - (at_ p 2).Z) (B := 131072) (by omega)
          simp only; omega
        · simp
      · simp
    · simp
  · simp
def Tref12_Length (r : Int × Bool) : AV := .tup [J r.1, .bool r.2]
theorem c_ref12_Length (p : (List VT)) (h_p : p.length = 4) : PC Tryd.prog 88 [.agg (p.flatMap eV)] (.tup [J ((R_ref12_Length p).1), .bool ((R_ref12_Length p).2)]) := by
 intro H0
 refine ACalls.of_body' (n := 58) rfl rfl rfl rfl ?_
 have m0 := Mono.refl H0
 refine Sr ?_
 refine C rfl (bx_ (.agg (p.flatMap eV)) rfl rfl rfl ?_)
 intro i1 H2 n3 h4 k5
 have z6 := Mono.free m0 n3
 have m7 := Mono.new m0 n3 k5
 refine A rfl rfl (A rfl rfl ?_)
 refine AWP.seq ?_
 refine fz_ 1 h4 z6 rfl m7 fun H8 m9 k10 => ?_
 refine AWP.region rfl ?_
 refine A rfl rfl ?_
 refine AWP.seq ?_
 refine Sr ?_
 refine A rfl rfl ?_
 refine bk_ ?_
 refine AWP.unroll 20 ?_
 refine UN.step ?_
 refine AWP.seq ?_
 refine Sr ?_
 refine V rfl rfl (B rfl rfl rfl rfl ?_)
 refine ct_ rfl (decide_eq_true (by decide)) ?_
 refine AWP.skip ?_
 refine AWP.seq ?_
 refine bk_ ?_
 refine Sr ?_
 refine V rfl rfl (C rfl (iF_ rfl rfl rfl ar_26 (by omega) (by omega) (L rfl rfl ty_23 (ldM eV_len (i := 0) (by omega) (by have := h_p; omega)) (C rfl (Pc («as» := [.agg [J ((at_ p 0).X), J ((at_ p 0).Y), J ((at_ p 0).Z)], J 65536]) rfl rfl (rfl) tf_60 (c_ref00_Within (at_ p 0) 65536 (by first | omega | assumption | (constructor <;> omega) | simp)) ?_)))))
 intro H11 m12
 have m13 := m9.trans m12
 refine C rfl (AOp.not rfl rfl ?_)
 refine AOps.nil ?_
 change AWP _ _ _ _ _ _
 rcases Bool.eq_false_or_eq_true (R_ref00_Within (at_ p 0) 65536) with b14 | b14
 have iv15 : inV 65536 (at_ p 0) := withinref00_in b14
 refine cf_ rfl (nb b14) ?_
 refine AWP.skip ?_
 refine AWP.region rfl ?_
 refine V rfl rfl (B rfl rfl rfl (iadd (by omega)) (A rfl rfl ?_))
 refine AOps.nil ?_
 refine UN.step ?_
 refine AWP.seq ?_
 refine Sr ?_
 refine V rfl rfl (B rfl rfl rfl rfl ?_)
 refine ct_ rfl (decide_eq_true (by decide)) ?_
 refine AWP.skip ?_
 refine AWP.seq ?_
 refine bk_ ?_
 refine Sr ?_
 refine V rfl rfl (C rfl (iF_ rfl rfl rfl ar_26 (by omega) (by omega) (L rfl rfl ty_23 (ldM eV_len (i := 1) (by omega) (by have := h_p; omega)) (C rfl (Pc («as» := [.agg [J ((at_ p 1).X), J ((at_ p 1).Y), J ((at_ p 1).Z)], J 65536]) rfl rfl (rfl) tf_60 (c_ref00_Within (at_ p 1) 65536 (by first | omega | assumption | (constructor <;> omega) | simp)) ?_)))))
 intro H16 m17
 have m18 := m13.trans m17
 refine C rfl (AOp.not rfl rfl ?_)
 refine AOps.nil ?_
 change AWP _ _ _ _ _ _
 rcases Bool.eq_false_or_eq_true (R_ref00_Within (at_ p 1) 65536) with b19 | b19
 have iv20 : inV 65536 (at_ p 1) := withinref00_in b19
 refine cf_ rfl (nb b19) ?_
 refine AWP.skip ?_
 refine AWP.region rfl ?_
 refine V rfl rfl (B rfl rfl rfl (iadd (by omega)) (A rfl rfl ?_))
 refine AOps.nil ?_
 refine UN.step ?_
 refine AWP.seq ?_
 refine Sr ?_
 refine V rfl rfl (B rfl rfl rfl rfl ?_)
 refine ct_ rfl (decide_eq_true (by decide)) ?_
 refine AWP.skip ?_
 refine AWP.seq ?_
 refine bk_ ?_
 refine Sr ?_
 refine V rfl rfl (C rfl (iF_ rfl rfl rfl ar_26 (by omega) (by omega) (L rfl rfl ty_23 (ldM eV_len (i := 2) (by omega) (by have := h_p; omega)) (C rfl (Pc («as» := [.agg [J ((at_ p 2).X), J ((at_ p 2).Y), J ((at_ p 2).Z)], J 65536]) rfl rfl (rfl) tf_60 (c_ref00_Within (at_ p 2) 65536 (by first | omega | assumption | (constructor <;> omega) | simp)) ?_)))))
 intro H21 m22
 have m23 := m18.trans m22
 refine C rfl (AOp.not rfl rfl ?_)
 refine AOps.nil ?_
 change AWP _ _ _ _ _ _
 rcases Bool.eq_false_or_eq_true (R_ref00_Within (at_ p 2) 65536) with b24 | b24
 have iv25 : inV 65536 (at_ p 2) := withinref00_in b24
 refine cf_ rfl (nb b24) ?_
 refine AWP.skip ?_
 refine AWP.region rfl ?_
 refine V rfl rfl (B rfl rfl rfl (iadd (by omega)) (A rfl rfl ?_))
 refine AOps.nil ?_
 refine UN.step ?_
 refine AWP.seq ?_
 refine Sr ?_
 refine V rfl rfl (B rfl rfl rfl rfl ?_)
 refine ct_ rfl (decide_eq_true (by decide)) ?_
 refine AWP.skip ?_
 refine AWP.seq ?_
 refine bk_ ?_
 refine Sr ?_
 refine V rfl rfl (C rfl (iF_ rfl rfl rfl ar_26 (by omega) (by omega) (L rfl rfl ty_23 (ldM eV_len (i := 3) (by omega) (by have := h_p; omega)) (C rfl (Pc («as» := [.agg [J ((at_ p 3).X), J ((at_ p 3).Y), J ((at_ p 3).Z)], J 65536]) rfl rfl (rfl) tf_60 (c_ref00_Within (at_ p 3) 65536 (by first | omega | assumption | (constructor <;> omega) | simp)) ?_)))))
 intro H26 m27
 have m28 := m23.trans m27
 refine C rfl (AOp.not rfl rfl ?_)
 refine AOps.nil ?_
 change AWP _ _ _ _ _ _
 rcases Bool.eq_false_or_eq_true (R_ref00_Within (at_ p 3) 65536) with b29 | b29
 have iv30 : inV 65536 (at_ p 3) := withinref00_in b29
 refine cf_ rfl (nb b29) ?_
 refine AWP.skip ?_
 refine AWP.region rfl ?_
 refine V rfl rfl (B rfl rfl rfl (iadd (by omega)) (A rfl rfl ?_))
 refine AOps.nil ?_
 refine UN.step ?_
 refine AWP.seq ?_
 refine Sr ?_
 refine V rfl rfl (B rfl rfl rfl rfl ?_)
 refine cf_ rfl (decide_eq_false (by decide)) ?_
 refine AWP.exit ?_
 change AWP _ _ _ _ _ _
 refine AWP.seq ?_
 refine Sr ?_
 refine A rfl rfl ?_
 refine bk_ ?_
 refine AWP.unroll 20 ?_
 refine UN.step ?_
 refine AWP.seq ?_
 refine Sr ?_
 refine V rfl rfl (B rfl rfl rfl rfl ?_)
 refine ct_ rfl (decide_eq_true (by decide)) ?_
 refine AWP.skip ?_
 refine AWP.seq ?_
 refine bk_ ?_
 have hs1X := size_rng (n := (at_ p 1).X - (at_ p 0).X) (B := 131072) (by omega)
 have hs1Y := size_rng (n := (at_ p 1).Y - (at_ p 0).Y) (B := 131072) (by omega)
 have hs1Z := size_rng (n := (at_ p 1).Z - (at_ p 0).Z) (B := 131072) (by omega)
 skip
 refine AWP.region_quiet mixed (by kernel_rfl) 38 [] rfl (by kernel_rfl) (Mono H26) (Mono.refl _) ?_
 refine QV rfl rfl (QV rfl rfl (Q rfl (fun _ _ φ ψ => iF_ rfl (φ 1 rfl) (φ 21 rfl) ar_26 (by omega) (by omega) ⟨rfl, ψ⟩) (QF rfl rfl fl_23_0 (QL rfl rfl ty_3 (ldF eV_len (i := 1) (by omega) (by have := h_p; omega) rfl (by decide)) (QV rfl rfl (QB rfl rfl rfl (isub (by omega)) (Q rfl (fun _ _ φ ψ => iF_ rfl (φ 1 rfl) (φ 26 rfl) ar_26 (by omega) (by omega) ⟨rfl, ψ⟩) (QF rfl rfl fl_23_0 (QL rfl rfl ty_3 (ldF eV_len (i := 0) (by omega) (by have := h_p; omega) rfl (by decide)) (QB rfl rfl rfl (isub (by omega)) (Q rfl (fun _ _ φ ψ => Pc («as» := [J ((at_ p 1).X - ((at_ p 0).X))]) rfl rfl (lapp (lcons (φ 30 rfl) rfl) rfl) tf_96 (c_ref12_size ((at_ p 1).X - ((at_ p 0).X)) (by first | omega | assumption | (constructor <;> omega) | simp)) fun H2 m2 => ⟨rfl, ψ.trans m2⟩) (QV rfl rfl (Q rfl (fun _ _ φ ψ => iF_ rfl (φ 1 rfl) (φ 32 rfl) ar_26 (by omega) (by omega) ⟨rfl, ψ⟩) ?_)))))))))))))
 refine QF rfl rfl fl_23_1 (QL rfl rfl ty_3 (ldF eV_len (i := 1) (by omega) (by have := h_p; omega) rfl (by decide)) (QV rfl rfl (QB rfl rfl rfl (isub (by omega)) (Q rfl (fun _ _ φ ψ => iF_ rfl (φ 1 rfl) (φ 37 rfl) ar_26 (by omega) (by omega) ⟨rfl, ψ⟩) (QF rfl rfl fl_23_1 (QL rfl rfl ty_3 (ldF eV_len (i := 0) (by omega) (by have := h_p; omega) rfl (by decide)) (QB rfl rfl rfl (isub (by omega)) (Q rfl (fun _ _ φ ψ => Pc («as» := [J ((at_ p 1).Y - ((at_ p 0).Y))]) rfl rfl (lapp (lcons (φ 41 rfl) rfl) rfl) tf_96 (c_ref12_size ((at_ p 1).Y - ((at_ p 0).Y)) (by first | omega | assumption | (constructor <;> omega) | simp)) fun H2 m2 => ⟨rfl, ψ.trans m2⟩) (QB rfl rfl rfl (iadd (by omega)) (QV rfl rfl (Q rfl (fun _ _ φ ψ => iF_ rfl (φ 1 rfl) (φ 44 rfl) ar_26 (by omega) (by omega) ⟨rfl, ψ⟩) ?_)))))))))))
 refine QF rfl rfl fl_23_2 (QL rfl rfl ty_3 (ldF eV_len (i := 1) (by omega) (by have := h_p; omega) rfl (by decide)) (QV rfl rfl (QB rfl rfl rfl (isub (by omega)) (Q rfl (fun _ _ φ ψ => iF_ rfl (φ 1 rfl) (φ 49 rfl) ar_26 (by omega) (by omega) ⟨rfl, ψ⟩) (QF rfl rfl fl_23_2 (QL rfl rfl ty_3 (ldF eV_len (i := 0) (by omega) (by have := h_p; omega) rfl (by decide)) (QB rfl rfl rfl (isub (by omega)) (Q rfl (fun _ _ φ ψ => Pc («as» := [J ((at_ p 1).Z - ((at_ p 0).Z))]) rfl rfl (lapp (lcons (φ 53 rfl) rfl) rfl) tf_96 (c_ref12_size ((at_ p 1).Z - ((at_ p 0).Z)) (by first | omega | assumption | (constructor <;> omega) | simp)) fun H2 m2 => ⟨rfl, ψ.trans m2⟩) (QB rfl rfl rfl (iadd (by omega)) (QB rfl rfl rfl (iadd (by omega)) (Q rfl (fun _ _ φ ψ => As _ rfl (φ 56 rfl) ⟨rfl, ψ⟩) ?_)))))))))))
 refine QE.done fun H31 m32 => ?_
 have m33 := m28.trans m32
 refine AWP.region rfl ?_
 refine V rfl rfl (B rfl rfl rfl (iadd (by omega)) (A rfl rfl ?_))
 refine AOps.nil ?_
 refine UN.step ?_
 refine AWP.seq ?_
 refine Sr ?_
 refine V rfl rfl (B rfl rfl rfl rfl ?_)
 refine ct_ rfl (decide_eq_true (by decide)) ?_
 refine AWP.skip ?_
 refine AWP.seq ?_
 refine bk_ ?_
 have hs2X := size_rng (n := (at_ p 2).X - (at_ p 1).X) (B := 131072) (by omega)
 have hs2Y := size_rng (n := (at_ p 2).Y - (at_ p 1).Y) (B := 131072) (by omega)
 have hs2Z := size_rng (n := (at_ p 2).Z - (at_ p 1).Z) (B := 131072) (by omega)
 skip
 refine AWP.region_quiet mixed (by kernel_rfl) 38 [] rfl (by kernel_rfl) (Mono H31) (Mono.refl _) ?_
 refine QV rfl rfl (QV rfl rfl (Q rfl (fun _ _ φ ψ => iF_ rfl (φ 1 rfl) (φ 21 rfl) ar_26 (by omega) (by omega) ⟨rfl, ψ⟩) (QF rfl rfl fl_23_0 (QL rfl rfl ty_3 (ldF eV_len (i := 2) (by omega) (by have := h_p; omega) rfl (by decide)) (QV rfl rfl (QB rfl rfl rfl (isub (by omega)) (Q rfl (fun _ _ φ ψ => iF_ rfl (φ 1 rfl) (φ 26 rfl) ar_26 (by omega) (by omega) ⟨rfl, ψ⟩) (QF rfl rfl fl_23_0 (QL rfl rfl ty_3 (ldF eV_len (i := 1) (by omega) (by have := h_p; omega) rfl (by decide)) (QB rfl rfl rfl (isub (by omega)) (Q rfl (fun _ _ φ ψ => Pc («as» := [J ((at_ p 2).X - ((at_ p 1).X))]) rfl rfl (lapp (lcons (φ 30 rfl) rfl) rfl) tf_96 (c_ref12_size ((at_ p 2).X - ((at_ p 1).X)) (by first | omega | assumption | (constructor <;> omega) | simp)) fun H2 m2 => ⟨rfl, ψ.trans m2⟩) (QV rfl rfl (Q rfl (fun _ _ φ ψ => iF_ rfl (φ 1 rfl) (φ 32 rfl) ar_26 (by omega) (by omega) ⟨rfl, ψ⟩) ?_)))))))))))))
 refine QF rfl rfl fl_23_1 (QL rfl rfl ty_3 (ldF eV_len (i := 2) (by omega) (by have := h_p; omega) rfl (by decide)) (QV rfl rfl (QB rfl rfl rfl (isub (by omega)) (Q rfl (fun _ _ φ ψ => iF_ rfl (φ 1 rfl) (φ 37 rfl) ar_26 (by omega) (by omega) ⟨rfl, ψ⟩) (QF rfl rfl fl_23_1 (QL rfl rfl ty_3 (ldF eV_len (i := 1) (by omega) (by have := h_p; omega) rfl (by decide)) (QB rfl rfl rfl (isub (by omega)) (Q rfl (fun _ _ φ ψ => Pc («as» := [J ((at_ p 2).Y - ((at_ p 1).Y))]) rfl rfl (lapp (lcons (φ 41 rfl) rfl) rfl) tf_96 (c_ref12_size ((at_ p 2).Y - ((at_ p 1).Y)) (by first | omega | assumption | (constructor <;> omega) | simp)) fun H2 m2 => ⟨rfl, ψ.trans m2⟩) (QB rfl rfl rfl (iadd (by omega)) (QV rfl rfl (Q rfl (fun _ _ φ ψ => iF_ rfl (φ 1 rfl) (φ 44 rfl) ar_26 (by omega) (by omega) ⟨rfl, ψ⟩) ?_)))))))))))
 refine QF rfl rfl fl_23_2 (QL rfl rfl ty_3 (ldF eV_len (i := 2) (by omega) (by have := h_p; omega) rfl (by decide)) (QV rfl rfl (QB rfl rfl rfl (isub (by omega)) (Q rfl (fun _ _ φ ψ => iF_ rfl (φ 1 rfl) (φ 49 rfl) ar_26 (by omega) (by omega) ⟨rfl, ψ⟩) (QF rfl rfl fl_23_2 (QL rfl rfl ty_3 (ldF eV_len (i := 1) (by omega) (by have := h_p; omega) rfl (by decide)) (QB rfl rfl rfl (isub (by omega)) (Q rfl (fun _ _ φ ψ => Pc («as» := [J ((at_ p 2).Z - ((at_ p 1).Z))]) rfl rfl (lapp (lcons (φ 53 rfl) rfl) rfl) tf_96 (c_ref12_size ((at_ p 2).Z - ((at_ p 1).Z)) (by first | omega | assumption | (constructor <;> omega) | simp)) fun H2 m2 => ⟨rfl, ψ.trans m2⟩) (QB rfl rfl rfl (iadd (by omega)) (QB rfl rfl rfl (iadd (by omega)) (Q rfl (fun _ _ φ ψ => As _ rfl (φ 56 rfl) ⟨rfl, ψ⟩) ?_)))))))))))
 refine QE.done fun H34 m35 => ?_
 have m36 := m33.trans m35
 refine AWP.region rfl ?_
 refine V rfl rfl (B rfl rfl rfl (iadd (by omega)) (A rfl rfl ?_))
 refine AOps.nil ?_
 refine UN.step ?_
 refine AWP.seq ?_
 refine Sr ?_
 refine V rfl rfl (B rfl rfl rfl rfl ?_)
 refine ct_ rfl (decide_eq_true (by decide)) ?_
 refine AWP.skip ?_
 refine AWP.seq ?_
 refine bk_ ?_
 have hs3X := size_rng (n := (at_ p 3).X - (at_ p 2).X) (B := 131072) (by omega)
 have hs3Y := size_rng (n := (at_ p 3).Y - (at_ p 2).Y) (B := 131072) (by omega)
 have hs3Z := size_rng (n := (at_ p 3).Z - (at_ p 2).Z) (B := 131072) (by omega)
 skip
 refine AWP.region_quiet mixed (by kernel_rfl) 38 [] rfl (by kernel_rfl) (Mono H34) (Mono.refl _) ?_
 refine QV rfl rfl (QV rfl rfl (Q rfl (fun _ _ φ ψ => iF_ rfl (φ 1 rfl) (φ 21 rfl) ar_26 (by omega) (by omega) ⟨rfl, ψ⟩) (QF rfl rfl fl_23_0 (QL rfl rfl ty_3 (ldF eV_len (i := 3) (by omega) (by have := h_p; omega) rfl (by decide)) (QV rfl rfl (QB rfl rfl rfl (isub (by omega)) (Q rfl (fun _ _ φ ψ => iF_ rfl (φ 1 rfl) (φ 26 rfl) ar_26 (by omega) (by omega) ⟨rfl, ψ⟩) (QF rfl rfl fl_23_0 (QL rfl rfl ty_3 (ldF eV_len (i := 2) (by omega) (by have := h_p; omega) rfl (by decide)) (QB rfl rfl rfl (isub (by omega)) (Q rfl (fun _ _ φ ψ => Pc («as» := [J ((at_ p 3).X - ((at_ p 2).X))]) rfl rfl (lapp (lcons (φ 30 rfl) rfl) rfl) tf_96 (c_ref12_size ((at_ p 3).X - ((at_ p 2).X)) (by first | omega | assumption | (constructor <;> omega) | simp)) fun H2 m2 => ⟨rfl, ψ.trans m2⟩) (QV rfl rfl (Q rfl (fun _ _ φ ψ => iF_ rfl (φ 1 rfl) (φ 32 rfl) ar_26 (by omega) (by omega) ⟨rfl, ψ⟩) ?_)))))))))))))
 refine QF rfl rfl fl_23_1 (QL rfl rfl ty_3 (ldF eV_len (i := 3) (by omega) (by have := h_p; omega) rfl (by decide)) (QV rfl rfl (QB rfl rfl rfl (isub (by omega)) (Q rfl (fun _ _ φ ψ => iF_ rfl (φ 1 rfl) (φ 37 rfl) ar_26 (by omega) (by omega) ⟨rfl, ψ⟩) (QF rfl rfl fl_23_1 (QL rfl rfl ty_3 (ldF eV_len (i := 2) (by omega) (by have := h_p; omega) rfl (by decide)) (QB rfl rfl rfl (isub (by omega)) (Q rfl (fun _ _ φ ψ => Pc («as» := [J ((at_ p 3).Y - ((at_ p 2).Y))]) rfl rfl (lapp (lcons (φ 41 rfl) rfl) rfl) tf_96 (c_ref12_size ((at_ p 3).Y - ((at_ p 2).Y)) (by first | omega | assumption | (constructor <;> omega) | simp)) fun H2 m2 => ⟨rfl, ψ.trans m2⟩) (QB rfl rfl rfl (iadd (by omega)) (QV rfl rfl (Q rfl (fun _ _ φ ψ => iF_ rfl (φ 1 rfl) (φ 44 rfl) ar_26 (by omega) (by omega) ⟨rfl, ψ⟩) ?_)))))))))))
 refine QF rfl rfl fl_23_2 (QL rfl rfl ty_3 (ldF eV_len (i := 3) (by omega) (by have := h_p; omega) rfl (by decide)) (QV rfl rfl (QB rfl rfl rfl (isub (by omega)) (Q rfl (fun _ _ φ ψ => iF_ rfl (φ 1 rfl) (φ 49 rfl) ar_26 (by omega) (by omega) ⟨rfl, ψ⟩) (QF rfl rfl fl_23_2 (QL rfl rfl ty_3 (ldF eV_len (i := 2) (by omega) (by have := h_p; omega) rfl (by decide)) (QB rfl rfl rfl (isub (by omega)) (Q rfl (fun _ _ φ ψ => Pc («as» := [J ((at_ p 3).Z - ((at_ p 2).Z))]) rfl rfl (lapp (lcons (φ 53 rfl) rfl) rfl) tf_96 (c_ref12_size ((at_ p 3).Z - ((at_ p 2).Z)) (by first | omega | assumption | (constructor <;> omega) | simp)) fun H2 m2 => ⟨rfl, ψ.trans m2⟩) (QB rfl rfl rfl (iadd (by omega)) (QB rfl rfl rfl (iadd (by omega)) (Q rfl (fun _ _ φ ψ => As _ rfl (φ 56 rfl) ⟨rfl, ψ⟩) ?_)))))))))))
 refine QE.done fun H37 m38 => ?_
 have m39 := m36.trans m38
 refine AWP.region rfl ?_
 refine V rfl rfl (B rfl rfl rfl (iadd (by omega)) (A rfl rfl ?_))
 refine AOps.nil ?_
 refine UN.step ?_
 refine AWP.seq ?_
 refine Sr ?_
 refine V rfl rfl (B rfl rfl rfl rfl ?_)
 refine cf_ rfl (decide_eq_false (by decide)) ?_
 refine AWP.exit ?_
 change AWP _ _ _ _ _ _
 refine Sr ?_
 refine V rfl rfl (A rfl rfl (A rfl rfl ?_))
 refine rt_ ?_
 refine Rr (Res.two rfl rfl rfl) ?_ m39
 have hR : R_ref12_Length p = (0 + (R_ref12_size ((at_ p 1).X - ((at_ p 0).X)) + (R_ref12_size ((at_ p 1).Y - ((at_ p 0).Y))) + (R_ref12_size ((at_ p 1).Z - ((at_ p 0).Z)))) + (R_ref12_size ((at_ p 2).X - ((at_ p 1).X)) + (R_ref12_size ((at_ p 2).Y - ((at_ p 1).Y))) + (R_ref12_size ((at_ p 2).Z - ((at_ p 1).Z)))) + (R_ref12_size ((at_ p 3).X - ((at_ p 2).X)) + (R_ref12_size ((at_ p 3).Y - ((at_ p 2).Y))) + (R_ref12_size ((at_ p 3).Z - ((at_ p 2).Z)))), true) := by unfold R_ref12_Length; rw [if_pos b14, if_pos b19, if_pos b24, if_pos b29]
 exact (congrArg Tref12_Length hR).symm
 refine ct_ rfl (nb b29) ?_
 refine Sr ?_
 refine A rfl rfl (A rfl rfl ?_)
 refine rt_ ?_
 refine Rr (Res.two rfl rfl rfl) ?_ m28
 have hR : R_ref12_Length p = (0, false) := by unfold R_ref12_Length; rw [if_pos b14, if_pos b19, if_pos b24, if_neg (ff b29)]
 exact (congrArg Tref12_Length hR).symm
 refine ct_ rfl (nb b24) ?_
 refine Sr ?_
 refine A rfl rfl (A rfl rfl ?_)
 refine rt_ ?_
 refine Rr (Res.two rfl rfl rfl) ?_ m23
 have hR : R_ref12_Length p = (0, false) := by unfold R_ref12_Length; rw [if_pos b14, if_pos b19, if_neg (ff b24)]
 exact (congrArg Tref12_Length hR).symm
 refine ct_ rfl (nb b19) ?_
 refine Sr ?_
 refine A rfl rfl (A rfl rfl ?_)
 refine rt_ ?_
 refine Rr (Res.two rfl rfl rfl) ?_ m18
 have hR : R_ref12_Length p = (0, false) := by unfold R_ref12_Length; rw [if_pos b14, if_neg (ff b19)]
 exact (congrArg Tref12_Length hR).symm
 refine ct_ rfl (nb b14) ?_
 refine Sr ?_
 refine A rfl rfl (A rfl rfl ?_)
 refine rt_ ?_
 refine Rr (Res.two rfl rfl rfl) ?_ m13
 have hR : R_ref12_Length p = (0, false) := by unfold R_ref12_Length; rw [if_neg (ff b14)]
 exact (congrArg Tref12_Length hR).symm
def R_rate_Edge (p : (List VT)) (u : Int) : Int :=
  if (R_rate_Length p).2 = true then (if u < 1 then 0 else min (1 + (((R_rate_Length p).1) / u)) 16) else 0
theorem c_rate_Edge (p : (List VT)) (h_p : p.length = 4) (u : Int) : PC Tryd.prog 46 [.agg (p.flatMap eV), J u] (J (R_rate_Edge p u)) := by
 intro H0
 refine ACalls.of_body' (n := 23) rfl rfl rfl rfl ?_
 have m0 := Mono.refl H0
 refine Sr ?_
 refine C rfl (bx_ (.agg (p.flatMap eV)) rfl rfl rfl ?_)
 intro i1 H2 n3 h4 k5
 have z6 := Mono.free m0 n3
 have m7 := Mono.new m0 n3 k5
 refine C rfl (As (J 0) rfl rfl ?_)
 refine AWP.seq ?_
 refine fz_ 2 h4 z6 rfl m7 fun H8 m9 k10 => ?_
 refine AWP.region rfl ?_
 refine C rfl (Lf (.agg (p.flatMap eV)) rfl rfl ty_26 (ld_all (lenM eV_len h_p rfl)) (C rfl (Pc («as» := [.agg (p.flatMap eV)]) rfl rfl (rfl) tf_79 (c_rate_Length p h_p) ?_)))
 intro H11 m12
 have m13 := m9.trans m12
 refine C rfl (Mv (.tup [J ((R_rate_Length p).1), .bool ((R_rate_Length p).2)]) rfl rfl (C rfl (Ex (J ((R_rate_Length p).1)) rfl rfl rfl (C rfl (Ex (.bool ((R_rate_Length p).2)) rfl rfl rfl (C rfl (As (J ((R_rate_Length p).1)) rfl rfl (C rfl (As (.bool ((R_rate_Length p).2)) rfl rfl ?_)))))))))
 refine AWP.seq ?_
 refine Sr ?_
 refine C rfl (Mv (.bool ((R_rate_Length p).2)) rfl rfl (C rfl (AOp.not rfl rfl (C rfl (Mv (.bool (!((R_rate_Length p).2))) rfl rfl ?_)))))
 rcases Bool.eq_false_or_eq_true ((R_rate_Length p).2) with b14 | b14
 refine Y rfl rfl rfl (nb b14) (Mv (J u) rfl rfl (Y rfl rfl rfl (nb b14) (Bi (.bool (decide (u < 1))) rfl rfl rfl rfl (C rfl (Pf (.bool (decide (u < 1))) rfl rfl (nb b14) rfl ?_)))))
 refine AOps.nil ?_
 change AWP _ _ _ _ _ _
 by_cases b15 : u < 1
 refine ct_ rfl (decide_eq_true b15) ?_
 refine Sr ?_
 refine C rfl (As (J 0) rfl rfl ?_)
 refine rt_ ?_
 refine Rr (Res.one rfl rfl) ?_ m13
 have hR : R_rate_Edge p u = 0 := by unfold R_rate_Edge; rw [if_pos b14, if_pos b15]
 exact (congrArg (fun r : Int => (J r : AV)) hR).symm
 refine cf_ rfl (decide_eq_false b15) ?_
 refine AWP.skip ?_
 refine AWP.seq ?_
 have hlr := len_rng_rate p
 have hq := ediv_rng (n := (R_rate_Length p).1) (d := u) (by omega) (by omega)
 refine AWP.region rfl ?_
 refine C rfl (Mv (J ((R_rate_Length p).1)) rfl rfl (C rfl (Mv (J u) rfl rfl (C rfl (AOp.quoP rfl rfl rfl (by omega) (C rfl (Bi (J (1 + (((R_rate_Length p).1) / u))) rfl rfl rfl (iadd (by omega)) (C rfl (AOp.min2 rfl rfl rfl (C rfl (As (J (min (1 + (((R_rate_Length p).1) / u)) 16)) rfl rfl ?_)))))))))))
 refine rt_ ?_
 refine Rr (Res.one rfl rfl) ?_ m13
 have hR : R_rate_Edge p u = min (1 + (((R_rate_Length p).1) / u)) 16 := by unfold R_rate_Edge; rw [if_pos b14, if_neg b15]
 exact (congrArg (fun r : Int => (J r : AV)) hR).symm
 refine N rfl rfl (nb b14) (N rfl rfl (nb b14) (C rfl (Pt (.bool true) rfl rfl (nb b14) rfl ?_)))
 refine ct_ rfl rfl ?_
 refine Sr ?_
 refine C rfl (As (J 0) rfl rfl ?_)
 refine rt_ ?_
 refine Rr (Res.one rfl rfl) ?_ m13
 have hR : R_rate_Edge p u = 0 := by unfold R_rate_Edge; rw [if_neg (ff b14)]
 exact (congrArg (fun r : Int => (J r : AV)) hR).symm
def R_rate_Sides (p : (List VT)) (u : Int) : (List Int) :=
  [R_rate_Edge (R_curve_Row p 0) u, R_rate_Edge (R_curve_Row p 1) u, R_rate_Edge (R_curve_Row p 2) u, R_rate_Edge (R_curve_Row p 3) u]
theorem R_rate_Sides_len (p : List VT) (u : Int) : (R_rate_Sides p u).length = 4 := rfl
theorem c_rate_Sides (p : (List VT)) (h_p : p.length = 16) (u : Int) : PC Tryd.prog 24 [.agg (p.flatMap eV), J u] (.agg ((R_rate_Sides p u).map eI)) := by
 intro H0
 refine ACalls.of_body' (n := 19) rfl rfl rfl rfl ?_
 have m0 := Mono.refl H0
 refine Sr ?_
 refine C rfl (bx_ (.agg (p.flatMap eV)) rfl rfl rfl ?_)
 intro i1 H2 n3 h4 k5
 have z6 := Mono.free m0 n3
 have m7 := Mono.new m0 n3 k5
 refine C rfl (al_ rfl tz_25 ?_)
 intro i8 H9 n10 h11 k12
 have e13 := ne_new h4 n10
 have z14 := Mono.free m7 n10
 have h15 := keep k12 (ne_new h4 n10) h4
 have m16 := Mono.new m7 n10 k12
 refine AWP.seq ?_
 refine fz_ 2 h15 z6 rfl m16 fun H17 m18 k19 => ?_
 have h20 := (k19 _ (Ne.symm e13)).trans h11
 refine AWP.region rfl ?_
 refine C rfl (al_ rfl tz_25 ?_)
 intro i21 H22 n23 h24 k25
 have e26 := ne_new h20 n23
 have z27 := Mono.free m18 n23
 have h28 := keep k25 (ne_new h20 n23) h20
 have m29 := Mono.new m18 n23 k25
 refine AWP.seq ?_
 refine Sr ?_
 refine V rfl rfl ?_
 refine bk_ ?_
 refine AWP.unroll 20 ?_
 refine UN.step ?_
 refine Sr ?_
 refine B rfl rfl rfl rfl ?_
 refine AWP.seq ?_
 refine ct_ rfl (decide_eq_true (by decide)) ?_
 refine AWP.skip ?_
 refine AWP.seq ?_
 refine bk_ ?_
 refine Sr ?_
 refine V rfl rfl (A rfl rfl ?_)
 refine AWP.region rfl ?_
 refine V rfl rfl (L rfl rfl ty_24 (ld_all (lenM eV_len h_p rfl)) (V rfl rfl (C rfl (Pc («as» := [.agg (p.flatMap eV), J 0]) rfl rfl (rfl) tf_47 (c_curve_Row p h_p 0) ?_))))
 intro H30 m31
 have h32 := m31 _ _ h28
 have h33 := m31 _ _ h24
 have m34 := m29.trans m31
 refine V rfl rfl (C rfl (Pc («as» := [.agg ((R_curve_Row p 0).flatMap eV), J u]) rfl rfl (rfl) tf_46 (c_rate_Edge (R_curve_Row p 0) (R_curve_Row_len p 0) u) ?_))
 intro H35 m36
 have h37 := m36 _ _ h32
 have h38 := m36 _ _ h33
 have m39 := m34.trans m36
 refine C rfl (iA_ rfl rfl rfl ar_25 (by omega) (by omega) ⟨_, h38⟩ (C rfl (So (cells' := [J (R_rate_Edge (R_curve_Row p 0) u), J 0, J 0, J 0]) (J (R_rate_Edge (R_curve_Row p 0) u)) rfl rfl ts_3 h38 rfl rfl rfl rfl ?_)))
 intro H40 h41 k42
 have h43 := keep k42 e26 h37
 have m45 := Mono.set m39 z27 k42
 refine AWP.region rfl ?_
 refine B rfl rfl rfl (iadd (by omega)) (V rfl rfl ?_)
 refine AOps.nil ?_
 refine UN.step ?_
 refine Sr ?_
 refine B rfl rfl rfl rfl ?_
 refine AWP.seq ?_
 refine ct_ rfl (decide_eq_true (by decide)) ?_
 refine AWP.skip ?_
 refine AWP.seq ?_
 refine bk_ ?_
 refine Sr ?_
 refine V rfl rfl (A rfl rfl ?_)
 refine AWP.region rfl ?_
 refine V rfl rfl (L rfl rfl ty_24 (ld_all (lenM eV_len h_p rfl)) (V rfl rfl (C rfl (Pc («as» := [.agg (p.flatMap eV), J 1]) rfl rfl (rfl) tf_47 (c_curve_Row p h_p 1) ?_))))
 intro H46 m47
 have h48 := m47 _ _ h43
 have h49 := m47 _ _ h41
 have m50 := m45.trans m47
 refine V rfl rfl (C rfl (Pc («as» := [.agg ((R_curve_Row p 1).flatMap eV), J u]) rfl rfl (rfl) tf_46 (c_rate_Edge (R_curve_Row p 1) (R_curve_Row_len p 1) u) ?_))
 intro H51 m52
 have h53 := m52 _ _ h48
 have h54 := m52 _ _ h49
 have m55 := m50.trans m52
 refine C rfl (iA_ rfl rfl rfl ar_25 (by omega) (by omega) ⟨_, h54⟩ (C rfl (So (cells' := [J (R_rate_Edge (R_curve_Row p 0) u), J (R_rate_Edge (R_curve_Row p 1) u), J 0, J 0]) (J (R_rate_Edge (R_curve_Row p 1) u)) rfl rfl ts_3 h54 rfl rfl rfl rfl ?_)))
 intro H56 h57 k58
 have h59 := keep k58 e26 h53
 have m61 := Mono.set m55 z27 k58
 refine AWP.region rfl ?_
 refine B rfl rfl rfl (iadd (by omega)) (V rfl rfl ?_)
 refine AOps.nil ?_
 refine UN.step ?_
 refine Sr ?_
 refine B rfl rfl rfl rfl ?_
 refine AWP.seq ?_
 refine ct_ rfl (decide_eq_true (by decide)) ?_
 refine AWP.skip ?_
 refine AWP.seq ?_
 refine bk_ ?_
 refine Sr ?_
 refine V rfl rfl (A rfl rfl ?_)
 refine AWP.region rfl ?_
 refine V rfl rfl (L rfl rfl ty_24 (ld_all (lenM eV_len h_p rfl)) (V rfl rfl (C rfl (Pc («as» := [.agg (p.flatMap eV), J 2]) rfl rfl (rfl) tf_47 (c_curve_Row p h_p 2) ?_))))
 intro H62 m63
 have h64 := m63 _ _ h59
 have h65 := m63 _ _ h57
 have m66 := m61.trans m63
 refine V rfl rfl (C rfl (Pc («as» := [.agg ((R_curve_Row p 2).flatMap eV), J u]) rfl rfl (rfl) tf_46 (c_rate_Edge (R_curve_Row p 2) (R_curve_Row_len p 2) u) ?_))
 intro H67 m68
 have h69 := m68 _ _ h64
 have h70 := m68 _ _ h65
 have m71 := m66.trans m68
 refine C rfl (iA_ rfl rfl rfl ar_25 (by omega) (by omega) ⟨_, h70⟩ (C rfl (So (cells' := [J (R_rate_Edge (R_curve_Row p 0) u), J (R_rate_Edge (R_curve_Row p 1) u), J (R_rate_Edge (R_curve_Row p 2) u), J 0]) (J (R_rate_Edge (R_curve_Row p 2) u)) rfl rfl ts_3 h70 rfl rfl rfl rfl ?_)))
 intro H72 h73 k74
 have h75 := keep k74 e26 h69
 have m77 := Mono.set m71 z27 k74
 refine AWP.region rfl ?_
 refine B rfl rfl rfl (iadd (by omega)) (V rfl rfl ?_)
 refine AOps.nil ?_
 refine UN.step ?_
 refine Sr ?_
 refine B rfl rfl rfl rfl ?_
 refine AWP.seq ?_
 refine ct_ rfl (decide_eq_true (by decide)) ?_
 refine AWP.skip ?_
 refine AWP.seq ?_
 refine bk_ ?_
 refine Sr ?_
 refine V rfl rfl (A rfl rfl ?_)
 refine AWP.region rfl ?_
 refine V rfl rfl (L rfl rfl ty_24 (ld_all (lenM eV_len h_p rfl)) (V rfl rfl (C rfl (Pc («as» := [.agg (p.flatMap eV), J 3]) rfl rfl (rfl) tf_47 (c_curve_Row p h_p 3) ?_))))
 intro H78 m79
 have h80 := m79 _ _ h75
 have h81 := m79 _ _ h73
 have m82 := m77.trans m79
 refine V rfl rfl (C rfl (Pc («as» := [.agg ((R_curve_Row p 3).flatMap eV), J u]) rfl rfl (rfl) tf_46 (c_rate_Edge (R_curve_Row p 3) (R_curve_Row_len p 3) u) ?_))
 intro H83 m84
 have h85 := m84 _ _ h80
 have h86 := m84 _ _ h81
 have m87 := m82.trans m84
 refine C rfl (iA_ rfl rfl rfl ar_25 (by omega) (by omega) ⟨_, h86⟩ (C rfl (So (cells' := [J (R_rate_Edge (R_curve_Row p 0) u), J (R_rate_Edge (R_curve_Row p 1) u), J (R_rate_Edge (R_curve_Row p 2) u), J (R_rate_Edge (R_curve_Row p 3) u)]) (J (R_rate_Edge (R_curve_Row p 3) u)) rfl rfl ts_3 h86 rfl rfl rfl rfl ?_)))
 intro H88 h89 k90
 have h91 := keep k90 e26 h85
 have m93 := Mono.set m87 z27 k90
 refine AWP.region rfl ?_
 refine B rfl rfl rfl (iadd (by omega)) (V rfl rfl ?_)
 refine AOps.nil ?_
 refine UN.step ?_
 refine Sr ?_
 refine B rfl rfl rfl rfl ?_
 refine AWP.seq ?_
 refine cf_ rfl (decide_eq_false (by decide)) ?_
 refine AWP.exit ?_
 change AWP _ _ _ _ _ _
 refine Sr ?_
 refine C rfl (Ld _ rfl rfl ty_25 h89 rfl (C rfl (Sw rfl rfl ts_25 h91 rfl rfl rfl ?_)))
 intro H94 h95 k96
 have m99 := Mono.set m93 z14 k96
 refine rt_ ?_
 refine Rr (Res.list1 rfl (.cell (v := .agg [J (R_rate_Edge (R_curve_Row p 0) u), J (R_rate_Edge (R_curve_Row p 1) u), J (R_rate_Edge (R_curve_Row p 2) u), J (R_rate_Edge (R_curve_Row p 3) u)]) rfl ty_25 h95 rfl (.nil))) ?_ m99
 have hR : R_rate_Sides p u = [R_rate_Edge (R_curve_Row p 0) u, R_rate_Edge (R_curve_Row p 1) u, R_rate_Edge (R_curve_Row p 2) u, R_rate_Edge (R_curve_Row p 3) u] := rfl
 exact (congrArg (fun r : (List Int) => (.agg (r.map eI) : AV)) hR).symm
def R_ref12_Edge (p : (List VT)) (u : Int) : Int :=
  if (R_ref12_Length p).2 = true then (if u < 1 then 0 else min (1 + (((R_ref12_Length p).1) / u)) 16) else 0
theorem c_ref12_Edge (p : (List VT)) (h_p : p.length = 4) (u : Int) : PC Tryd.prog 61 [.agg (p.flatMap eV), J u] (J (R_ref12_Edge p u)) := by
 intro H0
 refine ACalls.of_body' (n := 23) rfl rfl rfl rfl ?_
 have m0 := Mono.refl H0
 refine Sr ?_
 refine C rfl (bx_ (.agg (p.flatMap eV)) rfl rfl rfl ?_)
 intro i1 H2 n3 h4 k5
 have z6 := Mono.free m0 n3
 have m7 := Mono.new m0 n3 k5
 refine A rfl rfl ?_
 refine AWP.seq ?_
 refine fz_ 2 h4 z6 rfl m7 fun H8 m9 k10 => ?_
 refine AWP.region rfl ?_
 refine L rfl rfl ty_26 (ld_all (lenM eV_len h_p rfl)) (C rfl (Pc («as» := [.agg (p.flatMap eV)]) rfl rfl (rfl) tf_88 (c_ref12_Length p h_p) ?_))
 intro H11 m12
 have m13 := m9.trans m12
 refine V rfl rfl (E rfl rfl rfl (E rfl rfl rfl (A rfl rfl (A rfl rfl ?_))))
 refine AWP.seq ?_
 refine Sr ?_
 refine V rfl rfl (C rfl (AOp.not rfl rfl (V rfl rfl ?_)))
 rcases Bool.eq_false_or_eq_true ((R_ref12_Length p).2) with b14 | b14
 refine Y rfl rfl rfl (nb b14) (Mv _ rfl rfl (Y rfl rfl rfl (nb b14) (Bi _ rfl rfl rfl rfl (C rfl (Pf _ rfl rfl (nb b14) rfl ?_)))))
 refine AOps.nil ?_
 change AWP _ _ _ _ _ _
 by_cases b15 : u < 1
 refine ct_ rfl (decide_eq_true b15) ?_
 refine Sr ?_
 refine A rfl rfl ?_
 refine rt_ ?_
 refine Rr (Res.one rfl rfl) ?_ m13
 have hR : R_ref12_Edge p u = 0 := by unfold R_ref12_Edge; rw [if_pos b14, if_pos b15]
 exact (congrArg (fun r : Int => (J r : AV)) hR).symm
 refine cf_ rfl (decide_eq_false b15) ?_
 refine AWP.skip ?_
 refine AWP.seq ?_
 have hlr := len_rng_ref12 p
 have hq := ediv_rng (n := (R_ref12_Length p).1) (d := u) (by omega) (by omega)
 refine AWP.region rfl ?_
 refine V rfl rfl (V rfl rfl (C rfl (AOp.quoP rfl rfl rfl (by omega) (B rfl rfl rfl (iadd (by omega)) (C rfl (AOp.min2 rfl rfl rfl (A rfl rfl ?_)))))))
 refine rt_ ?_
 refine Rr (Res.one rfl rfl) ?_ m13
 have hR : R_ref12_Edge p u = min (1 + (((R_ref12_Length p).1) / u)) 16 := by unfold R_ref12_Edge; rw [if_pos b14, if_neg b15]
 exact (congrArg (fun r : Int => (J r : AV)) hR).symm
 refine N rfl rfl (nb b14) (N rfl rfl (nb b14) (C rfl (Pt _ rfl rfl (nb b14) rfl ?_)))
 refine ct_ rfl rfl ?_
 refine Sr ?_
 refine A rfl rfl ?_
 refine rt_ ?_
 refine Rr (Res.one rfl rfl) ?_ m13
 have hR : R_ref12_Edge p u = 0 := by unfold R_ref12_Edge; rw [if_neg (ff b14)]
 exact (congrArg (fun r : Int => (J r : AV)) hR).symm
def R_ref12_Sides (p : (List VT)) (u : Int) : (List Int) :=
  [R_ref12_Edge (R_ref11_Row p 0) u, R_ref12_Edge (R_ref11_Row p 1) u, R_ref12_Edge (R_ref11_Row p 2) u, R_ref12_Edge (R_ref11_Row p 3) u]
theorem c_ref12_Sides (p : (List VT)) (h_p : p.length = 16) (u : Int) : PC Tryd.prog 31 [.agg (p.flatMap eV), J u] (.agg ((R_ref12_Sides p u).map eI)) := by
 intro H0
 refine ACalls.of_body' (n := 20) rfl rfl rfl rfl ?_
 have m0 := Mono.refl H0
 refine Sr ?_
 refine C rfl (bx_ (.agg (p.flatMap eV)) rfl rfl rfl ?_)
 intro i1 H2 n3 h4 k5
 have z6 := Mono.free m0 n3
 have m7 := Mono.new m0 n3 k5
 refine C rfl (al_ rfl tz_25 ?_)
 intro i8 H9 n10 h11 k12
 have e13 := ne_new h4 n10
 have z14 := Mono.free m7 n10
 have h15 := keep k12 (ne_new h4 n10) h4
 have m16 := Mono.new m7 n10 k12
 refine AWP.seq ?_
 refine fz_ 2 h15 z6 rfl m16 fun H17 m18 k19 => ?_
 have h20 := (k19 _ (Ne.symm e13)).trans h11
 refine AWP.region rfl ?_
 refine C rfl (Bl (cells := [J 0, J 0, J 0, J 0]) rfl tz_25 pl_25 rfl rfl (C rfl (al_ rfl tz_25 ?_)))
 intro i21 H22 n23 h24 k25
 have e26 := ne_new h20 n23
 have z27 := Mono.free m18 n23
 have h28 := keep k25 (ne_new h20 n23) h20
 have m29 := Mono.new m18 n23 k25
 refine C rfl (Sw rfl rfl ts_25 h24 rfl rfl rfl ?_)
 intro H30 h31 k32
 have h33 := keep k32 e26 h28
 have m35 := Mono.set m29 z27 k32
 refine AWP.seq ?_
 refine Sr ?_
 refine A rfl rfl ?_
 refine bk_ ?_
 refine AWP.unroll 20 ?_
 refine UN.step ?_
 refine AWP.seq ?_
 refine Sr ?_
 refine V rfl rfl (B rfl rfl rfl rfl ?_)
 refine ct_ rfl (decide_eq_true (by decide)) ?_
 refine AWP.skip ?_
 refine AWP.seq ?_
 refine bk_ ?_
 refine AWP.region rfl ?_
 refine V rfl rfl (L rfl rfl ty_24 (ld_all (lenM eV_len h_p rfl)) (V rfl rfl (C rfl (Pc («as» := [.agg (p.flatMap eV), J 0]) rfl rfl (rfl) tf_62 (c_ref11_Row p h_p 0) ?_))))
 intro H36 m37
 have h38 := m37 _ _ h33
 have h39 := m37 _ _ h31
 have m40 := m35.trans m37
 refine V rfl rfl (C rfl (Pc («as» := [.agg ((R_ref11_Row p 0).flatMap eV), J u]) rfl rfl (rfl) tf_61 (c_ref12_Edge (R_ref11_Row p 0) (R_ref11_Row_len p 0) u) ?_))
 intro H41 m42
 have h43 := m42 _ _ h38
 have h44 := m42 _ _ h39
 have m45 := m40.trans m42
 refine C rfl (iA_ rfl rfl rfl ar_25 (by omega) (by omega) ⟨_, h44⟩ (C rfl (So (cells' := [J (R_ref12_Edge (R_ref11_Row p 0) u), J 0, J 0, J 0]) (J (R_ref12_Edge (R_ref11_Row p 0) u)) rfl rfl ts_3 h44 rfl rfl rfl rfl ?_)))
 intro H46 h47 k48
 have h49 := keep k48 e26 h43
 have m51 := Mono.set m45 z27 k48
 refine AWP.region rfl ?_
 refine V rfl rfl (B rfl rfl rfl (iadd (by omega)) (A rfl rfl ?_))
 refine AOps.nil ?_
 refine UN.step ?_
 refine AWP.seq ?_
 refine Sr ?_
 refine V rfl rfl (B rfl rfl rfl rfl ?_)
 refine ct_ rfl (decide_eq_true (by decide)) ?_
 refine AWP.skip ?_
 refine AWP.seq ?_
 refine bk_ ?_
 refine AWP.region rfl ?_
 refine V rfl rfl (L rfl rfl ty_24 (ld_all (lenM eV_len h_p rfl)) (V rfl rfl (C rfl (Pc («as» := [.agg (p.flatMap eV), J 1]) rfl rfl (rfl) tf_62 (c_ref11_Row p h_p 1) ?_))))
 intro H52 m53
 have h54 := m53 _ _ h49
 have h55 := m53 _ _ h47
 have m56 := m51.trans m53
 refine V rfl rfl (C rfl (Pc («as» := [.agg ((R_ref11_Row p 1).flatMap eV), J u]) rfl rfl (rfl) tf_61 (c_ref12_Edge (R_ref11_Row p 1) (R_ref11_Row_len p 1) u) ?_))
 intro H57 m58
 have h59 := m58 _ _ h54
 have h60 := m58 _ _ h55
 have m61 := m56.trans m58
 refine C rfl (iA_ rfl rfl rfl ar_25 (by omega) (by omega) ⟨_, h60⟩ (C rfl (So (cells' := [J (R_ref12_Edge (R_ref11_Row p 0) u), J (R_ref12_Edge (R_ref11_Row p 1) u), J 0, J 0]) (J (R_ref12_Edge (R_ref11_Row p 1) u)) rfl rfl ts_3 h60 rfl rfl rfl rfl ?_)))
 intro H62 h63 k64
 have h65 := keep k64 e26 h59
 have m67 := Mono.set m61 z27 k64
 refine AWP.region rfl ?_
 refine V rfl rfl (B rfl rfl rfl (iadd (by omega)) (A rfl rfl ?_))
 refine AOps.nil ?_
 refine UN.step ?_
 refine AWP.seq ?_
 refine Sr ?_
 refine V rfl rfl (B rfl rfl rfl rfl ?_)
 refine ct_ rfl (decide_eq_true (by decide)) ?_
 refine AWP.skip ?_
 refine AWP.seq ?_
 refine bk_ ?_
 refine AWP.region rfl ?_
 refine V rfl rfl (L rfl rfl ty_24 (ld_all (lenM eV_len h_p rfl)) (V rfl rfl (C rfl (Pc («as» := [.agg (p.flatMap eV), J 2]) rfl rfl (rfl) tf_62 (c_ref11_Row p h_p 2) ?_))))
 intro H68 m69
 have h70 := m69 _ _ h65
 have h71 := m69 _ _ h63
 have m72 := m67.trans m69
 refine V rfl rfl (C rfl (Pc («as» := [.agg ((R_ref11_Row p 2).flatMap eV), J u]) rfl rfl (rfl) tf_61 (c_ref12_Edge (R_ref11_Row p 2) (R_ref11_Row_len p 2) u) ?_))
 intro H73 m74
 have h75 := m74 _ _ h70
 have h76 := m74 _ _ h71
 have m77 := m72.trans m74
 refine C rfl (iA_ rfl rfl rfl ar_25 (by omega) (by omega) ⟨_, h76⟩ (C rfl (So (cells' := [J (R_ref12_Edge (R_ref11_Row p 0) u), J (R_ref12_Edge (R_ref11_Row p 1) u), J (R_ref12_Edge (R_ref11_Row p 2) u), J 0]) (J (R_ref12_Edge (R_ref11_Row p 2) u)) rfl rfl ts_3 h76 rfl rfl rfl rfl ?_)))
 intro H78 h79 k80
 have h81 := keep k80 e26 h75
 have m83 := Mono.set m77 z27 k80
 refine AWP.region rfl ?_
 refine V rfl rfl (B rfl rfl rfl (iadd (by omega)) (A rfl rfl ?_))
 refine AOps.nil ?_
 refine UN.step ?_
 refine AWP.seq ?_
 refine Sr ?_
 refine V rfl rfl (B rfl rfl rfl rfl ?_)
 refine ct_ rfl (decide_eq_true (by decide)) ?_
 refine AWP.skip ?_
 refine AWP.seq ?_
 refine bk_ ?_
 refine AWP.region rfl ?_
 refine V rfl rfl (L rfl rfl ty_24 (ld_all (lenM eV_len h_p rfl)) (V rfl rfl (C rfl (Pc («as» := [.agg (p.flatMap eV), J 3]) rfl rfl (rfl) tf_62 (c_ref11_Row p h_p 3) ?_))))
 intro H84 m85
 have h86 := m85 _ _ h81
 have h87 := m85 _ _ h79
 have m88 := m83.trans m85
 refine V rfl rfl (C rfl (Pc («as» := [.agg ((R_ref11_Row p 3).flatMap eV), J u]) rfl rfl (rfl) tf_61 (c_ref12_Edge (R_ref11_Row p 3) (R_ref11_Row_len p 3) u) ?_))
 intro H89 m90
 have h91 := m90 _ _ h86
 have h92 := m90 _ _ h87
 have m93 := m88.trans m90
 refine C rfl (iA_ rfl rfl rfl ar_25 (by omega) (by omega) ⟨_, h92⟩ (C rfl (So (cells' := [J (R_ref12_Edge (R_ref11_Row p 0) u), J (R_ref12_Edge (R_ref11_Row p 1) u), J (R_ref12_Edge (R_ref11_Row p 2) u), J (R_ref12_Edge (R_ref11_Row p 3) u)]) (J (R_ref12_Edge (R_ref11_Row p 3) u)) rfl rfl ts_3 h92 rfl rfl rfl rfl ?_)))
 intro H94 h95 k96
 have h97 := keep k96 e26 h91
 have m99 := Mono.set m93 z27 k96
 refine AWP.region rfl ?_
 refine V rfl rfl (B rfl rfl rfl (iadd (by omega)) (A rfl rfl ?_))
 refine AOps.nil ?_
 refine UN.step ?_
 refine AWP.seq ?_
 refine Sr ?_
 refine V rfl rfl (B rfl rfl rfl rfl ?_)
 refine cf_ rfl (decide_eq_false (by decide)) ?_
 refine AWP.exit ?_
 change AWP _ _ _ _ _ _
 refine Sr ?_
 refine C rfl (Ld _ rfl rfl ty_25 h95 rfl (C rfl (Sw rfl rfl ts_25 h97 rfl rfl rfl ?_)))
 intro H100 h101 k102
 have m105 := Mono.set m99 z14 k102
 refine rt_ ?_
 refine Rr (Res.list1 rfl (.cell (v := .agg [J (R_ref12_Edge (R_ref11_Row p 0) u), J (R_ref12_Edge (R_ref11_Row p 1) u), J (R_ref12_Edge (R_ref11_Row p 2) u), J (R_ref12_Edge (R_ref11_Row p 3) u)]) rfl ty_25 h101 rfl (.nil))) ?_ m105
 have hR : R_ref12_Sides p u = [R_ref12_Edge (R_ref11_Row p 0) u, R_ref12_Edge (R_ref11_Row p 1) u, R_ref12_Edge (R_ref11_Row p 2) u, R_ref12_Edge (R_ref11_Row p 3) u] := rfl
 exact (congrArg (fun r : (List Int) => (.agg (r.map eI) : AV)) hR).symm
theorem c_far1 (m : Int) : PC Tryd.prog 43 [J m] (.fn 44 [.fptr [J m] 0]) := by
 intro H0
 refine ACalls.of_body' (n := 4) rfl rfl rfl rfl ?_
 have m0 := Mono.refl H0
 refine Sr ?_
 refine C rfl (bx_ (J m) rfl rfl rfl ?_)
 intro i1 H2 n3 h4 k5
 have z6 := Mono.free m0 n3
 have m7 := Mono.new m0 n3 k5
 refine A rfl rfl ?_
 refine AWP.seq ?_
 refine fz_ 1 h4 z6 rfl m7 fun H8 m9 k10 => ?_
 refine AWP.region rfl ?_
 refine C rfl (AOp.makeFunc (cs := [.fptr [J m] 0]) rfl rfl (A rfl rfl ?_))
 refine rt_ ?_
 refine Rr (Res.one rfl rfl) ?_ m9
 exact rfl
theorem c_far (m : Int) (hm : 0 ≤ m ∧ m ≤ 1000000) (v : VT) : PC Tryd.prog 44 [.agg [J v.X, J v.Y, J v.Z], .fptr [J m] 0] (.bool (!R_vec_Within v m)) := by
 intro H0
 refine ACalls.of_body' (n := 8) rfl rfl rfl rfl ?_
 have m0 := Mono.refl H0
 refine Sr ?_
 refine C rfl (bx_ (.agg [J v.X, J v.Y, J v.Z]) rfl rfl rfl ?_)
 intro i1 H2 n3 h4 k5
 have z6 := Mono.free m0 n3
 have m7 := Mono.new m0 n3 k5
 refine A rfl rfl ?_
 refine AWP.seq ?_
 refine fz_ 2 h4 z6 rfl m7 fun H8 m9 k10 => ?_
 refine AWP.region rfl ?_
 refine L rfl rfl ty_23 rfl (L rfl rfl ty_3 rfl (C rfl (Pc («as» := [.agg [J v.X, J v.Y, J v.Z], J m]) rfl rfl (rfl) tf_18 (c_vec_Within v m (by first | omega | assumption | (constructor <;> omega) | simp)) ?_)))
 intro H11 m12
 have m13 := m9.trans m12
 refine C rfl (AOp.not rfl rfl (A rfl rfl ?_))
 refine rt_ ?_
 refine Rr (Res.one rfl rfl) ?_ m13
 exact rfl
theorem c_idxF (l : List VT) (hl : l.length ≤ 1048576) (m : Int) (hm : 0 ≤ m ∧ m ≤ 1000000) : PC Tryd.prog 78 [.sl l.length (l.flatMap eV), .fn 44 [.fptr [J m] 0]] (J (idxF l m)) := by
 intro H0
 refine ACalls.of_body' (n := 19) rfl rfl rfl rfl ?_
 have m0 := Mono.refl H0
 refine Sr ?_
 refine A rfl rfl ?_
 refine AWP.seq ?_
 refine Sr ?_
 refine V rfl rfl (C rfl (AOp.len (m := l.length) rfl rfl (.inr (.inl ⟨_, rfl⟩)) u_34 (V rfl rfl ?_)))
 refine bk_ ?_
 refine AWP.loop (fun q1 fq Hq => ∃ (i : Int), q1 = (((l.length : Int) : Int) - i).toNat ∧ fq 8 = J i ∧ fq 0 = .sl l.length (l.flatMap eV) ∧ fq 1 = .fn 44 [.fptr [J m] 0] ∧ fq 7 = J (l.length : Int) ∧ Mono H0 Hq ∧ (0 ≤ i) ∧ (i ≤ (l.length : Int)) ∧ (∀ j : Int, 0 ≤ j → j < i → inV m (at_ l j))) (k := (((l.length : Int) : Int) - 0).toNat) ?_ ?_
 exact ⟨0, rfl, rfl, rfl, rfl, rfl, m0, by omega, by omega, by intro j; omega⟩
 rintro _ f3 H2 ⟨i, rfl, s4, s5, s6, s7, m8, hi0, hi1, pre⟩
 refine Sr ?_
 refine B rfl s4 s7 rfl ?_
 refine AWP.seq ?_
 by_cases b9 : i < (l.length : Int)
 refine ct_ rfl (decide_eq_true b9) ?_
 refine AWP.skip ?_
 refine AWP.seq ?_
 refine bk_ ?_
 refine Sr ?_
 refine V rfl s4 (A rfl rfl ?_)
 refine Sr ?_
 refine V rfl s6 (V rfl s5 (V rfl rfl (C rfl (iS_ rfl rfl rfl sl_34 (by omega) (by omega) (L rfl rfl ty_23 (ldM eV_len (by omega) (by omega)) (C rfl (Pc («as» := [.agg [J ((at_ l i).X), J ((at_ l i).Y), J ((at_ l i).Z)], .fptr [J m] 0]) rfl rfl (rfl) tf_44 (c_far m (by omega) (at_ l i)) ?_)))))))
 intro H10 m11
 have m12 := m8.trans m11
 refine AOps.nil ?_
 change AWP _ _ _ _ _ _
 rcases Bool.eq_false_or_eq_true (R_vec_Within (at_ l i) m) with b13 | b13
 have iv14 : inV m (at_ l i) := withinvec_in b13
 refine cf_ rfl (nb b13) ?_
 refine AWP.skip ?_
 refine AWP.region rfl ?_
 refine B rfl s4 rfl (iadd (by omega)) (V rfl rfl ?_)
 refine AOps.nil ?_
 exact ⟨_, by omega, i + 1, rfl, rfl, s5, s6, s7, m12, by omega, by omega, by exact fa_step pre iv14⟩
 refine ct_ rfl (nb b13) ?_
 refine Sr ?_
 refine V rfl rfl (A rfl rfl ?_)
 refine rt_ ?_
 refine Rr (Res.one rfl rfl) ?_ m12
 exact (congrArg (AV.int .i64) (show (i : Int) = idxF l m from by exact idxF_hit hi0 (by omega) pre b13))
 refine cf_ rfl (decide_eq_false b9) ?_
 refine AWP.exit ?_
 change AWP _ _ _ _ _ _
 refine Sr ?_
 refine A rfl rfl ?_
 refine rt_ ?_
 refine Rr (Res.one rfl rfl) ?_ m8
 exact (congrArg (AV.int .i64) (show (-1 : Int) = idxF l m from by exact idxF_miss (fun j h0 h1 => pre j h0 (by omega))))
theorem c_anyF (l : List VT) (hl : l.length ≤ 1048576) (m : Int) (hm : 0 ≤ m ∧ m ≤ 1000000) : PC Tryd.prog 45 [.sl l.length (l.flatMap eV), .fn 44 [.fptr [J m] 0]] (.bool (!allIn l m)) := by
 intro H0
 refine ACalls.of_body' (n := 9) rfl rfl rfl rfl ?_
 have m0 := Mono.refl H0
 refine Sr ?_
 refine A rfl rfl ?_
 refine Sr ?_
 refine V rfl rfl (V rfl rfl (C rfl (Pc («as» := [.sl l.length (l.flatMap eV), .fn 44 [.fptr [J m] 0]]) rfl rfl (rfl) tf_78 (c_idxF l (by first | omega | assumption | (simp; omega) | simp) m (by omega)) ?_)))
 intro H1 m2
 have m3 := m0.trans m2
 refine B rfl rfl rfl rfl (A rfl rfl ?_)
 refine rt_ ?_
 refine Rr (Res.one rfl rfl) ?_ m3
 exact (congrArg AV.bool (show (decide (idxF l m ≥ 0) : Bool) = !allIn l m from by exact idxF_all l m))
abbrev Zvec_Bound_0 (l : List VT) := BoxT.mk (at_ l 0) (at_ l 0)
theorem c_vec_Bound (l : List VT) (hl : l.length ≤ 1048576) : PC Tryd.prog 36 [.sl l.length (l.flatMap eV)] (.tup [.agg [J ((((boundR l).1).Lo).X), J ((((boundR l).1).Lo).Y), J ((((boundR l).1).Lo).Z), J ((((boundR l).1).Hi).X), J ((((boundR l).1).Hi).Y), J ((((boundR l).1).Hi).Z)], .bool ((boundR l).2)]) := by
 intro H0
 refine ACalls.of_body' (n := 32) rfl rfl rfl rfl ?_
 have m0 := Mono.refl H0
 refine Sr ?_
 refine C rfl (al_ rfl tz_43 ?_)
 intro i1 H2 n3 h4 k5
 have z6 := Mono.free m0 n3
 have m7 := Mono.new m0 n3 k5
 refine A rfl rfl ?_
 refine AWP.seq ?_
 refine Sr ?_
 refine V rfl rfl (C rfl (AOp.len (m := l.length) rfl rfl (.inr (.inl ⟨_, rfl⟩)) u_34 (B rfl rfl rfl ieq ?_)))
 refine AOps.nil ?_
 change AWP _ _ _ _ _ _
 by_cases b8 : (l.length : Int) = 0
 refine ct_ rfl (decide_eq_true b8) ?_
 refine Sr ?_
 refine C rfl (Bl (cells := [J 0, J 0, J 0, J 0, J 0, J 0]) rfl tz_43 pl_43 rfl rfl (C rfl (Sw rfl rfl ts_43 h4 rfl rfl rfl ?_)))
 intro H9 h10 k11
 have m13 := Mono.set m7 z6 k11
 refine A rfl rfl ?_
 refine rt_ ?_
 refine Rr (Res.list rfl rfl (.cell (v := .agg [J 0, J 0, J 0, J 0, J 0, J 0]) rfl ty_43 h10 rfl (.tmp rfl (.nil)))) ?_ m13
 exact congrArg AV.tup (lc (congrArg AV.agg (lc (congrArg (AV.int .i64) (show (0 : Int) = (((boundR l).1).Lo).X from by rw [← bound_no b8])) (lc (congrArg (AV.int .i64) (show (0 : Int) = (((boundR l).1).Lo).Y from by rw [← bound_no b8])) (lc (congrArg (AV.int .i64) (show (0 : Int) = (((boundR l).1).Lo).Z from by rw [← bound_no b8])) (lc (congrArg (AV.int .i64) (show (0 : Int) = (((boundR l).1).Hi).X from by rw [← bound_no b8])) (lc (congrArg (AV.int .i64) (show (0 : Int) = (((boundR l).1).Hi).Y from by rw [← bound_no b8])) (lc (congrArg (AV.int .i64) (show (0 : Int) = (((boundR l).1).Hi).Z from by rw [← bound_no b8])) rfl))))))) (lc (congrArg AV.bool (show (false : Bool) = (boundR l).2 from by rw [← bound_no b8])) rfl))
 refine cf_ rfl (decide_eq_false b8) ?_
 refine AWP.skip ?_
 refine AWP.seq ?_
 refine AWP.freshN fun b14 hb15 => ?_
 obtain ⟨i16, e17⟩ : ∃ x, x = b14 + 0 := ⟨_, rfl⟩
 have n18 := hb15 0; rw [← e17] at n18
 refine AWP.region_strA mixed (by kernel_rfl) [(7, i16, .row 0 ([J 0, J 0, J 0, J 0, J 0, J 0]))] [0, 1, 2, 3, 4, 5, 6, 7] [] [8] (by kernel_rfl) (by kernel_rfl) ⟨n18, trivial, trivial⟩ ?_
 have e19 := ne_new h4 n18
 have z20 := Mono.free m7 n18
 refine STRN.op rfl rfl rfl (.inl ⟨rfl, fun H1 f' H' hf hN hM => Mv _ rfl ((hf 0 rfl).trans rfl) ⟨rfl, hN⟩⟩) ?_
 refine STRN.op rfl rfl rfl (.inl ⟨rfl, fun H1 f' H' hf hN hM => iS_ rfl ((hf 11 rfl).trans rfl) rfl sl_34 (by omega) (by omega) ⟨rfl, hN⟩⟩) ?_
 refine STRN.op rfl rfl rfl (.inl ⟨rfl, fun H1 f' H' hf hN hM => Lf _ rfl ((hf 12 rfl).trans rfl) ty_23 (ldM eV_len (by omega) (by omega)) ⟨rfl, hN⟩⟩) ?_
 refine STRN.op rfl rfl rfl (.inl ⟨rfl, fun H1 f' H' hf hN hM => Mv _ rfl ((hf 0 rfl).trans rfl) ⟨rfl, hN⟩⟩) ?_
 refine STRN.op rfl rfl rfl (.inl ⟨rfl, fun H1 f' H' hf hN hM => iS_ rfl ((hf 14 rfl).trans rfl) rfl sl_34 (by omega) (by omega) ⟨rfl, hN⟩⟩) ?_
 refine STRN.op rfl rfl rfl (.inl ⟨rfl, fun H1 f' H' hf hN hM => Lf _ rfl ((hf 15 rfl).trans rfl) ty_23 (ldM eV_len (by omega) (by omega)) ⟨rfl, hN⟩⟩) ?_
 refine STRN.op rfl rfl rfl (.inl ⟨rfl, fun H1 f' H' hf hN hM => Bl (cells := [J ((at_ l 0).X), J ((at_ l 0).Y), J ((at_ l 0).Z), J ((at_ l 0).X), J ((at_ l 0).Y), J ((at_ l 0).Z)]) rfl tz_43 pl_43 (lconsP ((hf 13 rfl).trans rfl) (lconsP ((hf 16 rfl).trans rfl) rfl)) rfl ⟨rfl, hN⟩⟩) ?_
 refine STRN.alloc (id := i16) (Z := [J 0, J 0, J 0, J 0, J 0, J 0]) (.head _) rfl rfl rfl rfl rfl tz_43 ?_
 refine STRN.done fun H21 m22 hu23 => ?_
 have h24 := m22 _ _ h4
 have m25 := m7.trans m22
 have h26 : H21 i16 = some (.row 0 ([J 0, J 0, J 0, J 0, J 0, J 0])) := hu23 _ (.head _)
 refine STR.done fun H27 m28 => ?_
 have h29 := m28 _ _ h24
 have h30 := m28 _ _ h26
 have m31 := m25.trans m28
 refine C rfl (Sw rfl rfl ts_43 h30 rfl rfl rfl ?_)
 intro H32 h33 k34
 have h35 := keep k34 e19 h29
 have m37 := Mono.set m31 z20 k34
 refine AWP.seq ?_
 refine AWP.seq ?_
 have hdl : ((l.drop (1 : Int).toNat).length : Int) = l.length - 1 := by rw [List.length_drop]; omega
 refine AWP.region rfl ?_
 refine V rfl rfl (C rfl (AOp.sliceSDM (l := (1 : Int)) (h := (l.length : Int)) eV_len rfl rfl sl_34 (lo_of rfl) rfl (by omega) (by omega) (by omega) (by omega) (C rfl (AOp.len (m := (l.drop (1 : Int).toNat).length) rfl rfl (.inr (.inl ⟨_, rfl⟩)) u_34 (V rfl rfl ?_)))))
 refine bk_ ?_
 refine AWP.loop (fun q38 fq Hq => ∃ (i : Int), q38 = ((((l.drop (1 : Int).toNat).length : Int) : Int) - i).toNat ∧ fq 21 = J i ∧ fq 2 = .ptr i1 0 0 ∧ fq 3 = .bool false ∧ fq 4 = .ptr i16 0 0 ∧ fq 19 = .sl (l.drop (1 : Int).toNat).length ((l.drop (1 : Int).toNat).flatMap eV) ∧ fq 20 = J (((l.drop (1 : Int).toNat).length) : Int) ∧ Hq i1 = some (.row 0 ([J 0, J 0, J 0, J 0, J 0, J 0])) ∧ Hq i16 = some (.row 0 ([J (((boxL ((l.drop (1 : Int).toNat).take i.toNat) (Zvec_Bound_0 l)).Lo).X), J (((boxL ((l.drop (1 : Int).toNat).take i.toNat) (Zvec_Bound_0 l)).Lo).Y), J (((boxL ((l.drop (1 : Int).toNat).take i.toNat) (Zvec_Bound_0 l)).Lo).Z), J (((boxL ((l.drop (1 : Int).toNat).take i.toNat) (Zvec_Bound_0 l)).Hi).X), J (((boxL ((l.drop (1 : Int).toNat).take i.toNat) (Zvec_Bound_0 l)).Hi).Y), J (((boxL ((l.drop (1 : Int).toNat).take i.toNat) (Zvec_Bound_0 l)).Hi).Z)])) ∧ Mono H0 Hq ∧ (0 ≤ i) ∧ (i ≤ ((l.drop (1 : Int).toNat).length : Int))) (k := ((((l.drop (1 : Int).toNat).length : Int) : Int) - 0).toNat) ?_ ?_
 exact ⟨0, rfl, rfl, rfl, rfl, rfl, rfl, rfl, h35, (h33.trans (congrArg (fun c => some (AB.row 0 c)) (show ([J ((at_ l 0).X), J ((at_ l 0).Y), J ((at_ l 0).Z), J ((at_ l 0).X), J ((at_ l 0).Y), J ((at_ l 0).Z)] : List AV) = [J (((boxL ((l.drop (1 : Int).toNat).take (0 : Int).toNat) (Zvec_Bound_0 l)).Lo).X), J (((boxL ((l.drop (1 : Int).toNat).take (0 : Int).toNat) (Zvec_Bound_0 l)).Lo).Y), J (((boxL ((l.drop (1 : Int).toNat).take (0 : Int).toNat) (Zvec_Bound_0 l)).Lo).Z), J (((boxL ((l.drop (1 : Int).toNat).take (0 : Int).toNat) (Zvec_Bound_0 l)).Hi).X), J (((boxL ((l.drop (1 : Int).toNat).take (0 : Int).toNat) (Zvec_Bound_0 l)).Hi).Y), J (((boxL ((l.drop (1 : Int).toNat).take (0 : Int).toNat) (Zvec_Bound_0 l)).Hi).Z)] from by first | rfl | (rw [boxL_step (l := (l.drop (1 : Int).toNat)) (i := i) hi0 (by omega)])))), m37, by omega, by omega⟩
 rintro _ f40 H39 ⟨i, rfl, s41, s42, s43, s44, s45, s46, h47, h48, m49, hi0, hi1⟩
 refine Sr ?_
 refine B rfl s41 s46 rfl ?_
 refine AWP.seq ?_
 by_cases b50 : i < (((l.drop (1 : Int).toNat).length) : Int)
 refine ct_ rfl (decide_eq_true b50) ?_
 refine AWP.skip ?_
 refine AWP.seq ?_
 refine bk_ ?_
 refine Sr ?_
 refine C rfl (iS_ rfl s45 s41 sl_34 (by omega) (by omega) (L rfl rfl ty_23 (ldM eV_len (by omega) (by omega)) (C rfl (al_ rfl tz_23 ?_))))
 intro i51 H52 n53 h54 k55
 have e56 := ne_new h47 n53
 have e57 := ne_new h48 n53
 have z58 := Mono.free m49 n53
 have h59 := keep k55 (ne_new h47 n53) h47
 have h60 := keep k55 (ne_new h48 n53) h48
 have m61 := Mono.new m49 n53 k55
 refine C rfl (Sw rfl rfl ts_23 h54 rfl rfl rfl ?_)
 intro H62 h63 k64
 have h65 := keep k64 e56 h59
 have h66 := keep k64 e57 h60
 have m68 := Mono.set m61 z58 k64
 refine fz_ 6 h63 z58 rfl m68 fun H69 m70 k71 => ?_
 have h72 := (k71 _ e56).trans h65
 have h73 := (k71 _ e57).trans h66
 refine AWP.region rfl ?_
 refine C rfl (Ld _ rfl s44 ty_43 h73 rfl (L rfl rfl ty_23 rfl (L rfl rfl ty_23 rfl (C rfl (Bl (cells := [J ((at_ (l.drop (1 : Int).toNat) i).X), J ((at_ (l.drop (1 : Int).toNat) i).Y), J ((at_ (l.drop (1 : Int).toNat) i).Z), J ((at_ (l.drop (1 : Int).toNat) i).X), J ((at_ (l.drop (1 : Int).toNat) i).Y), J ((at_ (l.drop (1 : Int).toNat) i).Z)]) rfl tz_43 pl_43 rfl rfl (C rfl (Pc («as» := [.agg [J (((boxL ((l.drop (1 : Int).toNat).take i.toNat) (Zvec_Bound_0 l)).Lo).X), J (((boxL ((l.drop (1 : Int).toNat).take i.toNat) (Zvec_Bound_0 l)).Lo).Y), J (((boxL ((l.drop (1 : Int).toNat).take i.toNat) (Zvec_Bound_0 l)).Lo).Z), J (((boxL ((l.drop (1 : Int).toNat).take i.toNat) (Zvec_Bound_0 l)).Hi).X), J (((boxL ((l.drop (1 : Int).toNat).take i.toNat) (Zvec_Bound_0 l)).Hi).Y), J (((boxL ((l.drop (1 : Int).toNat).take i.toNat) (Zvec_Bound_0 l)).Hi).Z)], .agg [J ((at_ (l.drop (1 : Int).toNat) i).X), J ((at_ (l.drop (1 : Int).toNat) i).Y), J ((at_ (l.drop (1 : Int).toNat) i).Z), J ((at_ (l.drop (1 : Int).toNat) i).X), J ((at_ (l.drop (1 : Int).toNat) i).Y), J ((at_ (l.drop (1 : Int).toNat) i).Z)]]) rfl rfl (rfl) tf_76 (c_vec_Join (boxL ((l.drop (1 : Int).toNat).take i.toNat) (Zvec_Bound_0 l)) (BoxT.mk (at_ (l.drop (1 : Int).toNat) i) (at_ (l.drop (1 : Int).toNat) i))) ?_)))))))
 intro H74 m75
 have h76 := m75 _ _ h72
 have h77 := m75 _ _ h73
 have m78 := m70.trans m75
 refine C rfl (Sw s44 rfl ts_43 h77 rfl rfl rfl ?_)
 intro H79 h80 k81
 have h82 := keep k81 e19 h76
 have m84 := Mono.set m78 z20 k81
 refine AWP.region rfl ?_
 refine B rfl s41 rfl (iadd (by omega)) (V rfl rfl ?_)
 refine AOps.nil ?_
 exact ⟨_, by omega, i + 1, rfl, rfl, s42, s43, s44, s45, s46, h82, (h80.trans (congrArg (fun c => some (AB.row 0 c)) (show ([J (((R_vec_Join (boxL ((l.drop (1 : Int).toNat).take i.toNat) (Zvec_Bound_0 l)) (BoxT.mk (at_ (l.drop (1 : Int).toNat) i) (at_ (l.drop (1 : Int).toNat) i))).Lo).X), J (((R_vec_Join (boxL ((l.drop (1 : Int).toNat).take i.toNat) (Zvec_Bound_0 l)) (BoxT.mk (at_ (l.drop (1 : Int).toNat) i) (at_ (l.drop (1 : Int).toNat) i))).Lo).Y), J (((R_vec_Join (boxL ((l.drop (1 : Int).toNat).take i.toNat) (Zvec_Bound_0 l)) (BoxT.mk (at_ (l.drop (1 : Int).toNat) i) (at_ (l.drop (1 : Int).toNat) i))).Lo).Z), J (((R_vec_Join (boxL ((l.drop (1 : Int).toNat).take i.toNat) (Zvec_Bound_0 l)) (BoxT.mk (at_ (l.drop (1 : Int).toNat) i) (at_ (l.drop (1 : Int).toNat) i))).Hi).X), J (((R_vec_Join (boxL ((l.drop (1 : Int).toNat).take i.toNat) (Zvec_Bound_0 l)) (BoxT.mk (at_ (l.drop (1 : Int).toNat) i) (at_ (l.drop (1 : Int).toNat) i))).Hi).Y), J (((R_vec_Join (boxL ((l.drop (1 : Int).toNat).take i.toNat) (Zvec_Bound_0 l)) (BoxT.mk (at_ (l.drop (1 : Int).toNat) i) (at_ (l.drop (1 : Int).toNat) i))).Hi).Z)] : List AV) = [J (((boxL ((l.drop (1 : Int).toNat).take (i + 1).toNat) (Zvec_Bound_0 l)).Lo).X), J (((boxL ((l.drop (1 : Int).toNat).take (i + 1).toNat) (Zvec_Bound_0 l)).Lo).Y), J (((boxL ((l.drop (1 : Int).toNat).take (i + 1).toNat) (Zvec_Bound_0 l)).Lo).Z), J (((boxL ((l.drop (1 : Int).toNat).take (i + 1).toNat) (Zvec_Bound_0 l)).Hi).X), J (((boxL ((l.drop (1 : Int).toNat).take (i + 1).toNat) (Zvec_Bound_0 l)).Hi).Y), J (((boxL ((l.drop (1 : Int).toNat).take (i + 1).toNat) (Zvec_Bound_0 l)).Hi).Z)] from by first | rfl | (rw [boxL_step (l := (l.drop (1 : Int).toNat)) (i := i) hi0 (by omega)])))), m84, by omega, by omega⟩
 refine cf_ rfl (decide_eq_false b50) ?_
 refine AWP.exit ?_
 change AWP _ _ _ _ _ _
 refine Sr ?_
 refine C rfl (Ld _ rfl s44 ty_43 h48 rfl (C rfl (Sw s42 rfl ts_43 h47 rfl rfl rfl ?_)))
 intro H85 h86 k87
 have m90 := Mono.set m49 z6 k87
 refine A rfl rfl ?_
 refine rt_ ?_
 refine Rr (Res.list rfl rfl (.cell (v := .agg [J (((boxL ((l.drop (1 : Int).toNat).take i.toNat) (Zvec_Bound_0 l)).Lo).X), J (((boxL ((l.drop (1 : Int).toNat).take i.toNat) (Zvec_Bound_0 l)).Lo).Y), J (((boxL ((l.drop (1 : Int).toNat).take i.toNat) (Zvec_Bound_0 l)).Lo).Z), J (((boxL ((l.drop (1 : Int).toNat).take i.toNat) (Zvec_Bound_0 l)).Hi).X), J (((boxL ((l.drop (1 : Int).toNat).take i.toNat) (Zvec_Bound_0 l)).Hi).Y), J (((boxL ((l.drop (1 : Int).toNat).take i.toNat) (Zvec_Bound_0 l)).Hi).Z)]) s42 ty_43 h86 rfl (.tmp rfl (.nil)))) ?_ m90
 exact congrArg AV.tup (lc (congrArg AV.agg (lc (congrArg (AV.int .i64) (show (((boxL ((l.drop (1 : Int).toNat).take i.toNat) (Zvec_Bound_0 l)).Lo).X : Int) = (((boundR l).1).Lo).X from by rw [← bound_drop (i := i) b8 (by omega)])) (lc (congrArg (AV.int .i64) (show (((boxL ((l.drop (1 : Int).toNat).take i.toNat) (Zvec_Bound_0 l)).Lo).Y : Int) = (((boundR l).1).Lo).Y from by rw [← bound_drop (i := i) b8 (by omega)])) (lc (congrArg (AV.int .i64) (show (((boxL ((l.drop (1 : Int).toNat).take i.toNat) (Zvec_Bound_0 l)).Lo).Z : Int) = (((boundR l).1).Lo).Z from by rw [← bound_drop (i := i) b8 (by omega)])) (lc (congrArg (AV.int .i64) (show (((boxL ((l.drop (1 : Int).toNat).take i.toNat) (Zvec_Bound_0 l)).Hi).X : Int) = (((boundR l).1).Hi).X from by rw [← bound_drop (i := i) b8 (by omega)])) (lc (congrArg (AV.int .i64) (show (((boxL ((l.drop (1 : Int).toNat).take i.toNat) (Zvec_Bound_0 l)).Hi).Y : Int) = (((boundR l).1).Hi).Y from by rw [← bound_drop (i := i) b8 (by omega)])) (lc (congrArg (AV.int .i64) (show (((boxL ((l.drop (1 : Int).toNat).take i.toNat) (Zvec_Bound_0 l)).Hi).Z : Int) = (((boundR l).1).Hi).Z from by rw [← bound_drop (i := i) b8 (by omega)])) rfl))))))) (lc (congrArg AV.bool (show (true : Bool) = (boundR l).2 from by rw [← bound_drop (i := i) b8 (by omega)])) rfl))
abbrev Zref02_Bound_0 (l : List VT) := BoxT.mk (at_ l 0) (at_ l 0)
theorem c_ref02_Bound (l : List VT) (hl : l.length ≤ 1048576) : PC Tryd.prog 39 [.sl l.length (l.flatMap eV)] (.tup [.agg [J ((((boundR l).1).Lo).X), J ((((boundR l).1).Lo).Y), J ((((boundR l).1).Lo).Z), J ((((boundR l).1).Hi).X), J ((((boundR l).1).Hi).Y), J ((((boundR l).1).Hi).Z)], .bool ((boundR l).2)]) := by
 intro H0
 refine ACalls.of_body' (n := 35) rfl rfl rfl rfl ?_
 have m0 := Mono.refl H0
 refine Sr ?_
 refine C rfl (al_ rfl tz_43 ?_)
 intro i1 H2 n3 h4 k5
 have z6 := Mono.free m0 n3
 have m7 := Mono.new m0 n3 k5
 refine A rfl rfl ?_
 refine AWP.seq ?_
 refine Sr ?_
 refine V rfl rfl (C rfl (AOp.len (m := l.length) rfl rfl (.inr (.inl ⟨_, rfl⟩)) u_34 (B rfl rfl rfl ieq ?_)))
 refine AOps.nil ?_
 change AWP _ _ _ _ _ _
 by_cases b8 : (l.length : Int) = 0
 refine ct_ rfl (decide_eq_true b8) ?_
 refine Sr ?_
 refine C rfl (Bl (cells := [J 0, J 0, J 0, J 0, J 0, J 0]) rfl tz_43 pl_43 rfl rfl (C rfl (Sw rfl rfl ts_43 h4 rfl rfl rfl ?_)))
 intro H9 h10 k11
 have m13 := Mono.set m7 z6 k11
 refine A rfl rfl ?_
 refine rt_ ?_
 refine Rr (Res.list rfl rfl (.cell (v := .agg [J 0, J 0, J 0, J 0, J 0, J 0]) rfl ty_43 h10 rfl (.tmp rfl (.nil)))) ?_ m13
 exact congrArg AV.tup (lc (congrArg AV.agg (lc (congrArg (AV.int .i64) (show (0 : Int) = (((boundR l).1).Lo).X from by rw [← bound_no b8])) (lc (congrArg (AV.int .i64) (show (0 : Int) = (((boundR l).1).Lo).Y from by rw [← bound_no b8])) (lc (congrArg (AV.int .i64) (show (0 : Int) = (((boundR l).1).Lo).Z from by rw [← bound_no b8])) (lc (congrArg (AV.int .i64) (show (0 : Int) = (((boundR l).1).Hi).X from by rw [← bound_no b8])) (lc (congrArg (AV.int .i64) (show (0 : Int) = (((boundR l).1).Hi).Y from by rw [← bound_no b8])) (lc (congrArg (AV.int .i64) (show (0 : Int) = (((boundR l).1).Hi).Z from by rw [← bound_no b8])) rfl))))))) (lc (congrArg AV.bool (show (false : Bool) = (boundR l).2 from by rw [← bound_no b8])) rfl))
 refine cf_ rfl (decide_eq_false b8) ?_
 refine AWP.skip ?_
 refine AWP.seq ?_
 refine AWP.freshN fun b14 hb15 => ?_
 obtain ⟨i16, e17⟩ : ∃ x, x = b14 + 0 := ⟨_, rfl⟩
 have n18 := hb15 0; rw [← e17] at n18
 refine AWP.region_strA mixed (by kernel_rfl) [(7, i16, .row 0 ([J 0, J 0, J 0, J 0, J 0, J 0]))] [0, 1, 2, 3, 4, 5, 6, 7] [] [8] (by kernel_rfl) (by kernel_rfl) ⟨n18, trivial, trivial⟩ ?_
 have e19 := ne_new h4 n18
 have z20 := Mono.free m7 n18
 refine STRN.op rfl rfl rfl (.inl ⟨rfl, fun H1 f' H' hf hN hM => Mv _ rfl ((hf 0 rfl).trans rfl) ⟨rfl, hN⟩⟩) ?_
 refine STRN.op rfl rfl rfl (.inl ⟨rfl, fun H1 f' H' hf hN hM => iS_ rfl ((hf 10 rfl).trans rfl) rfl sl_34 (by omega) (by omega) ⟨rfl, hN⟩⟩) ?_
 refine STRN.op rfl rfl rfl (.inl ⟨rfl, fun H1 f' H' hf hN hM => Lf _ rfl ((hf 11 rfl).trans rfl) ty_23 (ldM eV_len (by omega) (by omega)) ⟨rfl, hN⟩⟩) ?_
 refine STRN.op rfl rfl rfl (.inl ⟨rfl, fun H1 f' H' hf hN hM => Mv _ rfl ((hf 0 rfl).trans rfl) ⟨rfl, hN⟩⟩) ?_
 refine STRN.op rfl rfl rfl (.inl ⟨rfl, fun H1 f' H' hf hN hM => iS_ rfl ((hf 13 rfl).trans rfl) rfl sl_34 (by omega) (by omega) ⟨rfl, hN⟩⟩) ?_
 refine STRN.op rfl rfl rfl (.inl ⟨rfl, fun H1 f' H' hf hN hM => Lf _ rfl ((hf 14 rfl).trans rfl) ty_23 (ldM eV_len (by omega) (by omega)) ⟨rfl, hN⟩⟩) ?_
 refine STRN.op rfl rfl rfl (.inl ⟨rfl, fun H1 f' H' hf hN hM => Bl (cells := [J ((at_ l 0).X), J ((at_ l 0).Y), J ((at_ l 0).Z), J ((at_ l 0).X), J ((at_ l 0).Y), J ((at_ l 0).Z)]) rfl tz_43 pl_43 (lconsP ((hf 12 rfl).trans rfl) (lconsP ((hf 15 rfl).trans rfl) rfl)) rfl ⟨rfl, hN⟩⟩) ?_
 refine STRN.alloc (id := i16) (Z := [J 0, J 0, J 0, J 0, J 0, J 0]) (.head _) rfl rfl rfl rfl rfl tz_43 ?_
 refine STRN.done fun H21 m22 hu23 => ?_
 have h24 := m22 _ _ h4
 have m25 := m7.trans m22
 have h26 : H21 i16 = some (.row 0 ([J 0, J 0, J 0, J 0, J 0, J 0])) := hu23 _ (.head _)
 refine STR.done fun H27 m28 => ?_
 have h29 := m28 _ _ h24
 have h30 := m28 _ _ h26
 have m31 := m25.trans m28
 refine C rfl (Sw rfl rfl ts_43 h30 rfl rfl rfl ?_)
 intro H32 h33 k34
 have h35 := keep k34 e19 h29
 have m37 := Mono.set m31 z20 k34
 refine AWP.seq ?_
 refine Sr ?_
 refine A rfl rfl ?_
 refine bk_ ?_
 refine AWP.loop (fun q38 fq Hq => ∃ (i : Int), q38 = (((l.length : Int) : Int) - i).toNat ∧ fq 5 = J i ∧ fq 0 = .sl l.length (l.flatMap eV) ∧ fq 2 = .ptr i1 0 0 ∧ fq 3 = .bool false ∧ fq 4 = .ptr i16 0 0 ∧ Hq i1 = some (.row 0 ([J 0, J 0, J 0, J 0, J 0, J 0])) ∧ Hq i16 = some (.row 0 ([J (((boxL (l.take i.toNat) (Zref02_Bound_0 l)).Lo).X), J (((boxL (l.take i.toNat) (Zref02_Bound_0 l)).Lo).Y), J (((boxL (l.take i.toNat) (Zref02_Bound_0 l)).Lo).Z), J (((boxL (l.take i.toNat) (Zref02_Bound_0 l)).Hi).X), J (((boxL (l.take i.toNat) (Zref02_Bound_0 l)).Hi).Y), J (((boxL (l.take i.toNat) (Zref02_Bound_0 l)).Hi).Z)])) ∧ Mono H0 Hq ∧ (0 ≤ i) ∧ (i ≤ (l.length : Int))) (k := (((l.length : Int) : Int) - 0).toNat) ?_ ?_
 exact ⟨0, rfl, rfl, rfl, rfl, rfl, rfl, h35, (h33.trans (congrArg (fun c => some (AB.row 0 c)) (show ([J ((at_ l 0).X), J ((at_ l 0).Y), J ((at_ l 0).Z), J ((at_ l 0).X), J ((at_ l 0).Y), J ((at_ l 0).Z)] : List AV) = [J (((boxL (l.take (0 : Int).toNat) (Zref02_Bound_0 l)).Lo).X), J (((boxL (l.take (0 : Int).toNat) (Zref02_Bound_0 l)).Lo).Y), J (((boxL (l.take (0 : Int).toNat) (Zref02_Bound_0 l)).Lo).Z), J (((boxL (l.take (0 : Int).toNat) (Zref02_Bound_0 l)).Hi).X), J (((boxL (l.take (0 : Int).toNat) (Zref02_Bound_0 l)).Hi).Y), J (((boxL (l.take (0 : Int).toNat) (Zref02_Bound_0 l)).Hi).Z)] from by first | rfl | (rw [boxL_step (l := l) (i := i) hi0 (by omega)]; rfl)))), m37, by omega, by omega⟩
 rintro _ f40 H39 ⟨i, rfl, s41, s42, s43, s44, s45, h46, h47, m48, hi0, hi1⟩
 refine AWP.seq ?_
 refine Sr ?_
 refine V rfl s41 (V rfl s42 (C rfl (AOp.len (m := l.length) rfl rfl (.inr (.inl ⟨_, rfl⟩)) u_34 (B rfl rfl rfl rfl ?_))))
 refine AOps.nil ?_
 change AWP _ _ _ _ _ _
 by_cases b49 : i < (l.length : Int)
 refine ct_ rfl (decide_eq_true b49) ?_
 refine AWP.skip ?_
 refine AWP.seq ?_
 refine bk_ ?_
 refine AWP.region_quiet mixed (by kernel_rfl) 11 [11] rfl (by kernel_rfl) (Mono H39) (Mono.refl _) ?_
 refine Q rfl (fun _ _ φ ψ => Ld _ rfl ((φ 4 rfl).trans s45) ty_43 (ψ _ _ h47) rfl ⟨rfl, ψ⟩) (QV rfl s42 (QV rfl s41 (Q rfl (fun _ _ φ ψ => iS_ rfl (φ 24 rfl) (φ 25 rfl) sl_34 (by omega) (by omega) ⟨rfl, ψ⟩) (QL rfl rfl ty_23 (ldM eV_len (by omega) (by omega)) (QV rfl s42 (QV rfl s41 (Q rfl (fun _ _ φ ψ => iS_ rfl (φ 28 rfl) (φ 29 rfl) sl_34 (by omega) (by omega) ⟨rfl, ψ⟩) (QL rfl rfl ty_23 (ldM eV_len (by omega) (by omega)) (Q rfl (fun _ _ φ ψ => Bl (cells := [J ((at_ l i).X), J ((at_ l i).Y), J ((at_ l i).Z), J ((at_ l i).X), J ((at_ l i).Y), J ((at_ l i).Z)]) rfl tz_43 pl_43 (lconsP (φ 27 rfl) (lconsP (φ 31 rfl) rfl)) rfl ⟨rfl, ψ⟩) (Q rfl (fun _ _ φ ψ => Pc («as» := [.agg [J (((boxL (l.take i.toNat) (Zref02_Bound_0 l)).Lo).X), J (((boxL (l.take i.toNat) (Zref02_Bound_0 l)).Lo).Y), J (((boxL (l.take i.toNat) (Zref02_Bound_0 l)).Lo).Z), J (((boxL (l.take i.toNat) (Zref02_Bound_0 l)).Hi).X), J (((boxL (l.take i.toNat) (Zref02_Bound_0 l)).Hi).Y), J (((boxL (l.take i.toNat) (Zref02_Bound_0 l)).Hi).Z)], .agg [J ((at_ l i).X), J ((at_ l i).Y), J ((at_ l i).Z), J ((at_ l i).X), J ((at_ l i).Y), J ((at_ l i).Z)]]) rfl rfl (lapp (lcons (φ 23 rfl) (lcons (φ 32 rfl) rfl)) rfl) tf_77 (c_ref02_Join (boxL (l.take i.toNat) (Zref02_Bound_0 l)) (BoxT.mk (at_ l i) (at_ l i))) fun H2 m2 => ⟨rfl, ψ.trans m2⟩) ?_))))))))))
 refine QE.done fun H50 m51 => ?_
 have h52 := m51 _ _ h46
 have h53 := m51 _ _ h47
 have m54 := m48.trans m51
 refine C rfl (Sw s45 rfl ts_43 h53 rfl rfl rfl ?_)
 intro H55 h56 k57
 have h58 := keep k57 e19 h52
 have m60 := Mono.set m54 z20 k57
 refine AWP.region rfl ?_
 refine V rfl s41 (B rfl rfl rfl (iadd (by omega)) (A rfl rfl ?_))
 refine AOps.nil ?_
 exact ⟨_, by omega, i + 1, rfl, rfl, s42, s43, s44, s45, h58, (h56.trans (congrArg (fun c => some (AB.row 0 c)) (show ([J (((R_ref02_Join (boxL (l.take i.toNat) (Zref02_Bound_0 l)) (BoxT.mk (at_ l i) (at_ l i))).Lo).X), J (((R_ref02_Join (boxL (l.take i.toNat) (Zref02_Bound_0 l)) (BoxT.mk (at_ l i) (at_ l i))).Lo).Y), J (((R_ref02_Join (boxL (l.take i.toNat) (Zref02_Bound_0 l)) (BoxT.mk (at_ l i) (at_ l i))).Lo).Z), J (((R_ref02_Join (boxL (l.take i.toNat) (Zref02_Bound_0 l)) (BoxT.mk (at_ l i) (at_ l i))).Hi).X), J (((R_ref02_Join (boxL (l.take i.toNat) (Zref02_Bound_0 l)) (BoxT.mk (at_ l i) (at_ l i))).Hi).Y), J (((R_ref02_Join (boxL (l.take i.toNat) (Zref02_Bound_0 l)) (BoxT.mk (at_ l i) (at_ l i))).Hi).Z)] : List AV) = [J (((boxL (l.take (i + 1).toNat) (Zref02_Bound_0 l)).Lo).X), J (((boxL (l.take (i + 1).toNat) (Zref02_Bound_0 l)).Lo).Y), J (((boxL (l.take (i + 1).toNat) (Zref02_Bound_0 l)).Lo).Z), J (((boxL (l.take (i + 1).toNat) (Zref02_Bound_0 l)).Hi).X), J (((boxL (l.take (i + 1).toNat) (Zref02_Bound_0 l)).Hi).Y), J (((boxL (l.take (i + 1).toNat) (Zref02_Bound_0 l)).Hi).Z)] from by first | rfl | (rw [boxL_step (l := l) (i := i) hi0 (by omega)]; rfl)))), m60, by omega, by omega⟩
 refine cf_ rfl (decide_eq_false b49) ?_
 refine AWP.exit ?_
 change AWP _ _ _ _ _ _
 refine Sr ?_
 refine C rfl (Ld _ rfl s45 ty_43 h47 rfl (C rfl (Sw s43 rfl ts_43 h46 rfl rfl rfl ?_)))
 intro H61 h62 k63
 have m66 := Mono.set m48 z6 k63
 refine A rfl rfl ?_
 refine rt_ ?_
 refine Rr (Res.list rfl rfl (.cell (v := .agg [J (((boxL (l.take i.toNat) (Zref02_Bound_0 l)).Lo).X), J (((boxL (l.take i.toNat) (Zref02_Bound_0 l)).Lo).Y), J (((boxL (l.take i.toNat) (Zref02_Bound_0 l)).Lo).Z), J (((boxL (l.take i.toNat) (Zref02_Bound_0 l)).Hi).X), J (((boxL (l.take i.toNat) (Zref02_Bound_0 l)).Hi).Y), J (((boxL (l.take i.toNat) (Zref02_Bound_0 l)).Hi).Z)]) s43 ty_43 h62 rfl (.tmp rfl (.nil)))) ?_ m66
 exact congrArg AV.tup (lc (congrArg AV.agg (lc (congrArg (AV.int .i64) (show (((boxL (l.take i.toNat) (Zref02_Bound_0 l)).Lo).X : Int) = (((boundR l).1).Lo).X from by rw [← bound_all (i := i) b8 (by omega)])) (lc (congrArg (AV.int .i64) (show (((boxL (l.take i.toNat) (Zref02_Bound_0 l)).Lo).Y : Int) = (((boundR l).1).Lo).Y from by rw [← bound_all (i := i) b8 (by omega)])) (lc (congrArg (AV.int .i64) (show (((boxL (l.take i.toNat) (Zref02_Bound_0 l)).Lo).Z : Int) = (((boundR l).1).Lo).Z from by rw [← bound_all (i := i) b8 (by omega)])) (lc (congrArg (AV.int .i64) (show (((boxL (l.take i.toNat) (Zref02_Bound_0 l)).Hi).X : Int) = (((boundR l).1).Hi).X from by rw [← bound_all (i := i) b8 (by omega)])) (lc (congrArg (AV.int .i64) (show (((boxL (l.take i.toNat) (Zref02_Bound_0 l)).Hi).Y : Int) = (((boundR l).1).Hi).Y from by rw [← bound_all (i := i) b8 (by omega)])) (lc (congrArg (AV.int .i64) (show (((boxL (l.take i.toNat) (Zref02_Bound_0 l)).Hi).Z : Int) = (((boundR l).1).Hi).Z from by rw [← bound_all (i := i) b8 (by omega)])) rfl))))))) (lc (congrArg AV.bool (show (true : Bool) = (boundR l).2 from by rw [← bound_all (i := i) b8 (by omega)])) rfl))
end Go.Proofs.M
namespace Go.Proofs.M
open Go Go.AH
theorem pre_step {α : Type} [Inhabited α] {a b : List α} {i : Int} (h : ∀ j : Int, 0 ≤ j → j < i → at_ a j = at_ b j) (hi : at_ a i = at_ b i) : ∀ j : Int, 0 ≤ j → j < i + 1 → at_ a j = at_ b j := by
  intro j h1 h2
  by_cases e : j = i
  · subst e; exact hi
  · exact h j h1 (by omega)
theorem ext_at {α : Type} [Inhabited α] {a b : List α} (hl : a.length = b.length) (h : ∀ j : Int, 0 ≤ j → j < a.length → at_ a j = at_ b j) : a = b := by
  apply List.ext_getElem hl
  intro j h1 h2
  have := h j (by omega) (by omega)
  simpa [at_, h1, h2] using this
theorem min3L (a b c : Int) : minL [a, b, c] = min (min a b) c := by
  show min (min (min a a) b) c = _
  rw [Int.min_self]
theorem max3L (a b c : Int) : maxL [a, b, c] = max (max a b) c := by
  show max (max (max a a) b) c = _
  rw [Int.max_self]
theorem way_same (p : List VT) : R_ref12_Length p = R_rate_Length p := by
  have e : ∀ v w : VT, R_rate_way (R_vec_Sub v w) = R_ref12_size (v.X - w.X) + R_ref12_size (v.Y - w.Y) + R_ref12_size (v.Z - w.Z) := fun v w => by
    have m : ∀ n : Int, R_ref12_size n = max n (-n) := fun n => by unfold R_ref12_size; split <;> omega
    unfold R_rate_way R_vec_Sub
    rw [m, m, m]
  have z : ∀ v : VT, R_rate_way (R_vec_Sub v v) = 0 := fun v => by
    rw [e]; simp [R_ref12_size]
  unfold R_ref12_Length R_rate_Length
  simp only [within_same, z, e]
  (repeat' split) <;> first | rfl | (simp only [Prod.mk.injEq, and_true]; omega)
theorem edge_same (p : List VT) (u : Int) : R_ref12_Edge p u = R_rate_Edge p u := by
  unfold R_ref12_Edge R_rate_Edge
  rw [way_same]
theorem sides_same (p : List VT) (u : Int) : R_ref12_Sides p u = R_rate_Sides p u := by
  unfold R_ref12_Sides R_rate_Sides
  simp only [row_same, edge_same]
theorem bound_in {l : List VT} {B : Int} (h : ∀ i : Int, 0 ≤ i → i < l.length → inV B (at_ l i)) (hl : 1 ≤ l.length) : inV B (boundR l).1.Lo ∧ inV B (boundR l).1.Hi := by
  have key : ∀ (l : List VT) (b : BoxT), inV B b.Lo → inV B b.Hi → (∀ v ∈ l, inV B v) → inV B (boxL l b).Lo ∧ inV B (boxL l b).Hi := by
    intro l
    induction l with
    | nil => intro b h1 h2 _; exact ⟨h1, h2⟩
    | cons a l ih =>
      intro b h1 h2 h3
      unfold boxL
      rw [List.foldl_cons]
      have ha := h3 a (.head _)
      refine ih _ ?_ ?_ fun v hv => h3 v (.tail _ hv)
      · obtain ⟨a1, a2, a3, a4, a5, a6⟩ := ha; obtain ⟨b1, b2, b3, b4, b5, b6⟩ := h1
        simp only [R_vec_Join, inV]; omega
      · obtain ⟨a1, a2, a3, a4, a5, a6⟩ := ha; obtain ⟨b1, b2, b3, b4, b5, b6⟩ := h2
        simp only [R_vec_Join, inV]; omega
  unfold boundR
  rw [if_neg (by omega)]
  have h0 := h 0 (by omega) (by omega)
  refine key l _ h0 h0 fun v hv => ?_
  obtain ⟨i, i0, i1, rfl⟩ := mem_at hv
  exact h i i0 i1
def ranM (m : MeshT) : Prop := (∀ v ∈ m.Verts, ranV v) ∧ (∀ k ∈ m.Keys, ranK k) ∧ ∀ t ∈ m.Tris, ranI3 t
end Go.Proofs.M
