/- A part of the proof that a law answers true for every input of its row: own work, by an AI agent. -/
import Derived.Test.YtfeafldgohceaaaB01
import Derived.Test.YtfeafldgohceaaaB05
set_option linter.unusedSimpArgs false
set_option linter.unusedVariables false
set_option linter.defProp false
namespace Go.Proofs.U
open Go Go.AH Go.Proofs.T
set_option maxRecDepth 4000
set_option linter.unusedSimpArgs false
set_option linter.unusedVariables false
set_option maxHeartbeats 4000000
theorem c_close (x n d : Int) (h : closeZ x n d) (hx : -2305843009213693952 ≤ x * d ∧ x * d ≤ 2305843009213693952) (hn : -2305843009213693952 ≤ n ∧ n ≤ 2305843009213693952) (hd : 0 ≤ d ∧ d ≤ 1000) : PC Try.prog 32 [.int .i64 x, .int .i64 n, .int .i64 d] (.bool true) := by
 intro H0
 refine ACalls.of_body' (n := 25) rfl rfl rfl rfl ?_
 have m0 := Mono.refl H0
 refine Sr ?_
 refine A rfl rfl ?_
 refine Sr ?_
 refine V rfl rfl (V rfl rfl (B rfl rfl rfl (imul (by omega)) (V rfl rfl (B rfl rfl rfl (isub (by omega)) (V rfl rfl (B rfl rfl rfl (imul (by omega)) (B rfl rfl rfl rfl (V rfl rfl (Y rfl rfl rfl (decide_eq_true (h.1)) (Mv _ rfl rfl (Y rfl rfl rfl (decide_eq_true (h.1)) (Mv _ rfl rfl (Y rfl rfl rfl (decide_eq_true (h.1)) (Mv _ rfl rfl (Y rfl rfl rfl (decide_eq_true (h.1)) (Bi _ rfl rfl rfl (imul (by omega)) (Y rfl rfl rfl (decide_eq_true (h.1)) (Bi _ rfl rfl rfl (isub (by omega)) (Y rfl rfl rfl (decide_eq_true (h.1)) (Mv _ rfl rfl (Y rfl rfl rfl (decide_eq_true (h.1)) (Bi _ rfl rfl rfl (imul (by omega)) (Y rfl rfl rfl (decide_eq_true (h.1)) (Bi _ rfl rfl rfl rfl (C rfl (Pt _ rfl rfl (decide_eq_true (h.1)) rfl ?_))))))))))))))))))))))))))
 refine A rfl rfl ?_
 refine rt_ ?_
 refine Rr (Res.one rfl rfl) ?_ m0
 exact (congrArg AV.bool (show (decide (n - (x * d) ≤ 2 * d) : Bool) = true from by first | rfl | exact decide_eq_true h.2))
theorem c_PatchSpline (ls : List VT) (hll : ls.length ≤ 1048576) : PC Try.prog 10 [.sl ls.length (ls.flatMap eV)] (.bool true) := by
 intro H0
 refine ACalls.of_body' (n := 161) rfl rfl rfl rfl ?_
 have m0 := Mono.refl H0
 refine Sr ?_
 refine A rfl rfl ?_
 refine AWP.seq ?_
 refine Sr ?_
 refine C rfl (Pc («as» := []) rfl rfl (rfl) tf_28 (c_palive) ?_)
 intro H1 m2
 have m3 := m0.trans m2
 refine C rfl (AOp.not rfl rfl ?_)
 refine cf_ rfl rfl ?_
 refine AWP.skip ?_
 refine AWP.seq ?_
 refine Sr ?_
 refine V rfl rfl (C rfl (AOp.len (m := ls.length) rfl rfl (.inr (.inl ⟨_, rfl⟩)) u_22 (B rfl rfl rfl rfl ?_)))
 refine AOps.nil ?_
 change AWP _ _ _ _ _ _
 by_cases b4 : (ls.length : Int) < 16
 refine ct_ rfl (decide_eq_true b4) ?_
 refine Sr ?_
 refine A rfl rfl ?_
 refine rt_ ?_
 refine Rr (Res.one rfl rfl) ?_ m3
 exact rfl
 refine cf_ rfl (decide_eq_false b4) ?_
 refine AWP.skip ?_
 refine Sr ?_
 refine C rfl (Bl (cells := [.snil, .snil, .snil]) rfl tz_26 pl_26 rfl rfl (C rfl (al_ rfl tz_26 ?_)))
 intro i5 H6 n7 h8 k9
 have z10 := Mono.free m3 n7
 have m11 := Mono.new m3 n7 k9
 refine C rfl (Sw rfl rfl ts_26 h8 rfl rfl rfl ?_)
 intro H12 h13 k14
 have m16 := Mono.set m11 z10 k14
 refine AWP.seq ?_
 refine Sr ?_
 refine A rfl rfl ?_
 refine bk_ ?_
 refine AWP.loop (fun q17 fq Hq => ∃ (m : Int) (w3_0 : AV), q17 = ((16 : Int) - m).toNat ∧ fq 4 = .int .i64 m ∧ fq 0 = .sl ls.length (ls.flatMap eV) ∧ fq 3 = .ptr i5 0 0 ∧ Own H0 Hq 3 w3_0 ((ls.take m.toNat)).length (((ls.take m.toNat)).flatMap eV) ∧ NotId w3_0 i5 ∧ Hq i5 = some (.row 0 ([w3_0, .snil, .snil])) ∧ Mono H0 Hq ∧ (0 ≤ m) ∧ (m ≤ 16) ∧ (∀ k : Int, 0 ≤ k → k < m → inV 16384 (at_ ls k))) (k := ((16 : Int) - 0).toNat) ?_ ?_
 exact ⟨0, .snil, rfl, rfl, rfl, rfl, Own.nil _ _ _, (NotId.nil _), h13, m16, by omega, by omega, by intro k; omega⟩
 rintro _ f19 H18 ⟨m, w3_0, rfl, s20, s21, s22, o23, no24, h25, m26, hm0, hm1, hq⟩
 refine AWP.seq ?_
 refine Sr ?_
 refine V rfl s20 (B rfl rfl rfl rfl ?_)
 refine AOps.nil ?_
 change AWP _ _ _ _ _ _
 by_cases b27 : m < 16
 refine ct_ rfl (decide_eq_true b27) ?_
 refine AWP.skip ?_
 refine AWP.seq ?_
 refine bk_ ?_
 refine AWP.seq ?_
 refine Sr ?_
 refine V rfl s21 (V rfl s20 (C rfl (iS_ rfl rfl rfl sl_22 (by omega) (by omega) (L rfl rfl ty_42 (ldM eV_len (by omega) (by omega)) (C rfl (Pc («as» := [.agg (eV (at_ ls m)), .int .i64 16384]) rfl rfl (rfl) tf_21 (c_vWithin (at_ ls m) 16384 (by omega)) ?_))))))
 intro H28 m29
 have h30 := m29 _ _ h25
 have o31 := Own.mono o23 m29
 have m32 := m26.trans m29
 refine C rfl (AOp.not rfl rfl ?_)
 refine AOps.nil ?_
 change AWP _ _ _ _ _ _
 by_cases b33 : inV 16384 (at_ ls m)
 refine cf_ rfl (nb (decide_eq_true b33)) ?_
 refine AWP.skip ?_
 change AWP _ _ _ _ _ _
 have htl : (ls.take m.toNat).length ≤ ls.length := by rw [List.length_take]; omega
 refine AWP.region_str mixed (by kernel_rfl) [(0, none), (1, none), (2, none), (3, none), (4, none), (5, none), (6, some [0, 1])] [7, 8, 9] (by kernel_rfl) ?_
 refine STR.op rfl rfl (.inl ⟨rfl, fun H1 f' H' hf hN hM => Fa rfl ((hf 3 rfl).trans s22) fl_26_0 ⟨rfl, hN⟩ (hid := ⟨_, (hM _ _ h30)⟩)⟩) ?_
 refine STR.op rfl rfl (.inl ⟨rfl, fun H1 f' H' hf hN hM => Ld _ rfl ((hf 32 rfl).trans rfl) ty_22 (hM _ _ h30) rfl ⟨rfl, hN⟩⟩) ?_
 refine STR.op rfl rfl (.inl ⟨rfl, fun H1 f' H' hf hN hM => Mv _ rfl ((hf 0 rfl).trans s21) ⟨rfl, hN⟩⟩) ?_
 refine STR.op rfl rfl (.inl ⟨rfl, fun H1 f' H' hf hN hM => Mv _ rfl ((hf 4 rfl).trans s20) ⟨rfl, hN⟩⟩) ?_
 refine STR.op rfl rfl (.inl ⟨rfl, fun H1 f' H' hf hN hM => iS_ rfl ((hf 34 rfl).trans rfl) ((hf 35 rfl).trans rfl) sl_22 (by omega) (by omega) ⟨rfl, hN⟩⟩) ?_
 refine STR.op rfl rfl (.inl ⟨rfl, fun H1 f' H' hf hN hM => Lf _ rfl ((hf 36 rfl).trans rfl) ty_42 (ldM eV_len (by omega) (by omega)) ⟨rfl, hN⟩⟩) ?_
 refine STR.eff rfl rfl rfl fun f34 H35 hf36 m37 => ?_
 have h38 := m37 _ _ h30
 have o39 := Own.mono o31 m37
 have m40 := m32.trans m37
 refine AOp.buildSlice (cells := (eV (at_ ls m))) rfl u_22 ts_42 tz_42 rfl (lconsP ((hf36 37 rfl).trans rfl) rfl) rfl ?_
 intro i41 H42 n43 h44 k45
 have h48 := keep k45 (ne_new h38 n43) h38
 have o49 := Own.keep o39 k45 (Own.notnew o39 n43)
 have m51 := Mono.new m40 n43 k45
 refine ⟨_, rfl, .inl (Mono.new (Mono.refl _) n43 k45), ?_⟩
 refine STR.done fun H52 m53 => ?_
 have h54 := m53 _ _ h48
 have h55 := m53 _ _ h44
 have o56 := Own.mono o49 m53
 have m57 := m51.trans m53
 refine C rfl (AOp.append_own (es := 3) (m := 1) (len := (((ls.take m.toNat)).length)) (old := ((ls.take m.toNat)).flatMap eV) (cells := (eV (at_ ls m))) rfl u_22 ts_42 tzn_42 tb_42 (by decide) ni_22 rfl o56 m57 rfl (.slm h55 rfl) (one_of rfl) (by decide) (by first | omega | (simp only [List.length_append, List.length_cons, List.length_nil]; omega)) ?_)
 intro v58 H59 o60 m61 k62 j63
 have o64 := Own.snocM (xs := (((ls.take m.toNat)) : List VT)) (y := (at_ ls m)) (e := eV) (by simp) o60
 have h65 := (k62 _ no24 (by rw [h54]; simp)).trans h54
 have no66 := j63 _ no24 (by rw [h54]; simp)
 refine C rfl (Fa rfl s22 fl_26_0 ?_ (hid := ⟨_, h65⟩))
 refine C rfl (AOp.storeO (cells' := [v58, .snil, .snil]) rfl rfl o64 ts_22 h65 rfl rfl ?_)
 intro H67 h68 k69
 have o71 := Own.keep o64 k69 no66
 have m72 := Mono.set m61 z10 k69
 refine AWP.region rfl ?_
 refine V rfl s20 (B rfl rfl rfl (iadd (by omega)) (A rfl rfl ?_))
 refine AOps.nil ?_
 exact ⟨_, by omega, m + 1, v58, rfl, rfl, s21, s22, (have hx : ((((ls.take m.toNat)) ++ [(at_ ls m)]) : List VT) = (ls.take (m + 1).toNat) := (by rw [take_step hm0 (by omega)]); Own.re o71 (congrArg List.length hx) (congrArg (fun l : List VT => l.flatMap eV) hx)), no66, h68, m72, by omega, by omega, by exact fun k k0 k1 => if e : k = m then e ▸ b33 else hq k k0 (by omega)⟩
 refine ct_ rfl (nb (decide_eq_false b33)) ?_
 refine Sr ?_
 refine A rfl rfl ?_
 refine rt_ ?_
 refine Rr (Res.one rfl rfl) ?_ m32
 exact rfl
 refine cf_ rfl (decide_eq_false b27) ?_
 refine AWP.exit ?_
 change AWP _ _ _ _ _ _
 refine AWP.seq ?_
 refine Sr ?_
 refine A rfl rfl ?_
 refine bk_ ?_
 refine AWP.loop (fun q73 fq Hq => ∃ (r : Int) (w3_1 : AV), q73 = ((3 : Int) - r).toNat ∧ fq 5 = .int .i64 r ∧ fq 3 = .ptr i5 0 0 ∧ Own H0 Hq 1 w3_1 ((FS9.take (3 * r).toNat)).length (((FS9.take (3 * r).toNat)).map eF) ∧ Own H0 Hq 3 w3_0 (((ls.take m.toNat)).length) (((ls.take m.toNat)).flatMap eV) ∧ NotId w3_1 i5 ∧ NotId w3_0 i5 ∧ Sep w3_1 w3_0 ∧ Hq i5 = some (.row 0 ([w3_0, w3_1, .snil])) ∧ Mono H0 Hq ∧ (0 ≤ r) ∧ (r ≤ 3)) (k := ((3 : Int) - 0).toNat) ?_ ?_
 exact ⟨0, .snil, rfl, rfl, s22, Own.nil _ _ _, o23, (NotId.nil _), no24, (Sep.nilL _), h25, m26, by omega, by omega⟩
 rintro _ f75 H74 ⟨r, w3_1, rfl, s76, s77, o78, o79, no80, no81, sp82, h83, m84, hr0, hr1⟩
 refine AWP.seq ?_
 refine Sr ?_
 refine V rfl s76 (B rfl rfl rfl rfl ?_)
 refine AOps.nil ?_
 change AWP _ _ _ _ _ _
 by_cases b85 : r < 3
 refine ct_ rfl (decide_eq_true b85) ?_
 refine AWP.skip ?_
 refine AWP.seq ?_
 refine bk_ ?_
 refine Sr ?_
 refine A rfl rfl ?_
 refine bk_ ?_
 refine AWP.loop (fun q86 fq Hq => ∃ (s : Int) (w3_1 : AV), q86 = ((3 : Int) - s).toNat ∧ fq 6 = .int .i64 s ∧ fq 5 = .int .i64 r ∧ fq 3 = .ptr i5 0 0 ∧ Own H0 Hq 1 w3_1 ((FS9.take (3 * r + s).toNat)).length (((FS9.take (3 * r + s).toNat)).map eF) ∧ Own H0 Hq 3 w3_0 (((ls.take m.toNat)).length) (((ls.take m.toNat)).flatMap eV) ∧ NotId w3_1 i5 ∧ NotId w3_0 i5 ∧ Sep w3_1 w3_0 ∧ Hq i5 = some (.row 0 ([w3_0, w3_1, .snil])) ∧ Mono H0 Hq ∧ (0 ≤ s) ∧ (s ≤ 3)) (k := ((3 : Int) - 0).toNat) ?_ ?_
 exact ⟨0, w3_1, rfl, rfl, s76, s77, (have hx : (((FS9.take (3 * r).toNat)) : List (List Int)) = (FS9.take (3 * r + 0).toNat) := (by congr 1; omega); Own.re o78 (congrArg List.length hx) (congrArg (fun l : List (List Int) => l.map eF) hx)), o79, no80, no81, sp82, h83, m84, by omega, by omega⟩
 rintro _ f88 H87 ⟨s, w3_1, rfl, s89, s90, s91, o92, o93, no94, no95, sp96, h97, m98, hs0, hs1⟩
 refine AWP.seq ?_
 refine Sr ?_
 refine V rfl s89 (B rfl rfl rfl rfl ?_)
 refine AOps.nil ?_
 change AWP _ _ _ _ _ _
 by_cases b99 : s < 3
 refine ct_ rfl (decide_eq_true b99) ?_
 refine AWP.skip ?_
 refine AWP.seq ?_
 refine bk_ ?_
 have hfl9 : (FS9.take (3 * r + s).toNat).length ≤ 9 := by rw [List.length_take]; omega
 refine AWP.region rfl ?_
 refine C rfl (Fa rfl s91 fl_26_1 ?_ (hid := ⟨_, h97⟩))
 refine C rfl (Ld _ rfl rfl ty_23 h97 rfl (V rfl s90 (B rfl rfl rfl (imul (by omega)) (V rfl s89 (B rfl rfl rfl (iadd (by omega)) (V rfl s90 (B rfl rfl rfl (imul (by omega)) (V rfl s89 (B rfl rfl rfl (iadd (by omega)) (B rfl rfl rfl (iadd (by omega)) (V rfl s90 (B rfl rfl rfl (imul (by omega)) (V rfl s89 (B rfl rfl rfl (iadd (by omega)) (B rfl rfl rfl (iadd (by omega)) (V rfl s90 (B rfl rfl rfl (imul (by omega)) (V rfl s89 ?_))))))))))))))))))
 refine B rfl rfl rfl (iadd (by omega)) (B rfl rfl rfl (iadd (by omega)) (C rfl (AOp.buildSlice (cells := [.int .i64 (4 * r + s), .int .i64 (4 * r + s + 1), .int .i64 (4 * r + s + 5), .int .i64 (4 * r + s + 4)]) rfl u_38 ts_3 tz_3 rfl rfl rfl ?_)))
 intro i100 H101 n102 h103 k104
 have e105 := ne_new h97 n102
 have z106 := Mono.free m98 n102
 have h107 := keep k104 (ne_new h97 n102) h97
 have o108 := Own.keep o92 k104 (Own.notnew o92 n102)
 have no109 := Own.notnew o92 n102
 have o110 := Own.keep o93 k104 (Own.notnew o93 n102)
 have no111 := Own.notnew o93 n102
 have m112 := Mono.new m98 n102 k104
 obtain ⟨v113, e114⟩ : ∃ v : AV, v = .slm i100 0 1 0 4 := ⟨_, rfl⟩
 have o115 : Own H0 H101 1 v113 4 [.int .i64 (4 * r + s), .int .i64 (4 * r + s + 1), .int .i64 (4 * r + s + 5), .int .i64 (4 * r + s + 4)] := .inr ⟨_, _, e114, h103, z106, rfl⟩
 have no116 : NotId v113 i5 := by rw [e114]; exact NotId.slm e105
 have sp117 : Sep v113 w3_1 := by rw [e114]; exact Sep.ofNotId no109
 have sp118 : Sep v113 w3_0 := by rw [e114]; exact Sep.ofNotId no111
 refine C rfl ?_
 refine AOp.frz 70 (o115) e114.symm m112 fun H119 m120 k121 => ?_
 have h122 := (k121 _ no116).trans h107
 have o123 := Own.stay o108 (Sep.symm sp117) (fun i hi _ => k121 i hi)
 have o124 := Own.stay o110 (Sep.symm sp118) (fun i hi _ => k121 i hi)
 refine AOp.buildSlice (cells := [.sl ([4 * r + s, 4 * r + s + 1, 4 * r + s + 5, 4 * r + s + 4] : List Int).length (([4 * r + s, 4 * r + s + 1, 4 * r + s + 5, 4 * r + s + 4] : List Int).map eI)]) rfl u_23 ts_38 tz_38 rfl rfl rfl ?_
 intro i125 H126 n127 h128 k129
 have h132 := keep k129 (ne_new h122 n127) h122
 have o133 := Own.keep o123 k129 (Own.notnew o123 n127)
 have o135 := Own.keep o124 k129 (Own.notnew o124 n127)
 have m137 := Mono.new m120 n127 k129
 refine C rfl (AOp.append_own (es := 1) (m := 1) (len := (((FS9.take (3 * r + s).toNat)).length)) (old := ((FS9.take (3 * r + s).toNat)).map eF) (cells := [.sl ([4 * r + s, 4 * r + s + 1, 4 * r + s + 5, 4 * r + s + 4] : List Int).length (([4 * r + s, 4 * r + s + 1, 4 * r + s + 5, 4 * r + s + 4] : List Int).map eI)]) rfl u_23 ts_38 tzn_38 tb_38 (by decide) ni_23 rfl o133 m137 rfl (.slm h128 rfl) (one_of rfl) (by decide) (by first | omega | (simp only [List.length_append, List.length_cons, List.length_nil]; omega)) ?_)
 intro v138 H139 o140 m141 k142 j143
 have o144 := Own.snoc1 (xs := (((FS9.take (3 * r + s).toNat)) : List (List Int))) (y := ([4 * r + s, 4 * r + s + 1, 4 * r + s + 5, 4 * r + s + 4] : List Int)) (e := eF) (by simp) o140
 have h145 := (k142 _ no94 (by rw [h132]; simp)).trans h132
 have no146 := j143 _ no94 (by rw [h132]; simp)
 have sp148 := Own.sep o135 (Sep.symm sp96) j143
 have o147 := Own.stay o135 (Sep.symm sp96) k142
 refine C rfl (Fa rfl s91 fl_26_1 ?_ (hid := ⟨_, h145⟩))
 refine C rfl (AOp.storeO (cells' := [w3_0, v138, .snil]) rfl rfl o144 ts_23 h145 rfl rfl ?_)
 intro H149 h150 k151
 have o153 := Own.keep o147 k151 no95
 have o154 := Own.keep o144 k151 no146
 have m155 := Mono.set m141 z10 k151
 refine AWP.region rfl ?_
 refine V rfl s89 (B rfl rfl rfl (iadd (by omega)) (A rfl rfl ?_))
 refine AOps.nil ?_
 exact ⟨_, by omega, s + 1, v138, rfl, rfl, s90, s91, (have hx : ((((FS9.take (3 * r + s).toNat)) ++ [([4 * r + s, 4 * r + s + 1, 4 * r + s + 5, 4 * r + s + 4] : List Int)]) : List (List Int)) = (FS9.take (3 * r + (s + 1)).toNat) := (by exact fs_step hr0 (by omega) hs0 (by omega)); Own.re o154 (congrArg List.length hx) (congrArg (fun l : List (List Int) => l.map eF) hx)), o153, no146, no95, (Sep.symm sp148), h150, m155, by omega, by omega⟩
 refine cf_ rfl (decide_eq_false b99) ?_
 refine AWP.exit ?_
 change AWP _ _ _ _ _ _
 refine AWP.region rfl ?_
 refine V rfl s90 (B rfl rfl rfl (iadd (by omega)) (A rfl rfl ?_))
 refine AOps.nil ?_
 exact ⟨_, by omega, r + 1, w3_1, rfl, rfl, s91, (have hx : (((FS9.take (3 * r + s).toNat)) : List (List Int)) = (FS9.take (3 * (r + 1)).toNat) := (by congr 1; omega); Own.re o92 (congrArg List.length hx) (congrArg (fun l : List (List Int) => l.map eF) hx)), o93, no94, no95, sp96, h97, m98, by omega, by omega⟩
 refine cf_ rfl (decide_eq_false b85) ?_
 refine AWP.exit ?_
 change AWP _ _ _ _ _ _
 refine AWP.seq ?_
 have hl16 : (ls.take 16).length = 16 := by rw [List.length_take]; omega
 have hv16 : ∀ p ∈ (ls.take 16), inV 16384 p := fun p hp => by obtain ⟨k, k0, k1, rfl⟩ := mem_at hp; rw [show at_ (ls.take 16) k = at_ ls k from take_at (by omega) (by omega)]; exact hq k k0 (by omega)
 have SF := spF hl16 hv16
 have hsl := SF.l
 have hse := SF.e
 have hx156 : ((ls.take m.toNat)) = (ls.take 16) := by rw [show m = 16 by omega]; rfl
 have o157 := Own.re o79 (congrArg List.length hx156) (congrArg (fun l : List VT => l.flatMap eV) hx156)
 have hx158 : ((FS9.take (3 * r).toNat)) = FS9 := by rw [show r = 3 by omega]; rfl
 have o159 := Own.re o78 (congrArg List.length hx158) (congrArg (fun l : List (List Int) => l.map eF) hx158)
 refine AWP.frzCell 0 o157 h83 z10 rfl no81 m84 fun H160 h161 m162 k163 => ?_
 have o164 := Own.stay2 o159 sp82 no80 k163
 have h165 : H160 i5 = some (.row 0 ([.sl (ls.take 16).length ((ls.take 16).flatMap eV), w3_1, .snil])) := h161
 refine AWP.frzCell 1 o164 h165 z10 rfl no80 m162 fun H166 h167 m168 k169 => ?_
 have h170 : H166 i5 = some (.row 0 ([.sl (ls.take 16).length ((ls.take 16).flatMap eV), .sl FS9.length (FS9.map eF), .snil])) := h167
 skip
 refine AWP.region rfl ?_
 refine C rfl (Ld _ rfl s77 ty_26 h170 rfl (C rfl (Pc («as» := [.agg [.sl (ls.take 16).length ((ls.take 16).flatMap eV), .sl FS9.length (FS9.map eF), .snil], .int .i64 0]) rfl rfl (rfl) tf_30 (c_PatchesN (ls.take 16) FS9 SF.mid 0) ?_)))
 intro H171 m172
 have h173 := m172 _ _ h170
 have m174 := m168.trans m172
 refine V rfl rfl (E rfl rfl rfl (E rfl rfl rfl (A rfl rfl (A rfl rfl ?_))))
 refine AWP.seq ?_
 refine Sr ?_
 refine V rfl rfl (B rfl rfl rfl ine (V rfl rfl (Y rfl rfl rfl (nb (decide_eq_true (hse))) (Mv _ rfl rfl (Y rfl rfl rfl (nb (decide_eq_true (hse))) (AOp.len (m := ((patR (ls.take 16) FS9 [] 0).1).length) rfl rfl (.inr (.inl ⟨_, rfl⟩)) u_63 (Y rfl rfl rfl (nb (decide_eq_true (hse))) (Bi _ rfl rfl rfl ine (C rfl (Pf _ rfl rfl (nb (decide_eq_true (hse))) rfl ?_))))))))))
 refine cf_ rfl (nb (decide_eq_true ((by omega)))) ?_
 refine AWP.skip ?_
 refine Sr ?_
 refine C rfl (Bl (cells := [.int .i64 1, .int .i64 4, .int .i64 1, .int .i64 0]) rfl tz_67 pl_67 rfl rfl (C rfl (Bl (cells := [.int .i64 0, .int .i64 4, .int .i64 2, .int .i64 0]) rfl tz_67 pl_67 rfl rfl (C rfl (Bl (cells := [.int .i64 0, .int .i64 2, .int .i64 4, .int .i64 0]) rfl tz_67 pl_67 rfl rfl (C rfl (Bl (cells := [.int .i64 0, .int .i64 1, .int .i64 4, .int .i64 1]) rfl tz_67 pl_67 rfl rfl (C rfl (Bl (cells := [.int .i64 1, .int .i64 4, .int .i64 1, .int .i64 0, .int .i64 0, .int .i64 4, .int .i64 2, .int .i64 0, .int .i64 0, .int .i64 2, .int .i64 4, .int .i64 0, .int .i64 0, .int .i64 1, .int .i64 4, .int .i64 1]) rfl tz_72 pl_72 rfl rfl (C rfl (al_ rfl tz_72 ?_)))))))))))
 intro i175 H176 n177 h178 k179
 have e180 := ne_new h173 n177
 have z181 := Mono.free m174 n177
 have h182 := keep k179 (ne_new h173 n177) h173
 have m183 := Mono.new m174 n177 k179
 refine C rfl (Sw rfl rfl ts_72 h178 rfl rfl rfl ?_)
 intro H184 h185 k186
 have h187 := keep k186 e180 h182
 have m189 := Mono.set m183 z181 k186
 refine AWP.seq ?_
 refine AWP.seq ?_
 refine fz_ 9 h185 z181 rfl m189 fun H190 m191 k192 => ?_
 have h193 := (k192 _ e180).trans h187
 refine AWP.region rfl ?_
 refine A rfl rfl ?_
 refine bk_ ?_
 refine AWP.loop (fun q194 fq Hq => ∃ (j : Int), q194 = ((4 : Int) - j).toNat ∧ fq 10 = .int .i64 j ∧ fq 3 = .ptr i5 0 0 ∧ fq 7 = .sl ((patR (ls.take 16) FS9 [] 0).1).length (((patR (ls.take 16) FS9 [] 0).1).flatMap ePatch) ∧ fq 9 = .fptr [.int .i64 1, .int .i64 4, .int .i64 1, .int .i64 0, .int .i64 0, .int .i64 4, .int .i64 2, .int .i64 0, .int .i64 0, .int .i64 2, .int .i64 4, .int .i64 0, .int .i64 0, .int .i64 1, .int .i64 4, .int .i64 1] 0 ∧ Hq i5 = some (.row 0 ([.sl (ls.take 16).length ((ls.take 16).flatMap eV), .sl FS9.length (FS9.map eF), .snil])) ∧ Mono H0 Hq ∧ (0 ≤ j) ∧ (j ≤ 4)) (k := ((4 : Int) - 0).toNat) ?_ ?_
 exact ⟨0, rfl, rfl, s77, rfl, rfl, h193, m191, by omega, by omega⟩
 rintro _ f196 H195 ⟨j, rfl, s197, s198, s199, s200, h201, m202, hj0, hj1⟩
 refine AWP.seq ?_
 refine Sr ?_
 refine V rfl s197 (B rfl rfl rfl rfl ?_)
 refine AOps.nil ?_
 change AWP _ _ _ _ _ _
 by_cases b203 : j < 4
 refine ct_ rfl (decide_eq_true b203) ?_
 refine AWP.skip ?_
 refine AWP.seq ?_
 refine bk_ ?_
 refine Sr ?_
 refine A rfl rfl ?_
 refine bk_ ?_
 refine AWP.loop (fun q204 fq Hq => ∃ (i : Int), q204 = ((4 : Int) - i).toNat ∧ fq 11 = .int .i64 i ∧ fq 10 = .int .i64 j ∧ fq 3 = .ptr i5 0 0 ∧ fq 7 = .sl ((patR (ls.take 16) FS9 [] 0).1).length (((patR (ls.take 16) FS9 [] 0).1).flatMap ePatch) ∧ fq 9 = .fptr [.int .i64 1, .int .i64 4, .int .i64 1, .int .i64 0, .int .i64 0, .int .i64 4, .int .i64 2, .int .i64 0, .int .i64 0, .int .i64 2, .int .i64 4, .int .i64 0, .int .i64 0, .int .i64 1, .int .i64 4, .int .i64 1] 0 ∧ Hq i5 = some (.row 0 ([.sl (ls.take 16).length ((ls.take 16).flatMap eV), .sl FS9.length (FS9.map eF), .snil])) ∧ Mono H0 Hq ∧ (0 ≤ i) ∧ (i ≤ 4)) (k := ((4 : Int) - 0).toNat) ?_ ?_
 exact ⟨0, rfl, rfl, s197, s198, s199, s200, h201, m202, by omega, by omega⟩
 rintro _ f206 H205 ⟨i, rfl, s207, s208, s209, s210, s211, h212, m213, hi0, hi1⟩
 refine AWP.seq ?_
 refine Sr ?_
 refine V rfl s207 (B rfl rfl rfl rfl ?_)
 refine AOps.nil ?_
 change AWP _ _ _ _ _ _
 by_cases b214 : i < 4
 refine ct_ rfl (decide_eq_true b214) ?_
 refine AWP.skip ?_
 refine AWP.seq ?_
 refine bk_ ?_
 refine Sr ?_
 refine C rfl (Bl (cells := [.int .i64 0, .int .i64 0, .int .i64 0]) rfl tz_42 pl_42 rfl rfl (C rfl (al_ rfl tz_42 ?_)))
 intro i215 H216 n217 h218 k219
 have e220 := ne_new h212 n217
 have z221 := Mono.free m213 n217
 have h222 := keep k219 (ne_new h212 n217) h212
 have m223 := Mono.new m213 n217 k219
 refine C rfl (Sw rfl rfl ts_42 h218 rfl rfl rfl ?_)
 intro H224 h225 k226
 have h227 := keep k226 e220 h222
 have m229 := Mono.set m223 z221 k226
 refine AWP.seq ?_
 refine Sr ?_
 refine A rfl rfl ?_
 refine bk_ ?_
 refine AWP.loop (fun q230 fq Hq => ∃ (y : Int), q230 = ((4 : Int) - y).toNat ∧ fq 13 = .int .i64 y ∧ fq 11 = .int .i64 i ∧ fq 10 = .int .i64 j ∧ fq 3 = .ptr i5 0 0 ∧ fq 7 = .sl ((patR (ls.take 16) FS9 [] 0).1).length (((patR (ls.take 16) FS9 [] 0).1).flatMap ePatch) ∧ fq 9 = .fptr [.int .i64 1, .int .i64 4, .int .i64 1, .int .i64 0, .int .i64 0, .int .i64 4, .int .i64 2, .int .i64 0, .int .i64 0, .int .i64 2, .int .i64 4, .int .i64 0, .int .i64 0, .int .i64 1, .int .i64 4, .int .i64 1] 0 ∧ fq 12 = .ptr i215 0 0 ∧ Hq i5 = some (.row 0 ([.sl (ls.take 16).length ((ls.take 16).flatMap eV), .sl FS9.length (FS9.map eF), .snil])) ∧ Hq i215 = some (.row 0 ((eV (spl (ls.take 16) j i (4 * y))))) ∧ Mono H0 Hq ∧ (0 ≤ y) ∧ (y ≤ 4) ∧ (inV (1048576 * y) (spl (ls.take 16) j i (4 * y)))) (k := ((4 : Int) - 0).toNat) ?_ ?_
 exact ⟨0, rfl, rfl, s207, s208, s209, s210, s211, rfl, h227, (h225.trans (congrArg (fun c => some (AB.row 0 c)) (show ([.int .i64 0, .int .i64 0, .int .i64 0] : List AV) = (eV (spl (ls.take 16) j i (4 * 0))) from by first | rfl | (rw [spl_step hy0 hx0 (by omega)]) | (rw [Int.add_zero]) | (rw [show 4 * (y + 1) = 4 * y + x by omega])))), m229, by omega, by omega, by exact z_in (by omega)⟩
 rintro _ f232 H231 ⟨y, rfl, s233, s234, s235, s236, s237, s238, s239, h240, h241, m242, hy0, hy1, hinY⟩
 refine AWP.seq ?_
 refine Sr ?_
 refine V rfl s233 (B rfl rfl rfl rfl ?_)
 refine AOps.nil ?_
 change AWP _ _ _ _ _ _
 by_cases b243 : y < 4
 refine ct_ rfl (decide_eq_true b243) ?_
 refine AWP.skip ?_
 refine AWP.seq ?_
 refine bk_ ?_
 refine Sr ?_
 refine A rfl rfl ?_
 refine bk_ ?_
 refine AWP.loop (fun q244 fq Hq => ∃ (x : Int), q244 = ((4 : Int) - x).toNat ∧ fq 14 = .int .i64 x ∧ fq 13 = .int .i64 y ∧ fq 11 = .int .i64 i ∧ fq 10 = .int .i64 j ∧ fq 3 = .ptr i5 0 0 ∧ fq 7 = .sl ((patR (ls.take 16) FS9 [] 0).1).length (((patR (ls.take 16) FS9 [] 0).1).flatMap ePatch) ∧ fq 9 = .fptr [.int .i64 1, .int .i64 4, .int .i64 1, .int .i64 0, .int .i64 0, .int .i64 4, .int .i64 2, .int .i64 0, .int .i64 0, .int .i64 2, .int .i64 4, .int .i64 0, .int .i64 0, .int .i64 1, .int .i64 4, .int .i64 1] 0 ∧ fq 12 = .ptr i215 0 0 ∧ Hq i5 = some (.row 0 ([.sl (ls.take 16).length ((ls.take 16).flatMap eV), .sl FS9.length (FS9.map eF), .snil])) ∧ Hq i215 = some (.row 0 ((eV (spl (ls.take 16) j i (4 * y + x))))) ∧ Mono H0 Hq ∧ (0 ≤ x) ∧ (x ≤ 4) ∧ (inV (1048576 * y + 262144 * x) (spl (ls.take 16) j i (4 * y + x)))) (k := ((4 : Int) - 0).toNat) ?_ ?_
 exact ⟨0, rfl, rfl, s233, s234, s235, s236, s237, s238, s239, h240, (h241.trans (congrArg (fun c => some (AB.row 0 c)) (show ((eV (spl (ls.take 16) j i (4 * y))) : List AV) = (eV (spl (ls.take 16) j i (4 * y + 0))) from by first | rfl | (rw [spl_step hy0 hx0 (by omega)]) | (rw [Int.add_zero]) | (rw [show 4 * (y + 1) = 4 * y + x by omega])))), m242, by omega, by omega, by rw [Int.add_zero]; exact inV_le hinY (by omega)⟩
 rintro _ f246 H245 ⟨x, rfl, s247, s248, s249, s250, s251, s252, s253, s254, h255, h256, m257, hx0, hx1, hin⟩
 refine AWP.seq ?_
 refine Sr ?_
 refine V rfl s247 (B rfl rfl rfl rfl ?_)
 refine AOps.nil ?_
 change AWP _ _ _ _ _ _
 by_cases b258 : x < 4
 refine ct_ rfl (decide_eq_true b258) ?_
 refine AWP.skip ?_
 refine AWP.seq ?_
 refine bk_ ?_
 have hvq := hv16 _ (at_mem (l := (ls.take 16)) (i := 4 * y + x) (by omega) (by omega))
 have ht1 := tab_rng (k := 4 * j + y) (by omega) (by omega)
 have ht2 := tab_rng (k := 4 * i + x) (by omega) (by omega)
 have htp := mul_rng (a := 4) (c := 4) ht1 ht2
 have hsc := inV_scale (c := 16) hvq htp
 have hscb := inV_le (b := 2305843009213693952) hsc (by decide)
 have hA36 := inV_le (b := 2305843009213693952) hin (by omega)
 refine AWP.region_quiet mixed (by kernel_rfl) 22 [22] rfl (by kernel_rfl) (Mono H245) (Mono.refl _) ?_
 refine Q rfl (fun _ _ φ ψ => Ld _ rfl ((φ 12 rfl).trans s254) ty_42 (ψ _ _ h256) rfl ⟨rfl, ψ⟩) (Q rfl (fun _ _ φ ψ => Fa rfl ((φ 3 rfl).trans s251) fl_26_0 ⟨rfl, ψ⟩ (hid := ⟨_, (ψ _ _ h255)⟩)) (Q rfl (fun _ _ φ ψ => Ld _ rfl (φ 109 rfl) ty_22 (ψ _ _ h255) rfl ⟨rfl, ψ⟩) (QV rfl s248 (QB rfl rfl rfl (imul (by omega)) (QV rfl s247 (QB rfl rfl rfl (iadd (by omega)) (Q rfl (fun _ _ φ ψ => iS_ rfl (φ 110 rfl) (φ 114 rfl) sl_22 (by omega) (by omega) ⟨rfl, ψ⟩) (QL rfl rfl ty_42 (ldM eV_len (by omega) (by omega)) (QV rfl s250 (QV rfl s248 (Q rfl (fun _ _ φ ψ => iF_ rfl ((φ 9 rfl).trans s253) (φ 117 rfl) ar_72 (by omega) (by omega) ⟨rfl, ψ⟩) (Q rfl (fun _ _ φ ψ => iF_ rfl (φ 119 rfl) (φ 118 rfl) ar_67 (by omega) (by omega) ⟨rfl, ψ⟩) (QL rfl rfl ty_3 (ld_off (o := 0 + j.toNat * 4 + y.toNat * 1) (o' := (4 * j + y).toNat * 1) (by omega) (ld1 (xs := tab) (i := 4 * j + y) (by omega) (show (4 * j + y : Int) < ((16 : Nat) : Int) by omega))) ?_)))))))))))))
 refine QV rfl s249 (QV rfl s247 (Q rfl (fun _ _ φ ψ => iF_ rfl ((φ 9 rfl).trans s253) (φ 122 rfl) ar_72 (by omega) (by omega) ⟨rfl, ψ⟩) (Q rfl (fun _ _ φ ψ => iF_ rfl (φ 124 rfl) (φ 123 rfl) ar_67 (by omega) (by omega) ⟨rfl, ψ⟩) (QL rfl rfl ty_3 (ld_off (o := 0 + i.toNat * 4 + x.toNat * 1) (o' := (4 * i + x).toNat * 1) (by omega) (ld1 (xs := tab) (i := 4 * i + x) (by omega) (show (4 * i + x : Int) < ((16 : Nat) : Int) by omega))) (QB rfl rfl rfl (imul (by omega)) (Q rfl (fun _ _ φ ψ => Pc («as» := [.agg (eV (at_ (ls.take 16) (4 * y + x))), .int .i64 ((at_ tab (4 * j + y)) * (at_ tab (4 * i + x)))]) rfl rfl (lapp (lcons (φ 116 rfl) (lcons (φ 127 rfl) rfl)) rfl) tf_19 (c_rScale (at_ (ls.take 16) (4 * y + x)) ((at_ tab (4 * j + y)) * (at_ tab (4 * i + x))) (by assumption)) fun H2 m2 => ⟨rfl, ψ.trans m2⟩) (Q rfl (fun _ _ φ ψ => Pc («as» := [.agg (eV (spl (ls.take 16) j i (4 * y + x))), .agg (eV (scaleV (at_ (ls.take 16) (4 * y + x)) ((at_ tab (4 * j + y)) * (at_ tab (4 * i + x)))))]) rfl rfl (lapp (lcons (φ 108 rfl) (lcons (φ 128 rfl) rfl)) rfl) tf_18 (c_rAdd (spl (ls.take 16) j i (4 * y + x)) (scaleV (at_ (ls.take 16) (4 * y + x)) ((at_ tab (4 * j + y)) * (at_ tab (4 * i + x)))) (by assumption) (by assumption)) fun H2 m2 => ⟨rfl, ψ.trans m2⟩) ?_)))))))
 refine QE.done fun H259 m260 => ?_
 have h261 := m260 _ _ h255
 have h262 := m260 _ _ h256
 have m263 := m257.trans m260
 refine C rfl (Sw s254 rfl ts_42 h262 rfl rfl rfl ?_)
 intro H264 h265 k266
 have h267 := keep k266 e220 h261
 have m269 := Mono.set m263 z221 k266
 refine AWP.region rfl ?_
 refine V rfl s247 (B rfl rfl rfl (iadd (by omega)) (A rfl rfl ?_))
 refine AOps.nil ?_
 exact ⟨_, by omega, x + 1, rfl, rfl, s248, s249, s250, s251, s252, s253, s254, h267, (h265.trans (congrArg (fun c => some (AB.row 0 c)) (show ((eV (addV (spl (ls.take 16) j i (4 * y + x)) (scaleV (at_ (ls.take 16) (4 * y + x)) ((at_ tab (4 * j + y)) * (at_ tab (4 * i + x)))))) : List AV) = (eV (spl (ls.take 16) j i (4 * y + (x + 1)))) from by first | rfl | (rw [spl_step hy0 hx0 (by omega)]) | (rw [Int.add_zero]) | (rw [show 4 * (y + 1) = 4 * y + x by omega])))), m269, by omega, by omega, by rw [← spl_step hy0 hx0 (by omega)]; exact inV_le (inV_add hin hsc) (by omega)⟩
 refine cf_ rfl (decide_eq_false b258) ?_
 refine AWP.exit ?_
 change AWP _ _ _ _ _ _
 refine AWP.region rfl ?_
 refine V rfl s248 (B rfl rfl rfl (iadd (by omega)) (A rfl rfl ?_))
 refine AOps.nil ?_
 exact ⟨_, by omega, y + 1, rfl, rfl, s249, s250, s251, s252, s253, s254, h255, (h256.trans (congrArg (fun c => some (AB.row 0 c)) (show ((eV (spl (ls.take 16) j i (4 * y + x))) : List AV) = (eV (spl (ls.take 16) j i (4 * (y + 1)))) from by first | rfl | (rw [spl_step hy0 hx0 (by omega)]) | (rw [Int.add_zero]) | (rw [show 4 * (y + 1) = 4 * y + x by omega])))), m257, by omega, by omega, by rw [show 4 * (y + 1) = 4 * y + x by omega]; exact inV_le hin (by omega)⟩
 refine cf_ rfl (decide_eq_false b243) ?_
 refine AWP.exit ?_
 change AWP _ _ _ _ _ _
 refine AWP.seq ?_
 have hy4 : y = 4 := by omega
 refine AWP.region rfl ?_
 refine V rfl s237 (V rfl s235 (B rfl rfl rfl (imul (by omega)) (V rfl s234 (B rfl rfl rfl (iadd (by omega)) (C rfl (iS_ rfl rfl rfl sl_63 (by omega) (by omega) (F rfl rfl fl_70_0 (C rfl (iF_ rfl rfl rfl ar_66 (by omega) (by omega) (L rfl rfl ty_42 (ld_off (o := (4 : Int).toNat * 65 + 0 + (4 * j + i : Int).toNat * 3) (o' := (4 : Int).toNat * 65 + (0 + (4 * j + i).toNat * 3)) (by omega) (ldE ePatch_len (i := 4) (by omega) (by omega) (fun h => by first | rfl | cases h) (ld_off (o := 0 + (4 * j + i).toNat * 3) (by omega) (ld_fst (fun h => by first | rfl | cases h) (ldM eV_len (i := 4 * j + i) (by omega) (by first | (have := (at_ ((patR (ls.take 16) FS9 [] 0).1) 4).lP; omega) | (simp; omega))))))) (C rfl (al_ rfl tz_42 ?_))))))))))))
 intro i270 H271 n272 h273 k274
 have e275 := ne_new h240 n272
 have e276 := ne_new h241 n272
 have z277 := Mono.free m242 n272
 have h278 := keep k274 (ne_new h240 n272) h240
 have h279 := keep k274 (ne_new h241 n272) h241
 have m280 := Mono.new m242 n272 k274
 refine C rfl (Sw rfl rfl ts_42 h273 rfl rfl rfl ?_)
 intro H281 h282 k283
 have h284 := keep k283 e275 h278
 have h285 := keep k283 e276 h279
 have m287 := Mono.set m280 z277 k283
 refine AWP.seq ?_
 refine fz_ 15 h282 z277 rfl m287 fun H288 m289 k290 => ?_
 have h291 := (k290 _ e275).trans h284
 have h292 := (k290 _ e276).trans h285
 have hcl := SF.p j i hj0 (by omega) hi0 (by omega)
 rw [show (16 : Int) = 4 * y by omega] at hcl
 have hcs := inV_le (b := 2305843009213693952) hinY (by omega)
 have hcx := inV_le (b := 2305843009213693952) (close_in hcl hinY) (by omega)
 refine AWP.region rfl ?_
 refine F rfl rfl fl_42_0 (L rfl rfl ty_3 rfl ?_)
 refine C rfl (Fa rfl s239 fl_42_0 ?_ (hid := ⟨_, h292⟩))
 refine C rfl (Ld _ rfl rfl ty_3 h292 rfl (C rfl (Pc («as» := [.int .i64 ((at_ ((at_ ((patR (ls.take 16) FS9 [] 0).1) 4).aP) (4 * j + i)).X), .int .i64 ((spl (ls.take 16) j i (4 * y)).X), .int .i64 36]) rfl rfl (rfl) tf_32 (c_close _ _ _ hcl.1 hcx.1 hcs.1 (by decide)) ?_)))
 intro H293 m294
 have h295 := m294 _ _ h291
 have h296 := m294 _ _ h292
 have m297 := m289.trans m294
 refine C rfl (AOp.not rfl rfl (V rfl rfl (Y rfl rfl rfl rfl (Ff rfl rfl fl_42_1 (Y rfl rfl rfl rfl (Lf _ rfl rfl ty_3 rfl ?_))))))
 refine Y rfl rfl rfl rfl (Fa rfl s239 fl_42_1 ?_ (hid := ⟨_, h296⟩))
 refine Y rfl rfl rfl rfl (Ld _ rfl rfl ty_3 h296 rfl (Y rfl rfl rfl rfl (Pc («as» := [.int .i64 ((at_ ((at_ ((patR (ls.take 16) FS9 [] 0).1) 4).aP) (4 * j + i)).Y), .int .i64 ((spl (ls.take 16) j i (4 * y)).Y), .int .i64 36]) rfl rfl (rfl) tf_32 (c_close _ _ _ hcl.2.1 hcx.2.1 hcs.2.1 (by decide)) ?_)))
 intro H298 m299
 have h300 := m299 _ _ h295
 have h301 := m299 _ _ h296
 have m302 := m297.trans m299
 refine Y rfl rfl rfl rfl (AOp.not rfl rfl (C rfl (Pf _ rfl rfl rfl rfl (V rfl rfl (Y rfl rfl rfl rfl (Ff rfl rfl fl_42_2 (Y rfl rfl rfl rfl (Lf _ rfl rfl ty_3 rfl ?_))))))))
 refine Y rfl rfl rfl rfl (Fa rfl s239 fl_42_2 ?_ (hid := ⟨_, h301⟩))
 refine Y rfl rfl rfl rfl (Ld _ rfl rfl ty_3 h301 rfl (Y rfl rfl rfl rfl (Pc («as» := [.int .i64 ((at_ ((at_ ((patR (ls.take 16) FS9 [] 0).1) 4).aP) (4 * j + i)).Z), .int .i64 ((spl (ls.take 16) j i (4 * y)).Z), .int .i64 36]) rfl rfl (rfl) tf_32 (c_close _ _ _ hcl.2.2 hcx.2.2 hcs.2.2 (by decide)) ?_)))
 intro H303 m304
 have h305 := m304 _ _ h300
 have h306 := m304 _ _ h301
 have m307 := m302.trans m304
 refine Y rfl rfl rfl rfl (AOp.not rfl rfl (C rfl (Pf _ rfl rfl rfl rfl ?_)))
 refine cf_ rfl rfl ?_
 refine AWP.skip ?_
 refine AWP.region rfl ?_
 refine V rfl s234 (B rfl rfl rfl (iadd (by omega)) (A rfl rfl ?_))
 refine AOps.nil ?_
 exact ⟨_, by omega, i + 1, rfl, rfl, s235, s236, s237, s238, h305, m307, by omega, by omega⟩
 refine cf_ rfl (decide_eq_false b214) ?_
 refine AWP.exit ?_
 change AWP _ _ _ _ _ _
 refine AWP.region rfl ?_
 refine V rfl s208 (B rfl rfl rfl (iadd (by omega)) (A rfl rfl ?_))
 refine AOps.nil ?_
 exact ⟨_, by omega, j + 1, rfl, rfl, s209, s210, s211, h212, m213, by omega, by omega⟩
 refine cf_ rfl (decide_eq_false b203) ?_
 refine AWP.exit ?_
 change AWP _ _ _ _ _ _
 refine Sr ?_
 refine A rfl rfl ?_
 refine rt_ ?_
 refine Rr (Res.one rfl rfl) ?_ m202
 exact rfl
end Go.Proofs.U
