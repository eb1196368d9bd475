/- A part of the proof that a law answers true for every input of its row: own work, by an AI agent. -/
import Derived.Test.YtfeafldgohceaaaB01
import Derived.KernelRfl
import Derived.Test.YtfeafldgohceaaaB02
set_option linter.unusedSimpArgs false
set_option linter.unusedVariables false
set_option linter.defProp false
namespace Go.Proofs.T
open Go Go.AH
set_option maxRecDepth 4000
set_option linter.unusedSimpArgs false
set_option linter.unusedVariables false
theorem c24 {H0 : Heap} {sid mid : Nat} (fs : List (List Int)) (hfs : fs.length ≤ 1048576) (hfss : ∀ l ∈ fs, l.length ≤ 1048576) (n : Int) (hn : n ≤ 1000) (hg : goodS n fs) (hsl : (sides fs).length ≤ 4000000000) (hs : H0 sid = some (.row 0 [.sl fs.length (fs.map eF), .map mid])) (hsm : H0 mid = some (.map ((sides fs).map eS))) : ACalls Try.prog 41 [.ptr sid 0 0] H0 fun r H' => r = (.sl (eOut fs n n).length ((eOut fs n n).flatMap eE)) ∧ Mono H0 H' := by
 have hK := good_keys hg
 have hKR := good_KR hn hg
 refine ACalls.of_body' (n := 71) rfl rfl rfl rfl ?_
 have m0 := Mono.refl H0
 refine Sr ?_
 refine C rfl (bx_ (.ptr sid 0 0) rfl rfl rfl ?_)
 intro i1 H2 n3 h4 k5
 have h9 := keep k5 (ne_new hs n3) hs
 have h10 := keep k5 (ne_new hsm n3) hsm
 have m11 := Mono.new m0 n3 k5
 refine A rfl rfl ?_
 refine Sr ?_
 refine A rfl rfl ?_
 refine Sr ?_
 refine C rfl (AOp.makeFunc (cs := [.ptr i1 0 0]) rfl rfl (A rfl rfl ?_))
 refine AWP.seq ?_
 refine Sr ?_
 refine C rfl (Ld _ rfl rfl ty_84 h4 rfl (C rfl (nc_ (.ptr sid 0 0) rfl rfl rfl ?_)))
 refine C rfl (Fa rfl rfl fl_87_1 ?_ (hid := ⟨_, h9⟩))
 refine C rfl (Ld _ rfl rfl ty_85 h9 rfl (C rfl (AOp.range rfl rfl h10 u_85 ?_)))
 intro i12 H13 n14 h15 k16
 have e17 := ne_new h9 n14
 have e18 := ne_new h10 n14
 have e19 := ne_new h4 n14
 have z20 := Mono.free m11 n14
 have h21 := keep k16 (ne_new h9 n14) h9
 have h22 := keep k16 (ne_new h10 n14) h10
 have h23 := keep k16 (ne_new h4 n14) h4
 have m24 := Mono.new m11 n14 k16
 refine bk_ ?_
 refine AWP.loop (fun q25 fq Hq => ∃ (seen : List Nat) (w3 : AV), q25 = (sides fs).length - seen.length ∧ fq 1 = .ptr i1 0 0 ∧ fq 2 = .snil ∧ fq 4 = .fn 59 [.ptr i1 0 0] ∧ fq 15 = .it i12 ∧ fq 3 = w3 ∧ Own H0 Hq 4 w3 (seen.flatMap (edgeJ fs)).length ((seen.flatMap (edgeJ fs)).flatMap eE) ∧ NotId w3 sid ∧ NotId w3 mid ∧ NotId w3 i1 ∧ NotId w3 i12 ∧ Hq sid = some (.row 0 ([.sl fs.length (fs.map eF), .map mid])) ∧ Hq mid = some (.map ((sides fs).map eS)) ∧ Hq i1 = some (.row 0 ([.ptr sid 0 0])) ∧ Hq i12 = some (.iter (.map mid ((sides fs).map eS).length seen)) ∧ Mono H0 Hq ∧ (seen.Nodup) ∧ (∀ j ∈ seen, j < (sides fs).length)) (k := (sides fs).length - ([] : List Nat).length) ?_ ?_
 exact ⟨([] : List Nat), .snil, rfl, rfl, rfl, rfl, rfl, rfl, Own.nil _ _ _, (NotId.nil _), (NotId.nil _), (NotId.nil _), (NotId.nil _), h21, h22, h23, h15, m24, by exact .nil, by intro j h; cases h⟩
 rintro _ f27 H26 ⟨seen, w3, rfl, s28, s29, s30, s31, s32, o33, no34, no35, no36, no37, h38, h39, h40, h41, m42, hnd, hlt⟩
 refine Sr ?_
 refine C rfl (AOp.next rfl s31 h41 h39 ?_ ?_)
 intro hall50
 refine E rfl rfl rfl ?_
 refine AWP.seq ?_
 refine cf_ rfl rfl ?_
 refine AWP.exit ?_
 change AWP _ _ _ _ _ _
 refine AWP.seq ?_
 have hall : ∀ j, j < (sides fs).length → j ∈ seen := fun j hj => hall50 j (by simpa using hj)
 refine AWP.region rfl ?_
 refine V rfl s32 (C rfl (AOp.xcall («as» := [w3, .fn 61 []]) rfl rfl (rfl) tf_60 (c36 (l := (seen.flatMap (edgeJ fs))) o33 m42 (by have := seen_len fs seen; have := seen_le hnd hlt; omega)) ?_))
 rintro _ H51 ⟨rfl, m52, k53, l54, o55, p56, srt57⟩
 refine Sr ?_
 refine V rfl s32 (A rfl rfl ?_)
 refine rt_ ?_
 refine Fin.frz 2 o55 rfl m52 fun H62 m63 k64 => ?_
 refine Rr (Res.one rfl rfl) ?_ m63
 exact (congrArg (fun l : List Ed => AV.sl l.length (l.flatMap eE)) (show (l54 : List Ed) = eOut fs n n from by exact edges_eq hg hnd hlt hall p56 srt57))
 intro j43 en44 H45 he46 hnot47 h48 k49
 have h69 := keep k49 e17 h38
 have h70 := keep k49 e18 h39
 have h71 := keep k49 e19 h40
 have o73 := Own.keep o33 k49 no37
 have m74 := Mono.set m42 z20 k49
 obtain ⟨sj75, hsj76, rfl⟩ := eS_get he46
 have hin := hKR _ (List.mem_of_getElem? hsj76)
 have hjl := (List.getElem?_eq_some_iff.1 hsj76).1
 refine E rfl rfl rfl ?_
 refine AWP.seq ?_
 refine ct_ rfl rfl ?_
 refine AWP.skip ?_
 refine bk_ ?_
 refine Sr ?_
 refine C rfl (AOp.entry rfl s31 h48 h70 he46 (E rfl rfl rfl (C rfl (al_ rfl tz_115 ?_))))
 intro i77 H78 n79 h80 k81
 have e82 := ne_new h69 n79
 have e83 := ne_new h70 n79
 have e84 := ne_new h71 n79
 have e85 := ne_new h48 n79
 have z86 := Mono.free m74 n79
 have h87 := keep k81 (ne_new h69 n79) h69
 have h88 := keep k81 (ne_new h70 n79) h70
 have h89 := keep k81 (ne_new h71 n79) h71
 have h90 := keep k81 (ne_new h48 n79) h48
 have o91 := Own.keep o73 k81 (Own.notnew o73 n79)
 have no92 := Own.notnew o73 n79
 have m93 := Mono.new m74 n79 k81
 refine C rfl (Sw rfl rfl ts_115 h80 rfl rfl rfl ?_)
 intro H94 h95 k96
 have h97 := keep k96 e82 h87
 have h98 := keep k96 e83 h88
 have h99 := keep k96 e84 h89
 have h100 := keep k96 e85 h90
 have o102 := Own.keep o91 k96 no92
 have m103 := Mono.set m93 z86 k96
 refine AWP.seq ?_
 refine AWP.region_quiet mixed (by kernel_rfl) 15 [] rfl (by kernel_rfl) (Mono H94) (Mono.refl _) ?_
 refine Q rfl (fun _ _ φ ψ => Ld _ rfl ((φ 1 rfl).trans s28) ty_84 (ψ _ _ h99) rfl ⟨rfl, ψ⟩) (Q rfl (fun _ _ φ ψ => nc_ (.ptr sid 0 0) rfl (φ 21 rfl) rfl ⟨rfl, ψ⟩) (Q rfl (fun _ _ φ ψ => Fa rfl (φ 22 rfl) fl_87_1 ⟨rfl, ψ⟩ (hid := ⟨_, (ψ _ _ h97)⟩)) (Q rfl (fun _ _ φ ψ => Ld _ rfl (φ 23 rfl) ty_85 (ψ _ _ h97) rfl ⟨rfl, ψ⟩) (Q rfl (fun _ _ φ ψ => Fa rfl (φ 5 rfl) fl_115_1 ⟨rfl, ψ⟩ (hid := ⟨_, (ψ _ _ h95)⟩)) (Q rfl (fun _ _ φ ψ => Ld _ rfl (φ 25 rfl) ty_3 (ψ _ _ h95) rfl ⟨rfl, ψ⟩) (Q rfl (fun _ _ φ ψ => Fa rfl (φ 5 rfl) fl_115_0 ⟨rfl, ψ⟩ (hid := ⟨_, (ψ _ _ h95)⟩)) (Q rfl (fun _ _ φ ψ => Ld _ rfl (φ 27 rfl) ty_3 (ψ _ _ h95) rfl ⟨rfl, ψ⟩) (Q rfl (fun _ _ φ ψ => Bl (cells := [.int .i64 sj75.1.2, .int .i64 sj75.1.1]) rfl tz_115 pl_115 (lconsP (φ 26 rfl) (lconsP (φ 28 rfl) rfl)) rfl ⟨rfl, ψ⟩) (Q rfl (fun _ _ φ ψ => AOp.lookupOk' rfl (φ 24 rfl) (ψ _ _ h98) (φ 29 rfl) (kok63 hin.2 hin.1) (kes hKR) tm52 tzv_3 (look_sides hK (sj75.1.2) (sj75.1.1)) ⟨rfl, ψ⟩) (QV rfl rfl (Q rfl (fun _ _ φ ψ => Ex _ rfl (φ 20 rfl) rfl ⟨rfl, ψ⟩) (Q rfl (fun _ _ φ ψ => Ex _ rfl (φ 20 rfl) rfl ⟨rfl, ψ⟩) (Q rfl (fun _ _ φ ψ => As _ rfl (φ 31 rfl) ⟨rfl, ψ⟩) ?_)))))))))))))
 refine Q rfl (fun _ _ φ ψ => As _ rfl (φ 32 rfl) ⟨rfl, ψ⟩) ?_
 refine QE.done fun H104 m105 => ?_
 have h106 := m105 _ _ h97
 have h107 := m105 _ _ h98
 have h108 := m105 _ _ h99
 have h109 := m105 _ _ h100
 have h110 := m105 _ _ h95
 have o111 := Own.mono o102 m105
 have m112 := m103.trans m105
 refine Sr ?_
 refine C rfl (Fa rfl rfl fl_115_0 ?_ (hid := ⟨_, h110⟩))
 refine C rfl (Ld _ rfl rfl ty_3 h110 rfl ?_)
 refine C rfl (Fa rfl rfl fl_115_1 ?_ (hid := ⟨_, h110⟩))
 refine C rfl (Ld _ rfl rfl ty_3 h110 rfl (B rfl rfl rfl rfl (V rfl rfl ?_)))
 by_cases b113 : sj75.1.1 < sj75.1.2
 refine N rfl rfl (decide_eq_true b113) (N rfl rfl (decide_eq_true b113) (C rfl (Pt _ rfl rfl (decide_eq_true b113) rfl ?_)))
 refine ct_ rfl rfl ?_
 refine AWP.seq ?_
 refine AWP.region_quiet mixed (by kernel_rfl) 12 [] rfl (by kernel_rfl) (Mono H104) (Mono.refl _) ?_
 refine Q rfl (fun _ _ φ ψ => Fa rfl (φ 5 rfl) fl_115_0 ⟨rfl, ψ⟩ (hid := ⟨_, (ψ _ _ h110)⟩)) (Q rfl (fun _ _ φ ψ => Ld _ rfl (φ 42 rfl) ty_3 (ψ _ _ h110) rfl ⟨rfl, ψ⟩) (Q rfl (fun _ _ φ ψ => Fa rfl (φ 5 rfl) fl_115_1 ⟨rfl, ψ⟩ (hid := ⟨_, (ψ _ _ h110)⟩)) (Q rfl (fun _ _ φ ψ => Ld _ rfl (φ 44 rfl) ty_3 (ψ _ _ h110) rfl ⟨rfl, ψ⟩) (Q rfl (fun _ _ φ ψ => AOp.min2 rfl (φ 43 rfl) (φ 45 rfl) ⟨rfl, ψ⟩) (Q rfl (fun _ _ φ ψ => Fa rfl (φ 5 rfl) fl_115_0 ⟨rfl, ψ⟩ (hid := ⟨_, (ψ _ _ h110)⟩)) (Q rfl (fun _ _ φ ψ => Ld _ rfl (φ 47 rfl) ty_3 (ψ _ _ h110) rfl ⟨rfl, ψ⟩) (Q rfl (fun _ _ φ ψ => Fa rfl (φ 5 rfl) fl_115_1 ⟨rfl, ψ⟩ (hid := ⟨_, (ψ _ _ h110)⟩)) (Q rfl (fun _ _ φ ψ => Ld _ rfl (φ 49 rfl) ty_3 (ψ _ _ h110) rfl ⟨rfl, ψ⟩) (Q rfl (fun _ _ φ ψ => AOp.max2 rfl (φ 48 rfl) (φ 50 rfl) ⟨rfl, ψ⟩) (Q rfl (fun _ _ φ ψ => As _ rfl (φ 46 rfl) ⟨rfl, ψ⟩) (Q rfl (fun _ _ φ ψ => As _ rfl (φ 51 rfl) ⟨rfl, ψ⟩) ?_)))))))))))
 refine QE.done fun H114 m115 => ?_
 have h116 := m115 _ _ h106
 have h117 := m115 _ _ h107
 have h118 := m115 _ _ h108
 have h119 := m115 _ _ h109
 have h120 := m115 _ _ h110
 have o121 := Own.mono o111 m115
 have m122 := m112.trans m115
 refine AOps.nil ?_
 change AWP _ _ _ _ _ _
 have hin2 := hin
 unfold inR at hin2
 have hsl2 := seen_len fs seen
 have hsl3 := seen_le hnd hlt
 refine AWP.region rfl ?_
 refine V rfl s32 (V rfl rfl (V rfl rfl (V rfl s30 (V rfl rfl (V rfl rfl (C rfl (Bl (cells := [.int .i64 (min sj75.1.1 sj75.1.2), .int .i64 (max sj75.1.1 sj75.1.2)]) rfl tz_115 pl_115 rfl rfl (C rfl (AOp.pcallH («as» := [.agg [.int .i64 (min sj75.1.1 sj75.1.2), .int .i64 (max sj75.1.1 sj75.1.2)], .ptr i1 0 0]) rfl rfl (rfl) tf_59 (c35 _ (by assumption) (by assumption) (min sj75.1.1 sj75.1.2, max sj75.1.1 sj75.1.2) ⟨by unfold inR; omega, by unfold inR; omega⟩ hK hKR h118 h116 h117) ?_)))))))))
 intro H123 m124
 have h125 := m124 _ _ h116
 have h126 := m124 _ _ h117
 have h127 := m124 _ _ h118
 have h128 := m124 _ _ h119
 have h129 := m124 _ _ h120
 have o130 := Own.mono o121 m124
 have m131 := m122.trans m124
 refine V rfl s30 (V rfl rfl (V rfl rfl (C rfl (Bl (cells := [.int .i64 (max sj75.1.1 sj75.1.2), .int .i64 (min sj75.1.1 sj75.1.2)]) rfl tz_115 pl_115 rfl rfl (C rfl (AOp.pcallH («as» := [.agg [.int .i64 (max sj75.1.1 sj75.1.2), .int .i64 (min sj75.1.1 sj75.1.2)], .ptr i1 0 0]) rfl rfl (rfl) tf_59 (c35 _ (by assumption) (by assumption) (max sj75.1.1 sj75.1.2, min sj75.1.1 sj75.1.2) ⟨by unfold inR; omega, by unfold inR; omega⟩ hK hKR h127 h125 h126) ?_))))))
 intro H132 m133
 have h134 := m133 _ _ h125
 have h135 := m133 _ _ h126
 have h136 := m133 _ _ h127
 have h137 := m133 _ _ h128
 have h138 := m133 _ _ h129
 have o139 := Own.mono o130 m133
 have m140 := m131.trans m133
 refine C rfl (Bl (cells := [.int .i64 (min sj75.1.1 sj75.1.2), .int .i64 (max sj75.1.1 sj75.1.2), .int .i64 (alongS fs (min sj75.1.1 sj75.1.2) (max sj75.1.1 sj75.1.2)), .int .i64 (alongS fs (max sj75.1.1 sj75.1.2) (min sj75.1.1 sj75.1.2))]) rfl tz_47 pl_47 rfl rfl (C rfl (AOp.buildSlice (cells := [.int .i64 (min sj75.1.1 sj75.1.2), .int .i64 (max sj75.1.1 sj75.1.2), .int .i64 (alongS fs (min sj75.1.1 sj75.1.2) (max sj75.1.1 sj75.1.2)), .int .i64 (alongS fs (max sj75.1.1 sj75.1.2) (min sj75.1.1 sj75.1.2))]) rfl u_32 ts_47 tz_47 rfl rfl rfl ?_)))
 intro i141 H142 n143 h144 k145
 have h152 := keep k145 (ne_new h134 n143) h134
 have h153 := keep k145 (ne_new h135 n143) h135
 have h154 := keep k145 (ne_new h136 n143) h136
 have h155 := keep k145 (ne_new h137 n143) h137
 have h156 := keep k145 (ne_new h138 n143) h138
 have o157 := Own.keep o139 k145 (Own.notnew o139 n143)
 have m159 := Mono.new m140 n143 k145
 refine C rfl (AOp.append_own (es := 4) (m := 1) (len := ((seen.flatMap (edgeJ fs)).length)) (old := (seen.flatMap (edgeJ fs)).flatMap eE) (cells := [.int .i64 (min sj75.1.1 sj75.1.2), .int .i64 (max sj75.1.1 sj75.1.2), .int .i64 (alongS fs (min sj75.1.1 sj75.1.2) (max sj75.1.1 sj75.1.2)), .int .i64 (alongS fs (max sj75.1.1 sj75.1.2) (min sj75.1.1 sj75.1.2))]) rfl u_32 ts_47 tzn_47 tb_47 (by decide) ni_32 rfl o157 m159 rfl (.slm h144 rfl) (one_of rfl) (by decide) (by first | omega | (simp; omega)) ?_)
 intro v160 H161 o162 m163 k164 j165
 have o166 := Own.snocM (xs := ((seen.flatMap (edgeJ fs)) : List Ed)) (y := (Ed.mk (min sj75.1.1 sj75.1.2) (max sj75.1.1 sj75.1.2) (alongS fs (min sj75.1.1 sj75.1.2) (max sj75.1.1 sj75.1.2)) (alongS fs (max sj75.1.1 sj75.1.2) (min sj75.1.1 sj75.1.2)))) (e := eE) (by simp) o162
 have h167 := (k164 _ no34 (by rw [h152]; simp)).trans h152
 have no168 := j165 _ no34 (by rw [h152]; simp)
 have h169 := (k164 _ no35 (by rw [h153]; simp)).trans h153
 have no170 := j165 _ no35 (by rw [h153]; simp)
 have h171 := (k164 _ no36 (by rw [h154]; simp)).trans h154
 have no172 := j165 _ no36 (by rw [h154]; simp)
 have h173 := (k164 _ no37 (by rw [h155]; simp)).trans h155
 have no174 := j165 _ no37 (by rw [h155]; simp)
 have no176 := j165 _ no92 (by rw [h156]; simp)
 refine A rfl rfl ?_
 refine AOps.nil ?_
 exact ⟨_, by have := seen_lt hnd hlt hnot47 hjl; simp only [List.length_append, List.length_cons, List.length_nil]; omega, (seen ++ [j43]), v160, rfl, s28, s29, s30, s31, rfl, (have hx : (((seen.flatMap (edgeJ fs)) ++ [(Ed.mk (min sj75.1.1 sj75.1.2) (max sj75.1.1 sj75.1.2) (alongS fs (min sj75.1.1 sj75.1.2) (max sj75.1.1 sj75.1.2)) (alongS fs (max sj75.1.1 sj75.1.2) (min sj75.1.1 sj75.1.2)))]) : List Ed) = (seen ++ [j43]).flatMap (edgeJ fs) := (by rw [seen_T hsj76 (.inl b113)]); Own.re o166 (congrArg List.length hx) (congrArg (fun l : List Ed => l.flatMap eE) hx)), no168, no170, no172, no174, h167, h169, h171, h173, m163, by exact nd_snoc hnd hnot47, by exact lt_snoc hlt hjl⟩
 refine Y rfl rfl rfl (decide_eq_false b113) (Mv _ rfl rfl (Y rfl rfl rfl (decide_eq_false b113) (AOp.not rfl rfl (C rfl (Pf _ rfl rfl (decide_eq_false b113) rfl ?_)))))
 refine AOps.nil ?_
 change AWP _ _ _ _ _ _
 by_cases b177 : 0 ≤ alongS fs sj75.1.2 sj75.1.1
 refine cf_ rfl (nb (decide_eq_true b177)) ?_
 refine AWP.skip ?_
 exact ⟨_, by have := seen_lt hnd hlt hnot47 hjl; simp only [List.length_append, List.length_cons, List.length_nil]; omega, (seen ++ [j43]), w3, rfl, s28, s29, s30, s31, s32, (have hx : ((seen.flatMap (edgeJ fs)) : List Ed) = (seen ++ [j43]).flatMap (edgeJ fs) := (by rw [seen_F hsj76 (fun h => h.elim b113 (fun g => g b177))]); Own.re o111 (congrArg List.length hx) (congrArg (fun l : List Ed => l.flatMap eE) hx)), no34, no35, no36, no37, h106, h107, h108, h109, m112, by exact nd_snoc hnd hnot47, by exact lt_snoc hlt hjl⟩
 refine ct_ rfl (nb (decide_eq_false b177)) ?_
 refine AWP.seq ?_
 refine AWP.region_quiet mixed (by kernel_rfl) 12 [] rfl (by kernel_rfl) (Mono H104) (Mono.refl _) ?_
 refine Q rfl (fun _ _ φ ψ => Fa rfl (φ 5 rfl) fl_115_0 ⟨rfl, ψ⟩ (hid := ⟨_, (ψ _ _ h110)⟩)) (Q rfl (fun _ _ φ ψ => Ld _ rfl (φ 42 rfl) ty_3 (ψ _ _ h110) rfl ⟨rfl, ψ⟩) (Q rfl (fun _ _ φ ψ => Fa rfl (φ 5 rfl) fl_115_1 ⟨rfl, ψ⟩ (hid := ⟨_, (ψ _ _ h110)⟩)) (Q rfl (fun _ _ φ ψ => Ld _ rfl (φ 44 rfl) ty_3 (ψ _ _ h110) rfl ⟨rfl, ψ⟩) (Q rfl (fun _ _ φ ψ => AOp.min2 rfl (φ 43 rfl) (φ 45 rfl) ⟨rfl, ψ⟩) (Q rfl (fun _ _ φ ψ => Fa rfl (φ 5 rfl) fl_115_0 ⟨rfl, ψ⟩ (hid := ⟨_, (ψ _ _ h110)⟩)) (Q rfl (fun _ _ φ ψ => Ld _ rfl (φ 47 rfl) ty_3 (ψ _ _ h110) rfl ⟨rfl, ψ⟩) (Q rfl (fun _ _ φ ψ => Fa rfl (φ 5 rfl) fl_115_1 ⟨rfl, ψ⟩ (hid := ⟨_, (ψ _ _ h110)⟩)) (Q rfl (fun _ _ φ ψ => Ld _ rfl (φ 49 rfl) ty_3 (ψ _ _ h110) rfl ⟨rfl, ψ⟩) (Q rfl (fun _ _ φ ψ => AOp.max2 rfl (φ 48 rfl) (φ 50 rfl) ⟨rfl, ψ⟩) (Q rfl (fun _ _ φ ψ => As _ rfl (φ 46 rfl) ⟨rfl, ψ⟩) (Q rfl (fun _ _ φ ψ => As _ rfl (φ 51 rfl) ⟨rfl, ψ⟩) ?_)))))))))))
 refine QE.done fun H178 m179 => ?_
 have h180 := m179 _ _ h106
 have h181 := m179 _ _ h107
 have h182 := m179 _ _ h108
 have h183 := m179 _ _ h109
 have h184 := m179 _ _ h110
 have o185 := Own.mono o111 m179
 have m186 := m112.trans m179
 refine AOps.nil ?_
 change AWP _ _ _ _ _ _
 have hin2 := hin
 unfold inR at hin2
 have hsl2 := seen_len fs seen
 have hsl3 := seen_le hnd hlt
 refine AWP.region rfl ?_
 refine V rfl s32 (V rfl rfl (V rfl rfl (V rfl s30 (V rfl rfl (V rfl rfl (C rfl (Bl (cells := [.int .i64 (min sj75.1.1 sj75.1.2), .int .i64 (max sj75.1.1 sj75.1.2)]) rfl tz_115 pl_115 rfl rfl (C rfl (AOp.pcallH («as» := [.agg [.int .i64 (min sj75.1.1 sj75.1.2), .int .i64 (max sj75.1.1 sj75.1.2)], .ptr i1 0 0]) rfl rfl (rfl) tf_59 (c35 _ (by assumption) (by assumption) (min sj75.1.1 sj75.1.2, max sj75.1.1 sj75.1.2) ⟨by unfold inR; omega, by unfold inR; omega⟩ hK hKR h182 h180 h181) ?_)))))))))
 intro H187 m188
 have h189 := m188 _ _ h180
 have h190 := m188 _ _ h181
 have h191 := m188 _ _ h182
 have h192 := m188 _ _ h183
 have h193 := m188 _ _ h184
 have o194 := Own.mono o185 m188
 have m195 := m186.trans m188
 refine V rfl s30 (V rfl rfl (V rfl rfl (C rfl (Bl (cells := [.int .i64 (max sj75.1.1 sj75.1.2), .int .i64 (min sj75.1.1 sj75.1.2)]) rfl tz_115 pl_115 rfl rfl (C rfl (AOp.pcallH («as» := [.agg [.int .i64 (max sj75.1.1 sj75.1.2), .int .i64 (min sj75.1.1 sj75.1.2)], .ptr i1 0 0]) rfl rfl (rfl) tf_59 (c35 _ (by assumption) (by assumption) (max sj75.1.1 sj75.1.2, min sj75.1.1 sj75.1.2) ⟨by unfold inR; omega, by unfold inR; omega⟩ hK hKR h191 h189 h190) ?_))))))
 intro H196 m197
 have h198 := m197 _ _ h189
 have h199 := m197 _ _ h190
 have h200 := m197 _ _ h191
 have h201 := m197 _ _ h192
 have h202 := m197 _ _ h193
 have o203 := Own.mono o194 m197
 have m204 := m195.trans m197
 refine C rfl (Bl (cells := [.int .i64 (min sj75.1.1 sj75.1.2), .int .i64 (max sj75.1.1 sj75.1.2), .int .i64 (alongS fs (min sj75.1.1 sj75.1.2) (max sj75.1.1 sj75.1.2)), .int .i64 (alongS fs (max sj75.1.1 sj75.1.2) (min sj75.1.1 sj75.1.2))]) rfl tz_47 pl_47 rfl rfl (C rfl (AOp.buildSlice (cells := [.int .i64 (min sj75.1.1 sj75.1.2), .int .i64 (max sj75.1.1 sj75.1.2), .int .i64 (alongS fs (min sj75.1.1 sj75.1.2) (max sj75.1.1 sj75.1.2)), .int .i64 (alongS fs (max sj75.1.1 sj75.1.2) (min sj75.1.1 sj75.1.2))]) rfl u_32 ts_47 tz_47 rfl rfl rfl ?_)))
 intro i205 H206 n207 h208 k209
 have h216 := keep k209 (ne_new h198 n207) h198
 have h217 := keep k209 (ne_new h199 n207) h199
 have h218 := keep k209 (ne_new h200 n207) h200
 have h219 := keep k209 (ne_new h201 n207) h201
 have h220 := keep k209 (ne_new h202 n207) h202
 have o221 := Own.keep o203 k209 (Own.notnew o203 n207)
 have m223 := Mono.new m204 n207 k209
 refine C rfl (AOp.append_own (es := 4) (m := 1) (len := ((seen.flatMap (edgeJ fs)).length)) (old := (seen.flatMap (edgeJ fs)).flatMap eE) (cells := [.int .i64 (min sj75.1.1 sj75.1.2), .int .i64 (max sj75.1.1 sj75.1.2), .int .i64 (alongS fs (min sj75.1.1 sj75.1.2) (max sj75.1.1 sj75.1.2)), .int .i64 (alongS fs (max sj75.1.1 sj75.1.2) (min sj75.1.1 sj75.1.2))]) rfl u_32 ts_47 tzn_47 tb_47 (by decide) ni_32 rfl o221 m223 rfl (.slm h208 rfl) (one_of rfl) (by decide) (by first | omega | (simp; omega)) ?_)
 intro v224 H225 o226 m227 k228 j229
 have o230 := Own.snocM (xs := ((seen.flatMap (edgeJ fs)) : List Ed)) (y := (Ed.mk (min sj75.1.1 sj75.1.2) (max sj75.1.1 sj75.1.2) (alongS fs (min sj75.1.1 sj75.1.2) (max sj75.1.1 sj75.1.2)) (alongS fs (max sj75.1.1 sj75.1.2) (min sj75.1.1 sj75.1.2)))) (e := eE) (by simp) o226
 have h231 := (k228 _ no34 (by rw [h216]; simp)).trans h216
 have no232 := j229 _ no34 (by rw [h216]; simp)
 have h233 := (k228 _ no35 (by rw [h217]; simp)).trans h217
 have no234 := j229 _ no35 (by rw [h217]; simp)
 have h235 := (k228 _ no36 (by rw [h218]; simp)).trans h218
 have no236 := j229 _ no36 (by rw [h218]; simp)
 have h237 := (k228 _ no37 (by rw [h219]; simp)).trans h219
 have no238 := j229 _ no37 (by rw [h219]; simp)
 have no240 := j229 _ no92 (by rw [h220]; simp)
 refine A rfl rfl ?_
 refine AOps.nil ?_
 exact ⟨_, by have := seen_lt hnd hlt hnot47 hjl; simp only [List.length_append, List.length_cons, List.length_nil]; omega, (seen ++ [j43]), v224, rfl, s28, s29, s30, s31, rfl, (have hx : (((seen.flatMap (edgeJ fs)) ++ [(Ed.mk (min sj75.1.1 sj75.1.2) (max sj75.1.1 sj75.1.2) (alongS fs (min sj75.1.1 sj75.1.2) (max sj75.1.1 sj75.1.2)) (alongS fs (max sj75.1.1 sj75.1.2) (min sj75.1.1 sj75.1.2)))]) : List Ed) = (seen ++ [j43]).flatMap (edgeJ fs) := (by rw [seen_T hsj76 (.inr b177)]); Own.re o230 (congrArg List.length hx) (congrArg (fun l : List Ed => l.flatMap eE) hx)), no232, no234, no236, no238, h231, h233, h235, h237, m227, by exact nd_snoc hnd hnot47, by exact lt_snoc hlt hjl⟩
end Go.Proofs.T
namespace Go.Proofs.T
open Go Go.AH
set_option maxRecDepth 4000
set_option linter.unusedSimpArgs false
set_option linter.unusedVariables false
theorem c12 (fs : List (List Int)) (hfs : fs.length ≤ 1048576) (hfss : ∀ l ∈ fs, l.length ≤ 1048576) (n : Int) (hn : n ≤ 1000) (hsl : (sides fs).length ≤ 4000000000) : PC Try.prog 16 [.int .i64 n, .sl fs.length (fs.map eF)] (.tup [.agg [.sl ((buildT n fs).ed).length (((buildT n fs).ed).flatMap eE), .sl ((buildT n fs).fan).length (((buildT n fs).fan).map eF), .sl ((buildT n fs).rnd).length (((buildT n fs).rnd).map eBo)], .int .i64 (buildE n fs)]) := by
 intro H0
 refine ACalls.of_body' (n := 94) rfl rfl rfl rfl ?_
 have m0 := Mono.refl H0
 refine AWP.seq (AWP.region rfl ?_)
 refine AOps.cons rfl rfl (AOp.alloc rfl tz_35 ?_)
 intro i1 H2 n3 h4 k5
 have z6 := Mono.free m0 n3
 have m7 := Mono.new m0 n3 k5
 refine AOps.cons rfl rfl (AOp.assign _ rfl rfl ?_)
 refine AWP.seq (AWP.region rfl ?_)
 refine AOps.cons rfl rfl (AOp.move _ rfl rfl (AOps.cons rfl rfl (AOp.makeMap rfl ?_)))
 intro i8 H9 n10 h11 k12
 have e13 := ne_new h4 n10
 have z14 := Mono.free m7 n10
 have h15 := keep k12 (ne_new h4 n10) h4
 have m16 := Mono.new m7 n10 k12
 refine AOps.cons rfl rfl (AOp.build (cells := [.sl fs.length (fs.map eF), .map i8]) rfl tz_87 pl_87 rfl rfl (AOps.cons rfl rfl (AOp.box (.agg [.sl fs.length (fs.map eF), .map i8]) rfl rfl rfl ?_)))
 intro i17 H18 n19 h20 k21
 have e23 := ne_new h11 n19
 have h25 := keep k21 (ne_new h15 n19) h15
 have h26 := keep k21 (ne_new h11 n19) h11
 have m27 := Mono.new m16 n19 k21
 refine AOps.cons rfl rfl (AOp.assign _ rfl rfl ?_)
 refine AWP.seq (AWP.region rfl ?_)
 refine AOps.cons rfl rfl (AOp.makeMap rfl ?_)
 intro i28 H29 n30 h31 k32
 have e33 := ne_new h25 n30
 have e34 := ne_new h26 n30
 have e35 := ne_new h20 n30
 have z36 := Mono.free m27 n30
 have h37 := keep k32 (ne_new h25 n30) h25
 have h38 := keep k32 (ne_new h26 n30) h26
 have h39 := keep k32 (ne_new h20 n30) h20
 have m40 := Mono.new m27 n30 k32
 refine AOps.cons rfl rfl (AOp.assign _ rfl rfl ?_)
 refine AWP.seq ?_
 refine AWP.seq ?_
 have oM : MO H0 H29 [] := MO.nil _ _
 refine AWP.region rfl ?_
 refine AOps.cons rfl rfl (AOp.move _ rfl rfl (AOps.cons rfl rfl (AOp.len (m := fs.length) rfl rfl (.inr (.inl ⟨_, rfl⟩)) u_23 (AOps.cons rfl rfl (AOp.move _ rfl rfl ?_)))))
 refine AWP.block ?_
 refine AWP.loop (fun q41 fq Hq => ∃ (f : Int) (L : List ME), q41 = (((fs.length : Int) : Int) - f).toNat ∧ fq 24 = .int .i64 f ∧ fq 0 = .int .i64 n ∧ fq 4 = .ptr i1 0 0 ∧ fq 6 = .ptr i17 0 0 ∧ fq 7 = .map i28 ∧ fq 22 = .sl fs.length (fs.map eF) ∧ fq 23 = .int .i64 (fs.length : Int) ∧ MO H0 Hq L ∧ NotIdM L i1 ∧ NotIdM L i8 ∧ NotIdM L i17 ∧ NotIdM L i28 ∧ Hq i1 = some (.row 0 ([.snil, .snil, .snil])) ∧ Hq i8 = some (.map ((psides fs f 0).map eS)) ∧ Hq i17 = some (.row 0 ([.sl fs.length (fs.map eF), .map i8])) ∧ Hq i28 = some (.map (L.map eM)) ∧ Mono H0 Hq ∧ (0 ≤ f) ∧ (f ≤ (fs.length : Int)) ∧ (∀ g : Int, 0 ≤ g → g < f → addF n fs g) ∧ (Tells L fun x => mineU fs x f) ∧ ((L.map (·.1)).Nodup) ∧ (∀ e ∈ L, 0 ≤ e.1 ∧ e.1 < n)) (k := (((fs.length : Int) : Int) - 0).toNat) ?_ ?_
 exact ⟨0, ([] : List ME), rfl, rfl, rfl, rfl, rfl, rfl, rfl, rfl, oM, (NotIdM.nil _), (NotIdM.nil _), (NotIdM.nil _), (NotIdM.nil _), h37, h38, h39, h31, m40, by omega, by omega, by intro g; omega, by exact tells_nil fs, by exact .nil, by intro e h; cases h⟩
 rintro _ f43 H42 ⟨f, L, rfl, s44, s45, s46, s47, s48, s49, s50, o51, no52, no53, no54, no55, h56, h57, h58, h59, m60, hf0, hf1, hadd, htell, hkeys, hrng⟩
 refine AWP.seq (AWP.region rfl ?_)
 refine AOps.cons rfl rfl (AOp.bin _ rfl s44 s50 rfl ?_)
 refine AWP.seq ?_
 by_cases b61 : f < (fs.length : Int)
 refine AWP.condT rfl (decide_eq_true b61) ?_
 refine AWP.skip ?_
 refine AWP.seq ?_
 refine AWP.block ?_
 refine AWP.seq (AWP.region rfl ?_)
 refine AOps.cons rfl rfl (AOp.move _ rfl s44 (AOps.cons rfl rfl (AOp.indexAddrS rfl s49 s44 sl_23 (by omega) (by omega) (AOps.cons rfl rfl (AOp.loadF _ rfl rfl ty_38 (ld1 (by omega) (by omega)) (AOps.cons rfl rfl (AOp.assign _ rfl rfl (AOps.cons rfl rfl (AOp.assign _ rfl rfl ?_)))))))))
 refine AWP.seq ?_
 refine AWP.seq (AWP.region rfl ?_)
 refine AOps.cons rfl rfl (AOp.move _ rfl s47 (AOps.cons rfl rfl (AOp.move _ rfl rfl (AOps.cons rfl rfl (AOp.move _ rfl s45 (AOps.cons rfl rfl (AOp.xcall («as» := [.ptr i17 0 0, .int .i64 f, .int .i64 n]) rfl rfl (rfl) tf_40 (c23 _ (by assumption) (by assumption) n f hn (by omega) hadd (Ne.symm e23) h58 h57) ?_)))))))
 rintro rr H62 ⟨m63, L64, h65, hrr⟩
 rcases hrr with ⟨rfl, ha66, rfl⟩ | ⟨rfl, ha66⟩
 have h67 := m63 _ _ (hide_get e13 h56)
 have h68 := m63 _ _ (hide_get (Ne.symm e23) h58)
 have h69 := m63 _ _ (hide_get (Ne.symm e34) h59)
 have o70 := MO.hide_ o51 no53 m63
 have m71 := Mono.hide_ m60 z14 m63
 refine AOps.cons rfl rfl (AOp.not rfl rfl ?_)
 refine AWP.condF rfl rfl ?_
 refine AWP.skip ?_
 refine AWP.seq ?_
 have hai := ha66
 have hap : Apart (at_ fs f) := hai.2.2.1
 have hq : (at_ fs f).length ≤ 1048576 := hfss _ (at_mem (by omega) (by omega))
 refine AWP.region rfl ?_
 refine AOps.cons rfl rfl (AOp.move _ rfl rfl (AOps.cons rfl rfl (AOp.len (m := (at_ fs f).length) rfl rfl (.inr (.inl ⟨_, rfl⟩)) u_38 (AOps.cons rfl rfl (AOp.move _ rfl rfl ?_)))))
 refine AWP.block ?_
 refine AWP.loop (fun q72 fq Hq => ∃ (i : Int) (K : List ME), q72 = ((((at_ fs f).length : Int) : Int) - i).toNat ∧ fq 37 = .int .i64 i ∧ fq 24 = .int .i64 f ∧ fq 0 = .int .i64 n ∧ fq 4 = .ptr i1 0 0 ∧ fq 6 = .ptr i17 0 0 ∧ fq 7 = .map i28 ∧ fq 22 = .sl fs.length (fs.map eF) ∧ fq 23 = .int .i64 (fs.length : Int) ∧ fq 8 = .int .i64 f ∧ fq 35 = .sl (at_ fs f).length ((at_ fs f).map eI) ∧ fq 36 = .int .i64 (((at_ fs f).length) : Int) ∧ MO H0 Hq K ∧ NotIdM K i1 ∧ NotIdM K i17 ∧ NotIdM K i28 ∧ NotIdM K i8 ∧ Hq i1 = some (.row 0 ([.snil, .snil, .snil])) ∧ Hq i17 = some (.row 0 ([.sl fs.length (fs.map eF), .map i8])) ∧ Hq i28 = some (.map (K.map eM)) ∧ Hq i8 = some (.map ((psides fs (f + 1) 0).map eS)) ∧ Mono H0 Hq ∧ (0 ≤ i) ∧ (i ≤ ((at_ fs f).length : Int)) ∧ (Tells K (contM fs f i)) ∧ ((K.map (·.1)).Nodup) ∧ (∀ e ∈ K, 0 ≤ e.1 ∧ e.1 < n)) (k := ((((at_ fs f).length : Int) : Int) - 0).toNat) ?_ ?_
 exact ⟨0, L, rfl, rfl, s44, s45, s46, s47, s48, s49, s50, rfl, rfl, rfl, o70, no52, no54, no55, no53, h67, h68, h69, h65, m71, by omega, by omega, by exact Tells.same htell (fun y => cont_0 fs f y), by exact hkeys, by exact hrng⟩
 rintro _ f74 H73 ⟨i, K, rfl, s75, s76, s77, s78, s79, s80, s81, s82, s83, s84, s85, o86, no87, no88, no89, no90, h91, h92, h93, h94, m95, hi0, hi1, htk, hkeysK, hrngK⟩
 refine AWP.seq (AWP.region rfl ?_)
 refine AOps.cons rfl rfl (AOp.bin _ rfl s75 s85 rfl ?_)
 refine AWP.seq ?_
 by_cases b96 : i < (((at_ fs f).length) : Int)
 refine AWP.condT rfl (decide_eq_true b96) ?_
 refine AWP.skip ?_
 refine AWP.seq ?_
 refine AWP.block ?_
 refine AWP.seq (AWP.region rfl ?_)
 refine AOps.cons rfl rfl (AOp.indexAddrS rfl s84 s75 sl_38 (by omega) (by omega) (AOps.cons rfl rfl (AOp.loadF _ rfl rfl ty_3 (ld1 (by omega) (by omega)) (AOps.cons rfl rfl (AOp.assign _ rfl rfl ?_)))))
 refine AOps.nil ?_
 change AWP _ _ _ _ _ _
 have hxr := hai.2.1 i hi0 (by omega)
 have hrng := hrngK
 have hgl : ((getM K (at_ (at_ fs f) i)).2).length ≤ 1048577 := by rw [htk.get]; exact cont_len hf0 (by omega)
 refine AWP.region rfl ?_
 refine AOps.cons rfl rfl (AOp.move _ rfl s80 (AOps.cons rfl rfl (AOp.move _ rfl rfl (AOps.cons rfl rfl (AOp.move _ rfl s80 (AOps.cons rfl rfl (AOp.move _ rfl rfl ?_)))))))
 obtain ⟨w97, hw98⟩ : ∃ w, w = (getM K (at_ (at_ fs f) i)).1 := ⟨_, rfl⟩
 obtain ⟨oA99, oB100, oC101⟩ := MO.take o86 (at_ (at_ fs f) i)
 rw [← hw98] at oA99 oC101
 have no102 := NotIdM.get no87 (at_ (at_ fs f) i)
 rw [← hw98] at no102
 have no103 := NotIdM.rest no87 (at_ (at_ fs f) i)
 have no104 := NotIdM.get no88 (at_ (at_ fs f) i)
 rw [← hw98] at no104
 have no105 := NotIdM.rest no88 (at_ (at_ fs f) i)
 have no106 := NotIdM.get no89 (at_ (at_ fs f) i)
 rw [← hw98] at no106
 have no107 := NotIdM.rest no89 (at_ (at_ fs f) i)
 have no108 := NotIdM.get no90 (at_ (at_ fs f) i)
 rw [← hw98] at no108
 have no109 := NotIdM.rest no90 (at_ (at_ fs f) i)
 refine AOps.cons rfl rfl (AOp.lookup' rfl rfl h93 rfl (kok3 ⟨by omega, by omega⟩) (kesM hrng hn) tm55 tzv_38 ((mgetM K (at_ (at_ fs f) i)).trans hw98.symm) (AOps.cons rfl rfl (AOp.move _ rfl s83 (AOps.cons rfl rfl (AOp.buildSlice (cells := [.int .i64 f]) rfl u_38 ts_3 tz_3 rfl rfl rfl ?_)))))
 intro i110 H111 n112 h113 k114
 have h120 := keep k114 (ne_new h91 n112) h91
 have h121 := keep k114 (ne_new h92 n112) h92
 have h122 := keep k114 (ne_new h93 n112) h93
 have h123 := keep k114 (ne_new h94 n112) h94
 have o124 := MO.keep oB100 k114 (MO.notnew oB100 n112)
 have o126 := Own.keep oA99 k114 (Own.notnew oA99 n112)
 have m128 := Mono.new m95 n112 k114
 refine AOps.cons rfl rfl (AOp.append_own (es := 1) (m := 1) (len := (((getM K (at_ (at_ fs f) i)).2).length)) (old := ((getM K (at_ (at_ fs f) i)).2).map eI) (cells := [.int .i64 f]) rfl u_38 ts_3 tzn_3 tb_3 (by decide) ni_38 rfl o126 m128 rfl (.slm h113 rfl) (one_of rfl) (by decide) (by first | omega | (simp; omega)) ?_)
 intro v129 H130 o131 m132 k133 j134
 have o135 := Own.snoc1 (xs := (((getM K (at_ (at_ fs f) i)).2) : List Int)) (y := f) (e := eI) (by simp) o131
 have h136 := (k133 _ no102 (by rw [h120]; simp)).trans h120
 have no137 := j134 _ no102 (by rw [h120]; simp)
 have h138 := (k133 _ no104 (by rw [h121]; simp)).trans h121
 have no139 := j134 _ no104 (by rw [h121]; simp)
 have h140 := (k133 _ no106 (by rw [h122]; simp)).trans h122
 have no141 := j134 _ no106 (by rw [h122]; simp)
 have h142 := (k133 _ no108 (by rw [h123]; simp)).trans h123
 have no143 := j134 _ no108 (by rw [h123]; simp)
 have sp145 := MO.sep o124 oC101 j134
 have o144 := MO.stay o124 oC101 k133
 refine AOps.cons rfl rfl (AOp.mapUpdate2 (es' := (putM K (at_ (at_ fs f) i) v129 (((getM K (at_ (at_ fs f) i)).2) ++ [f])).map eM) rfl h140 rfl (kok3 ⟨by omega, by omega⟩) (kesM hrng hn) tm55 rfl (mputM K (at_ (at_ fs f) i) v129 _) ?_)
 intro H146 h147 k148
 have h149 := keep k148 e33 h136
 have h150 := keep k148 e35 h138
 have h152 := keep k148 e34 h142
 have o153 := MO.keep o144 k148 no107
 have o154 := Own.keep o135 k148 no141
 have m155 := Mono.set m132 z36 k148
 have o156 := MO.put (L := K) o153 o154 sp145
 have no157 : NotIdM (putM K (at_ (at_ fs f) i) v129 (((getM K (at_ (at_ fs f) i)).2) ++ [f])) i1 := NotIdM.put no103 no137
 have no158 : NotIdM (putM K (at_ (at_ fs f) i) v129 (((getM K (at_ (at_ fs f) i)).2) ++ [f])) i17 := NotIdM.put no105 no139
 have no159 : NotIdM (putM K (at_ (at_ fs f) i) v129 (((getM K (at_ (at_ fs f) i)).2) ++ [f])) i8 := NotIdM.put no109 no143
 have no160 : NotIdM (putM K (at_ (at_ fs f) i) v129 (((getM K (at_ (at_ fs f) i)).2) ++ [f])) i28 := NotIdM.put no107 no141
 refine AWP.region rfl ?_
 refine AOps.cons rfl rfl (AOp.bin _ rfl s75 rfl (iadd (by omega)) (AOps.cons rfl rfl (AOp.move _ rfl rfl ?_)))
 refine AOps.nil ?_
 exact ⟨_, by omega, i + 1, (putM K (at_ (at_ fs f) i) v129 (((getM K (at_ (at_ fs f) i)).2) ++ [f])), rfl, rfl, s76, s77, s78, s79, s80, s81, s82, s83, s84, s85, o156, no157, no158, no160, no159, h149, h150, h147, h152, m155, by omega, by omega, by exact Tells.put htk (by rw [cont_hit hap hi0 (by omega), htk.get]) (by simp) (fun y hy => cont_miss hi0 (by omega) hy), by exact putM_keys hkeysK, by exact putM_rng hrngK (hai.2.1 i hi0 (by omega))⟩
 refine AWP.condF rfl (decide_eq_false b96) ?_
 refine AWP.exit ?_
 change AWP _ _ _ _ _ _
 refine AWP.region rfl ?_
 refine AOps.cons rfl rfl (AOp.bin _ rfl s76 rfl (iadd (by omega)) (AOps.cons rfl rfl (AOp.move _ rfl rfl ?_)))
 refine AOps.nil ?_
 exact ⟨_, by omega, f + 1, K, rfl, rfl, s77, s78, s79, s80, s81, s82, o86, no87, no90, no88, no89, h91, h94, h92, h93, m95, by omega, by omega, by exact fa_step hadd ha66, by exact Tells.same htk (fun y => (cont_end hf0 (by omega)).symm), by exact hkeysK, by exact hrngK⟩
 have h161 := m63 _ _ (hide_get e13 h56)
 have h162 := m63 _ _ (hide_get (Ne.symm e23) h58)
 have h163 := m63 _ _ (hide_get (Ne.symm e34) h59)
 have o164 := MO.hide_ o51 no53 m63
 have m165 := Mono.hide_ m60 z14 m63
 refine AOps.cons rfl rfl (AOp.not rfl rfl ?_)
 refine AWP.condT rfl rfl ?_
 refine AWP.seq (AWP.region rfl ?_)
 refine AOps.cons rfl rfl (AOp.build (cells := [.snil, .snil, .snil]) rfl tz_35 pl_35 rfl rfl (AOps.cons rfl rfl (AOp.store' (cells' := [.snil, .snil, .snil]) (.agg [.snil, .snil, .snil]) s46 rfl ts_35 h161 rfl rfl rfl rfl ?_)))
 intro H166 h167 k168
 have o173 := MO.keep o164 k168 no52
 have m174 := Mono.set m165 z6 k168
 refine AOps.cons rfl rfl (AOp.assign _ rfl rfl ?_)
 refine AWP.ret ?_
 refine Fin.frzCell 0 (Own.nil H0 H166 1) h167 z6 rfl (NotId.nil _) m174 fun H175 h176 m177 k178 => ?_
 have o182 := MO.stay2 o173 (SepM.nilR _) no52 k178
 have h183 : H175 i1 = some (.row 0 ([.sl 0 ([]), .snil, .snil])) := h176
 refine Fin.frzCell 1 (Own.nil H0 H175 1) h183 z6 rfl (NotId.nil _) m177 fun H184 h185 m186 k187 => ?_
 have o191 := MO.stay2 o182 (SepM.nilR _) no52 k187
 have h192 : H184 i1 = some (.row 0 ([.sl 0 ([]), .sl 0 ([]), .snil])) := h185
 refine Fin.frzCell 2 (Own.nil H0 H184 1) h192 z6 rfl (NotId.nil _) m186 fun H193 h194 m195 k196 => ?_
 have o200 := MO.stay2 o191 (SepM.nilR _) no52 k196
 have h201 : H193 i1 = some (.row 0 ([.sl 0 ([]), .sl 0 ([]), .sl 0 ([])])) := h194
 refine ⟨_, _, Ghost.refl, .inr rfl, _, Res.list rfl rfl (.cell (v := .agg [.sl 0 ([]), .sl 0 ([]), .sl 0 ([])]) s46 ty_35 h201 rfl (.tmp rfl (.nil))), ?_, m195⟩
 exact congrArg AV.tup (lc (congrArg AV.agg (lc (congrArg (fun l : List Ed => AV.sl l.length (l.flatMap eE)) (show ([] : List Ed) = (buildT n fs).ed from by rw [(build_no (fun h => ha66 (good_add.1 h.2.1 f hf0 (by omega)))).1])) (lc (congrArg (fun l : List (List Int) => AV.sl l.length (l.map eF)) (show ([] : List (List Int)) = (buildT n fs).fan from by rw [(build_no (fun h => ha66 (good_add.1 h.2.1 f hf0 (by omega)))).1])) (lc (congrArg (fun l : List Bool => AV.sl l.length (l.map eBo)) (show ([] : List Bool) = (buildT n fs).rnd from by rw [(build_no (fun h => ha66 (good_add.1 h.2.1 f hf0 (by omega)))).1])) rfl)))) (lc (congrArg (AV.int .i64) (show (14 : Int) = buildE n fs from by rw [(build_no (fun h => ha66 (good_add.1 h.2.1 f hf0 (by omega)))).2])) rfl))
 refine AWP.condF rfl (decide_eq_false b61) ?_
 refine AWP.exit ?_
 change AWP _ _ _ _ _ _
 refine AWP.seq ?_
 refine AWP.seq (AWP.region rfl ?_)
 refine AOps.cons rfl rfl (AOp.move _ rfl s45 (AOps.cons rfl rfl (AOp.bin _ rfl rfl rfl rfl (AOps.cons rfl rfl (AOp.move _ rfl rfl ?_)))))
 by_cases b202 : n < 0
 refine AOps.no rfl rfl rfl rfl rfl rfl rfl (ble_of (decide_eq_true b202) (by decide)) (AOps.no rfl rfl rfl rfl rfl rfl rfl (ble_of (decide_eq_true b202) (by decide)) (AOps.no rfl rfl rfl rfl rfl rfl rfl (ble_of (decide_eq_true b202) (by decide)) (AOps.no rfl rfl rfl rfl rfl rfl rfl (ble_of (decide_eq_true b202) (by decide)) (AOps.cons rfl rfl (AOp.pickT _ rfl rfl (decide_eq_true b202) rfl ?_)))))
 refine AWP.condT rfl rfl ?_
 refine AWP.seq ?_
 have hfe : f = fs.length := by omega
 skip
 refine AWP.region rfl ?_
 refine AOps.cons rfl rfl (AOp.build (cells := [.snil, .snil, .snil]) rfl tz_35 pl_35 rfl rfl (AOps.cons rfl rfl (AOp.store' (cells' := [.snil, .snil, .snil]) (.agg [.snil, .snil, .snil]) s46 rfl ts_35 h56 rfl rfl rfl rfl ?_)))
 intro H203 h204 k205
 have o210 := MO.keep o51 k205 no52
 have m211 := Mono.set m60 z6 k205
 refine AOps.cons rfl rfl (AOp.assign _ rfl rfl ?_)
 refine AWP.ret ?_
 refine Fin.frzCell 0 (Own.nil H0 H203 1) h204 z6 rfl (NotId.nil _) m211 fun H212 h213 m214 k215 => ?_
 have o219 := MO.stay2 o210 (SepM.nilR _) no52 k215
 have h220 : H212 i1 = some (.row 0 ([.sl 0 ([]), .snil, .snil])) := h213
 refine Fin.frzCell 1 (Own.nil H0 H212 1) h220 z6 rfl (NotId.nil _) m214 fun H221 h222 m223 k224 => ?_
 have o228 := MO.stay2 o219 (SepM.nilR _) no52 k224
 have h229 : H221 i1 = some (.row 0 ([.sl 0 ([]), .sl 0 ([]), .snil])) := h222
 refine Fin.frzCell 2 (Own.nil H0 H221 1) h229 z6 rfl (NotId.nil _) m223 fun H230 h231 m232 k233 => ?_
 have o237 := MO.stay2 o228 (SepM.nilR _) no52 k233
 have h238 : H230 i1 = some (.row 0 ([.sl 0 ([]), .sl 0 ([]), .sl 0 ([])])) := h231
 refine ⟨_, _, Ghost.refl, .inr rfl, _, Res.list rfl rfl (.cell (v := .agg [.sl 0 ([]), .sl 0 ([]), .sl 0 ([])]) s46 ty_35 h238 rfl (.tmp rfl (.nil))), ?_, m232⟩
 exact congrArg AV.tup (lc (congrArg AV.agg (lc (congrArg (fun l : List Ed => AV.sl l.length (l.flatMap eE)) (show ([] : List Ed) = (buildT n fs).ed from by rw [(build_no (fun h => absurd h.1 (by omega))).1])) (lc (congrArg (fun l : List (List Int) => AV.sl l.length (l.map eF)) (show ([] : List (List Int)) = (buildT n fs).fan from by rw [(build_no (fun h => absurd h.1 (by omega))).1])) (lc (congrArg (fun l : List Bool => AV.sl l.length (l.map eBo)) (show ([] : List Bool) = (buildT n fs).rnd from by rw [(build_no (fun h => absurd h.1 (by omega))).1])) rfl)))) (lc (congrArg (AV.int .i64) (show (14 : Int) = buildE n fs from by rw [(build_no (fun h => absurd h.1 (by omega))).2])) rfl))
 refine AOps.yes rfl rfl rfl rfl rfl rfl rfl (decide_eq_false b202) (AOp.move _ rfl s48 (AOps.yes rfl rfl rfl rfl rfl rfl rfl (decide_eq_false b202) (AOp.lenMap rfl rfl h59 u_88 (AOps.yes rfl rfl rfl rfl rfl rfl rfl (decide_eq_false b202) (AOp.move _ rfl s45 (AOps.yes rfl rfl rfl rfl rfl rfl rfl (decide_eq_false b202) (AOp.bin _ rfl rfl rfl ine (AOps.cons rfl rfl (AOp.pickF _ rfl rfl (decide_eq_false b202) rfl ?_)))))))))
 refine AOps.nil ?_
 change AWP _ _ _ _ _ _
 by_cases b239 : (((L.map eM).length) : Int) = n
 refine AWP.condF rfl (nb (decide_eq_true b239)) ?_
 refine AWP.skip ?_
 refine AWP.seq ?_
 rw [psides_0, take_all (by omega)] at h57
 have hfe : f = fs.length := by omega
 have hg : goodS n fs := good_add.2 (fun g h0 h1 => hadd g h0 (by omega))
 rw [hfe] at htell
 refine AWP.region rfl ?_
 refine AOps.cons rfl rfl (AOp.move _ rfl s47 (AOps.cons rfl rfl (AOp.pcallH («as» := [.ptr i17 0 0]) rfl rfl (rfl) tf_41 (c24 _ (by assumption) (by assumption) _ (by omega) (by assumption) (by assumption) h58 h57) ?_)))
 intro H240 m241
 have h242 := m241 _ _ h56
 have h243 := m241 _ _ h57
 have h244 := m241 _ _ h58
 have h245 := m241 _ _ h59
 have o246 := MO.mono o51 m241
 have m247 := m60.trans m241
 refine AOps.cons rfl rfl (AOp.build (cells := [.sl (eOut fs n n).length ((eOut fs n n).flatMap eE), .snil, .snil]) rfl tz_35 pl_35 rfl rfl (AOps.cons rfl rfl (AOp.alloc rfl tz_35 ?_)))
 intro i248 H249 n250 h251 k252
 have e253 := ne_new h242 n250
 have e254 := ne_new h243 n250
 have e255 := ne_new h244 n250
 have e256 := ne_new h245 n250
 have z257 := Mono.free m247 n250
 have h258 := keep k252 (ne_new h242 n250) h242
 have h259 := keep k252 (ne_new h243 n250) h243
 have h260 := keep k252 (ne_new h244 n250) h244
 have h261 := keep k252 (ne_new h245 n250) h245
 have o262 := MO.keep o246 k252 (MO.notnew o246 n250)
 have no263 := MO.notnew o246 n250
 have m264 := Mono.new m247 n250 k252
 refine AOps.cons rfl rfl (AOp.store' (cells' := [.sl (eOut fs n n).length ((eOut fs n n).flatMap eE), .snil, .snil]) (.agg [.sl (eOut fs n n).length ((eOut fs n n).flatMap eE), .snil, .snil]) rfl rfl ts_35 h251 rfl rfl rfl rfl ?_)
 intro H265 h266 k267
 have h268 := keep k267 e253 h258
 have h269 := keep k267 e254 h259
 have h270 := keep k267 e255 h260
 have h271 := keep k267 e256 h261
 have o273 := MO.keep o262 k267 no263
 have m274 := Mono.set m264 z257 k267
 refine AWP.seq ?_
 refine AWP.seq (AWP.region rfl ?_)
 refine AOps.cons rfl rfl (AOp.move _ rfl s45 (AOps.cons rfl rfl (AOp.move _ rfl rfl ?_)))
 refine AWP.block ?_
 refine AWP.loop (fun q275 fq Hq => ∃ (c : Int) (w12_1 : AV) (w12_2 : AV), q275 = (n - c).toNat ∧ fq 64 = .int .i64 c ∧ fq 4 = .ptr i1 0 0 ∧ fq 6 = .ptr i17 0 0 ∧ fq 7 = .map i28 ∧ fq 12 = .ptr i248 0 0 ∧ fq 63 = .int .i64 n ∧ Own H0 Hq 1 w12_1 (fansU fs c).length ((fansU fs c).map eF) ∧ Own H0 Hq 1 w12_2 (rndU fs c).length ((rndU fs c).map eBo) ∧ NotId w12_1 i1 ∧ NotId w12_1 i8 ∧ NotId w12_1 i17 ∧ NotId w12_1 i28 ∧ NotId w12_1 i248 ∧ NotId w12_2 i1 ∧ NotId w12_2 i8 ∧ NotId w12_2 i17 ∧ NotId w12_2 i28 ∧ NotId w12_2 i248 ∧ Sep w12_1 w12_2 ∧ MO H0 Hq (L.filter (fun e => decide (c ≤ e.1))) ∧ NotIdM (L.filter (fun e => decide (c ≤ e.1))) i1 ∧ NotIdM (L.filter (fun e => decide (c ≤ e.1))) i8 ∧ NotIdM (L.filter (fun e => decide (c ≤ e.1))) i17 ∧ NotIdM (L.filter (fun e => decide (c ≤ e.1))) i28 ∧ NotIdM (L.filter (fun e => decide (c ≤ e.1))) i248 ∧ SepM (L.filter (fun e => decide (c ≤ e.1))) w12_1 ∧ SepM (L.filter (fun e => decide (c ≤ e.1))) w12_2 ∧ Hq i1 = some (.row 0 ([.snil, .snil, .snil])) ∧ Hq i8 = some (.map ((sides fs).map eS)) ∧ Hq i17 = some (.row 0 ([.sl fs.length (fs.map eF), .map i8])) ∧ Hq i28 = some (.map (L.map eM)) ∧ Hq i248 = some (.row 0 ([.sl (eOut fs n n).length ((eOut fs n n).flatMap eE), w12_1, w12_2])) ∧ Mono H0 Hq ∧ (0 ≤ c) ∧ (c ≤ n) ∧ (∀ j : Int, 0 ≤ j → j < c → fanOK fs j = true)) (k := (n - 0).toNat) ?_ ?_
 exact ⟨0, .snil, .snil, rfl, rfl, s46, s47, s48, rfl, rfl, Own.nil _ _ _, Own.nil _ _ _, (NotId.nil _), (NotId.nil _), (NotId.nil _), (NotId.nil _), (NotId.nil _), (NotId.nil _), (NotId.nil _), (NotId.nil _), (NotId.nil _), (NotId.nil _), (Sep.nilL _), ((filter_start (fun e he => (hrng e he).1)) ▸ o273), ((filter_start (fun e he => (hrng e he).1)) ▸ no52), ((filter_start (fun e he => (hrng e he).1)) ▸ no53), ((filter_start (fun e he => (hrng e he).1)) ▸ no54), ((filter_start (fun e he => (hrng e he).1)) ▸ no55), ((filter_start (fun e he => (hrng e he).1)) ▸ no263), ((filter_start (fun e he => (hrng e he).1)) ▸ (SepM.nilR _)), ((filter_start (fun e he => (hrng e he).1)) ▸ (SepM.nilR _)), h268, h269, h270, h271, h266, m274, by omega, by omega, by intro j; omega⟩
 rintro _ f277 H276 ⟨c, w12_1, w12_2, rfl, s278, s279, s280, s281, s282, s283, o284, o285, no286, no287, no288, no289, no290, no291, no292, no293, no294, no295, sp296, o297, no298, no299, no300, no301, no302, sp303, sp304, h305, h306, h307, h308, h309, m310, hc0, hc1, hf⟩
 refine AWP.seq (AWP.region rfl ?_)
 refine AOps.cons rfl rfl (AOp.bin _ rfl s278 s283 rfl ?_)
 refine AWP.seq ?_
 by_cases b311 : c < n
 refine AWP.condT rfl (decide_eq_true b311) ?_
 refine AWP.skip ?_
 refine AWP.seq ?_
 refine AWP.block ?_
 refine AWP.seq (AWP.region rfl ?_)
 refine AOps.cons rfl rfl (AOp.move _ rfl s278 (AOps.cons rfl rfl (AOp.assign _ rfl rfl ?_)))
 refine AWP.seq (AWP.region rfl ?_)
 refine AOps.cons rfl rfl (AOp.move _ rfl s280 (AOps.cons rfl rfl (AOp.move _ rfl rfl (AOps.cons rfl rfl (AOp.move _ rfl s281 (AOps.cons rfl rfl (AOp.move _ rfl rfl ?_)))))))
 obtain ⟨w312, hw313⟩ : ∃ w, w = (getM L c).1 := ⟨_, rfl⟩
 obtain ⟨oA314, oB315, oC316⟩ := MO.take_at o297 (htell.get c)
 rw [← hw313] at oA314 oC316
 have no317 := NotIdM.get no298 c
 rw [getM_filter, ← hw313] at no317
 have no318 := NotIdM.rest no298 c
 have no319 := NotIdM.get no299 c
 rw [getM_filter, ← hw313] at no319
 have no320 := NotIdM.rest no299 c
 have no321 := NotIdM.get no300 c
 rw [getM_filter, ← hw313] at no321
 have no322 := NotIdM.rest no300 c
 have no323 := NotIdM.get no301 c
 rw [getM_filter, ← hw313] at no323
 have no324 := NotIdM.rest no301 c
 have no325 := NotIdM.get no302 c
 rw [getM_filter, ← hw313] at no325
 have no326 := NotIdM.rest no302 c
 have sp327 := SepM.get sp303 c
 rw [getM_filter, ← hw313] at sp327
 have sp328 := SepM.rest sp303 c
 have sp329 := SepM.get sp304 c
 rw [getM_filter, ← hw313] at sp329
 have sp330 := SepM.rest sp304 c
 refine AOps.cons rfl rfl (AOp.lookup' rfl rfl h308 rfl (kok3 ⟨by omega, by omega⟩) (kesM hrng hn) tm55 tzv_38 ((mgetM L c).trans hw313.symm) (AOps.cons rfl rfl ?_))
 refine AOp.frz 72 oA314 rfl m310 fun H331 m332 k333 => ?_
 have h334 := (k333 _ no317).trans h305
 have h335 := (k333 _ no319).trans h306
 have h336 := (k333 _ no321).trans h307
 have h337 := (k333 _ no323).trans h308
 have h338 := (k333 _ no325).trans h309
 have o339 := Own.stay o284 (Sep.symm sp327) (fun i hi _ => k333 i hi)
 have o340 := Own.stay o285 (Sep.symm sp329) (fun i hi _ => k333 i hi)
 have o341 := MO.stay oB315 oC316 (fun i hi _ => k333 i hi)
 refine AOp.pcallH («as» := [.ptr i17 0 0, .int .i64 c, .sl (mineU fs c fs.length).length ((mineU fs c fs.length).map eI)]) rfl rfl (rfl) tf_42 (c25 _ (by assumption) (by assumption) _ _ (by omega) (by omega) (by assumption) h336 h335) ?_
 intro H342 m343
 have h344 := m343 _ _ h334
 have h345 := m343 _ _ h335
 have h346 := m343 _ _ h336
 have h347 := m343 _ _ h337
 have h348 := m343 _ _ h338
 have o349 := Own.mono o339 m343
 have o350 := Own.mono o340 m343
 have o351 := MO.mono o341 m343
 have m352 := m332.trans m343
 refine AOps.cons rfl rfl (AOp.move _ rfl rfl (AOps.cons rfl rfl (AOp.extract _ rfl rfl rfl (AOps.cons rfl rfl (AOp.extract _ rfl rfl rfl (AOps.cons rfl rfl (AOp.extract _ rfl rfl rfl (AOps.cons rfl rfl (AOp.assign _ rfl rfl (AOps.cons rfl rfl (AOp.assign _ rfl rfl ?_)))))))))))
 refine AOps.cons rfl rfl (AOp.assign _ rfl rfl ?_)
 refine AWP.seq ?_
 refine AWP.seq (AWP.region rfl ?_)
 refine AOps.cons rfl rfl (AOp.move _ rfl rfl (AOps.cons rfl rfl (AOp.not rfl rfl ?_)))
 refine AOps.nil ?_
 change AWP _ _ _ _ _ _
 rcases Bool.eq_false_or_eq_true (fanOK fs c) with b353 | b353
 refine AWP.condF rfl (nb b353) ?_
 refine AWP.skip ?_
 refine AWP.seq ?_
 have hl3 : (fansU fs c).length ≤ 1000 := by simp [fansU]; omega
 have hl4 : (rndU fs c).length ≤ 1000 := by simp [rndU]; omega
 refine AWP.region rfl ?_
 refine AOps.cons rfl rfl (AOp.fieldAddr rfl s282 fl_35_1 ?_ (hid := ⟨_, h348⟩))
 refine AOps.cons rfl rfl (AOp.load _ rfl rfl ty_23 h348 rfl (AOps.cons rfl rfl (AOp.move _ rfl rfl (AOps.cons rfl rfl (AOp.buildSlice (cells := [.sl (fanL fs c).length ((fanL fs c).map eI)]) rfl u_23 ts_38 tz_38 rfl rfl rfl ?_)))))
 intro i354 H355 n356 h357 k358
 have h365 := keep k358 (ne_new h344 n356) h344
 have h366 := keep k358 (ne_new h345 n356) h345
 have h367 := keep k358 (ne_new h346 n356) h346
 have h368 := keep k358 (ne_new h347 n356) h347
 have h369 := keep k358 (ne_new h348 n356) h348
 have o370 := Own.keep o349 k358 (Own.notnew o349 n356)
 have o372 := Own.keep o350 k358 (Own.notnew o350 n356)
 have o374 := MO.keep o351 k358 (MO.notnew o351 n356)
 have m376 := Mono.new m352 n356 k358
 refine AOps.cons rfl rfl (AOp.append_own (es := 1) (m := 1) (len := ((fansU fs c).length)) (old := (fansU fs c).map eF) (cells := [.sl (fanL fs c).length ((fanL fs c).map eI)]) rfl u_23 ts_38 tzn_38 tb_38 (by decide) ni_23 rfl o370 m376 rfl (.slm h357 rfl) (one_of rfl) (by decide) (by first | omega | (simp; omega)) ?_)
 intro v377 H378 o379 m380 k381 j382
 have o383 := Own.snoc1 (xs := ((fansU fs c) : List (List Int))) (y := fanL fs c) (e := eF) (by simp) o379
 have h384 := (k381 _ no286 (by rw [h365]; simp)).trans h365
 have no385 := j382 _ no286 (by rw [h365]; simp)
 have h386 := (k381 _ no287 (by rw [h366]; simp)).trans h366
 have no387 := j382 _ no287 (by rw [h366]; simp)
 have h388 := (k381 _ no288 (by rw [h367]; simp)).trans h367
 have no389 := j382 _ no288 (by rw [h367]; simp)
 have h390 := (k381 _ no289 (by rw [h368]; simp)).trans h368
 have no391 := j382 _ no289 (by rw [h368]; simp)
 have h392 := (k381 _ no290 (by rw [h369]; simp)).trans h369
 have no393 := j382 _ no290 (by rw [h369]; simp)
 have sp395 := Own.sep o372 (Sep.symm sp296) j382
 have o394 := Own.stay o372 (Sep.symm sp296) k381
 have sp397 := MO.sep o374 sp328 j382
 have o396 := MO.stay o374 sp328 k381
 refine AOps.cons rfl rfl (AOp.fieldAddr rfl s282 fl_35_1 ?_ (hid := ⟨_, h392⟩))
 refine AOps.cons rfl rfl (AOp.storeO (cells' := [.sl (eOut fs n n).length ((eOut fs n n).flatMap eE), v377, w12_2]) rfl rfl o383 ts_23 h392 rfl rfl ?_)
 intro H398 h399 k400
 have h401 := keep k400 e253 h384
 have h402 := keep k400 e254 h386
 have h403 := keep k400 e255 h388
 have h404 := keep k400 e256 h390
 have o406 := Own.keep o394 k400 no295
 have o407 := MO.keep o396 k400 no326
 have o408 := Own.keep o383 k400 no393
 have m409 := Mono.set m380 z257 k400
 refine AWP.region rfl ?_
 refine AOps.cons rfl rfl (AOp.fieldAddr rfl s282 fl_35_2 ?_ (hid := ⟨_, h399⟩))
 refine AOps.cons rfl rfl (AOp.load _ rfl rfl ty_33 h399 rfl (AOps.cons rfl rfl (AOp.move _ rfl rfl (AOps.cons rfl rfl (AOp.buildSlice (cells := [.bool (fanR fs c)]) rfl u_33 ts_4 tz_4 rfl rfl rfl ?_)))))
 intro i410 H411 n412 h413 k414
 have h421 := keep k414 (ne_new h401 n412) h401
 have h422 := keep k414 (ne_new h402 n412) h402
 have h423 := keep k414 (ne_new h403 n412) h403
 have h424 := keep k414 (ne_new h404 n412) h404
 have h425 := keep k414 (ne_new h399 n412) h399
 have o426 := Own.keep o406 k414 (Own.notnew o406 n412)
 have o428 := MO.keep o407 k414 (MO.notnew o407 n412)
 have o430 := Own.keep o408 k414 (Own.notnew o408 n412)
 have m432 := Mono.new m409 n412 k414
 refine AOps.cons rfl rfl (AOp.append_own (es := 1) (m := 1) (len := ((rndU fs c).length)) (old := (rndU fs c).map eBo) (cells := [.bool (fanR fs c)]) rfl u_33 ts_4 tzn_4 tb_4 (by decide) ni_33 rfl o426 m432 rfl (.slm h413 rfl) (one_of rfl) (by decide) (by first | omega | (simp; omega)) ?_)
 intro v433 H434 o435 m436 k437 j438
 have o439 := Own.snoc1 (xs := ((rndU fs c) : List Bool)) (y := fanR fs c) (e := eBo) (by simp) o435
 have h440 := (k437 _ no291 (by rw [h421]; simp)).trans h421
 have no441 := j438 _ no291 (by rw [h421]; simp)
 have h442 := (k437 _ no292 (by rw [h422]; simp)).trans h422
 have no443 := j438 _ no292 (by rw [h422]; simp)
 have h444 := (k437 _ no293 (by rw [h423]; simp)).trans h423
 have no445 := j438 _ no293 (by rw [h423]; simp)
 have h446 := (k437 _ no294 (by rw [h424]; simp)).trans h424
 have no447 := j438 _ no294 (by rw [h424]; simp)
 have h448 := (k437 _ no295 (by rw [h425]; simp)).trans h425
 have no449 := j438 _ no295 (by rw [h425]; simp)
 have sp451 := MO.sep o428 sp330 j438
 have o450 := MO.stay o428 sp330 k437
 have sp453 := Own.sep o430 (Sep.symm sp395) j438
 have o452 := Own.stay o430 (Sep.symm sp395) k437
 refine AOps.cons rfl rfl (AOp.fieldAddr rfl s282 fl_35_2 ?_ (hid := ⟨_, h448⟩))
 refine AOps.cons rfl rfl (AOp.storeO (cells' := [.sl (eOut fs n n).length ((eOut fs n n).flatMap eE), v377, v433]) rfl rfl o439 ts_33 h448 rfl rfl ?_)
 intro H454 h455 k456
 have h457 := keep k456 e253 h440
 have h458 := keep k456 e254 h442
 have h459 := keep k456 e255 h444
 have h460 := keep k456 e256 h446
 have o462 := MO.keep o450 k456 no326
 have o463 := Own.keep o452 k456 no393
 have o464 := Own.keep o439 k456 no449
 have m465 := Mono.set m436 z257 k456
 refine AWP.region rfl ?_
 refine AOps.cons rfl rfl (AOp.bin _ rfl s278 rfl (iadd (by omega)) (AOps.cons rfl rfl (AOp.move _ rfl rfl ?_)))
 refine AOps.nil ?_
 exact ⟨_, by omega, c + 1, v377, v433, rfl, rfl, s279, s280, s281, s282, s283, (have hx : (((fansU fs c) ++ [fanL fs c]) : List (List Int)) = fansU fs (c + 1) := (by rw [fansU_step hc0]); Own.re o463 (congrArg List.length hx) (congrArg (fun l : List (List Int) => l.map eF) hx)), (have hx : (((rndU fs c) ++ [fanR fs c]) : List Bool) = rndU fs (c + 1) := (by rw [rndU_step hc0]); Own.re o464 (congrArg List.length hx) (congrArg (fun l : List Bool => l.map eBo) hx)), no385, no387, no389, no391, no393, no441, no443, no445, no447, no449, sp453, (filter_step ▸ o462), (filter_step ▸ no318), (filter_step ▸ no320), (filter_step ▸ no322), (filter_step ▸ no324), (filter_step ▸ no326), (filter_step ▸ sp397), (filter_step ▸ sp451), h457, h458, h459, h460, h455, m465, by omega, by omega, by exact fa_step hf b353⟩
 refine AWP.condT rfl (nb b353) ?_
 refine AWP.seq (AWP.region rfl ?_)
 refine AOps.cons rfl rfl (AOp.build (cells := [.snil, .snil, .snil]) rfl tz_35 pl_35 rfl rfl (AOps.cons rfl rfl (AOp.store' (cells' := [.snil, .snil, .snil]) (.agg [.snil, .snil, .snil]) s279 rfl ts_35 h344 rfl rfl rfl rfl ?_)))
 intro H466 h467 k468
 have o474 := Own.keep o349 k468 no286
 have o475 := Own.keep o350 k468 no291
 have o476 := MO.keep o351 k468 no318
 have m477 := Mono.set m352 z6 k468
 refine AOps.cons rfl rfl (AOp.assign _ rfl rfl ?_)
 refine AWP.ret ?_
 refine Fin.frzCell 0 (Own.nil H0 H466 1) h467 z6 rfl (NotId.nil _) m477 fun H478 h479 m480 k481 => ?_
 have o486 := Own.stay2 o474 (Sep.nilR _) no286 k481
 have o487 := Own.stay2 o475 (Sep.nilR _) no291 k481
 have o488 := MO.stay2 o476 (SepM.nilR _) no318 k481
 have h489 : H478 i1 = some (.row 0 ([.sl 0 ([]), .snil, .snil])) := h479
 refine Fin.frzCell 1 (Own.nil H0 H478 1) h489 z6 rfl (NotId.nil _) m480 fun H490 h491 m492 k493 => ?_
 have o498 := Own.stay2 o486 (Sep.nilR _) no286 k493
 have o499 := Own.stay2 o487 (Sep.nilR _) no291 k493
 have o500 := MO.stay2 o488 (SepM.nilR _) no318 k493
 have h501 : H490 i1 = some (.row 0 ([.sl 0 ([]), .sl 0 ([]), .snil])) := h491
 refine Fin.frzCell 2 (Own.nil H0 H490 1) h501 z6 rfl (NotId.nil _) m492 fun H502 h503 m504 k505 => ?_
 have o510 := Own.stay2 o498 (Sep.nilR _) no286 k505
 have o511 := Own.stay2 o499 (Sep.nilR _) no291 k505
 have o512 := MO.stay2 o500 (SepM.nilR _) no318 k505
 have h513 : H502 i1 = some (.row 0 ([.sl 0 ([]), .sl 0 ([]), .sl 0 ([])])) := h503
 refine ⟨_, _, Ghost.refl, .inr rfl, _, Res.list rfl rfl (.cell (v := .agg [.sl 0 ([]), .sl 0 ([]), .sl 0 ([])]) s279 ty_35 h513 rfl (.tmp rfl (.nil))), ?_, m504⟩
 exact congrArg AV.tup (lc (congrArg AV.agg (lc (congrArg (fun l : List Ed => AV.sl l.length (l.flatMap eE)) (show ([] : List Ed) = (buildT n fs).ed from by rw [(build_no (fun h => absurd (h.2.2 c hc0 (by omega)) (by simp [b353]))).1])) (lc (congrArg (fun l : List (List Int) => AV.sl l.length (l.map eF)) (show ([] : List (List Int)) = (buildT n fs).fan from by rw [(build_no (fun h => absurd (h.2.2 c hc0 (by omega)) (by simp [b353]))).1])) (lc (congrArg (fun l : List Bool => AV.sl l.length (l.map eBo)) (show ([] : List Bool) = (buildT n fs).rnd from by rw [(build_no (fun h => absurd (h.2.2 c hc0 (by omega)) (by simp [b353]))).1])) rfl)))) (lc (congrArg (AV.int .i64) (show (14 : Int) = buildE n fs from by rw [(build_no (fun h => absurd (h.2.2 c hc0 (by omega)) (by simp [b353]))).2])) rfl))
 refine AWP.condF rfl (decide_eq_false b311) ?_
 refine AWP.exit ?_
 change AWP _ _ _ _ _ _
 refine AWP.seq ?_
 have hcn : c = n := by omega
 have hok : okS n fs := ⟨by omega, hg, fun j h1 h2 => hf j h1 (by omega)⟩
 refine AWP.region rfl ?_
 refine AOps.cons rfl rfl (AOp.load _ rfl s282 ty_35 h309 rfl (AOps.cons rfl rfl (AOp.store' (cells' := [.sl (eOut fs n n).length ((eOut fs n n).flatMap eE), w12_1, w12_2]) (.agg [.sl (eOut fs n n).length ((eOut fs n n).flatMap eE), w12_1, w12_2]) s279 rfl ts_35 h305 (by simp only [AV.cells, List.all_cons, List.all_nil, Own.one_ o284, Own.one_ o285]; rfl) rfl rfl rfl ?_)))
 intro H514 h515 k516
 have o522 := Own.keep o284 k516 no286
 have o523 := Own.keep o285 k516 no291
 have o524 := MO.keep o297 k516 no298
 have m525 := Mono.set m310 z6 k516
 refine AOps.cons rfl rfl (AOp.assign _ rfl rfl ?_)
 refine AWP.ret ?_
 refine Fin.frzCell 1 o522 h515 z6 rfl no286 m525 fun H526 h527 m528 k529 => ?_
 have o534 := Own.stay2 o523 (Sep.symm sp296) no291 k529
 have o535 := MO.stay2 o524 sp303 no298 k529
 have h536 : H526 i1 = some (.row 0 ([.sl (eOut fs n n).length ((eOut fs n n).flatMap eE), .sl (fansU fs c).length ((fansU fs c).map eF), w12_2])) := h527
 refine Fin.frzCell 2 o534 h536 z6 rfl no291 m528 fun H537 h538 m539 k540 => ?_
 have o545 := MO.stay2 o535 sp304 no298 k540
 have h546 : H537 i1 = some (.row 0 ([.sl (eOut fs n n).length ((eOut fs n n).flatMap eE), .sl (fansU fs c).length ((fansU fs c).map eF), .sl (rndU fs c).length ((rndU fs c).map eBo)])) := h538
 refine ⟨_, _, Ghost.refl, .inr rfl, _, Res.list rfl rfl (.cell (v := .agg [.sl (eOut fs n n).length ((eOut fs n n).flatMap eE), .sl (fansU fs c).length ((fansU fs c).map eF), .sl (rndU fs c).length ((rndU fs c).map eBo)]) s279 ty_35 h546 rfl (.tmp rfl (.nil))), ?_, m539⟩
 exact congrArg AV.tup (lc (congrArg AV.agg (lc (congrArg (fun l : List Ed => AV.sl l.length (l.flatMap eE)) (show (eOut fs n n : List Ed) = (buildT n fs).ed from by simp only [(build_ok hok).1, hcn])) (lc (congrArg (fun l : List (List Int) => AV.sl l.length (l.map eF)) (show ((fansU fs c) : List (List Int)) = (buildT n fs).fan from by simp only [(build_ok hok).1, hcn])) (lc (congrArg (fun l : List Bool => AV.sl l.length (l.map eBo)) (show ((rndU fs c) : List Bool) = (buildT n fs).rnd from by simp only [(build_ok hok).1, hcn])) rfl)))) (lc (congrArg (AV.int .i64) (show (0 : Int) = buildE n fs from by simp only [(build_ok hok).2, hcn])) rfl))
 refine AWP.condT rfl (nb (decide_eq_false b239)) ?_
 refine AWP.seq ?_
 have hfe : f = fs.length := by omega
 have hcnt : ¬ (∀ x : Int, 0 ≤ x → x < n → ∃ e ∈ L, e.1 = x) := fun h => by have := (keys_count hkeys hrng (by omega)).2 h; simp only [List.length_map] at *; omega
 refine AWP.region rfl ?_
 refine AOps.cons rfl rfl (AOp.build (cells := [.snil, .snil, .snil]) rfl tz_35 pl_35 rfl rfl (AOps.cons rfl rfl (AOp.store' (cells' := [.snil, .snil, .snil]) (.agg [.snil, .snil, .snil]) s46 rfl ts_35 h56 rfl rfl rfl rfl ?_)))
 intro H547 h548 k549
 have o554 := MO.keep o51 k549 no52
 have m555 := Mono.set m60 z6 k549
 refine AOps.cons rfl rfl (AOp.assign _ rfl rfl ?_)
 refine AWP.ret ?_
 refine Fin.frzCell 0 (Own.nil H0 H547 1) h548 z6 rfl (NotId.nil _) m555 fun H556 h557 m558 k559 => ?_
 have o563 := MO.stay2 o554 (SepM.nilR _) no52 k559
 have h564 : H556 i1 = some (.row 0 ([.sl 0 ([]), .snil, .snil])) := h557
 refine Fin.frzCell 1 (Own.nil H0 H556 1) h564 z6 rfl (NotId.nil _) m558 fun H565 h566 m567 k568 => ?_
 have o572 := MO.stay2 o563 (SepM.nilR _) no52 k568
 have h573 : H565 i1 = some (.row 0 ([.sl 0 ([]), .sl 0 ([]), .snil])) := h566
 refine Fin.frzCell 2 (Own.nil H0 H565 1) h573 z6 rfl (NotId.nil _) m567 fun H574 h575 m576 k577 => ?_
 have o581 := MO.stay2 o572 (SepM.nilR _) no52 k577
 have h582 : H574 i1 = some (.row 0 ([.sl 0 ([]), .sl 0 ([]), .sl 0 ([])])) := h575
 refine ⟨_, _, Ghost.refl, .inr rfl, _, Res.list rfl rfl (.cell (v := .agg [.sl 0 ([]), .sl 0 ([]), .sl 0 ([])]) s46 ty_35 h582 rfl (.tmp rfl (.nil))), ?_, m576⟩
 exact congrArg AV.tup (lc (congrArg AV.agg (lc (congrArg (fun l : List Ed => AV.sl l.length (l.flatMap eE)) (show ([] : List Ed) = (buildT n fs).ed from by rw [(build_no (fun h => hcnt (ok_full h (by rw [← hfe]; exact htell)))).1])) (lc (congrArg (fun l : List (List Int) => AV.sl l.length (l.map eF)) (show ([] : List (List Int)) = (buildT n fs).fan from by rw [(build_no (fun h => hcnt (ok_full h (by rw [← hfe]; exact htell)))).1])) (lc (congrArg (fun l : List Bool => AV.sl l.length (l.map eBo)) (show ([] : List Bool) = (buildT n fs).rnd from by rw [(build_no (fun h => hcnt (ok_full h (by rw [← hfe]; exact htell)))).1])) rfl)))) (lc (congrArg (AV.int .i64) (show (14 : Int) = buildE n fs from by rw [(build_no (fun h => hcnt (ok_full h (by rw [← hfe]; exact htell)))).2])) rfl))
end Go.Proofs.T
namespace Go.Proofs.U
open Go Go.AH Go.Proofs.T
set_option maxRecDepth 4000
theorem find_lt {t : Tp} {a b : Int} : 0 ≤ optI (findS t a b) ∧ optI (findS t a b) ≤ t.ed.length := by
  unfold findS
  cases h : t.ed.findIdx? (fun e => decide (e.A = min a b ∧ e.B = max a b)) with
  | none => simp [optI]
  | some k =>
    rw [List.findIdx?_eq_some_iff_getElem] at h
    obtain ⟨h1, _⟩ := h
    simp only [optI]; omega
theorem find_in {t : Tp} {a b : Int} (h : (findS t a b).isSome = true) : 0 ≤ optI (findS t a b) ∧ optI (findS t a b) < t.ed.length := by
  unfold findS at *
  cases h' : t.ed.findIdx? (fun e => decide (e.A = min a b ∧ e.B = max a b)) with
  | none => rw [h'] at h; cases h
  | some k =>
    rw [List.findIdx?_eq_some_iff_getElem] at h'
    obtain ⟨h1, _⟩ := h'
    simp only [optI]; omega
def lessS (s : Int) : Int := if s = 255 then s else s - 1
def creaseP (n : Int) (t : Tp) (sh : List Int) (i : Int) : List CrT :=
  if edgedS t i = true ∨ lessS (at_ sh i) < 1 then [] else [⟨(at_ t.ed i).A, n + i, lessS (at_ sh i)⟩, ⟨(at_ t.ed i).B, n + i, lessS (at_ sh i)⟩]
def partF (n : Int) (t : Tp) (k : Int) (f : List Int) (i : Int) : List Int :=
  [at_ f i, n + optI (findS t (at_ f i) (at_ f ((i + 1) % (f.length : Int)))), n + (t.ed.length : Int) + k, n + optI (findS t (at_ f i) (at_ f ((i + (f.length : Int) - 1) % (f.length : Int))))]
def partsU (n : Int) (t : Tp) (k : Int) (f : List Int) (i : Int) : List (List Int) := (List.range i.toNat).map fun (j : Nat) => partF n t k f (j : Int)
theorem partsU_step {n : Int} {t : Tp} {k : Int} {f : List Int} {i : Int} (h : 0 ≤ i) : partsU n t k f i ++ [partF n t k f i] = partsU n t k f (i + 1) := by
  have e : (i + 1).toNat = i.toNat + 1 := by omega
  have e2 : ((i.toNat : Nat) : Int) = i := by omega
  unfold partsU; rw [e, List.range_succ, List.map_append, List.map_singleton, e2]
theorem partsU_len {n : Int} {t : Tp} {k : Int} {f : List Int} {i : Int} : (partsU n t k f i).length = i.toNat := by simp [partsU]
def sh0 (t : Tp) (i : Int) : List Int := (List.range t.ed.length).map fun (j : Nat) => if (j : Int) < i ∧ edgedS t (j : Int) = true then 255 else 0
theorem sh0_len (t : Tp) (i : Int) : (sh0 t i).length = t.ed.length := by simp [sh0]
theorem sh0_get (t : Tp) (i : Int) (j : Nat) : (sh0 t i)[j]? = if j < t.ed.length then some (if (j : Int) < i ∧ edgedS t (j : Int) = true then 255 else 0) else none := by
  by_cases h : j < t.ed.length
  · rw [if_pos h]; simp [sh0, h]
  · rw [if_neg h]; simp [sh0, h]
theorem sh0_0 (t : Tp) : List.replicate t.ed.length (0 : Int) = sh0 t 0 := by
  refine List.ext_getElem? fun j => ?_
  rw [sh0_get, List.getElem?_replicate]
  split
  · rw [if_neg (by omega)]
  · rfl
theorem sh0_T {t : Tp} {i : Int} (h0 : 0 ≤ i) (h1 : i < t.ed.length) (h : edgedS t i = true) : (sh0 t i).set i.toNat 255 = sh0 t (i + 1) := by
  refine List.ext_getElem? fun j => ?_
  rw [List.getElem?_set, sh0_get, sh0_get, sh0_len]
  by_cases hj : i.toNat = j
  · subst hj
    have e2 : ((i.toNat : Nat) : Int) = i := by omega
    rw [if_pos rfl, if_pos (by omega), if_pos (by omega), if_pos ⟨by omega, by rw [e2]; exact h⟩]
  · rw [if_neg hj]
    have : ((j : Int) < i + 1 ∧ edgedS t (j : Int) = true) ↔ ((j : Int) < i ∧ edgedS t (j : Int) = true) := ⟨fun g => ⟨by omega, g.2⟩, fun g => ⟨by omega, g.2⟩⟩
    simp only [this]
theorem sh0_F {t : Tp} {i : Int} (h0 : 0 ≤ i) (h : edgedS t i = false) : sh0 t i = sh0 t (i + 1) := by
  unfold sh0
  refine List.map_congr_left fun j _ => ?_
  by_cases e : (j : Int) = i
  · rw [if_neg (by rw [e, h]; simp), if_neg (by rw [e, h]; simp)]
  · have : ((j : Int) < i + 1 ∧ edgedS t (j : Int) = true) ↔ ((j : Int) < i ∧ edgedS t (j : Int) = true) := ⟨fun g => ⟨by omega, g.2⟩, fun g => ⟨by omega, g.2⟩⟩
    simp only [this]
def shF (t : Tp) : List CrT → List Int → Option (List Int)
  | [], out => some out
  | x :: xs, out => if (findS t x.A x.B).isSome = true then shF t xs (out.set (optI (findS t x.A x.B)).toNat (max (at_ out (optI (findS t x.A x.B))) x.S)) else none
theorem shF_app (t : Tp) : ∀ (a b : List CrT) (out : List Int), shF t (a ++ b) out = (shF t a out).bind (shF t b)
  | [], b, out => rfl
  | x :: xs, b, out => by
    simp only [List.cons_append, shF]
    split
    · exact shF_app t xs b _
    · rfl
theorem shF_step {t : Tp} {cr : List CrT} {a b : List Int} {i : Int} (h0 : 0 ≤ i) (h1 : i < cr.length) (h : shF t (cr.take i.toNat) a = some b) (hs : (findS t (at_ cr i).A (at_ cr i).B).isSome = true) : shF t (cr.take (i + 1).toNat) a = some (b.set (optI (findS t (at_ cr i).A (at_ cr i).B)).toNat (max (at_ b (optI (findS t (at_ cr i).A (at_ cr i).B))) (at_ cr i).S)) := by
  rw [take_step h0 h1, shF_app, h]
  simp only [Option.bind_some, shF]; rw [if_pos hs]
theorem shF_stop {t : Tp} {cr : List CrT} {a b : List Int} {i : Int} (h0 : 0 ≤ i) (h1 : i < cr.length) (h : shF t (cr.take i.toNat) a = some b) (hs : (findS t (at_ cr i).A (at_ cr i).B).isSome = false) : shF t cr a = none := by
  have e : cr = cr.take (i + 1).toNat ++ cr.drop (i + 1).toNat := (List.take_append_drop _ _).symm
  rw [e, shF_app, take_step h0 h1, shF_app, h]
  simp only [Option.bind_some, shF]; rw [if_neg (by rw [hs]; simp)]; rfl
def sharpR (t : Tp) (cr : List CrT) : List Int × Int := match shF t cr (sh0 t t.ed.length) with
  | some l => (l, 0)
  | none => ([], 14)
theorem sharp_ok {t : Tp} {cr : List CrT} {b : List Int} {i : Int} (h1 : (cr.length : Int) ≤ i) (h : shF t (cr.take i.toNat) (sh0 t t.ed.length) = some b) : sharpR t cr = (b, 0) := by
  rw [take_all h1] at h; unfold sharpR; rw [h]
theorem sharp_no {t : Tp} {cr : List CrT} {b : List Int} {i : Int} (h0 : 0 ≤ i) (h1 : i < cr.length) (h : shF t (cr.take i.toNat) (sh0 t t.ed.length) = some b) (hs : (findS t (at_ cr i).A (at_ cr i).B).isSome = false) : sharpR t cr = ([], 14) := by
  unfold sharpR; rw [shF_stop h0 h1 h hs]
end Go.Proofs.U
namespace Go.Proofs.U
open Go Go.AH Go.Proofs.T
set_option maxRecDepth 4000
set_option linter.unusedSimpArgs false
set_option linter.unusedVariables false
theorem c_creases {H0 : Heap} {fid : Nat} (vs : List VT) (fs : List (List Int)) (cr : List CrT) (t : Tp) (sh : List Int) {x7 x8 : AV} (i : Int) (hi : 0 ≤ i ∧ i < t.ed.length) (hel : t.ed.length ≤ 1048576) (hvl : vs.length ≤ 1048576) (hsl : sh.length = t.ed.length) (hs0 : 0 ≤ at_ sh i ∧ at_ sh i ≤ 9223372036854775807) (hr : H0 fid = some (.row 0 [.sl vs.length (vs.flatMap eV), .sl fs.length (fs.map eF), .sl cr.length (cr.flatMap eCr), .sl t.ed.length (t.ed.flatMap eE), .sl t.fan.length (t.fan.map eF), .sl t.rnd.length (t.rnd.map eBo), .sl sh.length (sh.map eI), x7, x8])) : ACalls Try.prog 38 [.ptr fid 0 0, .int .i64 i] H0 fun r H' => r = (.sl (creaseP vs.length t sh i).length ((creaseP vs.length t sh i).flatMap eCr)) ∧ Mono H0 H' := by
 refine ACalls.of_body' (n := 56) rfl rfl rfl rfl ?_
 have m0 := Mono.refl H0
 refine Sr ?_
 refine C rfl (As (.snil) rfl rfl ?_)
 refine Sr ?_
 refine C rfl (Mv (.ptr fid 0 0) rfl rfl (C rfl (nc_ (.ptr fid 0 0) rfl rfl rfl ?_)))
 refine C rfl (Fa rfl rfl fl_79_2 ?_ (hid := ⟨_, hr⟩))
 refine C rfl (Ld (.sl sh.length (sh.map eI)) rfl rfl ty_38 hr rfl (C rfl (Mv (.int .i64 i) rfl rfl (C rfl (iS_ rfl rfl rfl sl_38 (by omega) (by omega) (C rfl (Lf (.int .i64 (at_ sh i)) rfl rfl ty_3 (ld1 (by omega) (by omega)) (C rfl (As (.int .i64 (at_ sh i)) rfl rfl ?_)))))))))
 refine AWP.seq ?_
 refine Sr ?_
 refine C rfl (Mv (.int .i64 (at_ sh i)) rfl rfl (C rfl (Bi (.bool (!decide (at_ sh i = 255))) rfl rfl rfl ine ?_)))
 refine AOps.nil ?_
 change AWP _ _ _ _ _ _
 by_cases b1 : at_ sh i = 255
 refine cf_ rfl (nb (decide_eq_true b1)) ?_
 refine AWP.skip ?_
 refine AWP.seq ?_
 refine Sr ?_
 refine C rfl (Mv (.ptr fid 0 0) rfl rfl (C rfl (nc_ (.ptr fid 0 0) rfl rfl rfl ?_)))
 refine C rfl (Fa rfl rfl fl_79_1 ?_ (hid := ⟨_, hr⟩))
 refine C rfl (Ld (.agg [.sl t.ed.length (t.ed.flatMap eE), .sl t.fan.length (t.fan.map eF), .sl t.rnd.length (t.rnd.map eBo)]) rfl rfl ty_35 hr rfl (C rfl (Mv (.int .i64 i) rfl rfl (C rfl (Pc («as» := [.agg [.sl t.ed.length (t.ed.flatMap eE), .sl t.fan.length (t.fan.map eF), .sl t.rnd.length (t.rnd.map eBo)], .int .i64 i]) rfl rfl (rfl) tf_43 (c18 _ _ (by omega)) ?_)))))
 intro H2 m3
 have h4 := m3 _ _ hr
 have m5 := m0.trans m3
 refine C rfl (Mv (.bool (edgedS t i)) rfl rfl ?_)
 rcases Bool.eq_false_or_eq_true (edgedS t i) with b6 | b6
 refine N rfl rfl b6 (N rfl rfl b6 (C rfl (Pt (.bool true) rfl rfl b6 rfl ?_)))
 refine ct_ rfl rfl ?_
 refine Sr ?_
 refine C rfl (As (.snil) rfl rfl ?_)
 refine rt_ ?_
 refine Fin.frz 4 (Own.nil H0 H2 1) rfl m5 fun H7 m8 k9 => ?_
 refine Rr (Res.one rfl rfl) ?_ m8
 exact (congrArg (fun l : List CrT => AV.sl l.length (l.flatMap eCr)) (show ([] : List CrT) = creaseP vs.length t sh i from by (unfold creaseP; rw [if_pos (.inl b6)])))
 refine Y rfl rfl rfl b6 (Mv (.int .i64 (at_ sh i)) rfl rfl (Y rfl rfl rfl b6 (Bi (.bool (decide (at_ sh i < 1))) rfl rfl rfl rfl (C rfl (Pf (.bool (decide (at_ sh i < 1))) rfl rfl b6 rfl ?_)))))
 refine AOps.nil ?_
 change AWP _ _ _ _ _ _
 by_cases b11 : at_ sh i < 1
 refine ct_ rfl (decide_eq_true b11) ?_
 refine Sr ?_
 refine C rfl (As (.snil) rfl rfl ?_)
 refine rt_ ?_
 refine Fin.frz 4 (Own.nil H0 H2 1) rfl m5 fun H12 m13 k14 => ?_
 refine Rr (Res.one rfl rfl) ?_ m13
 exact (congrArg (fun l : List CrT => AV.sl l.length (l.flatMap eCr)) (show ([] : List CrT) = creaseP vs.length t sh i from by (have hls : lessS (at_ sh i) = at_ sh i := (by unfold lessS; rw [if_pos b1]); unfold creaseP; rw [if_pos (.inr (by rw [hls]; exact b11))])))
 refine cf_ rfl (decide_eq_false b11) ?_
 refine AWP.skip ?_
 refine AWP.seq ?_
 refine AWP.freshN fun b16 hb17 => ?_
 obtain ⟨i18, e19⟩ : ∃ x, x = b16 + 0 := ⟨_, rfl⟩
 have n20 := hb17 0; rw [← e19] at n20
 refine AWP.region_strA mixed (by kernel_rfl) [(16, i18, .row 0 ([.int .i64 0, .int .i64 0, .int .i64 0, .int .i64 0]))] [0, 1, 2, 3, 4, 5, 6, 7, 8, 9, 10, 11, 12, 13, 14, 15, 16] [(17, some [8, 9, 10, 11, 12, 13, 14, 15])] [18] (by kernel_rfl) (by kernel_rfl) ⟨n20, trivial, trivial⟩ ?_
 have e21 := ne_new h4 n20
 have z22 := Mono.free m5 n20
 refine STRN.op rfl rfl rfl (.inl ⟨rfl, fun H1 f' H' hf hN hM => Mv (.ptr fid 0 0) rfl ((hf 0 rfl).trans rfl) ⟨rfl, hN⟩⟩) ?_
 refine STRN.op rfl rfl rfl (.inl ⟨rfl, fun H1 f' H' hf hN hM => nc_ (.ptr fid 0 0) rfl ((hf 29 rfl).trans rfl) rfl ⟨rfl, hN⟩⟩) ?_
 refine STRN.op rfl rfl rfl (.inl ⟨rfl, fun H1 f' H' hf hN hM => Fa rfl ((hf 30 rfl).trans rfl) fl_79_1 ⟨rfl, hN⟩ (hid := ⟨_, (hM _ _ h4)⟩)⟩) ?_
 refine STRN.op rfl rfl rfl (.inl ⟨rfl, fun H1 f' H' hf hN hM => Fa rfl ((hf 31 rfl).trans rfl) fl_35_0 ⟨rfl, hN⟩ (hid := ⟨_, (hM _ _ h4)⟩)⟩) ?_
 refine STRN.op rfl rfl rfl (.inl ⟨rfl, fun H1 f' H' hf hN hM => Ld (.sl t.ed.length (t.ed.flatMap eE)) rfl ((hf 32 rfl).trans rfl) ty_32 (hM _ _ h4) rfl ⟨rfl, hN⟩⟩) ?_
 refine STRN.op rfl rfl rfl (.inl ⟨rfl, fun H1 f' H' hf hN hM => Mv (.int .i64 i) rfl ((hf 1 rfl).trans rfl) ⟨rfl, hN⟩⟩) ?_
 refine STRN.op rfl rfl rfl (.inl ⟨rfl, fun H1 f' H' hf hN hM => iS_ rfl ((hf 33 rfl).trans rfl) ((hf 34 rfl).trans rfl) sl_32 (by omega) (by omega) ⟨rfl, hN⟩⟩) ?_
 refine STRN.op rfl rfl rfl (.inl ⟨rfl, fun H1 f' H' hf hN hM => Lf (.agg [.int .i64 ((at_ t.ed i).A), .int .i64 ((at_ t.ed i).B), .int .i64 ((at_ t.ed i).F), .int .i64 ((at_ t.ed i).G)]) rfl ((hf 35 rfl).trans rfl) ty_47 (ldM eE_len (by omega) (by omega)) ⟨rfl, hN⟩⟩) ?_
 refine STRN.op rfl rfl rfl (.inl ⟨rfl, fun H1 f' H' hf hN hM => Mv (.ptr fid 0 0) rfl ((hf 0 rfl).trans rfl) ⟨rfl, hN⟩⟩) ?_
 refine STRN.op rfl rfl rfl (.inl ⟨rfl, fun H1 f' H' hf hN hM => nc_ (.ptr fid 0 0) rfl ((hf 37 rfl).trans rfl) rfl ⟨rfl, hN⟩⟩) ?_
 refine STRN.op rfl rfl rfl (.inl ⟨rfl, fun H1 f' H' hf hN hM => Fa rfl ((hf 38 rfl).trans rfl) fl_79_0 ⟨rfl, hN⟩ (hid := ⟨_, (hM _ _ h4)⟩)⟩) ?_
 refine STRN.op rfl rfl rfl (.inl ⟨rfl, fun H1 f' H' hf hN hM => Fa rfl ((hf 39 rfl).trans rfl) fl_26_0 ⟨rfl, hN⟩ (hid := ⟨_, (hM _ _ h4)⟩)⟩) ?_
 refine STRN.op rfl rfl rfl (.inl ⟨rfl, fun H1 f' H' hf hN hM => Ld (.sl vs.length (vs.flatMap eV)) rfl ((hf 40 rfl).trans rfl) ty_22 (hM _ _ h4) rfl ⟨rfl, hN⟩⟩) ?_
 refine STRN.op rfl rfl rfl (.inl ⟨rfl, fun H1 f' H' hf hN hM => AOp.len (m := vs.length) rfl ((hf 41 rfl).trans rfl) (.inr (.inl ⟨_, rfl⟩)) u_22 ⟨rfl, hN⟩⟩) ?_
 refine STRN.op rfl rfl rfl (.inl ⟨rfl, fun H1 f' H' hf hN hM => Mv (.int .i64 i) rfl ((hf 1 rfl).trans rfl) ⟨rfl, hN⟩⟩) ?_
 refine STRN.op rfl rfl rfl (.inl ⟨rfl, fun H1 f' H' hf hN hM => Bi (.int .i64 ((vs.length : Int) + i)) rfl ((hf 42 rfl).trans rfl) ((hf 43 rfl).trans rfl) (iadd (by omega)) ⟨rfl, hN⟩⟩) ?_
 refine STRN.alloc (id := i18) (Z := [.int .i64 0, .int .i64 0, .int .i64 0, .int .i64 0]) (.head _) rfl rfl rfl rfl rfl tz_47 ?_
 refine STRN.done fun H23 m24 hu25 => ?_
 have h26 := m24 _ _ h4
 have m27 := m5.trans m24
 have h28 : H23 i18 = some (.row 0 ([.int .i64 0, .int .i64 0, .int .i64 0, .int .i64 0])) := hu25 _ (.head _)
 refine STR.st rfl rfl rfl fun f29 H30 hf31 m32 => ?_
 have h33 := m32 _ _ h26
 have h34 := m32 _ _ h28
 have m35 := m27.trans m32
 refine So (cells' := [.int .i64 ((at_ t.ed i).A), .int .i64 ((at_ t.ed i).B), .int .i64 ((at_ t.ed i).F), .int .i64 ((at_ t.ed i).G)]) (.agg [.int .i64 ((at_ t.ed i).A), .int .i64 ((at_ t.ed i).B), .int .i64 ((at_ t.ed i).F), .int .i64 ((at_ t.ed i).G)]) ((hf31 6 rfl).trans rfl) ((hf31 36 rfl).trans rfl) ts_47 h34 rfl rfl rfl rfl ?_
 intro H36 h37 k38
 have h39 := keep k38 e21 h33
 have m41 := Mono.set m35 z22 k38
 refine ⟨rfl, .inr (RevR.skip rfl (RevR.cons rfl (.inl ⟨rfl, fun H1 f' H' hf hN hM => Bi (.int .i64 ((vs.length : Int) + i)) rfl ((hf 42 rfl).trans rfl) ((hf 43 rfl).trans rfl) (iadd (by omega)) ⟨rfl, hN⟩⟩) (RevR.cons rfl (.inl ⟨rfl, fun H1 f' H' hf hN hM => Mv (.int .i64 i) rfl ((hf 1 rfl).trans rfl) ⟨rfl, hN⟩⟩) (RevR.cons rfl (.inl ⟨rfl, fun H1 f' H' hf hN hM => AOp.len (m := vs.length) rfl ((hf 41 rfl).trans rfl) (.inr (.inl ⟨_, rfl⟩)) u_22 ⟨rfl, hN⟩⟩) (RevR.cons rfl (.inl ⟨rfl, fun H1 f' H' hf hN hM => Ld (.sl vs.length (vs.flatMap eV)) rfl ((hf 40 rfl).trans rfl) ty_22 (hM _ _ h39) rfl ⟨rfl, hN⟩⟩) (RevR.cons rfl (.inl ⟨rfl, fun H1 f' H' hf hN hM => Fa rfl ((hf 39 rfl).trans rfl) fl_26_0 ⟨rfl, hN⟩ (hid := ⟨_, (hM _ _ h39)⟩)⟩) (RevR.cons rfl (.inl ⟨rfl, fun H1 f' H' hf hN hM => Fa rfl ((hf 38 rfl).trans rfl) fl_79_0 ⟨rfl, hN⟩ (hid := ⟨_, (hM _ _ h39)⟩)⟩) (RevR.cons rfl (.inl ⟨rfl, fun H1 f' H' hf hN hM => nc_ (.ptr fid 0 0) rfl ((hf 37 rfl).trans rfl) rfl ⟨rfl, hN⟩⟩) (RevR.cons rfl (.inl ⟨rfl, fun H1 f' H' hf hN hM => Mv (.ptr fid 0 0) rfl ((hf 0 rfl).trans rfl) ⟨rfl, hN⟩⟩) (RevR.skip rfl (RevR.skip rfl (RevR.skip rfl (RevR.skip rfl (RevR.skip rfl (RevR.skip rfl (RevR.skip rfl (RevR.skip rfl RevR.nil))))))))))))))))), ?_⟩
 refine STR.done fun H42 m43 => ?_
 have h44 := m43 _ _ h39
 have h45 := m43 _ _ h37
 have m46 := m41.trans m43
 refine C rfl (As (.int .i64 ((vs.length : Int) + i)) rfl rfl ?_)
 refine AWP.seq ?_
 refine fz_ 6 h45 z22 rfl m46 fun H47 m48 k49 => ?_
 have h50 := (k49 _ e21).trans h44
 refine AWP.region rfl ?_
 refine F rfl rfl fl_47_0 (C rfl (Lf (.int .i64 ((at_ t.ed i).A)) rfl rfl ty_3 rfl (C rfl (Mv (.int .i64 ((vs.length : Int) + i)) rfl rfl (C rfl (Mv (.int .i64 (at_ sh i)) rfl rfl (C rfl (Bl (cells := [.int .i64 ((at_ t.ed i).A), .int .i64 ((vs.length : Int) + i), .int .i64 (at_ sh i)]) rfl tz_53 pl_53 rfl rfl (F rfl rfl fl_47_1 (C rfl (Lf (.int .i64 ((at_ t.ed i).B)) rfl rfl ty_3 rfl (C rfl (Mv (.int .i64 ((vs.length : Int) + i)) rfl rfl (C rfl (Mv (.int .i64 (at_ sh i)) rfl rfl (C rfl (Bl (cells := [.int .i64 ((at_ t.ed i).B), .int .i64 ((vs.length : Int) + i), .int .i64 (at_ sh i)]) rfl tz_53 pl_53 rfl rfl (C rfl (AOp.buildSlice (cells := [.int .i64 ((at_ t.ed i).A), .int .i64 ((vs.length : Int) + i), .int .i64 (at_ sh i), .int .i64 ((at_ t.ed i).B), .int .i64 ((vs.length : Int) + i), .int .i64 (at_ sh i)]) rfl u_24 ts_53 tz_53 rfl rfl rfl ?_)))))))))))))))))))
 intro i51 H52 n53 h54 k55
 have e56 := ne_new h50 n53
 have z57 := Mono.free m48 n53
 have m59 := Mono.new m48 n53 k55
 refine C rfl (As (.slm i51 0 3 0 2) rfl rfl ?_)
 refine rt_ ?_
 obtain ⟨v60, e61⟩ : ∃ v : AV, v = .slm i51 0 3 0 2 := ⟨_, rfl⟩
 have o62 : Own H0 H52 3 v60 2 [.int .i64 ((at_ t.ed i).A), .int .i64 ((vs.length : Int) + i), .int .i64 (at_ sh i), .int .i64 ((at_ t.ed i).B), .int .i64 ((vs.length : Int) + i), .int .i64 (at_ sh i)] := .inr ⟨_, _, e61, h54, z57, rfl⟩
 have no63 : NotId v60 fid := by rw [e61]; exact NotId.slm e56
 refine Fin.frz 4 (o62) e61.symm m59 fun H64 m65 k66 => ?_
 refine Rr (Res.one rfl rfl) ?_ m65
 exact (congrArg (fun l : List CrT => AV.sl l.length (l.flatMap eCr)) (show (([(CrT.mk ((at_ t.ed i).A) ((vs.length : Int) + i) (at_ sh i)), (CrT.mk ((at_ t.ed i).B) ((vs.length : Int) + i) (at_ sh i))] : List CrT) : List CrT) = creaseP vs.length t sh i from by (have hls : lessS (at_ sh i) = at_ sh i := (by unfold lessS; rw [if_pos b1]); unfold creaseP; rw [if_neg (by rw [hls]; exact fun h => h.elim (fun h => by rw [b6] at h; cases h) b11), hls])))
 refine ct_ rfl (nb (decide_eq_false b1)) ?_
 refine AWP.region rfl ?_
 refine C rfl (Mv (.int .i64 (at_ sh i)) rfl rfl (C rfl (Bi (.int .i64 (at_ sh i - 1)) rfl rfl rfl (isub (by omega)) (C rfl (As (.int .i64 (at_ sh i - 1)) rfl rfl ?_)))))
 refine AWP.seq ?_
 refine Sr ?_
 refine C rfl (Mv (.ptr fid 0 0) rfl rfl (C rfl (nc_ (.ptr fid 0 0) rfl rfl rfl ?_)))
 refine C rfl (Fa rfl rfl fl_79_1 ?_ (hid := ⟨_, hr⟩))
 refine C rfl (Ld (.agg [.sl t.ed.length (t.ed.flatMap eE), .sl t.fan.length (t.fan.map eF), .sl t.rnd.length (t.rnd.map eBo)]) rfl rfl ty_35 hr rfl (C rfl (Mv (.int .i64 i) rfl rfl (C rfl (Pc («as» := [.agg [.sl t.ed.length (t.ed.flatMap eE), .sl t.fan.length (t.fan.map eF), .sl t.rnd.length (t.rnd.map eBo)], .int .i64 i]) rfl rfl (rfl) tf_43 (c18 _ _ (by omega)) ?_)))))
 intro H68 m69
 have h70 := m69 _ _ hr
 have m71 := m0.trans m69
 refine C rfl (Mv (.bool (edgedS t i)) rfl rfl ?_)
 rcases Bool.eq_false_or_eq_true (edgedS t i) with b72 | b72
 refine N rfl rfl b72 (N rfl rfl b72 (C rfl (Pt (.bool true) rfl rfl b72 rfl ?_)))
 refine ct_ rfl rfl ?_
 refine Sr ?_
 refine C rfl (As (.snil) rfl rfl ?_)
 refine rt_ ?_
 refine Fin.frz 4 (Own.nil H0 H68 1) rfl m71 fun H73 m74 k75 => ?_
 refine Rr (Res.one rfl rfl) ?_ m74
 exact (congrArg (fun l : List CrT => AV.sl l.length (l.flatMap eCr)) (show ([] : List CrT) = creaseP vs.length t sh i from by (unfold creaseP; rw [if_pos (.inl b72)])))
 refine Y rfl rfl rfl b72 (Mv (.int .i64 (at_ sh i - 1)) rfl rfl (Y rfl rfl rfl b72 (Bi (.bool (decide (at_ sh i - 1 < 1))) rfl rfl rfl rfl (C rfl (Pf (.bool (decide (at_ sh i - 1 < 1))) rfl rfl b72 rfl ?_)))))
 refine AOps.nil ?_
 change AWP _ _ _ _ _ _
 by_cases b77 : at_ sh i - 1 < 1
 refine ct_ rfl (decide_eq_true b77) ?_
 refine Sr ?_
 refine C rfl (As (.snil) rfl rfl ?_)
 refine rt_ ?_
 refine Fin.frz 4 (Own.nil H0 H68 1) rfl m71 fun H78 m79 k80 => ?_
 refine Rr (Res.one rfl rfl) ?_ m79
 exact (congrArg (fun l : List CrT => AV.sl l.length (l.flatMap eCr)) (show ([] : List CrT) = creaseP vs.length t sh i from by (have hls : lessS (at_ sh i) = at_ sh i - 1 := (by unfold lessS; rw [if_neg b1]); unfold creaseP; rw [if_pos (.inr (by rw [hls]; exact b77))])))
 refine cf_ rfl (decide_eq_false b77) ?_
 refine AWP.skip ?_
 refine AWP.seq ?_
 refine AWP.freshN fun b82 hb83 => ?_
 obtain ⟨i84, e85⟩ : ∃ x, x = b82 + 0 := ⟨_, rfl⟩
 have n86 := hb83 0; rw [← e85] at n86
 refine AWP.region_strA mixed (by kernel_rfl) [(16, i84, .row 0 ([.int .i64 0, .int .i64 0, .int .i64 0, .int .i64 0]))] [0, 1, 2, 3, 4, 5, 6, 7, 8, 9, 10, 11, 12, 13, 14, 15, 16] [(17, some [8, 9, 10, 11, 12, 13, 14, 15])] [18] (by kernel_rfl) (by kernel_rfl) ⟨n86, trivial, trivial⟩ ?_
 have e87 := ne_new h70 n86
 have z88 := Mono.free m71 n86
 refine STRN.op rfl rfl rfl (.inl ⟨rfl, fun H1 f' H' hf hN hM => Mv (.ptr fid 0 0) rfl ((hf 0 rfl).trans rfl) ⟨rfl, hN⟩⟩) ?_
 refine STRN.op rfl rfl rfl (.inl ⟨rfl, fun H1 f' H' hf hN hM => nc_ (.ptr fid 0 0) rfl ((hf 29 rfl).trans rfl) rfl ⟨rfl, hN⟩⟩) ?_
 refine STRN.op rfl rfl rfl (.inl ⟨rfl, fun H1 f' H' hf hN hM => Fa rfl ((hf 30 rfl).trans rfl) fl_79_1 ⟨rfl, hN⟩ (hid := ⟨_, (hM _ _ h70)⟩)⟩) ?_
 refine STRN.op rfl rfl rfl (.inl ⟨rfl, fun H1 f' H' hf hN hM => Fa rfl ((hf 31 rfl).trans rfl) fl_35_0 ⟨rfl, hN⟩ (hid := ⟨_, (hM _ _ h70)⟩)⟩) ?_
 refine STRN.op rfl rfl rfl (.inl ⟨rfl, fun H1 f' H' hf hN hM => Ld (.sl t.ed.length (t.ed.flatMap eE)) rfl ((hf 32 rfl).trans rfl) ty_32 (hM _ _ h70) rfl ⟨rfl, hN⟩⟩) ?_
 refine STRN.op rfl rfl rfl (.inl ⟨rfl, fun H1 f' H' hf hN hM => Mv (.int .i64 i) rfl ((hf 1 rfl).trans rfl) ⟨rfl, hN⟩⟩) ?_
 refine STRN.op rfl rfl rfl (.inl ⟨rfl, fun H1 f' H' hf hN hM => iS_ rfl ((hf 33 rfl).trans rfl) ((hf 34 rfl).trans rfl) sl_32 (by omega) (by omega) ⟨rfl, hN⟩⟩) ?_
 refine STRN.op rfl rfl rfl (.inl ⟨rfl, fun H1 f' H' hf hN hM => Lf (.agg [.int .i64 ((at_ t.ed i).A), .int .i64 ((at_ t.ed i).B), .int .i64 ((at_ t.ed i).F), .int .i64 ((at_ t.ed i).G)]) rfl ((hf 35 rfl).trans rfl) ty_47 (ldM eE_len (by omega) (by omega)) ⟨rfl, hN⟩⟩) ?_
 refine STRN.op rfl rfl rfl (.inl ⟨rfl, fun H1 f' H' hf hN hM => Mv (.ptr fid 0 0) rfl ((hf 0 rfl).trans rfl) ⟨rfl, hN⟩⟩) ?_
 refine STRN.op rfl rfl rfl (.inl ⟨rfl, fun H1 f' H' hf hN hM => nc_ (.ptr fid 0 0) rfl ((hf 37 rfl).trans rfl) rfl ⟨rfl, hN⟩⟩) ?_
 refine STRN.op rfl rfl rfl (.inl ⟨rfl, fun H1 f' H' hf hN hM => Fa rfl ((hf 38 rfl).trans rfl) fl_79_0 ⟨rfl, hN⟩ (hid := ⟨_, (hM _ _ h70)⟩)⟩) ?_
 refine STRN.op rfl rfl rfl (.inl ⟨rfl, fun H1 f' H' hf hN hM => Fa rfl ((hf 39 rfl).trans rfl) fl_26_0 ⟨rfl, hN⟩ (hid := ⟨_, (hM _ _ h70)⟩)⟩) ?_
 refine STRN.op rfl rfl rfl (.inl ⟨rfl, fun H1 f' H' hf hN hM => Ld (.sl vs.length (vs.flatMap eV)) rfl ((hf 40 rfl).trans rfl) ty_22 (hM _ _ h70) rfl ⟨rfl, hN⟩⟩) ?_
 refine STRN.op rfl rfl rfl (.inl ⟨rfl, fun H1 f' H' hf hN hM => AOp.len (m := vs.length) rfl ((hf 41 rfl).trans rfl) (.inr (.inl ⟨_, rfl⟩)) u_22 ⟨rfl, hN⟩⟩) ?_
 refine STRN.op rfl rfl rfl (.inl ⟨rfl, fun H1 f' H' hf hN hM => Mv (.int .i64 i) rfl ((hf 1 rfl).trans rfl) ⟨rfl, hN⟩⟩) ?_
 refine STRN.op rfl rfl rfl (.inl ⟨rfl, fun H1 f' H' hf hN hM => Bi (.int .i64 ((vs.length : Int) + i)) rfl ((hf 42 rfl).trans rfl) ((hf 43 rfl).trans rfl) (iadd (by omega)) ⟨rfl, hN⟩⟩) ?_
 refine STRN.alloc (id := i84) (Z := [.int .i64 0, .int .i64 0, .int .i64 0, .int .i64 0]) (.head _) rfl rfl rfl rfl rfl tz_47 ?_
 refine STRN.done fun H89 m90 hu91 => ?_
 have h92 := m90 _ _ h70
 have m93 := m71.trans m90
 have h94 : H89 i84 = some (.row 0 ([.int .i64 0, .int .i64 0, .int .i64 0, .int .i64 0])) := hu91 _ (.head _)
 refine STR.st rfl rfl rfl fun f95 H96 hf97 m98 => ?_
 have h99 := m98 _ _ h92
 have h100 := m98 _ _ h94
 have m101 := m93.trans m98
 refine So (cells' := [.int .i64 ((at_ t.ed i).A), .int .i64 ((at_ t.ed i).B), .int .i64 ((at_ t.ed i).F), .int .i64 ((at_ t.ed i).G)]) (.agg [.int .i64 ((at_ t.ed i).A), .int .i64 ((at_ t.ed i).B), .int .i64 ((at_ t.ed i).F), .int .i64 ((at_ t.ed i).G)]) ((hf97 6 rfl).trans rfl) ((hf97 36 rfl).trans rfl) ts_47 h100 rfl rfl rfl rfl ?_
 intro H102 h103 k104
 have h105 := keep k104 e87 h99
 have m107 := Mono.set m101 z88 k104
 refine ⟨rfl, .inr (RevR.skip rfl (RevR.cons rfl (.inl ⟨rfl, fun H1 f' H' hf hN hM => Bi (.int .i64 ((vs.length : Int) + i)) rfl ((hf 42 rfl).trans rfl) ((hf 43 rfl).trans rfl) (iadd (by omega)) ⟨rfl, hN⟩⟩) (RevR.cons rfl (.inl ⟨rfl, fun H1 f' H' hf hN hM => Mv (.int .i64 i) rfl ((hf 1 rfl).trans rfl) ⟨rfl, hN⟩⟩) (RevR.cons rfl (.inl ⟨rfl, fun H1 f' H' hf hN hM => AOp.len (m := vs.length) rfl ((hf 41 rfl).trans rfl) (.inr (.inl ⟨_, rfl⟩)) u_22 ⟨rfl, hN⟩⟩) (RevR.cons rfl (.inl ⟨rfl, fun H1 f' H' hf hN hM => Ld (.sl vs.length (vs.flatMap eV)) rfl ((hf 40 rfl).trans rfl) ty_22 (hM _ _ h105) rfl ⟨rfl, hN⟩⟩) (RevR.cons rfl (.inl ⟨rfl, fun H1 f' H' hf hN hM => Fa rfl ((hf 39 rfl).trans rfl) fl_26_0 ⟨rfl, hN⟩ (hid := ⟨_, (hM _ _ h105)⟩)⟩) (RevR.cons rfl (.inl ⟨rfl, fun H1 f' H' hf hN hM => Fa rfl ((hf 38 rfl).trans rfl) fl_79_0 ⟨rfl, hN⟩ (hid := ⟨_, (hM _ _ h105)⟩)⟩) (RevR.cons rfl (.inl ⟨rfl, fun H1 f' H' hf hN hM => nc_ (.ptr fid 0 0) rfl ((hf 37 rfl).trans rfl) rfl ⟨rfl, hN⟩⟩) (RevR.cons rfl (.inl ⟨rfl, fun H1 f' H' hf hN hM => Mv (.ptr fid 0 0) rfl ((hf 0 rfl).trans rfl) ⟨rfl, hN⟩⟩) (RevR.skip rfl (RevR.skip rfl (RevR.skip rfl (RevR.skip rfl (RevR.skip rfl (RevR.skip rfl (RevR.skip rfl (RevR.skip rfl RevR.nil))))))))))))))))), ?_⟩
 refine STR.done fun H108 m109 => ?_
 have h110 := m109 _ _ h105
 have h111 := m109 _ _ h103
 have m112 := m107.trans m109
 refine C rfl (As (.int .i64 ((vs.length : Int) + i)) rfl rfl ?_)
 refine AWP.seq ?_
 refine fz_ 6 h111 z88 rfl m112 fun H113 m114 k115 => ?_
 have h116 := (k115 _ e87).trans h110
 refine AWP.region rfl ?_
 refine F rfl rfl fl_47_0 (C rfl (Lf (.int .i64 ((at_ t.ed i).A)) rfl rfl ty_3 rfl (C rfl (Mv (.int .i64 ((vs.length : Int) + i)) rfl rfl (C rfl (Mv (.int .i64 (at_ sh i - 1)) rfl rfl (C rfl (Bl (cells := [.int .i64 ((at_ t.ed i).A), .int .i64 ((vs.length : Int) + i), .int .i64 (at_ sh i - 1)]) rfl tz_53 pl_53 rfl rfl (F rfl rfl fl_47_1 (C rfl (Lf (.int .i64 ((at_ t.ed i).B)) rfl rfl ty_3 rfl (C rfl (Mv (.int .i64 ((vs.length : Int) + i)) rfl rfl (C rfl (Mv (.int .i64 (at_ sh i - 1)) rfl rfl (C rfl (Bl (cells := [.int .i64 ((at_ t.ed i).B), .int .i64 ((vs.length : Int) + i), .int .i64 (at_ sh i - 1)]) rfl tz_53 pl_53 rfl rfl (C rfl (AOp.buildSlice (cells := [.int .i64 ((at_ t.ed i).A), .int .i64 ((vs.length : Int) + i), .int .i64 (at_ sh i - 1), .int .i64 ((at_ t.ed i).B), .int .i64 ((vs.length : Int) + i), .int .i64 (at_ sh i - 1)]) rfl u_24 ts_53 tz_53 rfl rfl rfl ?_)))))))))))))))))))
 intro i117 H118 n119 h120 k121
 have e122 := ne_new h116 n119
 have z123 := Mono.free m114 n119
 have m125 := Mono.new m114 n119 k121
 refine C rfl (As (.slm i117 0 3 0 2) rfl rfl ?_)
 refine rt_ ?_
 obtain ⟨v126, e127⟩ : ∃ v : AV, v = .slm i117 0 3 0 2 := ⟨_, rfl⟩
 have o128 : Own H0 H118 3 v126 2 [.int .i64 ((at_ t.ed i).A), .int .i64 ((vs.length : Int) + i), .int .i64 (at_ sh i - 1), .int .i64 ((at_ t.ed i).B), .int .i64 ((vs.length : Int) + i), .int .i64 (at_ sh i - 1)] := .inr ⟨_, _, e127, h120, z123, rfl⟩
 have no129 : NotId v126 fid := by rw [e127]; exact NotId.slm e122
 refine Fin.frz 4 (o128) e127.symm m125 fun H130 m131 k132 => ?_
 refine Rr (Res.one rfl rfl) ?_ m131
 exact (congrArg (fun l : List CrT => AV.sl l.length (l.flatMap eCr)) (show (([(CrT.mk ((at_ t.ed i).A) ((vs.length : Int) + i) (at_ sh i - 1)), (CrT.mk ((at_ t.ed i).B) ((vs.length : Int) + i) (at_ sh i - 1))] : List CrT) : List CrT) = creaseP vs.length t sh i from by (have hls : lessS (at_ sh i) = at_ sh i - 1 := (by unfold lessS; rw [if_neg b1]); unfold creaseP; rw [if_neg (by rw [hls]; exact fun h => h.elim (fun h => by rw [b72] at h; cases h) b77), hls])))
theorem c_parts {H0 : Heap} {fid : Nat} (vs : List VT) (fs : List (List Int)) (cr : List CrT) (t : Tp) (sh : List Int) {x7 x8 : AV} (k : Int) (f : List Int) (hk : 0 ≤ k ∧ k ≤ 1048576) (hfl : f.length ≤ 1048576) (hel : t.ed.length ≤ 1048576) (hvl : vs.length ≤ 1048576) (hse : SortedE t.ed) (hr : H0 fid = some (.row 0 [.sl vs.length (vs.flatMap eV), .sl fs.length (fs.map eF), .sl cr.length (cr.flatMap eCr), .sl t.ed.length (t.ed.flatMap eE), .sl t.fan.length (t.fan.map eF), .sl t.rnd.length (t.rnd.map eBo), .sl sh.length (sh.map eI), x7, x8])) : ACalls Try.prog 39 [.ptr fid 0 0, .int .i64 k, .sl f.length (f.map eI)] H0 fun r H' => r = (.sl (partsU (vs.length : Int) t k f f.length).length ((partsU (vs.length : Int) t k f f.length).map eF)) ∧ Mono H0 H' := by
 refine ACalls.of_body' (n := 88) rfl rfl rfl rfl ?_
 have m0 := Mono.refl H0
 refine Sr ?_
 refine A rfl rfl ?_
 refine Sr ?_
 refine V rfl rfl (C rfl (nc_ (.ptr fid 0 0) rfl rfl rfl ?_))
 refine C rfl (Fa rfl rfl fl_79_0 ?_ (hid := ⟨_, hr⟩))
 refine C rfl (Fa rfl rfl fl_26_0 ?_ (hid := ⟨_, hr⟩))
 refine C rfl (Ld _ rfl rfl ty_22 hr rfl (C rfl (AOp.len (m := vs.length) rfl rfl (.inr (.inl ⟨_, rfl⟩)) u_22 (A rfl rfl ?_))))
 refine Sr ?_
 refine A rfl rfl ?_
 refine AWP.seq ?_
 refine Sr ?_
 refine V rfl rfl (C rfl (AOp.len (m := f.length) rfl rfl (.inr (.inl ⟨_, rfl⟩)) u_38 (V rfl rfl ?_)))
 refine bk_ ?_
 refine AWP.loop (fun q1 fq Hq => ∃ (i : Int) (w8 : AV), q1 = (((f.length : Int) : Int) - i).toNat ∧ fq 23 = .int .i64 i ∧ fq 0 = .ptr fid 0 0 ∧ fq 1 = .int .i64 k ∧ fq 2 = .sl f.length (f.map eI) ∧ fq 6 = .snil ∧ fq 7 = .int .i64 (vs.length : Int) ∧ fq 21 = .sl f.length (f.map eI) ∧ fq 22 = .int .i64 (f.length : Int) ∧ fq 8 = w8 ∧ Own H0 Hq 1 w8 (partsU (vs.length : Int) t k f i).length ((partsU (vs.length : Int) t k f i).map eF) ∧ NotId w8 fid ∧ Hq fid = some (.row 0 ([.sl vs.length (vs.flatMap eV), .sl fs.length (fs.map eF), .sl cr.length (cr.flatMap eCr), .sl t.ed.length (t.ed.flatMap eE), .sl t.fan.length (t.fan.map eF), .sl t.rnd.length (t.rnd.map eBo), .sl sh.length (sh.map eI), x7, x8])) ∧ Mono H0 Hq ∧ (0 ≤ i) ∧ (i ≤ (f.length : Int))) (k := (((f.length : Int) : Int) - 0).toNat) ?_ ?_
 exact ⟨0, .snil, rfl, rfl, rfl, rfl, rfl, rfl, rfl, rfl, rfl, rfl, Own.nil _ _ _, (NotId.nil _), hr, m0, by omega, by omega⟩
 rintro _ f3 H2 ⟨i, w8, rfl, s4, s5, s6, s7, s8, s9, s10, s11, s12, o13, no14, h15, m16, hi0, hi1⟩
 refine Sr ?_
 refine B rfl s4 s11 rfl ?_
 refine AWP.seq ?_
 by_cases b17 : i < (f.length : Int)
 refine ct_ rfl (decide_eq_true b17) ?_
 refine AWP.skip ?_
 refine AWP.seq ?_
 refine bk_ ?_
 refine Sr ?_
 refine V rfl s4 (C rfl (iS_ rfl s10 s4 sl_38 (by omega) (by omega) (L rfl rfl ty_3 (ld1 (by omega) (by omega)) (A rfl rfl (A rfl rfl ?_)))))
 refine AWP.seq ?_
 have hm1 := mod_in (x := i + 1) (y := (f.length : Int)) (by omega)
 refine AWP.region_quiet mixed (by kernel_rfl) 19 [] rfl (by kernel_rfl) (Mono H2) (Mono.refl _) ?_
 refine QV rfl s5 (Q rfl (fun _ _ φ ψ => nc_ (.ptr fid 0 0) rfl (φ 29 rfl) rfl ⟨rfl, ψ⟩) (Q rfl (fun _ _ φ ψ => Fa rfl (φ 30 rfl) fl_79_1 ⟨rfl, ψ⟩ (hid := ⟨_, (ψ _ _ h15)⟩)) (Q rfl (fun _ _ φ ψ => Ld _ rfl (φ 31 rfl) ty_35 (ψ _ _ h15) rfl ⟨rfl, ψ⟩) (QV rfl rfl (QV rfl s7 (QV rfl rfl (QB rfl rfl rfl (iadd (by omega)) (QV rfl s7 (Q rfl (fun _ _ φ ψ => AOp.len (m := f.length) rfl (φ 37 rfl) (.inr (.inl ⟨_, rfl⟩)) u_38 ⟨rfl, ψ⟩) ?_)))))))))
 have r18 := mod_in (x := i + 1) (y := (f.length : Int)) (by omega)
 refine Q rfl (fun _ _ φ ψ => AOp.remP rfl (φ 36 rfl) (φ 38 rfl) (by omega) (by omega) ⟨rfl, ψ⟩) (Q rfl (fun _ _ φ ψ => iS_ rfl (φ 34 rfl) (φ 39 rfl) sl_38 (by omega) (by omega) ⟨rfl, ψ⟩) (QL rfl rfl ty_3 (ld1 (by omega) (by omega)) (Q rfl (fun _ _ φ ψ => Pc («as» := [.agg [.sl t.ed.length (t.ed.flatMap eE), .sl t.fan.length (t.fan.map eF), .sl t.rnd.length (t.rnd.map eBo)], .int .i64 (at_ f i), .int .i64 (at_ f ((i + 1) % (f.length : Int)))]) rfl rfl (lapp (lcons (φ 32 rfl) (lcons (φ 33 rfl) (lcons (φ 41 rfl) rfl))) rfl) tf_44 (c19 _ _ _ (by omega) (by assumption)) fun H2 m2 => ⟨rfl, ψ.trans m2⟩) (QV rfl rfl (Q rfl (fun _ _ φ ψ => Ex _ rfl (φ 28 rfl) rfl ⟨rfl, ψ⟩) (Q rfl (fun _ _ φ ψ => Ex _ rfl (φ 28 rfl) rfl ⟨rfl, ψ⟩) (Q rfl (fun _ _ φ ψ => As _ rfl (φ 43 rfl) ⟨rfl, ψ⟩) (Q rfl (fun _ _ φ ψ => As _ rfl (φ 44 rfl) ⟨rfl, ψ⟩) ?_))))))))
 refine QE.done fun H19 m20 => ?_
 have h21 := m20 _ _ h15
 have o22 := Own.mono o13 m20
 have m23 := m16.trans m20
 refine AWP.seq ?_
 have hm2 := mod_in (x := i + (f.length : Int) - 1) (y := (f.length : Int)) (by omega)
 refine AWP.region_quiet mixed (by kernel_rfl) 22 [] rfl (by kernel_rfl) (Mono H19) (Mono.refl _) ?_
 refine QV rfl s5 (Q rfl (fun _ _ φ ψ => nc_ (.ptr fid 0 0) rfl (φ 46 rfl) rfl ⟨rfl, ψ⟩) (Q rfl (fun _ _ φ ψ => Fa rfl (φ 47 rfl) fl_79_1 ⟨rfl, ψ⟩ (hid := ⟨_, (ψ _ _ h21)⟩)) (Q rfl (fun _ _ φ ψ => Ld _ rfl (φ 48 rfl) ty_35 (ψ _ _ h21) rfl ⟨rfl, ψ⟩) (QV rfl rfl (QV rfl s7 (QV rfl rfl (QV rfl s7 (Q rfl (fun _ _ φ ψ => AOp.len (m := f.length) rfl (φ 53 rfl) (.inr (.inl ⟨_, rfl⟩)) u_38 ⟨rfl, ψ⟩) (QB rfl rfl rfl (iadd (by omega)) (QB rfl rfl rfl (isub (by omega)) (QV rfl s7 (Q rfl (fun _ _ φ ψ => AOp.len (m := f.length) rfl (φ 57 rfl) (.inr (.inl ⟨_, rfl⟩)) u_38 ⟨rfl, ψ⟩) ?_))))))))))))
 have r24 := mod_in (x := i + (f.length : Int) - 1) (y := (f.length : Int)) (by omega)
 refine Q rfl (fun _ _ φ ψ => AOp.remP rfl (φ 56 rfl) (φ 58 rfl) (by omega) (by omega) ⟨rfl, ψ⟩) (Q rfl (fun _ _ φ ψ => iS_ rfl (φ 51 rfl) (φ 59 rfl) sl_38 (by omega) (by omega) ⟨rfl, ψ⟩) (QL rfl rfl ty_3 (ld1 (by omega) (by omega)) (Q rfl (fun _ _ φ ψ => Pc («as» := [.agg [.sl t.ed.length (t.ed.flatMap eE), .sl t.fan.length (t.fan.map eF), .sl t.rnd.length (t.rnd.map eBo)], .int .i64 (at_ f i), .int .i64 (at_ f ((i + (f.length : Int) - 1) % (f.length : Int)))]) rfl rfl (lapp (lcons (φ 49 rfl) (lcons (φ 50 rfl) (lcons (φ 61 rfl) rfl))) rfl) tf_44 (c19 _ _ _ (by omega) (by assumption)) fun H2 m2 => ⟨rfl, ψ.trans m2⟩) (QV rfl rfl (Q rfl (fun _ _ φ ψ => Ex _ rfl (φ 45 rfl) rfl ⟨rfl, ψ⟩) (Q rfl (fun _ _ φ ψ => Ex _ rfl (φ 45 rfl) rfl ⟨rfl, ψ⟩) (Q rfl (fun _ _ φ ψ => As _ rfl (φ 63 rfl) ⟨rfl, ψ⟩) (Q rfl (fun _ _ φ ψ => As _ rfl (φ 64 rfl) ⟨rfl, ψ⟩) ?_))))))))
 refine QE.done fun H25 m26 => ?_
 have h27 := m26 _ _ h21
 have o28 := Own.mono o22 m26
 have m29 := m23.trans m26
 refine AOps.nil ?_
 change AWP _ _ _ _ _ _
 have hl1 := find_lt (t := t) (a := at_ f i) (b := at_ f ((i + 1) % (f.length : Int)))
 have hl2 := find_lt (t := t) (a := at_ f i) (b := at_ f ((i + (f.length : Int) - 1) % (f.length : Int)))
 have hpl := partsU_len (n := vs.length) (t := t) (k := k) (f := f) (i := i)
 refine AWP.region rfl ?_
 refine V rfl s12 (V rfl rfl (V rfl s9 (V rfl rfl (B rfl rfl rfl (iadd (by omega)) (V rfl s9 (V rfl s5 (C rfl (nc_ (.ptr fid 0 0) rfl rfl rfl ?_))))))))
 refine C rfl (Fa rfl rfl fl_79_1 ?_ (hid := ⟨_, h27⟩))
 refine C rfl (Fa rfl rfl fl_35_0 ?_ (hid := ⟨_, h27⟩))
 refine C rfl (Ld _ rfl rfl ty_32 h27 rfl (C rfl (AOp.len (m := t.ed.length) rfl rfl (.inr (.inl ⟨_, rfl⟩)) u_32 (B rfl rfl rfl (iadd (by omega)) (V rfl s6 (B rfl rfl rfl (iadd (by omega)) (V rfl s9 (V rfl rfl (B rfl rfl rfl (iadd (by omega)) (C rfl (AOp.buildSlice (cells := [.int .i64 (at_ f i), .int .i64 ((vs.length : Int) + (optI (findS t (at_ f i) (at_ f ((i + 1) % (f.length : Int)))))), .int .i64 ((vs.length : Int) + (t.ed.length : Int) + k), .int .i64 ((vs.length : Int) + (optI (findS t (at_ f i) (at_ f ((i + (f.length : Int) - 1) % (f.length : Int))))))]) rfl u_38 ts_3 tz_3 rfl rfl rfl ?_)))))))))))
 intro i30 H31 n32 h33 k34
 have e35 := ne_new h27 n32
 have z36 := Mono.free m29 n32
 have h37 := keep k34 (ne_new h27 n32) h27
 have o38 := Own.keep o28 k34 (Own.notnew o28 n32)
 have no39 := Own.notnew o28 n32
 have m40 := Mono.new m29 n32 k34
 obtain ⟨v41, e42⟩ : ∃ v : AV, v = .slm i30 0 1 0 4 := ⟨_, rfl⟩
 have o43 : Own H0 H31 1 v41 4 [.int .i64 (at_ f i), .int .i64 ((vs.length : Int) + (optI (findS t (at_ f i) (at_ f ((i + 1) % (f.length : Int)))))), .int .i64 ((vs.length : Int) + (t.ed.length : Int) + k), .int .i64 ((vs.length : Int) + (optI (findS t (at_ f i) (at_ f ((i + (f.length : Int) - 1) % (f.length : Int))))))] := .inr ⟨_, _, e42, h33, z36, rfl⟩
 have no44 : NotId v41 fid := by rw [e42]; exact NotId.slm e35
 have sp45 : Sep v41 w8 := by rw [e42]; exact Sep.ofNotId no39
 refine C rfl ?_
 refine AOp.frz 83 (o43) e42.symm m40 fun H46 m47 k48 => ?_
 have h49 := (k48 _ no44).trans h37
 have o50 := Own.stay o38 (Sep.symm sp45) (fun i hi _ => k48 i hi)
 refine AOp.buildSlice (cells := [.sl ([at_ f i, (vs.length : Int) + (optI (findS t (at_ f i) (at_ f ((i + 1) % (f.length : Int))))), (vs.length : Int) + (t.ed.length : Int) + k, (vs.length : Int) + (optI (findS t (at_ f i) (at_ f ((i + (f.length : Int) - 1) % (f.length : Int)))))] : List Int).length (([at_ f i, (vs.length : Int) + (optI (findS t (at_ f i) (at_ f ((i + 1) % (f.length : Int))))), (vs.length : Int) + (t.ed.length : Int) + k, (vs.length : Int) + (optI (findS t (at_ f i) (at_ f ((i + (f.length : Int) - 1) % (f.length : Int)))))] : List Int).map eI)]) rfl u_23 ts_38 tz_38 rfl rfl rfl ?_
 intro i51 H52 n53 h54 k55
 have h58 := keep k55 (ne_new h49 n53) h49
 have o59 := Own.keep o50 k55 (Own.notnew o50 n53)
 have m61 := Mono.new m47 n53 k55
 refine C rfl (AOp.append_own (es := 1) (m := 1) (len := ((partsU (vs.length : Int) t k f i).length)) (old := (partsU (vs.length : Int) t k f i).map eF) (cells := [.sl ([at_ f i, (vs.length : Int) + (optI (findS t (at_ f i) (at_ f ((i + 1) % (f.length : Int))))), (vs.length : Int) + (t.ed.length : Int) + k, (vs.length : Int) + (optI (findS t (at_ f i) (at_ f ((i + (f.length : Int) - 1) % (f.length : Int)))))] : List Int).length (([at_ f i, (vs.length : Int) + (optI (findS t (at_ f i) (at_ f ((i + 1) % (f.length : Int))))), (vs.length : Int) + (t.ed.length : Int) + k, (vs.length : Int) + (optI (findS t (at_ f i) (at_ f ((i + (f.length : Int) - 1) % (f.length : Int)))))] : List Int).map eI)]) rfl u_23 ts_38 tzn_38 tb_38 (by decide) ni_23 rfl o59 m61 rfl (.slm h54 rfl) (one_of rfl) (by decide) (by first | omega | (simp; omega)) ?_)
 intro v62 H63 o64 m65 k66 j67
 have o68 := Own.snoc1 (xs := ((partsU (vs.length : Int) t k f i) : List (List Int))) (y := ([at_ f i, (vs.length : Int) + (optI (findS t (at_ f i) (at_ f ((i + 1) % (f.length : Int))))), (vs.length : Int) + (t.ed.length : Int) + k, (vs.length : Int) + (optI (findS t (at_ f i) (at_ f ((i + (f.length : Int) - 1) % (f.length : Int)))))] : List Int)) (e := eF) (by simp) o64
 have h69 := (k66 _ no14 (by rw [h58]; simp)).trans h58
 have no70 := j67 _ no14 (by rw [h58]; simp)
 refine A rfl rfl ?_
 refine AWP.region rfl ?_
 refine B rfl s4 rfl (iadd (by omega)) (V rfl rfl ?_)
 refine AOps.nil ?_
 exact ⟨_, by omega, i + 1, v62, rfl, rfl, s5, s6, s7, s8, s9, s10, s11, rfl, (have hx : (((partsU (vs.length : Int) t k f i) ++ [([at_ f i, (vs.length : Int) + (optI (findS t (at_ f i) (at_ f ((i + 1) % (f.length : Int))))), (vs.length : Int) + (t.ed.length : Int) + k, (vs.length : Int) + (optI (findS t (at_ f i) (at_ f ((i + (f.length : Int) - 1) % (f.length : Int)))))] : List Int)]) : List (List Int)) = partsU (vs.length : Int) t k f (i + 1) := (by exact partsU_step hi0); Own.re o68 (congrArg List.length hx) (congrArg (fun l : List (List Int) => l.map eF) hx)), no70, h69, m65, by omega, by omega⟩
 refine cf_ rfl (decide_eq_false b17) ?_
 refine AWP.exit ?_
 change AWP _ _ _ _ _ _
 refine Sr ?_
 refine V rfl s12 (A rfl rfl ?_)
 refine rt_ ?_
 refine Fin.frz 6 o13 rfl m16 fun H71 m72 k73 => ?_
 refine Rr (Res.one rfl rfl) ?_ m72
 exact (congrArg (fun l : List (List Int) => AV.sl l.length (l.map eF)) (show ((partsU (vs.length : Int) t k f i) : List (List Int)) = partsU (vs.length : Int) t k f f.length from by congr 1; omega))
theorem c_Sharp (vs : List VT) (fs : List (List Int)) (cr : List CrT) (t : Tp) (hcl : cr.length ≤ 1048576) (hel : t.ed.length ≤ 1048576) (hse : SortedE t.ed) : PC Try.prog 17 [.agg [.sl vs.length (vs.flatMap eV), .sl fs.length (fs.map eF), .sl cr.length (cr.flatMap eCr)], .agg [.sl t.ed.length (t.ed.flatMap eE), .sl t.fan.length (t.fan.map eF), .sl t.rnd.length (t.rnd.map eBo)]] (.tup [.sl ((sharpR t cr).1).length (((sharpR t cr).1).map eI), .int .i64 ((sharpR t cr).2)]) := by
 intro H0
 refine ACalls.of_body' (n := 58) rfl rfl rfl rfl ?_
 have m0 := Mono.refl H0
 refine Sr ?_
 refine C rfl (bx_ (.agg [.sl vs.length (vs.flatMap eV), .sl fs.length (fs.map eF), .sl cr.length (cr.flatMap eCr)]) rfl rfl rfl ?_)
 intro i1 H2 n3 h4 k5
 have z6 := Mono.free m0 n3
 have m7 := Mono.new m0 n3 k5
 refine C rfl (bx_ (.agg [.sl t.ed.length (t.ed.flatMap eE), .sl t.fan.length (t.fan.map eF), .sl t.rnd.length (t.rnd.map eBo)]) rfl rfl rfl ?_)
 intro i8 H9 n10 h11 k12
 have e13 := ne_new h4 n10
 have z14 := Mono.free m7 n10
 have h15 := keep k12 (ne_new h4 n10) h4
 have m16 := Mono.new m7 n10 k12
 refine A rfl rfl (A rfl rfl ?_)
 refine AWP.seq ?_
 refine fz_ 2 h15 z6 rfl m16 fun H17 m18 k19 => ?_
 have h20 := (k19 _ (Ne.symm e13)).trans h11
 refine fz_ 3 h20 z14 rfl m18 fun H21 m22 k23 => ?_
 refine AWP.region rfl ?_
 refine F rfl rfl fl_35_0 (L rfl rfl ty_32 rfl (C rfl (AOp.len (m := t.ed.length) rfl rfl (.inr (.inl ⟨_, rfl⟩)) u_32 (C rfl (AOp.makeSlice_own rfl u_38 ts_3 tz_3 tb_3 (by decide) rfl rfl (by omega) (by omega) m22 ?_)))))
 intro v24 H25 o26 m27 k28 j29
 have o30 : Own H0 H25 1 v24 (List.replicate (t.ed.length : Int).toNat (0 : Int)).length ((List.replicate (t.ed.length : Int).toNat (0 : Int)).map eI) := Own.re o26 (by rw [List.length_replicate]) (by rw [List.map_replicate]; rfl)
 refine A rfl rfl ?_
 refine AWP.seq ?_
 refine AWP.seq ?_
 have hrl : (List.replicate (t.ed.length : Int).toNat (0 : Int)).length = t.ed.length := by simp
 refine AWP.region rfl ?_
 refine V rfl rfl (C rfl (AOp.len_own (m := ((List.replicate (t.ed.length : Int).toNat (0 : Int)).length)) rfl rfl o30 u_38 (V rfl rfl ?_)))
 refine bk_ ?_
 refine AWP.loop (fun q31 fq Hq => ∃ (j : Int) (w6 : AV), q31 = ((((List.replicate (t.ed.length : Int).toNat (0 : Int)).length : Int) : Int) - j).toNat ∧ fq 18 = .int .i64 j ∧ fq 2 = .fptr [.sl vs.length (vs.flatMap eV), .sl fs.length (fs.map eF), .sl cr.length (cr.flatMap eCr)] 0 ∧ fq 3 = .fptr [.sl t.ed.length (t.ed.flatMap eE), .sl t.fan.length (t.fan.map eF), .sl t.rnd.length (t.rnd.map eBo)] 0 ∧ fq 4 = .snil ∧ fq 5 = .int .i64 0 ∧ fq 17 = .int .i64 (((List.replicate (t.ed.length : Int).toNat (0 : Int)).length) : Int) ∧ fq 6 = w6 ∧ Own H0 Hq 1 w6 (sh0 t j).length ((sh0 t j).map eI) ∧ Mono H0 Hq ∧ (0 ≤ j) ∧ (j ≤ ((List.replicate (t.ed.length : Int).toNat (0 : Int)).length : Int))) (k := ((((List.replicate (t.ed.length : Int).toNat (0 : Int)).length : Int) : Int) - 0).toNat) ?_ ?_
 exact ⟨0, v24, rfl, rfl, rfl, rfl, rfl, rfl, rfl, rfl, (have hx : ((List.replicate (t.ed.length : Int).toNat (0 : Int)) : List Int) = sh0 t 0 := (by exact sh0_0 t); Own.re o30 (congrArg List.length hx) (congrArg (fun l : List Int => l.map eI) hx)), m27, by omega, by omega⟩
 rintro _ f33 H32 ⟨j, w6, rfl, s34, s35, s36, s37, s38, s39, s40, o41, m42, hj0, hj1⟩
 refine Sr ?_
 refine B rfl s34 s39 rfl ?_
 refine AWP.seq ?_
 by_cases b43 : j < (((List.replicate (t.ed.length : Int).toNat (0 : Int)).length) : Int)
 refine ct_ rfl (decide_eq_true b43) ?_
 refine AWP.skip ?_
 refine AWP.seq ?_
 refine bk_ ?_
 refine Sr ?_
 refine V rfl s34 (A rfl rfl ?_)
 refine AWP.seq ?_
 have hs0l := sh0_len t j
 refine AWP.region rfl ?_
 refine L rfl s36 ty_35 rfl (V rfl rfl (C rfl (Pc («as» := [.agg [.sl t.ed.length (t.ed.flatMap eE), .sl t.fan.length (t.fan.map eF), .sl t.rnd.length (t.rnd.map eBo)], .int .i64 j]) rfl rfl (rfl) tf_43 (c18 _ _ (by omega)) ?_)))
 intro H44 m45
 have o46 := Own.mono o41 m45
 have m47 := m42.trans m45
 refine AOps.nil ?_
 change AWP _ _ _ _ _ _
 rcases Bool.eq_false_or_eq_true (edgedS t j) with b48 | b48
 refine ct_ rfl b48 ?_
 refine AWP.region rfl ?_
 refine V rfl s40 (V rfl rfl ?_)
 obtain ⟨i49, ver50, e51, h52, _, _⟩ := Own.pos o46 (by omega)
 refine C rfl (AOp.indexAddrO rfl (Eq.trans rfl e51) rfl sl_38 (by omega) (by omega) h52 (C rfl (So (cells' := ((sh0 t j).set j.toNat 255).map eI) (.int .i64 255) rfl rfl ts_3 (Own.at_ e51 o46).1 rfl rfl (blelen (by rw [List.length_map]) (by omega)) (wr_set1 (by omega) (by omega)) ?_)))
 intro H53 h54 k55
 have o56 := Own.store e51 o46 h54 (len' := (((sh0 t j).set j.toNat 255)).length) (by rw [List.length_set]) (by rw [List.length_map, Nat.mul_one, List.length_set])
 have m57 := Mono.set m47 (Own.at_ e51 o46).2.1 k55
 refine AOps.nil ?_
 change AWP _ _ _ _ _ _
 have hs0l := sh0_len t j
 refine AWP.region rfl ?_
 refine B rfl s34 rfl (iadd (by omega)) (V rfl rfl ?_)
 refine AOps.nil ?_
 exact ⟨_, by omega, j + 1, w6, rfl, rfl, s35, s36, s37, s38, s39, s40, (have hx : ((((sh0 t j).set j.toNat 255)) : List Int) = sh0 t (j + 1) := (by exact sh0_T hj0 (by omega) b48); Own.re o56 (congrArg List.length hx) (congrArg (fun l : List Int => l.map eI) hx)), m57, by omega, by omega⟩
 refine cf_ rfl b48 ?_
 refine AWP.skip ?_
 change AWP _ _ _ _ _ _
 have hs0l := sh0_len t j
 refine AWP.region rfl ?_
 refine B rfl s34 rfl (iadd (by omega)) (V rfl rfl ?_)
 refine AOps.nil ?_
 exact ⟨_, by omega, j + 1, w6, rfl, rfl, s35, s36, s37, s38, s39, s40, (have hx : ((sh0 t j) : List Int) = sh0 t (j + 1) := (by exact sh0_F hj0 b48); Own.re o46 (congrArg List.length hx) (congrArg (fun l : List Int => l.map eI) hx)), m47, by omega, by omega⟩
 refine cf_ rfl (decide_eq_false b43) ?_
 refine AWP.exit ?_
 change AWP _ _ _ _ _ _
 refine AWP.seq ?_
 refine Sr ?_
 refine F rfl s35 fl_26_2 (L rfl rfl ty_24 rfl (C rfl (AOp.len (m := cr.length) rfl rfl (.inr (.inl ⟨_, rfl⟩)) u_24 (V rfl rfl ?_))))
 refine bk_ ?_
 refine AWP.loop (fun q58 fq Hq => ∃ (i : Int) (out : List Int) (w6 : AV), q58 = (((cr.length : Int) : Int) - i).toNat ∧ fq 31 = .int .i64 i ∧ fq 3 = .fptr [.sl t.ed.length (t.ed.flatMap eE), .sl t.fan.length (t.fan.map eF), .sl t.rnd.length (t.rnd.map eBo)] 0 ∧ fq 29 = .sl cr.length (cr.flatMap eCr) ∧ fq 30 = .int .i64 (cr.length : Int) ∧ fq 6 = w6 ∧ Own H0 Hq 1 w6 (out).length ((out).map eI) ∧ Mono H0 Hq ∧ (0 ≤ i) ∧ (i ≤ (cr.length : Int)) ∧ (shF t (cr.take i.toNat) (sh0 t t.ed.length) = some out) ∧ (out.length = t.ed.length)) (k := (((cr.length : Int) : Int) - 0).toNat) ?_ ?_
 exact ⟨0, (sh0 t t.ed.length), w6, rfl, rfl, s36, rfl, rfl, s40, (have hx : ((sh0 t j) : List Int) = (sh0 t t.ed.length) := (by congr 1; omega); Own.re o41 (congrArg List.length hx) (congrArg (fun l : List Int => l.map eI) hx)), m42, by omega, by omega, by rfl, by exact sh0_len _ _⟩
 rintro _ f60 H59 ⟨i, out, w6, rfl, s61, s62, s63, s64, s65, o66, m67, hi0, hi1, hF, hol⟩
 refine Sr ?_
 refine B rfl s61 s64 rfl ?_
 refine AWP.seq ?_
 by_cases b68 : i < (cr.length : Int)
 refine ct_ rfl (decide_eq_true b68) ?_
 refine AWP.skip ?_
 refine AWP.seq ?_
 refine bk_ ?_
 refine Sr ?_
 refine C rfl (iS_ rfl s63 s61 sl_24 (by omega) (by omega) (L rfl rfl ty_53 (ldM eCr_len (by omega) (by omega)) (C rfl (al_ rfl tz_53 ?_))))
 intro i69 H70 n71 h72 k73
 have z74 := Mono.free m67 n71
 have o75 := Own.keep o66 k73 (Own.notnew o66 n71)
 have no76 := Own.notnew o66 n71
 have m77 := Mono.new m67 n71 k73
 refine C rfl (Sw rfl rfl ts_53 h72 rfl rfl rfl ?_)
 intro H78 h79 k80
 have o82 := Own.keep o75 k80 no76
 have m83 := Mono.set m77 z74 k80
 refine AWP.seq ?_
 refine fz_ 9 h79 z74 rfl m83 fun H84 m85 k86 => ?_
 have o87 := Own.keep o82 k86 no76
 refine AWP.region rfl ?_
 refine L rfl s62 ty_35 rfl (F rfl rfl fl_53_0 (L rfl rfl ty_3 rfl (F rfl rfl fl_53_1 (L rfl rfl ty_3 rfl (C rfl (Pc («as» := [.agg [.sl t.ed.length (t.ed.flatMap eE), .sl t.fan.length (t.fan.map eF), .sl t.rnd.length (t.rnd.map eBo)], .int .i64 ((at_ cr i).A), .int .i64 ((at_ cr i).B)]) rfl rfl (rfl) tf_44 (c19 _ _ _ (by omega) (by assumption)) ?_))))))
 intro H88 m89
 have o90 := Own.mono o87 m89
 have m91 := m85.trans m89
 refine V rfl rfl (E rfl rfl rfl (E rfl rfl rfl (A rfl rfl (A rfl rfl ?_))))
 refine AWP.seq ?_
 refine Sr ?_
 refine V rfl rfl (C rfl (AOp.not rfl rfl ?_))
 refine AOps.nil ?_
 change AWP _ _ _ _ _ _
 rcases Bool.eq_false_or_eq_true ((findS t ((at_ cr i).A) ((at_ cr i).B)).isSome) with b92 | b92
 refine cf_ rfl (nb b92) ?_
 refine AWP.skip ?_
 change AWP _ _ _ _ _ _
 have hfi := find_in (t := t) (a := (at_ cr i).A) (b := (at_ cr i).B) b92
 refine AWP.region_quiet mixed (by kernel_rfl) 10 [10] rfl (by kernel_rfl) (Mono H88) (Mono.refl _) ?_
 refine QV rfl s65 (QV rfl rfl (QV rfl s65 (QV rfl rfl ?_)))
 obtain ⟨i93, ver94, e95, h96, _, _⟩ := Own.pos o90 (by omega)
 refine Q rfl (fun _ _ φ ψ => AOp.indexAddrO rfl (Eq.trans (φ 48 rfl) e95) (φ 49 rfl) sl_38 (by omega) (by omega) (ψ _ _ h96) ⟨rfl, ψ⟩) (Q rfl (fun _ _ φ ψ => Ld _ rfl (φ 50 rfl) ty_3 (ψ _ _ h96) (ld1 (by omega) (by omega)) ⟨rfl, ψ⟩) (QF rfl rfl fl_53_2 (QL rfl rfl ty_3 rfl (Q rfl (fun _ _ φ ψ => AOp.max2 rfl (φ 51 rfl) (φ 53 rfl) ⟨rfl, ψ⟩) ?_))))
 obtain ⟨i97, ver98, e99, h100, _, _⟩ := Own.pos o90 (by omega)
 refine Q rfl (fun _ _ φ ψ => AOp.indexAddrO rfl (Eq.trans (φ 46 rfl) e99) (φ 47 rfl) sl_38 (by omega) (by omega) (ψ _ _ h100) ⟨rfl, ψ⟩) ?_
 refine QE.done fun H101 m102 => ?_
 have o103 := Own.mono o90 m102
 have m104 := m91.trans m102
 refine C rfl (So (cells' := ((out).set (optI (findS t ((at_ cr i).A) ((at_ cr i).B))).toNat (max (at_ (out) (optI (findS t ((at_ cr i).A) ((at_ cr i).B)))) ((at_ cr i).S))).map eI) (.int .i64 (max (at_ (out) (optI (findS t ((at_ cr i).A) ((at_ cr i).B)))) ((at_ cr i).S))) rfl rfl ts_3 (Own.at_ e99 o103).1 rfl rfl (blelen (by rw [List.length_map]) (by omega)) (wr_set1 (by omega) (by omega)) ?_)
 intro H105 h106 k107
 have o108 := Own.store e99 o103 h106 (len' := (((out).set (optI (findS t ((at_ cr i).A) ((at_ cr i).B))).toNat (max (at_ (out) (optI (findS t ((at_ cr i).A) ((at_ cr i).B)))) ((at_ cr i).S)))).length) (by rw [List.length_set]) (by rw [List.length_map, Nat.mul_one, List.length_set])
 have m109 := Mono.set m104 (Own.at_ e99 o103).2.1 k107
 refine AWP.region rfl ?_
 refine B rfl s61 rfl (iadd (by omega)) (V rfl rfl ?_)
 refine AOps.nil ?_
 exact ⟨_, by omega, i + 1, (out.set (optI (findS t (at_ cr i).A (at_ cr i).B)).toNat (max (at_ out (optI (findS t (at_ cr i).A (at_ cr i).B))) (at_ cr i).S)), w6, rfl, rfl, s62, s63, s64, s65, o108, m109, by omega, by omega, by exact shF_step hi0 (by omega) hF b92, by rw [List.length_set]; exact hol⟩
 refine ct_ rfl (nb b92) ?_
 refine Sr ?_
 refine A rfl rfl (A rfl rfl ?_)
 refine rt_ ?_
 refine Fin.frz 4 (Own.nil H0 H88 1) rfl m91 fun H110 m111 k112 => ?_
 have o113 := Own.stay o90 (Sep.nilR _) (fun i hi _ => k112 i hi)
 refine Rr (Res.two rfl rfl rfl) ?_ m111
 exact congrArg AV.tup (lc (congrArg (fun l : List Int => AV.sl l.length (l.map eI)) (show ([] : List Int) = (sharpR t cr).1 from by rw [sharp_no hi0 (by omega) hF b92])) (lc (congrArg (AV.int .i64) (show (14 : Int) = (sharpR t cr).2 from by rw [sharp_no hi0 (by omega) hF b92])) rfl))
 refine cf_ rfl (decide_eq_false b68) ?_
 refine AWP.exit ?_
 change AWP _ _ _ _ _ _
 refine Sr ?_
 refine V rfl s65 (A rfl rfl (A rfl rfl ?_))
 refine rt_ ?_
 refine Fin.frz 4 o66 rfl m67 fun H114 m115 k116 => ?_
 refine Rr (Res.two rfl rfl rfl) ?_ m115
 exact congrArg AV.tup (lc (congrArg (fun l : List Int => AV.sl l.length (l.map eI)) (show ((out) : List Int) = (sharpR t cr).1 from by rw [sharp_ok (by omega) hF])) (lc (congrArg (AV.int .i64) (show (0 : Int) = (sharpR t cr).2 from by rw [sharp_ok (by omega) hF])) rfl))
end Go.Proofs.U
namespace Go.Proofs.U
open Go Go.AH Go.Proofs.T
set_option maxRecDepth 4000
theorem Own.plain_ {H0 H : Heap} {es len : Nat} {v : AV} {cells : List AV} (h : Own H0 H es v len cells) : v.plainB = true := by
  rcases h with ⟨h, _⟩ | ⟨id, ver, h, _⟩ <;> subst h <;> rfl
theorem fill_own {H0 H : Heap} {es len : Nat} {cs : List AV} {pl : Nat → Option (Nat × Nat)} {cells c' : List AV} {i off : Nat} {v : AV} {rest : List (Nat × AV)} {r : Option (List AV)} (ho : Own H0 H es v len cs) (hp : pl i = some (off, 1)) (hle : Nat.ble (off + 1) cells.length = true) (hw : writeL cells off [v] = c') (h : fillA pl c' rest = r) : fillA pl cells ((i, v) :: rest) = r :=
  fill_step hp (Own.plain_ ho) (by rw [Own.cells_ ho]; rfl) hle (by rw [Own.cells_ ho]; exact hw) h
theorem gld {L : List ME} {n : Nat} {x : Int} (h0 : 0 ≤ x) (h1 : x < n) : loadv false 1 (x.toNat * 1) ((gvals L n).map eA) = some (getM L x).1 := by
  have := ld1 (xs := gvals L n) (e := eA) h0 (by rw [gvals_len]; exact h1)
  rw [gvals_at h0 h1] at this; exact this
def adjU (ed : List Ed) (k : Int) (x : Int) : List Int := ((List.range k.toNat).map fun (j : Nat) => (j : Int)).flatMap fun j => (if (at_ ed j).A = x then [j] else []) ++ (if (at_ ed j).B = x then [j] else [])
end Go.Proofs.U
namespace Go.Proofs.T
open Go Go.AH
set_option maxRecDepth 20000
structure Small (t : Tp) : Prop where
  ed : t.ed.length ≤ 1048576
  fan : t.fan.length ≤ 1048576
  rnd : t.rnd.length ≤ 1048576
  fans : ∀ l ∈ t.fan, l.length ≤ 1048576
  ok : ∀ e ∈ t.ed, EOK e
  sorted : SortedE t.ed
theorem pw_at {l : List Ed} (h : l.Pairwise ltE) : SortedE l := by
  intro i j h0 h1 h2
  rw [List.pairwise_iff_getElem] at h
  have hi : i.toNat < l.length := by omega
  have hj : j.toNat < l.length := by omega
  have := h i.toNat j.toNat hi hj (by omega)
  simpa [at_, hi, hj] using this
def F1 : List (List Int) := [[0], [0], [0]]
end Go.Proofs.T
namespace Go.Proofs.T
open Go Go.AH
def lone (c : Int) (e : Ed) : Bool := decide ((e.A = c ∨ e.B = c) ∧ min e.F e.G < 0)
def cntJ (j : Int) (l : List Ed) (c : Int) : Int := (((l.take j.toNat).filter (lone c)).length : Nat)
end Go.Proofs.T
namespace Go.Proofs.T
open Go Go.AH
def FewLaw : Prop := ∀ {n : Int} {fs : List (List Int)} (_ : okS n fs) {c : Int} (_ : 0 ≤ c) (_ : c < n), cntJ (buildT n fs).ed.length (buildT n fs).ed c = if fanR fs c = true then 0 else 2
end Go.Proofs.T
namespace Go.Proofs.T
open Go Go.AH
structure Fan (fs : List (List Int)) (n c x : Int) (K : Nat) : Prop where
  hg : goodS n fs
  x0 : 0 ≤ x
  x1 : x < fs.length
  xv : c ∈ at_ fs x
  run : Runs fs c x K
  pos : 1 ≤ K
  stop : iterS (stepS fs c) x K < 0 ∨ iterS (stepS fs c) x K = x
  cover : ∀ f : Int, 0 ≤ f → f < fs.length → c ∈ at_ fs f → ∃ i, i < K ∧ iterS (stepS fs c) x i = f
theorem fan_of {n : Int} {fs : List (List Int)} (h : okS n fs) {c : Int} (h0 : 0 ≤ c) (h1 : c < n) : mineU fs c fs.length ≠ [] ∧ Fan fs n c (headS fs c) (stopK fs c (headS fs c)) := by
  have hf := h.2.2 c h0 h1
  have hne : mineU fs c fs.length ≠ [] := fun e => by
    unfold fanOK at hf; rw [if_pos e] at hf; cases hf
  unfold fanOK fanL at hf
  rw [if_neg hne, if_neg hne, orb_len, decide_eq_true_eq] at hf
  have hx := mem_mineU.1 (head_mem hne)
  have hle := mine_le fs c fs.length
  generalize headS fs c = x at hf hx ⊢
  have hK : stopK fs c x < (List.range (fs.length + 1)).length := by simp; omega
  have hstop := ((List.findIdx_eq (p := fun k => decide (1 ≤ k ∧ (iterS (stepS fs c) x k < 0 ∨ iterS (stepS fs c) x k = x))) (xs := List.range (fs.length + 1)) (i := stopK fs c x) hK).1 rfl).1
  rw [List.getElem_range, decide_eq_true_eq] at hstop
  have hrun : Runs fs c x (stopK fs c x) := by
    intro i hi
    by_cases e : i = 0
    · subst e; exact ⟨hx.1, .inl rfl⟩
    · have := List.not_of_lt_findIdx (p := fun k => decide (1 ≤ k ∧ (iterS (stepS fs c) x k < 0 ∨ iterS (stepS fs c) x k = x))) (xs := List.range (fs.length + 1)) (i := i) hi
      simp only [List.getElem_range, decide_eq_false_iff_not] at this
      have h2 : 1 ≤ i := by omega
      refine ⟨?_, .inr fun e2 => this ⟨h2, .inr e2⟩⟩
      rcases Int.lt_or_le (iterS (stepS fs c) x i) 0 with g | g
      · exact absurd ⟨h2, .inl g⟩ this
      · exact g
  refine ⟨hne, ⟨h.2.1, hx.1, hx.2.1, hx.2.2, hrun, hstop.1, hstop.2, fun f f0 f1 fv => ?_⟩⟩
  have hnd := orb_nodup h.2.1 hx.1 hx.2.1 hx.2.2 hrun
  have hsub : orbS fs c x (stopK fs c x) ⊆ mineU fs c fs.length := by
    intro y hy
    unfold orbS at hy
    obtain ⟨i, hi, rfl⟩ := List.mem_map.1 hy
    rw [List.mem_range] at hi
    exact mem_mineU.2 (run_mem h.2.1 hx.1 hx.2.1 hx.2.2 hrun i hi)
  have hmem : f ∈ orbS fs c x (stopK fs c x) := by
    apply Classical.byContradiction
    intro hn
    have := List.Nodup.length_le_of_subset (List.nodup_cons.2 ⟨hn, hnd⟩) (l₂ := mineU fs c fs.length) (fun y hy => by
      rcases List.mem_cons.1 hy with rfl | hy
      · exact mem_mineU.2 ⟨f0, f1, fv⟩
      · exact hsub hy)
    rw [List.length_cons, orb_len] at this
    omega
  unfold orbS at hmem
  obtain ⟨i, hi, e⟩ := List.mem_map.1 hmem
  exact ⟨i, List.mem_range.1 hi, e⟩
section
variable {n c x : Int} {fs : List (List Int)} {K : Nat}
theorem Fan.mem (F : Fan fs n c x K) {i : Nat} (hi : i < K) : 0 ≤ iterS (stepS fs c) x i ∧ iterS (stepS fs c) x i < fs.length ∧ c ∈ at_ fs (iterS (stepS fs c) x i) := run_mem F.hg F.x0 F.x1 F.xv F.run i hi
theorem side_next (hg : goodS n fs) {f : Int} (f0 : 0 ≤ f) (f1 : f < fs.length) (fv : c ∈ at_ fs f) : alongS fs c (nextS (at_ fs f) c 1) = f := along_good hg f0 f1 (way_next (good_apart hg f0 f1) fv).1
theorem side_prev (hg : goodS n fs) {f : Int} (f0 : 0 ≤ f) (f1 : f < fs.length) (fv : c ∈ at_ fs f) : alongS fs (nextS (at_ fs f) c (-1)) c = f := along_good hg f0 f1 (way_next (good_apart hg f0 f1) fv).2
theorem of_side (hg : goodS n fs) {y : Int} (h : 0 ≤ alongS fs c y) : alongS fs c y < fs.length ∧ c ∈ at_ fs (alongS fs c y) ∧ nextS (at_ fs (alongS fs c y)) c 1 = y := by
  obtain ⟨g1, g2, _⟩ := along_some h
  obtain ⟨i, k0, k1, k2, _⟩ := mem_wayF.1 g2
  refine ⟨g1, ?_, (next_way (good_apart hg h g1) g2).1⟩
  have hm := at_mem k0 k1
  rw [← k2] at hm; exact hm
theorem of_side' (hg : goodS n fs) {y : Int} (h : 0 ≤ alongS fs y c) : alongS fs y c < fs.length ∧ c ∈ at_ fs (alongS fs y c) ∧ nextS (at_ fs (alongS fs y c)) c (-1) = y := by
  obtain ⟨g1, g2, _⟩ := along_some h
  obtain ⟨i, k0, k1, _, k2⟩ := mem_wayF.1 g2
  have hr := mod_in (x := i + 1) (y := ((at_ fs (alongS fs y c)).length : Int)) (by omega)
  refine ⟨g1, ?_, (next_way (good_apart hg h g1) g2).2⟩
  have hm := at_mem hr.1 hr.2
  rw [← k2] at hm; exact hm
theorem pred_of (hg : goodS n fs) {f : Int} (f0 : 0 ≤ f) (f1 : f < fs.length) (fv : c ∈ at_ fs f) (h : 0 ≤ alongS fs (nextS (at_ fs f) c 1) c) :
    stepS fs c (alongS fs (nextS (at_ fs f) c 1) c) = f := by
  obtain ⟨_, _, g3⟩ := of_side' hg h
  unfold stepS
  rw [g3]
  exact side_next hg f0 f1 fv
theorem pred_iff (hg : goodS n fs) {g : Int} (g0 : 0 ≤ g) (g1 : g < fs.length) (gv : c ∈ at_ fs g) (h : 0 ≤ stepS fs c g) : 0 ≤ alongS fs (nextS (at_ fs (stepS fs c g)) c 1) c := by
  rw [(step_mem hg g0 g1 gv h).2.2, side_prev hg g0 g1 gv]; exact g0
theorem Fan.closes (F : Fan fs n c x K) : 0 ≤ alongS fs (nextS (at_ fs x) c 1) c ↔ iterS (stepS fs c) x K = x := by
  constructor
  · intro h
    have h1 := pred_of F.hg F.x0 F.x1 F.xv h
    obtain ⟨g1, g2, _⟩ := of_side' F.hg h
    obtain ⟨j, hj, e⟩ := F.cover _ h g1 g2
    rw [← e] at h1
    by_cases hk : j + 1 < K
    · exact absurd (show iterS (stepS fs c) x (j + 1) = x from h1) ((F.run (j + 1) hk).2.resolve_left (by omega))
    · have : K = j + 1 := by omega
      rw [this]; exact h1
  · intro h
    have hK := F.pos
    obtain ⟨m, rfl⟩ : ∃ m, K = m + 1 := ⟨K - 1, by omega⟩
    obtain ⟨g0, g1, gv⟩ := F.mem (i := m) (by omega)
    have hs : stepS fs c (iterS (stepS fs c) x m) = x := h
    have := pred_iff F.hg g0 g1 gv (by rw [hs]; exact F.x0)
    rw [hs] at this; exact this
theorem Fan.pred (F : Fan fs n c x K) {f : Int} (f0 : 0 ≤ f) (f1 : f < fs.length) (fv : c ∈ at_ fs f) (hb : alongS fs (nextS (at_ fs f) c 1) c < 0) : f = x := by
  obtain ⟨i, hi, rfl⟩ := F.cover f f0 f1 fv
  cases i with
  | zero => rfl
  | succ i =>
    obtain ⟨g0, g1, gv⟩ := F.mem (i := i) (by omega)
    have hs : stepS fs c (iterS (stepS fs c) x i) = iterS (stepS fs c) x (i + 1) := rfl
    have := pred_iff F.hg g0 g1 gv (by rw [hs]; exact f0)
    rw [hs] at this; omega
theorem Fan.end_ (F : Fan fs n c x K) {f : Int} (f0 : 0 ≤ f) (f1 : f < fs.length) (fv : c ∈ at_ fs f) (he : stepS fs c f < 0) : f = iterS (stepS fs c) x (K - 1) ∧ iterS (stepS fs c) x K < 0 := by
  obtain ⟨i, hi, rfl⟩ := F.cover f f0 f1 fv
  have hs : stepS fs c (iterS (stepS fs c) x i) = iterS (stepS fs c) x (i + 1) := rfl
  rw [hs] at he
  by_cases hk : i + 1 < K
  · have := (F.run (i + 1) hk).1; omega
  · have : K = i + 1 := by omega
    subst this
    exact ⟨rfl, he⟩
end
theorem round_iff {n : Int} {fs : List (List Int)} (h : okS n fs) {c : Int} (h0 : 0 ≤ c) (h1 : c < n) : fanR fs c = true ↔ iterS (stepS fs c) (headS fs c) (stopK fs c (headS fs c)) = headS fs c := by
  obtain ⟨hne, F⟩ := fan_of h h0 h1
  rw [← F.closes]
  unfold fanR roundB
  rw [if_neg hne, decide_eq_true_eq]
  have hfl := first_le fs c fs.length
  have key : ∀ m : Nat, (firstN fs c m < 0 → ∀ f : Int, 0 ≤ f → f < m → c ∈ at_ fs f → 0 ≤ alongS fs (nextS (at_ fs f) c 1) c) ∧ (0 ≤ firstN fs c m → alongS fs (nextS (at_ fs (firstN fs c m)) c 1) c < 0) := by
    intro m
    induction m with
    | zero => exact ⟨fun _ f f0 f1 => by omega, fun h => by simp [firstN] at h⟩
    | succ m ih =>
      unfold firstN
      split
      · rename_i g; exact ⟨fun e => by omega, fun _ => g.2⟩
      · rename_i g
        refine ⟨fun e f f0 f1 fv => ?_, ih.2⟩
        by_cases c2 : f = m
        · subst c2
          rcases Int.lt_or_le (alongS fs (nextS (at_ fs (m : Int)) c 1) c) 0 with g2 | g2
          · exact absurd ⟨fv, g2⟩ g
          · exact g2
        · exact ih.1 e f f0 (by omega) fv
  constructor
  · intro e
    exact (key fs.length).1 e _ F.x0 F.x1 F.xv
  · intro e
    rcases Int.lt_or_le (firstN fs c fs.length) 0 with g | g
    · exact g
    · have hh : headS fs c = firstN fs c fs.length := by unfold headS; rw [if_neg (by omega)]
      have := (key fs.length).2 g
      rw [hh] at e; omega
def edgeP (fs : List (List Int)) (c y : Int) : Ed := ⟨min c y, max c y, alongS fs (min c y) (max c y), alongS fs (max c y) (min c y)⟩
theorem edgeP_FG (fs : List (List Int)) (c y : Int) : (min (edgeP fs c y).F (edgeP fs c y).G < 0 ↔ alongS fs c y < 0 ∨ alongS fs y c < 0) ∧ (0 ≤ (edgeP fs c y).F ∨ 0 ≤ (edgeP fs c y).G ↔ 0 ≤ alongS fs c y ∨ 0 ≤ alongS fs y c) := by
  unfold edgeP
  simp only
  rcases Int.le_total c y with h | h
  · rw [Int.min_eq_left h, Int.max_eq_right h]; omega
  · rw [Int.min_eq_right h, Int.max_eq_left h]; omega
theorem mem_at_c {n : Int} {fs : List (List Int)} {c : Int} (h0 : 0 ≤ c) (h1 : c < n) {e : Ed} : (e ∈ eOut fs n n ∧ lone c e = true) ↔ ∃ y : Int, 0 ≤ y ∧ y < n ∧ y ≠ c ∧ e = edgeP fs c y ∧ (0 ≤ alongS fs c y ∨ 0 ≤ alongS fs y c) ∧ (alongS fs c y < 0 ∨ alongS fs y c < 0) := by
  rw [mem_eOut]
  unfold lone
  rw [decide_eq_true_eq]
  constructor
  · rintro ⟨⟨a, b, d, hF, hG, hp⟩, hc, hm⟩
    rcases hc with hc | hc
    · have e1 : e = edgeP fs c e.B := by
        unfold edgeP; rw [Int.min_eq_left (by omega), Int.max_eq_right (by omega), ← hc, ← hF, ← hG]
      refine ⟨e.B, by omega, by omega, by omega, e1, ?_, ?_⟩
      · rw [e1] at hp; exact (edgeP_FG fs c _).2.1 hp
      · rw [e1] at hm; exact (edgeP_FG fs c _).1.1 hm
    · have e1 : e = edgeP fs c e.A := by
        unfold edgeP; rw [Int.min_eq_right (by omega), Int.max_eq_left (by omega), ← hc, ← hF, ← hG]
      refine ⟨e.A, by omega, by omega, by omega, e1, ?_, ?_⟩
      · rw [e1] at hp; exact (edgeP_FG fs c _).2.1 hp
      · rw [e1] at hm; exact (edgeP_FG fs c _).1.1 hm
  · rintro ⟨y, y0, y1, yc, rfl, hp, hm⟩
    refine ⟨⟨?_, ?_, ?_, rfl, rfl, (edgeP_FG fs c y).2.2 hp⟩, ?_, (edgeP_FG fs c y).1.2 hm⟩ <;> simp only [edgeP] <;> omega
theorem edgeP_inj {fs : List (List Int)} {c y z : Int} (h : edgeP fs c y = edgeP fs c z) : y = z := by
  have e1 := congrArg Ed.A h
  have e2 := congrArg Ed.B h
  simp only [edgeP] at e1 e2
  omega
theorem few_law : FewLaw := by
  intro n fs h c h0 h1
  obtain ⟨hne, F⟩ := fan_of h h0 h1
  have hr := round_iff h h0 h1
  rw [(build_ok h).1]
  unfold cntJ
  simp only [Int.toNat_natCast, List.take_length]
  generalize headS fs c = x at F hr
  generalize stopK fs c x = K at F hr
  have hnd : ((eOut fs n n).filter (lone c)).Nodup := by
    rw [List.nodup_iff_pairwise_ne]
    refine List.Pairwise.filter _ ?_
    refine (eOut_sorted fs n).imp ?_
    intro x y h e
    subst e; unfold ltE at h; omega
  by_cases hR : fanR fs c = true
  · rw [if_pos hR]
    have hcl := hr.1 hR
    have : (eOut fs n n).filter (lone c) = [] := by
      rw [List.filter_eq_nil_iff]
      intro e he hl
      obtain ⟨y, _, _, _, _, hp, hm⟩ := (mem_at_c h0 h1).1 ⟨he, hl⟩
      by_cases ha : 0 ≤ alongS fs c y
      · obtain ⟨g1, g2, g3⟩ := of_side F.hg ha
        have hb := F.pred ha g1 g2 (by rw [g3]; omega)
        have := F.closes.2 hcl
        rw [← hb, g3] at this; omega
      · have hb : 0 ≤ alongS fs y c := by omega
        obtain ⟨g1, g2, g3⟩ := of_side' F.hg hb
        have := (F.end_ hb g1 g2 (by unfold stepS; rw [g3]; omega)).2
        have := F.x0
        omega
    rw [this]; rfl
  · rw [if_neg hR]
    have hcl : ¬ iterS (stepS fs c) x K = x := fun e => hR (hr.2 e)
    have hbad : alongS fs (nextS (at_ fs x) c 1) c < 0 := by
      rcases Int.lt_or_le (alongS fs (nextS (at_ fs x) c 1) c) 0 with g | g
      · exact g
      · exact absurd (F.closes.1 g) hcl
    have hKn : iterS (stepS fs c) x K < 0 := F.stop.resolve_right hcl
    have hK := F.pos
    obtain ⟨l0, l1, lv⟩ := F.mem (i := K - 1) (by omega)
    have hstep : stepS fs c (iterS (stepS fs c) x (K - 1)) < 0 := by
      obtain ⟨m, rfl⟩ : ∃ m, K = m + 1 := ⟨K - 1, by omega⟩
      exact hKn
    have hxs := side_next F.hg F.x0 F.x1 F.xv
    have hls := side_prev F.hg l0 l1 lv
    have hny : nextS (at_ fs x) c 1 ≠ nextS (at_ fs (iterS (stepS fs c) x (K - 1))) c (-1) := fun e => by
      have hs2 : alongS fs c (nextS (at_ fs (iterS (stepS fs c) x (K - 1))) c (-1)) < 0 := hstep
      rw [← e, hxs] at hs2
      have := F.x0; omega
    have rng : ∀ f : Int, 0 ≤ f → f < fs.length → c ∈ at_ fs f → ∀ b, 0 ≤ nextS (at_ fs f) c b ∧ nextS (at_ fs f) c b < n := fun f f0 f1 fv b => next_in F.hg f0 f1 fv b
    have hself : ∀ y : Int, 0 ≤ alongS fs c y ∨ 0 ≤ alongS fs y c → y ≠ c := by
      intro y hy e
      subst e
      have hy' : 0 ≤ alongS fs y y := by omega
      obtain ⟨g1, g2, _⟩ := along_some hy'
      have := side_in F.hg (s := ((y, y), (alongS fs y y).toNat)) (mem_sides.2 ⟨by omega, by rw [Int.toNat_of_nonneg hy']; exact g2⟩)
      exact this.2.2.2.2.1 rfl
    have hperm : ((eOut fs n n).filter (lone c)).Perm [edgeP fs c (nextS (at_ fs x) c 1), edgeP fs c (nextS (at_ fs (iterS (stepS fs c) x (K - 1))) c (-1))] := by
      refine (List.perm_ext_iff_of_nodup hnd (by simp; exact fun e => hny (edgeP_inj e))).2 fun e => ?_
      rw [List.mem_filter, mem_at_c h0 h1]
      simp only [List.mem_cons, List.not_mem_nil, or_false]
      constructor
      · rintro ⟨y, _, _, _, rfl, hp, hm⟩
        by_cases ha : 0 ≤ alongS fs c y
        · left
          obtain ⟨g1, g2, g3⟩ := of_side F.hg ha
          have hb := F.pred ha g1 g2 (by rw [g3]; omega)
          rw [← hb, g3]
        · right
          have hb : 0 ≤ alongS fs y c := by omega
          obtain ⟨g1, g2, g3⟩ := of_side' F.hg hb
          have := (F.end_ hb g1 g2 (by unfold stepS; rw [g3]; omega)).1
          rw [← this, g3]
      · rintro (rfl | rfl)
        · have r := rng x F.x0 F.x1 F.xv 1
          have hp : 0 ≤ alongS fs c (nextS (at_ fs x) c 1) ∨ 0 ≤ alongS fs (nextS (at_ fs x) c 1) c := .inl (by rw [hxs]; exact F.x0)
          exact ⟨_, r.1, r.2, hself _ hp, rfl, hp, .inr hbad⟩
        · have r := rng _ l0 l1 lv (-1)
          have hp : 0 ≤ alongS fs c (nextS (at_ fs (iterS (stepS fs c) x (K - 1))) c (-1)) ∨ 0 ≤ alongS fs (nextS (at_ fs (iterS (stepS fs c) x (K - 1))) c (-1)) c := .inr (by rw [hls]; exact l0)
          exact ⟨_, r.1, r.2, hself _ hp, rfl, hp, .inl hstep⟩
    rw [hperm.length_eq]; rfl
end Go.Proofs.T
namespace Go.Proofs.T
open Go Go.AH
def twoB (e : Ed) : Bool := decide (¬ min e.F e.G < 0)
def twoN (l : List Ed) (i : Int) : Int := ((l.take i.toNat).countP twoB : Nat)
theorem edged_not {t : Tp} {j : Int} (h0 : 0 ≤ j) (h1 : j < t.ed.length) (h : edgedS t j = false) : ¬ min (at_ t.ed j).F (at_ t.ed j).G < 0 := fun g => by
  unfold edgedS at h; exact of_decide_eq_false h ⟨h0, h1, g⟩
theorem two_le (l : List Ed) (i : Int) : 0 ≤ twoN l i ∧ twoN l i ≤ i.toNat := by
  unfold twoN
  have := List.countP_le_length (p := twoB) (l := l.take i.toNat)
  rw [List.length_take] at this; omega
def sumL (l : List (List Int)) : Int := ((l.map List.length).sum : Nat)
theorem sum_step {l : List (List Int)} {i : Int} (h0 : 0 ≤ i) (h1 : i < l.length) : sumL (l.take (i + 1).toNat) = sumL (l.take i.toNat) + (at_ l i).length := by
  unfold sumL; rw [take_step h0 h1]; simp
theorem sides_sum (fs : List (List Int)) : ((sides fs).length : Int) = sumL fs := by
  have key : ∀ (fs : List (List Int)) (k : Nat), (sidesFrom k fs).length = (fs.map List.length).sum := by
    intro fs
    induction fs with
    | nil => intro k; rfl
    | cons l fs ih => intro k; rw [sidesFrom, List.length_append, List.length_map, wayF_len, ih]; simp
  unfold sides sumL; rw [key]
theorem sum_le {fs : List (List Int)} (i : Int) : 0 ≤ sumL (fs.take i.toNat) ∧ sumL (fs.take i.toNat) ≤ (sides fs).length := by
  rw [sides_sum]
  refine ⟨by unfold sumL; omega, ?_⟩
  have h := congrArg sumL (List.take_append_drop i.toNat fs)
  have h2 : sumL (fs.take i.toNat ++ fs.drop i.toNat) = sumL (fs.take i.toNat) + sumL (fs.drop i.toNat) := by unfold sumL; rw [List.map_append, List.sum_append]; omega
  rw [h2] at h
  have : 0 ≤ sumL (fs.drop i.toNat) := by unfold sumL; omega
  omega
theorem find_law {n : Int} {fs : List (List Int)} (h : okS n fs) {f i : Int} (f0 : 0 ≤ f) (f1 : f < fs.length) (i0 : 0 ≤ i) (i1 : i < (at_ fs f).length) :
    (findS (buildT n fs) (at_ (at_ fs f) i) (at_ (at_ fs f) ((i + 1) % (at_ fs f).length))).isSome = true ∧
    0 ≤ optI (findS (buildT n fs) (at_ (at_ fs f) i) (at_ (at_ fs f) ((i + 1) % (at_ fs f).length))) ∧
    optI (findS (buildT n fs) (at_ (at_ fs f) i) (at_ (at_ fs f) ((i + 1) % (at_ fs f).length))) < (buildT n fs).ed.length ∧
    (at_ (at_ fs f) i < at_ (at_ fs f) ((i + 1) % (at_ fs f).length) → (at_ (buildT n fs).ed (optI (findS (buildT n fs) (at_ (at_ fs f) i) (at_ (at_ fs f) ((i + 1) % (at_ fs f).length))))).F = f) ∧
    (at_ (at_ fs f) ((i + 1) % (at_ fs f).length) < at_ (at_ fs f) i → (at_ (buildT n fs).ed (optI (findS (buildT n fs) (at_ (at_ fs f) i) (at_ (at_ fs f) ((i + 1) % (at_ fs f).length))))).G = f) := by
  have hw : (at_ (at_ fs f) i, at_ (at_ fs f) ((i + 1) % (at_ fs f).length)) ∈ wayF (at_ fs f) := mem_wayF.2 ⟨i, i0, i1, rfl, rfl⟩
  generalize at_ (at_ fs f) i = a at hw ⊢
  generalize at_ (at_ fs f) ((i + 1) % (at_ fs f).length) = b at hw ⊢
  have ha := along_good h.2.1 f0 f1 hw
  have hs := side_in h.2.1 (s := ((a, b), f.toNat)) (mem_sides.2 ⟨by omega, by rw [Int.toNat_of_nonneg f0]; exact hw⟩)
  simp only at hs
  rw [(build_ok h).1]
  have hm : (⟨min a b, max a b, alongS fs (min a b) (max a b), alongS fs (max a b) (min a b)⟩ : Ed) ∈ eOut fs n n := by
    refine mem_eOut.2 ⟨by simp only; omega, by simp only; obtain ⟨e1, e2, e3, e4, e5, _⟩ := hs; omega, by simp only; omega, rfl, rfl, ?_⟩
    simp only
    rcases Int.le_total a b with g | g
    · rw [Int.min_eq_left g, Int.max_eq_right g]; left; omega
    · rw [Int.min_eq_right g, Int.max_eq_left g]; right; omega
  cases hf : findS ⟨eOut fs n n, fansU fs n, rndU fs n⟩ a b with
  | none =>
    unfold findS at hf
    rw [List.findIdx?_eq_none_iff] at hf
    have := hf _ hm
    simp at this
  | some k =>
    unfold findS at hf
    rw [List.findIdx?_eq_some_iff_getElem] at hf
    obtain ⟨k1, k2, _⟩ := hf
    simp only [decide_eq_true_eq] at k2
    have hk : at_ (eOut fs n n) (k : Int) = (eOut fs n n)[k] := by simp [at_, k1]
    have he := mem_eOut.1 (List.getElem_mem k1)
    refine ⟨rfl, by simp [optI], by simp only [optI]; exact Int.ofNat_lt.2 k1, fun g => ?_, fun g => ?_⟩
    · simp only [optI]; rw [hk, he.2.2.2.1, k2.1, k2.2, Int.min_eq_left (by omega), Int.max_eq_right (by omega)]; exact ha
    · simp only [optI]; rw [hk, he.2.2.2.2.1, k2.1, k2.2, Int.min_eq_right (by omega), Int.max_eq_left (by omega)]; exact ha
def sidesE (e : Ed) : List (Int × Int) := (if 0 ≤ e.F then [(e.A, e.B)] else []) ++ if 0 ≤ e.G then [(e.B, e.A)] else []
theorem sidesE_len (l : List Ed) (h : ∀ e ∈ l, 0 ≤ e.F ∨ 0 ≤ e.G) : ((l.flatMap sidesE).length : Int) = l.length + l.countP twoB := by
  induction l with
  | nil => rfl
  | cons e l ih =>
    have h1 := ih fun x hx => h x (.tail _ hx)
    have h2 := h e (.head _)
    rw [List.flatMap_cons, List.length_append, List.countP_cons, List.length_cons]
    have h3 : (sidesE e).length = 1 + if twoB e = true then 1 else 0 := by
      unfold sidesE twoB
      by_cases a : 0 ≤ e.F <;> by_cases b : 0 ≤ e.G
      · rw [if_pos a, if_pos b, if_pos (by rw [decide_eq_true_eq]; omega)]; rfl
      · rw [if_pos a, if_neg b, if_neg (by rw [decide_eq_true_eq]; omega)]; rfl
      · rw [if_neg a, if_pos b, if_neg (by rw [decide_eq_true_eq]; omega)]; rfl
      · omega
    omega
theorem two_law {n : Int} {fs : List (List Int)} (h : okS n fs) : twoN (buildT n fs).ed (buildT n fs).ed.length = (sides fs).length - (buildT n fs).ed.length := by
  rw [(build_ok h).1]
  unfold twoN
  simp only [Int.toNat_natCast, List.take_length]
  have hm : ∀ e ∈ eOut fs n n, 0 ≤ e.F ∨ 0 ≤ e.G := fun e he => (mem_eOut.1 he).2.2.2.2.2
  have h1 := sidesE_len _ hm
  have hk : ((sides fs).map Prod.fst).Nodup := good_keys h.2.1
  have hn : ((eOut fs n n).flatMap sidesE).Nodup := by
    rw [List.nodup_iff_pairwise_ne, List.pairwise_flatMap]
    refine ⟨fun e he => ?_, ?_⟩
    · have := mem_eOut.1 he
      unfold sidesE
      by_cases a : 0 ≤ e.F <;> by_cases b : 0 ≤ e.G <;> simp only [a, b, if_true, if_false, List.append_nil, List.nil_append, List.singleton_append, List.pairwise_cons, List.mem_singleton, List.not_mem_nil, forall_eq, List.Pairwise.nil, and_true] <;> try simp
      omega
    · refine List.Pairwise.imp_of_mem ?_ (eOut_sorted fs n)
      intro x y hx hy hxy p hp q hq e
      subst e
      have hx' := mem_eOut.1 hx
      have hy' := mem_eOut.1 hy
      unfold sidesE at hp hq
      have c1 : p = (x.A, x.B) ∨ p = (x.B, x.A) := by
        rcases List.mem_append.1 hp with g | g <;> split at g <;> simp at g
        · exact .inl g
        · exact .inr g
      have c2 : p = (y.A, y.B) ∨ p = (y.B, y.A) := by
        rcases List.mem_append.1 hq with g | g <;> split at g <;> simp at g
        · exact .inl g
        · exact .inr g
      unfold ltE at hxy
      rcases c1 with rfl | rfl <;> rcases c2 with c2 | c2 <;> rw [Prod.mk.injEq] at c2 <;> omega
  have hp : ((eOut fs n n).flatMap sidesE).Perm ((sides fs).map Prod.fst) := by
    refine (List.perm_ext_iff_of_nodup hn hk).2 fun w => ?_
    rw [List.mem_flatMap, List.mem_map]
    constructor
    · rintro ⟨e, he, hw⟩
      have he' := mem_eOut.1 he
      unfold sidesE at hw
      rcases List.mem_append.1 hw with g | g <;> split at g
      · rename_i hF
        simp only [List.mem_singleton] at g
        subst g
        rw [he'.2.2.2.1] at hF
        obtain ⟨g1, g2, _⟩ := along_some hF
        exact ⟨((e.A, e.B), (alongS fs e.A e.B).toNat), mem_sides.2 ⟨by omega, by rw [Int.toNat_of_nonneg hF]; exact g2⟩, rfl⟩
      · simp at g
      · rename_i hG
        simp only [List.mem_singleton] at g
        subst g
        rw [he'.2.2.2.2.1] at hG
        obtain ⟨g1, g2, _⟩ := along_some hG
        exact ⟨((e.B, e.A), (alongS fs e.B e.A).toNat), mem_sides.2 ⟨by omega, by rw [Int.toNat_of_nonneg hG]; exact g2⟩, rfl⟩
      · simp at g
    · rintro ⟨s, hs, rfl⟩
      have g := side_in h.2.1 hs
      obtain ⟨⟨a, b⟩, f⟩ := s
      simp only at g ⊢
      rcases Int.lt_or_le a b with c | c
      · refine ⟨⟨a, b, alongS fs a b, alongS fs b a⟩, mem_eOut.2 ⟨g.1, c, g.2.2.2.1, rfl, rfl, .inl g.2.2.2.2.2⟩, ?_⟩
        unfold sidesE; simp only; rw [if_pos g.2.2.2.2.2]; simp
      · refine ⟨⟨b, a, alongS fs b a, alongS fs a b⟩, mem_eOut.2 ⟨g.2.2.1, by simp only; omega, g.2.1, rfl, rfl, .inr g.2.2.2.2.2⟩, ?_⟩
        unfold sidesE; simp only; rw [if_pos g.2.2.2.2.2]; simp
  have h2 := hp.length_eq
  rw [List.length_map] at h2
  omega
theorem fan_mine {n : Int} {fs : List (List Int)} (h : okS n fs) {c : Int} (h0 : 0 ≤ c) (h1 : c < n) : (fanL fs c).length = (mineU fs c fs.length).length := by
  have hf := h.2.2 c h0 h1
  unfold fanOK at hf
  split at hf
  · cases hf
  · exact of_decide_eq_true hf
theorem fans_len {n : Int} {fs : List (List Int)} (h : okS n fs) : ((buildT n fs).fan.length : Int) = n := by
  rw [(build_ok h).1]; have := h.1; simp [fansU]; omega
end Go.Proofs.T
namespace Go.Proofs.T
open Go Go.AH
def backS (fs : List (List Int)) : List (List Int) := fs.map List.reverse
theorem back_len (fs : List (List Int)) : (backS fs).length = fs.length := by simp [backS]
theorem rev_at {l : List Int} {i : Int} (h0 : 0 ≤ i) (h1 : i < l.length) : at_ l.reverse i = at_ l (l.length - 1 - i) := by
  have e : ((l.length : Int) - 1 - i).toNat = l.length - 1 - i.toNat := by omega
  have h : i.toNat < l.length := by omega
  have h2 : l.length - 1 - i.toNat < l.length := by omega
  unfold at_
  rw [List.getD_eq_getElem?_getD, List.getD_eq_getElem?_getD, List.getElem?_reverse h, e]
theorem succ_mod {n i : Nat} (h : i < n) : (i + 1) % n = if i + 1 < n then i + 1 else 0 := by
  split
  · exact Nat.mod_eq_of_lt (by assumption)
  · have : i + 1 = n := by omega
    rw [this, Nat.mod_self]
theorem modc (n i : Nat) : ((i : Int) + 1) % (n : Int) = (((i + 1) % n : Nat) : Int) := by rw [Int.natCast_emod]; rfl
theorem way_rev (l : List Int) : (wayF l.reverse).Perm ((wayF l).map fun w => (w.2, w.1)) := by
  unfold wayF
  rw [List.length_reverse, List.map_map]
  have hp : ((List.range l.length).map fun i => l.length - 1 - (i + 1) % l.length).Perm (List.range l.length) := by
    refine (List.perm_ext_iff_of_nodup ?_ List.nodup_range).2 fun j => ?_
    · rw [List.nodup_iff_pairwise_ne, List.pairwise_map]
      refine List.Pairwise.imp_of_mem ?_ List.pairwise_lt_range
      intro a b ha hb hab
      rw [List.mem_range] at ha hb
      rw [succ_mod ha, succ_mod hb]
      split <;> split <;> omega
    · rw [List.mem_map, List.mem_range]
      constructor
      · rintro ⟨i, hi, rfl⟩; rw [List.mem_range] at hi; omega
      · intro hj
        by_cases g : j = l.length - 1
        · refine ⟨l.length - 1, List.mem_range.2 (by omega), ?_⟩
          rw [succ_mod (by omega), if_neg (by omega)]; omega
        · refine ⟨l.length - 2 - j, List.mem_range.2 (by omega), ?_⟩
          rw [succ_mod (by omega), if_pos (by omega)]; omega
  have e : (List.range l.length).map (fun (i : Nat) => (at_ l.reverse (i : Int), at_ l.reverse (((i : Int) + 1) % (l.length : Int)))) =
      ((List.range l.length).map fun i => l.length - 1 - (i + 1) % l.length).map ((fun w : Int × Int => (w.2, w.1)) ∘ fun (i : Nat) => (at_ l (i : Int), at_ l (((i : Int) + 1) % (l.length : Int)))) := by
    rw [List.map_map]
    apply List.map_congr_left
    intro i hi
    rw [List.mem_range] at hi
    have hm : (i + 1) % l.length < l.length := Nat.mod_lt _ (by omega)
    simp only [Function.comp_apply, modc]
    rw [rev_at (by omega) (by omega), rev_at (by omega) (by omega)]
    congr 1
    · congr 1
      rw [succ_mod (i := l.length - 1 - (i + 1) % l.length) (by omega), succ_mod hi]
      split <;> split <;> omega
    · congr 1; omega
  rw [e]
  exact hp.map _
theorem side_rev (fs : List (List Int)) : ∀ k, (sidesFrom k (backS fs)).Perm ((sidesFrom k fs).map fun s => ((s.1.2, s.1.1), s.2)) := by
  induction fs with
  | nil => intro k; exact .refl _
  | cons l fs ih =>
    intro k
    show ((wayF l.reverse).map (fun w => (w, k)) ++ sidesFrom (k + 1) (backS fs)).Perm _
    rw [sidesFrom, List.map_append]
    refine List.Perm.append ?_ (ih _)
    have := (way_rev l).map fun w => (w, k)
    rw [List.map_map] at this ⊢
    exact this
theorem sides_back_len (fs : List (List Int)) : (sides (backS fs)).length = (sides fs).length := by
  have := (side_rev fs 0).length_eq
  rw [List.length_map] at this
  exact this
theorem apart_of {l : List Int} (h : l.Nodup) : Apart l := by
  intro i k h0 h1 h2 e
  rw [List.nodup_iff_pairwise_ne, List.pairwise_iff_getElem] at h
  have hi : i.toNat < l.length := by omega
  have hk : k.toNat < l.length := by omega
  exact h k.toNat i.toNat hk hi (by omega) (by simpa [at_, hi, hk] using e.symm)
theorem first_key (fs : List (List Int)) (c : Int) (m : Nat) : (firstN fs c m < 0 → ∀ f : Int, 0 ≤ f → f < m → c ∈ at_ fs f → 0 ≤ alongS fs (nextS (at_ fs f) c 1) c) ∧ (0 ≤ firstN fs c m → alongS fs (nextS (at_ fs (firstN fs c m)) c 1) c < 0) := by
  induction m with
  | zero => exact ⟨fun _ f f0 f1 => by omega, fun h => by simp [firstN] at h⟩
  | succ m ih =>
    unfold firstN
    split
    · rename_i g; exact ⟨fun e => by omega, fun _ => g.2⟩
    · rename_i g
      refine ⟨fun e f f0 f1 fv => ?_, ih.2⟩
      by_cases c2 : f = m
      · subst c2
        rcases Int.lt_or_le (alongS fs (nextS (at_ fs (m : Int)) c 1) c) 0 with g2 | g2
        · exact absurd ⟨fv, g2⟩ g
        · exact g2
      · exact ih.1 e f f0 (by omega) fv
theorem mine_nodup (fs : List (List Int)) (c : Int) (i : Int) : (mineU fs c i).Nodup := by
  unfold mineU
  rw [List.nodup_iff_pairwise_ne, List.pairwise_flatMap]
  refine ⟨fun k _ => by split <;> simp, List.Pairwise.imp ?_ List.pairwise_lt_range⟩
  intro a b hab x hx y hy e
  subst e
  split at hx <;> split at hy <;> simp at hx hy
  omega
theorem Fan.ok {n c : Int} {fs : List (List Int)} {K : Nat} (F : Fan fs n c (headS fs c) K) : K = stopK fs c (headS fs c) ∧ fanOK fs c = true := by
  have h1 := run_le F.hg F.x0 F.x1 F.xv F.run
  have h2 := mine_le fs c fs.length
  have hK := stop_of (by omega) F.run ⟨F.pos, F.stop⟩
  refine ⟨hK, ?_⟩
  have hne : mineU fs c fs.length ≠ [] := fun e => by
    have := F.pos
    rw [e] at h1; simp at h1; omega
  unfold fanOK fanL
  rw [if_neg hne, if_neg hne, ← hK, orb_len, decide_eq_true_eq]
  have h3 : mineU fs c fs.length ⊆ orbS fs c (headS fs c) K := by
    intro f hf
    obtain ⟨f0, f1, fv⟩ := mem_mineU.1 hf
    obtain ⟨i, hi, e⟩ := F.cover f f0 f1 fv
    unfold orbS
    exact List.mem_map.2 ⟨i, List.mem_range.2 hi, e⟩
  have := List.Nodup.length_le_of_subset (mine_nodup fs c fs.length) h3
  rw [orb_len] at this
  omega
section
variable {n c x : Int} {fs : List (List Int)} {K : Nat}
theorem Fan.inj (F : Fan fs n c x K) {i j : Nat} (hi : i < K) (hj : j < K) (e : iterS (stepS fs c) x i = iterS (stepS fs c) x j) : i = j := by
  have h := run_inj F.hg F.x0 F.x1 F.xv F.run
  rcases Nat.lt_trichotomy i j with g | g | g
  · exact absurd e (h i j g hj)
  · exact g
  · exact absurd e.symm (h j i g hi)
end
end Go.Proofs.T
namespace Go.Proofs.T
open Go Go.AH
theorem SepM.put_ {L : List ME} {x : Int} {w v : AV} {xs : List Int} (h : SepM (restM L x) v) (hw : Sep w v) : SepM (putM L x w xs) v := fun e he => by
  rcases mem_putM he with rfl | ⟨h1, h2⟩
  · exact hw
  · exact h e (List.mem_filter.2 ⟨h1, by simpa using h2⟩)
end Go.Proofs.T
namespace Go.Proofs.U
open Go Go.AH Go.Proofs.T
set_option maxRecDepth 4000
def adjM (ed : List Ed) (k : Int) (x : Int) : List Int := adjU ed k x ++ if (at_ ed k).A = x then [k] else []
theorem adj_next {ed : List Ed} {k : Int} (h : 0 ≤ k) (x : Int) : adjU ed (k + 1) x = adjM ed k x ++ if (at_ ed k).B = x then [k] else [] := by
  have e : (k + 1).toNat = k.toNat + 1 := by omega
  have e2 : ((k.toNat : Nat) : Int) = k := by omega
  unfold adjM adjU
  rw [e, List.range_succ, List.map_append, List.flatMap_append]
  simp only [List.map_cons, List.map_nil, List.flatMap_cons, List.flatMap_nil, List.append_nil, e2, List.append_assoc]
theorem adj_A {ed : List Ed} {k : Int} {L : List ME} {w : AV} {xs : List Int} (h : ∀ x, (getM L x).2 = adjU ed k x) (hx : xs = (getM L (at_ ed k).A).2 ++ [k]) : ∀ x, (getM (putM L (at_ ed k).A w xs) x).2 = adjM ed k x := fun x => by
  rw [getM_put]; unfold adjM
  by_cases e : x = (at_ ed k).A
  · subst e; rw [if_pos rfl, if_pos rfl, hx, h]
  · rw [if_neg e, if_neg (fun g => e g.symm), List.append_nil, h]
theorem adj_B {ed : List Ed} {k : Int} {L : List ME} {w : AV} {xs : List Int} (h0 : 0 ≤ k) (h : ∀ x, (getM L x).2 = adjM ed k x) (hx : xs = (getM L (at_ ed k).B).2 ++ [k]) : ∀ x, (getM (putM L (at_ ed k).B w xs) x).2 = adjU ed (k + 1) x := fun x => by
  rw [getM_put, adj_next h0]
  by_cases e : x = (at_ ed k).B
  · subst e; rw [if_pos rfl, if_pos rfl, hx, h]
  · rw [if_neg e, if_neg (fun g => e g.symm), List.append_nil, h]
theorem adj_len (ed : List Ed) (k x : Int) : (adjU ed k x).length ≤ 2 * k.toNat := by
  unfold adjU
  induction k.toNat with
  | zero => simp
  | succ m ih =>
    rw [List.range_succ, List.map_append, List.flatMap_append, List.length_append]
    have : ((([m] : List Nat).map fun (j : Nat) => (j : Int)).flatMap fun j => (if (at_ ed j).A = x then [j] else []) ++ (if (at_ ed j).B = x then [j] else [])).length ≤ 2 := by
      simp only [List.map_cons, List.map_nil, List.flatMap_cons, List.flatMap_nil, List.append_nil, List.length_append]
      split <;> split <;> simp
    omega
theorem adjM_len (ed : List Ed) {k : Int} (h : 0 ≤ k) (x : Int) : (adjM ed k x).length ≤ 2 * k.toNat + 1 := by
  unfold adjM; rw [List.length_append]
  have := adj_len ed k x
  split <;> simp <;> omega
theorem adj_mem {ed : List Ed} {k x e : Int} (h : e ∈ adjU ed k x) : (0 ≤ e ∧ e < k) ∧ (x = (at_ ed e).A ∨ x = (at_ ed e).B) := by
  unfold adjU at h
  obtain ⟨j, hj, hm⟩ := List.mem_flatMap.1 h
  obtain ⟨m, hm2, rfl⟩ := List.mem_map.1 hj
  rw [List.mem_range] at hm2
  rcases List.mem_append.1 hm with g | g
  · split at g
    · rename_i q; simp only [List.mem_singleton] at g; subst g; exact ⟨by omega, .inl q.symm⟩
    · cases g
  · split at g
    · rename_i q; simp only [List.mem_singleton] at g; subst g; exact ⟨by omega, .inr q.symm⟩
    · cases g
def egR (ed : List Ed) (n : Nat) : List (List Int) := (List.range n).map fun (x : Nat) => adjU ed ed.length (x : Int)
theorem egR_len (ed : List Ed) (n : Nat) : (egR ed n).length = n := by simp [egR]
theorem egR_at {ed : List Ed} {n : Nat} {x : Int} (h0 : 0 ≤ x) (h1 : x < n) : at_ (egR ed n) x = adjU ed ed.length x := by
  have h : x.toNat < n := by omega
  have e : ((x.toNat : Nat) : Int) = x := by omega
  simp [at_, egR, h, e]
theorem gF_eg {ed : List Ed} {L : List ME} {k : Int} {n : Nat} (h : ∀ x, (getM L x).2 = adjU ed k x) (hk : k = ed.length) : gF L n = egR ed n := by
  subst hk; unfold gF egR; exact List.map_congr_left fun j _ => h _
def U_ {α : Type} (f : Int → α) (k : Int) : List α := (List.range k.toNat).map fun (j : Nat) => f (j : Int)
theorem U_step {α : Type} {f : Int → α} {k : Int} (h : 0 ≤ k) : U_ f k ++ [f k] = U_ f (k + 1) := by
  have e : (k + 1).toNat = k.toNat + 1 := by omega
  have e2 : ((k.toNat : Nat) : Int) = k := by omega
  unfold U_; rw [e, List.range_succ, List.map_append, List.map_singleton, e2]
theorem U_len {α : Type} (f : Int → α) (k : Int) : (U_ f k).length = k.toNat := by simp [U_]
theorem U_at {α : Type} [Inhabited α] {f : Int → α} {k i : Int} (h0 : 0 ≤ i) (h1 : i < k) : at_ (U_ f k) i = f i := by
  have h : i.toNat < k.toNat := by omega
  have e : ((i.toNat : Nat) : Int) = i := by omega
  simp [at_, U_, h, e]
def F_ {α : Type} (f : Int → List α) (k : Int) : List α := (U_ f k).flatten
theorem F_step {α : Type} {f : Int → List α} {k : Int} (h : 0 ≤ k) : F_ f k ++ f k = F_ f (k + 1) := by
  unfold F_; rw [← U_step h, List.flatten_append]; simp
theorem mem_U {α : Type} {f : Int → α} {k : Int} {x : α} (h : x ∈ U_ f k) : ∃ j : Int, 0 ≤ j ∧ j < k ∧ x = f j := by
  obtain ⟨j, hj, rfl⟩ := List.mem_map.1 h
  rw [List.mem_range] at hj
  exact ⟨j, by omega, by omega, rfl⟩
def fcR (vs : List VT) (fs : List (List Int)) (k : Int) : List VT := U_ (fun f => faceP vs (at_ fs f)) k
def v1R (vs fc : List VT) (t : Tp) (sh : List Int) (k : Int) : List VT := U_ (fun v => vertP vs fc t.ed sh (at_ t.fan v) (at_ (egR t.ed vs.length) v) v) k
def v2R (vs fc : List VT) (t : Tp) (sh : List Int) (k : Int) : List VT := U_ (fun i => edgeP vs fc (at_ t.ed i) (at_ sh i)) k
def crR (n : Int) (t : Tp) (sh : List Int) (k : Int) : List CrT := F_ (fun i => creaseP n t sh i) k
def faR (n : Int) (t : Tp) (fs : List (List Int)) (k : Int) : List (List Int) := F_ (fun f => partsU n t f (at_ fs f) (at_ fs f).length) k
def farV (v : VT) : Bool := decide (¬ inV 65536 v)
noncomputable def levelR (vs : List VT) (fs : List (List Int)) (cr : List CrT) : CageT × Int :=
  if buildE vs.length fs ≠ 0 then (⟨[], [], []⟩, buildE vs.length fs)
  else if (sharpR (buildT vs.length fs) cr).2 ≠ 0 then (⟨[], [], []⟩, (sharpR (buildT vs.length fs) cr).2)
  else if vs.any farV then (⟨[], [], []⟩, 21)
  else (⟨v1R vs (fcR vs fs fs.length) (buildT vs.length fs) (sharpR (buildT vs.length fs) cr).1 vs.length ++ v2R vs (fcR vs fs fs.length) (buildT vs.length fs) (sharpR (buildT vs.length fs) cr).1 (buildT vs.length fs).ed.length ++ fcR vs fs fs.length,
    faR vs.length (buildT vs.length fs) fs fs.length, crR vs.length (buildT vs.length fs) (sharpR (buildT vs.length fs) cr).1 (buildT vs.length fs).ed.length⟩, 0)
end Go.Proofs.U
namespace Go.Proofs.U
open Go Go.AH Go.Proofs.T
theorem within_of {m : Int} {v : VT} (h : min (min v.X v.Y) v.Z ≥ -m) (g : max (max v.X v.Y) v.Z ≤ m) : inV m v := by unfold inV; omega
theorem not_within {m : Int} {v : VT} (h : ¬ (min (min v.X v.Y) v.Z ≥ -m ∧ max (max v.X v.Y) v.Z ≤ m)) : ¬ inV m v := by unfold inV; omega
def idxV (l : List VT) : Int := match l.findIdx? farV with | some k => k | none => -1
theorem idxV_hit {l : List VT} {i : Int} (h0 : 0 ≤ i) (h1 : i < l.length) (hp : ∀ j : Int, 0 ≤ j → j < i → farV (at_ l j) = false) (h : farV (at_ l i) = true) : i = idxV l := by
  have hl : i.toNat < l.length := by omega
  have e : l.findIdx? farV = some i.toNat := by
    rw [List.findIdx?_eq_some_iff_getElem]
    refine ⟨hl, ?_, fun j hj => ?_⟩
    · have : at_ l i = l[i.toNat] := by simp [at_, hl]
      rw [← this]; exact h
    · have := hp j (by omega) (by omega)
      have hj' : j < l.length := by omega
      have e2 : at_ l (j : Int) = l[j] := by simp [at_, hj']
      rw [e2] at this; simp [this]
  unfold idxV; rw [e]; simp only; omega
theorem idxV_none {l : List VT} {i : Int} (h1 : (l.length : Int) ≤ i) (hp : ∀ j : Int, 0 ≤ j → j < i → farV (at_ l j) = false) : (-1 : Int) = idxV l := by
  have e : l.findIdx? farV = none := by
    rw [List.findIdx?_eq_none_iff]
    intro x hx
    obtain ⟨k, h2, h3⟩ := List.getElem_of_mem hx
    have := hp k (by omega) (by omega)
    have e2 : at_ l (k : Int) = l[k] := by simp [at_, h2]
    rw [e2, h3] at this; exact this
  unfold idxV; rw [e]
theorem idxV_any (l : List VT) : decide (idxV l ≥ 0) = l.any farV := by
  unfold idxV
  cases h : l.findIdx? farV with
  | none =>
    rw [List.findIdx?_eq_none_iff] at h
    have : l.any farV = false := by rw [List.any_eq_false]; intro x hx; rw [h x hx]; decide
    rw [this]; rfl
  | some k =>
    rw [List.findIdx?_eq_some_iff_getElem] at h
    obtain ⟨h1, h2, _⟩ := h
    have : l.any farV = true := List.any_eq_true.2 ⟨_, List.getElem_mem h1, h2⟩
    rw [this, decide_eq_true_eq]; simp only; omega
theorem any_in {l : List VT} (h : l.any farV = false) : ∀ v ∈ l, inV 65536 v := fun v hv => by
  rw [List.any_eq_false] at h
  have := h v hv
  simpa [farV] using this
end Go.Proofs.U
namespace Go.Proofs.U
open Go Go.AH Go.Proofs.T
set_option maxRecDepth 4000
set_option linter.unusedSimpArgs false
set_option linter.unusedVariables false
theorem c_vWithin (v : VT) (m : Int) (hm : -9223372036854775807 ≤ m ∧ m ≤ 9223372036854775807) : PC Try.prog 21 [.agg [.int .i64 v.X, .int .i64 v.Y, .int .i64 v.Z], .int .i64 m] (.bool (decide (inV m v))) := by
 intro H0
 refine ACalls.of_body' (n := 26) rfl rfl rfl rfl ?_
 have m0 := Mono.refl H0
 refine AWP.seq (AWP.region rfl ?_)
 refine AOps.cons rfl rfl (AOp.box (.agg (eV v)) rfl rfl rfl ?_)
 intro i1 H2 n3 h4 k5
 have z6 := Mono.free m0 n3
 have m7 := Mono.new m0 n3 k5
 refine AOps.cons rfl rfl (AOp.assign _ rfl rfl ?_)
 refine AWP.seq ?_
 refine AWP.frzP 2 h4 z6 rfl m7 fun H8 m9 k10 => ?_
 refine AWP.region rfl ?_
 refine AOps.cons rfl rfl (AOp.fieldAddrF rfl rfl fl_42_0 (AOps.cons rfl rfl (AOp.loadF _ rfl rfl ty_3 rfl (AOps.cons rfl rfl (AOp.fieldAddrF rfl rfl fl_42_1 (AOps.cons rfl rfl (AOp.loadF _ rfl rfl ty_3 rfl (AOps.cons rfl rfl (AOp.fieldAddrF rfl rfl fl_42_2 (AOps.cons rfl rfl (AOp.loadF _ rfl rfl ty_3 rfl ?_)))))))))))
 refine AOps.cons rfl rfl (AOp.min3 rfl rfl rfl rfl (AOps.cons rfl rfl (AOp.move _ rfl rfl (AOps.cons rfl rfl (AOp.negP rfl rfl (by omega) (AOps.cons rfl rfl (AOp.bin _ rfl rfl rfl rfl (AOps.cons rfl rfl (AOp.move _ rfl rfl ?_)))))))))
 by_cases b11 : min (min v.X v.Y) v.Z ≥ -m
 refine AOps.yes rfl rfl rfl rfl rfl rfl rfl (decide_eq_true b11) (AOp.fieldAddrF rfl rfl fl_42_0 (AOps.yes rfl rfl rfl rfl rfl rfl rfl (decide_eq_true b11) (AOp.loadF _ rfl rfl ty_3 rfl (AOps.yes rfl rfl rfl rfl rfl rfl rfl (decide_eq_true b11) (AOp.fieldAddrF rfl rfl fl_42_1 (AOps.yes rfl rfl rfl rfl rfl rfl rfl (decide_eq_true b11) (AOp.loadF _ rfl rfl ty_3 rfl (AOps.yes rfl rfl rfl rfl rfl rfl rfl (decide_eq_true b11) (AOp.fieldAddrF rfl rfl fl_42_2 (AOps.yes rfl rfl rfl rfl rfl rfl rfl (decide_eq_true b11) (AOp.loadF _ rfl rfl ty_3 rfl ?_)))))))))))
 refine AOps.yes rfl rfl rfl rfl rfl rfl rfl (decide_eq_true b11) (AOp.max3 rfl rfl rfl rfl (AOps.yes rfl rfl rfl rfl rfl rfl rfl (decide_eq_true b11) (AOp.move _ rfl rfl (AOps.yes rfl rfl rfl rfl rfl rfl rfl (decide_eq_true b11) (AOp.bin _ rfl rfl rfl rfl (AOps.cons rfl rfl (AOp.pickT _ rfl rfl (decide_eq_true b11) rfl (AOps.cons rfl rfl (AOp.assign _ rfl rfl ?_)))))))))
 refine AWP.ret ?_
 refine ⟨_, _, Ghost.refl, .inr rfl, _, Res.one rfl rfl, ?_, m9⟩
 exact (congrArg AV.bool (show (decide (max (max v.X v.Y) v.Z ≤ m) : Bool) = decide (inV m v) from by first | (exact within_of (by omega) (by omega)) | (exact not_within (by omega)) | (exact (decide_eq_false (not_within (by omega))).symm) | (exact decide_eq_decide.2 ⟨fun h => within_of (by omega) h, fun h => by unfold inV at h; omega⟩)))
 refine AOps.no rfl rfl rfl rfl rfl rfl rfl (ble_of (decide_eq_false b11) (by decide)) (AOps.no rfl rfl rfl rfl rfl rfl rfl (ble_of (decide_eq_false b11) (by decide)) (AOps.no rfl rfl rfl rfl rfl rfl rfl (ble_of (decide_eq_false b11) (by decide)) (AOps.no rfl rfl rfl rfl rfl rfl rfl (ble_of (decide_eq_false b11) (by decide)) (AOps.no rfl rfl rfl rfl rfl rfl rfl (ble_of (decide_eq_false b11) (by decide)) (AOps.no rfl rfl rfl rfl rfl rfl rfl (ble_of (decide_eq_false b11) (by decide)) ?_)))))
 refine AOps.no rfl rfl rfl rfl rfl rfl rfl (ble_of (decide_eq_false b11) (by decide)) (AOps.no rfl rfl rfl rfl rfl rfl rfl (ble_of (decide_eq_false b11) (by decide)) (AOps.no rfl rfl rfl rfl rfl rfl rfl (ble_of (decide_eq_false b11) (by decide)) (AOps.cons rfl rfl (AOp.pickF _ rfl rfl (decide_eq_false b11) rfl (AOps.cons rfl rfl (AOp.assign _ rfl rfl ?_))))))
 refine AWP.ret ?_
 refine ⟨_, _, Ghost.refl, .inr rfl, _, Res.one rfl rfl, ?_, m9⟩
 exact (congrArg AV.bool (rfl.trans (decide_eq_false (show ¬ (inV m v) from by first | (exact within_of (by omega) (by omega)) | (exact not_within (by omega)) | (exact (decide_eq_false (not_within (by omega))).symm) | (exact decide_eq_decide.2 ⟨fun h => within_of (by omega) h, fun h => by unfold inV at h; omega⟩))).symm))
theorem c_far (v : VT) : PC Try.prog 34 [.agg [.int .i64 v.X, .int .i64 v.Y, .int .i64 v.Z]] (.bool (farV v)) := by
 intro H0
 refine ACalls.of_body' (n := 6) rfl rfl rfl rfl ?_
 have m0 := Mono.refl H0
 refine AWP.seq (AWP.region rfl ?_)
 refine AOps.cons rfl rfl (AOp.box (.agg (eV v)) rfl rfl rfl ?_)
 intro i1 H2 n3 h4 k5
 have z6 := Mono.free m0 n3
 have m7 := Mono.new m0 n3 k5
 refine AOps.cons rfl rfl (AOp.assign _ rfl rfl ?_)
 refine AWP.seq ?_
 refine AWP.frzP 1 h4 z6 rfl m7 fun H8 m9 k10 => ?_
 refine AWP.region rfl ?_
 refine AOps.cons rfl rfl (AOp.loadF _ rfl rfl ty_42 rfl (AOps.cons rfl rfl (AOp.pcall («as» := [.agg (eV v), .int .i64 65536]) rfl rfl (rfl) tf_21 (c_vWithin v 65536 (by omega)) ?_)))
 intro H11 m12
 have m13 := m9.trans m12
 refine AOps.cons rfl rfl (AOp.not rfl rfl (AOps.cons rfl rfl (AOp.assign _ rfl rfl ?_)))
 refine AWP.ret ?_
 refine ⟨_, _, Ghost.refl, .inr rfl, _, Res.one rfl rfl, ?_, m13⟩
 exact (congrArg AV.bool (show (!(decide (inV 65536 v)) : Bool) = farV v from by first | rfl | (unfold farV; simp_all) | (unfold farV; rw [decide_not])))
theorem c_idxV (l : List VT) (hl : l.length ≤ 1048576) : PC Try.prog 53 [.sl l.length (l.flatMap eV), .fn 34 []] (.int .i64 (idxV l)) := by
 intro H0
 refine ACalls.of_body' (n := 19) rfl rfl rfl rfl ?_
 have m0 := Mono.refl H0
 refine AWP.seq (AWP.region rfl ?_)
 refine AOps.cons rfl rfl (AOp.assign _ rfl rfl ?_)
 refine AWP.seq ?_
 refine AWP.seq (AWP.region rfl ?_)
 refine AOps.cons rfl rfl (AOp.move _ rfl rfl (AOps.cons rfl rfl (AOp.len (m := l.length) rfl rfl (.inr (.inl ⟨_, rfl⟩)) u_22 (AOps.cons rfl rfl (AOp.move _ rfl rfl ?_)))))
 refine AWP.block ?_
 refine AWP.loop (fun q1 fq Hq => ∃ (i : Int), q1 = (((l.length : Int) : Int) - i).toNat ∧ fq 8 = .int .i64 i ∧ fq 0 = .sl l.length (l.flatMap eV) ∧ fq 1 = .fn 34 [] ∧ fq 7 = .int .i64 (l.length : Int) ∧ Mono H0 Hq ∧ (0 ≤ i) ∧ (i ≤ (l.length : Int)) ∧ (∀ j : Int, 0 ≤ j → j < i → farV (at_ l j) = false)) (k := (((l.length : Int) : Int) - 0).toNat) ?_ ?_
 exact ⟨0, rfl, rfl, rfl, rfl, rfl, m0, by omega, by omega, by intro j; omega⟩
 rintro _ f3 H2 ⟨i, rfl, s4, s5, s6, s7, m8, hi0, hi1, pre⟩
 refine AWP.seq (AWP.region rfl ?_)
 refine AOps.cons rfl rfl (AOp.bin _ rfl s4 s7 rfl ?_)
 refine AWP.seq ?_
 by_cases b9 : i < (l.length : Int)
 refine AWP.condT rfl (decide_eq_true b9) ?_
 refine AWP.skip ?_
 refine AWP.seq ?_
 refine AWP.block ?_
 refine AWP.seq (AWP.region rfl ?_)
 refine AOps.cons rfl rfl (AOp.move _ rfl s4 (AOps.cons rfl rfl (AOp.assign _ rfl rfl ?_)))
 refine AWP.seq (AWP.region rfl ?_)
 refine AOps.cons rfl rfl (AOp.move _ rfl s6 (AOps.cons rfl rfl (AOp.move _ rfl s5 (AOps.cons rfl rfl (AOp.move _ rfl rfl (AOps.cons rfl rfl (AOp.indexAddrS rfl rfl rfl sl_22 (by omega) (by omega) (AOps.cons rfl rfl (AOp.loadF _ rfl rfl ty_42 (ldM eV_len (by omega) (by omega)) (AOps.cons rfl rfl (AOp.pcall («as» := [.agg (eV (at_ l i))]) rfl rfl (rfl) tf_34 (c_far (at_ l i)) ?_)))))))))))
 intro H10 m11
 have m12 := m8.trans m11
 refine AOps.nil ?_
 change AWP _ _ _ _ _ _
 rcases Bool.eq_false_or_eq_true (farV (at_ l i)) with b13 | b13
 refine AWP.condT rfl b13 ?_
 refine AWP.seq (AWP.region rfl ?_)
 refine AOps.cons rfl rfl (AOp.move _ rfl rfl (AOps.cons rfl rfl (AOp.assign _ rfl rfl ?_)))
 refine AWP.ret ?_
 refine ⟨_, _, Ghost.refl, .inr rfl, _, Res.one rfl rfl, ?_, m12⟩
 exact (congrArg (AV.int .i64) (show (i : Int) = idxV l from by exact idxV_hit hi0 (by omega) pre b13))
 refine AWP.condF rfl b13 ?_
 refine AWP.skip ?_
 refine AWP.region rfl ?_
 refine AOps.cons rfl rfl (AOp.bin _ rfl s4 rfl (iadd (by omega)) (AOps.cons rfl rfl (AOp.move _ rfl rfl ?_)))
 refine AOps.nil ?_
 exact ⟨_, by omega, i + 1, rfl, rfl, s5, s6, s7, m12, by omega, by omega, by exact fa_step pre b13⟩
 refine AWP.condF rfl (decide_eq_false b9) ?_
 refine AWP.exit ?_
 change AWP _ _ _ _ _ _
 refine AWP.seq (AWP.region rfl ?_)
 refine AOps.cons rfl rfl (AOp.assign _ rfl rfl ?_)
 refine AWP.ret ?_
 refine ⟨_, _, Ghost.refl, .inr rfl, _, Res.one rfl rfl, ?_, m8⟩
 exact (congrArg (AV.int .i64) (show (-1 : Int) = idxV l from by exact idxV_none (by omega) pre))
theorem c_anyV (l : List VT) (hl : l.length ≤ 1048576) : PC Try.prog 33 [.sl l.length (l.flatMap eV), .fn 34 []] (.bool (l.any farV)) := by
 intro H0
 refine ACalls.of_body' (n := 9) rfl rfl rfl rfl ?_
 have m0 := Mono.refl H0
 refine AWP.seq (AWP.region rfl ?_)
 refine AOps.cons rfl rfl (AOp.assign _ rfl rfl ?_)
 refine AWP.seq (AWP.region rfl ?_)
 refine AOps.cons rfl rfl (AOp.move _ rfl rfl (AOps.cons rfl rfl (AOp.move _ rfl rfl (AOps.cons rfl rfl (AOp.pcall («as» := [.sl l.length (l.flatMap eV), .fn 34 []]) rfl rfl (rfl) tf_53 (c_idxV _ (by omega)) ?_)))))
 intro H1 m2
 have m3 := m0.trans m2
 refine AOps.cons rfl rfl (AOp.bin _ rfl rfl rfl rfl (AOps.cons rfl rfl (AOp.assign _ rfl rfl ?_)))
 refine AWP.ret ?_
 refine ⟨_, _, Ghost.refl, .inr rfl, _, Res.one rfl rfl, ?_, m3⟩
 exact (congrArg AV.bool (show (decide (idxV l ≥ 0) : Bool) = l.any farV from by exact idxV_any l))
end Go.Proofs.U
namespace Go.Proofs.U
open Go Go.AH Go.Proofs.T
set_option maxRecDepth 4000
structure TopoF (n fn : Int) (t : Tp) : Prop where
  el : t.ed.length ≤ 50000
  se : SortedE t.ed
  ab : ∀ e ∈ t.ed, (0 ≤ e.A ∧ e.A < n) ∧ 0 ≤ e.B ∧ e.B < n
  fl : (t.fan.length : Int) = n
  rl : t.rnd.length ≤ 1048576
  fan : ∀ v : Int, 0 ≤ v → v < n → (1 ≤ (at_ t.fan v).length ∧ (at_ t.fan v).length ≤ 1000) ∧ ∀ f ∈ at_ t.fan v, 0 ≤ f ∧ f < fn
  fg : ∀ i : Int, 0 ≤ i → i < t.ed.length → edgedS t i = false → (0 ≤ (at_ t.ed i).F ∧ (at_ t.ed i).F < fn) ∧ 0 ≤ (at_ t.ed i).G ∧ (at_ t.ed i).G < fn
structure ShF (t : Tp) (sh : List Int) : Prop where
  len : sh.length = t.ed.length
  nn : ∀ i : Int, 0 ≤ i → i < t.ed.length → 0 ≤ at_ sh i
  edged : ∀ i : Int, 0 ≤ i → i < t.ed.length → edgedS t i = true → 255 ≤ at_ sh i
  most : ∀ i : Int, 0 ≤ i → i < t.ed.length → at_ sh i ≤ 9223372036854775807
theorem build_OK {n : Int} {fs : List (List Int)} (h : buildE n fs = 0) : okS n fs := by
  unfold buildE at h; split at h
  · assumption
  · cases h
theorem at_sh0 {t : Tp} {i : Int} (h0 : 0 ≤ i) (h1 : i < t.ed.length) : at_ (sh0 t t.ed.length) i = if edgedS t i = true then 255 else 0 := by
  have e : ((i.toNat : Nat) : Int) = i := by omega
  have h := sh0_get t t.ed.length i.toNat
  rw [if_pos (by omega), e] at h
  unfold at_; rw [List.getD_eq_getElem?_getD, h]
  by_cases g : edgedS t i = true
  · simp [g, h1]
  · simp [g]
theorem sh_start (t : Tp) : ShF t (sh0 t t.ed.length) where
  len := sh0_len _ _
  nn i h0 h1 := by rw [at_sh0 h0 h1]; split <;> omega
  edged i h0 h1 h := by rw [at_sh0 h0 h1, if_pos h]; omega
  most i h0 h1 := by rw [at_sh0 h0 h1]; split <;> omega
theorem at_set {l : List Int} {i j x : Int} (h0 : 0 ≤ i) (hj : 0 ≤ j) (h1 : i < l.length) : at_ (l.set i.toNat x) j = if j = i then x else at_ l j := by
  unfold at_
  rw [List.getD_eq_getElem?_getD, List.getD_eq_getElem?_getD, List.getElem?_set]
  by_cases e : j = i
  · subst e; rw [if_pos rfl, if_pos (by omega), if_pos rfl]; rfl
  · rw [if_neg (by omega), if_neg e]
theorem sh_more {t : Tp} : ∀ {cr : List CrT} {a b : List Int}, ShF t a → (∀ c ∈ cr, c.S ≤ 9223372036854775807) → shF t cr a = some b → ShF t b
  | [], a, b, h, _, e => by cases e; exact h
  | x :: xs, a, b, h, hc, e => by
    simp only [shF] at e
    split at e
    · rename_i hs
      have hf := find_in hs
      refine sh_more ?_ (fun c hc' => hc c (List.mem_cons_of_mem _ hc')) e
      have hx := hc x List.mem_cons_self
      have hl := h.len
      refine ⟨by rw [List.length_set]; exact h.len, fun i h0 h1 => ?_, fun i h0 h1 g => ?_, fun i h0 h1 => ?_⟩
      · rw [at_set hf.1 h0 (by omega)]; split
        · rename_i q; subst q; have := h.nn _ h0 h1; omega
        · exact h.nn i h0 h1
      · rw [at_set hf.1 h0 (by omega)]; split
        · rename_i q; subst q; have := h.edged _ h0 h1 g; omega
        · exact h.edged i h0 h1 g
      · rw [at_set hf.1 h0 (by omega)]; split
        · rename_i q; subst q; have := h.most _ h0 h1; omega
        · exact h.most i h0 h1
    · cases e
theorem sharp_facts {t : Tp} {cr : List CrT} (hc : ∀ c ∈ cr, c.S ≤ 9223372036854775807) (h : (sharpR t cr).2 = 0) : ShF t (sharpR t cr).1 := by
  unfold sharpR at *
  cases e : shF t cr (sh0 t t.ed.length) with
  | none => rw [e] at h; cases h
  | some b => exact sh_more (sh_start t) hc e
end Go.Proofs.U
namespace Go.Proofs.U
open Go Go.AH Go.Proofs.T
set_option maxRecDepth 4000
theorem fan_mem {n : Int} {fs : List (List Int)} (h : okS n fs) {c : Int} (h0 : 0 ≤ c) (h1 : c < n) : ∀ f ∈ fanL fs c, 0 ≤ f ∧ f < (fs.length : Int) ∧ c ∈ at_ fs f := fun f hf => by
  obtain ⟨hne, F⟩ := fan_of h h0 h1
  unfold fanL at hf; rw [if_neg hne] at hf
  unfold orbS at hf
  obtain ⟨i, hi, rfl⟩ := List.mem_map.1 hf
  rw [List.mem_range] at hi
  exact F.mem hi
theorem ok_rng {n : Int} {fs : List (List Int)} (h : okS n fs) : ∀ l ∈ fs, ∀ k ∈ l, 0 ≤ k ∧ k < n := fun l hl k hk => by
  obtain ⟨f, f0, f1, rfl⟩ := mem_at hl
  obtain ⟨i, i0, i1, rfl⟩ := mem_at hk
  exact (h.2.1 f f0 f1).2.1 i i0 i1
theorem ok_faces {n : Int} {fs : List (List Int)} (h : okS n fs) (hl : ∀ l ∈ fs, l.length ≤ 100000) : ∀ l ∈ fs, 1 ≤ l.length ∧ l.length ≤ 100000 := fun l hm => by
  obtain ⟨f, f0, f1, rfl⟩ := mem_at hm
  have := (h.2.1 f f0 f1).1
  exact ⟨by omega, hl _ hm⟩
theorem topo_facts {n : Int} {fs : List (List Int)} (h : okS n fs) (hn : n ≤ 1000) (hf : fs.length ≤ 1000) (hs : (sides fs).length ≤ 50000) : TopoF n fs.length (buildT n fs) := by
  have h2 := two_law h
  have h3 := two_le (buildT n fs).ed (buildT n fs).ed.length
  have h4 := fans_len h
  have hb := (build_ok h).1
  refine ⟨by omega, ?_, fun e he => ?_, h4, ?_, fun v h0 h1 => ?_, fun i h0 h1 he => ?_⟩
  · rw [hb]; exact pw_at (eOut_sorted fs n)
  · rw [hb] at he
    have := mem_eOut.1 he
    omega
  · rw [hb]; simp [rndU]; omega
  · have e : at_ (buildT n fs).fan v = fanL fs v := by
      have e2 : ((v.toNat : Nat) : Int) = v := by omega
      have h5 : v.toNat < n.toNat := by omega
      rw [hb]; simp [at_, fansU, h5, e2]
    rw [e]
    obtain ⟨hne, F⟩ := fan_of h h0 h1
    have hm := fan_mine h h0 h1
    have hl := mine_le fs v fs.length
    have hp := List.length_pos_iff.2 hne
    exact ⟨by omega, fun f hf => ⟨(fan_mem h h0 h1 f hf).1, (fan_mem h h0 h1 f hf).2.1⟩⟩
  · have hmin := edged_not h0 h1 he
    have hm := at_mem h0 h1
    rw [hb] at hm hmin
    have hs1 := eOut_small _ hm
    have hs2 := mem_eOut.1 hm
    rw [hb]
    simp only at *
    omega
end Go.Proofs.U
namespace Go.Proofs.U
open Go Go.AH Go.Proofs.T
set_option maxRecDepth 4000
section
variable {vs : List VT} {fs : List (List Int)} {cr : List CrT}
theorem level_1 (h : ¬ buildE vs.length fs = 0) : levelR vs fs cr = (⟨[], [], []⟩, buildE vs.length fs) := by unfold levelR; rw [if_pos h]
theorem level_2 (h : buildE vs.length fs = 0) (g : ¬ (sharpR (buildT vs.length fs) cr).2 = 0) : levelR vs fs cr = (⟨[], [], []⟩, (sharpR (buildT vs.length fs) cr).2) := by unfold levelR; rw [if_neg (fun k => k h), if_pos g]
theorem level_3 (h : buildE vs.length fs = 0) (g : (sharpR (buildT vs.length fs) cr).2 = 0) (k : vs.any farV = true) : levelR vs fs cr = (⟨[], [], []⟩, 21) := by unfold levelR; rw [if_neg (fun q => q h), if_neg (fun q => q g), if_pos k]
theorem level_4 (h : buildE vs.length fs = 0) (g : (sharpR (buildT vs.length fs) cr).2 = 0) (k : vs.any farV = false) : levelR vs fs cr = (⟨v1R vs (fcR vs fs fs.length) (buildT vs.length fs) (sharpR (buildT vs.length fs) cr).1 vs.length ++ v2R vs (fcR vs fs fs.length) (buildT vs.length fs) (sharpR (buildT vs.length fs) cr).1 (buildT vs.length fs).ed.length ++ fcR vs fs fs.length,
    faR vs.length (buildT vs.length fs) fs fs.length, crR vs.length (buildT vs.length fs) (sharpR (buildT vs.length fs) cr).1 (buildT vs.length fs).ed.length⟩, 0) := by
  unfold levelR; rw [if_neg (fun q => q h), if_neg (fun q => q g), if_neg (by rw [k]; decide)]
end
theorem F_len {α : Type} {f : Int → List α} {c : Nat} {k : Int} (h : ∀ j : Int, 0 ≤ j → j < k → (f j).length ≤ c) : (F_ f k).length ≤ c * k.toNat := by
  unfold F_ U_
  have : ∀ m : Nat, m ≤ k.toNat → ((List.range m).map fun (j : Nat) => f (j : Int)).flatten.length ≤ c * m := by
    intro m
    induction m with
    | zero => intro _; simp
    | succ m ih =>
      intro hm
      have := ih (by omega)
      have h2 := h (m : Int) (by omega) (by omega)
      rw [List.range_succ, List.map_append, List.flatten_append, List.length_append, Nat.mul_succ]
      simp only [List.map_cons, List.map_nil, List.flatten_cons, List.flatten_nil, List.append_nil]
      omega
  exact this _ (Nat.le_refl _)
theorem crease_len (n : Int) (t : Tp) (sh : List Int) (i : Int) : (creaseP n t sh i).length ≤ 2 := by unfold creaseP; split <;> simp
theorem crR_len (n : Int) (t : Tp) (sh : List Int) (k : Int) : (crR n t sh k).length ≤ 2 * k.toNat := F_len fun j _ _ => crease_len n t sh j
theorem faR_len {n : Int} {t : Tp} {fs : List (List Int)} (hfss : ∀ l ∈ fs, 1 ≤ l.length ∧ l.length ≤ 100000) {k : Int} (hk : k ≤ fs.length) : (faR n t fs k).length ≤ 100000 * k.toNat := F_len fun j h0 h1 => by
  rw [partsU_len]; have := (hfss _ (at_mem (l := fs) h0 (by omega))).2; omega
theorem round_in {n d B : Int} (hd : 1 ≤ d) (h : -(B * d) ≤ n ∧ n ≤ B * d) : -B ≤ roundZ n d ∧ roundZ n d ≤ B := by
  unfold roundZ
  have hp : 0 < 2 * d := by omega
  have e : (2 * d) * B = 2 * (B * d) := by rw [Int.mul_assoc, Int.mul_comm d B]
  have e2 : (2 * d) * (-B) = -(2 * (B * d)) := by rw [Int.mul_neg, e]
  constructor
  · refine Int.le_ediv_of_mul_le hp ?_
    rw [Int.mul_comm, e2]; omega
  · have : (2 * n + d) / (2 * d) < B + 1 := by
      refine Int.ediv_lt_of_lt_mul hp ?_
      rw [Int.add_mul, Int.one_mul, Int.mul_comm B, e]; omega
    omega
theorem of_in {s : VT} {d B : Int} (hd : 1 ≤ d) (h : inV (B * d) s) : inV B (ofV s d) := by
  obtain ⟨h1, h2, h3⟩ := h
  exact ⟨round_in hd h1, round_in hd h2, round_in hd h3⟩
theorem face_in {vs : List VT} {f : List Int} (hv : ∀ v ∈ vs, inV 65536 v) (hf : ∀ k ∈ f, 0 ≤ k ∧ k < (vs.length : Int)) (hl : 1 ≤ f.length) : inV 65536 (faceP vs f) := of_in (by omega) (sum_in hv hf)
theorem fcR_len {vs : List VT} {fs : List (List Int)} : (fcR vs fs fs.length).length = fs.length := by unfold fcR; rw [U_len]; omega
section
variable {vs : List VT} {fs : List (List Int)} {cr : List CrT}
theorem fc_in (hv : ∀ v ∈ vs, inV 65536 v) (hfr : ∀ l ∈ fs, ∀ k ∈ l, 0 ≤ k ∧ k < (vs.length : Int)) (hfss : ∀ l ∈ fs, 1 ≤ l.length ∧ l.length ≤ 100000) : ∀ x ∈ fcR vs fs fs.length, inV 65536 x := fun x hx => by
  obtain ⟨j, h0, h1, rfl⟩ := mem_U hx
  have := at_mem (l := fs) h0 h1
  exact face_in hv (hfr _ this) (hfss _ this).1
variable {t : Tp} {sh : List Int} (hvl : vs.length ≤ 1000) (hfl : fs.length ≤ 1000) (tf : TopoF vs.length fs.length t) (sf : ShF t sh) (hv : ∀ v ∈ vs, inV 65536 v) (hfc : ∀ x ∈ fcR vs fs fs.length, inV 65536 x)
include hvl tf sf hv hfc
theorem c_vertexL {H0 : Heap} {fid : Nat} (v : Int) (h0 : 0 ≤ v) (h1 : v < vs.length) (hr : H0 fid = some (.row 0 [.sl vs.length (vs.flatMap eV), .sl fs.length (fs.map eF), .sl cr.length (cr.flatMap eCr), .sl t.ed.length (t.ed.flatMap eE), .sl t.fan.length (t.fan.map eF), .sl t.rnd.length (t.rnd.map eBo), .sl sh.length (sh.map eI), .sl (egR t.ed vs.length).length ((egR t.ed vs.length).map eF), .sl (fcR vs fs fs.length).length ((fcR vs fs fs.length).flatMap eV)])) : ACalls Try.prog 36 [.ptr fid 0 0, .int .i64 v] H0 fun r H' => r = (.agg [.int .i64 (vertP vs (fcR vs fs fs.length) t.ed sh (at_ t.fan v) (at_ (egR t.ed vs.length) v) v).X, .int .i64 (vertP vs (fcR vs fs fs.length) t.ed sh (at_ t.fan v) (at_ (egR t.ed vs.length) v) v).Y, .int .i64 (vertP vs (fcR vs fs fs.length) t.ed sh (at_ t.fan v) (at_ (egR t.ed vs.length) v) v).Z]) ∧ Mono H0 H' :=
  c_vertex vs fs cr t sh (egR t.ed vs.length) (fcR vs fs fs.length) v ⟨h0, h1⟩ tf.ab (by have := tf.el; omega) sf.len (by rw [egR_len]; omega) (by rw [egR_at h0 (by omega)]; have := adj_len t.ed t.ed.length v; have := tf.el; omega)
    (fun e he => by rw [egR_at h0 (by omega)] at he; exact adj_mem he) (by have := tf.fl; omega) (tf.fan v h0 h1).1 (fun f hf => by rw [fcR_len]; exact (tf.fan v h0 h1).2 f hf) hfc (by omega) hv hr
theorem c_edgeL {H0 : Heap} {fid : Nat} {x7 : AV} (i : Int) (h0 : 0 ≤ i) (h1 : i < t.ed.length) (hr : H0 fid = some (.row 0 [.sl vs.length (vs.flatMap eV), .sl fs.length (fs.map eF), .sl cr.length (cr.flatMap eCr), .sl t.ed.length (t.ed.flatMap eE), .sl t.fan.length (t.fan.map eF), .sl t.rnd.length (t.rnd.map eBo), .sl sh.length (sh.map eI), x7, .sl (fcR vs fs fs.length).length ((fcR vs fs fs.length).flatMap eV)])) : ACalls Try.prog 37 [.ptr fid 0 0, .int .i64 i] H0 fun r H' => r = (.agg [.int .i64 (edgeP vs (fcR vs fs fs.length) (at_ t.ed i) (at_ sh i)).X, .int .i64 (edgeP vs (fcR vs fs fs.length) (at_ t.ed i) (at_ sh i)).Y, .int .i64 (edgeP vs (fcR vs fs fs.length) (at_ t.ed i) (at_ sh i)).Z]) ∧ Mono H0 H' :=
  c_edge vs fs cr t sh (fcR vs fs fs.length) i ⟨h0, h1⟩ (tf.ab _ (at_mem h0 h1)).1 (tf.ab _ (at_mem h0 h1)).2 sf.len (fun hz => by
    have he : edgedS t i = false := by
      cases h : edgedS t i
      · rfl
      · have := sf.edged i h0 h1 h; omega
    rw [fcR_len]; exact tf.fg i h0 h1 he) hfc (by omega) hv hr
end
end Go.Proofs.U
