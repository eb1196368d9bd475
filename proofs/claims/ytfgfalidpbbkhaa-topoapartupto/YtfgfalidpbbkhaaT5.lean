/- A part of the proof that a law of the edges and fans of faces answers true for every input of its bulk: own work, by an AI agent. -/
import Derived.Test.YtfgfalidpbbkhaaTTy
import Derived.Test.YtfgfalidpbbkhaaTSpec5
import Derived.Test.YtfgfalidpbbkhaaTKey
import Derived.KernelRfl
import Derived.Test.YtfgfalidpbbkhaaTSpec6
namespace Go.Proofs.T
open Go Go.AH
set_option maxRecDepth 4000
set_option linter.unusedSimpArgs false
set_option linter.unusedVariables false
theorem c24 {H0 : Heap} {sid mid : Nat} (fs : List (List Int)) (hfs : fs.length ≤ 1048576) (hfss : ∀ l ∈ fs, l.length ≤ 1048576) (n : Int) (hn : n ≤ 1000) (hg : goodS n fs) (hsl : (sides fs).length ≤ 4000000000) (hs : H0 sid = some (.row 0 [.sl fs.length (fs.map eF), .map mid])) (hsm : H0 mid = some (.map ((sides fs).map eS))) : ACalls Try.prog 24 [.ptr sid 0 0] H0 fun r H' => r = (.sl (eOut fs n n).length ((eOut fs n n).flatMap eE)) ∧ Mono H0 H' := by
  have hK := good_keys hg
  have hKR := good_KR hn hg
  refine ACalls.of_body' (n := 71) rfl rfl rfl rfl ?_
  have m0 := Mono.refl H0
  refine AWP.seq ?_
  refine AWP.region (l := [0, 1]) rfl ?_
  refine AOps.cons rfl rfl (AOp.box (.ptr sid 0 0) rfl rfl rfl ?_)
  intro i1 H2 n3 h4 k5
  have e6 := ne_new hs n3
  have e7 := ne_new hsm n3
  have z8 := Mono.free m0 n3
  have h9 := keep k5 (ne_new hs n3) hs
  have h10 := keep k5 (ne_new hsm n3) hsm
  have m11 := Mono.new m0 n3 k5
  refine AOps.cons rfl rfl (AOp.assign (.snil) rfl rfl ?_)
  refine AOps.nil ?_
  change AWP _ _ _ _ _ _
  refine AWP.seq ?_
  refine AWP.region (l := [0]) rfl ?_
  refine AOps.cons rfl rfl (AOp.assign (.snil) rfl rfl ?_)
  refine AOps.nil ?_
  change AWP _ _ _ _ _ _
  refine AWP.seq ?_
  refine AWP.region (l := [0, 1]) rfl ?_
  refine AOps.cons rfl rfl (AOp.makeFunc (cs := [.ptr i1 0 0]) rfl rfl ?_)
  refine AOps.cons rfl rfl (AOp.assign (.fn 35 [.ptr i1 0 0]) rfl rfl ?_)
  refine AOps.nil ?_
  change AWP _ _ _ _ _ _
  refine AWP.seq ?_
  refine AWP.seq ?_
  refine AWP.region (l := [0, 1, 2, 3, 4]) rfl ?_
  refine AOps.cons rfl rfl (AOp.load (.ptr sid 0 0) rfl rfl ty_51 h4 rfl ?_)
  refine AOps.cons rfl rfl (AOp.nilCheck (.ptr sid 0 0) rfl rfl rfl ?_)
  refine AOps.cons rfl rfl (AOp.fieldAddr rfl rfl fl_54_1 ?_ (hid := ⟨_, h9⟩))
  refine AOps.cons rfl rfl (AOp.load (.map mid) rfl rfl ty_52 h9 rfl ?_)
  refine AOps.cons rfl rfl (AOp.range rfl rfl h10 u_52 ?_)
  intro i12 H13 n14 h15 k16
  have e17 := ne_new h9 n14
  have e18 := ne_new h10 n14
  have e19 := ne_new h4 n14
  have z20 := Mono.free m11 n14
  have h21 := keep k16 (ne_new h9 n14) h9
  have h22 := keep k16 (ne_new h10 n14) h10
  have h23 := keep k16 (ne_new h4 n14) h4
  have m24 := Mono.new m11 n14 k16
  refine AOps.nil ?_
  change AWP _ _ _ _ _ _
  refine AWP.block ?_
  refine AWP.loop (fun q25 fq Hq => ∃ (seen : List Nat) (w3 : AV), q25 = (sides fs).length - seen.length ∧ fq 1 = .ptr i1 0 0 ∧ fq 2 = .snil ∧ fq 4 = .fn 35 [.ptr i1 0 0] ∧ fq 15 = .it i12 ∧ fq 3 = w3 ∧ Own H0 Hq 4 w3 (seen.flatMap (edgeJ fs)).length ((seen.flatMap (edgeJ fs)).flatMap eE) ∧ NotId w3 sid ∧ NotId w3 mid ∧ NotId w3 i1 ∧ NotId w3 i12 ∧ Hq sid = some (.row 0 ([.sl fs.length (fs.map eF), .map mid])) ∧ Hq mid = some (.map ((sides fs).map eS)) ∧ Hq i1 = some (.row 0 ([.ptr sid 0 0])) ∧ Hq i12 = some (.iter (.map mid ((sides fs).map eS).length seen)) ∧ Mono H0 Hq ∧ (seen.Nodup) ∧ (∀ j ∈ seen, j < (sides fs).length)) (k := (sides fs).length - ([] : List Nat).length) ?_ ?_
  ·
    exact ⟨([] : List Nat), .snil, rfl, rfl, rfl, rfl, rfl, rfl, Own.nil _ _ _, (NotId.nil _), (NotId.nil _), (NotId.nil _), (NotId.nil _), h21, h22, h23, h15, m24, by exact .nil, by intro j h; cases h⟩
  ·
    rintro _ f27 H26 ⟨seen, w3, rfl, s28, s29, s30, s31, s32, o33, no34, no35, no36, no37, h38, h39, h40, h41, m42, hnd, hlt⟩
    refine AWP.seq ?_
    refine AWP.region (l := [0, 1]) rfl ?_
    refine AOps.cons rfl rfl (AOp.next rfl s31 h41 h39 ?_ ?_)
    ·
      intro hall50
      refine AOps.cons rfl rfl (AOp.extract (.bool false) rfl rfl rfl ?_)
      refine AOps.nil ?_
      change AWP _ _ _ _ _ _
      refine AWP.seq ?_
      refine AWP.condF rfl rfl ?_
      refine AWP.exit ?_
      change AWP _ _ _ _ _ _
      refine AWP.seq ?_
      have hall : ∀ j, j < (sides fs).length → j ∈ seen := fun j hj => hall50 j (by simpa using hj)
      refine AWP.region (l := [0, 1]) rfl ?_
      refine AOps.cons rfl rfl (AOp.move (w3) rfl s32 ?_)
      refine AOps.cons rfl rfl (AOp.xcall («as» := [w3, .fn 37 []]) rfl rfl (rfl) tf_36 (c36 (l := (seen.flatMap (edgeJ fs))) o33 m42 (by have := seen_len fs seen; have := seen_le hnd hlt; omega)) ?_)
      rintro _ H51 ⟨rfl, m52, k53, l54, o55, p56, srt57⟩
      have h58 := (k53 _ no34).trans h38
      have h59 := (k53 _ no35).trans h39
      have h60 := (k53 _ no36).trans h40
      have h61 := (k53 _ no37).trans h41
      refine AOps.nil ?_
      change AWP _ _ _ _ _ _
      refine AWP.seq ?_
      refine AWP.region (l := [0, 1]) rfl ?_
      refine AOps.cons rfl rfl (AOp.move (w3) rfl s32 ?_)
      refine AOps.cons rfl rfl (AOp.assign (w3) rfl rfl ?_)
      refine AOps.nil ?_
      change AWP _ _ _ _ _ _
      refine AWP.ret ?_
      refine Fin.frz 2 o55 rfl m52 fun H62 m63 k64 => ?_
      have h65 := (k64 _ no34).trans h58
      have h66 := (k64 _ no35).trans h59
      have h67 := (k64 _ no36).trans h60
      have h68 := (k64 _ no37).trans h61
      refine ⟨_, _, Ghost.refl, .inr rfl, _, Res.one rfl rfl, ?_, m63⟩
      exact (congrArg (fun l : List Ed => AV.sl l.length (l.flatMap eE)) (show (l54 : List Ed) = eOut fs n n from by exact edges_eq hg hnd hlt hall p56 srt57))
    ·
      intro j43 en44 H45 he46 hnot47 h48 k49
      have h69 := keep k49 e17 h38
      have h70 := keep k49 e18 h39
      have h71 := keep k49 e19 h40
      have o73 := Own.keep o33 k49 no37
      have m74 := Mono.set m42 z20 k49
      obtain ⟨sj75, hsj76, rfl⟩ := eS_get he46
      have hin := hKR _ (List.mem_of_getElem? hsj76)
      have hjl := (List.getElem?_eq_some_iff.1 hsj76).1
      refine AOps.cons rfl rfl (AOp.extract (.bool true) rfl rfl rfl ?_)
      refine AOps.nil ?_
      change AWP _ _ _ _ _ _
      refine AWP.seq ?_
      refine AWP.condT rfl rfl ?_
      refine AWP.skip ?_
      change AWP _ _ _ _ _ _
      refine AWP.block ?_
      refine AWP.seq ?_
      refine AWP.region (l := [0, 1, 2, 3]) rfl ?_
      refine AOps.cons rfl rfl (AOp.entry rfl s31 h48 h70 he46 ?_)
      refine AOps.cons rfl rfl (AOp.extract (.agg [.int .i64 sj75.1.1, .int .i64 sj75.1.2]) rfl rfl rfl ?_)
      refine AOps.cons rfl rfl (AOp.alloc rfl tz_63 ?_)
      intro i77 H78 n79 h80 k81
      have e82 := ne_new h69 n79
      have e83 := ne_new h70 n79
      have e84 := ne_new h71 n79
      have e85 := ne_new h48 n79
      have z86 := Mono.free m74 n79
      have h87 := keep k81 (ne_new h69 n79) h69
      have h88 := keep k81 (ne_new h70 n79) h70
      have h89 := keep k81 (ne_new h71 n79) h71
      have h90 := keep k81 (ne_new h48 n79) h48
      have o91 := Own.keep o73 k81 (Own.notnew o73 n79)
      have no92 := Own.notnew o73 n79
      have m93 := Mono.new m74 n79 k81
      refine AOps.cons rfl rfl (AOp.store' (cells' := [.int .i64 sj75.1.1, .int .i64 sj75.1.2]) (.agg [.int .i64 sj75.1.1, .int .i64 sj75.1.2]) rfl rfl ts_63 h80 rfl rfl rfl rfl ?_)
      intro H94 h95 k96
      have h97 := keep k96 e82 h87
      have h98 := keep k96 e83 h88
      have h99 := keep k96 e84 h89
      have h100 := keep k96 e85 h90
      have o102 := Own.keep o91 k96 no92
      have m103 := Mono.set m93 z86 k96
      refine AOps.nil ?_
      change AWP _ _ _ _ _ _
      refine AWP.seq ?_
      refine AWP.region_quiet mixed (by kernel_rfl) 15 [] rfl (by kernel_rfl) (Mono H94) (Mono.refl _) ?_
      refine QE.op rfl rfl (.inl ⟨rfl, fun f' H' hf hM => AOp.load (.ptr sid 0 0) rfl ((hf 1 rfl).trans s28) ty_51 (hM _ _ h99) rfl ⟨rfl, hM⟩⟩) ?_
      refine QE.op rfl rfl (.inl ⟨rfl, fun f' H' hf hM => AOp.nilCheck (.ptr sid 0 0) rfl ((hf 21 rfl).trans rfl) rfl ⟨rfl, hM⟩⟩) ?_
      refine QE.op rfl rfl (.inl ⟨rfl, fun f' H' hf hM => AOp.fieldAddr rfl ((hf 22 rfl).trans rfl) fl_54_1 ⟨rfl, hM⟩ (hid := ⟨_, (hM _ _ h97)⟩)⟩) ?_
      refine QE.op rfl rfl (.inl ⟨rfl, fun f' H' hf hM => AOp.load (.map mid) rfl ((hf 23 rfl).trans rfl) ty_52 (hM _ _ h97) rfl ⟨rfl, hM⟩⟩) ?_
      refine QE.op rfl rfl (.inl ⟨rfl, fun f' H' hf hM => AOp.fieldAddr rfl ((hf 5 rfl).trans rfl) fl_63_1 ⟨rfl, hM⟩ (hid := ⟨_, (hM _ _ h95)⟩)⟩) ?_
      refine QE.op rfl rfl (.inl ⟨rfl, fun f' H' hf hM => AOp.load (.int .i64 sj75.1.2) rfl ((hf 25 rfl).trans rfl) ty_3 (hM _ _ h95) rfl ⟨rfl, hM⟩⟩) ?_
      refine QE.op rfl rfl (.inl ⟨rfl, fun f' H' hf hM => AOp.fieldAddr rfl ((hf 5 rfl).trans rfl) fl_63_0 ⟨rfl, hM⟩ (hid := ⟨_, (hM _ _ h95)⟩)⟩) ?_
      refine QE.op rfl rfl (.inl ⟨rfl, fun f' H' hf hM => AOp.load (.int .i64 sj75.1.1) rfl ((hf 27 rfl).trans rfl) ty_3 (hM _ _ h95) rfl ⟨rfl, hM⟩⟩) ?_
      refine QE.op rfl rfl (.inl ⟨rfl, fun f' H' hf hM => AOp.build (cells := [.int .i64 sj75.1.2, .int .i64 sj75.1.1]) rfl tz_63 pl_63 (lconsP ((hf 26 rfl).trans rfl) (lconsP ((hf 28 rfl).trans rfl) rfl)) rfl ⟨rfl, hM⟩⟩) ?_
      refine QE.op rfl rfl (.inl ⟨rfl, fun f' H' hf hM => AOp.lookupOk' rfl ((hf 24 rfl).trans rfl) (hM _ _ h98) ((hf 29 rfl).trans rfl) (kok63 hin.2 hin.1) (kes hKR) tm52 tzv_3 (look_sides hK (sj75.1.2) (sj75.1.1)) ⟨rfl, hM⟩⟩) ?_
      refine QE.op rfl rfl (.inl ⟨rfl, fun f' H' hf hM => AOp.move (.tup [.int .i64 (gotA fs sj75.1.2 sj75.1.1), .bool (decide (0 ≤ alongS fs sj75.1.2 sj75.1.1))]) rfl ((hf 30 rfl).trans rfl) ⟨rfl, hM⟩⟩) ?_
      refine QE.op rfl rfl (.inl ⟨rfl, fun f' H' hf hM => AOp.extract (.int .i64 (gotA fs sj75.1.2 sj75.1.1)) rfl ((hf 20 rfl).trans rfl) rfl ⟨rfl, hM⟩⟩) ?_
      refine QE.op rfl rfl (.inl ⟨rfl, fun f' H' hf hM => AOp.extract (.bool (decide (0 ≤ alongS fs sj75.1.2 sj75.1.1))) rfl ((hf 20 rfl).trans rfl) rfl ⟨rfl, hM⟩⟩) ?_
      refine QE.op rfl rfl (.inl ⟨rfl, fun f' H' hf hM => AOp.assign (.int .i64 (gotA fs sj75.1.2 sj75.1.1)) rfl ((hf 31 rfl).trans rfl) ⟨rfl, hM⟩⟩) ?_
      refine QE.op rfl rfl (.inl ⟨rfl, fun f' H' hf hM => AOp.assign (.bool (decide (0 ≤ alongS fs sj75.1.2 sj75.1.1))) rfl ((hf 32 rfl).trans rfl) ⟨rfl, hM⟩⟩) ?_
      refine QE.done fun H104 m105 => ?_
      have h106 := m105 _ _ h97
      have h107 := m105 _ _ h98
      have h108 := m105 _ _ h99
      have h109 := m105 _ _ h100
      have h110 := m105 _ _ h95
      have o111 := Own.mono o102 m105
      have m112 := m103.trans m105
      refine AOps.nil ?_
      change AWP _ _ _ _ _ _
      refine AWP.seq ?_
      refine AWP.region (l := [0, 1, 2, 3, 4, 5, 6, 7, 8]) rfl ?_
      refine AOps.cons rfl rfl (AOp.fieldAddr rfl rfl fl_63_0 ?_ (hid := ⟨_, h110⟩))
      refine AOps.cons rfl rfl (AOp.load (.int .i64 sj75.1.1) rfl rfl ty_3 h110 rfl ?_)
      refine AOps.cons rfl rfl (AOp.fieldAddr rfl rfl fl_63_1 ?_ (hid := ⟨_, h110⟩))
      refine AOps.cons rfl rfl (AOp.load (.int .i64 sj75.1.2) rfl rfl ty_3 h110 rfl ?_)
      refine AOps.cons rfl rfl (AOp.bin (.bool (decide (sj75.1.1 < sj75.1.2))) rfl rfl rfl rfl ?_)
      refine AOps.cons rfl rfl (AOp.move (.bool (decide (sj75.1.1 < sj75.1.2))) rfl rfl ?_)
      by_cases b113 : sj75.1.1 < sj75.1.2
      ·
        refine AOps.no rfl rfl rfl rfl rfl rfl rfl (ble_of (decide_eq_true b113) (by decide)) ?_
        refine AOps.no rfl rfl rfl rfl rfl rfl rfl (ble_of (decide_eq_true b113) (by decide)) ?_
        refine AOps.cons rfl rfl (AOp.pickT (.bool true) rfl rfl (decide_eq_true b113) rfl ?_)
        refine AOps.nil ?_
        change AWP _ _ _ _ _ _
        refine AWP.condT rfl rfl ?_
        refine AWP.seq ?_
        refine AWP.region_quiet mixed (by kernel_rfl) 12 [] rfl (by kernel_rfl) (Mono H104) (Mono.refl _) ?_
        refine QE.op rfl rfl (.inl ⟨rfl, fun f' H' hf hM => AOp.fieldAddr rfl ((hf 5 rfl).trans rfl) fl_63_0 ⟨rfl, hM⟩ (hid := ⟨_, (hM _ _ h110)⟩)⟩) ?_
        refine QE.op rfl rfl (.inl ⟨rfl, fun f' H' hf hM => AOp.load (.int .i64 sj75.1.1) rfl ((hf 42 rfl).trans rfl) ty_3 (hM _ _ h110) rfl ⟨rfl, hM⟩⟩) ?_
        refine QE.op rfl rfl (.inl ⟨rfl, fun f' H' hf hM => AOp.fieldAddr rfl ((hf 5 rfl).trans rfl) fl_63_1 ⟨rfl, hM⟩ (hid := ⟨_, (hM _ _ h110)⟩)⟩) ?_
        refine QE.op rfl rfl (.inl ⟨rfl, fun f' H' hf hM => AOp.load (.int .i64 sj75.1.2) rfl ((hf 44 rfl).trans rfl) ty_3 (hM _ _ h110) rfl ⟨rfl, hM⟩⟩) ?_
        refine QE.op rfl rfl (.inl ⟨rfl, fun f' H' hf hM => AOp.min2 rfl ((hf 43 rfl).trans rfl) ((hf 45 rfl).trans rfl) ⟨rfl, hM⟩⟩) ?_
        refine QE.op rfl rfl (.inl ⟨rfl, fun f' H' hf hM => AOp.fieldAddr rfl ((hf 5 rfl).trans rfl) fl_63_0 ⟨rfl, hM⟩ (hid := ⟨_, (hM _ _ h110)⟩)⟩) ?_
        refine QE.op rfl rfl (.inl ⟨rfl, fun f' H' hf hM => AOp.load (.int .i64 sj75.1.1) rfl ((hf 47 rfl).trans rfl) ty_3 (hM _ _ h110) rfl ⟨rfl, hM⟩⟩) ?_
        refine QE.op rfl rfl (.inl ⟨rfl, fun f' H' hf hM => AOp.fieldAddr rfl ((hf 5 rfl).trans rfl) fl_63_1 ⟨rfl, hM⟩ (hid := ⟨_, (hM _ _ h110)⟩)⟩) ?_
        refine QE.op rfl rfl (.inl ⟨rfl, fun f' H' hf hM => AOp.load (.int .i64 sj75.1.2) rfl ((hf 49 rfl).trans rfl) ty_3 (hM _ _ h110) rfl ⟨rfl, hM⟩⟩) ?_
        refine QE.op rfl rfl (.inl ⟨rfl, fun f' H' hf hM => AOp.max2 rfl ((hf 48 rfl).trans rfl) ((hf 50 rfl).trans rfl) ⟨rfl, hM⟩⟩) ?_
        refine QE.op rfl rfl (.inl ⟨rfl, fun f' H' hf hM => AOp.assign (.int .i64 (min sj75.1.1 sj75.1.2)) rfl ((hf 46 rfl).trans rfl) ⟨rfl, hM⟩⟩) ?_
        refine QE.op rfl rfl (.inl ⟨rfl, fun f' H' hf hM => AOp.assign (.int .i64 (max sj75.1.1 sj75.1.2)) rfl ((hf 51 rfl).trans rfl) ⟨rfl, hM⟩⟩) ?_
        refine QE.done fun H114 m115 => ?_
        have h116 := m115 _ _ h106
        have h117 := m115 _ _ h107
        have h118 := m115 _ _ h108
        have h119 := m115 _ _ h109
        have h120 := m115 _ _ h110
        have o121 := Own.mono o111 m115
        have m122 := m112.trans m115
        refine AOps.nil ?_
        change AWP _ _ _ _ _ _
        have hin2 := hin
        unfold inR at hin2
        have hsl2 := seen_len fs seen
        have hsl3 := seen_le hnd hlt
        refine AWP.region (l := [0, 1, 2, 3, 4, 5, 6, 7, 8, 9, 10, 11, 12, 13, 14, 15, 16]) rfl ?_
        refine AOps.cons rfl rfl (AOp.move (w3) rfl s32 ?_)
        refine AOps.cons rfl rfl (AOp.move (.int .i64 (min sj75.1.1 sj75.1.2)) rfl rfl ?_)
        refine AOps.cons rfl rfl (AOp.move (.int .i64 (max sj75.1.1 sj75.1.2)) rfl rfl ?_)
        refine AOps.cons rfl rfl (AOp.move (.fn 35 [.ptr i1 0 0]) rfl s30 ?_)
        refine AOps.cons rfl rfl (AOp.move (.int .i64 (min sj75.1.1 sj75.1.2)) rfl rfl ?_)
        refine AOps.cons rfl rfl (AOp.move (.int .i64 (max sj75.1.1 sj75.1.2)) rfl rfl ?_)
        refine AOps.cons rfl rfl (AOp.build (cells := [.int .i64 (min sj75.1.1 sj75.1.2), .int .i64 (max sj75.1.1 sj75.1.2)]) rfl tz_63 pl_63 rfl rfl ?_)
        refine AOps.cons rfl rfl (AOp.pcallH («as» := [.agg [.int .i64 (min sj75.1.1 sj75.1.2), .int .i64 (max sj75.1.1 sj75.1.2)], .ptr i1 0 0]) rfl rfl (rfl) tf_35 (c35 _ (by assumption) (by assumption) (min sj75.1.1 sj75.1.2, max sj75.1.1 sj75.1.2) ⟨by unfold inR; omega, by unfold inR; omega⟩ hK hKR h118 h116 h117) ?_)
        intro H123 m124
        have h125 := m124 _ _ h116
        have h126 := m124 _ _ h117
        have h127 := m124 _ _ h118
        have h128 := m124 _ _ h119
        have h129 := m124 _ _ h120
        have o130 := Own.mono o121 m124
        have m131 := m122.trans m124
        refine AOps.cons rfl rfl (AOp.move (.fn 35 [.ptr i1 0 0]) rfl s30 ?_)
        refine AOps.cons rfl rfl (AOp.move (.int .i64 (max sj75.1.1 sj75.1.2)) rfl rfl ?_)
        refine AOps.cons rfl rfl (AOp.move (.int .i64 (min sj75.1.1 sj75.1.2)) rfl rfl ?_)
        refine AOps.cons rfl rfl (AOp.build (cells := [.int .i64 (max sj75.1.1 sj75.1.2), .int .i64 (min sj75.1.1 sj75.1.2)]) rfl tz_63 pl_63 rfl rfl ?_)
        refine AOps.cons rfl rfl (AOp.pcallH («as» := [.agg [.int .i64 (max sj75.1.1 sj75.1.2), .int .i64 (min sj75.1.1 sj75.1.2)], .ptr i1 0 0]) rfl rfl (rfl) tf_35 (c35 _ (by assumption) (by assumption) (max sj75.1.1 sj75.1.2, min sj75.1.1 sj75.1.2) ⟨by unfold inR; omega, by unfold inR; omega⟩ hK hKR h127 h125 h126) ?_)
        intro H132 m133
        have h134 := m133 _ _ h125
        have h135 := m133 _ _ h126
        have h136 := m133 _ _ h127
        have h137 := m133 _ _ h128
        have h138 := m133 _ _ h129
        have o139 := Own.mono o130 m133
        have m140 := m131.trans m133
        refine AOps.cons rfl rfl (AOp.build (cells := [.int .i64 (min sj75.1.1 sj75.1.2), .int .i64 (max sj75.1.1 sj75.1.2), .int .i64 (alongS fs (min sj75.1.1 sj75.1.2) (max sj75.1.1 sj75.1.2)), .int .i64 (alongS fs (max sj75.1.1 sj75.1.2) (min sj75.1.1 sj75.1.2))]) rfl tz_37 pl_37 rfl rfl ?_)
        refine AOps.cons rfl rfl (AOp.buildSlice (cells := [.int .i64 (min sj75.1.1 sj75.1.2), .int .i64 (max sj75.1.1 sj75.1.2), .int .i64 (alongS fs (min sj75.1.1 sj75.1.2) (max sj75.1.1 sj75.1.2)), .int .i64 (alongS fs (max sj75.1.1 sj75.1.2) (min sj75.1.1 sj75.1.2))]) rfl u_26 ts_37 tz_37 rfl rfl rfl ?_)
        intro i141 H142 n143 h144 k145
        have e146 := ne_new h134 n143
        have e147 := ne_new h135 n143
        have e148 := ne_new h136 n143
        have e149 := ne_new h137 n143
        have e150 := ne_new h138 n143
        have z151 := Mono.free m140 n143
        have h152 := keep k145 (ne_new h134 n143) h134
        have h153 := keep k145 (ne_new h135 n143) h135
        have h154 := keep k145 (ne_new h136 n143) h136
        have h155 := keep k145 (ne_new h137 n143) h137
        have h156 := keep k145 (ne_new h138 n143) h138
        have o157 := Own.keep o139 k145 (Own.notnew o139 n143)
        have no158 := Own.notnew o139 n143
        have m159 := Mono.new m140 n143 k145
        refine AOps.cons rfl rfl (AOp.append_own (es := 4) (m := 1) (len := ((seen.flatMap (edgeJ fs)).length)) (old := (seen.flatMap (edgeJ fs)).flatMap eE) (cells := [.int .i64 (min sj75.1.1 sj75.1.2), .int .i64 (max sj75.1.1 sj75.1.2), .int .i64 (alongS fs (min sj75.1.1 sj75.1.2) (max sj75.1.1 sj75.1.2)), .int .i64 (alongS fs (max sj75.1.1 sj75.1.2) (min sj75.1.1 sj75.1.2))]) rfl u_26 ts_37 tzn_37 tb_37 (by decide) ni_26 rfl o157 m159 rfl (.slm h144 rfl) (one_of rfl) (by decide) (by first | omega | (simp; omega)) ?_)
        intro v160 H161 o162 m163 k164 j165
        have o166 := Own.snocM (xs := ((seen.flatMap (edgeJ fs)) : List Ed)) (y := (Ed.mk (min sj75.1.1 sj75.1.2) (max sj75.1.1 sj75.1.2) (alongS fs (min sj75.1.1 sj75.1.2) (max sj75.1.1 sj75.1.2)) (alongS fs (max sj75.1.1 sj75.1.2) (min sj75.1.1 sj75.1.2)))) (e := eE) (by simp) o162
        have h167 := (k164 _ no34 (by rw [h152]; simp)).trans h152
        have no168 := j165 _ no34 (by rw [h152]; simp)
        have h169 := (k164 _ no35 (by rw [h153]; simp)).trans h153
        have no170 := j165 _ no35 (by rw [h153]; simp)
        have h171 := (k164 _ no36 (by rw [h154]; simp)).trans h154
        have no172 := j165 _ no36 (by rw [h154]; simp)
        have h173 := (k164 _ no37 (by rw [h155]; simp)).trans h155
        have no174 := j165 _ no37 (by rw [h155]; simp)
        have h175 := (k164 _ no92 (by rw [h156]; simp)).trans h156
        have no176 := j165 _ no92 (by rw [h156]; simp)
        refine AOps.cons rfl rfl (AOp.assign (v160) rfl rfl ?_)
        refine AOps.nil ?_
        exact ⟨_, by have := seen_lt hnd hlt hnot47 hjl; simp only [List.length_append, List.length_cons, List.length_nil]; omega, (seen ++ [j43]), v160, rfl, s28, s29, s30, s31, rfl, (have hx : (((seen.flatMap (edgeJ fs)) ++ [(Ed.mk (min sj75.1.1 sj75.1.2) (max sj75.1.1 sj75.1.2) (alongS fs (min sj75.1.1 sj75.1.2) (max sj75.1.1 sj75.1.2)) (alongS fs (max sj75.1.1 sj75.1.2) (min sj75.1.1 sj75.1.2)))]) : List Ed) = (seen ++ [j43]).flatMap (edgeJ fs) := (by rw [seen_T hsj76 (.inl b113)]); Own.re o166 (congrArg List.length hx) (congrArg (fun l : List Ed => l.flatMap eE) hx)), no168, no170, no172, no174, h167, h169, h171, h173, m163, by exact nd_snoc hnd hnot47, by exact lt_snoc hlt hjl⟩
      ·
        refine AOps.yes rfl rfl rfl rfl rfl rfl rfl (decide_eq_false b113) (AOp.move (.bool (decide (0 ≤ alongS fs sj75.1.2 sj75.1.1))) rfl rfl ?_)
        refine AOps.yes rfl rfl rfl rfl rfl rfl rfl (decide_eq_false b113) (AOp.not rfl rfl ?_)
        refine AOps.cons rfl rfl (AOp.pickF (.bool (!(decide (0 ≤ alongS fs sj75.1.2 sj75.1.1)))) rfl rfl (decide_eq_false b113) rfl ?_)
        refine AOps.nil ?_
        change AWP _ _ _ _ _ _
        by_cases b177 : 0 ≤ alongS fs sj75.1.2 sj75.1.1
        ·
          refine AWP.condF rfl (nb (decide_eq_true b177)) ?_
          refine AWP.skip ?_
          exact ⟨_, by have := seen_lt hnd hlt hnot47 hjl; simp only [List.length_append, List.length_cons, List.length_nil]; omega, (seen ++ [j43]), w3, rfl, s28, s29, s30, s31, s32, (have hx : ((seen.flatMap (edgeJ fs)) : List Ed) = (seen ++ [j43]).flatMap (edgeJ fs) := (by rw [seen_F hsj76 (fun h => h.elim b113 (fun g => g b177))]); Own.re o111 (congrArg List.length hx) (congrArg (fun l : List Ed => l.flatMap eE) hx)), no34, no35, no36, no37, h106, h107, h108, h109, m112, by exact nd_snoc hnd hnot47, by exact lt_snoc hlt hjl⟩
        ·
          refine AWP.condT rfl (nb (decide_eq_false b177)) ?_
          refine AWP.seq ?_
          refine AWP.region_quiet mixed (by kernel_rfl) 12 [] rfl (by kernel_rfl) (Mono H104) (Mono.refl _) ?_
          refine QE.op rfl rfl (.inl ⟨rfl, fun f' H' hf hM => AOp.fieldAddr rfl ((hf 5 rfl).trans rfl) fl_63_0 ⟨rfl, hM⟩ (hid := ⟨_, (hM _ _ h110)⟩)⟩) ?_
          refine QE.op rfl rfl (.inl ⟨rfl, fun f' H' hf hM => AOp.load (.int .i64 sj75.1.1) rfl ((hf 42 rfl).trans rfl) ty_3 (hM _ _ h110) rfl ⟨rfl, hM⟩⟩) ?_
          refine QE.op rfl rfl (.inl ⟨rfl, fun f' H' hf hM => AOp.fieldAddr rfl ((hf 5 rfl).trans rfl) fl_63_1 ⟨rfl, hM⟩ (hid := ⟨_, (hM _ _ h110)⟩)⟩) ?_
          refine QE.op rfl rfl (.inl ⟨rfl, fun f' H' hf hM => AOp.load (.int .i64 sj75.1.2) rfl ((hf 44 rfl).trans rfl) ty_3 (hM _ _ h110) rfl ⟨rfl, hM⟩⟩) ?_
          refine QE.op rfl rfl (.inl ⟨rfl, fun f' H' hf hM => AOp.min2 rfl ((hf 43 rfl).trans rfl) ((hf 45 rfl).trans rfl) ⟨rfl, hM⟩⟩) ?_
          refine QE.op rfl rfl (.inl ⟨rfl, fun f' H' hf hM => AOp.fieldAddr rfl ((hf 5 rfl).trans rfl) fl_63_0 ⟨rfl, hM⟩ (hid := ⟨_, (hM _ _ h110)⟩)⟩) ?_
          refine QE.op rfl rfl (.inl ⟨rfl, fun f' H' hf hM => AOp.load (.int .i64 sj75.1.1) rfl ((hf 47 rfl).trans rfl) ty_3 (hM _ _ h110) rfl ⟨rfl, hM⟩⟩) ?_
          refine QE.op rfl rfl (.inl ⟨rfl, fun f' H' hf hM => AOp.fieldAddr rfl ((hf 5 rfl).trans rfl) fl_63_1 ⟨rfl, hM⟩ (hid := ⟨_, (hM _ _ h110)⟩)⟩) ?_
          refine QE.op rfl rfl (.inl ⟨rfl, fun f' H' hf hM => AOp.load (.int .i64 sj75.1.2) rfl ((hf 49 rfl).trans rfl) ty_3 (hM _ _ h110) rfl ⟨rfl, hM⟩⟩) ?_
          refine QE.op rfl rfl (.inl ⟨rfl, fun f' H' hf hM => AOp.max2 rfl ((hf 48 rfl).trans rfl) ((hf 50 rfl).trans rfl) ⟨rfl, hM⟩⟩) ?_
          refine QE.op rfl rfl (.inl ⟨rfl, fun f' H' hf hM => AOp.assign (.int .i64 (min sj75.1.1 sj75.1.2)) rfl ((hf 46 rfl).trans rfl) ⟨rfl, hM⟩⟩) ?_
          refine QE.op rfl rfl (.inl ⟨rfl, fun f' H' hf hM => AOp.assign (.int .i64 (max sj75.1.1 sj75.1.2)) rfl ((hf 51 rfl).trans rfl) ⟨rfl, hM⟩⟩) ?_
          refine QE.done fun H178 m179 => ?_
          have h180 := m179 _ _ h106
          have h181 := m179 _ _ h107
          have h182 := m179 _ _ h108
          have h183 := m179 _ _ h109
          have h184 := m179 _ _ h110
          have o185 := Own.mono o111 m179
          have m186 := m112.trans m179
          refine AOps.nil ?_
          change AWP _ _ _ _ _ _
          have hin2 := hin
          unfold inR at hin2
          have hsl2 := seen_len fs seen
          have hsl3 := seen_le hnd hlt
          refine AWP.region (l := [0, 1, 2, 3, 4, 5, 6, 7, 8, 9, 10, 11, 12, 13, 14, 15, 16]) rfl ?_
          refine AOps.cons rfl rfl (AOp.move (w3) rfl s32 ?_)
          refine AOps.cons rfl rfl (AOp.move (.int .i64 (min sj75.1.1 sj75.1.2)) rfl rfl ?_)
          refine AOps.cons rfl rfl (AOp.move (.int .i64 (max sj75.1.1 sj75.1.2)) rfl rfl ?_)
          refine AOps.cons rfl rfl (AOp.move (.fn 35 [.ptr i1 0 0]) rfl s30 ?_)
          refine AOps.cons rfl rfl (AOp.move (.int .i64 (min sj75.1.1 sj75.1.2)) rfl rfl ?_)
          refine AOps.cons rfl rfl (AOp.move (.int .i64 (max sj75.1.1 sj75.1.2)) rfl rfl ?_)
          refine AOps.cons rfl rfl (AOp.build (cells := [.int .i64 (min sj75.1.1 sj75.1.2), .int .i64 (max sj75.1.1 sj75.1.2)]) rfl tz_63 pl_63 rfl rfl ?_)
          refine AOps.cons rfl rfl (AOp.pcallH («as» := [.agg [.int .i64 (min sj75.1.1 sj75.1.2), .int .i64 (max sj75.1.1 sj75.1.2)], .ptr i1 0 0]) rfl rfl (rfl) tf_35 (c35 _ (by assumption) (by assumption) (min sj75.1.1 sj75.1.2, max sj75.1.1 sj75.1.2) ⟨by unfold inR; omega, by unfold inR; omega⟩ hK hKR h182 h180 h181) ?_)
          intro H187 m188
          have h189 := m188 _ _ h180
          have h190 := m188 _ _ h181
          have h191 := m188 _ _ h182
          have h192 := m188 _ _ h183
          have h193 := m188 _ _ h184
          have o194 := Own.mono o185 m188
          have m195 := m186.trans m188
          refine AOps.cons rfl rfl (AOp.move (.fn 35 [.ptr i1 0 0]) rfl s30 ?_)
          refine AOps.cons rfl rfl (AOp.move (.int .i64 (max sj75.1.1 sj75.1.2)) rfl rfl ?_)
          refine AOps.cons rfl rfl (AOp.move (.int .i64 (min sj75.1.1 sj75.1.2)) rfl rfl ?_)
          refine AOps.cons rfl rfl (AOp.build (cells := [.int .i64 (max sj75.1.1 sj75.1.2), .int .i64 (min sj75.1.1 sj75.1.2)]) rfl tz_63 pl_63 rfl rfl ?_)
          refine AOps.cons rfl rfl (AOp.pcallH («as» := [.agg [.int .i64 (max sj75.1.1 sj75.1.2), .int .i64 (min sj75.1.1 sj75.1.2)], .ptr i1 0 0]) rfl rfl (rfl) tf_35 (c35 _ (by assumption) (by assumption) (max sj75.1.1 sj75.1.2, min sj75.1.1 sj75.1.2) ⟨by unfold inR; omega, by unfold inR; omega⟩ hK hKR h191 h189 h190) ?_)
          intro H196 m197
          have h198 := m197 _ _ h189
          have h199 := m197 _ _ h190
          have h200 := m197 _ _ h191
          have h201 := m197 _ _ h192
          have h202 := m197 _ _ h193
          have o203 := Own.mono o194 m197
          have m204 := m195.trans m197
          refine AOps.cons rfl rfl (AOp.build (cells := [.int .i64 (min sj75.1.1 sj75.1.2), .int .i64 (max sj75.1.1 sj75.1.2), .int .i64 (alongS fs (min sj75.1.1 sj75.1.2) (max sj75.1.1 sj75.1.2)), .int .i64 (alongS fs (max sj75.1.1 sj75.1.2) (min sj75.1.1 sj75.1.2))]) rfl tz_37 pl_37 rfl rfl ?_)
          refine AOps.cons rfl rfl (AOp.buildSlice (cells := [.int .i64 (min sj75.1.1 sj75.1.2), .int .i64 (max sj75.1.1 sj75.1.2), .int .i64 (alongS fs (min sj75.1.1 sj75.1.2) (max sj75.1.1 sj75.1.2)), .int .i64 (alongS fs (max sj75.1.1 sj75.1.2) (min sj75.1.1 sj75.1.2))]) rfl u_26 ts_37 tz_37 rfl rfl rfl ?_)
          intro i205 H206 n207 h208 k209
          have e210 := ne_new h198 n207
          have e211 := ne_new h199 n207
          have e212 := ne_new h200 n207
          have e213 := ne_new h201 n207
          have e214 := ne_new h202 n207
          have z215 := Mono.free m204 n207
          have h216 := keep k209 (ne_new h198 n207) h198
          have h217 := keep k209 (ne_new h199 n207) h199
          have h218 := keep k209 (ne_new h200 n207) h200
          have h219 := keep k209 (ne_new h201 n207) h201
          have h220 := keep k209 (ne_new h202 n207) h202
          have o221 := Own.keep o203 k209 (Own.notnew o203 n207)
          have no222 := Own.notnew o203 n207
          have m223 := Mono.new m204 n207 k209
          refine AOps.cons rfl rfl (AOp.append_own (es := 4) (m := 1) (len := ((seen.flatMap (edgeJ fs)).length)) (old := (seen.flatMap (edgeJ fs)).flatMap eE) (cells := [.int .i64 (min sj75.1.1 sj75.1.2), .int .i64 (max sj75.1.1 sj75.1.2), .int .i64 (alongS fs (min sj75.1.1 sj75.1.2) (max sj75.1.1 sj75.1.2)), .int .i64 (alongS fs (max sj75.1.1 sj75.1.2) (min sj75.1.1 sj75.1.2))]) rfl u_26 ts_37 tzn_37 tb_37 (by decide) ni_26 rfl o221 m223 rfl (.slm h208 rfl) (one_of rfl) (by decide) (by first | omega | (simp; omega)) ?_)
          intro v224 H225 o226 m227 k228 j229
          have o230 := Own.snocM (xs := ((seen.flatMap (edgeJ fs)) : List Ed)) (y := (Ed.mk (min sj75.1.1 sj75.1.2) (max sj75.1.1 sj75.1.2) (alongS fs (min sj75.1.1 sj75.1.2) (max sj75.1.1 sj75.1.2)) (alongS fs (max sj75.1.1 sj75.1.2) (min sj75.1.1 sj75.1.2)))) (e := eE) (by simp) o226
          have h231 := (k228 _ no34 (by rw [h216]; simp)).trans h216
          have no232 := j229 _ no34 (by rw [h216]; simp)
          have h233 := (k228 _ no35 (by rw [h217]; simp)).trans h217
          have no234 := j229 _ no35 (by rw [h217]; simp)
          have h235 := (k228 _ no36 (by rw [h218]; simp)).trans h218
          have no236 := j229 _ no36 (by rw [h218]; simp)
          have h237 := (k228 _ no37 (by rw [h219]; simp)).trans h219
          have no238 := j229 _ no37 (by rw [h219]; simp)
          have h239 := (k228 _ no92 (by rw [h220]; simp)).trans h220
          have no240 := j229 _ no92 (by rw [h220]; simp)
          refine AOps.cons rfl rfl (AOp.assign (v224) rfl rfl ?_)
          refine AOps.nil ?_
          exact ⟨_, by have := seen_lt hnd hlt hnot47 hjl; simp only [List.length_append, List.length_cons, List.length_nil]; omega, (seen ++ [j43]), v224, rfl, s28, s29, s30, s31, rfl, (have hx : (((seen.flatMap (edgeJ fs)) ++ [(Ed.mk (min sj75.1.1 sj75.1.2) (max sj75.1.1 sj75.1.2) (alongS fs (min sj75.1.1 sj75.1.2) (max sj75.1.1 sj75.1.2)) (alongS fs (max sj75.1.1 sj75.1.2) (min sj75.1.1 sj75.1.2)))]) : List Ed) = (seen ++ [j43]).flatMap (edgeJ fs) := (by rw [seen_T hsj76 (.inr b177)]); Own.re o230 (congrArg List.length hx) (congrArg (fun l : List Ed => l.flatMap eE) hx)), no232, no234, no236, no238, h231, h233, h235, h237, m227, by exact nd_snoc hnd hnot47, by exact lt_snoc hlt hjl⟩
end Go.Proofs.T
