/- A part of the proof that a law answers true for every input of its row: own work, by an AI agent. -/
import Derived.Test.YtfddnapdeihchaaDoorB02
import Derived.Defers
import Derived.Recover
import Derived.Tactics
import Derived.Tactics2
import Derived.Test.YtfddnapdeihchaaDoorB00
set_option linter.unusedSimpArgs false
set_option linter.unusedVariables false
set_option linter.defProp false
namespace Go.Proofs.S
open Go Go.AH Go.Proofs.L
set_option maxRecDepth 4000
set_option maxHeartbeats 4000000
set_option linter.unusedSimpArgs false
set_option linter.unusedVariables false
set_option linter.unusedSectionVars false
variable [LexG]
theorem c_cage_ {B H0 : Heap} {id ver : Nat} {cam : CamT} {sky : ColT} {vL vM vT vS vC : AV} {hc hs : Bool} (hm : Mono B H0) (hrow : H0 id = some (.row ver (rdC cam sky vL vM vT vS vC hc hs))) {n : Nat} {cl : List AV} (oC : Own B H0 3 vC n cl) (hn : n ≤ 1048576) : ACallsX Tryd.prog 45 [.ptr id ver 0] H0 (fun r H' => (n : Int) > 0 ∧ (∃ i v, vC = .slm i v 3 0 n ∧ r = .ptr i v (((n : Int) - 1).toNat * 3)) ∧ Mono H0 H') (fun ch H' => ∃ k, (if decide ((n : Int) > 0) = true then (Except.ok () : Except Int Unit) else .error 15) = .error k ∧ ch = pan 36 k ∧ Mono B H') := by
 refine ACallsX.of_body' (n := 24) rfl rfl rfl rfl ?_
 have m0 := hm
 refine AWP.seq ?_
 refine AWP.region (l := [0]) rfl ?_
 refine AOps.cons rfl rfl (AOp.assign (.nilptr) rfl rfl ?_)
 refine AOps.nil ?_
 change AWP _ _ _ _ _ _
 refine AWP.seq ?_
 refine AWP.regionX (l := [0, 1, 2, 3, 4, 5, 6, 7]) rfl ?_
 refine AOpsX.cons rfl rfl (AOp.move (.ptr id ver 0) rfl rfl ?_)
 refine AOpsX.cons rfl rfl (AOp.nilCheck (.ptr id ver 0) rfl rfl rfl ?_)
 refine AOpsX.cons rfl rfl (AOp.fieldAddr rfl rfl fl_59_0 ?_ (hid := ⟨_, hrow⟩))
 refine AOpsX.cons rfl rfl (AOp.fieldAddr rfl rfl fl_35_6 ?_ (hid := ⟨_, hrow⟩))
 refine AOpsX.cons rfl rfl (AOp.load (vC) rfl rfl ty_33 hrow rfl ?_)
 refine AOpsX.cons rfl rfl (AOp.len_own (m := n) rfl rfl oC u_33 ?_)
 refine AOpsX.cons rfl rfl (AOp.bin (.bool (decide ((n : Int) > 0))) rfl rfl rfl rfl ?_)
 refine AOpsX.consX rfl rfl (AOpX.need (b := decide ((n : Int) > 0)) (k := 15) (as_ := [.bool (decide ((n : Int) > 0)), .int .i64 15]) rfl rfl (rfl) tf_35 (c_need _ _) ?_ (fun hb _ m2 => Or.inr ⟨_, rfl, _, pbF (by exact hb), rfl, m0.trans m2⟩))
 intro hb1 H2 m3
 have h4 := m3 _ _ hrow
 have o5 := Own.mono oC m3
 have rd6 := Mono.trans (Mono.refl H0) m3
 have m7 := m0.trans m3
 have hp8 := of_decide_eq_true hb1
 refine AOpsX.nil ?_
 change AWP _ _ _ _ _ _
 refine AWP.seq ?_
 refine AWP.region_quiet mixed (by kernel_rfl) 14 [] rfl (by kernel_rfl) (Mono H2) (Mono.refl _) ?_
 refine QE.op rfl rfl (.inl ⟨rfl, fun f' H' hf hM => AOp.move (.ptr id ver 0) rfl ((hf 0 rfl).trans rfl) ⟨rfl, hM⟩⟩) ?_
 refine QE.op rfl rfl (.inl ⟨rfl, fun f' H' hf hM => AOp.nilCheck (.ptr id ver 0) rfl ((hf 11 rfl).trans rfl) rfl ⟨rfl, hM⟩⟩) ?_
 refine QE.op rfl rfl (.inl ⟨rfl, fun f' H' hf hM => AOp.fieldAddr rfl ((hf 12 rfl).trans rfl) fl_59_0 ⟨rfl, hM⟩ (hid := ⟨_, (hM _ _ h4)⟩)⟩) ?_
 refine QE.op rfl rfl (.inl ⟨rfl, fun f' H' hf hM => AOp.fieldAddr rfl ((hf 13 rfl).trans rfl) fl_35_6 ⟨rfl, hM⟩ (hid := ⟨_, (hM _ _ h4)⟩)⟩) ?_
 refine QE.op rfl rfl (.inl ⟨rfl, fun f' H' hf hM => AOp.load (vC) rfl ((hf 14 rfl).trans rfl) ty_33 (hM _ _ h4) rfl ⟨rfl, hM⟩⟩) ?_
 refine QE.op rfl rfl (.inl ⟨rfl, fun f' H' hf hM => AOp.move (.ptr id ver 0) rfl ((hf 0 rfl).trans rfl) ⟨rfl, hM⟩⟩) ?_
 refine QE.op rfl rfl (.inl ⟨rfl, fun f' H' hf hM => AOp.nilCheck (.ptr id ver 0) rfl ((hf 16 rfl).trans rfl) rfl ⟨rfl, hM⟩⟩) ?_
 refine QE.op rfl rfl (.inl ⟨rfl, fun f' H' hf hM => AOp.fieldAddr rfl ((hf 17 rfl).trans rfl) fl_59_0 ⟨rfl, hM⟩ (hid := ⟨_, (hM _ _ h4)⟩)⟩) ?_
 refine QE.op rfl rfl (.inl ⟨rfl, fun f' H' hf hM => AOp.fieldAddr rfl ((hf 18 rfl).trans rfl) fl_35_6 ⟨rfl, hM⟩ (hid := ⟨_, (hM _ _ h4)⟩)⟩) ?_
 refine QE.op rfl rfl (.inl ⟨rfl, fun f' H' hf hM => AOp.load (vC) rfl ((hf 19 rfl).trans rfl) ty_33 (hM _ _ h4) rfl ⟨rfl, hM⟩⟩) ?_
 refine QE.op rfl rfl (.inl ⟨rfl, fun f' H' hf hM => AOp.len_own (m := n) rfl ((hf 20 rfl).trans rfl) o5 u_33 ⟨rfl, hM⟩⟩) ?_
 refine QE.op rfl rfl (.inl ⟨rfl, fun f' H' hf hM => AOp.bin (.int .i64 ((n : Int) - 1)) rfl ((hf 21 rfl).trans rfl) rfl (isub (by omega)) ⟨rfl, hM⟩⟩) ?_
 obtain ⟨i9, ver10, e11, h12, _, _⟩ := Own.pos o5 (by omega)
 refine QE.op rfl rfl (.inl ⟨rfl, fun f' H' hf hM => AOp.indexAddrO rfl (Eq.trans ((hf 15 rfl).trans rfl) e11) ((hf 22 rfl).trans rfl) sl_33 (by omega) (by omega) (hM _ _ h12) ⟨rfl, hM⟩⟩) ?_
 refine QE.op rfl rfl (.inl ⟨rfl, fun f' H' hf hM => AOp.assign (.ptr i9 ver10 (((n : Int) - 1).toNat * 3)) rfl ((hf 23 rfl).trans rfl) ⟨rfl, hM⟩⟩) ?_
 refine QE.done fun H13 m14 => ?_
 have h15 := m14 _ _ h4
 have o16 := Own.mono o5 m14
 have rd17 := Mono.trans rd6 m14
 have m18 := m7.trans m14
 refine AOps.nil ?_
 change AWP _ _ _ _ _ _
 refine AWP.ret ?_
 refine Or.inl ?_
 exact ⟨_, _, Ghost.refl, .inr rfl, _, Res.one rfl rfl, by omega, ⟨i9, ver10, e11, rfl⟩, rd17⟩
theorem c_readVertex {B H0 : Heap} {id ver : Nat} {s : Rd} (hm : Mono B H0) (hs : RD B H0 id ver s) (ok : RdOk s) (w : List ByteArray) (hw : w.length ≤ 1048576) : ACallsX Tryd.prog 26 [.ptr id ver 0, .sl w.length (w.map eStr)] H0 (fun r H' => ∃ t, vertexP s w = .ok t ∧ RD B H' id ver t ∧ Mono B H' ∧ r = .tup []) (fun ch H' => ∃ k, vertexP s w = .error k ∧ ch = pan 36 k ∧ Mono B H') := by
 obtain ⟨vL, vM, vT, vS, vC, vV, vF, vK, hrow, hB, hg, hn⟩ := hs
 obtain ⟨oC', ogC, spC⟩ := hg.at 4 rfl
 have oC : Own B H0 3 vC s.cages.length (cgC s.cages vV vF vK) := oC'
 have nC : NotId vC id := hn.at 4 rfl
 have ngC := hn.erase 4
 obtain ⟨oX', ogX, spX⟩ := ogC.at 4 rfl
 have oX : Own B H0 3 vV (lastC s.cages).Verts.length (((lastC s.cages).Verts).flatMap eV) := oX'
 have nX : NotId vV id := ngC.at 4 rfl
 have ngX := ngC.erase 4
 have spCX : Sep vV vC := spC.at 4 rfl
 have spC2 := spC.erase 4
 refine ACallsX.of_body' (n := 30) rfl rfl rfl rfl ?_
 have m0 := hm
 refine AWP.seq ?_
 refine AWP.regionX (l := [0, 1, 2]) rfl ?_
 refine AOpsX.cons rfl rfl (AOp.move (.sl w.length (w.map eStr)) rfl rfl ?_)
 refine AOpsX.consX rfl rfl (AOpX.need (b := cntB w 3) (k := 10) (as_ := [.sl w.length (w.map eStr), .int .i64 3]) rfl rfl (rfl) tf_34 (c_counted w (by first | omega | assumption | (simp only [List.length_drop, List.length_take]; omega) | (simp; omega) | simp) _) ?_ (fun hb _ m2 => Or.inr ⟨_, rfl, _, gF hb, rfl, m0.trans m2⟩))
 intro hb1 H2 m3
 have h4 := m3 _ _ hrow
 have o5 := Own.mono oC m3
 have o6 := Own.mono oX m3
 have o7 := MO.mono ogX m3
 have m8 := m0.trans m3
 have hl9 := cnt_len hb1
 refine AOpsX.cons rfl rfl (AOp.assign (.sl (numsL w).length ((numsL w).map eI)) rfl rfl ?_)
 refine AOpsX.nil ?_
 change AWP _ _ _ _ _ _
 refine AWP.seq ?_
 refine AWP.regionX (l := [0, 1, 2]) rfl ?_
 refine AOpsX.cons rfl rfl (AOp.move (.ptr id ver 0) rfl rfl ?_)
 refine AOpsX.consX rfl rfl (AOpX.callE (as_ := [.ptr id ver 0] ) (fun _ e => by cases e; rfl) rfl (rfl) tf_45 (c_cage_ (B := B) m8 h4 o5 (by have := ok.c; have := ok.k; omega)) ?_ (fun _ _ ⟨_, e, hc, m⟩ => Or.inr ⟨_, rfl, _, gT hb1 (gE e), hc, m⟩))
 rintro _ H10 ⟨hb12, ⟨ic, vc, hvC, rfl⟩, m11⟩
 have hne : s.cages ≠ [] := List.length_pos_iff.1 (by omega)
 have h13 := m11 _ _ h4
 have o14 := Own.mono o5 m11
 have o15 := Own.mono o6 m11
 have o16 := MO.mono o7 m11
 have m17 := m8.trans m11
 have hcl := lastC_ok ok hne
 have oC2 := o14; rw [cgC_ne hne] at oC2
 obtain ⟨hic, hBic, hlic⟩ := Own.rowOf oC2 hvC
 have nid : id ≠ ic := nC _ _ _ _ _ hvC
 have no18 : NotId vV ic := ((Sep.symm spCX)).notId hvC
 have no19 := SepM.nid spC2 hvC
 refine AOpsX.cons rfl rfl (AOp.assign (.ptr ic vc (((s.cages.length : Int) - 1).toNat * 3)) rfl rfl ?_)
 refine AOpsX.nil ?_
 change AWP _ _ _ _ _ _
 refine AWP.seq ?_
 refine AWP.regionX (l := [0, 1, 2, 3, 4, 5, 6]) rfl ?_
 refine AOpsX.cons rfl rfl (AOp.move (.ptr ic vc (((s.cages.length : Int) - 1).toNat * 3)) rfl rfl ?_)
 refine AOpsX.cons rfl rfl (AOp.nilCheck (.ptr ic vc (((s.cages.length : Int) - 1).toNat * 3)) rfl rfl rfl ?_)
 refine AOpsX.cons rfl rfl (AOp.fieldAddr rfl rfl fl_46_0 ?_ (hid := ⟨_, hic⟩))
 refine AOpsX.cons rfl rfl (AOp.load (vV) rfl rfl ty_42 hic (ldC0 (drop_len _) rfl) ?_)
 refine AOpsX.cons rfl rfl (AOp.len_own (m := ((lastC s.cages).Verts.length)) rfl rfl o15 u_42 ?_)
 refine AOpsX.cons rfl rfl (AOp.bin (.bool (decide ((((lastC s.cages).Verts.length) : Int) < 64))) rfl rfl rfl rfl ?_)
 refine AOpsX.consX rfl rfl (AOpX.need (b := decide ((((lastC s.cages).Verts.length) : Int) < 64)) (k := 13) (as_ := [.bool (decide ((((lastC s.cages).Verts.length) : Int) < 64)), .int .i64 13]) rfl rfl (rfl) tf_35 (c_need _ _) ?_ (fun hb _ m2 => Or.inr ⟨_, rfl, _, gT hb1 (gT (decide_eq_true hb12) (gF hb)), rfl, m17.trans m2⟩))
 intro hb20 H21 m22
 have h23 := m22 _ _ h13
 have h24 := m22 _ _ hic
 have o25 := Own.mono o15 m22
 have o26 := MO.mono o16 m22
 have m27 := m17.trans m22
 have hp28 := of_decide_eq_true hb20
 refine AOpsX.nil ?_
 change AWP _ _ _ _ _ _
 refine AWP.seq ?_
 refine AWP.regionX (l := [0, 1]) rfl ?_
 refine AOpsX.cons rfl rfl (AOp.move (.sl (numsL w).length ((numsL w).map eI)) rfl rfl ?_)
 refine AOpsX.consX rfl rfl (AOpX.need (b := inB (-16384) 16384 (numsL w)) (k := 11) (as_ := [.int .i64 (-16384), .int .i64 16384, .sl (numsL w).length ((numsL w).map eI)]) rfl rfl (rfl) tf_36 (c_within _ _ (numsL w) (by first | omega | assumption | (simp only [List.length_drop, List.length_take]; omega) | (simp; omega) | simp)) ?_ (fun hb _ m2 => Or.inr ⟨_, rfl, _, gT hb1 (gT (decide_eq_true hb12) (gT hb20 (gF hb))), rfl, m27.trans m2⟩))
 intro hb29 H30 m31
 have h32 := m31 _ _ h23
 have h33 := m31 _ _ h24
 have o34 := Own.mono o25 m31
 have o35 := MO.mono o26 m31
 have m36 := m27.trans m31
 refine AOpsX.nil ?_
 change AWP _ _ _ _ _ _
 refine AWP.region_str mixed (by kernel_rfl) [(0, none), (1, none), (2, none), (3, none), (4, none), (5, none), (6, none), (7, some [0, 1, 2, 3, 4]), (8, some [0])] [9, 10, 11] (by kernel_rfl) ?_
 refine STR.op rfl rfl (.inl ⟨rfl, fun H1 f' H' hf hN hM => AOp.move (.ptr ic vc (((s.cages.length : Int) - 1).toNat * 3)) rfl ((hf 5 rfl).trans rfl) ⟨rfl, hN⟩⟩) ?_
 refine STR.op rfl rfl (.inl ⟨rfl, fun H1 f' H' hf hN hM => AOp.move (.ptr ic vc (((s.cages.length : Int) - 1).toNat * 3)) rfl ((hf 5 rfl).trans rfl) ⟨rfl, hN⟩⟩) ?_
 refine STR.op rfl rfl (.inl ⟨rfl, fun H1 f' H' hf hN hM => AOp.nilCheck (.ptr ic vc (((s.cages.length : Int) - 1).toNat * 3)) rfl ((hf 20 rfl).trans rfl) rfl ⟨rfl, hN⟩⟩) ?_
 refine STR.op rfl rfl (.inl ⟨rfl, fun H1 f' H' hf hN hM => AOp.fieldAddr rfl ((hf 21 rfl).trans rfl) fl_46_0 ⟨rfl, hN⟩ (hid := ⟨_, (hM _ _ h33)⟩)⟩) ?_
 refine STR.op rfl rfl (.inl ⟨rfl, fun H1 f' H' hf hN hM => AOp.load (vV) rfl ((hf 22 rfl).trans rfl) ty_42 (hM _ _ h33) (ldC0 (drop_len _) rfl) ⟨rfl, hN⟩⟩) ?_
 refine STR.op rfl rfl (.inl ⟨rfl, fun H1 f' H' hf hN hM => AOp.move (.sl (numsL w).length ((numsL w).map eI)) rfl ((hf 4 rfl).trans rfl) ⟨rfl, hN⟩⟩) ?_
 refine STR.op rfl rfl (.inl ⟨rfl, fun H1 f' H' hf hN hM => AOp.pcall («as» := [.sl (numsL w).length ((numsL w).map eI)]) rfl rfl (lapp (lcons ((hf 24 rfl).trans rfl) rfl) rfl) tf_37 (c_point (numsL w) (by first | omega | (simp; omega))) fun H2 m2 => ⟨rfl, hN.trans m2⟩⟩) ?_
 refine STR.eff rfl rfl rfl fun f37 H38 hf39 m40 => ?_
 have h41 := m40 _ _ h32
 have h42 := m40 _ _ h33
 have o43 := Own.mono o34 m40
 have o44 := MO.mono o35 m40
 have m45 := m36.trans m40
 refine AOp.buildSlice (cells := [.int .i64 ((ptR (numsL w)).X), .int .i64 ((ptR (numsL w)).Y), .int .i64 ((ptR (numsL w)).Z)]) rfl u_42 ts_24 tz_24 rfl (lconsP ((hf39 25 rfl).trans rfl) rfl) rfl ?_
 intro i46 H47 n48 h49 k50
 have e51 := ne_new h41 n48
 have e52 := ne_new h42 n48
 have z53 := Mono.free m45 n48
 have h54 := keep k50 (ne_new h41 n48) h41
 have h55 := keep k50 (ne_new h42 n48) h42
 have o56 := Own.keep o43 k50 (Own.notnew o43 n48)
 have no57 := Own.notnew o43 n48
 have o58 := MO.keep o44 k50 (MO.notnew o44 n48)
 have no59 := MO.notnew o44 n48
 have m60 := Mono.new m45 n48 k50
 refine ⟨_, rfl, .inl (Mono.new (Mono.refl _) n48 k50), ?_⟩
 refine STR.eff rfl rfl rfl fun f61 H62 hf63 m64 => ?_
 have h65 := m64 _ _ h54
 have h66 := m64 _ _ h55
 have h67 := m64 _ _ h49
 have o68 := Own.mono o56 m64
 have o69 := MO.mono o58 m64
 have m70 := m60.trans m64
 refine AOp.append_own (es := 3) (m := 1) (len := ((lastC s.cages).Verts.length)) (old := ((lastC s.cages).Verts).flatMap eV) (cells := [.int .i64 ((ptR (numsL w)).X), .int .i64 ((ptR (numsL w)).Y), .int .i64 ((ptR (numsL w)).Z)]) rfl u_42 ts_24 tzn_24 tb_24 (by decide) ni_42 ((hf63 23 rfl).trans rfl) o68 m70 ((hf63 26 rfl).trans rfl) (.slm h67 rfl) (one_of rfl) (by decide) (by first | omega | (simp; omega)) ?_
 intro v71 H72 o73 m74 k75 j76
 have o77 := Own.snocM (xs := ((lastC s.cages).Verts : List VT)) (y := (ptR (numsL w))) (e := eV) (by simp) o73
 have h78 := (k75 _ nX (by rw [h65]; simp)).trans h65
 have no79 := j76 _ nX (by rw [h65]; simp)
 have h80 := (k75 _ no18 (by rw [h66]; simp)).trans h66
 have no81 := j76 _ no18 (by rw [h66]; simp)
 have sp83 := MO.sep o69 spX j76
 have o82 := MO.stay o69 spX k75
 refine ⟨_, rfl, .inr (RevR.skip rfl (RevR.skip rfl (RevR.skip rfl (RevR.skip rfl (RevR.skip rfl (RevR.skip rfl (RevR.skip rfl (RevR.cons rfl (.inl ⟨rfl, fun H1 f' H' hf hN hM => AOp.move (.ptr ic vc (((s.cages.length : Int) - 1).toNat * 3)) rfl ((hf 5 rfl).trans rfl) ⟨rfl, hN⟩⟩) RevR.nil)))))))), ?_⟩
 refine STR.done fun H84 m85 => ?_
 have h86 := m85 _ _ h78
 have h87 := m85 _ _ h80
 have o88 := MO.mono o82 m85
 have o89 := Own.mono o77 m85
 have m90 := m74.trans m85
 refine AOps.cons rfl rfl (AOp.nilCheck (.ptr ic vc (((s.cages.length : Int) - 1).toNat * 3)) rfl rfl rfl ?_)
 refine AOps.cons rfl rfl (AOp.fieldAddr rfl rfl fl_46_0 ?_ (hid := ⟨_, h87⟩))
 refine AOps.cons rfl rfl (AOp.storeO (cells' := s.cages.dropLast.flatMap eCage ++ [v71, vF, vK]) rfl rfl o89 ts_42 h87 (Nat.ble_eq_true_of_le (by rw [List.length_append, drop_len]; simp only [List.length_cons, List.length_nil]; omega)) (wrC0 (drop_len _) rfl) ?_)
 intro H91 h92 k93
 have h94 := keep k93 nid h86
 have o96 := MO.keep o88 k93 no19
 have o97 := Own.keep o89 k93 no81
 have m98 := Mono.set m90 hBic k93
 refine AOps.nil ?_
 refine Or.inl ?_
 refine ⟨_, _, Ghost.refl, .inl rfl, _, Res.zero rfl, _, gT hb1 (gT (decide_eq_true hb12) (gT hb20 (gT hb29 rfl))), ⟨_, _, _, _, _, _, _, _, RDv.upC (c := { lastC s.cages with Verts := (lastC s.cages).Verts ++ [ptR (numsL w)] }) hne h94 hB (MO.put (L := (rdL s vL vM vT vS vC vV vF vK).set 5 (3, v71, (((lastC s.cages).Verts) ++ [(ptR (numsL w))]).length, (((lastC s.cages).Verts) ++ [(ptR (numsL w))]).flatMap eV)) (e := (3, vC, s.cages.length, s.cages.dropLast.flatMap eCage ++ [v71, vF, vK])) 4 (by simp [rdL]) (MO.put (L := (rdL s vL vM vT vS vC vV vF vK).eraseIdx 4) (e := (3, v71, (((lastC s.cages).Verts) ++ [(ptR (numsL w))]).length, (((lastC s.cages).Verts) ++ [(ptR (numsL w))]).flatMap eV)) 4 (by simp [rdL]) o96 o97 sp83) (.inr ⟨ic, vc, hvC, h92, hBic, (by rw [List.length_append, drop_len]; simp only [List.length_cons, List.length_nil]; omega)⟩) (SepM.of (NotIdM.put (L := (rdL s vL vM vT vS vC vV vF vK).eraseIdx 4) (e := (3, v71, (((lastC s.cages).Verts) ++ [(ptR (numsL w))]).length, (((lastC s.cages).Verts) ++ [(ptR (numsL w))]).flatMap eV)) 4 no19 no81) hvC)) (NotIdM.put (L := (rdL s vL vM vT vS vC vV vF vK).set 5 (3, v71, (((lastC s.cages).Verts) ++ [(ptR (numsL w))]).length, (((lastC s.cages).Verts) ++ [(ptR (numsL w))]).flatMap eV)) (e := (3, vC, s.cages.length, s.cages.dropLast.flatMap eCage ++ [v71, vF, vK])) 4 (NotIdM.put (L := (rdL s vL vM vT vS vC vV vF vK).eraseIdx 4) (e := (3, v71, (((lastC s.cages).Verts) ++ [(ptR (numsL w))]).length, (((lastC s.cages).Verts) ++ [(ptR (numsL w))]).flatMap eV)) 4 ngX no79) nC)⟩, m98, rfl⟩
theorem c_readFace {B H0 : Heap} {id ver : Nat} {s : Rd} (hm : Mono B H0) (hs : RD B H0 id ver s) (ok : RdOk s) (w : List ByteArray) (hw : w.length ≤ 1048576) : ACallsX Tryd.prog 27 [.ptr id ver 0, .sl w.length (w.map eStr)] H0 (fun r H' => ∃ t, faceP s w = .ok t ∧ RD B H' id ver t ∧ Mono B H' ∧ r = .tup []) (fun ch H' => ∃ k, faceP s w = .error k ∧ ch = pan 36 k ∧ Mono B H') := by
 obtain ⟨vL, vM, vT, vS, vC, vV, vF, vK, hrow, hB, hg, hn⟩ := hs
 obtain ⟨oC', ogC, spC⟩ := hg.at 4 rfl
 have oC : Own B H0 3 vC s.cages.length (cgC s.cages vV vF vK) := oC'
 have nC : NotId vC id := hn.at 4 rfl
 have ngC := hn.erase 4
 obtain ⟨oX', ogX, spX⟩ := ogC.at 5 rfl
 have oX : Own B H0 1 vF (lastC s.cages).Faces.length (((lastC s.cages).Faces).map eF) := oX'
 have nX : NotId vF id := ngC.at 5 rfl
 have ngX := ngC.erase 5
 have spCX : Sep vF vC := spC.at 5 rfl
 have spC2 := spC.erase 5
 refine ACallsX.of_body' (n := 44) rfl rfl rfl rfl ?_
 have m0 := hm
 refine AWP.seq ?_
 refine AWP.regionX (l := [0, 1, 2]) rfl ?_
 refine AOpsX.cons rfl rfl (AOp.move (.sl w.length (w.map eStr)) rfl rfl ?_)
 refine AOpsX.consX rfl rfl (AOpX.need (b := numsB w) (k := 10) (as_ := [.sl w.length (w.map eStr)]) rfl rfl (rfl) tf_40 (c_numbers w (by first | omega | assumption | (simp only [List.length_drop, List.length_take]; omega) | (simp; omega) | simp)) ?_ (fun hb _ m2 => Or.inr ⟨_, rfl, _, gF hb, rfl, m0.trans m2⟩))
 intro hb1 H2 m3
 have h4 := m3 _ _ hrow
 have o5 := Own.mono oC m3
 have o6 := Own.mono oX m3
 have o7 := MO.mono ogX m3
 have m8 := m0.trans m3
 have hl9 := numsL_len w
 refine AOpsX.cons rfl rfl (AOp.assign (.sl (numsL w).length ((numsL w).map eI)) rfl rfl ?_)
 refine AOpsX.nil ?_
 change AWP _ _ _ _ _ _
 refine AWP.seq ?_
 refine AWP.regionX (l := [0, 1, 2, 3, 4, 5, 6, 7, 8]) rfl ?_
 refine AOpsX.cons rfl rfl (AOp.move (.sl (numsL w).length ((numsL w).map eI)) rfl rfl ?_)
 refine AOpsX.cons rfl rfl (AOp.len (m := (numsL w).length) rfl rfl (.inr (.inl ⟨_, rfl⟩)) u_47 ?_)
 refine AOpsX.cons rfl rfl (AOp.bin (.bool (decide ((((numsL w).length) : Int) ≥ 3))) rfl rfl rfl rfl ?_)
 refine AOpsX.cons rfl rfl (AOp.move (.bool (decide ((((numsL w).length) : Int) ≥ 3))) rfl rfl ?_)
 by_cases b10 : (((numsL w).length) : Int) ≥ 3
 ·
  refine AOpsX.yes rfl rfl rfl rfl rfl rfl rfl (decide_eq_true b10) (AOp.move (.sl (numsL w).length ((numsL w).map eI)) rfl rfl ?_)
  refine AOpsX.yes rfl rfl rfl rfl rfl rfl rfl (decide_eq_true b10) (AOp.len (m := (numsL w).length) rfl rfl (.inr (.inl ⟨_, rfl⟩)) u_47 ?_)
  refine AOpsX.yes rfl rfl rfl rfl rfl rfl rfl (decide_eq_true b10) (AOp.bin (.bool (decide ((((numsL w).length) : Int) ≤ 8))) rfl rfl rfl rfl ?_)
  refine AOpsX.cons rfl rfl (AOp.pickT (.bool (decide ((((numsL w).length) : Int) ≤ 8))) rfl rfl (decide_eq_true b10) rfl ?_)
  refine AOpsX.consX rfl rfl (AOpX.need (b := decide ((((numsL w).length) : Int) ≤ 8)) (k := 10) (as_ := [.bool (decide ((((numsL w).length) : Int) ≤ 8)), .int .i64 10]) rfl rfl (rfl) tf_35 (c_need _ _) ?_ (fun hb _ m2 => Or.inr ⟨_, rfl, _, gT hb1 (gF (show (decide ((w.length : Int) ≥ 3) && decide ((w.length : Int) ≤ 8)) = false from by have := of_decide_eq_false hb; simp only [Bool.and_eq_false_iff, decide_eq_false_iff_not]; omega)), rfl, m8.trans m2⟩))
  intro hb11 H12 m13
  have h14 := m13 _ _ h4
  have o15 := Own.mono o5 m13
  have o16 := Own.mono o6 m13
  have o17 := MO.mono o7 m13
  have m18 := m8.trans m13
  have hp19 := of_decide_eq_true hb11
  have hg20 : (decide ((w.length : Int) ≥ 3) && decide ((w.length : Int) ≤ 8)) = true := by simp only [Bool.and_eq_true, decide_eq_true_eq]; omega
  refine AOpsX.nil ?_
  change AWP _ _ _ _ _ _
  refine AWP.seq ?_
  refine AWP.regionX (l := [0, 1, 2]) rfl ?_
  refine AOpsX.cons rfl rfl (AOp.move (.ptr id ver 0) rfl rfl ?_)
  refine AOpsX.consX rfl rfl (AOpX.callE (as_ := [.ptr id ver 0] ) (fun _ e => by cases e; rfl) rfl (rfl) tf_45 (c_cage_ (B := B) m18 h14 o15 (by have := ok.c; have := ok.k; omega)) ?_ (fun _ _ ⟨_, e, hc, m⟩ => Or.inr ⟨_, rfl, _, gT hb1 (gT hg20 (gE e)), hc, m⟩))
  rintro _ H21 ⟨hb23, ⟨ic, vc, hvC, rfl⟩, m22⟩
  have hne : s.cages ≠ [] := List.length_pos_iff.1 (by omega)
  have h24 := m22 _ _ h14
  have o25 := Own.mono o15 m22
  have o26 := Own.mono o16 m22
  have o27 := MO.mono o17 m22
  have m28 := m18.trans m22
  have hcl := lastC_ok ok hne
  have oC2 := o25; rw [cgC_ne hne] at oC2
  obtain ⟨hic, hBic, hlic⟩ := Own.rowOf oC2 hvC
  have nid : id ≠ ic := nC _ _ _ _ _ hvC
  have no29 : NotId vF ic := ((Sep.symm spCX)).notId hvC
  have no30 := SepM.nid spC2 hvC
  refine AOpsX.cons rfl rfl (AOp.assign (.ptr ic vc (((s.cages.length : Int) - 1).toNat * 3)) rfl rfl ?_)
  refine AOpsX.nil ?_
  change AWP _ _ _ _ _ _
  refine AWP.seq ?_
  refine AWP.regionX (l := [0, 1, 2, 3, 4, 5, 6]) rfl ?_
  refine AOpsX.cons rfl rfl (AOp.move (.ptr ic vc (((s.cages.length : Int) - 1).toNat * 3)) rfl rfl ?_)
  refine AOpsX.cons rfl rfl (AOp.nilCheck (.ptr ic vc (((s.cages.length : Int) - 1).toNat * 3)) rfl rfl rfl ?_)
  refine AOpsX.cons rfl rfl (AOp.fieldAddr rfl rfl fl_46_1 ?_ (hid := ⟨_, hic⟩))
  refine AOpsX.cons rfl rfl (AOp.load (vF) rfl rfl ty_43 hic (ldC (k := 1) (drop_len _) rfl) ?_)
  refine AOpsX.cons rfl rfl (AOp.len_own (m := ((lastC s.cages).Faces.length)) rfl rfl o26 u_43 ?_)
  refine AOpsX.cons rfl rfl (AOp.bin (.bool (decide ((((lastC s.cages).Faces.length) : Int) < 64))) rfl rfl rfl rfl ?_)
  refine AOpsX.consX rfl rfl (AOpX.need (b := decide ((((lastC s.cages).Faces.length) : Int) < 64)) (k := 13) (as_ := [.bool (decide ((((lastC s.cages).Faces.length) : Int) < 64)), .int .i64 13]) rfl rfl (rfl) tf_35 (c_need _ _) ?_ (fun hb _ m2 => Or.inr ⟨_, rfl, _, gT hb1 (gT hg20 (gT (decide_eq_true hb23) (gF hb))), rfl, m28.trans m2⟩))
  intro hb31 H32 m33
  have h34 := m33 _ _ h24
  have h35 := m33 _ _ hic
  have o36 := Own.mono o26 m33
  have o37 := MO.mono o27 m33
  have m38 := m28.trans m33
  have hp39 := of_decide_eq_true hb31
  refine AOpsX.nil ?_
  change AWP _ _ _ _ _ _
  refine AWP.seq ?_
  refine AWP.regionX (l := [0, 1, 2, 3, 4, 5, 6, 7]) rfl ?_
  refine AOpsX.cons rfl rfl (AOp.move (.ptr ic vc (((s.cages.length : Int) - 1).toNat * 3)) rfl rfl ?_)
  refine AOpsX.cons rfl rfl (AOp.nilCheck (.ptr ic vc (((s.cages.length : Int) - 1).toNat * 3)) rfl rfl rfl ?_)
  refine AOpsX.cons rfl rfl (AOp.fieldAddr rfl rfl fl_46_0 ?_ (hid := ⟨_, h35⟩))
  refine AOpsX.cons rfl rfl (AOp.load (vV) rfl rfl ty_42 h35 (ldC0 (drop_len _) rfl) ?_)
  refine AOpsX.cons rfl rfl (AOp.len_own (m := ((lastC s.cages).Verts.length)) rfl rfl (o37.at 4 rfl).1 u_42 ?_)
  refine AOpsX.cons rfl rfl (AOp.bin (.int .i64 ((((lastC s.cages).Verts.length) : Int) - 1)) rfl rfl rfl (isub (by omega)) ?_)
  refine AOpsX.cons rfl rfl (AOp.move (.sl (numsL w).length ((numsL w).map eI)) rfl rfl ?_)
  refine AOpsX.consX rfl rfl (AOpX.need (b := inB 0 ((((lastC s.cages).Verts.length) : Int) - 1) (numsL w)) (k := 11) (as_ := [.int .i64 0, .int .i64 ((((lastC s.cages).Verts.length) : Int) - 1), .sl (numsL w).length ((numsL w).map eI)]) rfl rfl (rfl) tf_36 (c_within _ _ (numsL w) (by first | omega | assumption | (simp only [List.length_drop, List.length_take]; omega) | (simp; omega) | simp)) ?_ (fun hb _ m2 => Or.inr ⟨_, rfl, _, gT hb1 (gT hg20 (gT (decide_eq_true hb23) (gT hb31 (gF hb)))), rfl, m38.trans m2⟩))
  intro hb40 H41 m42
  have h43 := m42 _ _ h34
  have h44 := m42 _ _ h35
  have o45 := Own.mono o36 m42
  have o46 := MO.mono o37 m42
  have m47 := m38.trans m42
  refine AOpsX.nil ?_
  change AWP _ _ _ _ _ _
  refine AWP.region (l := [0, 1, 2, 3, 4, 5, 6, 7, 8, 9, 10]) rfl ?_
  refine AOps.cons rfl rfl (AOp.move (.ptr ic vc (((s.cages.length : Int) - 1).toNat * 3)) rfl rfl ?_)
  refine AOps.cons rfl rfl (AOp.move (.ptr ic vc (((s.cages.length : Int) - 1).toNat * 3)) rfl rfl ?_)
  refine AOps.cons rfl rfl (AOp.nilCheck (.ptr ic vc (((s.cages.length : Int) - 1).toNat * 3)) rfl rfl rfl ?_)
  refine AOps.cons rfl rfl (AOp.fieldAddr rfl rfl fl_46_1 ?_ (hid := ⟨_, h44⟩))
  refine AOps.cons rfl rfl (AOp.load (vF) rfl rfl ty_43 h44 (ldC (k := 1) (drop_len _) rfl) ?_)
  refine AOps.cons rfl rfl (AOp.move (.sl (numsL w).length ((numsL w).map eI)) rfl rfl ?_)
  refine AOps.cons rfl rfl (AOp.buildSlice (cells := [.sl (numsL w).length ((numsL w).map eI)]) rfl u_43 ts_47 tz_47 rfl rfl rfl ?_)
  intro i48 H49 n50 h51 k52
  have e53 := ne_new h43 n50
  have e54 := ne_new h44 n50
  have z55 := Mono.free m47 n50
  have h56 := keep k52 (ne_new h43 n50) h43
  have h57 := keep k52 (ne_new h44 n50) h44
  have o58 := Own.keep o45 k52 (Own.notnew o45 n50)
  have no59 := Own.notnew o45 n50
  have o60 := MO.keep o46 k52 (MO.notnew o46 n50)
  have no61 := MO.notnew o46 n50
  have m62 := Mono.new m47 n50 k52
  refine AOps.cons rfl rfl (AOp.append_own (es := 1) (m := 1) (len := ((lastC s.cages).Faces.length)) (old := ((lastC s.cages).Faces).map eF) (cells := [.sl (numsL w).length ((numsL w).map eI)]) rfl u_43 ts_47 tzn_47 tb_47 (by decide) ni_43 rfl o58 m62 rfl (.slm h51 rfl) (one_of rfl) (by decide) (by first | omega | (simp; omega)) ?_)
  intro v63 H64 o65 m66 k67 j68
  have o69 := Own.snoc1 (xs := ((lastC s.cages).Faces : List (List Int))) (y := numsL w) (e := eF) (by simp) o65
  have h70 := (k67 _ nX (by rw [h56]; simp)).trans h56
  have no71 := j68 _ nX (by rw [h56]; simp)
  have h72 := (k67 _ no29 (by rw [h57]; simp)).trans h57
  have no73 := j68 _ no29 (by rw [h57]; simp)
  have sp75 := MO.sep o60 spX j68
  have o74 := MO.stay o60 spX k67
  refine AOps.cons rfl rfl (AOp.nilCheck (.ptr ic vc (((s.cages.length : Int) - 1).toNat * 3)) rfl rfl rfl ?_)
  refine AOps.cons rfl rfl (AOp.fieldAddr rfl rfl fl_46_1 ?_ (hid := ⟨_, h72⟩))
  refine AOps.cons rfl rfl (AOp.storeO (cells' := s.cages.dropLast.flatMap eCage ++ [vV, v63, vK]) rfl rfl o69 ts_43 h72 (Nat.ble_eq_true_of_le (by rw [List.length_append, drop_len]; simp only [List.length_cons, List.length_nil]; omega)) (wrC (k := 1) (drop_len _) rfl) ?_)
  intro H76 h77 k78
  have h79 := keep k78 nid h70
  have o81 := MO.keep o74 k78 no30
  have o82 := Own.keep o69 k78 no73
  have m83 := Mono.set m66 hBic k78
  refine AOps.nil ?_
  refine Or.inl ?_
  refine ⟨_, _, Ghost.refl, .inl rfl, _, Res.zero rfl, _, gT hb1 (gT hg20 (gT (decide_eq_true hb23) (gT hb31 (gT hb40 rfl)))), ⟨_, _, _, _, _, _, _, _, RDv.upC (c := { lastC s.cages with Faces := (lastC s.cages).Faces ++ [numsL w] }) hne h79 hB (MO.put (L := (rdL s vL vM vT vS vC vV vF vK).set 6 (1, v63, (((lastC s.cages).Faces) ++ [numsL w]).length, (((lastC s.cages).Faces) ++ [numsL w]).map eF)) (e := (3, vC, s.cages.length, s.cages.dropLast.flatMap eCage ++ [vV, v63, vK])) 4 (by simp [rdL]) (MO.put (L := (rdL s vL vM vT vS vC vV vF vK).eraseIdx 4) (e := (1, v63, (((lastC s.cages).Faces) ++ [numsL w]).length, (((lastC s.cages).Faces) ++ [numsL w]).map eF)) 5 (by simp [rdL]) o81 o82 sp75) (.inr ⟨ic, vc, hvC, h77, hBic, (by rw [List.length_append, drop_len]; simp only [List.length_cons, List.length_nil]; omega)⟩) (SepM.of (NotIdM.put (L := (rdL s vL vM vT vS vC vV vF vK).eraseIdx 4) (e := (1, v63, (((lastC s.cages).Faces) ++ [numsL w]).length, (((lastC s.cages).Faces) ++ [numsL w]).map eF)) 5 no30 no73) hvC)) (NotIdM.put (L := (rdL s vL vM vT vS vC vV vF vK).set 6 (1, v63, (((lastC s.cages).Faces) ++ [numsL w]).length, (((lastC s.cages).Faces) ++ [numsL w]).map eF)) (e := (3, vC, s.cages.length, s.cages.dropLast.flatMap eCage ++ [vV, v63, vK])) 4 (NotIdM.put (L := (rdL s vL vM vT vS vC vV vF vK).eraseIdx 4) (e := (1, v63, (((lastC s.cages).Faces) ++ [numsL w]).length, (((lastC s.cages).Faces) ++ [numsL w]).map eF)) 5 ngX no71) nC)⟩, m83, rfl⟩
 ·
  refine AOpsX.no rfl rfl rfl rfl rfl rfl rfl (ble_of (decide_eq_false b10) (by decide)) ?_
  refine AOpsX.no rfl rfl rfl rfl rfl rfl rfl (ble_of (decide_eq_false b10) (by decide)) ?_
  refine AOpsX.no rfl rfl rfl rfl rfl rfl rfl (ble_of (decide_eq_false b10) (by decide)) ?_
  refine AOpsX.cons rfl rfl (AOp.pickF (.bool false) rfl rfl (decide_eq_false b10) rfl ?_)
  refine AOpsX.consX rfl rfl (AOpX.need (b := false) (k := 10) (as_ := [.bool false, .int .i64 10]) rfl rfl (rfl) tf_35 (c_need _ _) (fun h => Bool.noConfusion h) (fun _ _ m2 => Or.inr ⟨_, rfl, _, gT hb1 (gF (show (decide ((w.length : Int) ≥ 3) && decide ((w.length : Int) ≤ 8)) = false from by simp only [Bool.and_eq_false_iff, decide_eq_false_iff_not]; omega)), rfl, m8.trans m2⟩))
theorem c_readCrease {B H0 : Heap} {id ver : Nat} {s : Rd} (hm : Mono B H0) (hs : RD B H0 id ver s) (ok : RdOk s) (w : List ByteArray) (hw : w.length ≤ 1048576) : ACallsX Tryd.prog 28 [.ptr id ver 0, .sl w.length (w.map eStr)] H0 (fun r H' => ∃ t, creaseP s w = .ok t ∧ RD B H' id ver t ∧ Mono B H' ∧ r = .tup []) (fun ch H' => ∃ k, creaseP s w = .error k ∧ ch = pan 36 k ∧ Mono B H') := by
 obtain ⟨vL, vM, vT, vS, vC, vV, vF, vK, hrow, hB, hg, hn⟩ := hs
 obtain ⟨oC', ogC, spC⟩ := hg.at 4 rfl
 have oC : Own B H0 3 vC s.cages.length (cgC s.cages vV vF vK) := oC'
 have nC : NotId vC id := hn.at 4 rfl
 have ngC := hn.erase 4
 obtain ⟨oX', ogX, spX⟩ := ogC.at 6 rfl
 have oX : Own B H0 3 vK (lastC s.cages).Creases.length (((lastC s.cages).Creases).flatMap eCr) := oX'
 have nX : NotId vK id := ngC.at 6 rfl
 have ngX := ngC.erase 6
 have spCX : Sep vK vC := spC.at 6 rfl
 have spC2 := spC.erase 6
 refine ACallsX.of_body' (n := 58) rfl rfl rfl rfl ?_
 have m0 := hm
 refine AWP.seq ?_
 refine AWP.regionX (l := [0, 1, 2]) rfl ?_
 refine AOpsX.cons rfl rfl (AOp.move (.sl w.length (w.map eStr)) rfl rfl ?_)
 refine AOpsX.consX rfl rfl (AOpX.need (b := cntB w 3) (k := 10) (as_ := [.sl w.length (w.map eStr), .int .i64 3]) rfl rfl (rfl) tf_34 (c_counted w (by first | omega | assumption | (simp only [List.length_drop, List.length_take]; omega) | (simp; omega) | simp) _) ?_ (fun hb _ m2 => Or.inr ⟨_, rfl, _, gF hb, rfl, m0.trans m2⟩))
 intro hb1 H2 m3
 have h4 := m3 _ _ hrow
 have o5 := Own.mono oC m3
 have o6 := Own.mono oX m3
 have o7 := MO.mono ogX m3
 have m8 := m0.trans m3
 have hl9 := cnt_len hb1
 refine AOpsX.cons rfl rfl (AOp.assign (.sl (numsL w).length ((numsL w).map eI)) rfl rfl ?_)
 refine AOpsX.nil ?_
 change AWP _ _ _ _ _ _
 refine AWP.seq ?_
 refine AWP.regionX (l := [0, 1, 2]) rfl ?_
 refine AOpsX.cons rfl rfl (AOp.move (.ptr id ver 0) rfl rfl ?_)
 refine AOpsX.consX rfl rfl (AOpX.callE (as_ := [.ptr id ver 0] ) (fun _ e => by cases e; rfl) rfl (rfl) tf_45 (c_cage_ (B := B) m8 h4 o5 (by have := ok.c; have := ok.k; omega)) ?_ (fun _ _ ⟨_, e, hc, m⟩ => Or.inr ⟨_, rfl, _, gT hb1 (gE e), hc, m⟩))
 rintro _ H10 ⟨hb12, ⟨ic, vc, hvC, rfl⟩, m11⟩
 have hne : s.cages ≠ [] := List.length_pos_iff.1 (by omega)
 have h13 := m11 _ _ h4
 have o14 := Own.mono o5 m11
 have o15 := Own.mono o6 m11
 have o16 := MO.mono o7 m11
 have m17 := m8.trans m11
 have hcl := lastC_ok ok hne
 have oC2 := o14; rw [cgC_ne hne] at oC2
 obtain ⟨hic, hBic, hlic⟩ := Own.rowOf oC2 hvC
 have nid : id ≠ ic := nC _ _ _ _ _ hvC
 have no18 : NotId vK ic := ((Sep.symm spCX)).notId hvC
 have no19 := SepM.nid spC2 hvC
 refine AOpsX.cons rfl rfl (AOp.assign (.ptr ic vc (((s.cages.length : Int) - 1).toNat * 3)) rfl rfl ?_)
 refine AOpsX.nil ?_
 change AWP _ _ _ _ _ _
 refine AWP.seq ?_
 refine AWP.regionX (l := [0, 1, 2, 3, 4, 5, 6]) rfl ?_
 refine AOpsX.cons rfl rfl (AOp.move (.ptr ic vc (((s.cages.length : Int) - 1).toNat * 3)) rfl rfl ?_)
 refine AOpsX.cons rfl rfl (AOp.nilCheck (.ptr ic vc (((s.cages.length : Int) - 1).toNat * 3)) rfl rfl rfl ?_)
 refine AOpsX.cons rfl rfl (AOp.fieldAddr rfl rfl fl_46_2 ?_ (hid := ⟨_, hic⟩))
 refine AOpsX.cons rfl rfl (AOp.load (vK) rfl rfl ty_44 hic (ldC (k := 2) (drop_len _) rfl) ?_)
 refine AOpsX.cons rfl rfl (AOp.len_own (m := ((lastC s.cages).Creases.length)) rfl rfl o15 u_44 ?_)
 refine AOpsX.cons rfl rfl (AOp.bin (.bool (decide ((((lastC s.cages).Creases.length) : Int) < 128))) rfl rfl rfl rfl ?_)
 refine AOpsX.consX rfl rfl (AOpX.need (b := decide ((((lastC s.cages).Creases.length) : Int) < 128)) (k := 13) (as_ := [.bool (decide ((((lastC s.cages).Creases.length) : Int) < 128)), .int .i64 13]) rfl rfl (rfl) tf_35 (c_need _ _) ?_ (fun hb _ m2 => Or.inr ⟨_, rfl, _, gT hb1 (gT (decide_eq_true hb12) (gF hb)), rfl, m17.trans m2⟩))
 intro hb20 H21 m22
 have h23 := m22 _ _ h13
 have h24 := m22 _ _ hic
 have o25 := Own.mono o15 m22
 have o26 := MO.mono o16 m22
 have m27 := m17.trans m22
 have hp28 := of_decide_eq_true hb20
 refine AOpsX.nil ?_
 change AWP _ _ _ _ _ _
 refine AWP.seq ?_
 refine AWP.region_quietX mixed (by kernel_rfl) 8 [8] rfl (by kernel_rfl) (Mono H21) (Mono.refl _) ?_
 refine QE.op rfl rfl (.inl ⟨rfl, fun f' H' hf hM => AOp.move (.ptr ic vc (((s.cages.length : Int) - 1).toNat * 3)) rfl ((hf 5 rfl).trans rfl) ⟨rfl, hM⟩⟩) ?_
 refine QE.op rfl rfl (.inl ⟨rfl, fun f' H' hf hM => AOp.nilCheck (.ptr ic vc (((s.cages.length : Int) - 1).toNat * 3)) rfl ((hf 17 rfl).trans rfl) rfl ⟨rfl, hM⟩⟩) ?_
 refine QE.op rfl rfl (.inl ⟨rfl, fun f' H' hf hM => AOp.fieldAddr rfl ((hf 18 rfl).trans rfl) fl_46_0 ⟨rfl, hM⟩ (hid := ⟨_, (hM _ _ h24)⟩)⟩) ?_
 refine QE.op rfl rfl (.inl ⟨rfl, fun f' H' hf hM => AOp.load (vV) rfl ((hf 19 rfl).trans rfl) ty_42 (hM _ _ h24) (ldC0 (drop_len _) rfl) ⟨rfl, hM⟩⟩) ?_
 refine QE.op rfl rfl (.inl ⟨rfl, fun f' H' hf hM => AOp.len_own (m := ((lastC s.cages).Verts.length)) rfl ((hf 20 rfl).trans rfl) (o26.at 4 rfl).1 u_42 ⟨rfl, hM⟩⟩) ?_
 refine QE.op rfl rfl (.inl ⟨rfl, fun f' H' hf hM => AOp.bin (.int .i64 ((((lastC s.cages).Verts.length) : Int) - 1)) rfl ((hf 21 rfl).trans rfl) rfl (isub (by omega)) ⟨rfl, hM⟩⟩) ?_
 refine QE.op rfl rfl (.inl ⟨rfl, fun f' H' hf hM => AOp.move (.sl (numsL w).length ((numsL w).map eI)) rfl ((hf 4 rfl).trans rfl) ⟨rfl, hM⟩⟩) ?_
 refine QE.op rfl rfl (.inl ⟨rfl, fun f' H' hf hM => AOp.sliceST1 (xs := numsL w) (l := 0) (h := 2) rfl ((hf 23 rfl).trans rfl)  sl_47 rfl (hi_of rfl) (by first | omega | (simp; omega)) (by first | omega | (simp; omega)) (by first | omega | (simp; omega)) ⟨rfl, hM⟩⟩) ?_
 refine QE.done fun H29 m30 => ?_
 have h31 := m30 _ _ h23
 have h32 := m30 _ _ h24
 have o33 := Own.mono o25 m30
 have o34 := MO.mono o26 m30
 have m35 := m27.trans m30
 refine AOpsX.consX rfl rfl (AOpX.need (b := inB 0 ((((lastC s.cages).Verts.length) : Int) - 1) ((numsL w).take 2)) (k := 11) (as_ := [.int .i64 0, .int .i64 ((((lastC s.cages).Verts.length) : Int) - 1), .sl ((numsL w).take 2).length (((numsL w).take 2).map eI)]) rfl rfl (rfl) tf_36 (c_within _ _ ((numsL w).take 2) (by first | omega | assumption | (simp only [List.length_drop, List.length_take]; omega) | (simp; omega) | simp)) ?_ (fun hb _ m2 => Or.inr ⟨_, rfl, _, gT hb1 (gT (decide_eq_true hb12) (gT hb20 (gF hb))), rfl, m35.trans m2⟩))
 intro hb36 H37 m38
 have h39 := m38 _ _ h31
 have h40 := m38 _ _ h32
 have o41 := Own.mono o33 m38
 have o42 := MO.mono o34 m38
 have m43 := m35.trans m38
 refine AOpsX.nil ?_
 change AWP _ _ _ _ _ _
 refine AWP.seq ?_
 refine AWP.region_quietX mixed (by kernel_rfl) 7 [7] rfl (by kernel_rfl) (Mono H37) (Mono.refl _) ?_
 refine QE.op rfl rfl (.inl ⟨rfl, fun f' H' hf hM => AOp.move (.sl (numsL w).length ((numsL w).map eI)) rfl ((hf 4 rfl).trans rfl) ⟨rfl, hM⟩⟩) ?_
 refine QE.op rfl rfl (.inl ⟨rfl, fun f' H' hf hM => AOp.indexAddrS rfl ((hf 26 rfl).trans rfl) rfl sl_47 (by omega) (by omega) ⟨rfl, hM⟩⟩) ?_
 refine QE.op rfl rfl (.inl ⟨rfl, fun f' H' hf hM => AOp.loadF (.int .i64 (at_ (numsL w) 0)) rfl ((hf 27 rfl).trans rfl) ty_3 (ld1 (by omega) (by omega)) ⟨rfl, hM⟩⟩) ?_
 refine QE.op rfl rfl (.inl ⟨rfl, fun f' H' hf hM => AOp.move (.sl (numsL w).length ((numsL w).map eI)) rfl ((hf 4 rfl).trans rfl) ⟨rfl, hM⟩⟩) ?_
 refine QE.op rfl rfl (.inl ⟨rfl, fun f' H' hf hM => AOp.indexAddrS rfl ((hf 29 rfl).trans rfl) rfl sl_47 (by omega) (by omega) ⟨rfl, hM⟩⟩) ?_
 refine QE.op rfl rfl (.inl ⟨rfl, fun f' H' hf hM => AOp.loadF (.int .i64 (at_ (numsL w) 1)) rfl ((hf 30 rfl).trans rfl) ty_3 (ld1 (by omega) (by omega)) ⟨rfl, hM⟩⟩) ?_
 refine QE.op rfl rfl (.inl ⟨rfl, fun f' H' hf hM => AOp.bin (.bool (!decide (at_ (numsL w) 0 = at_ (numsL w) 1))) rfl ((hf 28 rfl).trans rfl) ((hf 31 rfl).trans rfl) ine ⟨rfl, hM⟩⟩) ?_
 refine QE.done fun H44 m45 => ?_
 have h46 := m45 _ _ h39
 have h47 := m45 _ _ h40
 have o48 := Own.mono o41 m45
 have o49 := MO.mono o42 m45
 have m50 := m43.trans m45
 refine AOpsX.consX rfl rfl (AOpX.need (b := !decide (at_ (numsL w) 0 = at_ (numsL w) 1)) (k := 11) (as_ := [.bool (!decide (at_ (numsL w) 0 = at_ (numsL w) 1)), .int .i64 11]) rfl rfl (rfl) tf_35 (c_need _ _) ?_ (fun hb _ m2 => Or.inr ⟨_, rfl, _, gT hb1 (gT (decide_eq_true hb12) (gT hb20 (gT hb36 (gF hb)))), rfl, m50.trans m2⟩))
 intro hb51 H52 m53
 have h54 := m53 _ _ h46
 have h55 := m53 _ _ h47
 have o56 := Own.mono o48 m53
 have o57 := MO.mono o49 m53
 have m58 := m50.trans m53
 have hp59 := of_decide_eq_false (nbi_T hb51)
 refine AOpsX.nil ?_
 change AWP _ _ _ _ _ _
 refine AWP.seq ?_
 refine AWP.regionX (l := [0, 1, 2, 3, 4]) rfl ?_
 refine AOpsX.cons rfl rfl (AOp.move (.sl (numsL w).length ((numsL w).map eI)) rfl rfl ?_)
 refine AOpsX.cons rfl rfl (AOp.indexAddrS rfl rfl rfl sl_47 (by omega) (by omega) ?_)
 refine AOpsX.cons rfl rfl (AOp.loadF (.int .i64 (at_ (numsL w) 2)) rfl rfl ty_3 (ld1 (by omega) (by omega)) ?_)
 refine AOpsX.cons rfl rfl (AOp.buildSlice (cells := [.int .i64 (at_ (numsL w) 2)]) rfl u_47 ts_3 tz_3 rfl rfl rfl ?_)
 intro i60 H61 n62 h63 k64
 have e65 := ne_new h54 n62
 have e66 := ne_new h55 n62
 have z67 := Mono.free m58 n62
 have h68 := keep k64 (ne_new h54 n62) h54
 have h69 := keep k64 (ne_new h55 n62) h55
 have o70 := Own.keep o56 k64 (Own.notnew o56 n62)
 have no71 := Own.notnew o56 n62
 have o72 := MO.keep o57 k64 (MO.notnew o57 n62)
 have no73 := MO.notnew o57 n62
 have m74 := Mono.new m58 n62 k64
 obtain ⟨v75, e76⟩ : ∃ v : AV, v = .slm i60 0 1 0 1 := ⟨_, rfl⟩
 have o77 : Own B H61 1 v75 1 [.int .i64 (at_ (numsL w) 2)] := .inr ⟨_, _, e76, h63, z67, rfl⟩
 have no78 : NotId v75 id := by rw [e76]; exact NotId.slm e65
 have no79 : NotId v75 ic := by rw [e76]; exact NotId.slm e66
 have sp80 : Sep v75 vK := by rw [e76]; exact Sep.ofNotId no71
 have sp81 : SepM (((rdL s vL vM vT vS vC vV vF vK).eraseIdx 4).eraseIdx 6) v75 := by rw [e76]; exact SepM.ofNotId no73
 refine AOpsX.consX rfl rfl ?_
 refine AOpX.frz 37 (o77) e76.symm m74 fun H82 m83 k84 => ?_
 have h85 := (k84 _ no78).trans h68
 have h86 := (k84 _ no79).trans h69
 have o87 := Own.stay o70 (Sep.symm sp80) (fun i hi _ => k84 i hi)
 have o88 := MO.stay o72 sp81 (fun i hi _ => k84 i hi)
 refine AOpX.need (b := inB 1 255 ([at_ (numsL w) 2] : List Int)) (k := 11) (as_ := [.int .i64 1, .int .i64 255, .sl ([at_ (numsL w) 2] : List Int).length (([at_ (numsL w) 2] : List Int).map eI)]) rfl rfl (rfl) tf_36 (c_within _ _ ([at_ (numsL w) 2] : List Int) (by first | omega | assumption | (simp only [List.length_drop, List.length_take]; omega) | (simp; omega) | simp)) ?_ (fun hb _ m2 => Or.inr ⟨_, rfl, _, gT hb1 (gT (decide_eq_true hb12) (gT hb20 (gT hb36 (gT hb51 (gF hb))))), rfl, m83.trans m2⟩)
 intro hb89 H90 m91
 have h92 := m91 _ _ h85
 have h93 := m91 _ _ h86
 have o94 := Own.mono o87 m91
 have o95 := MO.mono o88 m91
 have m96 := m83.trans m91
 refine AOpsX.nil ?_
 change AWP _ _ _ _ _ _
 refine AWP.region_str mixed (by kernel_rfl) [(0, none), (1, none), (2, none), (3, none), (4, none), (5, none), (6, none), (7, none), (8, none), (9, none), (10, none), (11, none), (12, none), (13, none), (14, none), (15, some [0, 1, 2, 3, 4]), (16, some [0])] [17, 18, 19] (by kernel_rfl) ?_
 refine STR.op rfl rfl (.inl ⟨rfl, fun H1 f' H' hf hN hM => AOp.move (.ptr ic vc (((s.cages.length : Int) - 1).toNat * 3)) rfl ((hf 5 rfl).trans rfl) ⟨rfl, hN⟩⟩) ?_
 refine STR.op rfl rfl (.inl ⟨rfl, fun H1 f' H' hf hN hM => AOp.move (.ptr ic vc (((s.cages.length : Int) - 1).toNat * 3)) rfl ((hf 5 rfl).trans rfl) ⟨rfl, hN⟩⟩) ?_
 refine STR.op rfl rfl (.inl ⟨rfl, fun H1 f' H' hf hN hM => AOp.nilCheck (.ptr ic vc (((s.cages.length : Int) - 1).toNat * 3)) rfl ((hf 40 rfl).trans rfl) rfl ⟨rfl, hN⟩⟩) ?_
 refine STR.op rfl rfl (.inl ⟨rfl, fun H1 f' H' hf hN hM => AOp.fieldAddr rfl ((hf 41 rfl).trans rfl) fl_46_2 ⟨rfl, hN⟩ (hid := ⟨_, (hM _ _ h93)⟩)⟩) ?_
 refine STR.op rfl rfl (.inl ⟨rfl, fun H1 f' H' hf hN hM => AOp.load (vK) rfl ((hf 42 rfl).trans rfl) ty_44 (hM _ _ h93) (ldC (k := 2) (drop_len _) rfl) ⟨rfl, hN⟩⟩) ?_
 refine STR.op rfl rfl (.inl ⟨rfl, fun H1 f' H' hf hN hM => AOp.move (.sl (numsL w).length ((numsL w).map eI)) rfl ((hf 4 rfl).trans rfl) ⟨rfl, hN⟩⟩) ?_
 refine STR.op rfl rfl (.inl ⟨rfl, fun H1 f' H' hf hN hM => AOp.indexAddrS rfl ((hf 44 rfl).trans rfl) rfl sl_47 (by omega) (by omega) ⟨rfl, hN⟩⟩) ?_
 refine STR.op rfl rfl (.inl ⟨rfl, fun H1 f' H' hf hN hM => AOp.loadF (.int .i64 (at_ (numsL w) 0)) rfl ((hf 45 rfl).trans rfl) ty_3 (ld1 (by omega) (by omega)) ⟨rfl, hN⟩⟩) ?_
 refine STR.op rfl rfl (.inl ⟨rfl, fun H1 f' H' hf hN hM => AOp.move (.sl (numsL w).length ((numsL w).map eI)) rfl ((hf 4 rfl).trans rfl) ⟨rfl, hN⟩⟩) ?_
 refine STR.op rfl rfl (.inl ⟨rfl, fun H1 f' H' hf hN hM => AOp.indexAddrS rfl ((hf 47 rfl).trans rfl) rfl sl_47 (by omega) (by omega) ⟨rfl, hN⟩⟩) ?_
 refine STR.op rfl rfl (.inl ⟨rfl, fun H1 f' H' hf hN hM => AOp.loadF (.int .i64 (at_ (numsL w) 1)) rfl ((hf 48 rfl).trans rfl) ty_3 (ld1 (by omega) (by omega)) ⟨rfl, hN⟩⟩) ?_
 refine STR.op rfl rfl (.inl ⟨rfl, fun H1 f' H' hf hN hM => AOp.move (.sl (numsL w).length ((numsL w).map eI)) rfl ((hf 4 rfl).trans rfl) ⟨rfl, hN⟩⟩) ?_
 refine STR.op rfl rfl (.inl ⟨rfl, fun H1 f' H' hf hN hM => AOp.indexAddrS rfl ((hf 50 rfl).trans rfl) rfl sl_47 (by omega) (by omega) ⟨rfl, hN⟩⟩) ?_
 refine STR.op rfl rfl (.inl ⟨rfl, fun H1 f' H' hf hN hM => AOp.loadF (.int .i64 (at_ (numsL w) 2)) rfl ((hf 51 rfl).trans rfl) ty_3 (ld1 (by omega) (by omega)) ⟨rfl, hN⟩⟩) ?_
 refine STR.op rfl rfl (.inl ⟨rfl, fun H1 f' H' hf hN hM => AOp.build (cells := [.int .i64 (at_ (numsL w) 0), .int .i64 (at_ (numsL w) 1), .int .i64 (at_ (numsL w) 2)]) rfl tz_81 pl_81 (lconsP ((hf 46 rfl).trans rfl) (lconsP ((hf 49 rfl).trans rfl) (lconsP ((hf 52 rfl).trans rfl) rfl))) rfl ⟨rfl, hN⟩⟩) ?_
 refine STR.eff rfl rfl rfl fun f97 H98 hf99 m100 => ?_
 have h101 := m100 _ _ h92
 have h102 := m100 _ _ h93
 have o103 := Own.mono o94 m100
 have o104 := MO.mono o95 m100
 have m105 := m96.trans m100
 refine AOp.buildSlice (cells := [.int .i64 (at_ (numsL w) 0), .int .i64 (at_ (numsL w) 1), .int .i64 (at_ (numsL w) 2)]) rfl u_44 ts_81 tz_81 rfl (lconsP ((hf99 53 rfl).trans rfl) rfl) rfl ?_
 intro i106 H107 n108 h109 k110
 have e111 := ne_new h101 n108
 have e112 := ne_new h102 n108
 have z113 := Mono.free m105 n108
 have h114 := keep k110 (ne_new h101 n108) h101
 have h115 := keep k110 (ne_new h102 n108) h102
 have o116 := Own.keep o103 k110 (Own.notnew o103 n108)
 have no117 := Own.notnew o103 n108
 have o118 := MO.keep o104 k110 (MO.notnew o104 n108)
 have no119 := MO.notnew o104 n108
 have m120 := Mono.new m105 n108 k110
 refine ⟨_, rfl, .inl (Mono.new (Mono.refl _) n108 k110), ?_⟩
 refine STR.eff rfl rfl rfl fun f121 H122 hf123 m124 => ?_
 have h125 := m124 _ _ h114
 have h126 := m124 _ _ h115
 have h127 := m124 _ _ h109
 have o128 := Own.mono o116 m124
 have o129 := MO.mono o118 m124
 have m130 := m120.trans m124
 refine AOp.append_own (es := 3) (m := 1) (len := ((lastC s.cages).Creases.length)) (old := ((lastC s.cages).Creases).flatMap eCr) (cells := [.int .i64 (at_ (numsL w) 0), .int .i64 (at_ (numsL w) 1), .int .i64 (at_ (numsL w) 2)]) rfl u_44 ts_81 tzn_81 tb_81 (by decide) ni_44 ((hf123 43 rfl).trans rfl) o128 m130 ((hf123 54 rfl).trans rfl) (.slm h127 rfl) (one_of rfl) (by decide) (by first | omega | (simp; omega)) ?_
 intro v131 H132 o133 m134 k135 j136
 have o137 := Own.snocM (xs := ((lastC s.cages).Creases : List CrT)) (y := (CrT.mk (at_ (numsL w) 0) (at_ (numsL w) 1) (at_ (numsL w) 2))) (e := eCr) (by simp) o133
 have h138 := (k135 _ nX (by rw [h125]; simp)).trans h125
 have no139 := j136 _ nX (by rw [h125]; simp)
 have h140 := (k135 _ no18 (by rw [h126]; simp)).trans h126
 have no141 := j136 _ no18 (by rw [h126]; simp)
 have sp143 := MO.sep o129 spX j136
 have o142 := MO.stay o129 spX k135
 refine ⟨_, rfl, .inr (RevR.skip rfl (RevR.skip rfl (RevR.skip rfl (RevR.skip rfl (RevR.skip rfl (RevR.skip rfl (RevR.skip rfl (RevR.skip rfl (RevR.skip rfl (RevR.skip rfl (RevR.skip rfl (RevR.skip rfl (RevR.skip rfl (RevR.skip rfl (RevR.skip rfl (RevR.cons rfl (.inl ⟨rfl, fun H1 f' H' hf hN hM => AOp.move (.ptr ic vc (((s.cages.length : Int) - 1).toNat * 3)) rfl ((hf 5 rfl).trans rfl) ⟨rfl, hN⟩⟩) RevR.nil)))))))))))))))), ?_⟩
 refine STR.done fun H144 m145 => ?_
 have h146 := m145 _ _ h138
 have h147 := m145 _ _ h140
 have o148 := MO.mono o142 m145
 have o149 := Own.mono o137 m145
 have m150 := m134.trans m145
 refine AOps.cons rfl rfl (AOp.nilCheck (.ptr ic vc (((s.cages.length : Int) - 1).toNat * 3)) rfl rfl rfl ?_)
 refine AOps.cons rfl rfl (AOp.fieldAddr rfl rfl fl_46_2 ?_ (hid := ⟨_, h147⟩))
 refine AOps.cons rfl rfl (AOp.storeO (cells' := s.cages.dropLast.flatMap eCage ++ [vV, vF, v131]) rfl rfl o149 ts_44 h147 (Nat.ble_eq_true_of_le (by rw [List.length_append, drop_len]; simp only [List.length_cons, List.length_nil]; omega)) (wrC (k := 2) (drop_len _) rfl) ?_)
 intro H151 h152 k153
 have h154 := keep k153 nid h146
 have o156 := MO.keep o148 k153 no19
 have o157 := Own.keep o149 k153 no141
 have m158 := Mono.set m150 hBic k153
 refine AOps.nil ?_
 refine Or.inl ?_
 refine ⟨_, _, Ghost.refl, .inl rfl, _, Res.zero rfl, _, gT hb1 (gT (decide_eq_true hb12) (gT hb20 (gT hb36 (gT hb51 (gT hb89 rfl))))), ⟨_, _, _, _, _, _, _, _, RDv.upC (c := { lastC s.cages with Creases := (lastC s.cages).Creases ++ [⟨at_ (numsL w) 0, at_ (numsL w) 1, at_ (numsL w) 2⟩] }) hne h154 hB (MO.put (L := (rdL s vL vM vT vS vC vV vF vK).set 7 (3, v131, (((lastC s.cages).Creases) ++ [(CrT.mk (at_ (numsL w) 0) (at_ (numsL w) 1) (at_ (numsL w) 2))]).length, (((lastC s.cages).Creases) ++ [(CrT.mk (at_ (numsL w) 0) (at_ (numsL w) 1) (at_ (numsL w) 2))]).flatMap eCr)) (e := (3, vC, s.cages.length, s.cages.dropLast.flatMap eCage ++ [vV, vF, v131])) 4 (by simp [rdL]) (MO.put (L := (rdL s vL vM vT vS vC vV vF vK).eraseIdx 4) (e := (3, v131, (((lastC s.cages).Creases) ++ [(CrT.mk (at_ (numsL w) 0) (at_ (numsL w) 1) (at_ (numsL w) 2))]).length, (((lastC s.cages).Creases) ++ [(CrT.mk (at_ (numsL w) 0) (at_ (numsL w) 1) (at_ (numsL w) 2))]).flatMap eCr)) 6 (by simp [rdL]) o156 o157 sp143) (.inr ⟨ic, vc, hvC, h152, hBic, (by rw [List.length_append, drop_len]; simp only [List.length_cons, List.length_nil]; omega)⟩) (SepM.of (NotIdM.put (L := (rdL s vL vM vT vS vC vV vF vK).eraseIdx 4) (e := (3, v131, (((lastC s.cages).Creases) ++ [(CrT.mk (at_ (numsL w) 0) (at_ (numsL w) 1) (at_ (numsL w) 2))]).length, (((lastC s.cages).Creases) ++ [(CrT.mk (at_ (numsL w) 0) (at_ (numsL w) 1) (at_ (numsL w) 2))]).flatMap eCr)) 6 no19 no141) hvC)) (NotIdM.put (L := (rdL s vL vM vT vS vC vV vF vK).set 7 (3, v131, (((lastC s.cages).Creases) ++ [(CrT.mk (at_ (numsL w) 0) (at_ (numsL w) 1) (at_ (numsL w) 2))]).length, (((lastC s.cages).Creases) ++ [(CrT.mk (at_ (numsL w) 0) (at_ (numsL w) 1) (at_ (numsL w) 2))]).flatMap eCr)) (e := (3, vC, s.cages.length, s.cages.dropLast.flatMap eCage ++ [vV, vF, v131])) 4 (NotIdM.put (L := (rdL s vL vM vT vS vC vV vF vK).eraseIdx 4) (e := (3, v131, (((lastC s.cages).Creases) ++ [(CrT.mk (at_ (numsL w) 0) (at_ (numsL w) 1) (at_ (numsL w) 2))]).length, (((lastC s.cages).Creases) ++ [(CrT.mk (at_ (numsL w) 0) (at_ (numsL w) 1) (at_ (numsL w) 2))]).flatMap eCr)) 6 ngX no139) nC)⟩, m158, rfl⟩
end Go.Proofs.S
namespace Go.Proofs.S
open Go Go.AH Go.Proofs.L
set_option linter.unusedSectionVars false
variable [LexG]
theorem cageOk_len {w : List ByteArray} (h : cageOk w = true) : (w.length : Int) = 6 := by
  simp only [cageOk, Bool.and_eq_true, decide_eq_true_eq] at h; exact h.1
end Go.Proofs.S
namespace Go.Proofs.S
open Go Go.AH Go.Proofs.L
set_option maxRecDepth 4000
set_option maxHeartbeats 4000000
set_option linter.unusedSimpArgs false
set_option linter.unusedVariables false
set_option linter.unusedSectionVars false
variable [LexG]
theorem c_readCage {B H0 : Heap} {id ver : Nat} {s : Rd} (hm : Mono B H0) (hs : RD B H0 id ver s) (ok : RdOk s) (w : List ByteArray) (hw : w.length ≤ 1048576) : ACallsX Tryd.prog 25 [.ptr id ver 0, .sl w.length (w.map eStr)] H0 (fun r H' => ∃ t, cageP s w = .ok t ∧ RD B H' id ver t ∧ Mono B H' ∧ r = .tup []) (fun ch H' => ∃ k, cageP s w = .error k ∧ ch = pan 36 k ∧ Mono B H') := by
 obtain ⟨vL, vM, vT, vS, vC, vV, vF, vK, hrow, hB, hg, hn⟩ := hs
 obtain ⟨oS', og1, sp1⟩ := hg.at 3 rfl
 have oS : Own B H0 6 vS s.skins.length (s.skins.flatMap eSkin) := oS'
 have nS : NotId vS id := hn.at 3 rfl
 have ng1 := hn.erase 3
 obtain ⟨oM', og2, sp2⟩ := og1.at 1 rfl
 have oM : Own B H0 9 vM s.mats.length (s.mats.flatMap eMat) := oM'
 have nM : NotId vM id := ng1.at 1 rfl
 have ng2 := ng1.erase 1
 have sMS : Sep vM vS := sp1.at 1 rfl
 have sp1b := sp1.erase 1
 obtain ⟨oT', og3, sp3⟩ := og2.at 1 rfl
 have oT : Own B H0 4 vT s.texs.length (s.texs.flatMap eTex) := oT'
 have nT : NotId vT id := ng2.at 1 rfl
 have ng3 := ng2.erase 1
 have sTS : Sep vT vS := sp1b.at 1 rfl
 have sp1c := sp1b.erase 1
 have sTM : Sep vT vM := sp2.at 1 rfl
 have sp2b := sp2.erase 1
 refine ACallsX.of_body' (n := 132) rfl rfl rfl rfl ?_
 have m0 := hm
 refine AWP.seq ?_
 refine AWP.regionX (l := [0, 1]) rfl ?_
 refine AOpsX.cons rfl rfl (AOp.move (.sl w.length (w.map eStr)) rfl rfl ?_)
 refine AOpsX.consX rfl rfl (AOpX.need (b := namedB w 2 6) (k := 10) (as_ := [.sl w.length (w.map eStr), .int .i64 2, .int .i64 6]) rfl rfl (rfl) tf_39 (c_named w (by first | omega | assumption | (simp only [List.length_drop, List.length_take]; omega) | (simp; omega) | simp) _ _ (by omega) (by omega)) ?_ (fun hb _ m2 => Or.inr ⟨_, rfl, _, gF hb, rfl, m0.trans m2⟩))
 intro hb1 H2 m3
 have h4 := m3 _ _ hrow
 have o5 := Own.mono oS m3
 have o6 := Own.mono oM m3
 have o7 := Own.mono oT m3
 have o8 := MO.mono og3 m3
 have m9 := m0.trans m3
 have hl10 := named_len hb1
 refine AOpsX.nil ?_
 change AWP _ _ _ _ _ _
 refine AWP.seqc (fun fq Hq => fq 0 = .ptr id ver 0 ∧ fq 1 = .sl w.length (w.map eStr) ∧ Own B Hq 6 vS s.skins.length (s.skins.flatMap eSkin) ∧ Own B Hq 9 vM s.mats.length (s.mats.flatMap eMat) ∧ Own B Hq 4 vT s.texs.length (s.texs.flatMap eTex) ∧ MO B Hq ((((rdL s vL vM vT vS vC vV vF vK).eraseIdx 3).eraseIdx 1).eraseIdx 1) ∧ Hq id = some (.row ver (rdC s.cam s.sky vL vM vT vS vC s.hc s.hs)) ∧ Mono B Hq ∧ (cageOk w = true)) ?_ ?_
 ·
  refine AWP.regionX (l := [0, 1, 2, 3, 4, 5, 6, 7, 8, 9, 10, 11, 12, 13, 14, 15]) rfl ?_
  refine AOpsX.cons rfl rfl (AOp.move (.sl w.length (w.map eStr)) rfl rfl ?_)
  refine AOpsX.cons rfl rfl (AOp.len (m := w.length) rfl rfl (.inr (.inl ⟨_, rfl⟩)) u_52 ?_)
  refine AOpsX.cons rfl rfl (AOp.bin (.bool (decide ((w.length : Int) = 6))) rfl rfl rfl ieq ?_)
  refine AOpsX.cons rfl rfl (AOp.move (.bool (decide ((w.length : Int) = 6))) rfl rfl ?_)
  by_cases b11 : (w.length : Int) = 6
  ·
   refine AOpsX.yes rfl rfl rfl rfl rfl rfl rfl (decide_eq_true b11) (AOp.move (.sl w.length (w.map eStr)) rfl rfl ?_)
   refine AOpsX.yes rfl rfl rfl rfl rfl rfl rfl (decide_eq_true b11) (AOp.indexAddrS rfl rfl rfl sl_52 (by omega) (by omega) ?_)
   refine AOpsX.yes rfl rfl rfl rfl rfl rfl rfl (decide_eq_true b11) (AOp.loadF (.str (at_ w 4)) rfl rfl ty_9 (ld1 (by omega) (by omega)) ?_)
   refine AOpsX.yes rfl rfl rfl rfl rfl rfl rfl (decide_eq_true b11) (AOp.seqD rfl rfl rfl ?_)
   refine AOpsX.yes rfl rfl rfl rfl rfl rfl rfl (decide_eq_true b11) (AOp.move (.bool (decide ((at_ w 4) = ⟨#[45]⟩))) rfl rfl ?_)
   by_cases b12 : (at_ w 4) = ⟨#[45]⟩
   ·
    refine AOpsX.no rfl rfl rfl rfl rfl rfl rfl (ble_of (decide_eq_true b12) (by decide)) ?_
    refine AOpsX.no rfl rfl rfl rfl rfl rfl rfl (ble_of (decide_eq_true b12) (by decide)) ?_
    refine AOpsX.no rfl rfl rfl rfl rfl rfl rfl (ble_of (decide_eq_true b12) (by decide)) ?_
    refine AOpsX.no rfl rfl rfl rfl rfl rfl rfl (ble_of (decide_eq_true b12) (by decide)) ?_
    refine AOpsX.yes rfl rfl rfl rfl rfl rfl rfl (decide_eq_true b11) (AOp.pickT (.bool true) rfl rfl (decide_eq_true b12) rfl ?_)
    refine AOpsX.cons rfl rfl (AOp.pickT (.bool true) rfl rfl (decide_eq_true b11) rfl ?_)
    refine AOpsX.consX rfl rfl (AOpX.need (b := true) (k := 10) (as_ := [.bool true, .int .i64 10]) rfl rfl (rfl) tf_35 (c_need _ _) ?_ (fun h => Bool.noConfusion h))
    intro hb13 H14 m15
    have h16 := m15 _ _ h4
    have o17 := Own.mono o5 m15
    have o18 := Own.mono o6 m15
    have o19 := Own.mono o7 m15
    have o20 := MO.mono o8 m15
    have m21 := m9.trans m15
    have hg22 : cageOk w = true := by have hb_ := hb13; simp only [cageOk, dash, Bool.and_eq_false_iff, Bool.or_eq_false_iff, Bool.and_eq_true, Bool.or_eq_true, decide_eq_true_eq, decide_eq_false_iff_not]; first | omega | (simp_all; done) | (simp_all; omega)
    refine AOpsX.nil ?_
    exact Then.n ⟨rfl, rfl, o17, o18, o19, o20, h16, m21, (by exact hg22)⟩
   ·
    refine AOpsX.yes rfl rfl rfl rfl rfl rfl rfl (decide_eq_false b12) (AOp.move (.sl w.length (w.map eStr)) rfl rfl ?_)
    refine AOpsX.yes rfl rfl rfl rfl rfl rfl rfl (decide_eq_false b12) (AOp.indexAddrS rfl rfl rfl sl_52 (by omega) (by omega) ?_)
    refine AOpsX.yes rfl rfl rfl rfl rfl rfl rfl (decide_eq_false b12) (AOp.loadF (.str (at_ w 4)) rfl rfl ty_9 (ld1 (by omega) (by omega)) ?_)
    refine AOpsX.yes rfl rfl rfl rfl rfl rfl rfl (decide_eq_false b12) (AOp.pcall («as» := [.str (at_ w 4)]) rfl rfl (rfl) tf_43 (c_lex_Name _) ?_)
    intro H23 m24
    have h25 := m24 _ _ h4
    have o26 := Own.mono o5 m24
    have o27 := Own.mono o6 m24
    have o28 := Own.mono o7 m24
    have o29 := MO.mono o8 m24
    have m30 := m9.trans m24
    refine AOpsX.yes rfl rfl rfl rfl rfl rfl rfl (decide_eq_true b11) (AOp.pickF (.bool (nameB (at_ w 4))) rfl rfl (decide_eq_false b12) rfl ?_)
    refine AOpsX.cons rfl rfl (AOp.pickT (.bool (nameB (at_ w 4))) rfl rfl (decide_eq_true b11) rfl ?_)
    refine AOpsX.consX rfl rfl (AOpX.need (b := nameB (at_ w 4)) (k := 10) (as_ := [.bool (nameB (at_ w 4)), .int .i64 10]) rfl rfl (rfl) tf_35 (c_need _ _) ?_ (fun hb _ m2 => Or.inr ⟨_, rfl, _, gT hb1 (gF (show cageOk w = false from by have hb_ := hb; simp only [cageOk, dash, Bool.and_eq_false_iff, Bool.or_eq_false_iff, Bool.and_eq_true, Bool.or_eq_true, decide_eq_true_eq, decide_eq_false_iff_not]; first | omega | (simp_all; done) | (simp_all; omega))), rfl, m30.trans m2⟩))
    intro hb31 H32 m33
    have h34 := m33 _ _ h25
    have o35 := Own.mono o26 m33
    have o36 := Own.mono o27 m33
    have o37 := Own.mono o28 m33
    have o38 := MO.mono o29 m33
    have m39 := m30.trans m33
    have hg40 : cageOk w = true := by have hb_ := hb31; simp only [cageOk, dash, Bool.and_eq_false_iff, Bool.or_eq_false_iff, Bool.and_eq_true, Bool.or_eq_true, decide_eq_true_eq, decide_eq_false_iff_not]; first | omega | (simp_all; done) | (simp_all; omega)
    refine AOpsX.nil ?_
    exact Then.n ⟨rfl, rfl, o35, o36, o37, o38, h34, m39, (by exact hg40)⟩
  ·
   refine AOpsX.no rfl rfl rfl rfl rfl rfl rfl (ble_of (decide_eq_false b11) (by decide)) ?_
   refine AOpsX.no rfl rfl rfl rfl rfl rfl rfl (ble_of (decide_eq_false b11) (by decide)) ?_
   refine AOpsX.no rfl rfl rfl rfl rfl rfl rfl (ble_of (decide_eq_false b11) (by decide)) ?_
   refine AOpsX.no rfl rfl rfl rfl rfl rfl rfl (ble_of (decide_eq_false b11) (by decide)) ?_
   refine AOpsX.no rfl rfl rfl rfl rfl rfl rfl (ble_of (decide_eq_false b11) (by decide)) ?_
   refine AOpsX.un rfl rfl rfl rfl rfl rfl rfl ?_
   refine AOpsX.un rfl rfl rfl rfl rfl rfl rfl ?_
   refine AOpsX.un rfl rfl rfl rfl rfl rfl rfl ?_
   refine AOpsX.un rfl rfl rfl rfl rfl rfl rfl ?_
   refine AOpsX.no rfl rfl rfl rfl rfl rfl rfl (ble_of (decide_eq_false b11) (by decide)) ?_
   refine AOpsX.cons rfl rfl (AOp.pickF (.bool false) rfl rfl (decide_eq_false b11) rfl ?_)
   refine AOpsX.consX rfl rfl (AOpX.need (b := false) (k := 10) (as_ := [.bool false, .int .i64 10]) rfl rfl (rfl) tf_35 (c_need _ _) (fun h => Bool.noConfusion h) (fun _ _ m2 => Or.inr ⟨_, rfl, _, gT hb1 (gF (show cageOk w = false from by simp only [cageOk, dash, Bool.and_eq_false_iff, Bool.or_eq_false_iff, Bool.and_eq_true, Bool.or_eq_true, decide_eq_true_eq, decide_eq_false_iff_not]; first | omega | (simp_all; done) | (simp_all; omega))), rfl, m9.trans m2⟩))
 ·
  rintro f45 H44 ⟨s46, s47, o48, o49, o50, o51, h52, m53, hck⟩
  have hl6 := cageOk_len hck
  refine AWP.seq ?_
  refine AWP.region_quietX mixed (by kernel_rfl) 9 [9, 10, 11] rfl (by kernel_rfl) (Mono H44) (Mono.refl _) ?_
  refine QE.op rfl rfl (.inl ⟨rfl, fun f' H' hf hM => AOp.move (.sl w.length (w.map eStr)) rfl ((hf 1 rfl).trans s47) ⟨rfl, hM⟩⟩) ?_
  refine QE.op rfl rfl (.inl ⟨rfl, fun f' H' hf hM => AOp.indexAddrS rfl ((hf 23 rfl).trans rfl) rfl sl_52 (by omega) (by omega) ⟨rfl, hM⟩⟩) ?_
  refine QE.op rfl rfl (.inl ⟨rfl, fun f' H' hf hM => AOp.loadF (.str (at_ w 2)) rfl ((hf 24 rfl).trans rfl) ty_9 (ld1 (by omega) (by omega)) ⟨rfl, hM⟩⟩) ?_
  refine QE.op rfl rfl (.inl ⟨rfl, fun f' H' hf hM => AOp.move (.sl w.length (w.map eStr)) rfl ((hf 1 rfl).trans s47) ⟨rfl, hM⟩⟩) ?_
  refine QE.op rfl rfl (.inl ⟨rfl, fun f' H' hf hM => AOp.indexAddrS rfl ((hf 26 rfl).trans rfl) rfl sl_52 (by omega) (by omega) ⟨rfl, hM⟩⟩) ?_
  refine QE.op rfl rfl (.inl ⟨rfl, fun f' H' hf hM => AOp.loadF (.str (at_ w 3)) rfl ((hf 27 rfl).trans rfl) ty_9 (ld1 (by omega) (by omega)) ⟨rfl, hM⟩⟩) ?_
  refine QE.op rfl rfl (.inl ⟨rfl, fun f' H' hf hM => AOp.move (.sl w.length (w.map eStr)) rfl ((hf 1 rfl).trans s47) ⟨rfl, hM⟩⟩) ?_
  refine QE.op rfl rfl (.inl ⟨rfl, fun f' H' hf hM => AOp.indexAddrS rfl ((hf 29 rfl).trans rfl) rfl sl_52 (by omega) (by omega) ⟨rfl, hM⟩⟩) ?_
  refine QE.op rfl rfl (.inl ⟨rfl, fun f' H' hf hM => AOp.loadF (.str (at_ w 5)) rfl ((hf 30 rfl).trans rfl) ty_9 (ld1 (by omega) (by omega)) ⟨rfl, hM⟩⟩) ?_
  refine QE.done fun H54 m55 => ?_
  have h56 := m55 _ _ h52
  have o57 := Own.mono o48 m55
  have o58 := Own.mono o49 m55
  have o59 := Own.mono o50 m55
  have o60 := MO.mono o51 m55
  have m61 := m53.trans m55
  refine AOpsX.cons rfl rfl (AOp.buildSlice (cells := [.str (at_ w 2), .str (at_ w 3), .str (at_ w 5)]) rfl u_52 ts_9 tz_9 rfl rfl rfl ?_)
  intro i62 H63 n64 h65 k66
  have e67 := ne_new h56 n64
  have z68 := Mono.free m61 n64
  have h69 := keep k66 (ne_new h56 n64) h56
  have o70 := Own.keep o57 k66 (Own.notnew o57 n64)
  have no71 := Own.notnew o57 n64
  have o72 := Own.keep o58 k66 (Own.notnew o58 n64)
  have no73 := Own.notnew o58 n64
  have o74 := Own.keep o59 k66 (Own.notnew o59 n64)
  have no75 := Own.notnew o59 n64
  have o76 := MO.keep o60 k66 (MO.notnew o60 n64)
  have no77 := MO.notnew o60 n64
  have m78 := Mono.new m61 n64 k66
  obtain ⟨v79, e80⟩ : ∃ v : AV, v = .slm i62 0 1 0 3 := ⟨_, rfl⟩
  have o81 : Own B H63 1 v79 3 [.str (at_ w 2), .str (at_ w 3), .str (at_ w 5)] := .inr ⟨_, _, e80, h65, z68, rfl⟩
  have no82 : NotId v79 id := by rw [e80]; exact NotId.slm e67
  have sp83 : Sep v79 vS := by rw [e80]; exact Sep.ofNotId no71
  have sp84 : Sep v79 vM := by rw [e80]; exact Sep.ofNotId no73
  have sp85 : Sep v79 vT := by rw [e80]; exact Sep.ofNotId no75
  have sp86 : SepM ((((rdL s vL vM vT vS vC vV vF vK).eraseIdx 3).eraseIdx 1).eraseIdx 1) v79 := by rw [e80]; exact SepM.ofNotId no77
  refine AOpsX.consX rfl rfl ?_
  refine AOpX.frz 32 (o81) e80.symm m78 fun H87 m88 k89 => ?_
  have h90 := (k89 _ no82).trans h69
  have o91 := Own.stay o70 (Sep.symm sp83) (fun i hi _ => k89 i hi)
  have o92 := Own.stay o72 (Sep.symm sp84) (fun i hi _ => k89 i hi)
  have o93 := Own.stay o74 (Sep.symm sp85) (fun i hi _ => k89 i hi)
  have o94 := MO.stay o76 sp86 (fun i hi _ => k89 i hi)
  refine AOpX.need (b := numsB ([(at_ w 2), (at_ w 3), (at_ w 5)] : List ByteArray)) (k := 10) (as_ := [.sl ([(at_ w 2), (at_ w 3), (at_ w 5)] : List ByteArray).length (([(at_ w 2), (at_ w 3), (at_ w 5)] : List ByteArray).map eStr)]) rfl rfl (rfl) tf_40 (c_numbers ([(at_ w 2), (at_ w 3), (at_ w 5)] : List ByteArray) (by first | omega | assumption | (simp only [List.length_drop, List.length_take]; omega) | (simp; omega) | simp)) ?_ (fun hb _ m2 => Or.inr ⟨_, rfl, _, gT hb1 (gT hck (gF hb)), rfl, m88.trans m2⟩)
  intro hb95 H96 m97
  have h98 := m97 _ _ h90
  have o99 := Own.mono o91 m97
  have o100 := Own.mono o92 m97
  have o101 := Own.mono o93 m97
  have o102 := MO.mono o94 m97
  have m103 := m88.trans m97
  have hl104 : ((numsL ([(at_ w 2), (at_ w 3), (at_ w 5)] : List ByteArray)).length : Int) = 3 := by rw [numsL_len]; rfl
  refine AOpsX.cons rfl rfl (AOp.assign (.sl (numsL ([(at_ w 2), (at_ w 3), (at_ w 5)] : List ByteArray)).length ((numsL ([(at_ w 2), (at_ w 3), (at_ w 5)] : List ByteArray)).map eI)) rfl rfl ?_)
  refine AOpsX.nil ?_
  change AWP _ _ _ _ _ _
  refine AWP.seq ?_
  refine AWP.regionX (l := [0, 1, 2, 3, 4, 5, 6, 7]) rfl ?_
  refine AOpsX.cons rfl rfl (AOp.move (.ptr id ver 0) rfl s46 ?_)
  refine AOpsX.cons rfl rfl (AOp.nilCheck (.ptr id ver 0) rfl rfl rfl ?_)
  refine AOpsX.cons rfl rfl (AOp.fieldAddr rfl rfl fl_59_0 ?_ (hid := ⟨_, h98⟩))
  refine AOpsX.cons rfl rfl (AOp.fieldAddr rfl rfl fl_35_5 ?_ (hid := ⟨_, h98⟩))
  refine AOpsX.cons rfl rfl (AOp.load (vS) rfl rfl ty_32 h98 rfl ?_)
  refine AOpsX.cons rfl rfl (AOp.len_own (m := s.skins.length) rfl rfl o99 u_32 ?_)
  refine AOpsX.cons rfl rfl (AOp.bin (.bool (decide ((s.skins.length : Int) < 8))) rfl rfl rfl rfl ?_)
  refine AOpsX.consX rfl rfl (AOpX.need (b := decide ((s.skins.length : Int) < 8)) (k := 13) (as_ := [.bool (decide ((s.skins.length : Int) < 8)), .int .i64 13]) rfl rfl (rfl) tf_35 (c_need _ _) ?_ (fun hb _ m2 => Or.inr ⟨_, rfl, _, gT hb1 (gT hck (gT hb95 (gF hb))), rfl, m103.trans m2⟩))
  intro hb105 H106 m107
  have h108 := m107 _ _ h98
  have o109 := Own.mono o99 m107
  have o110 := Own.mono o100 m107
  have o111 := Own.mono o101 m107
  have o112 := MO.mono o102 m107
  have m113 := m103.trans m107
  have hp114 := of_decide_eq_true hb105
  refine AOpsX.nil ?_
  change AWP _ _ _ _ _ _
  refine AWP.seqc (fun fq Hq => fq 0 = .ptr id ver 0 ∧ fq 1 = .sl w.length (w.map eStr) ∧ fq 4 = .sl (numsL ([(at_ w 2), (at_ w 3), (at_ w 5)] : List ByteArray)).length ((numsL ([(at_ w 2), (at_ w 3), (at_ w 5)] : List ByteArray)).map eI) ∧ Own B Hq 6 vS s.skins.length (s.skins.flatMap eSkin) ∧ Own B Hq 9 vM s.mats.length (s.mats.flatMap eMat) ∧ Own B Hq 4 vT s.texs.length (s.texs.flatMap eTex) ∧ MO B Hq ((((rdL s vL vM vT vS vC vV vF vK).eraseIdx 3).eraseIdx 1).eraseIdx 1) ∧ Hq id = some (.row ver (rdC s.cam s.sky vL vM vT vS vC s.hc s.hs)) ∧ Mono B Hq ∧ (cageHas s w = true)) ?_ ?_
  ·
   refine AWP.regionX (l := [0, 1, 2, 3, 4, 5, 6, 7, 8, 9, 10, 11, 12, 13, 14, 15, 16, 17, 18, 19, 20, 21, 22, 23, 24, 25, 26, 27, 28]) rfl ?_
   refine AOpsX.cons rfl rfl (AOp.move (.ptr id ver 0) rfl s46 ?_)
   refine AOpsX.cons rfl rfl (AOp.move (.sl w.length (w.map eStr)) rfl s47 ?_)
   refine AOpsX.cons rfl rfl (AOp.indexAddrS rfl rfl rfl sl_52 (by omega) (by omega) ?_)
   refine AOpsX.cons rfl rfl (AOp.loadF (.str (at_ w 0)) rfl rfl ty_9 (ld1 (by omega) (by omega)) ?_)
   refine AOpsX.cons rfl rfl (AOp.pcallH («as» := [.ptr id ver 0, .str (at_ w 0)]) rfl rfl (rfl) tf_44 ((c_xSkin (B := B) h108 o109 (by have := ok.k; omega) (at_ w 0))) ?_)
   intro H115 m116
   have h117 := m116 _ _ h108
   have o118 := Own.mono o109 m116
   have o119 := Own.mono o110 m116
   have o120 := Own.mono o111 m116
   have o121 := MO.mono o112 m116
   have m122 := m113.trans m116
   refine AOpsX.cons rfl rfl (AOp.bin (.bool (decide (skinX s (at_ w 0) < 0))) rfl rfl rfl rfl ?_)
   refine AOpsX.cons rfl rfl (AOp.move (.bool (decide (skinX s (at_ w 0) < 0))) rfl rfl ?_)
   by_cases b123 : skinX s (at_ w 0) < 0
   ·
    refine AOpsX.yes rfl rfl rfl rfl rfl rfl rfl (decide_eq_true b123) (AOp.move (.ptr id ver 0) rfl s46 ?_)
    refine AOpsX.yes rfl rfl rfl rfl rfl rfl rfl (decide_eq_true b123) (AOp.move (.sl w.length (w.map eStr)) rfl s47 ?_)
    refine AOpsX.yes rfl rfl rfl rfl rfl rfl rfl (decide_eq_true b123) (AOp.indexAddrS rfl rfl rfl sl_52 (by omega) (by omega) ?_)
    refine AOpsX.yes rfl rfl rfl rfl rfl rfl rfl (decide_eq_true b123) (AOp.loadF (.str (at_ w 1)) rfl rfl ty_9 (ld1 (by omega) (by omega)) ?_)
    refine AOpsX.yes rfl rfl rfl rfl rfl rfl rfl (decide_eq_true b123) (AOp.pcallH («as» := [.ptr id ver 0, .str (at_ w 1)]) rfl rfl (rfl) tf_42 ((c_xMat (B := B) h117 o119 (by have := ok.m; omega) (at_ w 1))) ?_)
    intro H124 m125
    have h126 := m125 _ _ h117
    have o127 := Own.mono o118 m125
    have o128 := Own.mono o119 m125
    have o129 := Own.mono o120 m125
    have o130 := MO.mono o121 m125
    have m131 := m122.trans m125
    refine AOpsX.yes rfl rfl rfl rfl rfl rfl rfl (decide_eq_true b123) (AOp.bin (.bool (decide (matX s (at_ w 1) ≥ 0))) rfl rfl rfl rfl ?_)
    refine AOpsX.cons rfl rfl (AOp.pickT (.bool (decide (matX s (at_ w 1) ≥ 0))) rfl rfl (decide_eq_true b123) rfl ?_)
    refine AOpsX.cons rfl rfl (AOp.move (.bool (decide (matX s (at_ w 1) ≥ 0))) rfl rfl ?_)
    by_cases b132 : matX s (at_ w 1) ≥ 0
    ·
     refine AOpsX.yes rfl rfl rfl rfl rfl rfl rfl (decide_eq_true b132) (AOp.move (.sl w.length (w.map eStr)) rfl s47 ?_)
     refine AOpsX.yes rfl rfl rfl rfl rfl rfl rfl (decide_eq_true b132) (AOp.indexAddrS rfl rfl rfl sl_52 (by omega) (by omega) ?_)
     refine AOpsX.yes rfl rfl rfl rfl rfl rfl rfl (decide_eq_true b132) (AOp.loadF (.str (at_ w 4)) rfl rfl ty_9 (ld1 (by omega) (by omega)) ?_)
     refine AOpsX.yes rfl rfl rfl rfl rfl rfl rfl (decide_eq_true b132) (AOp.seqD rfl rfl rfl ?_)
     refine AOpsX.yes rfl rfl rfl rfl rfl rfl rfl (decide_eq_true b132) (AOp.move (.bool (decide ((at_ w 4) = ⟨#[45]⟩))) rfl rfl ?_)
     by_cases b133 : (at_ w 4) = ⟨#[45]⟩
     ·
      refine AOpsX.no rfl rfl rfl rfl rfl rfl rfl (ble_of (decide_eq_true b133) (by decide)) ?_
      refine AOpsX.no rfl rfl rfl rfl rfl rfl rfl (ble_of (decide_eq_true b133) (by decide)) ?_
      refine AOpsX.no rfl rfl rfl rfl rfl rfl rfl (ble_of (decide_eq_true b133) (by decide)) ?_
      refine AOpsX.no rfl rfl rfl rfl rfl rfl rfl (ble_of (decide_eq_true b133) (by decide)) ?_
      refine AOpsX.no rfl rfl rfl rfl rfl rfl rfl (ble_of (decide_eq_true b133) (by decide)) ?_
      refine AOpsX.no rfl rfl rfl rfl rfl rfl rfl (ble_of (decide_eq_true b133) (by decide)) ?_
      refine AOpsX.yes rfl rfl rfl rfl rfl rfl rfl (decide_eq_true b132) (AOp.pickT (.bool true) rfl rfl (decide_eq_true b133) rfl ?_)
      refine AOpsX.cons rfl rfl (AOp.pickT (.bool true) rfl rfl (decide_eq_true b132) rfl ?_)
      refine AOpsX.consX rfl rfl (AOpX.need (b := true) (k := 12) (as_ := [.bool true, .int .i64 12]) rfl rfl (rfl) tf_35 (c_need _ _) ?_ (fun h => Bool.noConfusion h))
      intro hb134 H135 m136
      have h137 := m136 _ _ h126
      have o138 := Own.mono o127 m136
      have o139 := Own.mono o128 m136
      have o140 := Own.mono o129 m136
      have o141 := MO.mono o130 m136
      have m142 := m131.trans m136
      have hg143 : cageHas s w = true := by have hb_ := hb134; simp only [cageHas, dash, Bool.and_eq_false_iff, Bool.or_eq_false_iff, Bool.and_eq_true, Bool.or_eq_true, decide_eq_true_eq, decide_eq_false_iff_not]; first | omega | (simp_all; done) | (simp_all; omega)
      refine AOpsX.nil ?_
      exact Then.n ⟨s46, s47, rfl, o138, o139, o140, o141, h137, m142, (by exact hg143)⟩
     ·
      refine AOpsX.yes rfl rfl rfl rfl rfl rfl rfl (decide_eq_false b133) (AOp.move (.ptr id ver 0) rfl s46 ?_)
      refine AOpsX.yes rfl rfl rfl rfl rfl rfl rfl (decide_eq_false b133) (AOp.move (.sl w.length (w.map eStr)) rfl s47 ?_)
      refine AOpsX.yes rfl rfl rfl rfl rfl rfl rfl (decide_eq_false b133) (AOp.indexAddrS rfl rfl rfl sl_52 (by omega) (by omega) ?_)
      refine AOpsX.yes rfl rfl rfl rfl rfl rfl rfl (decide_eq_false b133) (AOp.loadF (.str (at_ w 4)) rfl rfl ty_9 (ld1 (by omega) (by omega)) ?_)
      refine AOpsX.yes rfl rfl rfl rfl rfl rfl rfl (decide_eq_false b133) (AOp.pcallH («as» := [.ptr id ver 0, .str (at_ w 4)]) rfl rfl (rfl) tf_41 ((c_xTex (B := B) h126 o129 (by have := ok.t; omega) (at_ w 4))) ?_)
      intro H144 m145
      have h146 := m145 _ _ h126
      have o147 := Own.mono o127 m145
      have o148 := Own.mono o128 m145
      have o149 := Own.mono o129 m145
      have o150 := MO.mono o130 m145
      have m151 := m131.trans m145
      refine AOpsX.yes rfl rfl rfl rfl rfl rfl rfl (decide_eq_false b133) (AOp.bin (.bool (decide (texX s (at_ w 4) ≥ 0))) rfl rfl rfl rfl ?_)
      refine AOpsX.yes rfl rfl rfl rfl rfl rfl rfl (decide_eq_true b132) (AOp.pickF (.bool (decide (texX s (at_ w 4) ≥ 0))) rfl rfl (decide_eq_false b133) rfl ?_)
      refine AOpsX.cons rfl rfl (AOp.pickT (.bool (decide (texX s (at_ w 4) ≥ 0))) rfl rfl (decide_eq_true b132) rfl ?_)
      refine AOpsX.consX rfl rfl (AOpX.need (b := decide (texX s (at_ w 4) ≥ 0)) (k := 12) (as_ := [.bool (decide (texX s (at_ w 4) ≥ 0)), .int .i64 12]) rfl rfl (rfl) tf_35 (c_need _ _) ?_ (fun hb _ m2 => Or.inr ⟨_, rfl, _, gT hb1 (gT hck (gT hb95 (gT hb105 (gF (show cageHas s w = false from by have hb_ := hb; simp only [cageHas, dash, Bool.and_eq_false_iff, Bool.or_eq_false_iff, Bool.and_eq_true, Bool.or_eq_true, decide_eq_true_eq, decide_eq_false_iff_not]; first | omega | (simp_all; done) | (simp_all; omega)))))), rfl, m151.trans m2⟩))
      intro hb152 H153 m154
      have h155 := m154 _ _ h146
      have o156 := Own.mono o147 m154
      have o157 := Own.mono o148 m154
      have o158 := Own.mono o149 m154
      have o159 := MO.mono o150 m154
      have m160 := m151.trans m154
      have hp161 := of_decide_eq_true hb152
      have hg162 : cageHas s w = true := by have hb_ := hb152; simp only [cageHas, dash, Bool.and_eq_false_iff, Bool.or_eq_false_iff, Bool.and_eq_true, Bool.or_eq_true, decide_eq_true_eq, decide_eq_false_iff_not]; first | omega | (simp_all; done) | (simp_all; omega)
      refine AOpsX.nil ?_
      exact Then.n ⟨s46, s47, rfl, o156, o157, o158, o159, h155, m160, (by exact hg162)⟩
    ·
     refine AOpsX.no rfl rfl rfl rfl rfl rfl rfl (ble_of (decide_eq_false b132) (by decide)) ?_
     refine AOpsX.no rfl rfl rfl rfl rfl rfl rfl (ble_of (decide_eq_false b132) (by decide)) ?_
     refine AOpsX.no rfl rfl rfl rfl rfl rfl rfl (ble_of (decide_eq_false b132) (by decide)) ?_
     refine AOpsX.no rfl rfl rfl rfl rfl rfl rfl (ble_of (decide_eq_false b132) (by decide)) ?_
     refine AOpsX.no rfl rfl rfl rfl rfl rfl rfl (ble_of (decide_eq_false b132) (by decide)) ?_
     refine AOpsX.un rfl rfl rfl rfl rfl rfl rfl ?_
     refine AOpsX.un rfl rfl rfl rfl rfl rfl rfl ?_
     refine AOpsX.un rfl rfl rfl rfl rfl rfl rfl ?_
     refine AOpsX.un rfl rfl rfl rfl rfl rfl rfl ?_
     refine AOpsX.un rfl rfl rfl rfl rfl rfl rfl ?_
     refine AOpsX.un rfl rfl rfl rfl rfl rfl rfl ?_
     refine AOpsX.no rfl rfl rfl rfl rfl rfl rfl (ble_of (decide_eq_false b132) (by decide)) ?_
     refine AOpsX.cons rfl rfl (AOp.pickF (.bool false) rfl rfl (decide_eq_false b132) rfl ?_)
     refine AOpsX.consX rfl rfl (AOpX.need (b := false) (k := 12) (as_ := [.bool false, .int .i64 12]) rfl rfl (rfl) tf_35 (c_need _ _) (fun h => Bool.noConfusion h) (fun _ _ m2 => Or.inr ⟨_, rfl, _, gT hb1 (gT hck (gT hb95 (gT hb105 (gF (show cageHas s w = false from by simp only [cageHas, dash, Bool.and_eq_false_iff, Bool.or_eq_false_iff, Bool.and_eq_true, Bool.or_eq_true, decide_eq_true_eq, decide_eq_false_iff_not]; first | omega | (simp_all; done) | (simp_all; omega)))))), rfl, m131.trans m2⟩))
   ·
    refine AOpsX.no rfl rfl rfl rfl rfl rfl rfl (ble_of (decide_eq_false b123) (by decide)) ?_
    refine AOpsX.no rfl rfl rfl rfl rfl rfl rfl (ble_of (decide_eq_false b123) (by decide)) ?_
    refine AOpsX.no rfl rfl rfl rfl rfl rfl rfl (ble_of (decide_eq_false b123) (by decide)) ?_
    refine AOpsX.no rfl rfl rfl rfl rfl rfl rfl (ble_of (decide_eq_false b123) (by decide)) ?_
    refine AOpsX.no rfl rfl rfl rfl rfl rfl rfl (ble_of (decide_eq_false b123) (by decide)) ?_
    refine AOpsX.no rfl rfl rfl rfl rfl rfl rfl (ble_of (decide_eq_false b123) (by decide)) ?_
    refine AOpsX.cons rfl rfl (AOp.pickF (.bool false) rfl rfl (decide_eq_false b123) rfl ?_)
    refine AOpsX.cons rfl rfl (AOp.move (.bool false) rfl rfl ?_)
    refine AOpsX.no rfl rfl rfl rfl rfl rfl rfl (ble_of rfl (by decide)) ?_
    refine AOpsX.no rfl rfl rfl rfl rfl rfl rfl (ble_of rfl (by decide)) ?_
    refine AOpsX.no rfl rfl rfl rfl rfl rfl rfl (ble_of rfl (by decide)) ?_
    refine AOpsX.no rfl rfl rfl rfl rfl rfl rfl (ble_of rfl (by decide)) ?_
    refine AOpsX.no rfl rfl rfl rfl rfl rfl rfl (ble_of rfl (by decide)) ?_
    refine AOpsX.un rfl rfl rfl rfl rfl rfl rfl ?_
    refine AOpsX.un rfl rfl rfl rfl rfl rfl rfl ?_
    refine AOpsX.un rfl rfl rfl rfl rfl rfl rfl ?_
    refine AOpsX.un rfl rfl rfl rfl rfl rfl rfl ?_
    refine AOpsX.un rfl rfl rfl rfl rfl rfl rfl ?_
    refine AOpsX.un rfl rfl rfl rfl rfl rfl rfl ?_
    refine AOpsX.no rfl rfl rfl rfl rfl rfl rfl (ble_of rfl (by decide)) ?_
    refine AOpsX.cons rfl rfl (AOp.pickF (.bool false) rfl rfl rfl rfl ?_)
    refine AOpsX.consX rfl rfl (AOpX.need (b := false) (k := 12) (as_ := [.bool false, .int .i64 12]) rfl rfl (rfl) tf_35 (c_need _ _) (fun h => Bool.noConfusion h) (fun _ _ m2 => Or.inr ⟨_, rfl, _, gT hb1 (gT hck (gT hb95 (gT hb105 (gF (show cageHas s w = false from by simp only [cageHas, dash, Bool.and_eq_false_iff, Bool.or_eq_false_iff, Bool.and_eq_true, Bool.or_eq_true, decide_eq_true_eq, decide_eq_false_iff_not]; first | omega | (simp_all; done) | (simp_all; omega)))))), rfl, m122.trans m2⟩))
  ·
   rintro f170 H169 ⟨s171, s172, s173, o174, o175, o176, o177, h178, m179, hch⟩
   refine AWP.seq ?_
   refine AWP.regionX (l := [0, 1, 2, 3, 4]) rfl ?_
   refine AOpsX.cons rfl rfl (AOp.move (.sl (numsL ([(at_ w 2), (at_ w 3), (at_ w 5)] : List ByteArray)).length ((numsL ([(at_ w 2), (at_ w 3), (at_ w 5)] : List ByteArray)).map eI)) rfl s173 ?_)
   refine AOpsX.cons rfl rfl (AOp.indexAddrS rfl rfl rfl sl_47 (by omega) (by omega) ?_)
   refine AOpsX.cons rfl rfl (AOp.loadF (.int .i64 (at_ (numsL ([(at_ w 2), (at_ w 3), (at_ w 5)] : List ByteArray)) 0)) rfl rfl ty_3 (ld1 (by omega) (by omega)) ?_)
   refine AOpsX.cons rfl rfl (AOp.buildSlice (cells := [.int .i64 (at_ (numsL ([(at_ w 2), (at_ w 3), (at_ w 5)] : List ByteArray)) 0)]) rfl u_47 ts_3 tz_3 rfl rfl rfl ?_)
   intro i180 H181 n182 h183 k184
   have e185 := ne_new h178 n182
   have z186 := Mono.free m179 n182
   have h187 := keep k184 (ne_new h178 n182) h178
   have o188 := Own.keep o174 k184 (Own.notnew o174 n182)
   have no189 := Own.notnew o174 n182
   have o190 := Own.keep o175 k184 (Own.notnew o175 n182)
   have no191 := Own.notnew o175 n182
   have o192 := Own.keep o176 k184 (Own.notnew o176 n182)
   have no193 := Own.notnew o176 n182
   have o194 := MO.keep o177 k184 (MO.notnew o177 n182)
   have no195 := MO.notnew o177 n182
   have m196 := Mono.new m179 n182 k184
   obtain ⟨v197, e198⟩ : ∃ v : AV, v = .slm i180 0 1 0 1 := ⟨_, rfl⟩
   have o199 : Own B H181 1 v197 1 [.int .i64 (at_ (numsL ([(at_ w 2), (at_ w 3), (at_ w 5)] : List ByteArray)) 0)] := .inr ⟨_, _, e198, h183, z186, rfl⟩
   have no200 : NotId v197 id := by rw [e198]; exact NotId.slm e185
   have sp201 : Sep v197 vS := by rw [e198]; exact Sep.ofNotId no189
   have sp202 : Sep v197 vM := by rw [e198]; exact Sep.ofNotId no191
   have sp203 : Sep v197 vT := by rw [e198]; exact Sep.ofNotId no193
   have sp204 : SepM ((((rdL s vL vM vT vS vC vV vF vK).eraseIdx 3).eraseIdx 1).eraseIdx 1) v197 := by rw [e198]; exact SepM.ofNotId no195
   refine AOpsX.consX rfl rfl ?_
   refine AOpX.frz 74 (o199) e198.symm m196 fun H205 m206 k207 => ?_
   have h208 := (k207 _ no200).trans h187
   have o209 := Own.stay o188 (Sep.symm sp201) (fun i hi _ => k207 i hi)
   have o210 := Own.stay o190 (Sep.symm sp202) (fun i hi _ => k207 i hi)
   have o211 := Own.stay o192 (Sep.symm sp203) (fun i hi _ => k207 i hi)
   have o212 := MO.stay o194 sp204 (fun i hi _ => k207 i hi)
   refine AOpX.need (b := inB 0 2 ([at_ (numsL ([(at_ w 2), (at_ w 3), (at_ w 5)] : List ByteArray)) 0] : List Int)) (k := 11) (as_ := [.int .i64 0, .int .i64 2, .sl ([at_ (numsL ([(at_ w 2), (at_ w 3), (at_ w 5)] : List ByteArray)) 0] : List Int).length (([at_ (numsL ([(at_ w 2), (at_ w 3), (at_ w 5)] : List ByteArray)) 0] : List Int).map eI)]) rfl rfl (rfl) tf_36 (c_within _ _ ([at_ (numsL ([(at_ w 2), (at_ w 3), (at_ w 5)] : List ByteArray)) 0] : List Int) (by first | omega | assumption | (simp only [List.length_drop, List.length_take]; omega) | (simp; omega) | simp)) ?_ (fun hb _ m2 => Or.inr ⟨_, rfl, _, gT hb1 (gT hck (gT hb95 (gT hb105 (gT hch (gF hb))))), rfl, m206.trans m2⟩)
   intro hb213 H214 m215
   have h216 := m215 _ _ h208
   have o217 := Own.mono o209 m215
   have o218 := Own.mono o210 m215
   have o219 := Own.mono o211 m215
   have o220 := MO.mono o212 m215
   have m221 := m206.trans m215
   refine AOpsX.nil ?_
   change AWP _ _ _ _ _ _
   refine AWP.seq ?_
   refine AWP.regionX (l := [0, 1, 2, 3, 4]) rfl ?_
   refine AOpsX.cons rfl rfl (AOp.move (.sl (numsL ([(at_ w 2), (at_ w 3), (at_ w 5)] : List ByteArray)).length ((numsL ([(at_ w 2), (at_ w 3), (at_ w 5)] : List ByteArray)).map eI)) rfl s173 ?_)
   refine AOpsX.cons rfl rfl (AOp.indexAddrS rfl rfl rfl sl_47 (by omega) (by omega) ?_)
   refine AOpsX.cons rfl rfl (AOp.loadF (.int .i64 (at_ (numsL ([(at_ w 2), (at_ w 3), (at_ w 5)] : List ByteArray)) 1)) rfl rfl ty_3 (ld1 (by omega) (by omega)) ?_)
   refine AOpsX.cons rfl rfl (AOp.buildSlice (cells := [.int .i64 (at_ (numsL ([(at_ w 2), (at_ w 3), (at_ w 5)] : List ByteArray)) 1)]) rfl u_47 ts_3 tz_3 rfl rfl rfl ?_)
   intro i222 H223 n224 h225 k226
   have e227 := ne_new h216 n224
   have z228 := Mono.free m221 n224
   have h229 := keep k226 (ne_new h216 n224) h216
   have o230 := Own.keep o217 k226 (Own.notnew o217 n224)
   have no231 := Own.notnew o217 n224
   have o232 := Own.keep o218 k226 (Own.notnew o218 n224)
   have no233 := Own.notnew o218 n224
   have o234 := Own.keep o219 k226 (Own.notnew o219 n224)
   have no235 := Own.notnew o219 n224
   have o236 := MO.keep o220 k226 (MO.notnew o220 n224)
   have no237 := MO.notnew o220 n224
   have m238 := Mono.new m221 n224 k226
   obtain ⟨v239, e240⟩ : ∃ v : AV, v = .slm i222 0 1 0 1 := ⟨_, rfl⟩
   have o241 : Own B H223 1 v239 1 [.int .i64 (at_ (numsL ([(at_ w 2), (at_ w 3), (at_ w 5)] : List ByteArray)) 1)] := .inr ⟨_, _, e240, h225, z228, rfl⟩
   have no242 : NotId v239 id := by rw [e240]; exact NotId.slm e227
   have sp243 : Sep v239 vS := by rw [e240]; exact Sep.ofNotId no231
   have sp244 : Sep v239 vM := by rw [e240]; exact Sep.ofNotId no233
   have sp245 : Sep v239 vT := by rw [e240]; exact Sep.ofNotId no235
   have sp246 : SepM ((((rdL s vL vM vT vS vC vV vF vK).eraseIdx 3).eraseIdx 1).eraseIdx 1) v239 := by rw [e240]; exact SepM.ofNotId no237
   refine AOpsX.consX rfl rfl ?_
   refine AOpX.frz 79 (o241) e240.symm m238 fun H247 m248 k249 => ?_
   have h250 := (k249 _ no242).trans h229
   have o251 := Own.stay o230 (Sep.symm sp243) (fun i hi _ => k249 i hi)
   have o252 := Own.stay o232 (Sep.symm sp244) (fun i hi _ => k249 i hi)
   have o253 := Own.stay o234 (Sep.symm sp245) (fun i hi _ => k249 i hi)
   have o254 := MO.stay o236 sp246 (fun i hi _ => k249 i hi)
   refine AOpX.need (b := inB 1 65536 ([at_ (numsL ([(at_ w 2), (at_ w 3), (at_ w 5)] : List ByteArray)) 1] : List Int)) (k := 11) (as_ := [.int .i64 1, .int .i64 65536, .sl ([at_ (numsL ([(at_ w 2), (at_ w 3), (at_ w 5)] : List ByteArray)) 1] : List Int).length (([at_ (numsL ([(at_ w 2), (at_ w 3), (at_ w 5)] : List ByteArray)) 1] : List Int).map eI)]) rfl rfl (rfl) tf_36 (c_within _ _ ([at_ (numsL ([(at_ w 2), (at_ w 3), (at_ w 5)] : List ByteArray)) 1] : List Int) (by first | omega | assumption | (simp only [List.length_drop, List.length_take]; omega) | (simp; omega) | simp)) ?_ (fun hb _ m2 => Or.inr ⟨_, rfl, _, gT hb1 (gT hck (gT hb95 (gT hb105 (gT hch (gT hb213 (gF hb)))))), rfl, m248.trans m2⟩)
   intro hb255 H256 m257
   have h258 := m257 _ _ h250
   have o259 := Own.mono o251 m257
   have o260 := Own.mono o252 m257
   have o261 := Own.mono o253 m257
   have o262 := MO.mono o254 m257
   have m263 := m248.trans m257
   refine AOpsX.nil ?_
   change AWP _ _ _ _ _ _
   refine AWP.seq ?_
   refine AWP.regionX (l := [0, 1, 2, 3, 4]) rfl ?_
   refine AOpsX.cons rfl rfl (AOp.move (.sl (numsL ([(at_ w 2), (at_ w 3), (at_ w 5)] : List ByteArray)).length ((numsL ([(at_ w 2), (at_ w 3), (at_ w 5)] : List ByteArray)).map eI)) rfl s173 ?_)
   refine AOpsX.cons rfl rfl (AOp.indexAddrS rfl rfl rfl sl_47 (by omega) (by omega) ?_)
   refine AOpsX.cons rfl rfl (AOp.loadF (.int .i64 (at_ (numsL ([(at_ w 2), (at_ w 3), (at_ w 5)] : List ByteArray)) 2)) rfl rfl ty_3 (ld1 (by omega) (by omega)) ?_)
   refine AOpsX.cons rfl rfl (AOp.buildSlice (cells := [.int .i64 (at_ (numsL ([(at_ w 2), (at_ w 3), (at_ w 5)] : List ByteArray)) 2)]) rfl u_47 ts_3 tz_3 rfl rfl rfl ?_)
   intro i264 H265 n266 h267 k268
   have e269 := ne_new h258 n266
   have z270 := Mono.free m263 n266
   have h271 := keep k268 (ne_new h258 n266) h258
   have o272 := Own.keep o259 k268 (Own.notnew o259 n266)
   have no273 := Own.notnew o259 n266
   have o274 := Own.keep o260 k268 (Own.notnew o260 n266)
   have no275 := Own.notnew o260 n266
   have o276 := Own.keep o261 k268 (Own.notnew o261 n266)
   have no277 := Own.notnew o261 n266
   have o278 := MO.keep o262 k268 (MO.notnew o262 n266)
   have no279 := MO.notnew o262 n266
   have m280 := Mono.new m263 n266 k268
   obtain ⟨v281, e282⟩ : ∃ v : AV, v = .slm i264 0 1 0 1 := ⟨_, rfl⟩
   have o283 : Own B H265 1 v281 1 [.int .i64 (at_ (numsL ([(at_ w 2), (at_ w 3), (at_ w 5)] : List ByteArray)) 2)] := .inr ⟨_, _, e282, h267, z270, rfl⟩
   have no284 : NotId v281 id := by rw [e282]; exact NotId.slm e269
   have sp285 : Sep v281 vS := by rw [e282]; exact Sep.ofNotId no273
   have sp286 : Sep v281 vM := by rw [e282]; exact Sep.ofNotId no275
   have sp287 : Sep v281 vT := by rw [e282]; exact Sep.ofNotId no277
   have sp288 : SepM ((((rdL s vL vM vT vS vC vV vF vK).eraseIdx 3).eraseIdx 1).eraseIdx 1) v281 := by rw [e282]; exact SepM.ofNotId no279
   refine AOpsX.consX rfl rfl ?_
   refine AOpX.frz 84 (o283) e282.symm m280 fun H289 m290 k291 => ?_
   have h292 := (k291 _ no284).trans h271
   have o293 := Own.stay o272 (Sep.symm sp285) (fun i hi _ => k291 i hi)
   have o294 := Own.stay o274 (Sep.symm sp286) (fun i hi _ => k291 i hi)
   have o295 := Own.stay o276 (Sep.symm sp287) (fun i hi _ => k291 i hi)
   have o296 := MO.stay o278 sp288 (fun i hi _ => k291 i hi)
   refine AOpX.need (b := inB 0 255 ([at_ (numsL ([(at_ w 2), (at_ w 3), (at_ w 5)] : List ByteArray)) 2] : List Int)) (k := 11) (as_ := [.int .i64 0, .int .i64 255, .sl ([at_ (numsL ([(at_ w 2), (at_ w 3), (at_ w 5)] : List ByteArray)) 2] : List Int).length (([at_ (numsL ([(at_ w 2), (at_ w 3), (at_ w 5)] : List ByteArray)) 2] : List Int).map eI)]) rfl rfl (rfl) tf_36 (c_within _ _ ([at_ (numsL ([(at_ w 2), (at_ w 3), (at_ w 5)] : List ByteArray)) 2] : List Int) (by first | omega | assumption | (simp only [List.length_drop, List.length_take]; omega) | (simp; omega) | simp)) ?_ (fun hb _ m2 => Or.inr ⟨_, rfl, _, gT hb1 (gT hck (gT hb95 (gT hb105 (gT hch (gT hb213 (gT hb255 (gF hb))))))), rfl, m290.trans m2⟩)
   intro hb297 H298 m299
   have h300 := m299 _ _ h292
   have o301 := Own.mono o293 m299
   have o302 := Own.mono o294 m299
   have o303 := Own.mono o295 m299
   have o304 := MO.mono o296 m299
   have m305 := m290.trans m299
   refine AOpsX.nil ?_
   change AWP _ _ _ _ _ _
   refine AWP.seq ?_
   refine AWP.region_str mixed (by kernel_rfl) [(0, none), (1, none), (2, none), (3, none), (4, none), (5, none), (6, none), (7, none), (8, none), (9, none), (10, none), (11, none), (12, none), (13, none), (14, none), (15, none), (16, none), (17, none), (18, none), (19, none), (20, none), (21, none), (22, none), (23, none), (24, none), (25, none), (26, none), (27, none), (28, none), (29, some [0, 1, 2, 3, 4, 5]), (30, some [0])] [31, 32, 33, 34] (by kernel_rfl) ?_
   refine STR.op rfl rfl (.inl ⟨rfl, fun H1 f' H' hf hN hM => AOp.move (.ptr id ver 0) rfl ((hf 0 rfl).trans s171) ⟨rfl, hN⟩⟩) ?_
   refine STR.op rfl rfl (.inl ⟨rfl, fun H1 f' H' hf hN hM => AOp.move (.ptr id ver 0) rfl ((hf 0 rfl).trans s171) ⟨rfl, hN⟩⟩) ?_
   refine STR.op rfl rfl (.inl ⟨rfl, fun H1 f' H' hf hN hM => AOp.nilCheck (.ptr id ver 0) rfl ((hf 87 rfl).trans rfl) rfl ⟨rfl, hN⟩⟩) ?_
   refine STR.op rfl rfl (.inl ⟨rfl, fun H1 f' H' hf hN hM => AOp.fieldAddr rfl ((hf 88 rfl).trans rfl) fl_59_0 ⟨rfl, hN⟩ (hid := ⟨_, (hM _ _ h300)⟩)⟩) ?_
   refine STR.op rfl rfl (.inl ⟨rfl, fun H1 f' H' hf hN hM => AOp.fieldAddr rfl ((hf 89 rfl).trans rfl) fl_35_5 ⟨rfl, hN⟩ (hid := ⟨_, (hM _ _ h300)⟩)⟩) ?_
   refine STR.op rfl rfl (.inl ⟨rfl, fun H1 f' H' hf hN hM => AOp.load (vS) rfl ((hf 90 rfl).trans rfl) ty_32 (hM _ _ h300) rfl ⟨rfl, hN⟩⟩) ?_
   refine STR.op rfl rfl (.inl ⟨rfl, fun H1 f' H' hf hN hM => AOp.move (.sl w.length (w.map eStr)) rfl ((hf 1 rfl).trans s172) ⟨rfl, hN⟩⟩) ?_
   refine STR.op rfl rfl (.inl ⟨rfl, fun H1 f' H' hf hN hM => AOp.indexAddrS rfl ((hf 92 rfl).trans rfl) rfl sl_52 (by omega) (by omega) ⟨rfl, hN⟩⟩) ?_
   refine STR.op rfl rfl (.inl ⟨rfl, fun H1 f' H' hf hN hM => AOp.loadF (.str (at_ w 0)) rfl ((hf 93 rfl).trans rfl) ty_9 (ld1 (by omega) (by omega)) ⟨rfl, hN⟩⟩) ?_
   refine STR.op rfl rfl (.inl ⟨rfl, fun H1 f' H' hf hN hM => AOp.move (.ptr id ver 0) rfl ((hf 0 rfl).trans s171) ⟨rfl, hN⟩⟩) ?_
   refine STR.op rfl rfl (.inl ⟨rfl, fun H1 f' H' hf hN hM => AOp.move (.sl w.length (w.map eStr)) rfl ((hf 1 rfl).trans s172) ⟨rfl, hN⟩⟩) ?_
   refine STR.op rfl rfl (.inl ⟨rfl, fun H1 f' H' hf hN hM => AOp.indexAddrS rfl ((hf 96 rfl).trans rfl) rfl sl_52 (by omega) (by omega) ⟨rfl, hN⟩⟩) ?_
   refine STR.op rfl rfl (.inl ⟨rfl, fun H1 f' H' hf hN hM => AOp.loadF (.str (at_ w 1)) rfl ((hf 97 rfl).trans rfl) ty_9 (ld1 (by omega) (by omega)) ⟨rfl, hN⟩⟩) ?_
   refine STR.op rfl rfl (.inl ⟨rfl, fun H1 f' H' hf hN hM => AOp.pcallH («as» := [.ptr id ver 0, .str (at_ w 1)]) rfl rfl (lapp (lcons ((hf 95 rfl).trans rfl) (lcons ((hf 98 rfl).trans rfl) rfl)) rfl) tf_42 ((c_xMat (B := B) (hM _ _ h300) (o302.mono hM) (by have := ok.m; omega) (at_ w 1))) fun H2 m2 => ⟨rfl, hN.trans m2⟩⟩) ?_
   refine STR.op rfl rfl (.inl ⟨rfl, fun H1 f' H' hf hN hM => AOp.move (.sl (numsL ([(at_ w 2), (at_ w 3), (at_ w 5)] : List ByteArray)).length ((numsL ([(at_ w 2), (at_ w 3), (at_ w 5)] : List ByteArray)).map eI)) rfl ((hf 4 rfl).trans s173) ⟨rfl, hN⟩⟩) ?_
   refine STR.op rfl rfl (.inl ⟨rfl, fun H1 f' H' hf hN hM => AOp.indexAddrS rfl ((hf 100 rfl).trans rfl) rfl sl_47 (by omega) (by omega) ⟨rfl, hN⟩⟩) ?_
   refine STR.op rfl rfl (.inl ⟨rfl, fun H1 f' H' hf hN hM => AOp.loadF (.int .i64 (at_ (numsL ([(at_ w 2), (at_ w 3), (at_ w 5)] : List ByteArray)) 0)) rfl ((hf 101 rfl).trans rfl) ty_3 (ld1 (by omega) (by omega)) ⟨rfl, hN⟩⟩) ?_
   refine STR.op rfl rfl (.inl ⟨rfl, fun H1 f' H' hf hN hM => AOp.move (.sl (numsL ([(at_ w 2), (at_ w 3), (at_ w 5)] : List ByteArray)).length ((numsL ([(at_ w 2), (at_ w 3), (at_ w 5)] : List ByteArray)).map eI)) rfl ((hf 4 rfl).trans s173) ⟨rfl, hN⟩⟩) ?_
   refine STR.op rfl rfl (.inl ⟨rfl, fun H1 f' H' hf hN hM => AOp.indexAddrS rfl ((hf 103 rfl).trans rfl) rfl sl_47 (by omega) (by omega) ⟨rfl, hN⟩⟩) ?_
   refine STR.op rfl rfl (.inl ⟨rfl, fun H1 f' H' hf hN hM => AOp.loadF (.int .i64 (at_ (numsL ([(at_ w 2), (at_ w 3), (at_ w 5)] : List ByteArray)) 1)) rfl ((hf 104 rfl).trans rfl) ty_3 (ld1 (by omega) (by omega)) ⟨rfl, hN⟩⟩) ?_
   refine STR.op rfl rfl (.inl ⟨rfl, fun H1 f' H' hf hN hM => AOp.move (.ptr id ver 0) rfl ((hf 0 rfl).trans s171) ⟨rfl, hN⟩⟩) ?_
   refine STR.op rfl rfl (.inl ⟨rfl, fun H1 f' H' hf hN hM => AOp.move (.sl w.length (w.map eStr)) rfl ((hf 1 rfl).trans s172) ⟨rfl, hN⟩⟩) ?_
   refine STR.op rfl rfl (.inl ⟨rfl, fun H1 f' H' hf hN hM => AOp.indexAddrS rfl ((hf 107 rfl).trans rfl) rfl sl_52 (by omega) (by omega) ⟨rfl, hN⟩⟩) ?_
   refine STR.op rfl rfl (.inl ⟨rfl, fun H1 f' H' hf hN hM => AOp.loadF (.str (at_ w 4)) rfl ((hf 108 rfl).trans rfl) ty_9 (ld1 (by omega) (by omega)) ⟨rfl, hN⟩⟩) ?_
   refine STR.op rfl rfl (.inl ⟨rfl, fun H1 f' H' hf hN hM => AOp.pcallH («as» := [.ptr id ver 0, .str (at_ w 4)]) rfl rfl (lapp (lcons ((hf 106 rfl).trans rfl) (lcons ((hf 109 rfl).trans rfl) rfl)) rfl) tf_41 ((c_xTex (B := B) (hM _ _ h300) (o303.mono hM) (by have := ok.t; omega) (at_ w 4))) fun H2 m2 => ⟨rfl, hN.trans m2⟩⟩) ?_
   refine STR.op rfl rfl (.inl ⟨rfl, fun H1 f' H' hf hN hM => AOp.move (.sl (numsL ([(at_ w 2), (at_ w 3), (at_ w 5)] : List ByteArray)).length ((numsL ([(at_ w 2), (at_ w 3), (at_ w 5)] : List ByteArray)).map eI)) rfl ((hf 4 rfl).trans s173) ⟨rfl, hN⟩⟩) ?_
   refine STR.op rfl rfl (.inl ⟨rfl, fun H1 f' H' hf hN hM => AOp.indexAddrS rfl ((hf 111 rfl).trans rfl) rfl sl_47 (by omega) (by omega) ⟨rfl, hN⟩⟩) ?_
   refine STR.op rfl rfl (.inl ⟨rfl, fun H1 f' H' hf hN hM => AOp.loadF (.int .i64 (at_ (numsL ([(at_ w 2), (at_ w 3), (at_ w 5)] : List ByteArray)) 2)) rfl ((hf 112 rfl).trans rfl) ty_3 (ld1 (by omega) (by omega)) ⟨rfl, hN⟩⟩) ?_
   refine STR.op rfl rfl (.inl ⟨rfl, fun H1 f' H' hf hN hM => AOp.build (cells := [.str (at_ w 0), .int .i64 (matX s (at_ w 1)), .int .i64 (at_ (numsL ([(at_ w 2), (at_ w 3), (at_ w 5)] : List ByteArray)) 0), .int .i64 (at_ (numsL ([(at_ w 2), (at_ w 3), (at_ w 5)] : List ByteArray)) 1), .int .i64 (texX s (at_ w 4)), .int .i64 (at_ (numsL ([(at_ w 2), (at_ w 3), (at_ w 5)] : List ByteArray)) 2)]) rfl tz_41 pl_41 (lconsP ((hf 94 rfl).trans rfl) (lconsP ((hf 99 rfl).trans rfl) (lconsP ((hf 102 rfl).trans rfl) (lconsP ((hf 105 rfl).trans rfl) (lconsP ((hf 110 rfl).trans rfl) (lconsP ((hf 113 rfl).trans rfl) rfl)))))) rfl ⟨rfl, hN⟩⟩) ?_
   refine STR.eff rfl rfl rfl fun f306 H307 hf308 m309 => ?_
   have h310 := m309 _ _ h300
   have o311 := Own.mono o301 m309
   have o312 := Own.mono o302 m309
   have o313 := Own.mono o303 m309
   have o314 := MO.mono o304 m309
   have m315 := m305.trans m309
   refine AOp.buildSlice (cells := [.str (at_ w 0), .int .i64 (matX s (at_ w 1)), .int .i64 (at_ (numsL ([(at_ w 2), (at_ w 3), (at_ w 5)] : List ByteArray)) 0), .int .i64 (at_ (numsL ([(at_ w 2), (at_ w 3), (at_ w 5)] : List ByteArray)) 1), .int .i64 (texX s (at_ w 4)), .int .i64 (at_ (numsL ([(at_ w 2), (at_ w 3), (at_ w 5)] : List ByteArray)) 2)]) rfl u_32 ts_41 tz_41 rfl (lconsP ((hf308 114 rfl).trans rfl) rfl) rfl ?_
   intro i316 H317 n318 h319 k320
   have e321 := ne_new h310 n318
   have z322 := Mono.free m315 n318
   have h323 := keep k320 (ne_new h310 n318) h310
   have o324 := Own.keep o311 k320 (Own.notnew o311 n318)
   have no325 := Own.notnew o311 n318
   have o326 := Own.keep o312 k320 (Own.notnew o312 n318)
   have no327 := Own.notnew o312 n318
   have o328 := Own.keep o313 k320 (Own.notnew o313 n318)
   have no329 := Own.notnew o313 n318
   have o330 := MO.keep o314 k320 (MO.notnew o314 n318)
   have no331 := MO.notnew o314 n318
   have m332 := Mono.new m315 n318 k320
   refine ⟨_, rfl, .inl (Mono.new (Mono.refl _) n318 k320), ?_⟩
   refine STR.eff rfl rfl rfl fun f333 H334 hf335 m336 => ?_
   have h337 := m336 _ _ h323
   have h338 := m336 _ _ h319
   have o339 := Own.mono o324 m336
   have o340 := Own.mono o326 m336
   have o341 := Own.mono o328 m336
   have o342 := MO.mono o330 m336
   have m343 := m332.trans m336
   refine AOp.append_own (es := 6) (m := 1) (len := s.skins.length) (old := s.skins.flatMap eSkin) (cells := [.str (at_ w 0), .int .i64 (matX s (at_ w 1)), .int .i64 (at_ (numsL ([(at_ w 2), (at_ w 3), (at_ w 5)] : List ByteArray)) 0), .int .i64 (at_ (numsL ([(at_ w 2), (at_ w 3), (at_ w 5)] : List ByteArray)) 1), .int .i64 (texX s (at_ w 4)), .int .i64 (at_ (numsL ([(at_ w 2), (at_ w 3), (at_ w 5)] : List ByteArray)) 2)]) rfl u_32 ts_41 tzn_41 tb_41 (by decide) ni_32 ((hf335 91 rfl).trans rfl) o339 m343 ((hf335 115 rfl).trans rfl) (.slm h338 rfl) (one_of rfl) (by decide) (by first | omega | (simp; omega)) ?_
   intro v344 H345 o346 m347 k348 j349
   have o350 := Own.snocM (xs := (s.skins : List SkinT)) (y := (SkinT.mk (at_ w 0) (matX s (at_ w 1)) (at_ (numsL ([(at_ w 2), (at_ w 3), (at_ w 5)] : List ByteArray)) 0) (at_ (numsL ([(at_ w 2), (at_ w 3), (at_ w 5)] : List ByteArray)) 1) (texX s (at_ w 4)) (at_ (numsL ([(at_ w 2), (at_ w 3), (at_ w 5)] : List ByteArray)) 2))) (e := eSkin) (by simp) o346
   have h351 := (k348 _ nS (by rw [h337]; simp)).trans h337
   have no352 := j349 _ nS (by rw [h337]; simp)
   have sp354 := Own.sep o340 sMS j349
   have o353 := Own.stay o340 sMS k348
   have sp356 := Own.sep o341 sTS j349
   have o355 := Own.stay o341 sTS k348
   have sp358 := MO.sep o342 sp1c j349
   have o357 := MO.stay o342 sp1c k348
   refine ⟨_, rfl, .inr (RevR.skip rfl (RevR.skip rfl (RevR.skip rfl (RevR.skip rfl (RevR.skip rfl (RevR.skip rfl (RevR.skip rfl (RevR.skip rfl (RevR.skip rfl (RevR.skip rfl (RevR.skip rfl (RevR.skip rfl (RevR.skip rfl (RevR.skip rfl (RevR.skip rfl (RevR.skip rfl (RevR.skip rfl (RevR.skip rfl (RevR.skip rfl (RevR.skip rfl (RevR.skip rfl (RevR.skip rfl (RevR.skip rfl (RevR.skip rfl (RevR.skip rfl (RevR.skip rfl (RevR.skip rfl (RevR.skip rfl (RevR.skip rfl (RevR.cons rfl (.inl ⟨rfl, fun H1 f' H' hf hN hM => AOp.move (.ptr id ver 0) rfl ((hf 0 rfl).trans s171) ⟨rfl, hN⟩⟩) RevR.nil)))))))))))))))))))))))))))))), ?_⟩
   refine STR.done fun H359 m360 => ?_
   have h361 := m360 _ _ h351
   have o362 := Own.mono o353 m360
   have o363 := Own.mono o355 m360
   have o364 := MO.mono o357 m360
   have o365 := Own.mono o350 m360
   have m366 := m347.trans m360
   refine AOps.cons rfl rfl (AOp.nilCheck (.ptr id ver 0) rfl rfl rfl ?_)
   refine AOps.cons rfl rfl (AOp.fieldAddr rfl rfl fl_59_0 ?_ (hid := ⟨_, h361⟩))
   refine AOps.cons rfl rfl (AOp.fieldAddr rfl rfl fl_35_5 ?_ (hid := ⟨_, h361⟩))
   refine AOps.cons rfl rfl (AOp.storeO (cells' := rdC s.cam s.sky vL vM vT v344 vC s.hc s.hs) rfl rfl o365 ts_32 h361 rfl rfl ?_)
   intro H367 h368 k369
   have o371 := Own.keep o362 k369 nM
   have o372 := Own.keep o363 k369 nT
   have o373 := MO.keep o364 k369 ng3
   have o374 := Own.keep o365 k369 no352
   have m375 := Mono.set m366 hB k369
   refine AOps.nil ?_
   change AWP _ _ _ _ _ _
   have hRD : RDv B H367 id ver { s with skins := (s.skins ++ [(SkinT.mk (at_ w 0) (matX s (at_ w 1)) (at_ (numsL ([(at_ w 2), (at_ w 3), (at_ w 5)] : List ByteArray)) 0) (at_ (numsL ([(at_ w 2), (at_ w 3), (at_ w 5)] : List ByteArray)) 1) (texX s (at_ w 4)) (at_ (numsL ([(at_ w 2), (at_ w 3), (at_ w 5)] : List ByteArray)) 2))]) } vL vM vT v344 vC vV vF vK := ⟨h368, hB, (MO.put (L := (rdL s vL vM vT vS vC vV vF vK)) (e := (6, v344, (s.skins ++ [(SkinT.mk (at_ w 0) (matX s (at_ w 1)) (at_ (numsL ([(at_ w 2), (at_ w 3), (at_ w 5)] : List ByteArray)) 0) (at_ (numsL ([(at_ w 2), (at_ w 3), (at_ w 5)] : List ByteArray)) 1) (texX s (at_ w 4)) (at_ (numsL ([(at_ w 2), (at_ w 3), (at_ w 5)] : List ByteArray)) 2))]).length, (s.skins ++ [(SkinT.mk (at_ w 0) (matX s (at_ w 1)) (at_ (numsL ([(at_ w 2), (at_ w 3), (at_ w 5)] : List ByteArray)) 0) (at_ (numsL ([(at_ w 2), (at_ w 3), (at_ w 5)] : List ByteArray)) 1) (texX s (at_ w 4)) (at_ (numsL ([(at_ w 2), (at_ w 3), (at_ w 5)] : List ByteArray)) 2))]).flatMap eSkin)) 3 (by simp [rdL]) (MO.put (L := ((rdL s vL vM vT vS vC vV vF vK).eraseIdx 3)) (e := (9, vM, s.mats.length, s.mats.flatMap eMat)) 1 (by simp [rdL]) (MO.put (L := (((rdL s vL vM vT vS vC vV vF vK).eraseIdx 3).eraseIdx 1)) (e := (4, vT, s.texs.length, s.texs.flatMap eTex)) 1 (by simp [rdL]) o373 o372 sp3) o371 (SepM.put (L := (((rdL s vL vM vT vS vC vV vF vK).eraseIdx 3).eraseIdx 1)) (e := (4, vT, s.texs.length, s.texs.flatMap eTex)) 1 sp2b sTM)) o374 (SepM.put (L := ((rdL s vL vM vT vS vC vV vF vK).eraseIdx 3)) (e := (9, vM, s.mats.length, s.mats.flatMap eMat)) 1 (SepM.put (L := (((rdL s vL vM vT vS vC vV vF vK).eraseIdx 3).eraseIdx 1)) (e := (4, vT, s.texs.length, s.texs.flatMap eTex)) 1 sp358 sp356) sp354)), (NotIdM.put (L := (rdL s vL vM vT vS vC vV vF vK)) (e := (6, v344, (s.skins ++ [(SkinT.mk (at_ w 0) (matX s (at_ w 1)) (at_ (numsL ([(at_ w 2), (at_ w 3), (at_ w 5)] : List ByteArray)) 0) (at_ (numsL ([(at_ w 2), (at_ w 3), (at_ w 5)] : List ByteArray)) 1) (texX s (at_ w 4)) (at_ (numsL ([(at_ w 2), (at_ w 3), (at_ w 5)] : List ByteArray)) 2))]).length, (s.skins ++ [(SkinT.mk (at_ w 0) (matX s (at_ w 1)) (at_ (numsL ([(at_ w 2), (at_ w 3), (at_ w 5)] : List ByteArray)) 0) (at_ (numsL ([(at_ w 2), (at_ w 3), (at_ w 5)] : List ByteArray)) 1) (texX s (at_ w 4)) (at_ (numsL ([(at_ w 2), (at_ w 3), (at_ w 5)] : List ByteArray)) 2))]).flatMap eSkin)) 3 (NotIdM.put (L := ((rdL s vL vM vT vS vC vV vF vK).eraseIdx 3)) (e := (9, vM, s.mats.length, s.mats.flatMap eMat)) 1 (NotIdM.put (L := (((rdL s vL vM vT vS vC vV vF vK).eraseIdx 3).eraseIdx 1)) (e := (4, vT, s.texs.length, s.texs.flatMap eTex)) 1 ng3 nT) nM) no352)⟩
   refine AWP.freezeC hRD m375 fun H5 m5 hr5 g5 n5 => ?_
   obtain ⟨oC5, og5, sp5⟩ := g5.at 4 rfl
   have oC6 : Own B H5 3 vC (s.cages.map some).length ((s.cages.map some).flatMap eCg) := Own.re oC5 (by simp) (eCg_all _).symm
   have nC5 : NotId vC id := n5.at 4 rfl
   have n6 := n5.erase 4
   have hcc := ok.c
   refine AWP.region (l := [0, 1, 2, 3, 4, 5, 6, 7, 8, 9, 10, 11, 12]) rfl ?_
   refine AOps.cons rfl rfl (AOp.move (.ptr id ver 0) rfl s171 ?_)
   refine AOps.cons rfl rfl (AOp.move (.ptr id ver 0) rfl s171 ?_)
   refine AOps.cons rfl rfl (AOp.nilCheck (.ptr id ver 0) rfl rfl rfl ?_)
   refine AOps.cons rfl rfl (AOp.fieldAddr rfl rfl fl_59_0 ?_ (hid := ⟨_, hr5⟩))
   refine AOps.cons rfl rfl (AOp.fieldAddr rfl rfl fl_35_6 ?_ (hid := ⟨_, hr5⟩))
   refine AOps.cons rfl rfl (AOp.load (vC) rfl rfl ty_33 hr5 rfl ?_)
   refine AOps.cons rfl rfl (AOp.build (cells := [.snil, .snil, .snil]) rfl tz_46 pl_46 rfl rfl ?_)
   refine AOps.cons rfl rfl (AOp.buildSlice (cells := [.snil, .snil, .snil]) rfl u_33 ts_46 tz_46 rfl rfl rfl ?_)
   intro i376 H377 n378 h379 k380
   have e381 := ne_new hr5 n378
   have z382 := Mono.free m5 n378
   have h383 := keep k380 (ne_new hr5 n378) hr5
   have o384 := Own.keep oC6 k380 (Own.notnew oC6 n378)
   have no385 := Own.notnew oC6 n378
   have o386 := MO.keep og5 k380 (MO.notnew og5 n378)
   have no387 := MO.notnew og5 n378
   have m388 := Mono.new m5 n378 k380
   refine AOps.cons rfl rfl (AOp.append_own (es := 3) (m := 1) (len := ((s.cages.map some).length)) (old := (s.cages.map some).flatMap eCg) (cells := [.snil, .snil, .snil]) rfl u_33 ts_46 tzn_46 tb_46 (by decide) ni_33 rfl o384 m388 rfl (.slm h379 rfl) (one_of rfl) (by decide) (by first | omega | (simp; omega)) ?_)
   intro v389 H390 o391 m392 k393 j394
   have o395 := Own.snocM (xs := ((s.cages.map some) : List (Option CageT))) (y := (none : Option CageT)) (e := eCg) (by simp) o391
   have h396 := (k393 _ nC5 (by rw [h383]; simp)).trans h383
   have no397 := j394 _ nC5 (by rw [h383]; simp)
   have sp399 := MO.sep o386 sp5 j394
   have o398 := MO.stay o386 sp5 k393
   refine AOps.cons rfl rfl (AOp.nilCheck (.ptr id ver 0) rfl rfl rfl ?_)
   refine AOps.cons rfl rfl (AOp.fieldAddr rfl rfl fl_59_0 ?_ (hid := ⟨_, h396⟩))
   refine AOps.cons rfl rfl (AOp.fieldAddr rfl rfl fl_35_6 ?_ (hid := ⟨_, h396⟩))
   refine AOps.cons rfl rfl (AOp.storeO (cells' := rdC s.cam s.sky vL vM vT v344 v389 s.hc s.hs) rfl rfl o395 ts_33 h396 rfl rfl ?_)
   intro H400 h401 k402
   have o404 := MO.keep o398 k402 n6
   have o405 := Own.keep o395 k402 no397
   have m406 := Mono.set m392 hB k402
   refine AOps.nil ?_
   refine Or.inl ?_
   refine ⟨_, _, Ghost.refl, .inl rfl, _, Res.zero rfl, _, gT hb1 (gT hck (gT hb95 (gT hb105 (gT hch (gT hb213 (gT hb255 (gT hb297 rfl))))))), ⟨_, _, _, _, _, _, _, _, RDv.push (s := { s with skins := (s.skins ++ [(SkinT.mk (at_ w 0) (matX s (at_ w 1)) (at_ (numsL ([(at_ w 2), (at_ w 3), (at_ w 5)] : List ByteArray)) 0) (at_ (numsL ([(at_ w 2), (at_ w 3), (at_ w 5)] : List ByteArray)) 1) (texX s (at_ w 4)) (at_ (numsL ([(at_ w 2), (at_ w 3), (at_ w 5)] : List ByteArray)) 2))]) }) h401 hB (MO.put (L := [(6, vL, s.lights.length, s.lights.flatMap eLight), (9, vM, s.mats.length, s.mats.flatMap eMat), (4, vT, s.texs.length, s.texs.flatMap eTex), (6, v344, (s.skins ++ [(SkinT.mk (at_ w 0) (matX s (at_ w 1)) (at_ (numsL ([(at_ w 2), (at_ w 3), (at_ w 5)] : List ByteArray)) 0) (at_ (numsL ([(at_ w 2), (at_ w 3), (at_ w 5)] : List ByteArray)) 1) (texX s (at_ w 4)) (at_ (numsL ([(at_ w 2), (at_ w 3), (at_ w 5)] : List ByteArray)) 2))]).length, (s.skins ++ [(SkinT.mk (at_ w 0) (matX s (at_ w 1)) (at_ (numsL ([(at_ w 2), (at_ w 3), (at_ w 5)] : List ByteArray)) 0) (at_ (numsL ([(at_ w 2), (at_ w 3), (at_ w 5)] : List ByteArray)) 1) (texX s (at_ w 4)) (at_ (numsL ([(at_ w 2), (at_ w 3), (at_ w 5)] : List ByteArray)) 2))]).flatMap eSkin), (3, vC, s.cages.length, s.cages.flatMap eCage)]) (e := (3, v389, s.cages.length + 1, s.cages.flatMap eCage ++ ([.snil, .snil, .snil] : List AV))) 4 (by simp) o404 (Own.re o405 (by simp) (eCg_push _)) sp399) (NotIdM.put (L := [(6, vL, s.lights.length, s.lights.flatMap eLight), (9, vM, s.mats.length, s.mats.flatMap eMat), (4, vT, s.texs.length, s.texs.flatMap eTex), (6, v344, (s.skins ++ [(SkinT.mk (at_ w 0) (matX s (at_ w 1)) (at_ (numsL ([(at_ w 2), (at_ w 3), (at_ w 5)] : List ByteArray)) 0) (at_ (numsL ([(at_ w 2), (at_ w 3), (at_ w 5)] : List ByteArray)) 1) (texX s (at_ w 4)) (at_ (numsL ([(at_ w 2), (at_ w 3), (at_ w 5)] : List ByteArray)) 2))]).length, (s.skins ++ [(SkinT.mk (at_ w 0) (matX s (at_ w 1)) (at_ (numsL ([(at_ w 2), (at_ w 3), (at_ w 5)] : List ByteArray)) 0) (at_ (numsL ([(at_ w 2), (at_ w 3), (at_ w 5)] : List ByteArray)) 1) (texX s (at_ w 4)) (at_ (numsL ([(at_ w 2), (at_ w 3), (at_ w 5)] : List ByteArray)) 2))]).flatMap eSkin), (3, vC, s.cages.length, s.cages.flatMap eCage)]) (e := (3, v389, s.cages.length + 1, s.cages.flatMap eCage ++ ([.snil, .snil, .snil] : List AV))) 4 n6 no397)⟩, m406, rfl⟩
end Go.Proofs.S
namespace Go.AH
set_option linter.unusedSectionVars false
open Go
abbrev withD (G : Globs) (ds : List Deferred) : Globs := { val := G.val, blk := G.blk, dfr := ds }
theorem HR.toD {G : Globs} {ds : List Deferred} {w : World} {μ : Nat → Nat} {H : Heap} (h : @HR G w μ H) : @HR (withD G ds) w μ H :=
  @HR.mk (withD G ds) w μ H h.rows h.maps h.born h.iters h.inj h.fin (@GOK.mk (withD G ds) w μ H h.glob.val h.glob.blk)
theorem HR.ofD {G : Globs} {ds : List Deferred} {w : World} {μ : Nat → Nat} {H : Heap} (h : @HR (withD G ds) w μ H) : @HR G w μ H :=
  let D := withD G ds
  @HR.mk G w μ H (@HR.rows D _ _ _ h) (@HR.maps D _ _ _ h) (@HR.born D _ _ _ h) (@HR.iters D _ _ _ h) (@HR.inj D _ _ _ h) (@HR.fin D _ _ _ h) (@GOK.mk G w μ H (@GOK.val D _ _ _ (@HR.glob D _ _ _ h)) (@GOK.blk D _ _ _ (@HR.glob D _ _ _ h)))
theorem ACallsX.toD {G : Globs} {ds : List Deferred} {P : Program} {g : FuncId} {args : List AV} {H : Heap} {R : AV → Heap → Prop} {X : List PanicEntry → Heap → Prop} (h : @ACallsX G P g args H R X) : @ACallsX (withD G ds) P g args H R X := by
  intro μ w vs hr hv
  refine (h μ w vs hr.ofD hv).mono ?_
  rintro e w' (⟨v, h1, μ', H', r, h2, h3, h4, h5⟩ | ⟨ch, h1, μ', H', h2, h3, h4⟩)
  · exact .inl ⟨v, h1, μ', H', r, h2.toD, h3, h4, h5⟩
  · exact .inr ⟨ch, h1, μ', H', h2.toD, h3, h4⟩
theorem cell_set [Globs] {w : World} {μ : Nat → Nat} {H : Heap} (hr : HR w μ H) {i : Nat} {m k : Int} (hi : H i = some (.row 0 [.int .i64 m])) :
    w.cell? ⟨μ i, 0, none⟩ = some (.int .i64 m) ∧ w.frozen? ⟨μ i, 0, none⟩ = false ∧ (w.setCell ⟨μ i, 0, none⟩ (.int .i64 k)).cell? ⟨μ i, 0, none⟩ = some (.int .i64 k) ∧
    Ext w μ H (w.setCell ⟨μ i, 0, none⟩ (.int .i64 k)) μ (updH H i (.row 0 [.int .i64 k])) ∧ HR (w.setCell ⟨μ i, 0, none⟩ (.int .i64 k)) μ (updH H i (.row 0 [.int .i64 k])) := by
  obtain ⟨cs, T, b1, b2, b3⟩ := hr.rows i 0 _ hi
  obtain ⟨y, y1, y2⟩ := b3 0 _ rfl
  cases y2
  have hlt : 0 < cs.size := b2
  have h1 : (w.setCell ⟨μ i, 0, none⟩ (.int .i64 k)).heap[μ i]? = some (.cells (cs.setIfInBounds 0 (.int .i64 k)) T (0, 0)) := by
    simp [World.setCell, Array.getElem?_modify, b1]
  refine ⟨by simp [World.cell?, b1, y1], by simp [World.frozen?, b1], by simp [World.cell?, h1, hlt], ?_⟩
  refine setrow (w := w) (w' := w.setCell ⟨μ i, 0, none⟩ (.int .i64 k)) (cells' := [.int .i64 k]) (show Rest w (w.setCell ⟨μ i, 0, none⟩ (.int .i64 k)) from ⟨rfl, rfl, rfl, fun _ => Nat.le_refl _⟩) hr (Nat.le_refl 0) hi b1 h1 (by simp) (fun b' h => by simp [World.setCell, Array.getElem?_modify, Ne.symm h]) (by simp [World.setCell]) (by simp; omega) fun j x hx => ?_
  match j, hx with
  | 0, hx => cases hx; exact ⟨.int .i64 k, by simp [hlt], .int _ _⟩
  | j + 1, hx => simp at hx
end Go.AH
namespace Go.Proofs.S
open Go Go.AH Go.Proofs.L
set_option maxRecDepth 4000
set_option maxHeartbeats 4000000
set_option linter.unusedSimpArgs false
set_option linter.unusedVariables false
set_option linter.unusedSectionVars false
theorem run_ta (k : Int) (w : World) : (Instr.typeAssert (.iface 36 (.int .i64 k)) 20 36 false).run Tryd.prog w = .ok (.int .i64 k) w := rfl
theorem catch_p (p : Addr) (x k : Int) (w : World) (hc : w.cell? p = some (.int .i64 x)) (hz : w.frozen? p = false) :
    CallsD Tryd.prog 19 #[.pointer (some p)] (.panicking ({ v := .iface 36 (.int .i64 k), recovered := false } :: [])) w fun e u' w' =>
      e = .returned (.tuple #[]) ∧ u' = .panicking ({ v := .iface 36 (.int .i64 k), recovered := true } :: []) ∧ w' = w.setCell p (.int .i64 k) := by
  refine callsD_of_wpS Tryd.func19 rfl fun c₀ cs hu => ?_
  apply wpS_seq
  apply wpS_region
  simp [wpOpsS, go_sem, recoverD, hu, Tryd.ntmps19, Exit.thenS]
  apply wpS_seq
  apply wpS_region
  simp [wpOpsS, go_sem, Exit.thenS]
  refine wpS_cond (t := true) (by simp [Act.eval, Array.replicate]) ?_
  simp only [if_true]
  apply wpS_region
  simp [wpOpsS, go_sem, run_ta, hc, hz, bodyPostS, results, Tryd.results19]
theorem catch_i (p : Addr) (w : World) :
    CallsD Tryd.prog 19 #[.pointer (some p)] .returning w fun e u' w' => e = .returned (.tuple #[]) ∧ u' = .returning ∧ w' = w := by
  refine callsD_of_wpS Tryd.func19 rfl fun c₀ cs hu => ?_
  apply wpS_seq
  apply wpS_region
  simp [wpOpsS, go_sem, recoverD, hu, Tryd.ntmps19, Exit.thenS]
  apply wpS_seq
  apply wpS_region
  simp [wpOpsS, go_sem, Exit.thenS]
  refine wpS_cond (t := false) (by simp [Act.eval, Array.replicate]) ?_
  simp only [Bool.false_eq_true, if_false]
  refine wpS_of_wp (wp_skip ?_)
  cases c₀
  simp_all [bodyPostS, results, Tryd.results19]
variable [LexG]
theorem line_Camera {s : Rd} {w : List ByteArray} (h : at_ w 0 = kCamera) : lineP s w = cameraP s (w.drop 1) := if_pos h
theorem line_Sky {s : Rd} {w : List ByteArray} (h : at_ w 0 = kSky) : lineP s w = skyP s (w.drop 1) := by
  unfold lineP; rw [h, if_neg (by decide), if_pos rfl]
theorem line_Light {s : Rd} {w : List ByteArray} (h : at_ w 0 = kLight) : lineP s w = lightP s (w.drop 1) := by
  unfold lineP; rw [h, if_neg (by decide), if_neg (by decide), if_pos rfl]
theorem line_Texture {s : Rd} {w : List ByteArray} (h : at_ w 0 = kTexture) : lineP s w = textureP s (w.drop 1) := by
  unfold lineP; rw [h, if_neg (by decide), if_neg (by decide), if_neg (by decide), if_pos rfl]
theorem line_Material {s : Rd} {w : List ByteArray} (h : at_ w 0 = kMaterial) : lineP s w = materialP s (w.drop 1) := by
  unfold lineP; rw [h, if_neg (by decide), if_neg (by decide), if_neg (by decide), if_neg (by decide), if_pos rfl]
theorem line_Cage {s : Rd} {w : List ByteArray} (h : at_ w 0 = kCage) : lineP s w = cageP s (w.drop 1) := by
  unfold lineP; rw [h, if_neg (by decide), if_neg (by decide), if_neg (by decide), if_neg (by decide), if_neg (by decide), if_pos rfl]
theorem line_Vertex {s : Rd} {w : List ByteArray} (h : at_ w 0 = kV) : lineP s w = vertexP s (w.drop 1) := by
  unfold lineP; rw [h, if_neg (by decide), if_neg (by decide), if_neg (by decide), if_neg (by decide), if_neg (by decide), if_neg (by decide), if_pos rfl]
theorem line_Face {s : Rd} {w : List ByteArray} (h : at_ w 0 = kF) : lineP s w = faceP s (w.drop 1) := by
  unfold lineP; rw [h, if_neg (by decide), if_neg (by decide), if_neg (by decide), if_neg (by decide), if_neg (by decide), if_neg (by decide), if_neg (by decide), if_pos rfl]
theorem line_Crease {s : Rd} {w : List ByteArray} (h : at_ w 0 = kCrease) : lineP s w = creaseP s (w.drop 1) := by
  unfold lineP; rw [h, if_neg (by decide), if_neg (by decide), if_neg (by decide), if_neg (by decide), if_neg (by decide), if_neg (by decide), if_neg (by decide), if_neg (by decide), if_pos rfl]
theorem line_none {s : Rd} {w : List ByteArray} (h0 : ¬ at_ w 0 = kCamera) (h1 : ¬ at_ w 0 = kSky) (h2 : ¬ at_ w 0 = kLight) (h3 : ¬ at_ w 0 = kTexture) (h4 : ¬ at_ w 0 = kMaterial) (h5 : ¬ at_ w 0 = kCage) (h6 : ¬ at_ w 0 = kV) (h7 : ¬ at_ w 0 = kF) (h8 : ¬ at_ w 0 = kCrease) : lineP s w = .error 10 := by
  unfold lineP; rw [if_neg h0, if_neg h1, if_neg h2, if_neg h3, if_neg h4, if_neg h5, if_neg h6, if_neg h7, if_neg h8]
theorem RD.unB {B B4 H H' : Heap} {id ver i : Nat} {s : Rd} {X : AB} (h : RD B4 H id ver s) (hm : Mono B B4) (hi : B4 i = some X) (ho : ∀ j, j ≠ i → H' j = H j) : RD B H' id ver s := by
  obtain ⟨_, _, _, _, _, _, _, _, h1, h2, h3, h4⟩ := h
  have key : ∀ j, B4 j = none → j ≠ i ∧ B j = none := fun j hj => by
    refine ⟨fun e => (by rw [e, hi] at hj; cases hj), ?_⟩
    cases hb : B j with
    | none => rfl
    | some b => rw [hm _ _ hb] at hj; cases hj
  refine ⟨_, _, _, _, _, _, _, _, (ho _ (key _ h2).1).trans h1, (key _ h2).2, ⟨fun e he => ?_, h3.2⟩, h4⟩
  rcases h3.1 e he with g | ⟨j, vr, g1, g2, g3, g4⟩
  · exact .inl g
  · exact .inr ⟨j, vr, g1, (ho _ (key _ g3).1).trans g2, (key _ g3).2, g4⟩
theorem RD.rebase {B B4 H H' : Heap} {id ver i : Nat} {s : Rd} (h : RD B H id ver s) (hb : ∀ j, j ≠ i → B4 j = B j) (hi : H i = none) (ho : ∀ j, j ≠ i → H' j = H j) : RD B4 H' id ver s := by
  obtain ⟨_, _, _, _, _, _, _, _, h1, h2, h3, h4⟩ := h
  have key : ∀ j X, H j = some X → j ≠ i := fun j X hj e => by rw [e, hi] at hj; cases hj
  refine ⟨_, _, _, _, _, _, _, _, (ho _ (key _ _ h1)).trans h1, (hb _ (key _ _ h1)).trans h2, ⟨fun e he => ?_, h3.2⟩, h4⟩
  rcases h3.1 e he with g | ⟨j, vr, g1, g2, g3, g4⟩
  · exact .inl g
  · exact .inr ⟨j, vr, g1, (ho _ (key _ _ g2)).trans g2, (hb _ (key _ _ g2)).trans g3, g4⟩
noncomputable def readRest : Code := match Tryd.f11.body with | some (.seq _ (.seq _ r)) => r | _ => .skip
def QR (B : Heap) (i4 id ver : Nat) (s : Rd) (w : List ByteArray) (e : Exit) (f : Nat → AV) (H : Heap) : Prop :=
  f 4 = .ptr i4 0 0 ∧ Mono B H ∧ ((∃ t, (e = .normal ∨ e = .ret) ∧ lineP s w = .ok t ∧ RD B H id ver t ∧ H i4 = some (.row 0 [.int .i64 0])) ∨ ((e = .normal ∨ e = .ret) ∧ lineP s w = .error 10 ∧ H i4 = some (.row 0 [.int .i64 10])) ∨
    ∃ k, e = .panic (pan 36 k) ∧ lineP s w = .error k ∧ H i4 = some (.row 0 [.int .i64 0]))
end Go.Proofs.S
namespace Go.Proofs.S
open Go Go.AH Go.Proofs.L
set_option maxRecDepth 4000
set_option maxHeartbeats 4000000
set_option linter.unusedSimpArgs false
set_option linter.unusedVariables false
set_option linter.unusedSectionVars false
variable [LexG]
theorem c_read_rest {ds : List Deferred} {B B4 H0 : Heap} {id ver i4 : Nat} {s : Rd} (hmB : Mono B B4) (hi4 : B4 i4 = some (.row 0 [.int .i64 0])) (hBi : B i4 = none) (hm : Mono B4 H0) (hs : RD B4 H0 id ver s) (ok : RdOk s) (w : List ByteArray) (hw : w.length ≤ 1048576) (hne : 0 < w.length) {f : Nat → AV} (h0 : f 0 = .ptr id ver 0) (h1 : f 1 = .sl w.length (w.map eStr)) (h4 : f 4 = .ptr i4 0 0) : @AWP (withD instG ds) Tryd.prog 57 readRest (QR B i4 id ver s w) f H0 := by
 letI : Globs := withD instG ds
 refine AWP.seq ?_
 refine AWP.seq ?_
 refine AWP.region (l := [0, 1, 2]) rfl ?_
 refine AOps.cons rfl rfl (AOp.move (.sl w.length (w.map eStr)) rfl h1 ?_)
 refine AOps.cons rfl rfl (AOp.sliceSD1 (xs := w) (l := 1) (h := (w.length : Int)) rfl rfl  sl_52 (lo_of rfl) rfl (by first | omega | (simp; omega)) (by first | omega | (simp; omega)) (by first | omega | (simp; omega)) rfl ?_)
 refine AOps.cons rfl rfl (AOp.assign (.sl (w.drop 1).length ((w.drop 1).map eStr)) rfl rfl ?_)
 refine AOps.nil ?_
 change AWP _ _ _ _ _ _
 refine AWP.seq ?_
 refine AWP.region (l := [0, 1, 2]) rfl ?_
 refine AOps.cons rfl rfl (AOp.move (.sl w.length (w.map eStr)) rfl h1 ?_)
 refine AOps.cons rfl rfl (AOp.indexAddrS rfl rfl rfl sl_52 (by omega) (by omega) ?_)
 refine AOps.cons rfl rfl (AOp.loadF (.str (at_ w 0)) rfl rfl ty_9 (ld1 (by omega) (by omega)) ?_)
 refine AOps.nil ?_
 change AWP _ _ _ _ _ _
 refine AWP.block ?_
 refine AWP.seq ?_
 refine AWP.region (l := [0, 1]) rfl ?_
 refine AOps.cons rfl rfl (AOp.seqD rfl rfl rfl ?_)
 refine AOps.cons rfl rfl (AOp.assign (.bool (decide ((at_ w 0) = ⟨#[99, 97, 109, 101, 114, 97]⟩))) rfl rfl ?_)
 refine AOps.nil ?_
 change AWP _ _ _ _ _ _
 by_cases b1 : (at_ w 0) = ⟨#[99, 97, 109, 101, 114, 97]⟩
 ·
  refine AWP.condT rfl (decide_eq_true b1) ?_
  refine AWP.regionX (l := [0, 1, 2]) rfl ?_
  refine AOpsX.cons rfl rfl (AOp.move (.ptr id ver 0) rfl h0 ?_)
  refine AOpsX.cons rfl rfl (AOp.move (.sl (w.drop 1).length ((w.drop 1).map eStr)) rfl rfl ?_)
  refine AOpsX.consX rfl rfl (AOpX.callE (as_ := [.ptr id ver 0, .sl (w.drop 1).length ((w.drop 1).map eStr)] ) (fun _ e => by cases e; rfl) rfl (rfl) tf_20 (ACallsX.toD (c_readCamera (B := B4) hm hs ok (w.drop 1) (by simp; omega))) ?_ (fun _ H5 ⟨k, e, hc, m⟩ => ⟨h4, hmB.trans m, .inr (.inr ⟨k, congrArg Exit.panic hc, (line_Camera b1).trans e, m _ _ hi4⟩)⟩))
  rintro _ H2 ⟨t6, et5, hR4, m3, rfl⟩
  refine AOpsX.nil ?_
  change AWP _ _ _ _ _ _
  refine AWP.seq ?_
  refine AWP.region (l := [0]) rfl ?_
  refine AOps.cons rfl rfl (AOp.store' (cells' := [.int .i64 0]) (.int .i64 0) h4 rfl ts_36 (m3 _ _ hi4) rfl rfl rfl rfl ?_)
  intro H7 h8 k9
  have m11 := Mono.set (hmB.trans m3) hBi k9
  refine AOps.nil ?_
  change AWP _ _ _ _ _ _
  refine AWP.ret ?_
  exact ⟨h4, m11, .inl ⟨t6, .inr rfl, (line_Camera b1).trans et5, RD.unB hR4 hmB hi4 k9, h8⟩⟩
 ·
  refine AWP.condF rfl (decide_eq_false b1) ?_
  refine AWP.seq ?_
  refine AWP.region (l := [0, 1]) rfl ?_
  refine AOps.cons rfl rfl (AOp.seqD rfl rfl rfl ?_)
  refine AOps.cons rfl rfl (AOp.assign (.bool (decide ((at_ w 0) = ⟨#[115, 107, 121]⟩))) rfl rfl ?_)
  refine AOps.nil ?_
  change AWP _ _ _ _ _ _
  by_cases b12 : (at_ w 0) = ⟨#[115, 107, 121]⟩
  ·
   refine AWP.condT rfl (decide_eq_true b12) ?_
   refine AWP.regionX (l := [0, 1, 2]) rfl ?_
   refine AOpsX.cons rfl rfl (AOp.move (.ptr id ver 0) rfl h0 ?_)
   refine AOpsX.cons rfl rfl (AOp.move (.sl (w.drop 1).length ((w.drop 1).map eStr)) rfl rfl ?_)
   refine AOpsX.consX rfl rfl (AOpX.callE (as_ := [.ptr id ver 0, .sl (w.drop 1).length ((w.drop 1).map eStr)] ) (fun _ e => by cases e; rfl) rfl (rfl) tf_21 (ACallsX.toD (c_readSky (B := B4) hm hs ok (w.drop 1) (by simp; omega))) ?_ (fun _ H5 ⟨k, e, hc, m⟩ => ⟨h4, hmB.trans m, .inr (.inr ⟨k, congrArg Exit.panic hc, (line_Sky b12).trans e, m _ _ hi4⟩)⟩))
   rintro _ H13 ⟨t17, et16, hR15, m14, rfl⟩
   refine AOpsX.nil ?_
   change AWP _ _ _ _ _ _
   refine AWP.seq ?_
   refine AWP.region (l := [0]) rfl ?_
   refine AOps.cons rfl rfl (AOp.store' (cells' := [.int .i64 0]) (.int .i64 0) h4 rfl ts_36 (m14 _ _ hi4) rfl rfl rfl rfl ?_)
   intro H18 h19 k20
   have m22 := Mono.set (hmB.trans m14) hBi k20
   refine AOps.nil ?_
   change AWP _ _ _ _ _ _
   refine AWP.ret ?_
   exact ⟨h4, m22, .inl ⟨t17, .inr rfl, (line_Sky b12).trans et16, RD.unB hR15 hmB hi4 k20, h19⟩⟩
  ·
   refine AWP.condF rfl (decide_eq_false b12) ?_
   refine AWP.seq ?_
   refine AWP.region (l := [0, 1]) rfl ?_
   refine AOps.cons rfl rfl (AOp.seqD rfl rfl rfl ?_)
   refine AOps.cons rfl rfl (AOp.assign (.bool (decide ((at_ w 0) = ⟨#[108, 105, 103, 104, 116]⟩))) rfl rfl ?_)
   refine AOps.nil ?_
   change AWP _ _ _ _ _ _
   by_cases b23 : (at_ w 0) = ⟨#[108, 105, 103, 104, 116]⟩
   ·
    refine AWP.condT rfl (decide_eq_true b23) ?_
    refine AWP.regionX (l := [0, 1, 2]) rfl ?_
    refine AOpsX.cons rfl rfl (AOp.move (.ptr id ver 0) rfl h0 ?_)
    refine AOpsX.cons rfl rfl (AOp.move (.sl (w.drop 1).length ((w.drop 1).map eStr)) rfl rfl ?_)
    refine AOpsX.consX rfl rfl (AOpX.callE (as_ := [.ptr id ver 0, .sl (w.drop 1).length ((w.drop 1).map eStr)] ) (fun _ e => by cases e; rfl) rfl (rfl) tf_22 (ACallsX.toD (c_readLight (B := B4) hm hs ok (w.drop 1) (by simp; omega))) ?_ (fun _ H5 ⟨k, e, hc, m⟩ => ⟨h4, hmB.trans m, .inr (.inr ⟨k, congrArg Exit.panic hc, (line_Light b23).trans e, m _ _ hi4⟩)⟩))
    rintro _ H24 ⟨t28, et27, hR26, m25, rfl⟩
    refine AOpsX.nil ?_
    change AWP _ _ _ _ _ _
    refine AWP.seq ?_
    refine AWP.region (l := [0]) rfl ?_
    refine AOps.cons rfl rfl (AOp.store' (cells' := [.int .i64 0]) (.int .i64 0) h4 rfl ts_36 (m25 _ _ hi4) rfl rfl rfl rfl ?_)
    intro H29 h30 k31
    have m33 := Mono.set (hmB.trans m25) hBi k31
    refine AOps.nil ?_
    change AWP _ _ _ _ _ _
    refine AWP.ret ?_
    exact ⟨h4, m33, .inl ⟨t28, .inr rfl, (line_Light b23).trans et27, RD.unB hR26 hmB hi4 k31, h30⟩⟩
   ·
    refine AWP.condF rfl (decide_eq_false b23) ?_
    refine AWP.seq ?_
    refine AWP.region (l := [0, 1]) rfl ?_
    refine AOps.cons rfl rfl (AOp.seqD rfl rfl rfl ?_)
    refine AOps.cons rfl rfl (AOp.assign (.bool (decide ((at_ w 0) = ⟨#[116, 101, 120, 116, 117, 114, 101]⟩))) rfl rfl ?_)
    refine AOps.nil ?_
    change AWP _ _ _ _ _ _
    by_cases b34 : (at_ w 0) = ⟨#[116, 101, 120, 116, 117, 114, 101]⟩
    ·
     refine AWP.condT rfl (decide_eq_true b34) ?_
     refine AWP.regionX (l := [0, 1, 2]) rfl ?_
     refine AOpsX.cons rfl rfl (AOp.move (.ptr id ver 0) rfl h0 ?_)
     refine AOpsX.cons rfl rfl (AOp.move (.sl (w.drop 1).length ((w.drop 1).map eStr)) rfl rfl ?_)
     refine AOpsX.consX rfl rfl (AOpX.callE (as_ := [.ptr id ver 0, .sl (w.drop 1).length ((w.drop 1).map eStr)] ) (fun _ e => by cases e; rfl) rfl (rfl) tf_23 (ACallsX.toD (c_readTexture (B := B4) hm hs ok (w.drop 1) (by simp; omega))) ?_ (fun _ H5 ⟨k, e, hc, m⟩ => ⟨h4, hmB.trans m, .inr (.inr ⟨k, congrArg Exit.panic hc, (line_Texture b34).trans e, m _ _ hi4⟩)⟩))
     rintro _ H35 ⟨t39, et38, hR37, m36, rfl⟩
     refine AOpsX.nil ?_
     change AWP _ _ _ _ _ _
     refine AWP.seq ?_
     refine AWP.region (l := [0]) rfl ?_
     refine AOps.cons rfl rfl (AOp.store' (cells' := [.int .i64 0]) (.int .i64 0) h4 rfl ts_36 (m36 _ _ hi4) rfl rfl rfl rfl ?_)
     intro H40 h41 k42
     have m44 := Mono.set (hmB.trans m36) hBi k42
     refine AOps.nil ?_
     change AWP _ _ _ _ _ _
     refine AWP.ret ?_
     exact ⟨h4, m44, .inl ⟨t39, .inr rfl, (line_Texture b34).trans et38, RD.unB hR37 hmB hi4 k42, h41⟩⟩
    ·
     refine AWP.condF rfl (decide_eq_false b34) ?_
     refine AWP.seq ?_
     refine AWP.region (l := [0, 1]) rfl ?_
     refine AOps.cons rfl rfl (AOp.seqD rfl rfl rfl ?_)
     refine AOps.cons rfl rfl (AOp.assign (.bool (decide ((at_ w 0) = ⟨#[109, 97, 116, 101, 114, 105, 97, 108]⟩))) rfl rfl ?_)
     refine AOps.nil ?_
     change AWP _ _ _ _ _ _
     by_cases b45 : (at_ w 0) = ⟨#[109, 97, 116, 101, 114, 105, 97, 108]⟩
     ·
      refine AWP.condT rfl (decide_eq_true b45) ?_
      refine AWP.regionX (l := [0, 1, 2]) rfl ?_
      refine AOpsX.cons rfl rfl (AOp.move (.ptr id ver 0) rfl h0 ?_)
      refine AOpsX.cons rfl rfl (AOp.move (.sl (w.drop 1).length ((w.drop 1).map eStr)) rfl rfl ?_)
      refine AOpsX.consX rfl rfl (AOpX.callE (as_ := [.ptr id ver 0, .sl (w.drop 1).length ((w.drop 1).map eStr)] ) (fun _ e => by cases e; rfl) rfl (rfl) tf_24 (ACallsX.toD (c_readMaterial (B := B4) hm hs ok (w.drop 1) (by simp; omega))) ?_ (fun _ H5 ⟨k, e, hc, m⟩ => ⟨h4, hmB.trans m, .inr (.inr ⟨k, congrArg Exit.panic hc, (line_Material b45).trans e, m _ _ hi4⟩)⟩))
      rintro _ H46 ⟨t50, et49, hR48, m47, rfl⟩
      refine AOpsX.nil ?_
      change AWP _ _ _ _ _ _
      refine AWP.seq ?_
      refine AWP.region (l := [0]) rfl ?_
      refine AOps.cons rfl rfl (AOp.store' (cells' := [.int .i64 0]) (.int .i64 0) h4 rfl ts_36 (m47 _ _ hi4) rfl rfl rfl rfl ?_)
      intro H51 h52 k53
      have m55 := Mono.set (hmB.trans m47) hBi k53
      refine AOps.nil ?_
      change AWP _ _ _ _ _ _
      refine AWP.ret ?_
      exact ⟨h4, m55, .inl ⟨t50, .inr rfl, (line_Material b45).trans et49, RD.unB hR48 hmB hi4 k53, h52⟩⟩
     ·
      refine AWP.condF rfl (decide_eq_false b45) ?_
      refine AWP.seq ?_
      refine AWP.region (l := [0, 1]) rfl ?_
      refine AOps.cons rfl rfl (AOp.seqD rfl rfl rfl ?_)
      refine AOps.cons rfl rfl (AOp.assign (.bool (decide ((at_ w 0) = ⟨#[99, 97, 103, 101]⟩))) rfl rfl ?_)
      refine AOps.nil ?_
      change AWP _ _ _ _ _ _
      by_cases b56 : (at_ w 0) = ⟨#[99, 97, 103, 101]⟩
      ·
       refine AWP.condT rfl (decide_eq_true b56) ?_
       refine AWP.regionX (l := [0, 1, 2]) rfl ?_
       refine AOpsX.cons rfl rfl (AOp.move (.ptr id ver 0) rfl h0 ?_)
       refine AOpsX.cons rfl rfl (AOp.move (.sl (w.drop 1).length ((w.drop 1).map eStr)) rfl rfl ?_)
       refine AOpsX.consX rfl rfl (AOpX.callE (as_ := [.ptr id ver 0, .sl (w.drop 1).length ((w.drop 1).map eStr)] ) (fun _ e => by cases e; rfl) rfl (rfl) tf_25 (ACallsX.toD (c_readCage (B := B4) hm hs ok (w.drop 1) (by simp; omega))) ?_ (fun _ H5 ⟨k, e, hc, m⟩ => ⟨h4, hmB.trans m, .inr (.inr ⟨k, congrArg Exit.panic hc, (line_Cage b56).trans e, m _ _ hi4⟩)⟩))
       rintro _ H57 ⟨t61, et60, hR59, m58, rfl⟩
       refine AOpsX.nil ?_
       change AWP _ _ _ _ _ _
       refine AWP.seq ?_
       refine AWP.region (l := [0]) rfl ?_
       refine AOps.cons rfl rfl (AOp.store' (cells' := [.int .i64 0]) (.int .i64 0) h4 rfl ts_36 (m58 _ _ hi4) rfl rfl rfl rfl ?_)
       intro H62 h63 k64
       have m66 := Mono.set (hmB.trans m58) hBi k64
       refine AOps.nil ?_
       change AWP _ _ _ _ _ _
       refine AWP.ret ?_
       exact ⟨h4, m66, .inl ⟨t61, .inr rfl, (line_Cage b56).trans et60, RD.unB hR59 hmB hi4 k64, h63⟩⟩
      ·
       refine AWP.condF rfl (decide_eq_false b56) ?_
       refine AWP.seq ?_
       refine AWP.region (l := [0, 1]) rfl ?_
       refine AOps.cons rfl rfl (AOp.seqD rfl rfl rfl ?_)
       refine AOps.cons rfl rfl (AOp.assign (.bool (decide ((at_ w 0) = ⟨#[118]⟩))) rfl rfl ?_)
       refine AOps.nil ?_
       change AWP _ _ _ _ _ _
       by_cases b67 : (at_ w 0) = ⟨#[118]⟩
       ·
        refine AWP.condT rfl (decide_eq_true b67) ?_
        refine AWP.regionX (l := [0, 1, 2]) rfl ?_
        refine AOpsX.cons rfl rfl (AOp.move (.ptr id ver 0) rfl h0 ?_)
        refine AOpsX.cons rfl rfl (AOp.move (.sl (w.drop 1).length ((w.drop 1).map eStr)) rfl rfl ?_)
        refine AOpsX.consX rfl rfl (AOpX.callE (as_ := [.ptr id ver 0, .sl (w.drop 1).length ((w.drop 1).map eStr)] ) (fun _ e => by cases e; rfl) rfl (rfl) tf_26 (ACallsX.toD (c_readVertex (B := B4) hm hs ok (w.drop 1) (by simp; omega))) ?_ (fun _ H5 ⟨k, e, hc, m⟩ => ⟨h4, hmB.trans m, .inr (.inr ⟨k, congrArg Exit.panic hc, (line_Vertex b67).trans e, m _ _ hi4⟩)⟩))
        rintro _ H68 ⟨t72, et71, hR70, m69, rfl⟩
        refine AOpsX.nil ?_
        change AWP _ _ _ _ _ _
        refine AWP.seq ?_
        refine AWP.region (l := [0]) rfl ?_
        refine AOps.cons rfl rfl (AOp.store' (cells' := [.int .i64 0]) (.int .i64 0) h4 rfl ts_36 (m69 _ _ hi4) rfl rfl rfl rfl ?_)
        intro H73 h74 k75
        have m77 := Mono.set (hmB.trans m69) hBi k75
        refine AOps.nil ?_
        change AWP _ _ _ _ _ _
        refine AWP.ret ?_
        exact ⟨h4, m77, .inl ⟨t72, .inr rfl, (line_Vertex b67).trans et71, RD.unB hR70 hmB hi4 k75, h74⟩⟩
       ·
        refine AWP.condF rfl (decide_eq_false b67) ?_
        refine AWP.seq ?_
        refine AWP.region (l := [0, 1]) rfl ?_
        refine AOps.cons rfl rfl (AOp.seqD rfl rfl rfl ?_)
        refine AOps.cons rfl rfl (AOp.assign (.bool (decide ((at_ w 0) = ⟨#[102]⟩))) rfl rfl ?_)
        refine AOps.nil ?_
        change AWP _ _ _ _ _ _
        by_cases b78 : (at_ w 0) = ⟨#[102]⟩
        ·
         refine AWP.condT rfl (decide_eq_true b78) ?_
         refine AWP.regionX (l := [0, 1, 2]) rfl ?_
         refine AOpsX.cons rfl rfl (AOp.move (.ptr id ver 0) rfl h0 ?_)
         refine AOpsX.cons rfl rfl (AOp.move (.sl (w.drop 1).length ((w.drop 1).map eStr)) rfl rfl ?_)
         refine AOpsX.consX rfl rfl (AOpX.callE (as_ := [.ptr id ver 0, .sl (w.drop 1).length ((w.drop 1).map eStr)] ) (fun _ e => by cases e; rfl) rfl (rfl) tf_27 (ACallsX.toD (c_readFace (B := B4) hm hs ok (w.drop 1) (by simp; omega))) ?_ (fun _ H5 ⟨k, e, hc, m⟩ => ⟨h4, hmB.trans m, .inr (.inr ⟨k, congrArg Exit.panic hc, (line_Face b78).trans e, m _ _ hi4⟩)⟩))
         rintro _ H79 ⟨t83, et82, hR81, m80, rfl⟩
         refine AOpsX.nil ?_
         change AWP _ _ _ _ _ _
         refine AWP.seq ?_
         refine AWP.region (l := [0]) rfl ?_
         refine AOps.cons rfl rfl (AOp.store' (cells' := [.int .i64 0]) (.int .i64 0) h4 rfl ts_36 (m80 _ _ hi4) rfl rfl rfl rfl ?_)
         intro H84 h85 k86
         have m88 := Mono.set (hmB.trans m80) hBi k86
         refine AOps.nil ?_
         change AWP _ _ _ _ _ _
         refine AWP.ret ?_
         exact ⟨h4, m88, .inl ⟨t83, .inr rfl, (line_Face b78).trans et82, RD.unB hR81 hmB hi4 k86, h85⟩⟩
        ·
         refine AWP.condF rfl (decide_eq_false b78) ?_
         refine AWP.seq ?_
         refine AWP.region (l := [0, 1]) rfl ?_
         refine AOps.cons rfl rfl (AOp.seqD rfl rfl rfl ?_)
         refine AOps.cons rfl rfl (AOp.assign (.bool (decide ((at_ w 0) = ⟨#[99, 114, 101, 97, 115, 101]⟩))) rfl rfl ?_)
         refine AOps.nil ?_
         change AWP _ _ _ _ _ _
         by_cases b89 : (at_ w 0) = ⟨#[99, 114, 101, 97, 115, 101]⟩
         ·
          refine AWP.condT rfl (decide_eq_true b89) ?_
          refine AWP.regionX (l := [0, 1, 2]) rfl ?_
          refine AOpsX.cons rfl rfl (AOp.move (.ptr id ver 0) rfl h0 ?_)
          refine AOpsX.cons rfl rfl (AOp.move (.sl (w.drop 1).length ((w.drop 1).map eStr)) rfl rfl ?_)
          refine AOpsX.consX rfl rfl (AOpX.callE (as_ := [.ptr id ver 0, .sl (w.drop 1).length ((w.drop 1).map eStr)] ) (fun _ e => by cases e; rfl) rfl (rfl) tf_28 (ACallsX.toD (c_readCrease (B := B4) hm hs ok (w.drop 1) (by simp; omega))) ?_ (fun _ H5 ⟨k, e, hc, m⟩ => ⟨h4, hmB.trans m, .inr (.inr ⟨k, congrArg Exit.panic hc, (line_Crease b89).trans e, m _ _ hi4⟩)⟩))
          rintro _ H90 ⟨t94, et93, hR92, m91, rfl⟩
          refine AOpsX.nil ?_
          change AWP _ _ _ _ _ _
          refine AWP.seq ?_
          refine AWP.region (l := [0]) rfl ?_
          refine AOps.cons rfl rfl (AOp.store' (cells' := [.int .i64 0]) (.int .i64 0) h4 rfl ts_36 (m91 _ _ hi4) rfl rfl rfl rfl ?_)
          intro H95 h96 k97
          have m99 := Mono.set (hmB.trans m91) hBi k97
          refine AOps.nil ?_
          change AWP _ _ _ _ _ _
          refine AWP.ret ?_
          exact ⟨h4, m99, .inl ⟨t94, .inr rfl, (line_Crease b89).trans et93, RD.unB hR92 hmB hi4 k97, h96⟩⟩
         ·
          refine AWP.condF rfl (decide_eq_false b89) ?_
          refine AWP.seq ?_
          refine AWP.region (l := [0]) rfl ?_
          refine AOps.cons rfl rfl (AOp.store' (cells' := [.int .i64 10]) (.int .i64 10) h4 rfl ts_36 (hm _ _ hi4) rfl rfl rfl rfl ?_)
          intro H100 h101 k102
          have m104 := Mono.set (hmB.trans hm) hBi k102
          refine AOps.nil ?_
          change AWP _ _ _ _ _ _
          refine AWP.ret ?_
          exact ⟨h4, m104, .inr (.inl ⟨.inr rfl, line_none b1 b12 b23 b34 b45 b56 b67 b78 b89, h101⟩)⟩
end Go.Proofs.S
namespace Go.Proofs.S
open Go Go.AH Go.Proofs.L
set_option maxRecDepth 4000
set_option maxHeartbeats 4000000
set_option linter.unusedSectionVars false
variable [LexG]
theorem entry_SR {w : World} {μ : Nat → Nat} {H : Heap} {args : List AV} {vs : Array Value} {n : Nat} (hr : HR w μ H) (hv : VRs w μ H args vs.toList) (hle : args.length ≤ n) :
    SR n w μ (entry args) H { tmps := vs ++ Array.replicate (n - vs.size) undef, defers := [] } := by
  have hlen : args.length = vs.size := by simpa using hv.1
  refine ⟨hr, by simp; omega, fun t => ?_, rfl⟩
  unfold entry
  rcases Nat.lt_or_ge t args.length with ht | ht
  · have h1 : args[t]? = some args[t] := List.getElem?_eq_getElem ht
    have h2 : vs.toList[t]? = some vs[t] := by simp [hlen ▸ ht]
    have := hv.2 t _ _ h1 h2
    have e1 : args.getD t .undef = args[t] := by simp [ht]
    have e2 : (vs ++ Array.replicate (n - vs.size) undef).getD t undef = vs[t] := by
      simp [Array.getD_eq_getD_getElem?, Array.getElem?_append, hlen ▸ ht]
    rw [e1, e2]; exact this
  · have e1 : args.getD t .undef = .undef := by simp [ht]
    rw [e1]; exact .undef _
noncomputable def readD : Code := match Tryd.f11.body with | some (.seq _ (.seq r _)) => r | _ => .skip
theorem readD_wp {a : Act} {w : World} {p : Value} {Q : Exit → Act → World → Prop} (hn : 6 < a.tmps.size) (hp : a.eval (.tmp 4) = p) (h : Q .normal { tmps := a.tmps.setIfInBounds 6 (.func (.func 19) #[] #[p]), defers := { target := .fn (.func 19) #[p], args := #[] } :: a.defers } w) : readD.wp Tryd.prog Q a w := by
  refine wp_region ?_
  have e : a.tmps[4]?.getD undef = p := by rw [← hp]; simp [Act.eval, Array.getD_eq_getD_getElem?]
  simp [wpOps, go_sem, hn, e, Oper.upon, Sem.runT]
  exact .inl (.inl h)
theorem c_read {B H0 : Heap} {id ver : Nat} {s : Rd} (hm : Mono B H0) (hs : RD B H0 id ver s) (ok : RdOk s) (w : List ByteArray) (hw : w.length ≤ 1048576) (hne : 0 < w.length) :
    ACalls Tryd.prog 11 [.ptr id ver 0, .sl w.length (w.map eStr)] H0 (fun r H' => (∃ t, lineP s w = .ok t ∧ RD B H' id ver t ∧ Mono B H' ∧ r = .int .i64 0) ∨ ∃ k, lineP s w = .error k ∧ Mono B H' ∧ r = .int .i64 k) := by
  intro μ w0 vs hr hv
  refine calls_of_wp_defers Tryd.func11 rfl ?_
  have hs0 := entry_SR (n := 57) hr hv (by simp)
  have h0 : AWP Tryd.prog 57 (match Tryd.f11.body with | some (.seq r _) => r | _ => .skip) (fun e f H => e = .normal ∧ ∃ i, H0 i = none ∧ H i = some (.row 0 [.int .i64 0]) ∧ (∀ j, j ≠ i → H j = H0 j) ∧ f = upd (entry [.ptr id ver 0, .sl w.length (w.map eStr)]) 4 (.ptr i 0 0)) (entry [.ptr id ver 0, .sl w.length (w.map eStr)]) H0 := by
    refine AWP.region (l := [0]) rfl ?_
    refine AOps.cons rfl rfl (AOp.alloc rfl tz_36 ?_)
    intro i H1 h1 h2 h3
    exact AOps.nil ⟨rfl, i, h1, h2, h3, rfl⟩
  refine wp_seq (wp_mono (h0 μ _ w0 hs0) ?_)
  rintro e a1 w1 ⟨μ1, f1, H1, g1, g2, rfl, i, h1, h2, h3, rfl⟩
  show (Code.seq readD readRest).wp Tryd.prog _ a1 w1
  have h4 := g1.slots 4
  have h4' : VR w1 μ1 H1 (.ptr i 0 0) (a1.tmps.getD 4 undef) := h4
  generalize hz : a1.tmps.getD 4 undef = z at h4'
  have hz' : z = .pointer (some ⟨μ1 i, 0, none⟩) := by
    cases h4' with
    | ptr hk ha => rw [ha ⟨_, h2⟩]
  subst hz'
  have hsz : a1.tmps.size = 57 := g1.size
  refine wp_seq (readD_wp (p := .pointer (some ⟨μ1 i, 0, none⟩)) (by omega) (by simpa [Act.eval] using hz) ?_)
  show readRest.wp Tryd.prog _ _ w1
  have hd : a1.defers = [] := g1.defers
  rw [hd]
  let ds : List Deferred := [{ target := .fn (.func 19) #[.pointer (some ⟨μ1 i, 0, none⟩)], args := #[] }]
  let B4 : Heap := updH B i (.row 0 [.int .i64 0])
  have hBi : B i = none := by
    cases hb : B i with
    | none => rfl
    | some b => have := hm _ _ hb; rw [h1] at this; cases this
  have hm1 : Mono B4 H1 := fun j X hj => by
    by_cases hji : j = i
    · subst hji; rw [show B4 j = some (.row 0 [.int .i64 0]) from updH_same _ _ _] at hj; cases hj; exact h2
    · rw [show B4 j = B j from updH_ne _ _ hji] at hj; rw [h3 j hji]; exact hm _ _ hj
  have hmB : Mono B B4 := fun j X hj => by
    have hji : j ≠ i := fun e => by rw [e, hBi] at hj; cases hj
    exact (updH_ne _ _ hji).trans hj
  have hR4 : RD B4 H1 id ver s := hs.rebase (fun j hj => updH_ne _ _ hj) h1 h3
  have hrest := c_read_rest (ds := ds) (B := B) (B4 := B4) (i4 := i) hmB (updH_same _ _ _) hBi hm1 hR4 ok w hw hne
    (f := upd (upd (entry [.ptr id ver 0, .sl w.length (w.map eStr)]) 4 (.ptr i 0 0)) 6 (.fn 19 [.ptr i 0 0])) rfl rfl rfl
  have g1D : @SR (withD instG ds) 57 w1 μ1 (upd (upd (entry [.ptr id ver 0, .sl w.length (w.map eStr)]) 4 (.ptr i 0 0)) 6 (.fn 19 [.ptr i 0 0])) H1
      { tmps := a1.tmps.setIfInBounds 6 (.func (.func 19) #[] #[.pointer (some ⟨μ1 i, 0, none⟩)]), defers := ds } := by
    refine @SR.mk (withD instG ds) 57 w1 μ1 _ H1 _ g1.hr.toD (by simp [hsz]) (fun t => ?_) rfl
    rw [upd_eq]
    by_cases ht : t = 6
    · subst ht
      rw [if_pos rfl]
      have e : (a1.tmps.setIfInBounds 6 (.func (.func 19) #[] #[.pointer (some ⟨μ1 i, 0, none⟩)])).getD 6 undef = .func (.func 19) #[] #[.pointer (some ⟨μ1 i, 0, none⟩)] := by
        simp [Array.getD_eq_getD_getElem?, hsz]
      simp only [e]
      refine .fn (by simp) fun j x y hx hy => ?_
      match j, hx, hy with
      | 0, hx, hy => cases hx; simp at hy; subst hy; exact hz ▸ h4
      | j + 1, hx, _ => simp at hx
    · rw [if_neg ht]
      have e : (a1.tmps.setIfInBounds 6 (.func (.func 19) #[] #[.pointer (some ⟨μ1 i, 0, none⟩)])).getD t undef = a1.tmps.getD t undef := by
        simp [Array.getD_eq_getD_getElem?, Ne.symm ht]
      simp only [e]; exact g1.slots t
  refine wp_mono (hrest μ1 _ w1 g1D) ?_
  rintro e a2 w2 ⟨μ2, f2, H2, k1, k2, q1, q2, q3⟩
  have kd : a2.defers = ds := @SR.defers (withD instG ds) _ _ _ _ _ _ k1
  have k4 : VR w2 μ2 H2 (f2 4) (a2.tmps.getD 4 undef) := @SR.slots (withD instG ds) _ _ _ _ _ _ k1 4
  have kr : HR w2 μ2 H2 := @HR.ofD instG ds w2 μ2 H2 (@SR.hr (withD instG ds) _ _ _ _ _ _ k1)
  have kext := g2.trans k2
  -- where the result lies has not moved
  have hμ : H2 i = some (.row 0 [.int .i64 0]) ∨ H2 i = some (.row 0 [.int .i64 10]) → μ2 i = μ1 i := fun h => by
    have hk1 : Known H1 i 0 := ⟨_, 0, h2, rfl, Nat.le_refl _⟩
    have ha : Alive H2 i 0 := by rcases h with h | h <;> exact ⟨_, h⟩
    exact (k2.alive i 0 hk1 ha).2.1
  have hp : ∀ {X : AB}, H2 i = some X → (∃ c, X = .row 0 c) → a2.tmps.getD 4 undef = .pointer (some ⟨μ2 i, 0, none⟩) := by
    rintro X hX ⟨c, rfl⟩
    rw [q1] at k4
    generalize a2.tmps.getD 4 undef = z at k4
    cases k4 with
    | ptr hk ha => rw [ha ⟨_, hX⟩]
  have res : ∀ (w' : World) (m : Int), w'.cell? ⟨μ2 i, 0, none⟩ = some (.int .i64 m) → a2.tmps.getD 4 undef = .pointer (some ⟨μ2 i, 0, none⟩) → (results Tryd.f11 a2.tmps).run Tryd.prog w' = .ok (.int .i64 m) w' := fun w' m hc ht => by
    have e : a2.tmps[4]?.getD undef = .pointer (some ⟨μ2 i, 0, none⟩) := by rw [← ht]; simp [Array.getD_eq_getD_getElem?]
    simp [results, Tryd.results11, go_sem, e, hc]
  have inv : ∀ (w' : World), (invoke (.fn (.func 19) #[.pointer (some ⟨μ1 i, 0, none⟩)]) #[]).run Tryd.prog w' = .ok (.enter 19 #[.pointer (some ⟨μ1 i, 0, none⟩)]) w' := fun w' => by
    simp [go_sem]
  have idle : ∀ m : Int, H2 i = some (.row 0 [.int .i64 m]) → μ2 i = μ1 i → ∀ R : Ending → World → Prop, R (.returned (.int .i64 m)) w2 → Leaves Tryd.prog Tryd.f11 a2.tmps R a2.defers .returning w2 := by
    intro m hi hμ R hR
    rw [kd]
    refine leaves_cons (by simp) (inv w2) ((catch_i _ w2).mono ?_)
    rintro e u' w'' ⟨rfl, rfl, rfl⟩
    exact ⟨_, res w'' m (cell_set (k := 0) kr hi).1 (hp hi ⟨_, rfl⟩), hR⟩
  rcases q3 with ⟨t, he, e1, e2, hi⟩ | ⟨he, e1, hi⟩ | ⟨k, rfl, e1, hi⟩
  · have := idle 0 hi (hμ (.inl hi)) (fun e w' => ∃ v, e = .returned v ∧ ∃ μ' H' r, HR w' μ' H' ∧ VR w' μ' H' r v ∧ Ext w0 μ H0 w' μ' H' ∧ ((∃ t, lineP s w = .ok t ∧ RD B H' id ver t ∧ Mono B H' ∧ r = .int .i64 0) ∨ ∃ k, lineP s w = .error k ∧ Mono B H' ∧ r = .int .i64 k))
      ⟨_, rfl, μ2, H2, .int .i64 0, kr, .int _ _, kext, .inl ⟨t, e1, e2, q2, rfl⟩⟩
    rcases he with rfl | rfl <;> exact this
  · have := idle 10 hi (hμ (.inr hi)) (fun e w' => ∃ v, e = .returned v ∧ ∃ μ' H' r, HR w' μ' H' ∧ VR w' μ' H' r v ∧ Ext w0 μ H0 w' μ' H' ∧ ((∃ t, lineP s w = .ok t ∧ RD B H' id ver t ∧ Mono B H' ∧ r = .int .i64 0) ∨ ∃ k, lineP s w = .error k ∧ Mono B H' ∧ r = .int .i64 k))
      ⟨_, rfl, μ2, H2, .int .i64 10, kr, .int _ _, kext, .inr ⟨10, e1, q2, rfl⟩⟩
    rcases he with rfl | rfl <;> exact this
  · show Leaves Tryd.prog Tryd.f11 a2.tmps _ a2.defers (.panicking (pan 36 k)) w2
    rw [kd]
    obtain ⟨c1, c2, c3, c4, c5⟩ := cell_set (k := k) kr hi
    rw [hμ (.inl hi)] at c1 c2 c3 c4 c5
    refine leaves_cons (by simp) (inv w2) ((catch_p _ 0 k w2 c1 c2).mono ?_)
    rintro e u' w'' ⟨rfl, rfl, rfl⟩
    have ht := hp hi ⟨_, rfl⟩
    have hr' := res (w2.setCell ⟨μ1 i, 0, none⟩ (.int .i64 k)) k (by rw [hμ (.inl hi)]; exact c3) ht
    refine ⟨_, hr', _, rfl, μ2, _, .int .i64 k, c5, .int _ _, kext.trans c4, .inr ⟨k, e1, ?_, rfl⟩⟩
    intro j X hj
    have hji : j ≠ i := fun e => by rw [e, hBi] at hj; cases hj
    rw [updH_ne _ _ hji]; exact q2 _ _ hj
end Go.Proofs.S
namespace Go.Proofs.L
open Go Go.AH Go.Lib
set_option maxRecDepth 4000
set_option linter.unusedSectionVars false
variable [LexG]
theorem pcs_one : ∀ l : List UInt8, (∀ b ∈ l, b ≠ 10) → pcs l = [l]
  | [], _ => rfl
  | b :: l, h => by
    rw [pcs, if_neg (h b (List.mem_cons_self ..)), pcs_one l fun c hc => h c (List.mem_cons_of_mem _ hc)]
    rfl
theorem badP_ok {l : List UInt8} (h : ∀ b ∈ l, 32 ≤ b.toNat ∧ b.toNat ≤ 126) : badP l = false := by
  unfold badP
  rw [List.any_eq_false]
  intro b hb
  have := h b hb
  simp; omega
theorem bytesL_map (s : ByteArray) : bytesL s = s.data.toList.map toI ++ [10] := rfl
theorem linesQ {s : ByteArray} (h : s.size ≤ 65536) : linesR s = scanQ (pcs s.data.toList) ⟨[], 1, [], [], false⟩ := by
  rw [lines_same]
  unfold refR
  rw [if_neg (by omega), bytesL_map, ref_scanQ]
end Go.Proofs.L
namespace Go.Proofs.S
open Go Go.AH Go.Proofs.L
set_option maxRecDepth 4000
set_option linter.unusedSectionVars false
variable [LexG]
theorem RD.init {B H : Heap} {id : Nat} (h : H id = some (.row 0 (rdC rd0.cam rd0.sky .snil .snil .snil .snil .snil false false))) (hB : B id = none) : RD B H id 0 rd0 := by
  refine ⟨.snil, .snil, .snil, .snil, .snil, .snil, .snil, .snil, h, hB, ⟨fun e he => ?_, ?_⟩, fun e he => ?_⟩
  · simp only [rdL, List.mem_cons, List.not_mem_nil, or_false] at he
    rcases he with rfl | rfl | rfl | rfl | rfl | rfl | rfl | rfl <;> exact .nil _ _ _
  · simp [rdL, Sep.nilL]
  · simp only [rdL, List.mem_cons, List.not_mem_nil, or_false] at he
    rcases he with rfl | rfl | rfl | rfl | rfl | rfl | rfl | rfl <;> exact .nil _
theorem rd0_ok : RdOk rd0 := ⟨by decide, by decide, by decide, by decide, by decide, by simp [rd0]⟩
theorem gd_ok {α : Type} {b : Bool} {k : Int} {x : Except Int α} {y : α} : gd b k x = .ok y ↔ b = true ∧ x = .ok y := by
  unfold gd; split <;> simp_all
theorem gd_err {α : Type} {b : Bool} {k k' : Int} {x : Except Int α} : gd b k x = .error k' ↔ (b = false ∧ k = k') ∨ (b = true ∧ x = .error k') := by
  unfold gd; split <;> simp_all
theorem line_err {s : Rd} {w : List ByteArray} {k : Int} (h : lineP s w = .error k) : ¬ k = 0 := by
  unfold lineP at h
  simp only [cameraP, skyP, lightP, textureP, materialP, cageP, vertexP, faceP, creaseP] at h
  repeat' split at h
  all_goals (simp only [gd_err, reduceCtorEq, and_false, or_false, Except.error.injEq] at h; omega)
theorem putC_ok {cs : List CageT} {c : CageT} (h : ∀ c ∈ cs, c.Verts.length ≤ 64 ∧ c.Faces.length ≤ 64 ∧ c.Creases.length ≤ 128) (hc : c.Verts.length ≤ 64 ∧ c.Faces.length ≤ 64 ∧ c.Creases.length ≤ 128) :
    ∀ x ∈ putC cs c, x.Verts.length ≤ 64 ∧ x.Faces.length ≤ 64 ∧ x.Creases.length ≤ 128 := fun x hx => by
  rcases List.mem_append.1 hx with hx | hx
  · exact h x (List.dropLast_subset _ hx)
  · rw [List.mem_singleton.1 hx]; exact hc
theorem lineP_ok {s t : Rd} {w : List ByteArray} (ok : RdOk s) (h : lineP s w = .ok t) : RdOk t := by
  obtain ⟨a1, a2, a3, a4, a5, a6⟩ := ok
  have lc : s.cages ≠ [] → _ := fun hne => a6 _ (lastC_mem hne)
  unfold lineP at h
  simp only [cameraP, skyP, lightP, textureP, materialP, cageP, vertexP, faceP, creaseP] at h
  repeat' split at h
  all_goals simp only [gd_ok, Except.ok.injEq, decide_eq_true_eq, reduceCtorEq] at h
  · obtain ⟨_, _, _, _, _, _, _, rfl⟩ := h; exact ⟨a1, a2, a3, a4, a5, a6⟩
  · obtain ⟨_, _, _, rfl⟩ := h; exact ⟨a1, a2, a3, a4, a5, a6⟩
  · obtain ⟨_, h1, _, _, rfl⟩ := h; exact ⟨by simp; omega, a2, a3, a4, a5, a6⟩
  · obtain ⟨_, _, _, h1, _, _, _, rfl⟩ := h; exact ⟨a1, a2, by simp; omega, a4, a5, a6⟩
  · obtain ⟨_, _, h1, _, _, _, _, _, _, rfl⟩ := h; exact ⟨a1, by simp; omega, a3, a4, a5, a6⟩
  · obtain ⟨_, _, _, h1, _, _, _, _, rfl⟩ := h
    refine ⟨a1, a2, a3, by simp; omega, by simp [a5], fun c hc => ?_⟩
    rcases List.mem_append.1 hc with hc | hc
    · exact a6 c hc
    · rw [List.mem_singleton.1 hc]; simp
  · obtain ⟨_, h1, h2, _, rfl⟩ := h
    have hne : s.cages ≠ [] := List.length_pos_iff.1 (by omega)
    have := lc hne
    exact ⟨a1, a2, a3, a4, by simp only [putC_len hne]; exact a5, putC_ok a6 ⟨by simp; omega, this.2⟩⟩
  · obtain ⟨_, _, h1, h2, _, rfl⟩ := h
    have hne : s.cages ≠ [] := List.length_pos_iff.1 (by omega)
    have := lc hne
    exact ⟨a1, a2, a3, a4, by simp only [putC_len hne]; exact a5, putC_ok a6 ⟨this.1, by simp; omega, this.2.2⟩⟩
  · obtain ⟨_, h1, h2, _, _, _, rfl⟩ := h
    have hne : s.cages ≠ [] := List.length_pos_iff.1 (by omega)
    have := lc hne
    exact ⟨a1, a2, a3, a4, by simp only [putC_len hne]; exact a5, putC_ok a6 ⟨this.1, this.2.1, by simp; omega⟩⟩
theorem foldP_cons {s : Rd} {l : LineT} {r : List LineT} {t : Rd} (h : lineP s l.Words = .ok t) : foldP s (l :: r) = foldP t r := by simp only [foldP, h]
theorem foldP_err {s : Rd} {l : LineT} {r : List LineT} {k : Int} (h : lineP s l.Words = .error k) : foldP s (l :: r) = .error (l.No, k) := by simp only [foldP, h]
theorem drop_cons {l : List LineT} {i : Int} (h0 : 0 ≤ i) (h1 : i < l.length) : l.drop i.toNat = at_ l i :: l.drop (i + 1).toNat := by
  rw [at_get h0 h1, show (i + 1).toNat = i.toNat + 1 by omega]; exact List.drop_eq_getElem_cons _
theorem fold_step {r t : Rd} {l : List LineT} {i : Int} (h0 : 0 ≤ i) (h1 : i < l.length) (h : lineP r (at_ l i).Words = .ok t) : foldP r (l.drop i.toNat) = foldP t (l.drop (i + 1).toNat) := by
  rw [drop_cons h0 h1]; exact foldP_cons h
theorem scan_ne : ∀ (ps : List ByteArray) (i : Int) (out : List LineT), (∀ x ∈ out, 0 < x.Words.length) → ∀ x ∈ (scanL ps i out).1, 0 < x.Words.length
  | [], _, _, h => h
  | p :: r, i, out, h => by
    unfold scanL
    split
    · simp
    · refine scan_ne r _ _ fun x hx => ?_
      rcases List.mem_append.1 hx with hx | hx
      · exact h x hx
      · unfold lineOf at hx
        split at hx
        · rw [List.mem_singleton.1 hx]; simp only; omega
        · simp at hx
theorem lines_ne (s : ByteArray) : ∀ x ∈ (linesR s).1, 0 < x.Words.length := by
  unfold linesR
  split
  · simp
  · exact scan_ne _ _ _ (by simp)
theorem line_at (s : ByteArray) {i : Int} (h0 : 0 ≤ i) (h1 : i < ((linesR s).1.length : Int)) : (at_ (linesR s).1 i).Words.length ≤ 1048576 ∧ 0 < (at_ (linesR s).1 i).Words.length := by
  have hm : at_ (linesR s).1 i ∈ (linesR s).1 := by rw [at_get h0 h1]; exact List.getElem_mem _
  exact ⟨lines_words s _ hm, lines_ne s _ hm⟩
section
variable {s : ByteArray} {r : Rd} {i : Int}
theorem parse_err {k : Int} (h0 : (linesR s).2.2 = 0) (hf : foldP rd0 (linesR s).1 = foldP r ((linesR s).1.drop i.toNat)) (hi : 0 ≤ i) (h1 : i < ((linesR s).1.length : Int)) (he : lineP r (at_ (linesR s).1 i).Words = .error k) : parseR s = (rd0.scene, (at_ (linesR s).1 i).No, k) := by
  unfold parseR
  rw [if_pos h0, hf, drop_cons hi h1, foldP_err he]; rfl
theorem parse_end (h0 : (linesR s).2.2 = 0) (hf : foldP rd0 (linesR s).1 = foldP r ((linesR s).1.drop i.toNat)) (h1 : ((linesR s).1.length : Int) ≤ i) : parseR s = endP (.ok r) := by
  unfold parseR
  rw [if_pos h0, hf, List.drop_eq_nil_of_le (by omega)]; rfl
theorem parse_ok (h0 : (linesR s).2.2 = 0) (hf : foldP rd0 (linesR s).1 = foldP r ((linesR s).1.drop i.toNat)) (h1 : ((linesR s).1.length : Int) ≤ i) (h : r.hc = true) : parseR s = (r.scene, 0, 0) := by
  rw [parse_end h0 hf h1]; simp [endP, h]
theorem parse_no (h0 : (linesR s).2.2 = 0) (hf : foldP rd0 (linesR s).1 = foldP r ((linesR s).1.drop i.toNat)) (h1 : ((linesR s).1.length : Int) ≤ i) (h : r.hc = false) : parseR s = (rd0.scene, 0, 15) := by
  rw [parse_end h0 hf h1]; simp [endP, h]
end
end Go.Proofs.S
namespace Go.Proofs.S
open Go Go.AH Go.Proofs.L
set_option maxRecDepth 4000
set_option maxHeartbeats 4000000
set_option linter.unusedSimpArgs false
set_option linter.unusedVariables false
set_option linter.unusedSectionVars false
variable [LexG]
theorem c_Parse (s : ByteArray) : PC Tryd.prog 8 [.str s] (.tup [.agg (eScene (parseR s).1), .int .i64 ((parseR s).2.1), .int .i64 ((parseR s).2.2)]) := by
 intro H0
 refine ACalls.of_body' (n := 52) rfl rfl rfl rfl ?_
 have m0 := Mono.refl H0
 refine AWP.seq ?_
 refine AWP.region (l := [0, 1, 2]) rfl ?_
 refine AOps.cons rfl rfl (AOp.alloc rfl tz_35 ?_)
 intro i1 H2 n3 h4 k5
 have z6 := Mono.free m0 n3
 have m7 := Mono.new m0 n3 k5
 refine AOps.cons rfl rfl (AOp.assign (.int .i64 0) rfl rfl ?_)
 refine AOps.cons rfl rfl (AOp.assign (.int .i64 0) rfl rfl ?_)
 refine AOps.nil ?_
 change AWP _ _ _ _ _ _
 refine AWP.seq ?_
 refine AWP.region (l := [0, 1, 2, 3, 4, 5, 6, 7, 8]) rfl ?_
 refine AOps.cons rfl rfl (AOp.move (.str s) rfl rfl ?_)
 refine AOps.cons rfl rfl (AOp.pcall («as» := [.str s]) rfl rfl (rfl) tf_9 (c_lex_Lines _) ?_)
 intro H8 m9
 have h10 := m9 _ _ h4
 have m11 := m7.trans m9
 refine AOps.cons rfl rfl (AOp.move (.tup [.sl ((linesR s).1).length (((linesR s).1).flatMap eLine), .int .i64 ((linesR s).2.1), .int .i64 ((linesR s).2.2)]) rfl rfl ?_)
 refine AOps.cons rfl rfl (AOp.extract (.sl ((linesR s).1).length (((linesR s).1).flatMap eLine)) rfl rfl rfl ?_)
 refine AOps.cons rfl rfl (AOp.extract (.int .i64 ((linesR s).2.1)) rfl rfl rfl ?_)
 refine AOps.cons rfl rfl (AOp.extract (.int .i64 ((linesR s).2.2)) rfl rfl rfl ?_)
 refine AOps.cons rfl rfl (AOp.assign (.sl ((linesR s).1).length (((linesR s).1).flatMap eLine)) rfl rfl ?_)
 refine AOps.cons rfl rfl (AOp.assign (.int .i64 ((linesR s).2.1)) rfl rfl ?_)
 refine AOps.cons rfl rfl (AOp.assign (.int .i64 ((linesR s).2.2)) rfl rfl ?_)
 refine AOps.nil ?_
 change AWP _ _ _ _ _ _
 refine AWP.seq ?_
 refine AWP.seq ?_
 refine AWP.region (l := [0, 1]) rfl ?_
 refine AOps.cons rfl rfl (AOp.move (.int .i64 ((linesR s).2.2)) rfl rfl ?_)
 refine AOps.cons rfl rfl (AOp.bin (.bool (!decide ((linesR s).2.2 = 0))) rfl rfl rfl ine ?_)
 refine AOps.nil ?_
 change AWP _ _ _ _ _ _
 by_cases b12 : (linesR s).2.2 = 0
 ·
  refine AWP.condF rfl (nb (decide_eq_true b12)) ?_
  refine AWP.skip ?_
  change AWP _ _ _ _ _ _
  refine AWP.seq ?_
  refine AWP.region (l := [0, 1, 2]) rfl ?_
  refine AOps.cons rfl rfl (AOp.build (cells := [.int .i64 0, .int .i64 0, .int .i64 0, .int .i64 0, .int .i64 0, .int .i64 0, .int .i64 0, .int .i64 0, .int .i64 0, .int .i64 0, .int .i64 0, .int .i64 0, .int .i64 0, .int .i64 0, .int .i64 0, .int .i64 0, .int .i64 0, .int .i64 0, .int .i64 0, .snil, .snil, .snil, .snil, .snil, .bool false, .bool false]) rfl tz_59 pl_59 rfl rfl ?_)
  refine AOps.cons rfl rfl (AOp.box (.agg [.int .i64 0, .int .i64 0, .int .i64 0, .int .i64 0, .int .i64 0, .int .i64 0, .int .i64 0, .int .i64 0, .int .i64 0, .int .i64 0, .int .i64 0, .int .i64 0, .int .i64 0, .int .i64 0, .int .i64 0, .int .i64 0, .int .i64 0, .int .i64 0, .int .i64 0, .snil, .snil, .snil, .snil, .snil, .bool false, .bool false]) rfl rfl rfl ?_)
  intro i13 H14 n15 h16 k17
  have e18 := ne_new h10 n15
  have z19 := Mono.free m11 n15
  have h20 := keep k17 (ne_new h10 n15) h10
  have m21 := Mono.new m11 n15 k17
  refine AOps.cons rfl rfl (AOp.assign (.ptr i13 0 0) rfl rfl ?_)
  refine AOps.nil ?_
  change AWP _ _ _ _ _ _
  refine AWP.seq ?_
  refine AWP.seq ?_
  have hrd0 : RD H8 H14 i13 0 rd0 := RD.init h16 n15
  have hmm0 : Mono H8 H14 := Mono.new (Mono.refl _) n15 k17
  have hl0_ := b12
  have hll_ := lines_len s
  refine AWP.region (l := [0, 1, 2]) rfl ?_
  refine AOps.cons rfl rfl (AOp.move (.sl ((linesR s).1).length (((linesR s).1).flatMap eLine)) rfl rfl ?_)
  refine AOps.cons rfl rfl (AOp.len (m := ((linesR s).1).length) rfl rfl (.inr (.inl ⟨_, rfl⟩)) u_49 ?_)
  refine AOps.cons rfl rfl (AOp.move (.int .i64 0) rfl rfl ?_)
  refine AOps.nil ?_
  change AWP _ _ _ _ _ _
  refine AWP.block ?_
  refine AWP.loop (fun q22 fq Hq => ∃ (i : Int) (r : Rd), q22 = (((((linesR s).1).length : Int) : Int) - i).toNat ∧ fq 27 = .int .i64 i ∧ fq 2 = .ptr i1 0 0 ∧ fq 8 = .ptr i13 0 0 ∧ fq 25 = .sl ((linesR s).1).length (((linesR s).1).flatMap eLine) ∧ fq 26 = .int .i64 ((((linesR s).1).length) : Int) ∧ Hq i1 = some (.row 0 ([.int .i64 0, .int .i64 0, .int .i64 0, .int .i64 0, .int .i64 0, .int .i64 0, .int .i64 0, .int .i64 0, .int .i64 0, .int .i64 0, .int .i64 0, .int .i64 0, .int .i64 0, .int .i64 0, .int .i64 0, .int .i64 0, .int .i64 0, .int .i64 0, .int .i64 0, .snil, .snil, .snil, .snil, .snil])) ∧ Mono H0 Hq ∧ (RD H8 Hq i13 0 r) ∧ (Mono H8 Hq) ∧ (0 ≤ i) ∧ (i ≤ (((linesR s).1).length : Int)) ∧ (foldP rd0 (linesR s).1 = foldP r ((linesR s).1.drop i.toNat)) ∧ (RdOk r)) (k := (((((linesR s).1).length : Int) : Int) - 0).toNat) ?_ ?_
  ·
   exact ⟨0, rd0, rfl, rfl, rfl, rfl, rfl, rfl, h20, m21, hrd0, hmm0, by omega, by omega, by rfl, by exact rd0_ok⟩
  ·
   rintro _ f24 H23 ⟨i, r, rfl, s25, s26, s27, s28, s29, h30, m31, hrd, hmm, hi0, hi1, hfd, hok⟩
   refine AWP.seq ?_
   refine AWP.region (l := [0]) rfl ?_
   refine AOps.cons rfl rfl (AOp.bin (.bool (decide (i < ((((linesR s).1).length) : Int)))) rfl s25 s29 rfl ?_)
   refine AOps.nil ?_
   change AWP _ _ _ _ _ _
   refine AWP.seq ?_
   by_cases b32 : i < ((((linesR s).1).length) : Int)
   ·
    refine AWP.condT rfl (decide_eq_true b32) ?_
    refine AWP.skip ?_
    change AWP _ _ _ _ _ _
    refine AWP.seq ?_
    refine AWP.block ?_
    refine AWP.seq ?_
    refine AWP.region (l := [0, 1, 2, 3]) rfl ?_
    refine AOps.cons rfl rfl (AOp.indexAddrS rfl s28 s25 sl_49 (by omega) (by omega) ?_)
    refine AOps.cons rfl rfl (AOp.loadF (.agg [.int .i64 ((at_ ((linesR s).1) i).No), .sl ((at_ ((linesR s).1) i).Words).length (((at_ ((linesR s).1) i).Words).map eStr)]) rfl rfl ty_54 (ldM eLine_len (by omega) (by omega)) ?_)
    refine AOps.cons rfl rfl (AOp.alloc rfl tz_54 ?_)
    intro i33 H34 n35 h36 k37
    have e38 := ne_new h30 n35
    have z39 := Mono.free m31 n35
    have h40 := keep k37 (ne_new h30 n35) h30
    have rd41 := hrd.mono (Mono.new (Mono.refl _) n35 k37)
    have rd42 := Mono.trans hmm (Mono.new (Mono.refl _) n35 k37)
    have mn43 := Mono.new (Mono.refl H23) n35 k37
    have m44 := Mono.new m31 n35 k37
    refine AOps.cons rfl rfl (AOp.store' (cells' := [.int .i64 ((at_ ((linesR s).1) i).No), .sl ((at_ ((linesR s).1) i).Words).length (((at_ ((linesR s).1) i).Words).map eStr)]) (.agg [.int .i64 ((at_ ((linesR s).1) i).No), .sl ((at_ ((linesR s).1) i).Words).length (((at_ ((linesR s).1) i).Words).map eStr)]) rfl rfl ts_54 h36 rfl rfl rfl rfl ?_)
    intro H45 h46 k47
    have h48 := keep k47 e38 h40
    have mn50 := Mono.set mn43 n35 k47
    have rd51 := hrd.mono mn50
    have rd52 := Mono.trans hmm mn50
    have m53 := Mono.set m44 z39 k47
    refine AOps.nil ?_
    change AWP _ _ _ _ _ _
    refine AWP.seq ?_
    refine AWP.frzP 10 h46 z39 rfl m53 fun H54 m55 k56 => ?_
    have h57 := (k56 _ e38).trans h48
    have mn58 := Mono.set mn50 n35 k56
    have rd59 := hrd.mono mn58
    have rd60 := Mono.trans hmm mn58
    refine AWP.region (l := [0, 1, 2, 3, 4]) rfl ?_
    refine AOps.cons rfl rfl (AOp.move (.ptr i13 0 0) rfl s27 ?_)
    refine AOps.cons rfl rfl (AOp.fieldAddrF rfl rfl fl_54_1 ?_)
    refine AOps.cons rfl rfl (AOp.loadF (.sl ((at_ ((linesR s).1) i).Words).length (((at_ ((linesR s).1) i).Words).map eStr)) rfl rfl ty_52 rfl ?_)
    have hwd := line_at s hi0 (by omega)
    refine AOps.cons rfl rfl (AOp.xcall («as» := [.ptr i13 0 0, .sl ((at_ ((linesR s).1) i).Words).length (((at_ ((linesR s).1) i).Words).map eStr)]) rfl rfl (rfl) tf_11 (c_read (B := H8) rd60 rd59 hok ((at_ ((linesR s).1) i).Words) hwd.1 hwd.2) ?_)
    rintro _ H61 (⟨t62, et63, hR64, m65, rfl⟩ | ⟨k66, et63, m65, rfl⟩)
    ·
     refine AOps.cons rfl rfl (AOp.assign (.int .i64 0) rfl rfl ?_)
     refine AOps.nil ?_
     change AWP _ _ _ _ _ _
     refine AWP.seq ?_
     refine AWP.region (l := [0, 1]) rfl ?_
     refine AOps.cons rfl rfl (AOp.move (.int .i64 0) rfl rfl ?_)
     refine AOps.cons rfl rfl (AOp.bin (.bool (!decide (0 = 0))) rfl rfl rfl ine ?_)
     refine AOps.nil ?_
     change AWP _ _ _ _ _ _
     refine AWP.condF rfl (nb (decide_eq_true (by decide))) ?_
     refine AWP.skip ?_
     change AWP _ _ _ _ _ _
     refine AWP.region (l := [0, 1]) rfl ?_
     refine AOps.cons rfl rfl (AOp.bin (.int .i64 (i + 1)) rfl s25 rfl (iadd (by omega)) ?_)
     refine AOps.cons rfl rfl (AOp.move (.int .i64 (i + 1)) rfl rfl ?_)
     refine AOps.nil ?_
     exact ⟨_, by omega, i + 1, t62, rfl, rfl, s26, s27, s28, s29, (m65 _ _ h10), (Mono.trans m11 m65), hR64, m65, by omega, by omega, by rw [hfd]; exact fold_step hi0 (by omega) et63, by exact lineP_ok hok et63⟩
    ·
     have hk67 := line_err et63
     refine AOps.cons rfl rfl (AOp.assign (.int .i64 k66) rfl rfl ?_)
     refine AOps.nil ?_
     change AWP _ _ _ _ _ _
     refine AWP.seq ?_
     refine AWP.region (l := [0, 1]) rfl ?_
     refine AOps.cons rfl rfl (AOp.move (.int .i64 k66) rfl rfl ?_)
     refine AOps.cons rfl rfl (AOp.bin (.bool (!decide (k66 = 0))) rfl rfl rfl ine ?_)
     refine AOps.nil ?_
     change AWP _ _ _ _ _ _
     refine AWP.condT rfl (nb (decide_eq_false hk67)) ?_
     refine AWP.seq ?_
     refine AWP.region_str mixed (by kernel_rfl) [(0, none), (1, none), (2, none), (3, none), (4, some [1, 2, 3]), (5, none)] [6] (by kernel_rfl) ?_
     refine STR.op rfl rfl (.inl ⟨rfl, fun H1 f' H' hf hN hM => AOp.build (cells := [.int .i64 0, .int .i64 0, .int .i64 0, .int .i64 0, .int .i64 0, .int .i64 0, .int .i64 0, .int .i64 0, .int .i64 0, .int .i64 0, .int .i64 0, .int .i64 0, .int .i64 0, .int .i64 0, .int .i64 0, .int .i64 0, .int .i64 0, .int .i64 0, .int .i64 0, .snil, .snil, .snil, .snil, .snil]) rfl tz_35 pl_35 rfl rfl ⟨rfl, hN⟩⟩) ?_
     refine STR.op rfl rfl (.inl ⟨rfl, fun H1 f' H' hf hN hM => AOp.fieldAddrF rfl ((hf 10 rfl).trans rfl) fl_54_0 ⟨rfl, hN⟩⟩) ?_
     refine STR.op rfl rfl (.inl ⟨rfl, fun H1 f' H' hf hN hM => AOp.loadF (.int .i64 ((at_ ((linesR s).1) i).No)) rfl ((hf 38 rfl).trans rfl) ty_3 rfl ⟨rfl, hN⟩⟩) ?_
     refine STR.op rfl rfl (.inl ⟨rfl, fun H1 f' H' hf hN hM => AOp.move (.int .i64 k66) rfl ((hf 11 rfl).trans rfl) ⟨rfl, hN⟩⟩) ?_
     refine STR.st rfl rfl rfl fun f68 H69 hf70 m71 => ?_
     have h72 := m71 _ _ (m65 _ _ h10)
     have m73 := (Mono.trans m11 m65).trans m71
     refine AOp.store' (cells' := [.int .i64 0, .int .i64 0, .int .i64 0, .int .i64 0, .int .i64 0, .int .i64 0, .int .i64 0, .int .i64 0, .int .i64 0, .int .i64 0, .int .i64 0, .int .i64 0, .int .i64 0, .int .i64 0, .int .i64 0, .int .i64 0, .int .i64 0, .int .i64 0, .int .i64 0, .snil, .snil, .snil, .snil, .snil]) (.agg [.int .i64 0, .int .i64 0, .int .i64 0, .int .i64 0, .int .i64 0, .int .i64 0, .int .i64 0, .int .i64 0, .int .i64 0, .int .i64 0, .int .i64 0, .int .i64 0, .int .i64 0, .int .i64 0, .int .i64 0, .int .i64 0, .int .i64 0, .int .i64 0, .int .i64 0, .snil, .snil, .snil, .snil, .snil]) ((hf70 2 rfl).trans s26) ((hf70 37 rfl).trans rfl) ts_35 h72 rfl rfl rfl rfl ?_
     intro H74 h75 k76
     have m78 := Mono.set m73 z6 k76
     refine ⟨rfl, .inr (RevR.cons rfl (.inl ⟨rfl, fun H1 f' H' hf hN hM => AOp.move (.int .i64 k66) rfl ((hf 11 rfl).trans rfl) ⟨rfl, hN⟩⟩) (RevR.cons rfl (.inl ⟨rfl, fun H1 f' H' hf hN hM => AOp.loadF (.int .i64 ((at_ ((linesR s).1) i).No)) rfl ((hf 38 rfl).trans rfl) ty_3 rfl ⟨rfl, hN⟩⟩) (RevR.cons rfl (.inl ⟨rfl, fun H1 f' H' hf hN hM => AOp.fieldAddrF rfl ((hf 10 rfl).trans rfl) fl_54_0 ⟨rfl, hN⟩⟩) (RevR.skip rfl RevR.nil)))), ?_⟩
     refine STR.op rfl rfl (.inl ⟨rfl, fun H1 f' H' hf hN hM => AOp.assign (.int .i64 ((at_ ((linesR s).1) i).No)) rfl ((hf 39 rfl).trans rfl) ⟨rfl, hN⟩⟩) ?_
     refine STR.done fun H79 m80 => ?_
     have h81 := m80 _ _ h75
     have m82 := m78.trans m80
     refine AOps.cons rfl rfl (AOp.assign (.int .i64 k66) rfl rfl ?_)
     refine AOps.nil ?_
     change AWP _ _ _ _ _ _
     refine AWP.ret ?_
     refine Fin.frzCell 19 (Own.nil H0 H79 1) h81 z6 rfl (NotId.nil _) m82 fun H83 h84 m85 k86 => ?_
     have h87 : H83 i1 = some (.row 0 ([.int .i64 0, .int .i64 0, .int .i64 0, .int .i64 0, .int .i64 0, .int .i64 0, .int .i64 0, .int .i64 0, .int .i64 0, .int .i64 0, .int .i64 0, .int .i64 0, .int .i64 0, .int .i64 0, .int .i64 0, .int .i64 0, .int .i64 0, .int .i64 0, .int .i64 0, .sl 0 ([]), .snil, .snil, .snil, .snil])) := h84
     refine Fin.frzCell 20 (Own.nil H0 H83 1) h87 z6 rfl (NotId.nil _) m85 fun H88 h89 m90 k91 => ?_
     have h92 : H88 i1 = some (.row 0 ([.int .i64 0, .int .i64 0, .int .i64 0, .int .i64 0, .int .i64 0, .int .i64 0, .int .i64 0, .int .i64 0, .int .i64 0, .int .i64 0, .int .i64 0, .int .i64 0, .int .i64 0, .int .i64 0, .int .i64 0, .int .i64 0, .int .i64 0, .int .i64 0, .int .i64 0, .sl 0 ([]), .sl 0 ([]), .snil, .snil, .snil])) := h89
     refine Fin.frzCell 21 (Own.nil H0 H88 1) h92 z6 rfl (NotId.nil _) m90 fun H93 h94 m95 k96 => ?_
     have h97 : H93 i1 = some (.row 0 ([.int .i64 0, .int .i64 0, .int .i64 0, .int .i64 0, .int .i64 0, .int .i64 0, .int .i64 0, .int .i64 0, .int .i64 0, .int .i64 0, .int .i64 0, .int .i64 0, .int .i64 0, .int .i64 0, .int .i64 0, .int .i64 0, .int .i64 0, .int .i64 0, .int .i64 0, .sl 0 ([]), .sl 0 ([]), .sl 0 ([]), .snil, .snil])) := h94
     refine Fin.frzCell 22 (Own.nil H0 H93 1) h97 z6 rfl (NotId.nil _) m95 fun H98 h99 m100 k101 => ?_
     have h102 : H98 i1 = some (.row 0 ([.int .i64 0, .int .i64 0, .int .i64 0, .int .i64 0, .int .i64 0, .int .i64 0, .int .i64 0, .int .i64 0, .int .i64 0, .int .i64 0, .int .i64 0, .int .i64 0, .int .i64 0, .int .i64 0, .int .i64 0, .int .i64 0, .int .i64 0, .int .i64 0, .int .i64 0, .sl 0 ([]), .sl 0 ([]), .sl 0 ([]), .sl 0 ([]), .snil])) := h99
     refine Fin.frzCell 23 (Own.nil H0 H98 1) h102 z6 rfl (NotId.nil _) m100 fun H103 h104 m105 k106 => ?_
     have h107 : H103 i1 = some (.row 0 ([.int .i64 0, .int .i64 0, .int .i64 0, .int .i64 0, .int .i64 0, .int .i64 0, .int .i64 0, .int .i64 0, .int .i64 0, .int .i64 0, .int .i64 0, .int .i64 0, .int .i64 0, .int .i64 0, .int .i64 0, .int .i64 0, .int .i64 0, .int .i64 0, .int .i64 0, .sl 0 ([]), .sl 0 ([]), .sl 0 ([]), .sl 0 ([]), .sl 0 ([])])) := h104
     refine ⟨_, _, Ghost.refl, .inr rfl, _, Res.list rfl rfl (.cell (v := .agg [.int .i64 0, .int .i64 0, .int .i64 0, .int .i64 0, .int .i64 0, .int .i64 0, .int .i64 0, .int .i64 0, .int .i64 0, .int .i64 0, .int .i64 0, .int .i64 0, .int .i64 0, .int .i64 0, .int .i64 0, .int .i64 0, .int .i64 0, .int .i64 0, .int .i64 0, .sl 0 ([]), .sl 0 ([]), .sl 0 ([]), .sl 0 ([]), .sl 0 ([])]) s26 ty_35 h107 rfl (.tmp rfl (.tmp rfl (.nil)))), ?_, m105⟩
     have hP : parseR s = (rd0.scene, (at_ ((linesR s).1) i).No, k66) := parse_err hl0_ hfd hi0 (by omega) et63
     exact (congrArg (fun r : SceneT × Int × Int => AV.tup [.agg (eScene r.1), .int .i64 r.2.1, .int .i64 r.2.2]) hP).symm
   ·
    refine AWP.condF rfl (decide_eq_false b32) ?_
    refine AWP.exit ?_
    change AWP _ _ _ _ _ _
    refine AWP.seq ?_
    refine AWP.seq ?_
    refine AWP.rdFreeze hrd hmm fun H108 m109 h110 => ?_
    have hBid_ : H0 i13 = none := Mono.free m11 n15
    have e111 : i1 ≠ i13 := ne_new h10 n15
    refine AWP.region (l := [0, 1, 2, 3, 4]) rfl ?_
    refine AOps.cons rfl rfl (AOp.move (.ptr i13 0 0) rfl s27 ?_)
    refine AOps.cons rfl rfl (AOp.nilCheck (.ptr i13 0 0) rfl rfl rfl ?_)
    refine AOps.cons rfl rfl (AOp.fieldAddr rfl rfl fl_59_1 ?_ (hid := ⟨_, h110⟩))
    refine AOps.cons rfl rfl (AOp.load (.bool r.hc) rfl rfl ty_4 h110 rfl ?_)
    refine AOps.cons rfl rfl (AOp.not rfl rfl ?_)
    refine AOps.nil ?_
    change AWP _ _ _ _ _ _
    rcases Bool.eq_false_or_eq_true (r.hc) with b112 | b112
    ·
     refine AWP.condF rfl (nb b112) ?_
     refine AWP.skip ?_
     change AWP _ _ _ _ _ _
     refine AWP.seq ?_
     refine AWP.region (l := [0, 1, 2, 3, 4, 5, 6]) rfl ?_
     refine AOps.cons rfl rfl (AOp.move (.ptr i13 0 0) rfl s27 ?_)
     refine AOps.cons rfl rfl (AOp.nilCheck (.ptr i13 0 0) rfl rfl rfl ?_)
     refine AOps.cons rfl rfl (AOp.fieldAddr rfl rfl fl_59_0 ?_ (hid := ⟨_, h110⟩))
     refine AOps.cons rfl rfl (AOp.load (.agg [.int .i64 r.scene.Camera.Eye.X, .int .i64 r.scene.Camera.Eye.Y, .int .i64 r.scene.Camera.Eye.Z, .int .i64 r.scene.Camera.First.X, .int .i64 r.scene.Camera.First.Y, .int .i64 r.scene.Camera.First.Z, .int .i64 r.scene.Camera.Right.X, .int .i64 r.scene.Camera.Right.Y, .int .i64 r.scene.Camera.Right.Z, .int .i64 r.scene.Camera.Down.X, .int .i64 r.scene.Camera.Down.Y, .int .i64 r.scene.Camera.Down.Z, .int .i64 r.scene.Camera.W, .int .i64 r.scene.Camera.H, .int .i64 r.scene.Camera.Grid, .int .i64 r.scene.Camera.Depth, .int .i64 r.scene.Sky.R, .int .i64 r.scene.Sky.G, .int .i64 r.scene.Sky.B, .sl r.scene.Lights.length (r.scene.Lights.flatMap eLight), .sl r.scene.Mats.length (r.scene.Mats.flatMap eMat), .sl r.scene.Texs.length (r.scene.Texs.flatMap eTex), .sl r.scene.Skins.length (r.scene.Skins.flatMap eSkin), .sl r.scene.Cages.length (r.scene.Cages.flatMap eCage)]) rfl rfl ty_35 h110 rfl ?_)
     refine AOps.cons rfl rfl (AOp.store' (cells' := [.int .i64 r.scene.Camera.Eye.X, .int .i64 r.scene.Camera.Eye.Y, .int .i64 r.scene.Camera.Eye.Z, .int .i64 r.scene.Camera.First.X, .int .i64 r.scene.Camera.First.Y, .int .i64 r.scene.Camera.First.Z, .int .i64 r.scene.Camera.Right.X, .int .i64 r.scene.Camera.Right.Y, .int .i64 r.scene.Camera.Right.Z, .int .i64 r.scene.Camera.Down.X, .int .i64 r.scene.Camera.Down.Y, .int .i64 r.scene.Camera.Down.Z, .int .i64 r.scene.Camera.W, .int .i64 r.scene.Camera.H, .int .i64 r.scene.Camera.Grid, .int .i64 r.scene.Camera.Depth, .int .i64 r.scene.Sky.R, .int .i64 r.scene.Sky.G, .int .i64 r.scene.Sky.B, .sl r.scene.Lights.length (r.scene.Lights.flatMap eLight), .sl r.scene.Mats.length (r.scene.Mats.flatMap eMat), .sl r.scene.Texs.length (r.scene.Texs.flatMap eTex), .sl r.scene.Skins.length (r.scene.Skins.flatMap eSkin), .sl r.scene.Cages.length (r.scene.Cages.flatMap eCage)]) (.agg [.int .i64 r.scene.Camera.Eye.X, .int .i64 r.scene.Camera.Eye.Y, .int .i64 r.scene.Camera.Eye.Z, .int .i64 r.scene.Camera.First.X, .int .i64 r.scene.Camera.First.Y, .int .i64 r.scene.Camera.First.Z, .int .i64 r.scene.Camera.Right.X, .int .i64 r.scene.Camera.Right.Y, .int .i64 r.scene.Camera.Right.Z, .int .i64 r.scene.Camera.Down.X, .int .i64 r.scene.Camera.Down.Y, .int .i64 r.scene.Camera.Down.Z, .int .i64 r.scene.Camera.W, .int .i64 r.scene.Camera.H, .int .i64 r.scene.Camera.Grid, .int .i64 r.scene.Camera.Depth, .int .i64 r.scene.Sky.R, .int .i64 r.scene.Sky.G, .int .i64 r.scene.Sky.B, .sl r.scene.Lights.length (r.scene.Lights.flatMap eLight), .sl r.scene.Mats.length (r.scene.Mats.flatMap eMat), .sl r.scene.Texs.length (r.scene.Texs.flatMap eTex), .sl r.scene.Skins.length (r.scene.Skins.flatMap eSkin), .sl r.scene.Cages.length (r.scene.Cages.flatMap eCage)]) s26 rfl ts_35 (m109 _ _ h10) rfl rfl rfl rfl ?_)
     intro H113 h114 k115
     have h117 := keep k115 (Ne.symm e111) h110
     have m118 := Mono.set (Mono.trans m11 m109) z6 k115
     refine AOps.cons rfl rfl (AOp.assign (.int .i64 0) rfl rfl ?_)
     refine AOps.cons rfl rfl (AOp.assign (.int .i64 0) rfl rfl ?_)
     refine AOps.nil ?_
     change AWP _ _ _ _ _ _
     refine AWP.ret ?_
     refine ⟨_, _, Ghost.refl, .inr rfl, _, Res.list rfl rfl (.cell (v := .agg [.int .i64 r.scene.Camera.Eye.X, .int .i64 r.scene.Camera.Eye.Y, .int .i64 r.scene.Camera.Eye.Z, .int .i64 r.scene.Camera.First.X, .int .i64 r.scene.Camera.First.Y, .int .i64 r.scene.Camera.First.Z, .int .i64 r.scene.Camera.Right.X, .int .i64 r.scene.Camera.Right.Y, .int .i64 r.scene.Camera.Right.Z, .int .i64 r.scene.Camera.Down.X, .int .i64 r.scene.Camera.Down.Y, .int .i64 r.scene.Camera.Down.Z, .int .i64 r.scene.Camera.W, .int .i64 r.scene.Camera.H, .int .i64 r.scene.Camera.Grid, .int .i64 r.scene.Camera.Depth, .int .i64 r.scene.Sky.R, .int .i64 r.scene.Sky.G, .int .i64 r.scene.Sky.B, .sl r.scene.Lights.length (r.scene.Lights.flatMap eLight), .sl r.scene.Mats.length (r.scene.Mats.flatMap eMat), .sl r.scene.Texs.length (r.scene.Texs.flatMap eTex), .sl r.scene.Skins.length (r.scene.Skins.flatMap eSkin), .sl r.scene.Cages.length (r.scene.Cages.flatMap eCage)]) s26 ty_35 h114 rfl (.tmp rfl (.tmp rfl (.nil)))), ?_, m118⟩
     have hP : parseR s = (r.scene, 0, 0) := parse_ok hl0_ hfd (by omega) b112
     exact (congrArg (fun r : SceneT × Int × Int => AV.tup [.agg (eScene r.1), .int .i64 r.2.1, .int .i64 r.2.2]) hP).symm
    ·
     refine AWP.condT rfl (nb b112) ?_
     refine AWP.seq ?_
     refine AWP.region (l := [0, 1, 2, 3]) rfl ?_
     refine AOps.cons rfl rfl (AOp.build (cells := [.int .i64 0, .int .i64 0, .int .i64 0, .int .i64 0, .int .i64 0, .int .i64 0, .int .i64 0, .int .i64 0, .int .i64 0, .int .i64 0, .int .i64 0, .int .i64 0, .int .i64 0, .int .i64 0, .int .i64 0, .int .i64 0, .int .i64 0, .int .i64 0, .int .i64 0, .snil, .snil, .snil, .snil, .snil]) rfl tz_35 pl_35 rfl rfl ?_)
     refine AOps.cons rfl rfl (AOp.store' (cells' := [.int .i64 0, .int .i64 0, .int .i64 0, .int .i64 0, .int .i64 0, .int .i64 0, .int .i64 0, .int .i64 0, .int .i64 0, .int .i64 0, .int .i64 0, .int .i64 0, .int .i64 0, .int .i64 0, .int .i64 0, .int .i64 0, .int .i64 0, .int .i64 0, .int .i64 0, .snil, .snil, .snil, .snil, .snil]) (.agg [.int .i64 0, .int .i64 0, .int .i64 0, .int .i64 0, .int .i64 0, .int .i64 0, .int .i64 0, .int .i64 0, .int .i64 0, .int .i64 0, .int .i64 0, .int .i64 0, .int .i64 0, .int .i64 0, .int .i64 0, .int .i64 0, .int .i64 0, .int .i64 0, .int .i64 0, .snil, .snil, .snil, .snil, .snil]) s26 rfl ts_35 (m109 _ _ h10) rfl rfl rfl rfl ?_)
     intro H119 h120 k121
     have h123 := keep k121 (Ne.symm e111) h110
     have m124 := Mono.set (Mono.trans m11 m109) z6 k121
     refine AOps.cons rfl rfl (AOp.assign (.int .i64 0) rfl rfl ?_)
     refine AOps.cons rfl rfl (AOp.assign (.int .i64 15) rfl rfl ?_)
     refine AOps.nil ?_
     change AWP _ _ _ _ _ _
     refine AWP.ret ?_
     refine Fin.frzCell 19 (Own.nil H0 H119 1) h120 z6 rfl (NotId.nil _) m124 fun H125 h126 m127 k128 => ?_
     have h129 := (k128 _ (Ne.symm e111) (NotId.nil _)).trans h123
     have h130 : H125 i1 = some (.row 0 ([.int .i64 0, .int .i64 0, .int .i64 0, .int .i64 0, .int .i64 0, .int .i64 0, .int .i64 0, .int .i64 0, .int .i64 0, .int .i64 0, .int .i64 0, .int .i64 0, .int .i64 0, .int .i64 0, .int .i64 0, .int .i64 0, .int .i64 0, .int .i64 0, .int .i64 0, .sl 0 ([]), .snil, .snil, .snil, .snil])) := h126
     refine Fin.frzCell 20 (Own.nil H0 H125 1) h130 z6 rfl (NotId.nil _) m127 fun H131 h132 m133 k134 => ?_
     have h135 := (k134 _ (Ne.symm e111) (NotId.nil _)).trans h129
     have h136 : H131 i1 = some (.row 0 ([.int .i64 0, .int .i64 0, .int .i64 0, .int .i64 0, .int .i64 0, .int .i64 0, .int .i64 0, .int .i64 0, .int .i64 0, .int .i64 0, .int .i64 0, .int .i64 0, .int .i64 0, .int .i64 0, .int .i64 0, .int .i64 0, .int .i64 0, .int .i64 0, .int .i64 0, .sl 0 ([]), .sl 0 ([]), .snil, .snil, .snil])) := h132
     refine Fin.frzCell 21 (Own.nil H0 H131 1) h136 z6 rfl (NotId.nil _) m133 fun H137 h138 m139 k140 => ?_
     have h141 := (k140 _ (Ne.symm e111) (NotId.nil _)).trans h135
     have h142 : H137 i1 = some (.row 0 ([.int .i64 0, .int .i64 0, .int .i64 0, .int .i64 0, .int .i64 0, .int .i64 0, .int .i64 0, .int .i64 0, .int .i64 0, .int .i64 0, .int .i64 0, .int .i64 0, .int .i64 0, .int .i64 0, .int .i64 0, .int .i64 0, .int .i64 0, .int .i64 0, .int .i64 0, .sl 0 ([]), .sl 0 ([]), .sl 0 ([]), .snil, .snil])) := h138
     refine Fin.frzCell 22 (Own.nil H0 H137 1) h142 z6 rfl (NotId.nil _) m139 fun H143 h144 m145 k146 => ?_
     have h147 := (k146 _ (Ne.symm e111) (NotId.nil _)).trans h141
     have h148 : H143 i1 = some (.row 0 ([.int .i64 0, .int .i64 0, .int .i64 0, .int .i64 0, .int .i64 0, .int .i64 0, .int .i64 0, .int .i64 0, .int .i64 0, .int .i64 0, .int .i64 0, .int .i64 0, .int .i64 0, .int .i64 0, .int .i64 0, .int .i64 0, .int .i64 0, .int .i64 0, .int .i64 0, .sl 0 ([]), .sl 0 ([]), .sl 0 ([]), .sl 0 ([]), .snil])) := h144
     refine Fin.frzCell 23 (Own.nil H0 H143 1) h148 z6 rfl (NotId.nil _) m145 fun H149 h150 m151 k152 => ?_
     have h153 := (k152 _ (Ne.symm e111) (NotId.nil _)).trans h147
     have h154 : H149 i1 = some (.row 0 ([.int .i64 0, .int .i64 0, .int .i64 0, .int .i64 0, .int .i64 0, .int .i64 0, .int .i64 0, .int .i64 0, .int .i64 0, .int .i64 0, .int .i64 0, .int .i64 0, .int .i64 0, .int .i64 0, .int .i64 0, .int .i64 0, .int .i64 0, .int .i64 0, .int .i64 0, .sl 0 ([]), .sl 0 ([]), .sl 0 ([]), .sl 0 ([]), .sl 0 ([])])) := h150
     refine ⟨_, _, Ghost.refl, .inr rfl, _, Res.list rfl rfl (.cell (v := .agg [.int .i64 0, .int .i64 0, .int .i64 0, .int .i64 0, .int .i64 0, .int .i64 0, .int .i64 0, .int .i64 0, .int .i64 0, .int .i64 0, .int .i64 0, .int .i64 0, .int .i64 0, .int .i64 0, .int .i64 0, .int .i64 0, .int .i64 0, .int .i64 0, .int .i64 0, .sl 0 ([]), .sl 0 ([]), .sl 0 ([]), .sl 0 ([]), .sl 0 ([])]) s26 ty_35 h154 rfl (.tmp rfl (.tmp rfl (.nil)))), ?_, m151⟩
     have hP : parseR s = (rd0.scene, 0, 15) := parse_no hl0_ hfd (by omega) b112
     exact (congrArg (fun r : SceneT × Int × Int => AV.tup [.agg (eScene r.1), .int .i64 r.2.1, .int .i64 r.2.2]) hP).symm
 ·
  refine AWP.condT rfl (nb (decide_eq_false b12)) ?_
  refine AWP.seq ?_
  refine AWP.region (l := [0, 1, 2, 3, 4, 5]) rfl ?_
  refine AOps.cons rfl rfl (AOp.build (cells := [.int .i64 0, .int .i64 0, .int .i64 0, .int .i64 0, .int .i64 0, .int .i64 0, .int .i64 0, .int .i64 0, .int .i64 0, .int .i64 0, .int .i64 0, .int .i64 0, .int .i64 0, .int .i64 0, .int .i64 0, .int .i64 0, .int .i64 0, .int .i64 0, .int .i64 0, .snil, .snil, .snil, .snil, .snil]) rfl tz_35 pl_35 rfl rfl ?_)
  refine AOps.cons rfl rfl (AOp.move (.int .i64 ((linesR s).2.1)) rfl rfl ?_)
  refine AOps.cons rfl rfl (AOp.move (.int .i64 ((linesR s).2.2)) rfl rfl ?_)
  refine AOps.cons rfl rfl (AOp.store' (cells' := [.int .i64 0, .int .i64 0, .int .i64 0, .int .i64 0, .int .i64 0, .int .i64 0, .int .i64 0, .int .i64 0, .int .i64 0, .int .i64 0, .int .i64 0, .int .i64 0, .int .i64 0, .int .i64 0, .int .i64 0, .int .i64 0, .int .i64 0, .int .i64 0, .int .i64 0, .snil, .snil, .snil, .snil, .snil]) (.agg [.int .i64 0, .int .i64 0, .int .i64 0, .int .i64 0, .int .i64 0, .int .i64 0, .int .i64 0, .int .i64 0, .int .i64 0, .int .i64 0, .int .i64 0, .int .i64 0, .int .i64 0, .int .i64 0, .int .i64 0, .int .i64 0, .int .i64 0, .int .i64 0, .int .i64 0, .snil, .snil, .snil, .snil, .snil]) rfl rfl ts_35 h10 rfl rfl rfl rfl ?_)
  intro H155 h156 k157
  have m159 := Mono.set m11 z6 k157
  refine AOps.cons rfl rfl (AOp.assign (.int .i64 ((linesR s).2.1)) rfl rfl ?_)
  refine AOps.cons rfl rfl (AOp.assign (.int .i64 ((linesR s).2.2)) rfl rfl ?_)
  refine AOps.nil ?_
  change AWP _ _ _ _ _ _
  refine AWP.ret ?_
  refine Fin.frzCell 19 (Own.nil H0 H155 1) h156 z6 rfl (NotId.nil _) m159 fun H160 h161 m162 k163 => ?_
  have h164 : H160 i1 = some (.row 0 ([.int .i64 0, .int .i64 0, .int .i64 0, .int .i64 0, .int .i64 0, .int .i64 0, .int .i64 0, .int .i64 0, .int .i64 0, .int .i64 0, .int .i64 0, .int .i64 0, .int .i64 0, .int .i64 0, .int .i64 0, .int .i64 0, .int .i64 0, .int .i64 0, .int .i64 0, .sl 0 ([]), .snil, .snil, .snil, .snil])) := h161
  refine Fin.frzCell 20 (Own.nil H0 H160 1) h164 z6 rfl (NotId.nil _) m162 fun H165 h166 m167 k168 => ?_
  have h169 : H165 i1 = some (.row 0 ([.int .i64 0, .int .i64 0, .int .i64 0, .int .i64 0, .int .i64 0, .int .i64 0, .int .i64 0, .int .i64 0, .int .i64 0, .int .i64 0, .int .i64 0, .int .i64 0, .int .i64 0, .int .i64 0, .int .i64 0, .int .i64 0, .int .i64 0, .int .i64 0, .int .i64 0, .sl 0 ([]), .sl 0 ([]), .snil, .snil, .snil])) := h166
  refine Fin.frzCell 21 (Own.nil H0 H165 1) h169 z6 rfl (NotId.nil _) m167 fun H170 h171 m172 k173 => ?_
  have h174 : H170 i1 = some (.row 0 ([.int .i64 0, .int .i64 0, .int .i64 0, .int .i64 0, .int .i64 0, .int .i64 0, .int .i64 0, .int .i64 0, .int .i64 0, .int .i64 0, .int .i64 0, .int .i64 0, .int .i64 0, .int .i64 0, .int .i64 0, .int .i64 0, .int .i64 0, .int .i64 0, .int .i64 0, .sl 0 ([]), .sl 0 ([]), .sl 0 ([]), .snil, .snil])) := h171
  refine Fin.frzCell 22 (Own.nil H0 H170 1) h174 z6 rfl (NotId.nil _) m172 fun H175 h176 m177 k178 => ?_
  have h179 : H175 i1 = some (.row 0 ([.int .i64 0, .int .i64 0, .int .i64 0, .int .i64 0, .int .i64 0, .int .i64 0, .int .i64 0, .int .i64 0, .int .i64 0, .int .i64 0, .int .i64 0, .int .i64 0, .int .i64 0, .int .i64 0, .int .i64 0, .int .i64 0, .int .i64 0, .int .i64 0, .int .i64 0, .sl 0 ([]), .sl 0 ([]), .sl 0 ([]), .sl 0 ([]), .snil])) := h176
  refine Fin.frzCell 23 (Own.nil H0 H175 1) h179 z6 rfl (NotId.nil _) m177 fun H180 h181 m182 k183 => ?_
  have h184 : H180 i1 = some (.row 0 ([.int .i64 0, .int .i64 0, .int .i64 0, .int .i64 0, .int .i64 0, .int .i64 0, .int .i64 0, .int .i64 0, .int .i64 0, .int .i64 0, .int .i64 0, .int .i64 0, .int .i64 0, .int .i64 0, .int .i64 0, .int .i64 0, .int .i64 0, .int .i64 0, .int .i64 0, .sl 0 ([]), .sl 0 ([]), .sl 0 ([]), .sl 0 ([]), .sl 0 ([])])) := h181
  refine ⟨_, _, Ghost.refl, .inr rfl, _, Res.list rfl rfl (.cell (v := .agg [.int .i64 0, .int .i64 0, .int .i64 0, .int .i64 0, .int .i64 0, .int .i64 0, .int .i64 0, .int .i64 0, .int .i64 0, .int .i64 0, .int .i64 0, .int .i64 0, .int .i64 0, .int .i64 0, .int .i64 0, .int .i64 0, .int .i64 0, .int .i64 0, .int .i64 0, .sl 0 ([]), .sl 0 ([]), .sl 0 ([]), .sl 0 ([]), .sl 0 ([])]) rfl ty_35 h184 rfl (.tmp rfl (.tmp rfl (.nil)))), ?_, m182⟩
  have hP : parseR s = (rd0.scene, (linesR s).2.1, (linesR s).2.2) := if_neg b12
  exact (congrArg (fun r : SceneT × Int × Int => AV.tup [.agg (eScene r.1), .int .i64 r.2.1, .int .i64 r.2.2]) hP).symm
end Go.Proofs.S
namespace Go.AH
variable [Globs]
set_option linter.unusedSectionVars false
open Go Go.Maps
abbrev Prt := ByteArray ⊕ List Int
def ptV : Prt → List Value
  | .inl s => [.string s]
  | .inr xs => xs.map fun x => .int .i64 x
def ptA : Prt → List AV
  | .inl s => [.str s]
  | .inr xs => xs.map fun x => .int .i64 x
def ptN : Prt → Bool × Nat
  | .inl _ => (true, 1)
  | .inr xs => (false, xs.length)
def ptOk : Prt → Prop
  | .inl s => s.size ≤ maxLen
  | .inr xs => ∀ x ∈ xs, inR x
def chkF (P : Program) : Nat → List Field → List (Bool × Nat) → Bool
  | _, [], [] => true
  | o, f :: fs, (b, m) :: r => f.offset == o && P.cellsOf f.type == m && (if b then (match P.underlying f.type with | some .string => true | _ => false) else flatI P 4 f.type) && f.name != "_" && chkF P (o + m) fs r
  | _, _, _ => false
theorem ptV_len (p : Prt) : (ptV p).length = (ptN p).2 := by cases p <;> simp [ptV, ptN]
theorem mix_lits {P : Program} {d : Nat} (hd : 4 ≤ d) : ∀ (fs : List Field) (parts : List Prt) (o : Nat) (pre : List Value), chkF P o fs (parts.map ptN) = true → pre.length = o → (∀ p ∈ parts, ptOk p) →
    (∃ ls, fs.mapM (fun f => P.keyLits d f.type (((pre ++ parts.flatMap ptV).drop f.offset).take (P.cellsOf f.type))) = some ls) ∧ fs.all (·.name != "_") = true
  | [], [], _, _, _, _, _ => ⟨⟨[], rfl⟩, rfl⟩
  | [], _ :: _, _, _, h, _, _ => by simp [chkF] at h
  | _ :: _, [], _, _, h, _, _ => by simp [chkF] at h
  | f :: fs, p :: parts, o, pre, h, hp, hk => by
    simp only [List.map_cons, chkF, Bool.and_eq_true, beq_iff_eq] at h
    obtain ⟨⟨⟨⟨h1, h2⟩, h3⟩, h4⟩, h5⟩ := h
    obtain ⟨⟨ls, hl⟩, hn⟩ := mix_lits hd fs parts (o + (ptN p).2) (pre ++ ptV p) h5 (by rw [List.length_append, hp, ptV_len]) fun q hq => hk q (.tail _ hq)
    have hcut : ((pre ++ (p :: parts).flatMap ptV).drop f.offset).take (P.cellsOf f.type) = ptV p := by
      rw [h1, h2, ← hp, List.drop_left, List.flatMap_cons, ← ptV_len, List.take_left]
    have hy : ∃ y, P.keyLits d f.type (ptV p) = some y := by
      cases p with
      | inl s =>
        obtain ⟨d, rfl⟩ : ∃ e, d = e + 1 := ⟨d - 1, by omega⟩
        have hs : s.size ≤ maxLen := hk (.inl s) (.head _)
        simp only [ptN, if_true] at h3
        rw [Program.keyLits.eq_def]
        cases hu : P.underlying f.type with
        | none => rw [hu] at h3; cases h3
        | some u =>
          rw [hu] at h3
          cases u <;> first | (cases h3; done) | (refine ⟨[.string s.data.toList], ?_⟩; simp only [ptV, hu, hs, if_true])
      | inr xs =>
        simp only [ptN, Bool.false_eq_true, if_false] at h3
        exact flat_lits 4 d f.type hd h3 xs (by rw [h2]; rfl) (hk (.inr xs) (.head _))
    obtain ⟨y, hy⟩ := hy
    refine ⟨⟨y :: ls, ?_⟩, ?_⟩
    · rw [List.mapM_cons, hcut, hy]
      rw [show pre ++ (p :: parts).flatMap ptV = pre ++ ptV p ++ parts.flatMap ptV by simp] 
      rw [hl]; rfl
    · rw [List.all_cons, h4, hn]; rfl
theorem concM : ∀ parts : List Prt, (parts.flatMap ptA).mapM concA = some (parts.flatMap ptV)
  | [] => rfl
  | p :: parts => by
    have h1 : (ptA p).mapM concA = some (ptV p) := by
      cases p with
      | inl s => rfl
      | inr xs => exact concs
    rw [List.flatMap_cons, List.flatMap_cons, List.mapM_append, h1, concM parts]; rfl
theorem KOK.mix {P : Program} {t : TypeId} {fs : Array Field} {parts : List Prt} (hu : P.underlying t = some (.struct fs)) (hk : P.keyType t = true) (hs : Nat.ble 4 P.types.size = true) (hc : P.cellsOf t = (parts.flatMap ptV).length)
    (hch : chkF P 0 fs.toList (parts.map ptN) = true) (ok : ∀ p ∈ parts, ptOk p) : KOK P t (.agg (parts.flatMap ptA)) := by
  obtain ⟨⟨ls, hl⟩, hn⟩ := mix_lits (P := P) (d := P.types.size) (Nat.le_of_ble_eq_true hs) fs.toList parts 0 [] hch rfl ok
  have hkl : P.keyLits (P.types.size + 1) t (parts.flatMap ptV) = some ls.flatten := by
    rw [Program.keyLits.eq_def]
    have hn' : fs.all (·.name != "_") = true := by rw [← Array.all_toList]; exact hn
    simp only [hu, hc, hn', and_self, if_true]
    simp only [List.nil_append] at hl
    rw [hl]; rfl
  refine ⟨.agg (parts.flatMap ptV).toArray, .string (keyBytes ls.flatten), by simp only [conc, concM, Option.map_some], ?_⟩
  unfold keyOf
  have h1 : Value.formed P t (.agg (parts.flatMap ptV).toArray) = true := by simp only [Value.formed, hu, hc]; simp
  simp only [hu, h1, hk, Bool.and_self, if_true, Value.cells, hkl, Option.map_some]
end Go.AH
namespace Go.Proofs.S
open Go Go.AH Go.Proofs.L
set_option maxRecDepth 4000
set_option maxHeartbeats 4000000
set_option linter.unusedSimpArgs false
set_option linter.unusedVariables false
set_option linter.unusedSectionVars false
variable [LexG]
theorem laid : laidOutB Tryd.prog = true := by kernel_rfl
theorem row_lt {a b : Nat} (h : Nat.ble (a + 1) b = true) : a < b := Nat.le_of_ble_eq_true h
def ranV (v : VT) : Prop := inR v.X ∧ inR v.Y ∧ inR v.Z
theorem teq24 : TEq Tryd.prog 24 := TEq.mk' laid (m := 5) (by decide) (row_lt (by kernel_rfl)) (by kernel_rfl) (by kernel_rfl) (by kernel_rfl)
theorem kokV {v : VT} (h : ranV v) : KOK Tryd.prog 24 (.agg (eV v)) := by
  obtain ⟨h0, h1, h2⟩ := h
  exact KOK.mix (parts := [.inr [v.X], .inr [v.Y], .inr [v.Z]]) rfl (by kernel_rfl) (by kernel_rfl) (by kernel_rfl) (by kernel_rfl) (by
    simp only [List.forall_mem_cons]
    exact ⟨(fun x hx => by simp only [List.mem_cons, List.not_mem_nil, or_false] at hx; rcases hx with rfl <;> assumption), (fun x hx => by simp only [List.mem_cons, List.not_mem_nil, or_false] at hx; rcases hx with rfl <;> assumption), (fun x hx => by simp only [List.mem_cons, List.not_mem_nil, or_false] at hx; rcases hx with rfl <;> assumption), by simp⟩)
def ranCol (v : ColT) : Prop := inR v.R ∧ inR v.G ∧ inR v.B
theorem teq28 : TEq Tryd.prog 28 := TEq.mk' laid (m := 5) (by decide) (row_lt (by kernel_rfl)) (by kernel_rfl) (by kernel_rfl) (by kernel_rfl)
theorem kokCol {v : ColT} (h : ranCol v) : KOK Tryd.prog 28 (.agg (eCol v)) := by
  obtain ⟨h0, h1, h2⟩ := h
  exact KOK.mix (parts := [.inr [v.R], .inr [v.G], .inr [v.B]]) rfl (by kernel_rfl) (by kernel_rfl) (by kernel_rfl) (by kernel_rfl) (by
    simp only [List.forall_mem_cons]
    exact ⟨(fun x hx => by simp only [List.mem_cons, List.not_mem_nil, or_false] at hx; rcases hx with rfl <;> assumption), (fun x hx => by simp only [List.mem_cons, List.not_mem_nil, or_false] at hx; rcases hx with rfl <;> assumption), (fun x hx => by simp only [List.mem_cons, List.not_mem_nil, or_false] at hx; rcases hx with rfl <;> assumption), by simp⟩)
def ranCam (v : CamT) : Prop := inR v.Eye.X ∧ inR v.Eye.Y ∧ inR v.Eye.Z ∧ inR v.First.X ∧ inR v.First.Y ∧ inR v.First.Z ∧ inR v.Right.X ∧ inR v.Right.Y ∧ inR v.Right.Z ∧ inR v.Down.X ∧ inR v.Down.Y ∧ inR v.Down.Z ∧ inR v.W ∧ inR v.H ∧ inR v.Grid ∧ inR v.Depth
theorem teq26 : TEq Tryd.prog 26 := TEq.mk' laid (m := 5) (by decide) (row_lt (by kernel_rfl)) (by kernel_rfl) (by kernel_rfl) (by kernel_rfl)
theorem kokCam {v : CamT} (h : ranCam v) : KOK Tryd.prog 26 (.agg (eCam v)) := by
  obtain ⟨h0, h1, h2, h3, h4, h5, h6, h7, h8, h9, h10, h11, h12, h13, h14, h15⟩ := h
  exact KOK.mix (parts := [.inr [v.Eye.X, v.Eye.Y, v.Eye.Z], .inr [v.First.X, v.First.Y, v.First.Z], .inr [v.Right.X, v.Right.Y, v.Right.Z], .inr [v.Down.X, v.Down.Y, v.Down.Z], .inr [v.W], .inr [v.H], .inr [v.Grid], .inr [v.Depth]]) rfl (by kernel_rfl) (by kernel_rfl) (by kernel_rfl) (by kernel_rfl) (by
    simp only [List.forall_mem_cons]
    exact ⟨(fun x hx => by simp only [List.mem_cons, List.not_mem_nil, or_false] at hx; rcases hx with rfl | rfl | rfl <;> assumption), (fun x hx => by simp only [List.mem_cons, List.not_mem_nil, or_false] at hx; rcases hx with rfl | rfl | rfl <;> assumption), (fun x hx => by simp only [List.mem_cons, List.not_mem_nil, or_false] at hx; rcases hx with rfl | rfl | rfl <;> assumption), (fun x hx => by simp only [List.mem_cons, List.not_mem_nil, or_false] at hx; rcases hx with rfl | rfl | rfl <;> assumption), (fun x hx => by simp only [List.mem_cons, List.not_mem_nil, or_false] at hx; rcases hx with rfl <;> assumption), (fun x hx => by simp only [List.mem_cons, List.not_mem_nil, or_false] at hx; rcases hx with rfl <;> assumption), (fun x hx => by simp only [List.mem_cons, List.not_mem_nil, or_false] at hx; rcases hx with rfl <;> assumption), (fun x hx => by simp only [List.mem_cons, List.not_mem_nil, or_false] at hx; rcases hx with rfl <;> assumption), by simp⟩)
def ranLight (v : LightT) : Prop := inR v.At.X ∧ inR v.At.Y ∧ inR v.At.Z ∧ inR v.Color.R ∧ inR v.Color.G ∧ inR v.Color.B
theorem teq68 : TEq Tryd.prog 68 := TEq.mk' laid (m := 5) (by decide) (row_lt (by kernel_rfl)) (by kernel_rfl) (by kernel_rfl) (by kernel_rfl)
theorem kokLight {v : LightT} (h : ranLight v) : KOK Tryd.prog 68 (.agg (eLight v)) := by
  obtain ⟨h0, h1, h2, h3, h4, h5⟩ := h
  exact KOK.mix (parts := [.inr [v.At.X, v.At.Y, v.At.Z], .inr [v.Color.R, v.Color.G, v.Color.B]]) rfl (by kernel_rfl) (by kernel_rfl) (by kernel_rfl) (by kernel_rfl) (by
    simp only [List.forall_mem_cons]
    exact ⟨(fun x hx => by simp only [List.mem_cons, List.not_mem_nil, or_false] at hx; rcases hx with rfl | rfl | rfl <;> assumption), (fun x hx => by simp only [List.mem_cons, List.not_mem_nil, or_false] at hx; rcases hx with rfl | rfl | rfl <;> assumption), by simp⟩)
def ranMat (v : MatT) : Prop := (v.Name).size ≤ 1048576 ∧ inR v.Color.R ∧ inR v.Color.G ∧ inR v.Color.B ∧ inR v.Shine ∧ inR v.Sharp ∧ inR v.Mirror ∧ inR v.Clear ∧ inR v.Ior
theorem teq70 : TEq Tryd.prog 70 := TEq.mk' laid (m := 5) (by decide) (row_lt (by kernel_rfl)) (by kernel_rfl) (by kernel_rfl) (by kernel_rfl)
theorem kokMat {v : MatT} (h : ranMat v) : KOK Tryd.prog 70 (.agg (eMat v)) := by
  obtain ⟨h0, h1, h2, h3, h4, h5, h6, h7, h8⟩ := h
  exact KOK.mix (parts := [.inl v.Name, .inr [v.Color.R, v.Color.G, v.Color.B], .inr [v.Shine], .inr [v.Sharp], .inr [v.Mirror], .inr [v.Clear], .inr [v.Ior]]) rfl (by kernel_rfl) (by kernel_rfl) (by kernel_rfl) (by kernel_rfl) (by
    simp only [List.forall_mem_cons]
    exact ⟨(show _ ≤ maxLen from Nat.le_trans h0 (by decide)), (fun x hx => by simp only [List.mem_cons, List.not_mem_nil, or_false] at hx; rcases hx with rfl | rfl | rfl <;> assumption), (fun x hx => by simp only [List.mem_cons, List.not_mem_nil, or_false] at hx; rcases hx with rfl <;> assumption), (fun x hx => by simp only [List.mem_cons, List.not_mem_nil, or_false] at hx; rcases hx with rfl <;> assumption), (fun x hx => by simp only [List.mem_cons, List.not_mem_nil, or_false] at hx; rcases hx with rfl <;> assumption), (fun x hx => by simp only [List.mem_cons, List.not_mem_nil, or_false] at hx; rcases hx with rfl <;> assumption), (fun x hx => by simp only [List.mem_cons, List.not_mem_nil, or_false] at hx; rcases hx with rfl <;> assumption), by simp⟩)
theorem eMat_iff (a b : MatT) : a = b ↔ eMat a = eMat b := by
  refine ⟨fun h => by rw [h], fun h => ?_⟩
  obtain ⟨_, ⟨_, _, _⟩, _, _, _, _, _⟩ := a; obtain ⟨_, ⟨_, _, _⟩, _, _, _, _, _⟩ := b
  simp [eMat] at h
  simp [h]
def ranSkin (v : SkinT) : Prop := (v.Name).size ≤ 1048576 ∧ inR v.Mat ∧ inR v.Levels ∧ inR v.Unit ∧ inR v.Tex ∧ inR v.Height
theorem teq41 : TEq Tryd.prog 41 := TEq.mk' laid (m := 5) (by decide) (row_lt (by kernel_rfl)) (by kernel_rfl) (by kernel_rfl) (by kernel_rfl)
theorem kokSkin {v : SkinT} (h : ranSkin v) : KOK Tryd.prog 41 (.agg (eSkin v)) := by
  obtain ⟨h0, h1, h2, h3, h4, h5⟩ := h
  exact KOK.mix (parts := [.inl v.Name, .inr [v.Mat], .inr [v.Levels], .inr [v.Unit], .inr [v.Tex], .inr [v.Height]]) rfl (by kernel_rfl) (by kernel_rfl) (by kernel_rfl) (by kernel_rfl) (by
    simp only [List.forall_mem_cons]
    exact ⟨(show _ ≤ maxLen from Nat.le_trans h0 (by decide)), (fun x hx => by simp only [List.mem_cons, List.not_mem_nil, or_false] at hx; rcases hx with rfl <;> assumption), (fun x hx => by simp only [List.mem_cons, List.not_mem_nil, or_false] at hx; rcases hx with rfl <;> assumption), (fun x hx => by simp only [List.mem_cons, List.not_mem_nil, or_false] at hx; rcases hx with rfl <;> assumption), (fun x hx => by simp only [List.mem_cons, List.not_mem_nil, or_false] at hx; rcases hx with rfl <;> assumption), (fun x hx => by simp only [List.mem_cons, List.not_mem_nil, or_false] at hx; rcases hx with rfl <;> assumption), by simp⟩)
theorem eSkin_iff (a b : SkinT) : a = b ↔ eSkin a = eSkin b := by
  refine ⟨fun h => by rw [h], fun h => ?_⟩
  obtain ⟨_, _, _, _, _, _⟩ := a; obtain ⟨_, _, _, _, _, _⟩ := b
  simp [eSkin] at h
  simp [h]
def ranCr (v : CrT) : Prop := inR v.A ∧ inR v.B ∧ inR v.S
theorem teq81 : TEq Tryd.prog 81 := TEq.mk' laid (m := 5) (by decide) (row_lt (by kernel_rfl)) (by kernel_rfl) (by kernel_rfl) (by kernel_rfl)
theorem kokCr {v : CrT} (h : ranCr v) : KOK Tryd.prog 81 (.agg (eCr v)) := by
  obtain ⟨h0, h1, h2⟩ := h
  exact KOK.mix (parts := [.inr [v.A], .inr [v.B], .inr [v.S]]) rfl (by kernel_rfl) (by kernel_rfl) (by kernel_rfl) (by kernel_rfl) (by
    simp only [List.forall_mem_cons]
    exact ⟨(fun x hx => by simp only [List.mem_cons, List.not_mem_nil, or_false] at hx; rcases hx with rfl <;> assumption), (fun x hx => by simp only [List.mem_cons, List.not_mem_nil, or_false] at hx; rcases hx with rfl <;> assumption), (fun x hx => by simp only [List.mem_cons, List.not_mem_nil, or_false] at hx; rcases hx with rfl <;> assumption), by simp⟩)
instance : DecidableEq MatT := fun a b => decidable_of_iff (a.Name = b.Name ∧ a.Color = b.Color ∧ a.Shine = b.Shine ∧ a.Sharp = b.Sharp ∧ a.Mirror = b.Mirror ∧ a.Clear = b.Clear ∧ a.Ior = b.Ior) (by cases a; cases b; simp)
instance : DecidableEq TexT := fun a b => decidable_of_iff (a.Name = b.Name ∧ a.W = b.W ∧ a.H = b.H ∧ a.Rows = b.Rows) (by cases a; cases b; simp)
instance : DecidableEq SkinT := fun a b => decidable_of_iff (a.Name = b.Name ∧ a.Mat = b.Mat ∧ a.Levels = b.Levels ∧ a.Unit = b.Unit ∧ a.Tex = b.Tex ∧ a.Height = b.Height) (by cases a; cases b; simp)
instance : DecidableEq SceneT := fun a b => decidable_of_iff (a.Camera = b.Camera ∧ a.Sky = b.Sky ∧ a.Lights = b.Lights ∧ a.Mats = b.Mats ∧ a.Texs = b.Texs ∧ a.Skins = b.Skins ∧ a.Cages = b.Cages) (by cases a; cases b; simp)
theorem tex_ext {x y : TexT} (h1 : x.Name = y.Name) (h2 : x.W = y.W) (h3 : x.H = y.H) (h4 : x.Rows = y.Rows) : x = y := by cases x; cases y; simp_all
theorem cage_ext {x y : CageT} (h1 : x.Verts = y.Verts) (h2 : x.Faces = y.Faces) (h3 : x.Creases = y.Creases) : x = y := by cases x; cases y; simp_all
theorem scene_ext {x y : SceneT} (h1 : x.Camera = y.Camera) (h2 : x.Sky = y.Sky) (h3 : x.Lights = y.Lights) (h4 : x.Mats = y.Mats) (h5 : x.Texs = y.Texs) (h6 : x.Skins = y.Skins) (h7 : x.Cages = y.Cages) : x = y := by cases x; cases y; simp_all
def ranCage (g : CageT) : Prop := (g.Verts.length ≤ 1048576 ∧ g.Faces.length ≤ 1048576 ∧ g.Creases.length ≤ 1048576) ∧ (∀ v ∈ g.Verts, ranV v) ∧ (∀ c ∈ g.Creases, ranCr c) ∧ ∀ f ∈ g.Faces, f.length ≤ 1048576 ∧ ∀ x ∈ f, inR x
def ranTex (t : TexT) : Prop := t.Name.size ≤ 1048576 ∧ inR t.W ∧ inR t.H ∧ t.Rows.length ≤ 1048576 ∧ ∀ x ∈ t.Rows, inR x
structure RanS (a : SceneT) : Prop where
  cam : ranCam a.Camera
  sky : ranCol a.Sky
  nl : a.Lights.length ≤ 1048576
  nm : a.Mats.length ≤ 1048576
  nt : a.Texs.length ≤ 1048576
  nk : a.Skins.length ≤ 1048576
  nc : a.Cages.length ≤ 1048576
  l : ∀ x ∈ a.Lights, ranLight x
  m : ∀ x ∈ a.Mats, ranMat x
  t : ∀ x ∈ a.Texs, ranTex x
  k : ∀ x ∈ a.Skins, ranSkin x
  c : ∀ x ∈ a.Cages, ranCage x
theorem at_memS {α : Type} [Inhabited α] {l : List α} {i : Int} (h0 : 0 ≤ i) (h1 : i < l.length) : at_ l i ∈ l := by rw [at_get h0 h1]; exact List.getElem_mem _
end Go.Proofs.S
