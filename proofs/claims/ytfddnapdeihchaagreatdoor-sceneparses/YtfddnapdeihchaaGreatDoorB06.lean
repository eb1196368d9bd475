/- A part of the proof that a law answers true for every input of its row: own work, by an AI agent. -/
import Derived.Test.YtfddnapdeihchaaGreatDoorB05
import Derived.Test.YtfddnapdeihchaaGreatDoorB03
import Derived.Test.YtfddnapdeihchaaGreatDoorB01
set_option linter.unusedSimpArgs false
set_option linter.unusedVariables false
set_option linter.defProp false
namespace Go.Proofs.S
open Go Go.AH Go.Proofs.L
set_option maxRecDepth 4000
set_option maxHeartbeats 4000000
set_option linter.unusedSimpArgs false
set_option linter.unusedVariables false
set_option linter.unusedSectionVars false
variable [LexG]
theorem c_rpart_V {B H0 : Heap} {id ver : Nat} {s : Rd} (hm : Mono B H0) (hs : RD B H0 id ver s) (ok : RdOk s) (w : List ByteArray) (hw : w.length ≤ 1048576) (hne : 0 < w.length) (hk : at_ w 0 = kV) : ACalls Tryz.prog 47 [.ptr id ver 0, .sl w.length (w.map eStr)] H0 fun r H' => (∃ t, vertexP s (w.drop 1) = .ok t ∧ RD B H' id ver t ∧ Mono B H' ∧ r = .int .i64 0) ∨ ∃ k, vertexP s (w.drop 1) = .error k ∧ Mono B H' ∧ r = .int .i64 k := by
 obtain ⟨vL, vM, vT, vS, vC, vV, vF, vK, hrow, hB, hg, hn⟩ := hs
 obtain ⟨oC', ogC, spC⟩ := hg.at 4 rfl
 have oC : Own B H0 3 vC s.cages.length (cgC s.cages vV vF vK) := oC'
 have nC : NotId vC id := hn.at 4 rfl
 have ngC := hn.erase 4
 obtain ⟨oX', ogX, spX⟩ := ogC.at 4 rfl
 have oX : Own B H0 3 vV (lastC s.cages).Verts.length (((lastC s.cages).Verts).flatMap eV) := oX'
 have nX : NotId vV id := ngC.at 4 rfl
 have ngX := ngC.erase 4
 have spCX : Sep vV vC := spC.at 4 rfl
 have spC2 := spC.erase 4
 have hkF : ¬ at_ w 0 = ⟨#[102]⟩ := by rw [hk]; decide
 have hkK : ¬ at_ w 0 = ⟨#[99, 114, 101, 97, 115, 101]⟩ := by rw [hk]; decide
 refine ACalls.of_body' (n := 162) rfl rfl rfl rfl ?_
 have m0 := hm
 refine AWP.seq ?_
 refine AWP.region (l := [0]) rfl ?_
 refine AOps.cons rfl rfl (AOp.assign (.int .i64 0) rfl rfl ?_)
 refine AOps.nil ?_
 change AWP _ _ _ _ _ _
 refine AWP.seq ?_
 refine AWP.region (l := [0, 1, 2, 3, 4, 5, 6, 7]) rfl ?_
 refine AOps.cons rfl rfl (AOp.move (.sl w.length (w.map eStr)) rfl rfl ?_)
 refine AOps.cons rfl rfl (AOp.sliceSD1 (xs := w) (l := 1) (h := (w.length : Int)) rfl rfl  sl_57 (lo_of rfl) rfl (by first | omega | (simp; omega)) (by first | omega | (simp; omega)) (by first | omega | (simp; omega)) rfl ?_)
 rcases Bool.eq_false_or_eq_true (numsB (w.drop 1)) with hb1 | hb1
 ·
  refine AOps.cons rfl rfl (AOp.pcall («as» := [.sl (w.drop 1).length ((w.drop 1).map eStr)]) rfl rfl (rfl) tf_88 (c_rnumbers_T hb1 (w.drop 1) (by first | omega | assumption | (simp only [List.length_drop, List.length_take]; omega) | (simp; omega) | simp)) ?_)
  intro H2 m3
  have h4 := m3 _ _ hrow
  have o5 := Own.mono oC m3
  have o6 := Own.mono oX m3
  have o7 := MO.mono ogX m3
  have m8 := m0.trans m3
  have hl9 := numsL_len (w.drop 1)
  simp only [List.length_drop] at hl9
  refine AOps.cons rfl rfl (AOp.move (.tup [.sl (numsL (w.drop 1)).length ((numsL (w.drop 1)).map eI), .bool true]) rfl rfl ?_)
  refine AOps.cons rfl rfl (AOp.extract (.sl (numsL (w.drop 1)).length ((numsL (w.drop 1)).map eI)) rfl rfl rfl ?_)
  refine AOps.cons rfl rfl (AOp.extract (.bool true) rfl rfl rfl ?_)
  refine AOps.cons rfl rfl (AOp.assign (.sl (numsL (w.drop 1)).length ((numsL (w.drop 1)).map eI)) rfl rfl ?_)
  refine AOps.cons rfl rfl (AOp.assign (.bool true) rfl rfl ?_)
  refine AOps.nil ?_
  change AWP _ _ _ _ _ _
  refine AWP.seq ?_
  refine AWP.seq ?_
  refine AWP.region (l := [0, 1, 2, 3, 4, 5, 6, 7, 8, 9, 10, 11, 12, 13, 14, 15, 16, 17, 18, 19, 20, 21, 22, 23, 24, 25, 26, 27, 28]) rfl ?_
  refine AOps.cons rfl rfl (AOp.move (.bool true) rfl rfl ?_)
  refine AOps.cons rfl rfl (AOp.not rfl rfl ?_)
  refine AOps.cons rfl rfl (AOp.move (.bool (!true)) rfl rfl ?_)
  refine AOps.yes rfl rfl rfl rfl rfl rfl rfl rfl (AOp.move (.sl w.length (w.map eStr)) rfl rfl ?_)
  refine AOps.yes rfl rfl rfl rfl rfl rfl rfl rfl (AOp.indexAddrS rfl rfl rfl sl_57 (by omega) (by omega) ?_)
  refine AOps.yes rfl rfl rfl rfl rfl rfl rfl rfl (AOp.loadF (.str (at_ w 0)) rfl rfl ty_9 (ld1 (by omega) (by omega)) ?_)
  refine AOps.yes rfl rfl rfl rfl rfl rfl rfl rfl (AOp.sneD rfl rfl rfl ?_)
  refine AOps.yes rfl rfl rfl rfl rfl rfl rfl rfl (AOp.move (.bool (!decide ((at_ w 0) = ⟨#[102]⟩))) rfl rfl ?_)
  refine AOps.yes rfl rfl rfl rfl rfl rfl rfl (nb (decide_eq_false (hkF))) (AOp.move (.sl (numsL (w.drop 1)).length ((numsL (w.drop 1)).map eI)) rfl rfl ?_)
  refine AOps.yes rfl rfl rfl rfl rfl rfl rfl (nb (decide_eq_false (hkF))) (AOp.len (m := (numsL (w.drop 1)).length) rfl rfl (.inr (.inl ⟨_, rfl⟩)) u_68 ?_)
  refine AOps.yes rfl rfl rfl rfl rfl rfl rfl (nb (decide_eq_false (hkF))) (AOp.bin (.bool (!decide ((((numsL (w.drop 1)).length) : Int) = 3))) rfl rfl rfl ine ?_)
  refine AOps.yes rfl rfl rfl rfl rfl rfl rfl rfl (AOp.pickT (.bool (!decide ((((numsL (w.drop 1)).length) : Int) = 3))) rfl rfl (nb (decide_eq_false (hkF))) rfl ?_)
  refine AOps.cons rfl rfl (AOp.pickF (.bool (!decide ((((numsL (w.drop 1)).length) : Int) = 3))) rfl rfl rfl rfl ?_)
  refine AOps.cons rfl rfl (AOp.move (.bool (!decide ((((numsL (w.drop 1)).length) : Int) = 3))) rfl rfl ?_)
  by_cases b10 : (((numsL (w.drop 1)).length) : Int) = 3
  ·
   refine AOps.yes rfl rfl rfl rfl rfl rfl rfl (nb (decide_eq_true b10)) (AOp.move (.sl w.length (w.map eStr)) rfl rfl ?_)
   refine AOps.yes rfl rfl rfl rfl rfl rfl rfl (nb (decide_eq_true b10)) (AOp.indexAddrS rfl rfl rfl sl_57 (by omega) (by omega) ?_)
   refine AOps.yes rfl rfl rfl rfl rfl rfl rfl (nb (decide_eq_true b10)) (AOp.loadF (.str (at_ w 0)) rfl rfl ty_9 (ld1 (by omega) (by omega)) ?_)
   refine AOps.yes rfl rfl rfl rfl rfl rfl rfl (nb (decide_eq_true b10)) (AOp.seqD rfl rfl rfl ?_)
   refine AOps.yes rfl rfl rfl rfl rfl rfl rfl (nb (decide_eq_true b10)) (AOp.move (.bool (decide ((at_ w 0) = ⟨#[102]⟩))) rfl rfl ?_)
   refine AOps.no rfl rfl rfl rfl rfl rfl rfl (ble_of (decide_eq_false (hkF)) (by decide)) ?_
   refine AOps.no rfl rfl rfl rfl rfl rfl rfl (ble_of (decide_eq_false (hkF)) (by decide)) ?_
   refine AOps.no rfl rfl rfl rfl rfl rfl rfl (ble_of (decide_eq_false (hkF)) (by decide)) ?_
   refine AOps.no rfl rfl rfl rfl rfl rfl rfl (ble_of (decide_eq_false (hkF)) (by decide)) ?_
   refine AOps.un rfl rfl rfl rfl rfl rfl rfl ?_
   refine AOps.un rfl rfl rfl rfl rfl rfl rfl ?_
   refine AOps.un rfl rfl rfl rfl rfl rfl rfl ?_
   refine AOps.no rfl rfl rfl rfl rfl rfl rfl (ble_of (decide_eq_false (hkF)) (by decide)) ?_
   refine AOps.yes rfl rfl rfl rfl rfl rfl rfl (nb (decide_eq_true b10)) (AOp.pickF (.bool false) rfl rfl (decide_eq_false (hkF)) rfl ?_)
   refine AOps.cons rfl rfl (AOp.pickF (.bool false) rfl rfl (nb (decide_eq_true b10)) rfl ?_)
   refine AOps.nil ?_
   change AWP _ _ _ _ _ _
   refine AWP.condF rfl rfl ?_
   refine AWP.skip ?_
   change AWP _ _ _ _ _ _
   refine AWP.seq ?_
   refine AWP.seq ?_
   refine AWP.region (l := [0, 1, 2, 3, 4, 5, 6]) rfl ?_
   refine AOps.cons rfl rfl (AOp.move (.ptr id ver 0) rfl rfl ?_)
   refine AOps.cons rfl rfl (AOp.nilCheck (.ptr id ver 0) rfl rfl rfl ?_)
   refine AOps.cons rfl rfl (AOp.fieldAddr rfl rfl fl_63_0 ?_ (hid := ⟨_, h4⟩))
   refine AOps.cons rfl rfl (AOp.fieldAddr rfl rfl fl_35_6 ?_ (hid := ⟨_, h4⟩))
   refine AOps.cons rfl rfl (AOp.load (vC) rfl rfl ty_33 h4 rfl ?_)
   refine AOps.cons rfl rfl (AOp.len_own (m := s.cages.length) rfl rfl o5 u_33 ?_)
   refine AOps.cons rfl rfl (AOp.bin (.bool (decide ((s.cages.length : Int) = 0))) rfl rfl rfl ieq ?_)
   refine AOps.nil ?_
   change AWP _ _ _ _ _ _
   by_cases b11 : (s.cages.length : Int) = 0
   ·
    refine AWP.condT rfl (decide_eq_true b11) ?_
    refine AWP.seq ?_
    refine AWP.region (l := [0]) rfl ?_
    refine AOps.cons rfl rfl (AOp.assign (.int .i64 15) rfl rfl ?_)
    refine AOps.nil ?_
    change AWP _ _ _ _ _ _
    refine AWP.ret ?_
    exact ⟨_, _, Ghost.refl, .inr rfl, _, Res.one rfl rfl, .inr ⟨15, gT (cnt_T (numsL_len _) hb1 b10) (gF (decide_eq_false (by omega))), m8, rfl⟩⟩
   ·
    refine AWP.condF rfl (decide_eq_false b11) ?_
    refine AWP.skip ?_
    change AWP _ _ _ _ _ _
    refine AWP.seq ?_
    have hne0 : s.cages ≠ [] := List.length_pos_iff.1 (by omega)
    have hcl := lastC_ok ok hne0
    have hcc := ok.c; have hck := ok.k
    have oC2 := o5; rw [cgC_ne hne0] at oC2
    obtain ⟨ic, vc, hvC, hic, hBic, hlic⟩ := Own.pos oC2 (by omega)
    have nid : id ≠ ic := nC _ _ _ _ _ hvC
    have no12 : NotId vV ic := ((Sep.symm spCX)).notId hvC
    have no13 := SepM.nid spC2 hvC
    refine AWP.region_quietA mixed (by kernel_rfl) 14 15 [15] rfl (by kernel_rfl) (B := .row 0 ([.snil, .snil, .snil])) (va := fun i => .ptr i 0 0) (by decide) fun i14 n15 _ hs16 => ?_
    refine QEA.op rfl rfl rfl (.inl ⟨rfl, fun H1 f' H' hf hN hM => AOp.move (.ptr id ver 0) rfl ((hf 0 rfl).trans rfl) ⟨rfl, hN⟩⟩) ?_
    refine QEA.op rfl rfl rfl (.inl ⟨rfl, fun H1 f' H' hf hN hM => AOp.nilCheck (.ptr id ver 0) rfl ((hf 51 rfl).trans rfl) rfl ⟨rfl, hN⟩⟩) ?_
    refine QEA.op rfl rfl rfl (.inl ⟨rfl, fun H1 f' H' hf hN hM => AOp.fieldAddr rfl ((hf 52 rfl).trans rfl) fl_63_0 ⟨rfl, hN⟩ (hid := ⟨_, (hM _ _ h4)⟩)⟩) ?_
    refine QEA.op rfl rfl rfl (.inl ⟨rfl, fun H1 f' H' hf hN hM => AOp.fieldAddr rfl ((hf 53 rfl).trans rfl) fl_35_6 ⟨rfl, hN⟩ (hid := ⟨_, (hM _ _ h4)⟩)⟩) ?_
    refine QEA.op rfl rfl rfl (.inl ⟨rfl, fun H1 f' H' hf hN hM => AOp.load (vC) rfl ((hf 54 rfl).trans rfl) ty_33 (hM _ _ h4) rfl ⟨rfl, hN⟩⟩) ?_
    refine QEA.op rfl rfl rfl (.inl ⟨rfl, fun H1 f' H' hf hN hM => AOp.move (.ptr id ver 0) rfl ((hf 0 rfl).trans rfl) ⟨rfl, hN⟩⟩) ?_
    refine QEA.op rfl rfl rfl (.inl ⟨rfl, fun H1 f' H' hf hN hM => AOp.nilCheck (.ptr id ver 0) rfl ((hf 56 rfl).trans rfl) rfl ⟨rfl, hN⟩⟩) ?_
    refine QEA.op rfl rfl rfl (.inl ⟨rfl, fun H1 f' H' hf hN hM => AOp.fieldAddr rfl ((hf 57 rfl).trans rfl) fl_63_0 ⟨rfl, hN⟩ (hid := ⟨_, (hM _ _ h4)⟩)⟩) ?_
    refine QEA.op rfl rfl rfl (.inl ⟨rfl, fun H1 f' H' hf hN hM => AOp.fieldAddr rfl ((hf 58 rfl).trans rfl) fl_35_6 ⟨rfl, hN⟩ (hid := ⟨_, (hM _ _ h4)⟩)⟩) ?_
    refine QEA.op rfl rfl rfl (.inl ⟨rfl, fun H1 f' H' hf hN hM => AOp.load (vC) rfl ((hf 59 rfl).trans rfl) ty_33 (hM _ _ h4) rfl ⟨rfl, hN⟩⟩) ?_
    refine QEA.op rfl rfl rfl (.inl ⟨rfl, fun H1 f' H' hf hN hM => AOp.len (m := s.cages.length) rfl (Eq.trans ((hf 60 rfl).trans rfl) hvC) (.inr (.inr ⟨_, _, _, _, rfl⟩)) u_33 ⟨rfl, hN⟩⟩) ?_
    refine QEA.op rfl rfl rfl (.inl ⟨rfl, fun H1 f' H' hf hN hM => AOp.bin (.int .i64 ((s.cages.length : Int) - 1)) rfl ((hf 61 rfl).trans rfl) rfl (isub (by omega)) ⟨rfl, hN⟩⟩) ?_
    refine QEA.op rfl rfl rfl (.inl ⟨rfl, fun H1 f' H' hf hN hM => AOp.indexAddrO rfl (Eq.trans ((hf 55 rfl).trans rfl) hvC) ((hf 62 rfl).trans rfl) sl_33 (by omega) (by omega) (hM _ _ hic) ⟨rfl, hN⟩⟩) ?_
    refine QEA.op rfl rfl rfl (.inl ⟨rfl, fun H1 f' H' hf hN hM => AOp.load (.agg [vV, vF, vK]) rfl ((hf 63 rfl).trans rfl) ty_48 (hM _ _ hic) (ldCA (drop_len _)) ⟨rfl, hN⟩⟩) ?_
    refine QEA.alloc rfl rfl rfl rfl rfl tz_48 ?_
    refine QEA.done fun H17 m19 => ?_
    have m18 := hs16 _ m19
    have e20 := ne_new h4 n15
    have e21 := ne_new hic n15
    have z22 := Mono.free m8 n15
    have no23 := Own.notnew o6 n15
    have no24 := MO.notnew o7 n15
    have h25 := m18 _ _ h4
    have h26 := m18 _ _ hic
    have o27 := Own.mono o6 m18
    have o28 := MO.mono o7 m18
    have m29 := m8.trans m18
    have h30 : H17 i14 = some (.row 0 ([.snil, .snil, .snil])) := m19 i14 _ (updH_same _ _ _)
    refine AOps.cons rfl rfl (AOp.store' (cells' := [vV, vF, vK]) (.agg [vV, vF, vK]) rfl rfl ts_48 h30 (by simp only [AV.cells, List.all_cons, List.all_nil, Own.one_ o27, Own.one_ (o28.at 4 rfl).1, Own.one_ (o28.at 5 rfl).1]; rfl) rfl rfl rfl ?_)
    intro H31 h32 k33
    have h34 := keep k33 e20 h25
    have h35 := keep k33 e21 h26
    have o37 := Own.keep o27 k33 no23
    have o38 := MO.keep o28 k33 no24
    have m39 := Mono.set m29 z22 k33
    refine AOps.nil ?_
    change AWP _ _ _ _ _ _
    refine AWP.seq ?_
    refine AWP.region (l := [0, 1, 2, 3, 4]) rfl ?_
    refine AOps.cons rfl rfl (AOp.fieldAddr rfl rfl fl_48_0 ?_ (hid := ⟨_, h32⟩))
    refine AOps.cons rfl rfl (AOp.load (vV) rfl rfl ty_44 h32 rfl ?_)
    refine AOps.cons rfl rfl (AOp.len_own (m := ((lastC s.cages).Verts.length)) rfl rfl o37 u_44 ?_)
    refine AOps.cons rfl rfl (AOp.bin (.int .i64 ((((lastC s.cages).Verts.length) : Int) - 1)) rfl rfl rfl (isub (by omega)) ?_)
    refine AOps.cons rfl rfl (AOp.assign (.int .i64 ((((lastC s.cages).Verts.length) : Int) - 1)) rfl rfl ?_)
    refine AOps.nil ?_
    change AWP _ _ _ _ _ _
    refine AWP.seq ?_
    refine AWP.seq ?_
    refine AWP.region (l := [0, 1, 2, 3]) rfl ?_
    refine AOps.cons rfl rfl (AOp.move (.sl w.length (w.map eStr)) rfl rfl ?_)
    refine AOps.cons rfl rfl (AOp.indexAddrS rfl rfl rfl sl_57 (by omega) (by omega) ?_)
    refine AOps.cons rfl rfl (AOp.loadF (.str (at_ w 0)) rfl rfl ty_9 (ld1 (by omega) (by omega)) ?_)
    refine AOps.cons rfl rfl (AOp.seqD rfl rfl rfl ?_)
    refine AOps.nil ?_
    change AWP _ _ _ _ _ _
    refine AWP.condT rfl (decide_eq_true (hk)) ?_
    refine AWP.seq ?_
    refine AWP.seq ?_
    refine AWP.region (l := [0, 1, 2, 3]) rfl ?_
    refine AOps.cons rfl rfl (AOp.fieldAddr rfl rfl fl_48_0 ?_ (hid := ⟨_, h32⟩))
    refine AOps.cons rfl rfl (AOp.load (vV) rfl rfl ty_44 h32 rfl ?_)
    refine AOps.cons rfl rfl (AOp.len_own (m := ((lastC s.cages).Verts.length)) rfl rfl o37 u_44 ?_)
    refine AOps.cons rfl rfl (AOp.bin (.bool (decide ((((lastC s.cages).Verts.length) : Int) ≥ 64))) rfl rfl rfl rfl ?_)
    refine AOps.nil ?_
    change AWP _ _ _ _ _ _
    by_cases b40 : (((lastC s.cages).Verts.length) : Int) ≥ 64
    ·
     refine AWP.condT rfl (decide_eq_true b40) ?_
     refine AWP.seq ?_
     refine AWP.region (l := [0]) rfl ?_
     refine AOps.cons rfl rfl (AOp.assign (.int .i64 13) rfl rfl ?_)
     refine AOps.nil ?_
     change AWP _ _ _ _ _ _
     refine AWP.ret ?_
     exact ⟨_, _, Ghost.refl, .inr rfl, _, Res.one rfl rfl, .inr ⟨13, gT (cnt_T (numsL_len _) hb1 b10) (gT (decide_eq_true (by omega)) (gF (decide_eq_false (by omega)))), m39, rfl⟩⟩
    ·
     refine AWP.condF rfl (decide_eq_false b40) ?_
     refine AWP.skip ?_
     change AWP _ _ _ _ _ _
     refine AWP.seq ?_
     refine AWP.seq ?_
     refine AWP.region (l := [0, 1, 2]) rfl ?_
     refine AOps.cons rfl rfl (AOp.move (.sl (numsL (w.drop 1)).length ((numsL (w.drop 1)).map eI)) rfl rfl ?_)
     refine AOps.cons rfl rfl (AOp.pcall («as» := [.sl (numsL (w.drop 1)).length ((numsL (w.drop 1)).map eI), .int .i64 0, .int .i64 3, .int .i64 (-16384), .int .i64 16384]) rfl rfl (rfl) tf_89 (c_rwithin (numsL (w.drop 1)) (0 : Int) (3 : Int) (-16384) 16384 (by omega) (by omega) (by omega) (by omega)) ?_)
     intro H41 m42
     have h43 := m42 _ _ h34
     have h44 := m42 _ _ h35
     have h45 := m42 _ _ h32
     have o46 := Own.mono o37 m42
     have o47 := MO.mono o38 m42
     have m48 := m39.trans m42
     refine AOps.cons rfl rfl (AOp.not rfl rfl ?_)
     refine AOps.nil ?_
     change AWP _ _ _ _ _ _
     rcases Bool.eq_false_or_eq_true (inB (-16384) 16384 ((numsL (w.drop 1)).take 3)) with b49 | b49
     ·
      refine AWP.condF rfl (nb b49) ?_
      refine AWP.skip ?_
      change AWP _ _ _ _ _ _
      refine AWP.region_str mixed (by kernel_rfl) [(0, none), (1, none), (2, none), (3, none), (4, some [0, 1])] [5, 6, 7] (by kernel_rfl) ?_
      refine STR.op rfl rfl (.inl ⟨rfl, fun H1 f' H' hf hN hM => AOp.fieldAddr rfl ((hf 7 rfl).trans rfl) fl_48_0 ⟨rfl, hN⟩ (hid := ⟨_, (hM _ _ h45)⟩)⟩) ?_
      refine STR.op rfl rfl (.inl ⟨rfl, fun H1 f' H' hf hN hM => AOp.load (vV) rfl ((hf 80 rfl).trans rfl) ty_44 (hM _ _ h45) rfl ⟨rfl, hN⟩⟩) ?_
      refine STR.op rfl rfl (.inl ⟨rfl, fun H1 f' H' hf hN hM => AOp.move (.sl (numsL (w.drop 1)).length ((numsL (w.drop 1)).map eI)) rfl ((hf 5 rfl).trans rfl) ⟨rfl, hN⟩⟩) ?_
      refine STR.op rfl rfl (.inl ⟨rfl, fun H1 f' H' hf hN hM => AOp.pcall («as» := [.sl (numsL (w.drop 1)).length ((numsL (w.drop 1)).map eI), .int .i64 0]) rfl rfl (lapp (lcons ((hf 82 rfl).trans rfl) (lcons rfl rfl)) rfl) tf_90 (c_rpoint (numsL (w.drop 1)) 0 (by omega) (by omega) (by omega)) fun H2 m2 => ⟨rfl, hN.trans m2⟩⟩) ?_
      refine STR.eff rfl rfl rfl fun f50 H51 hf52 m53 => ?_
      have h54 := m53 _ _ h43
      have h55 := m53 _ _ h44
      have h56 := m53 _ _ h45
      have o57 := Own.mono o46 m53
      have o58 := MO.mono o47 m53
      have m59 := m48.trans m53
      refine AOp.buildSlice (cells := [.int .i64 ((ptR (numsL (w.drop 1))).X), .int .i64 ((ptR (numsL (w.drop 1))).Y), .int .i64 ((ptR (numsL (w.drop 1))).Z)]) rfl u_44 ts_24 tz_24 rfl (lconsP ((hf52 83 rfl).trans rfl) rfl) rfl ?_
      intro i60 H61 n62 h63 k64
      have e65 := ne_new h54 n62
      have e66 := ne_new h55 n62
      have e67 := ne_new h56 n62
      have z68 := Mono.free m59 n62
      have h69 := keep k64 (ne_new h54 n62) h54
      have h70 := keep k64 (ne_new h55 n62) h55
      have h71 := keep k64 (ne_new h56 n62) h56
      have o72 := Own.keep o57 k64 (Own.notnew o57 n62)
      have no73 := Own.notnew o57 n62
      have o74 := MO.keep o58 k64 (MO.notnew o58 n62)
      have no75 := MO.notnew o58 n62
      have m76 := Mono.new m59 n62 k64
      refine ⟨_, rfl, .inl (Mono.new (Mono.refl _) n62 k64), ?_⟩
      refine STR.done fun H77 m78 => ?_
      have h79 := m78 _ _ h69
      have h80 := m78 _ _ h70
      have h81 := m78 _ _ h71
      have h82 := m78 _ _ h63
      have o83 := Own.mono o72 m78
      have o84 := MO.mono o74 m78
      have m85 := m76.trans m78
      refine AOps.cons rfl rfl (AOp.append_own (es := 3) (m := 1) (len := ((lastC s.cages).Verts.length)) (old := ((lastC s.cages).Verts).flatMap eV) (cells := [.int .i64 ((ptR (numsL (w.drop 1))).X), .int .i64 ((ptR (numsL (w.drop 1))).Y), .int .i64 ((ptR (numsL (w.drop 1))).Z)]) rfl u_44 ts_24 tzn_24 tb_24 (by decide) ni_44 rfl o83 m85 rfl (.slm h82 rfl) (one_of rfl) (by decide) (by first | omega | (simp; omega)) ?_)
      intro v86 H87 o88 m89 k90 j91
      have o92 := Own.snocM (xs := ((lastC s.cages).Verts : List VT)) (y := (ptR (numsL (w.drop 1)))) (e := eV) (by simp) o88
      have h93 := (k90 _ nX (by rw [h79]; simp)).trans h79
      have no94 := j91 _ nX (by rw [h79]; simp)
      have h95 := (k90 _ no12 (by rw [h80]; simp)).trans h80
      have no96 := j91 _ no12 (by rw [h80]; simp)
      have h97 := (k90 _ no23 (by rw [h81]; simp)).trans h81
      have no98 := j91 _ no23 (by rw [h81]; simp)
      have sp100 := MO.sep o84 spX j91
      have o99 := MO.stay o84 spX k90
      refine AOps.cons rfl rfl (AOp.fieldAddr rfl rfl fl_48_0 ?_ (hid := ⟨_, h97⟩))
      refine AOps.cons rfl rfl (AOp.storeO (cells' := [v86, vF, vK]) rfl rfl o92 ts_44 h97 rfl rfl ?_)
      intro H101 h102 k103
      have h104 := keep k103 e20 h93
      have h105 := keep k103 e21 h95
      have o107 := MO.keep o99 k103 no24
      have o108 := Own.keep o92 k103 no98
      have m109 := Mono.set m89 z22 k103
      refine AOps.nil ?_
      change AWP _ _ _ _ _ _
      refine AWP.seq ?_
      refine AWP.seq ?_
      refine AWP.region (l := [0, 1, 2, 3]) rfl ?_
      refine AOps.cons rfl rfl (AOp.move (.sl w.length (w.map eStr)) rfl rfl ?_)
      refine AOps.cons rfl rfl (AOp.indexAddrS rfl rfl rfl sl_57 (by omega) (by omega) ?_)
      refine AOps.cons rfl rfl (AOp.loadF (.str (at_ w 0)) rfl rfl ty_9 (ld1 (by omega) (by omega)) ?_)
      refine AOps.cons rfl rfl (AOp.seqD rfl rfl rfl ?_)
      refine AOps.nil ?_
      change AWP _ _ _ _ _ _
      refine AWP.condF rfl (decide_eq_false (hkF)) ?_
      refine AWP.skip ?_
      change AWP _ _ _ _ _ _
      refine AWP.seq ?_
      refine AWP.seq ?_
      refine AWP.region (l := [0, 1, 2, 3]) rfl ?_
      refine AOps.cons rfl rfl (AOp.move (.sl w.length (w.map eStr)) rfl rfl ?_)
      refine AOps.cons rfl rfl (AOp.indexAddrS rfl rfl rfl sl_57 (by omega) (by omega) ?_)
      refine AOps.cons rfl rfl (AOp.loadF (.str (at_ w 0)) rfl rfl ty_9 (ld1 (by omega) (by omega)) ?_)
      refine AOps.cons rfl rfl (AOp.seqD rfl rfl rfl ?_)
      refine AOps.nil ?_
      change AWP _ _ _ _ _ _
      refine AWP.condF rfl (decide_eq_false (hkK)) ?_
      refine AWP.skip ?_
      change AWP _ _ _ _ _ _
      refine AWP.seq ?_
      refine AWP.region_quiet mixed (by kernel_rfl) 14 [14] rfl (by kernel_rfl) (Mono H101) (Mono.refl _) ?_
      refine QE.op rfl rfl (.inl ⟨rfl, fun f' H' hf hM => AOp.move (.ptr id ver 0) rfl ((hf 0 rfl).trans rfl) ⟨rfl, hM⟩⟩) ?_
      refine QE.op rfl rfl (.inl ⟨rfl, fun f' H' hf hM => AOp.nilCheck (.ptr id ver 0) rfl ((hf 148 rfl).trans rfl) rfl ⟨rfl, hM⟩⟩) ?_
      refine QE.op rfl rfl (.inl ⟨rfl, fun f' H' hf hM => AOp.fieldAddr rfl ((hf 149 rfl).trans rfl) fl_63_0 ⟨rfl, hM⟩ (hid := ⟨_, (hM _ _ h104)⟩)⟩) ?_
      refine QE.op rfl rfl (.inl ⟨rfl, fun f' H' hf hM => AOp.fieldAddr rfl ((hf 150 rfl).trans rfl) fl_35_6 ⟨rfl, hM⟩ (hid := ⟨_, (hM _ _ h104)⟩)⟩) ?_
      refine QE.op rfl rfl (.inl ⟨rfl, fun f' H' hf hM => AOp.load (vC) rfl ((hf 151 rfl).trans rfl) ty_33 (hM _ _ h104) rfl ⟨rfl, hM⟩⟩) ?_
      refine QE.op rfl rfl (.inl ⟨rfl, fun f' H' hf hM => AOp.move (.ptr id ver 0) rfl ((hf 0 rfl).trans rfl) ⟨rfl, hM⟩⟩) ?_
      refine QE.op rfl rfl (.inl ⟨rfl, fun f' H' hf hM => AOp.nilCheck (.ptr id ver 0) rfl ((hf 153 rfl).trans rfl) rfl ⟨rfl, hM⟩⟩) ?_
      refine QE.op rfl rfl (.inl ⟨rfl, fun f' H' hf hM => AOp.fieldAddr rfl ((hf 154 rfl).trans rfl) fl_63_0 ⟨rfl, hM⟩ (hid := ⟨_, (hM _ _ h104)⟩)⟩) ?_
      refine QE.op rfl rfl (.inl ⟨rfl, fun f' H' hf hM => AOp.fieldAddr rfl ((hf 155 rfl).trans rfl) fl_35_6 ⟨rfl, hM⟩ (hid := ⟨_, (hM _ _ h104)⟩)⟩) ?_
      refine QE.op rfl rfl (.inl ⟨rfl, fun f' H' hf hM => AOp.load (vC) rfl ((hf 156 rfl).trans rfl) ty_33 (hM _ _ h104) rfl ⟨rfl, hM⟩⟩) ?_
      refine QE.op rfl rfl (.inl ⟨rfl, fun f' H' hf hM => AOp.len (m := s.cages.length) rfl (Eq.trans ((hf 157 rfl).trans rfl) hvC) (.inr (.inr ⟨_, _, _, _, rfl⟩)) u_33 ⟨rfl, hM⟩⟩) ?_
      refine QE.op rfl rfl (.inl ⟨rfl, fun f' H' hf hM => AOp.bin (.int .i64 ((s.cages.length : Int) - 1)) rfl ((hf 158 rfl).trans rfl) rfl (isub (by omega)) ⟨rfl, hM⟩⟩) ?_
      refine QE.op rfl rfl (.inl ⟨rfl, fun f' H' hf hM => AOp.load (.agg [v86, vF, vK]) rfl ((hf 7 rfl).trans rfl) ty_48 (hM _ _ h102) rfl ⟨rfl, hM⟩⟩) ?_
      refine QE.op rfl rfl (.inl ⟨rfl, fun f' H' hf hM => AOp.indexAddrO rfl (Eq.trans ((hf 152 rfl).trans rfl) hvC) ((hf 159 rfl).trans rfl) sl_33 (by omega) (by omega) (hM _ _ h105) ⟨rfl, hM⟩⟩) ?_
      refine QE.done fun H110 m111 => ?_
      have h112 := m111 _ _ h104
      have h113 := m111 _ _ h105
      have h114 := m111 _ _ h102
      have o115 := MO.mono o107 m111
      have o116 := Own.mono o108 m111
      have m117 := m109.trans m111
      refine AOps.cons rfl rfl (AOp.store' (cells' := s.cages.dropLast.flatMap eCage ++ [v86, vF, vK]) (.agg [v86, vF, vK]) rfl rfl ts_48 h113 (by simp only [AV.cells, List.all_cons, List.all_nil, Own.one_ o116, Own.one_ (o115.at 4 rfl).1, Own.one_ (o115.at 5 rfl).1]; rfl) rfl (Nat.ble_eq_true_of_le (by rw [List.length_append, drop_len]; simp only [List.length_cons, List.length_nil]; omega)) (wrC0 (drop_len _) rfl) ?_)
      intro H118 h119 k120
      have h121 := keep k120 nid h112
      have h123 := keep k120 (Ne.symm e21) h114
      have o124 := MO.keep o115 k120 no13
      have o125 := Own.keep o116 k120 no96
      have m126 := Mono.set m117 hBic k120
      refine AOps.nil ?_
      change AWP _ _ _ _ _ _
      refine AWP.seq ?_
      refine AWP.region (l := [0]) rfl ?_
      refine AOps.cons rfl rfl (AOp.assign (.int .i64 0) rfl rfl ?_)
      refine AOps.nil ?_
      change AWP _ _ _ _ _ _
      refine AWP.ret ?_
      exact ⟨_, _, Ghost.refl, .inr rfl, _, Res.one rfl rfl, .inl ⟨_, gT (cnt_T (numsL_len _) hb1 b10) (gT (decide_eq_true (by omega)) (gT (decide_eq_true (by omega)) (gT ((in_take (by omega) b49)) (rfl)))), ⟨_, _, _, _, _, _, _, _, RDv.upC (c := { lastC s.cages with Verts := (lastC s.cages).Verts ++ [ptR (numsL (w.drop 1))] }) hne0 h121 hB (MO.put (L := (rdL s vL vM vT vS vC vV vF vK).set 5 (3, v86, (((lastC s.cages).Verts) ++ [(ptR (numsL (w.drop 1)))]).length, (((lastC s.cages).Verts) ++ [(ptR (numsL (w.drop 1)))]).flatMap eV)) (e := (3, vC, s.cages.length, s.cages.dropLast.flatMap eCage ++ [v86, vF, vK])) 4 (by simp [rdL]) (MO.put (L := (rdL s vL vM vT vS vC vV vF vK).eraseIdx 4) (e := (3, v86, (((lastC s.cages).Verts) ++ [(ptR (numsL (w.drop 1)))]).length, (((lastC s.cages).Verts) ++ [(ptR (numsL (w.drop 1)))]).flatMap eV)) 4 (by simp [rdL]) o124 o125 sp100) (.inr ⟨ic, vc, hvC, h119, hBic, (by rw [List.length_append, drop_len]; simp only [List.length_cons, List.length_nil]; omega)⟩) (SepM.of (NotIdM.put (L := (rdL s vL vM vT vS vC vV vF vK).eraseIdx 4) (e := (3, v86, (((lastC s.cages).Verts) ++ [(ptR (numsL (w.drop 1)))]).length, (((lastC s.cages).Verts) ++ [(ptR (numsL (w.drop 1)))]).flatMap eV)) 4 no13 no96) hvC)) (NotIdM.put (L := (rdL s vL vM vT vS vC vV vF vK).set 5 (3, v86, (((lastC s.cages).Verts) ++ [(ptR (numsL (w.drop 1)))]).length, (((lastC s.cages).Verts) ++ [(ptR (numsL (w.drop 1)))]).flatMap eV)) (e := (3, vC, s.cages.length, s.cages.dropLast.flatMap eCage ++ [v86, vF, vK])) 4 (NotIdM.put (L := (rdL s vL vM vT vS vC vV vF vK).eraseIdx 4) (e := (3, v86, (((lastC s.cages).Verts) ++ [(ptR (numsL (w.drop 1)))]).length, (((lastC s.cages).Verts) ++ [(ptR (numsL (w.drop 1)))]).flatMap eV)) 4 ngX no94) nC)⟩, m126, rfl⟩⟩
     ·
      refine AWP.condT rfl (nb b49) ?_
      refine AWP.seq ?_
      refine AWP.region (l := [0]) rfl ?_
      refine AOps.cons rfl rfl (AOp.assign (.int .i64 11) rfl rfl ?_)
      refine AOps.nil ?_
      change AWP _ _ _ _ _ _
      refine AWP.ret ?_
      exact ⟨_, _, Ghost.refl, .inr rfl, _, Res.one rfl rfl, .inr ⟨11, gT (cnt_T (numsL_len _) hb1 b10) (gT (decide_eq_true (by omega)) (gT (decide_eq_true (by omega)) (gF ((in_take (by omega) b49))))), m48, rfl⟩⟩
  ·
   refine AOps.no rfl rfl rfl rfl rfl rfl rfl (ble_of (nb (decide_eq_false b10)) (by decide)) ?_
   refine AOps.no rfl rfl rfl rfl rfl rfl rfl (ble_of (nb (decide_eq_false b10)) (by decide)) ?_
   refine AOps.no rfl rfl rfl rfl rfl rfl rfl (ble_of (nb (decide_eq_false b10)) (by decide)) ?_
   refine AOps.no rfl rfl rfl rfl rfl rfl rfl (ble_of (nb (decide_eq_false b10)) (by decide)) ?_
   refine AOps.no rfl rfl rfl rfl rfl rfl rfl (ble_of (nb (decide_eq_false b10)) (by decide)) ?_
   refine AOps.un rfl rfl rfl rfl rfl rfl rfl ?_
   refine AOps.un rfl rfl rfl rfl rfl rfl rfl ?_
   refine AOps.un rfl rfl rfl rfl rfl rfl rfl ?_
   refine AOps.un rfl rfl rfl rfl rfl rfl rfl ?_
   refine AOps.un rfl rfl rfl rfl rfl rfl rfl ?_
   refine AOps.un rfl rfl rfl rfl rfl rfl rfl ?_
   refine AOps.un rfl rfl rfl rfl rfl rfl rfl ?_
   refine AOps.un rfl rfl rfl rfl rfl rfl rfl ?_
   refine AOps.no rfl rfl rfl rfl rfl rfl rfl (ble_of (nb (decide_eq_false b10)) (by decide)) ?_
   refine AOps.cons rfl rfl (AOp.pickT (.bool true) rfl rfl (nb (decide_eq_false b10)) rfl ?_)
   refine AOps.nil ?_
   change AWP _ _ _ _ _ _
   refine AWP.condT rfl rfl ?_
   refine AWP.seq ?_
   refine AWP.region (l := [0]) rfl ?_
   refine AOps.cons rfl rfl (AOp.assign (.int .i64 10) rfl rfl ?_)
   refine AOps.nil ?_
   change AWP _ _ _ _ _ _
   refine AWP.ret ?_
   exact ⟨_, _, Ghost.refl, .inr rfl, _, Res.one rfl rfl, .inr ⟨10, gF (cnt_F2 (numsL_len _) b10), m8, rfl⟩⟩
 ·
  refine AOps.cons rfl rfl (AOp.pcall («as» := [.sl (w.drop 1).length ((w.drop 1).map eStr)]) rfl rfl (rfl) tf_88 (c_rnumbers_F hb1 (w.drop 1) (by first | omega | assumption | (simp only [List.length_drop, List.length_take]; omega) | (simp; omega) | simp)) ?_)
  intro H127 m128
  have h129 := m128 _ _ hrow
  have o130 := Own.mono oC m128
  have o131 := Own.mono oX m128
  have o132 := MO.mono ogX m128
  have m133 := m0.trans m128
  refine AOps.cons rfl rfl (AOp.move (.tup [.sl ([] : List Int).length (([] : List Int).map eI), .bool false]) rfl rfl ?_)
  refine AOps.cons rfl rfl (AOp.extract (.sl ([] : List Int).length (([] : List Int).map eI)) rfl rfl rfl ?_)
  refine AOps.cons rfl rfl (AOp.extract (.bool false) rfl rfl rfl ?_)
  refine AOps.cons rfl rfl (AOp.assign (.sl ([] : List Int).length (([] : List Int).map eI)) rfl rfl ?_)
  refine AOps.cons rfl rfl (AOp.assign (.bool false) rfl rfl ?_)
  refine AOps.nil ?_
  change AWP _ _ _ _ _ _
  refine AWP.seq ?_
  refine AWP.seq ?_
  refine AWP.region (l := [0, 1, 2, 3, 4, 5, 6, 7, 8, 9, 10, 11, 12, 13, 14, 15, 16, 17, 18, 19, 20, 21, 22, 23, 24, 25, 26, 27, 28]) rfl ?_
  refine AOps.cons rfl rfl (AOp.move (.bool false) rfl rfl ?_)
  refine AOps.cons rfl rfl (AOp.not rfl rfl ?_)
  refine AOps.cons rfl rfl (AOp.move (.bool (!false)) rfl rfl ?_)
  refine AOps.no rfl rfl rfl rfl rfl rfl rfl (ble_of rfl (by decide)) ?_
  refine AOps.no rfl rfl rfl rfl rfl rfl rfl (ble_of rfl (by decide)) ?_
  refine AOps.no rfl rfl rfl rfl rfl rfl rfl (ble_of rfl (by decide)) ?_
  refine AOps.no rfl rfl rfl rfl rfl rfl rfl (ble_of rfl (by decide)) ?_
  refine AOps.no rfl rfl rfl rfl rfl rfl rfl (ble_of rfl (by decide)) ?_
  refine AOps.un rfl rfl rfl rfl rfl rfl rfl ?_
  refine AOps.un rfl rfl rfl rfl rfl rfl rfl ?_
  refine AOps.un rfl rfl rfl rfl rfl rfl rfl ?_
  refine AOps.no rfl rfl rfl rfl rfl rfl rfl (ble_of rfl (by decide)) ?_
  refine AOps.cons rfl rfl (AOp.pickT (.bool true) rfl rfl rfl rfl ?_)
  refine AOps.cons rfl rfl (AOp.move (.bool true) rfl rfl ?_)
  refine AOps.no rfl rfl rfl rfl rfl rfl rfl (ble_of rfl (by decide)) ?_
  refine AOps.no rfl rfl rfl rfl rfl rfl rfl (ble_of rfl (by decide)) ?_
  refine AOps.no rfl rfl rfl rfl rfl rfl rfl (ble_of rfl (by decide)) ?_
  refine AOps.no rfl rfl rfl rfl rfl rfl rfl (ble_of rfl (by decide)) ?_
  refine AOps.no rfl rfl rfl rfl rfl rfl rfl (ble_of rfl (by decide)) ?_
  refine AOps.un rfl rfl rfl rfl rfl rfl rfl ?_
  refine AOps.un rfl rfl rfl rfl rfl rfl rfl ?_
  refine AOps.un rfl rfl rfl rfl rfl rfl rfl ?_
  refine AOps.un rfl rfl rfl rfl rfl rfl rfl ?_
  refine AOps.un rfl rfl rfl rfl rfl rfl rfl ?_
  refine AOps.un rfl rfl rfl rfl rfl rfl rfl ?_
  refine AOps.un rfl rfl rfl rfl rfl rfl rfl ?_
  refine AOps.un rfl rfl rfl rfl rfl rfl rfl ?_
  refine AOps.no rfl rfl rfl rfl rfl rfl rfl (ble_of rfl (by decide)) ?_
  refine AOps.cons rfl rfl (AOp.pickT (.bool true) rfl rfl rfl rfl ?_)
  refine AOps.nil ?_
  change AWP _ _ _ _ _ _
  refine AWP.condT rfl rfl ?_
  refine AWP.seq ?_
  refine AWP.region (l := [0]) rfl ?_
  refine AOps.cons rfl rfl (AOp.assign (.int .i64 10) rfl rfl ?_)
  refine AOps.nil ?_
  change AWP _ _ _ _ _ _
  refine AWP.ret ?_
  exact ⟨_, _, Ghost.refl, .inr rfl, _, Res.one rfl rfl, .inr ⟨10, gF (cnt_F1 hb1), m133, rfl⟩⟩
theorem c_rpart_F {B H0 : Heap} {id ver : Nat} {s : Rd} (hm : Mono B H0) (hs : RD B H0 id ver s) (ok : RdOk s) (w : List ByteArray) (hw : w.length ≤ 1048576) (hne : 0 < w.length) (hk : at_ w 0 = kF) : ACalls Tryz.prog 47 [.ptr id ver 0, .sl w.length (w.map eStr)] H0 fun r H' => (∃ t, faceP s (w.drop 1) = .ok t ∧ RD B H' id ver t ∧ Mono B H' ∧ r = .int .i64 0) ∨ ∃ k, faceP s (w.drop 1) = .error k ∧ Mono B H' ∧ r = .int .i64 k := by
 obtain ⟨vL, vM, vT, vS, vC, vV, vF, vK, hrow, hB, hg, hn⟩ := hs
 obtain ⟨oC', ogC, spC⟩ := hg.at 4 rfl
 have oC : Own B H0 3 vC s.cages.length (cgC s.cages vV vF vK) := oC'
 have nC : NotId vC id := hn.at 4 rfl
 have ngC := hn.erase 4
 obtain ⟨oX', ogX, spX⟩ := ogC.at 5 rfl
 have oX : Own B H0 1 vF (lastC s.cages).Faces.length (((lastC s.cages).Faces).map eF) := oX'
 have nX : NotId vF id := ngC.at 5 rfl
 have ngX := ngC.erase 5
 have spCX : Sep vF vC := spC.at 5 rfl
 have spC2 := spC.erase 5
 have hkV : ¬ at_ w 0 = ⟨#[118]⟩ := by rw [hk]; decide
 have hkK : ¬ at_ w 0 = ⟨#[99, 114, 101, 97, 115, 101]⟩ := by rw [hk]; decide
 refine ACalls.of_body' (n := 162) rfl rfl rfl rfl ?_
 have m0 := hm
 refine AWP.seq ?_
 refine AWP.region (l := [0]) rfl ?_
 refine AOps.cons rfl rfl (AOp.assign (.int .i64 0) rfl rfl ?_)
 refine AOps.nil ?_
 change AWP _ _ _ _ _ _
 refine AWP.seq ?_
 refine AWP.region (l := [0, 1, 2, 3, 4, 5, 6, 7]) rfl ?_
 refine AOps.cons rfl rfl (AOp.move (.sl w.length (w.map eStr)) rfl rfl ?_)
 refine AOps.cons rfl rfl (AOp.sliceSD1 (xs := w) (l := 1) (h := (w.length : Int)) rfl rfl  sl_57 (lo_of rfl) rfl (by first | omega | (simp; omega)) (by first | omega | (simp; omega)) (by first | omega | (simp; omega)) rfl ?_)
 rcases Bool.eq_false_or_eq_true (numsB (w.drop 1)) with hb1 | hb1
 ·
  refine AOps.cons rfl rfl (AOp.pcall («as» := [.sl (w.drop 1).length ((w.drop 1).map eStr)]) rfl rfl (rfl) tf_88 (c_rnumbers_T hb1 (w.drop 1) (by first | omega | assumption | (simp only [List.length_drop, List.length_take]; omega) | (simp; omega) | simp)) ?_)
  intro H2 m3
  have h4 := m3 _ _ hrow
  have o5 := Own.mono oC m3
  have o6 := Own.mono oX m3
  have o7 := MO.mono ogX m3
  have m8 := m0.trans m3
  have hl9 := numsL_len (w.drop 1)
  simp only [List.length_drop] at hl9
  refine AOps.cons rfl rfl (AOp.move (.tup [.sl (numsL (w.drop 1)).length ((numsL (w.drop 1)).map eI), .bool true]) rfl rfl ?_)
  refine AOps.cons rfl rfl (AOp.extract (.sl (numsL (w.drop 1)).length ((numsL (w.drop 1)).map eI)) rfl rfl rfl ?_)
  refine AOps.cons rfl rfl (AOp.extract (.bool true) rfl rfl rfl ?_)
  refine AOps.cons rfl rfl (AOp.assign (.sl (numsL (w.drop 1)).length ((numsL (w.drop 1)).map eI)) rfl rfl ?_)
  refine AOps.cons rfl rfl (AOp.assign (.bool true) rfl rfl ?_)
  refine AOps.nil ?_
  change AWP _ _ _ _ _ _
  refine AWP.seq ?_
  refine AWP.seq ?_
  refine AWP.region (l := [0, 1, 2, 3, 4, 5, 6, 7, 8, 9, 10, 11, 12, 13, 14, 15, 16, 17, 18, 19, 20, 21, 22, 23, 24, 25, 26, 27, 28]) rfl ?_
  refine AOps.cons rfl rfl (AOp.move (.bool true) rfl rfl ?_)
  refine AOps.cons rfl rfl (AOp.not rfl rfl ?_)
  refine AOps.cons rfl rfl (AOp.move (.bool (!true)) rfl rfl ?_)
  refine AOps.yes rfl rfl rfl rfl rfl rfl rfl rfl (AOp.move (.sl w.length (w.map eStr)) rfl rfl ?_)
  refine AOps.yes rfl rfl rfl rfl rfl rfl rfl rfl (AOp.indexAddrS rfl rfl rfl sl_57 (by omega) (by omega) ?_)
  refine AOps.yes rfl rfl rfl rfl rfl rfl rfl rfl (AOp.loadF (.str (at_ w 0)) rfl rfl ty_9 (ld1 (by omega) (by omega)) ?_)
  refine AOps.yes rfl rfl rfl rfl rfl rfl rfl rfl (AOp.sneD rfl rfl rfl ?_)
  refine AOps.yes rfl rfl rfl rfl rfl rfl rfl rfl (AOp.move (.bool (!decide ((at_ w 0) = ⟨#[102]⟩))) rfl rfl ?_)
  refine AOps.no rfl rfl rfl rfl rfl rfl rfl (ble_of (nb (decide_eq_true (hk))) (by decide)) ?_
  refine AOps.no rfl rfl rfl rfl rfl rfl rfl (ble_of (nb (decide_eq_true (hk))) (by decide)) ?_
  refine AOps.no rfl rfl rfl rfl rfl rfl rfl (ble_of (nb (decide_eq_true (hk))) (by decide)) ?_
  refine AOps.yes rfl rfl rfl rfl rfl rfl rfl rfl (AOp.pickF (.bool false) rfl rfl (nb (decide_eq_true (hk))) rfl ?_)
  refine AOps.cons rfl rfl (AOp.pickF (.bool false) rfl rfl rfl rfl ?_)
  refine AOps.cons rfl rfl (AOp.move (.bool false) rfl rfl ?_)
  refine AOps.yes rfl rfl rfl rfl rfl rfl rfl rfl (AOp.move (.sl w.length (w.map eStr)) rfl rfl ?_)
  refine AOps.yes rfl rfl rfl rfl rfl rfl rfl rfl (AOp.indexAddrS rfl rfl rfl sl_57 (by omega) (by omega) ?_)
  refine AOps.yes rfl rfl rfl rfl rfl rfl rfl rfl (AOp.loadF (.str (at_ w 0)) rfl rfl ty_9 (ld1 (by omega) (by omega)) ?_)
  refine AOps.yes rfl rfl rfl rfl rfl rfl rfl rfl (AOp.seqD rfl rfl rfl ?_)
  refine AOps.yes rfl rfl rfl rfl rfl rfl rfl rfl (AOp.move (.bool (decide ((at_ w 0) = ⟨#[102]⟩))) rfl rfl ?_)
  refine AOps.yes rfl rfl rfl rfl rfl rfl rfl (decide_eq_true (hk)) (AOp.move (.sl (numsL (w.drop 1)).length ((numsL (w.drop 1)).map eI)) rfl rfl ?_)
  refine AOps.yes rfl rfl rfl rfl rfl rfl rfl (decide_eq_true (hk)) (AOp.len (m := (numsL (w.drop 1)).length) rfl rfl (.inr (.inl ⟨_, rfl⟩)) u_68 ?_)
  refine AOps.yes rfl rfl rfl rfl rfl rfl rfl (decide_eq_true (hk)) (AOp.bin (.bool (decide ((((numsL (w.drop 1)).length) : Int) < 3))) rfl rfl rfl rfl ?_)
  refine AOps.yes rfl rfl rfl rfl rfl rfl rfl (decide_eq_true (hk)) (AOp.move (.bool (decide ((((numsL (w.drop 1)).length) : Int) < 3))) rfl rfl ?_)
  by_cases b10 : (((numsL (w.drop 1)).length) : Int) < 3
  ·
   refine AOps.no rfl rfl rfl rfl rfl rfl rfl (ble_of (decide_eq_true b10) (by decide)) ?_
   refine AOps.no rfl rfl rfl rfl rfl rfl rfl (ble_of (decide_eq_true b10) (by decide)) ?_
   refine AOps.no rfl rfl rfl rfl rfl rfl rfl (ble_of (decide_eq_true b10) (by decide)) ?_
   refine AOps.yes rfl rfl rfl rfl rfl rfl rfl (decide_eq_true (hk)) (AOp.pickT (.bool true) rfl rfl (decide_eq_true b10) rfl ?_)
   refine AOps.yes rfl rfl rfl rfl rfl rfl rfl rfl (AOp.pickT (.bool true) rfl rfl (decide_eq_true (hk)) rfl ?_)
   refine AOps.cons rfl rfl (AOp.pickF (.bool true) rfl rfl rfl rfl ?_)
   refine AOps.nil ?_
   change AWP _ _ _ _ _ _
   refine AWP.condT rfl rfl ?_
   refine AWP.seq ?_
   refine AWP.region (l := [0]) rfl ?_
   refine AOps.cons rfl rfl (AOp.assign (.int .i64 10) rfl rfl ?_)
   refine AOps.nil ?_
   change AWP _ _ _ _ _ _
   refine AWP.ret ?_
   exact ⟨_, _, Ghost.refl, .inr rfl, _, Res.one rfl rfl, .inr ⟨10, gT (hb1) (gF (by simp; omega)), m8, rfl⟩⟩
  ·
   refine AOps.yes rfl rfl rfl rfl rfl rfl rfl (decide_eq_false b10) (AOp.move (.sl (numsL (w.drop 1)).length ((numsL (w.drop 1)).map eI)) rfl rfl ?_)
   refine AOps.yes rfl rfl rfl rfl rfl rfl rfl (decide_eq_false b10) (AOp.len (m := (numsL (w.drop 1)).length) rfl rfl (.inr (.inl ⟨_, rfl⟩)) u_68 ?_)
   refine AOps.yes rfl rfl rfl rfl rfl rfl rfl (decide_eq_false b10) (AOp.bin (.bool (decide ((((numsL (w.drop 1)).length) : Int) > 8))) rfl rfl rfl rfl ?_)
   refine AOps.yes rfl rfl rfl rfl rfl rfl rfl (decide_eq_true (hk)) (AOp.pickF (.bool (decide ((((numsL (w.drop 1)).length) : Int) > 8))) rfl rfl (decide_eq_false b10) rfl ?_)
   refine AOps.yes rfl rfl rfl rfl rfl rfl rfl rfl (AOp.pickT (.bool (decide ((((numsL (w.drop 1)).length) : Int) > 8))) rfl rfl (decide_eq_true (hk)) rfl ?_)
   refine AOps.cons rfl rfl (AOp.pickF (.bool (decide ((((numsL (w.drop 1)).length) : Int) > 8))) rfl rfl rfl rfl ?_)
   refine AOps.nil ?_
   change AWP _ _ _ _ _ _
   by_cases b11 : (((numsL (w.drop 1)).length) : Int) > 8
   ·
    refine AWP.condT rfl (decide_eq_true b11) ?_
    refine AWP.seq ?_
    refine AWP.region (l := [0]) rfl ?_
    refine AOps.cons rfl rfl (AOp.assign (.int .i64 10) rfl rfl ?_)
    refine AOps.nil ?_
    change AWP _ _ _ _ _ _
    refine AWP.ret ?_
    exact ⟨_, _, Ghost.refl, .inr rfl, _, Res.one rfl rfl, .inr ⟨10, gT (hb1) (gF (by simp; omega)), m8, rfl⟩⟩
   ·
    refine AWP.condF rfl (decide_eq_false b11) ?_
    refine AWP.skip ?_
    change AWP _ _ _ _ _ _
    refine AWP.seq ?_
    refine AWP.seq ?_
    refine AWP.region (l := [0, 1, 2, 3, 4, 5, 6]) rfl ?_
    refine AOps.cons rfl rfl (AOp.move (.ptr id ver 0) rfl rfl ?_)
    refine AOps.cons rfl rfl (AOp.nilCheck (.ptr id ver 0) rfl rfl rfl ?_)
    refine AOps.cons rfl rfl (AOp.fieldAddr rfl rfl fl_63_0 ?_ (hid := ⟨_, h4⟩))
    refine AOps.cons rfl rfl (AOp.fieldAddr rfl rfl fl_35_6 ?_ (hid := ⟨_, h4⟩))
    refine AOps.cons rfl rfl (AOp.load (vC) rfl rfl ty_33 h4 rfl ?_)
    refine AOps.cons rfl rfl (AOp.len_own (m := s.cages.length) rfl rfl o5 u_33 ?_)
    refine AOps.cons rfl rfl (AOp.bin (.bool (decide ((s.cages.length : Int) = 0))) rfl rfl rfl ieq ?_)
    refine AOps.nil ?_
    change AWP _ _ _ _ _ _
    by_cases b12 : (s.cages.length : Int) = 0
    ·
     refine AWP.condT rfl (decide_eq_true b12) ?_
     refine AWP.seq ?_
     refine AWP.region (l := [0]) rfl ?_
     refine AOps.cons rfl rfl (AOp.assign (.int .i64 15) rfl rfl ?_)
     refine AOps.nil ?_
     change AWP _ _ _ _ _ _
     refine AWP.ret ?_
     exact ⟨_, _, Ghost.refl, .inr rfl, _, Res.one rfl rfl, .inr ⟨15, gT (hb1) (gT (by simp; omega) (gF (decide_eq_false (by omega)))), m8, rfl⟩⟩
    ·
     refine AWP.condF rfl (decide_eq_false b12) ?_
     refine AWP.skip ?_
     change AWP _ _ _ _ _ _
     refine AWP.seq ?_
     have hne0 : s.cages ≠ [] := List.length_pos_iff.1 (by omega)
     have hcl := lastC_ok ok hne0
     have hcc := ok.c; have hck := ok.k
     have oC2 := o5; rw [cgC_ne hne0] at oC2
     obtain ⟨ic, vc, hvC, hic, hBic, hlic⟩ := Own.pos oC2 (by omega)
     have nid : id ≠ ic := nC _ _ _ _ _ hvC
     have no13 : NotId vF ic := ((Sep.symm spCX)).notId hvC
     have no14 := SepM.nid spC2 hvC
     refine AWP.region_quietA mixed (by kernel_rfl) 14 15 [15] rfl (by kernel_rfl) (B := .row 0 ([.snil, .snil, .snil])) (va := fun i => .ptr i 0 0) (by decide) fun i15 n16 _ hs17 => ?_
     refine QEA.op rfl rfl rfl (.inl ⟨rfl, fun H1 f' H' hf hN hM => AOp.move (.ptr id ver 0) rfl ((hf 0 rfl).trans rfl) ⟨rfl, hN⟩⟩) ?_
     refine QEA.op rfl rfl rfl (.inl ⟨rfl, fun H1 f' H' hf hN hM => AOp.nilCheck (.ptr id ver 0) rfl ((hf 51 rfl).trans rfl) rfl ⟨rfl, hN⟩⟩) ?_
     refine QEA.op rfl rfl rfl (.inl ⟨rfl, fun H1 f' H' hf hN hM => AOp.fieldAddr rfl ((hf 52 rfl).trans rfl) fl_63_0 ⟨rfl, hN⟩ (hid := ⟨_, (hM _ _ h4)⟩)⟩) ?_
     refine QEA.op rfl rfl rfl (.inl ⟨rfl, fun H1 f' H' hf hN hM => AOp.fieldAddr rfl ((hf 53 rfl).trans rfl) fl_35_6 ⟨rfl, hN⟩ (hid := ⟨_, (hM _ _ h4)⟩)⟩) ?_
     refine QEA.op rfl rfl rfl (.inl ⟨rfl, fun H1 f' H' hf hN hM => AOp.load (vC) rfl ((hf 54 rfl).trans rfl) ty_33 (hM _ _ h4) rfl ⟨rfl, hN⟩⟩) ?_
     refine QEA.op rfl rfl rfl (.inl ⟨rfl, fun H1 f' H' hf hN hM => AOp.move (.ptr id ver 0) rfl ((hf 0 rfl).trans rfl) ⟨rfl, hN⟩⟩) ?_
     refine QEA.op rfl rfl rfl (.inl ⟨rfl, fun H1 f' H' hf hN hM => AOp.nilCheck (.ptr id ver 0) rfl ((hf 56 rfl).trans rfl) rfl ⟨rfl, hN⟩⟩) ?_
     refine QEA.op rfl rfl rfl (.inl ⟨rfl, fun H1 f' H' hf hN hM => AOp.fieldAddr rfl ((hf 57 rfl).trans rfl) fl_63_0 ⟨rfl, hN⟩ (hid := ⟨_, (hM _ _ h4)⟩)⟩) ?_
     refine QEA.op rfl rfl rfl (.inl ⟨rfl, fun H1 f' H' hf hN hM => AOp.fieldAddr rfl ((hf 58 rfl).trans rfl) fl_35_6 ⟨rfl, hN⟩ (hid := ⟨_, (hM _ _ h4)⟩)⟩) ?_
     refine QEA.op rfl rfl rfl (.inl ⟨rfl, fun H1 f' H' hf hN hM => AOp.load (vC) rfl ((hf 59 rfl).trans rfl) ty_33 (hM _ _ h4) rfl ⟨rfl, hN⟩⟩) ?_
     refine QEA.op rfl rfl rfl (.inl ⟨rfl, fun H1 f' H' hf hN hM => AOp.len (m := s.cages.length) rfl (Eq.trans ((hf 60 rfl).trans rfl) hvC) (.inr (.inr ⟨_, _, _, _, rfl⟩)) u_33 ⟨rfl, hN⟩⟩) ?_
     refine QEA.op rfl rfl rfl (.inl ⟨rfl, fun H1 f' H' hf hN hM => AOp.bin (.int .i64 ((s.cages.length : Int) - 1)) rfl ((hf 61 rfl).trans rfl) rfl (isub (by omega)) ⟨rfl, hN⟩⟩) ?_
     refine QEA.op rfl rfl rfl (.inl ⟨rfl, fun H1 f' H' hf hN hM => AOp.indexAddrO rfl (Eq.trans ((hf 55 rfl).trans rfl) hvC) ((hf 62 rfl).trans rfl) sl_33 (by omega) (by omega) (hM _ _ hic) ⟨rfl, hN⟩⟩) ?_
     refine QEA.op rfl rfl rfl (.inl ⟨rfl, fun H1 f' H' hf hN hM => AOp.load (.agg [vV, vF, vK]) rfl ((hf 63 rfl).trans rfl) ty_48 (hM _ _ hic) (ldCA (drop_len _)) ⟨rfl, hN⟩⟩) ?_
     refine QEA.alloc rfl rfl rfl rfl rfl tz_48 ?_
     refine QEA.done fun H18 m20 => ?_
     have m19 := hs17 _ m20
     have e21 := ne_new h4 n16
     have e22 := ne_new hic n16
     have z23 := Mono.free m8 n16
     have no24 := Own.notnew o6 n16
     have no25 := MO.notnew o7 n16
     have h26 := m19 _ _ h4
     have h27 := m19 _ _ hic
     have o28 := Own.mono o6 m19
     have o29 := MO.mono o7 m19
     have m30 := m8.trans m19
     have h31 : H18 i15 = some (.row 0 ([.snil, .snil, .snil])) := m20 i15 _ (updH_same _ _ _)
     refine AOps.cons rfl rfl (AOp.store' (cells' := [vV, vF, vK]) (.agg [vV, vF, vK]) rfl rfl ts_48 h31 (by simp only [AV.cells, List.all_cons, List.all_nil, Own.one_ (o29.at 4 rfl).1, Own.one_ o28, Own.one_ (o29.at 5 rfl).1]; rfl) rfl rfl rfl ?_)
     intro H32 h33 k34
     have h35 := keep k34 e21 h26
     have h36 := keep k34 e22 h27
     have o38 := Own.keep o28 k34 no24
     have o39 := MO.keep o29 k34 no25
     have m40 := Mono.set m30 z23 k34
     refine AOps.nil ?_
     change AWP _ _ _ _ _ _
     refine AWP.seq ?_
     refine AWP.region (l := [0, 1, 2, 3, 4]) rfl ?_
     refine AOps.cons rfl rfl (AOp.fieldAddr rfl rfl fl_48_0 ?_ (hid := ⟨_, h33⟩))
     refine AOps.cons rfl rfl (AOp.load (vV) rfl rfl ty_44 h33 rfl ?_)
     refine AOps.cons rfl rfl (AOp.len_own (m := ((lastC s.cages).Verts.length)) rfl rfl (o39.at 4 rfl).1 u_44 ?_)
     refine AOps.cons rfl rfl (AOp.bin (.int .i64 ((((lastC s.cages).Verts.length) : Int) - 1)) rfl rfl rfl (isub (by omega)) ?_)
     refine AOps.cons rfl rfl (AOp.assign (.int .i64 ((((lastC s.cages).Verts.length) : Int) - 1)) rfl rfl ?_)
     refine AOps.nil ?_
     change AWP _ _ _ _ _ _
     refine AWP.seq ?_
     refine AWP.seq ?_
     refine AWP.region (l := [0, 1, 2, 3]) rfl ?_
     refine AOps.cons rfl rfl (AOp.move (.sl w.length (w.map eStr)) rfl rfl ?_)
     refine AOps.cons rfl rfl (AOp.indexAddrS rfl rfl rfl sl_57 (by omega) (by omega) ?_)
     refine AOps.cons rfl rfl (AOp.loadF (.str (at_ w 0)) rfl rfl ty_9 (ld1 (by omega) (by omega)) ?_)
     refine AOps.cons rfl rfl (AOp.seqD rfl rfl rfl ?_)
     refine AOps.nil ?_
     change AWP _ _ _ _ _ _
     refine AWP.condF rfl (decide_eq_false (hkV)) ?_
     refine AWP.skip ?_
     change AWP _ _ _ _ _ _
     refine AWP.seq ?_
     refine AWP.seq ?_
     refine AWP.region (l := [0, 1, 2, 3]) rfl ?_
     refine AOps.cons rfl rfl (AOp.move (.sl w.length (w.map eStr)) rfl rfl ?_)
     refine AOps.cons rfl rfl (AOp.indexAddrS rfl rfl rfl sl_57 (by omega) (by omega) ?_)
     refine AOps.cons rfl rfl (AOp.loadF (.str (at_ w 0)) rfl rfl ty_9 (ld1 (by omega) (by omega)) ?_)
     refine AOps.cons rfl rfl (AOp.seqD rfl rfl rfl ?_)
     refine AOps.nil ?_
     change AWP _ _ _ _ _ _
     refine AWP.condT rfl (decide_eq_true (hk)) ?_
     refine AWP.seq ?_
     refine AWP.seq ?_
     refine AWP.region (l := [0, 1, 2, 3]) rfl ?_
     refine AOps.cons rfl rfl (AOp.fieldAddr rfl rfl fl_48_1 ?_ (hid := ⟨_, h33⟩))
     refine AOps.cons rfl rfl (AOp.load (vF) rfl rfl ty_45 h33 rfl ?_)
     refine AOps.cons rfl rfl (AOp.len_own (m := ((lastC s.cages).Faces.length)) rfl rfl o38 u_45 ?_)
     refine AOps.cons rfl rfl (AOp.bin (.bool (decide ((((lastC s.cages).Faces.length) : Int) ≥ 64))) rfl rfl rfl rfl ?_)
     refine AOps.nil ?_
     change AWP _ _ _ _ _ _
     by_cases b41 : (((lastC s.cages).Faces.length) : Int) ≥ 64
     ·
      refine AWP.condT rfl (decide_eq_true b41) ?_
      refine AWP.seq ?_
      refine AWP.region (l := [0]) rfl ?_
      refine AOps.cons rfl rfl (AOp.assign (.int .i64 13) rfl rfl ?_)
      refine AOps.nil ?_
      change AWP _ _ _ _ _ _
      refine AWP.ret ?_
      exact ⟨_, _, Ghost.refl, .inr rfl, _, Res.one rfl rfl, .inr ⟨13, gT (hb1) (gT (by simp; omega) (gT (decide_eq_true (by omega)) (gF (decide_eq_false (by omega))))), m40, rfl⟩⟩
     ·
      refine AWP.condF rfl (decide_eq_false b41) ?_
      refine AWP.skip ?_
      change AWP _ _ _ _ _ _
      refine AWP.seq ?_
      refine AWP.seq ?_
      refine AWP.region (l := [0, 1, 2, 3, 4, 5]) rfl ?_
      refine AOps.cons rfl rfl (AOp.move (.sl (numsL (w.drop 1)).length ((numsL (w.drop 1)).map eI)) rfl rfl ?_)
      refine AOps.cons rfl rfl (AOp.move (.sl (numsL (w.drop 1)).length ((numsL (w.drop 1)).map eI)) rfl rfl ?_)
      refine AOps.cons rfl rfl (AOp.len (m := (numsL (w.drop 1)).length) rfl rfl (.inr (.inl ⟨_, rfl⟩)) u_68 ?_)
      refine AOps.cons rfl rfl (AOp.move (.int .i64 ((((lastC s.cages).Verts.length) : Int) - 1)) rfl rfl ?_)
      refine AOps.cons rfl rfl (AOp.pcall («as» := [.sl (numsL (w.drop 1)).length ((numsL (w.drop 1)).map eI), .int .i64 0, .int .i64 (((numsL (w.drop 1)).length) : Int), .int .i64 0, .int .i64 ((((lastC s.cages).Verts.length) : Int) - 1)]) rfl rfl (rfl) tf_89 (c_rwithinA (numsL (w.drop 1)) _ 0 ((((lastC s.cages).Verts.length) : Int) - 1) rfl (by omega)) ?_)
      intro H42 m43
      have h44 := m43 _ _ h35
      have h45 := m43 _ _ h36
      have h46 := m43 _ _ h33
      have o47 := Own.mono o38 m43
      have o48 := MO.mono o39 m43
      have m49 := m40.trans m43
      refine AOps.cons rfl rfl (AOp.not rfl rfl ?_)
      refine AOps.nil ?_
      change AWP _ _ _ _ _ _
      rcases Bool.eq_false_or_eq_true (inB 0 ((((lastC s.cages).Verts.length) : Int) - 1) (numsL (w.drop 1))) with b50 | b50
      ·
       refine AWP.condF rfl (nb b50) ?_
       refine AWP.skip ?_
       change AWP _ _ _ _ _ _
       refine AWP.region (l := [0, 1, 2, 3, 4, 5, 6]) rfl ?_
       refine AOps.cons rfl rfl (AOp.fieldAddr rfl rfl fl_48_1 ?_ (hid := ⟨_, h46⟩))
       refine AOps.cons rfl rfl (AOp.load (vF) rfl rfl ty_45 h46 rfl ?_)
       refine AOps.cons rfl rfl (AOp.move (.sl (numsL (w.drop 1)).length ((numsL (w.drop 1)).map eI)) rfl rfl ?_)
       refine AOps.cons rfl rfl (AOp.buildSlice (cells := [.sl (numsL (w.drop 1)).length ((numsL (w.drop 1)).map eI)]) rfl u_45 ts_68 tz_68 rfl rfl rfl ?_)
       intro i51 H52 n53 h54 k55
       have e56 := ne_new h44 n53
       have e57 := ne_new h45 n53
       have e58 := ne_new h46 n53
       have z59 := Mono.free m49 n53
       have h60 := keep k55 (ne_new h44 n53) h44
       have h61 := keep k55 (ne_new h45 n53) h45
       have h62 := keep k55 (ne_new h46 n53) h46
       have o63 := Own.keep o47 k55 (Own.notnew o47 n53)
       have no64 := Own.notnew o47 n53
       have o65 := MO.keep o48 k55 (MO.notnew o48 n53)
       have no66 := MO.notnew o48 n53
       have m67 := Mono.new m49 n53 k55
       refine AOps.cons rfl rfl (AOp.append_own (es := 1) (m := 1) (len := ((lastC s.cages).Faces.length)) (old := ((lastC s.cages).Faces).map eF) (cells := [.sl (numsL (w.drop 1)).length ((numsL (w.drop 1)).map eI)]) rfl u_45 ts_68 tzn_68 tb_68 (by decide) ni_45 rfl o63 m67 rfl (.slm h54 rfl) (one_of rfl) (by decide) (by first | omega | (simp; omega)) ?_)
       intro v68 H69 o70 m71 k72 j73
       have o74 := Own.snoc1 (xs := ((lastC s.cages).Faces : List (List Int))) (y := numsL (w.drop 1)) (e := eF) (by simp) o70
       have h75 := (k72 _ nX (by rw [h60]; simp)).trans h60
       have no76 := j73 _ nX (by rw [h60]; simp)
       have h77 := (k72 _ no13 (by rw [h61]; simp)).trans h61
       have no78 := j73 _ no13 (by rw [h61]; simp)
       have h79 := (k72 _ no24 (by rw [h62]; simp)).trans h62
       have no80 := j73 _ no24 (by rw [h62]; simp)
       have sp82 := MO.sep o65 spX j73
       have o81 := MO.stay o65 spX k72
       refine AOps.cons rfl rfl (AOp.fieldAddr rfl rfl fl_48_1 ?_ (hid := ⟨_, h79⟩))
       refine AOps.cons rfl rfl (AOp.storeO (cells' := [vV, v68, vK]) rfl rfl o74 ts_45 h79 rfl rfl ?_)
       intro H83 h84 k85
       have h86 := keep k85 e21 h75
       have h87 := keep k85 e22 h77
       have o89 := MO.keep o81 k85 no25
       have o90 := Own.keep o74 k85 no80
       have m91 := Mono.set m71 z23 k85
       refine AOps.nil ?_
       change AWP _ _ _ _ _ _
       refine AWP.seq ?_
       refine AWP.seq ?_
       refine AWP.region (l := [0, 1, 2, 3]) rfl ?_
       refine AOps.cons rfl rfl (AOp.move (.sl w.length (w.map eStr)) rfl rfl ?_)
       refine AOps.cons rfl rfl (AOp.indexAddrS rfl rfl rfl sl_57 (by omega) (by omega) ?_)
       refine AOps.cons rfl rfl (AOp.loadF (.str (at_ w 0)) rfl rfl ty_9 (ld1 (by omega) (by omega)) ?_)
       refine AOps.cons rfl rfl (AOp.seqD rfl rfl rfl ?_)
       refine AOps.nil ?_
       change AWP _ _ _ _ _ _
       refine AWP.condF rfl (decide_eq_false (hkK)) ?_
       refine AWP.skip ?_
       change AWP _ _ _ _ _ _
       refine AWP.seq ?_
       refine AWP.region_quiet mixed (by kernel_rfl) 14 [14] rfl (by kernel_rfl) (Mono H83) (Mono.refl _) ?_
       refine QE.op rfl rfl (.inl ⟨rfl, fun f' H' hf hM => AOp.move (.ptr id ver 0) rfl ((hf 0 rfl).trans rfl) ⟨rfl, hM⟩⟩) ?_
       refine QE.op rfl rfl (.inl ⟨rfl, fun f' H' hf hM => AOp.nilCheck (.ptr id ver 0) rfl ((hf 148 rfl).trans rfl) rfl ⟨rfl, hM⟩⟩) ?_
       refine QE.op rfl rfl (.inl ⟨rfl, fun f' H' hf hM => AOp.fieldAddr rfl ((hf 149 rfl).trans rfl) fl_63_0 ⟨rfl, hM⟩ (hid := ⟨_, (hM _ _ h86)⟩)⟩) ?_
       refine QE.op rfl rfl (.inl ⟨rfl, fun f' H' hf hM => AOp.fieldAddr rfl ((hf 150 rfl).trans rfl) fl_35_6 ⟨rfl, hM⟩ (hid := ⟨_, (hM _ _ h86)⟩)⟩) ?_
       refine QE.op rfl rfl (.inl ⟨rfl, fun f' H' hf hM => AOp.load (vC) rfl ((hf 151 rfl).trans rfl) ty_33 (hM _ _ h86) rfl ⟨rfl, hM⟩⟩) ?_
       refine QE.op rfl rfl (.inl ⟨rfl, fun f' H' hf hM => AOp.move (.ptr id ver 0) rfl ((hf 0 rfl).trans rfl) ⟨rfl, hM⟩⟩) ?_
       refine QE.op rfl rfl (.inl ⟨rfl, fun f' H' hf hM => AOp.nilCheck (.ptr id ver 0) rfl ((hf 153 rfl).trans rfl) rfl ⟨rfl, hM⟩⟩) ?_
       refine QE.op rfl rfl (.inl ⟨rfl, fun f' H' hf hM => AOp.fieldAddr rfl ((hf 154 rfl).trans rfl) fl_63_0 ⟨rfl, hM⟩ (hid := ⟨_, (hM _ _ h86)⟩)⟩) ?_
       refine QE.op rfl rfl (.inl ⟨rfl, fun f' H' hf hM => AOp.fieldAddr rfl ((hf 155 rfl).trans rfl) fl_35_6 ⟨rfl, hM⟩ (hid := ⟨_, (hM _ _ h86)⟩)⟩) ?_
       refine QE.op rfl rfl (.inl ⟨rfl, fun f' H' hf hM => AOp.load (vC) rfl ((hf 156 rfl).trans rfl) ty_33 (hM _ _ h86) rfl ⟨rfl, hM⟩⟩) ?_
       refine QE.op rfl rfl (.inl ⟨rfl, fun f' H' hf hM => AOp.len (m := s.cages.length) rfl (Eq.trans ((hf 157 rfl).trans rfl) hvC) (.inr (.inr ⟨_, _, _, _, rfl⟩)) u_33 ⟨rfl, hM⟩⟩) ?_
       refine QE.op rfl rfl (.inl ⟨rfl, fun f' H' hf hM => AOp.bin (.int .i64 ((s.cages.length : Int) - 1)) rfl ((hf 158 rfl).trans rfl) rfl (isub (by omega)) ⟨rfl, hM⟩⟩) ?_
       refine QE.op rfl rfl (.inl ⟨rfl, fun f' H' hf hM => AOp.load (.agg [vV, v68, vK]) rfl ((hf 7 rfl).trans rfl) ty_48 (hM _ _ h84) rfl ⟨rfl, hM⟩⟩) ?_
       refine QE.op rfl rfl (.inl ⟨rfl, fun f' H' hf hM => AOp.indexAddrO rfl (Eq.trans ((hf 152 rfl).trans rfl) hvC) ((hf 159 rfl).trans rfl) sl_33 (by omega) (by omega) (hM _ _ h87) ⟨rfl, hM⟩⟩) ?_
       refine QE.done fun H92 m93 => ?_
       have h94 := m93 _ _ h86
       have h95 := m93 _ _ h87
       have h96 := m93 _ _ h84
       have o97 := MO.mono o89 m93
       have o98 := Own.mono o90 m93
       have m99 := m91.trans m93
       refine AOps.cons rfl rfl (AOp.store' (cells' := s.cages.dropLast.flatMap eCage ++ [vV, v68, vK]) (.agg [vV, v68, vK]) rfl rfl ts_48 h95 (by simp only [AV.cells, List.all_cons, List.all_nil, Own.one_ (o97.at 4 rfl).1, Own.one_ o98, Own.one_ (o97.at 5 rfl).1]; rfl) rfl (Nat.ble_eq_true_of_le (by rw [List.length_append, drop_len]; simp only [List.length_cons, List.length_nil]; omega)) (wrC0 (drop_len _) rfl) ?_)
       intro H100 h101 k102
       have h103 := keep k102 nid h94
       have h105 := keep k102 (Ne.symm e22) h96
       have o106 := MO.keep o97 k102 no14
       have o107 := Own.keep o98 k102 no78
       have m108 := Mono.set m99 hBic k102
       refine AOps.nil ?_
       change AWP _ _ _ _ _ _
       refine AWP.seq ?_
       refine AWP.region (l := [0]) rfl ?_
       refine AOps.cons rfl rfl (AOp.assign (.int .i64 0) rfl rfl ?_)
       refine AOps.nil ?_
       change AWP _ _ _ _ _ _
       refine AWP.ret ?_
       exact ⟨_, _, Ghost.refl, .inr rfl, _, Res.one rfl rfl, .inl ⟨_, gT (hb1) (gT (by simp; omega) (gT (decide_eq_true (by omega)) (gT (decide_eq_true (by omega)) (gT (b50) (rfl))))), ⟨_, _, _, _, _, _, _, _, RDv.upC (c := { lastC s.cages with Faces := (lastC s.cages).Faces ++ [numsL (w.drop 1)] }) hne0 h103 hB (MO.put (L := (rdL s vL vM vT vS vC vV vF vK).set 6 (1, v68, (((lastC s.cages).Faces) ++ [numsL (w.drop 1)]).length, (((lastC s.cages).Faces) ++ [numsL (w.drop 1)]).map eF)) (e := (3, vC, s.cages.length, s.cages.dropLast.flatMap eCage ++ [vV, v68, vK])) 4 (by simp [rdL]) (MO.put (L := (rdL s vL vM vT vS vC vV vF vK).eraseIdx 4) (e := (1, v68, (((lastC s.cages).Faces) ++ [numsL (w.drop 1)]).length, (((lastC s.cages).Faces) ++ [numsL (w.drop 1)]).map eF)) 5 (by simp [rdL]) o106 o107 sp82) (.inr ⟨ic, vc, hvC, h101, hBic, (by rw [List.length_append, drop_len]; simp only [List.length_cons, List.length_nil]; omega)⟩) (SepM.of (NotIdM.put (L := (rdL s vL vM vT vS vC vV vF vK).eraseIdx 4) (e := (1, v68, (((lastC s.cages).Faces) ++ [numsL (w.drop 1)]).length, (((lastC s.cages).Faces) ++ [numsL (w.drop 1)]).map eF)) 5 no14 no78) hvC)) (NotIdM.put (L := (rdL s vL vM vT vS vC vV vF vK).set 6 (1, v68, (((lastC s.cages).Faces) ++ [numsL (w.drop 1)]).length, (((lastC s.cages).Faces) ++ [numsL (w.drop 1)]).map eF)) (e := (3, vC, s.cages.length, s.cages.dropLast.flatMap eCage ++ [vV, v68, vK])) 4 (NotIdM.put (L := (rdL s vL vM vT vS vC vV vF vK).eraseIdx 4) (e := (1, v68, (((lastC s.cages).Faces) ++ [numsL (w.drop 1)]).length, (((lastC s.cages).Faces) ++ [numsL (w.drop 1)]).map eF)) 5 ngX no76) nC)⟩, m108, rfl⟩⟩
      ·
       refine AWP.condT rfl (nb b50) ?_
       refine AWP.seq ?_
       refine AWP.region (l := [0]) rfl ?_
       refine AOps.cons rfl rfl (AOp.assign (.int .i64 11) rfl rfl ?_)
       refine AOps.nil ?_
       change AWP _ _ _ _ _ _
       refine AWP.ret ?_
       exact ⟨_, _, Ghost.refl, .inr rfl, _, Res.one rfl rfl, .inr ⟨11, gT (hb1) (gT (by simp; omega) (gT (decide_eq_true (by omega)) (gT (decide_eq_true (by omega)) (gF (b50))))), m49, rfl⟩⟩
 ·
  refine AOps.cons rfl rfl (AOp.pcall («as» := [.sl (w.drop 1).length ((w.drop 1).map eStr)]) rfl rfl (rfl) tf_88 (c_rnumbers_F hb1 (w.drop 1) (by first | omega | assumption | (simp only [List.length_drop, List.length_take]; omega) | (simp; omega) | simp)) ?_)
  intro H109 m110
  have h111 := m110 _ _ hrow
  have o112 := Own.mono oC m110
  have o113 := Own.mono oX m110
  have o114 := MO.mono ogX m110
  have m115 := m0.trans m110
  refine AOps.cons rfl rfl (AOp.move (.tup [.sl ([] : List Int).length (([] : List Int).map eI), .bool false]) rfl rfl ?_)
  refine AOps.cons rfl rfl (AOp.extract (.sl ([] : List Int).length (([] : List Int).map eI)) rfl rfl rfl ?_)
  refine AOps.cons rfl rfl (AOp.extract (.bool false) rfl rfl rfl ?_)
  refine AOps.cons rfl rfl (AOp.assign (.sl ([] : List Int).length (([] : List Int).map eI)) rfl rfl ?_)
  refine AOps.cons rfl rfl (AOp.assign (.bool false) rfl rfl ?_)
  refine AOps.nil ?_
  change AWP _ _ _ _ _ _
  refine AWP.seq ?_
  refine AWP.seq ?_
  refine AWP.region (l := [0, 1, 2, 3, 4, 5, 6, 7, 8, 9, 10, 11, 12, 13, 14, 15, 16, 17, 18, 19, 20, 21, 22, 23, 24, 25, 26, 27, 28]) rfl ?_
  refine AOps.cons rfl rfl (AOp.move (.bool false) rfl rfl ?_)
  refine AOps.cons rfl rfl (AOp.not rfl rfl ?_)
  refine AOps.cons rfl rfl (AOp.move (.bool (!false)) rfl rfl ?_)
  refine AOps.no rfl rfl rfl rfl rfl rfl rfl (ble_of rfl (by decide)) ?_
  refine AOps.no rfl rfl rfl rfl rfl rfl rfl (ble_of rfl (by decide)) ?_
  refine AOps.no rfl rfl rfl rfl rfl rfl rfl (ble_of rfl (by decide)) ?_
  refine AOps.no rfl rfl rfl rfl rfl rfl rfl (ble_of rfl (by decide)) ?_
  refine AOps.no rfl rfl rfl rfl rfl rfl rfl (ble_of rfl (by decide)) ?_
  refine AOps.un rfl rfl rfl rfl rfl rfl rfl ?_
  refine AOps.un rfl rfl rfl rfl rfl rfl rfl ?_
  refine AOps.un rfl rfl rfl rfl rfl rfl rfl ?_
  refine AOps.no rfl rfl rfl rfl rfl rfl rfl (ble_of rfl (by decide)) ?_
  refine AOps.cons rfl rfl (AOp.pickT (.bool true) rfl rfl rfl rfl ?_)
  refine AOps.cons rfl rfl (AOp.move (.bool true) rfl rfl ?_)
  refine AOps.no rfl rfl rfl rfl rfl rfl rfl (ble_of rfl (by decide)) ?_
  refine AOps.no rfl rfl rfl rfl rfl rfl rfl (ble_of rfl (by decide)) ?_
  refine AOps.no rfl rfl rfl rfl rfl rfl rfl (ble_of rfl (by decide)) ?_
  refine AOps.no rfl rfl rfl rfl rfl rfl rfl (ble_of rfl (by decide)) ?_
  refine AOps.no rfl rfl rfl rfl rfl rfl rfl (ble_of rfl (by decide)) ?_
  refine AOps.un rfl rfl rfl rfl rfl rfl rfl ?_
  refine AOps.un rfl rfl rfl rfl rfl rfl rfl ?_
  refine AOps.un rfl rfl rfl rfl rfl rfl rfl ?_
  refine AOps.un rfl rfl rfl rfl rfl rfl rfl ?_
  refine AOps.un rfl rfl rfl rfl rfl rfl rfl ?_
  refine AOps.un rfl rfl rfl rfl rfl rfl rfl ?_
  refine AOps.un rfl rfl rfl rfl rfl rfl rfl ?_
  refine AOps.un rfl rfl rfl rfl rfl rfl rfl ?_
  refine AOps.no rfl rfl rfl rfl rfl rfl rfl (ble_of rfl (by decide)) ?_
  refine AOps.cons rfl rfl (AOp.pickT (.bool true) rfl rfl rfl rfl ?_)
  refine AOps.nil ?_
  change AWP _ _ _ _ _ _
  refine AWP.condT rfl rfl ?_
  refine AWP.seq ?_
  refine AWP.region (l := [0]) rfl ?_
  refine AOps.cons rfl rfl (AOp.assign (.int .i64 10) rfl rfl ?_)
  refine AOps.nil ?_
  change AWP _ _ _ _ _ _
  refine AWP.ret ?_
  exact ⟨_, _, Ghost.refl, .inr rfl, _, Res.one rfl rfl, .inr ⟨10, gF (hb1), m115, rfl⟩⟩
theorem c_rpart_K {B H0 : Heap} {id ver : Nat} {s : Rd} (hm : Mono B H0) (hs : RD B H0 id ver s) (ok : RdOk s) (w : List ByteArray) (hw : w.length ≤ 1048576) (hne : 0 < w.length) (hk : at_ w 0 = kCrease) : ACalls Tryz.prog 47 [.ptr id ver 0, .sl w.length (w.map eStr)] H0 fun r H' => (∃ t, creaseP s (w.drop 1) = .ok t ∧ RD B H' id ver t ∧ Mono B H' ∧ r = .int .i64 0) ∨ ∃ k, creaseP s (w.drop 1) = .error k ∧ Mono B H' ∧ r = .int .i64 k := by
 obtain ⟨vL, vM, vT, vS, vC, vV, vF, vK, hrow, hB, hg, hn⟩ := hs
 obtain ⟨oC', ogC, spC⟩ := hg.at 4 rfl
 have oC : Own B H0 3 vC s.cages.length (cgC s.cages vV vF vK) := oC'
 have nC : NotId vC id := hn.at 4 rfl
 have ngC := hn.erase 4
 obtain ⟨oX', ogX, spX⟩ := ogC.at 6 rfl
 have oX : Own B H0 3 vK (lastC s.cages).Creases.length (((lastC s.cages).Creases).flatMap eCr) := oX'
 have nX : NotId vK id := ngC.at 6 rfl
 have ngX := ngC.erase 6
 have spCX : Sep vK vC := spC.at 6 rfl
 have spC2 := spC.erase 6
 have hkV : ¬ at_ w 0 = ⟨#[118]⟩ := by rw [hk]; decide
 have hkF : ¬ at_ w 0 = ⟨#[102]⟩ := by rw [hk]; decide
 refine ACalls.of_body' (n := 162) rfl rfl rfl rfl ?_
 have m0 := hm
 refine AWP.seq ?_
 refine AWP.region (l := [0]) rfl ?_
 refine AOps.cons rfl rfl (AOp.assign (.int .i64 0) rfl rfl ?_)
 refine AOps.nil ?_
 change AWP _ _ _ _ _ _
 refine AWP.seq ?_
 refine AWP.region (l := [0, 1, 2, 3, 4, 5, 6, 7]) rfl ?_
 refine AOps.cons rfl rfl (AOp.move (.sl w.length (w.map eStr)) rfl rfl ?_)
 refine AOps.cons rfl rfl (AOp.sliceSD1 (xs := w) (l := 1) (h := (w.length : Int)) rfl rfl  sl_57 (lo_of rfl) rfl (by first | omega | (simp; omega)) (by first | omega | (simp; omega)) (by first | omega | (simp; omega)) rfl ?_)
 rcases Bool.eq_false_or_eq_true (numsB (w.drop 1)) with hb1 | hb1
 ·
  refine AOps.cons rfl rfl (AOp.pcall («as» := [.sl (w.drop 1).length ((w.drop 1).map eStr)]) rfl rfl (rfl) tf_88 (c_rnumbers_T hb1 (w.drop 1) (by first | omega | assumption | (simp only [List.length_drop, List.length_take]; omega) | (simp; omega) | simp)) ?_)
  intro H2 m3
  have h4 := m3 _ _ hrow
  have o5 := Own.mono oC m3
  have o6 := Own.mono oX m3
  have o7 := MO.mono ogX m3
  have m8 := m0.trans m3
  have hl9 := numsL_len (w.drop 1)
  simp only [List.length_drop] at hl9
  refine AOps.cons rfl rfl (AOp.move (.tup [.sl (numsL (w.drop 1)).length ((numsL (w.drop 1)).map eI), .bool true]) rfl rfl ?_)
  refine AOps.cons rfl rfl (AOp.extract (.sl (numsL (w.drop 1)).length ((numsL (w.drop 1)).map eI)) rfl rfl rfl ?_)
  refine AOps.cons rfl rfl (AOp.extract (.bool true) rfl rfl rfl ?_)
  refine AOps.cons rfl rfl (AOp.assign (.sl (numsL (w.drop 1)).length ((numsL (w.drop 1)).map eI)) rfl rfl ?_)
  refine AOps.cons rfl rfl (AOp.assign (.bool true) rfl rfl ?_)
  refine AOps.nil ?_
  change AWP _ _ _ _ _ _
  refine AWP.seq ?_
  refine AWP.seq ?_
  refine AWP.region (l := [0, 1, 2, 3, 4, 5, 6, 7, 8, 9, 10, 11, 12, 13, 14, 15, 16, 17, 18, 19, 20, 21, 22, 23, 24, 25, 26, 27, 28]) rfl ?_
  refine AOps.cons rfl rfl (AOp.move (.bool true) rfl rfl ?_)
  refine AOps.cons rfl rfl (AOp.not rfl rfl ?_)
  refine AOps.cons rfl rfl (AOp.move (.bool (!true)) rfl rfl ?_)
  refine AOps.yes rfl rfl rfl rfl rfl rfl rfl rfl (AOp.move (.sl w.length (w.map eStr)) rfl rfl ?_)
  refine AOps.yes rfl rfl rfl rfl rfl rfl rfl rfl (AOp.indexAddrS rfl rfl rfl sl_57 (by omega) (by omega) ?_)
  refine AOps.yes rfl rfl rfl rfl rfl rfl rfl rfl (AOp.loadF (.str (at_ w 0)) rfl rfl ty_9 (ld1 (by omega) (by omega)) ?_)
  refine AOps.yes rfl rfl rfl rfl rfl rfl rfl rfl (AOp.sneD rfl rfl rfl ?_)
  refine AOps.yes rfl rfl rfl rfl rfl rfl rfl rfl (AOp.move (.bool (!decide ((at_ w 0) = ⟨#[102]⟩))) rfl rfl ?_)
  refine AOps.yes rfl rfl rfl rfl rfl rfl rfl (nb (decide_eq_false (hkF))) (AOp.move (.sl (numsL (w.drop 1)).length ((numsL (w.drop 1)).map eI)) rfl rfl ?_)
  refine AOps.yes rfl rfl rfl rfl rfl rfl rfl (nb (decide_eq_false (hkF))) (AOp.len (m := (numsL (w.drop 1)).length) rfl rfl (.inr (.inl ⟨_, rfl⟩)) u_68 ?_)
  refine AOps.yes rfl rfl rfl rfl rfl rfl rfl (nb (decide_eq_false (hkF))) (AOp.bin (.bool (!decide ((((numsL (w.drop 1)).length) : Int) = 3))) rfl rfl rfl ine ?_)
  refine AOps.yes rfl rfl rfl rfl rfl rfl rfl rfl (AOp.pickT (.bool (!decide ((((numsL (w.drop 1)).length) : Int) = 3))) rfl rfl (nb (decide_eq_false (hkF))) rfl ?_)
  refine AOps.cons rfl rfl (AOp.pickF (.bool (!decide ((((numsL (w.drop 1)).length) : Int) = 3))) rfl rfl rfl rfl ?_)
  refine AOps.cons rfl rfl (AOp.move (.bool (!decide ((((numsL (w.drop 1)).length) : Int) = 3))) rfl rfl ?_)
  by_cases b10 : (((numsL (w.drop 1)).length) : Int) = 3
  ·
   refine AOps.yes rfl rfl rfl rfl rfl rfl rfl (nb (decide_eq_true b10)) (AOp.move (.sl w.length (w.map eStr)) rfl rfl ?_)
   refine AOps.yes rfl rfl rfl rfl rfl rfl rfl (nb (decide_eq_true b10)) (AOp.indexAddrS rfl rfl rfl sl_57 (by omega) (by omega) ?_)
   refine AOps.yes rfl rfl rfl rfl rfl rfl rfl (nb (decide_eq_true b10)) (AOp.loadF (.str (at_ w 0)) rfl rfl ty_9 (ld1 (by omega) (by omega)) ?_)
   refine AOps.yes rfl rfl rfl rfl rfl rfl rfl (nb (decide_eq_true b10)) (AOp.seqD rfl rfl rfl ?_)
   refine AOps.yes rfl rfl rfl rfl rfl rfl rfl (nb (decide_eq_true b10)) (AOp.move (.bool (decide ((at_ w 0) = ⟨#[102]⟩))) rfl rfl ?_)
   refine AOps.no rfl rfl rfl rfl rfl rfl rfl (ble_of (decide_eq_false (hkF)) (by decide)) ?_
   refine AOps.no rfl rfl rfl rfl rfl rfl rfl (ble_of (decide_eq_false (hkF)) (by decide)) ?_
   refine AOps.no rfl rfl rfl rfl rfl rfl rfl (ble_of (decide_eq_false (hkF)) (by decide)) ?_
   refine AOps.no rfl rfl rfl rfl rfl rfl rfl (ble_of (decide_eq_false (hkF)) (by decide)) ?_
   refine AOps.un rfl rfl rfl rfl rfl rfl rfl ?_
   refine AOps.un rfl rfl rfl rfl rfl rfl rfl ?_
   refine AOps.un rfl rfl rfl rfl rfl rfl rfl ?_
   refine AOps.no rfl rfl rfl rfl rfl rfl rfl (ble_of (decide_eq_false (hkF)) (by decide)) ?_
   refine AOps.yes rfl rfl rfl rfl rfl rfl rfl (nb (decide_eq_true b10)) (AOp.pickF (.bool false) rfl rfl (decide_eq_false (hkF)) rfl ?_)
   refine AOps.cons rfl rfl (AOp.pickF (.bool false) rfl rfl (nb (decide_eq_true b10)) rfl ?_)
   refine AOps.nil ?_
   change AWP _ _ _ _ _ _
   refine AWP.condF rfl rfl ?_
   refine AWP.skip ?_
   change AWP _ _ _ _ _ _
   refine AWP.seq ?_
   refine AWP.seq ?_
   refine AWP.region (l := [0, 1, 2, 3, 4, 5, 6]) rfl ?_
   refine AOps.cons rfl rfl (AOp.move (.ptr id ver 0) rfl rfl ?_)
   refine AOps.cons rfl rfl (AOp.nilCheck (.ptr id ver 0) rfl rfl rfl ?_)
   refine AOps.cons rfl rfl (AOp.fieldAddr rfl rfl fl_63_0 ?_ (hid := ⟨_, h4⟩))
   refine AOps.cons rfl rfl (AOp.fieldAddr rfl rfl fl_35_6 ?_ (hid := ⟨_, h4⟩))
   refine AOps.cons rfl rfl (AOp.load (vC) rfl rfl ty_33 h4 rfl ?_)
   refine AOps.cons rfl rfl (AOp.len_own (m := s.cages.length) rfl rfl o5 u_33 ?_)
   refine AOps.cons rfl rfl (AOp.bin (.bool (decide ((s.cages.length : Int) = 0))) rfl rfl rfl ieq ?_)
   refine AOps.nil ?_
   change AWP _ _ _ _ _ _
   by_cases b11 : (s.cages.length : Int) = 0
   ·
    refine AWP.condT rfl (decide_eq_true b11) ?_
    refine AWP.seq ?_
    refine AWP.region (l := [0]) rfl ?_
    refine AOps.cons rfl rfl (AOp.assign (.int .i64 15) rfl rfl ?_)
    refine AOps.nil ?_
    change AWP _ _ _ _ _ _
    refine AWP.ret ?_
    exact ⟨_, _, Ghost.refl, .inr rfl, _, Res.one rfl rfl, .inr ⟨15, gT (cnt_T (numsL_len _) hb1 b10) (gF (decide_eq_false (by omega))), m8, rfl⟩⟩
   ·
    refine AWP.condF rfl (decide_eq_false b11) ?_
    refine AWP.skip ?_
    change AWP _ _ _ _ _ _
    refine AWP.seq ?_
    have hne0 : s.cages ≠ [] := List.length_pos_iff.1 (by omega)
    have hcl := lastC_ok ok hne0
    have hcc := ok.c; have hck := ok.k
    have oC2 := o5; rw [cgC_ne hne0] at oC2
    obtain ⟨ic, vc, hvC, hic, hBic, hlic⟩ := Own.pos oC2 (by omega)
    have nid : id ≠ ic := nC _ _ _ _ _ hvC
    have no12 : NotId vK ic := ((Sep.symm spCX)).notId hvC
    have no13 := SepM.nid spC2 hvC
    refine AWP.region_quietA mixed (by kernel_rfl) 14 15 [15] rfl (by kernel_rfl) (B := .row 0 ([.snil, .snil, .snil])) (va := fun i => .ptr i 0 0) (by decide) fun i14 n15 _ hs16 => ?_
    refine QEA.op rfl rfl rfl (.inl ⟨rfl, fun H1 f' H' hf hN hM => AOp.move (.ptr id ver 0) rfl ((hf 0 rfl).trans rfl) ⟨rfl, hN⟩⟩) ?_
    refine QEA.op rfl rfl rfl (.inl ⟨rfl, fun H1 f' H' hf hN hM => AOp.nilCheck (.ptr id ver 0) rfl ((hf 51 rfl).trans rfl) rfl ⟨rfl, hN⟩⟩) ?_
    refine QEA.op rfl rfl rfl (.inl ⟨rfl, fun H1 f' H' hf hN hM => AOp.fieldAddr rfl ((hf 52 rfl).trans rfl) fl_63_0 ⟨rfl, hN⟩ (hid := ⟨_, (hM _ _ h4)⟩)⟩) ?_
    refine QEA.op rfl rfl rfl (.inl ⟨rfl, fun H1 f' H' hf hN hM => AOp.fieldAddr rfl ((hf 53 rfl).trans rfl) fl_35_6 ⟨rfl, hN⟩ (hid := ⟨_, (hM _ _ h4)⟩)⟩) ?_
    refine QEA.op rfl rfl rfl (.inl ⟨rfl, fun H1 f' H' hf hN hM => AOp.load (vC) rfl ((hf 54 rfl).trans rfl) ty_33 (hM _ _ h4) rfl ⟨rfl, hN⟩⟩) ?_
    refine QEA.op rfl rfl rfl (.inl ⟨rfl, fun H1 f' H' hf hN hM => AOp.move (.ptr id ver 0) rfl ((hf 0 rfl).trans rfl) ⟨rfl, hN⟩⟩) ?_
    refine QEA.op rfl rfl rfl (.inl ⟨rfl, fun H1 f' H' hf hN hM => AOp.nilCheck (.ptr id ver 0) rfl ((hf 56 rfl).trans rfl) rfl ⟨rfl, hN⟩⟩) ?_
    refine QEA.op rfl rfl rfl (.inl ⟨rfl, fun H1 f' H' hf hN hM => AOp.fieldAddr rfl ((hf 57 rfl).trans rfl) fl_63_0 ⟨rfl, hN⟩ (hid := ⟨_, (hM _ _ h4)⟩)⟩) ?_
    refine QEA.op rfl rfl rfl (.inl ⟨rfl, fun H1 f' H' hf hN hM => AOp.fieldAddr rfl ((hf 58 rfl).trans rfl) fl_35_6 ⟨rfl, hN⟩ (hid := ⟨_, (hM _ _ h4)⟩)⟩) ?_
    refine QEA.op rfl rfl rfl (.inl ⟨rfl, fun H1 f' H' hf hN hM => AOp.load (vC) rfl ((hf 59 rfl).trans rfl) ty_33 (hM _ _ h4) rfl ⟨rfl, hN⟩⟩) ?_
    refine QEA.op rfl rfl rfl (.inl ⟨rfl, fun H1 f' H' hf hN hM => AOp.len (m := s.cages.length) rfl (Eq.trans ((hf 60 rfl).trans rfl) hvC) (.inr (.inr ⟨_, _, _, _, rfl⟩)) u_33 ⟨rfl, hN⟩⟩) ?_
    refine QEA.op rfl rfl rfl (.inl ⟨rfl, fun H1 f' H' hf hN hM => AOp.bin (.int .i64 ((s.cages.length : Int) - 1)) rfl ((hf 61 rfl).trans rfl) rfl (isub (by omega)) ⟨rfl, hN⟩⟩) ?_
    refine QEA.op rfl rfl rfl (.inl ⟨rfl, fun H1 f' H' hf hN hM => AOp.indexAddrO rfl (Eq.trans ((hf 55 rfl).trans rfl) hvC) ((hf 62 rfl).trans rfl) sl_33 (by omega) (by omega) (hM _ _ hic) ⟨rfl, hN⟩⟩) ?_
    refine QEA.op rfl rfl rfl (.inl ⟨rfl, fun H1 f' H' hf hN hM => AOp.load (.agg [vV, vF, vK]) rfl ((hf 63 rfl).trans rfl) ty_48 (hM _ _ hic) (ldCA (drop_len _)) ⟨rfl, hN⟩⟩) ?_
    refine QEA.alloc rfl rfl rfl rfl rfl tz_48 ?_
    refine QEA.done fun H17 m19 => ?_
    have m18 := hs16 _ m19
    have e20 := ne_new h4 n15
    have e21 := ne_new hic n15
    have z22 := Mono.free m8 n15
    have no23 := Own.notnew o6 n15
    have no24 := MO.notnew o7 n15
    have h25 := m18 _ _ h4
    have h26 := m18 _ _ hic
    have o27 := Own.mono o6 m18
    have o28 := MO.mono o7 m18
    have m29 := m8.trans m18
    have h30 : H17 i14 = some (.row 0 ([.snil, .snil, .snil])) := m19 i14 _ (updH_same _ _ _)
    refine AOps.cons rfl rfl (AOp.store' (cells' := [vV, vF, vK]) (.agg [vV, vF, vK]) rfl rfl ts_48 h30 (by simp only [AV.cells, List.all_cons, List.all_nil, Own.one_ (o28.at 4 rfl).1, Own.one_ (o28.at 5 rfl).1, Own.one_ o27]; rfl) rfl rfl rfl ?_)
    intro H31 h32 k33
    have h34 := keep k33 e20 h25
    have h35 := keep k33 e21 h26
    have o37 := Own.keep o27 k33 no23
    have o38 := MO.keep o28 k33 no24
    have m39 := Mono.set m29 z22 k33
    refine AOps.nil ?_
    change AWP _ _ _ _ _ _
    refine AWP.seq ?_
    refine AWP.region (l := [0, 1, 2, 3, 4]) rfl ?_
    refine AOps.cons rfl rfl (AOp.fieldAddr rfl rfl fl_48_0 ?_ (hid := ⟨_, h32⟩))
    refine AOps.cons rfl rfl (AOp.load (vV) rfl rfl ty_44 h32 rfl ?_)
    refine AOps.cons rfl rfl (AOp.len_own (m := ((lastC s.cages).Verts.length)) rfl rfl (o38.at 4 rfl).1 u_44 ?_)
    refine AOps.cons rfl rfl (AOp.bin (.int .i64 ((((lastC s.cages).Verts.length) : Int) - 1)) rfl rfl rfl (isub (by omega)) ?_)
    refine AOps.cons rfl rfl (AOp.assign (.int .i64 ((((lastC s.cages).Verts.length) : Int) - 1)) rfl rfl ?_)
    refine AOps.nil ?_
    change AWP _ _ _ _ _ _
    refine AWP.seq ?_
    refine AWP.seq ?_
    refine AWP.region (l := [0, 1, 2, 3]) rfl ?_
    refine AOps.cons rfl rfl (AOp.move (.sl w.length (w.map eStr)) rfl rfl ?_)
    refine AOps.cons rfl rfl (AOp.indexAddrS rfl rfl rfl sl_57 (by omega) (by omega) ?_)
    refine AOps.cons rfl rfl (AOp.loadF (.str (at_ w 0)) rfl rfl ty_9 (ld1 (by omega) (by omega)) ?_)
    refine AOps.cons rfl rfl (AOp.seqD rfl rfl rfl ?_)
    refine AOps.nil ?_
    change AWP _ _ _ _ _ _
    refine AWP.condF rfl (decide_eq_false (hkV)) ?_
    refine AWP.skip ?_
    change AWP _ _ _ _ _ _
    refine AWP.seq ?_
    refine AWP.seq ?_
    refine AWP.region (l := [0, 1, 2, 3]) rfl ?_
    refine AOps.cons rfl rfl (AOp.move (.sl w.length (w.map eStr)) rfl rfl ?_)
    refine AOps.cons rfl rfl (AOp.indexAddrS rfl rfl rfl sl_57 (by omega) (by omega) ?_)
    refine AOps.cons rfl rfl (AOp.loadF (.str (at_ w 0)) rfl rfl ty_9 (ld1 (by omega) (by omega)) ?_)
    refine AOps.cons rfl rfl (AOp.seqD rfl rfl rfl ?_)
    refine AOps.nil ?_
    change AWP _ _ _ _ _ _
    refine AWP.condF rfl (decide_eq_false (hkF)) ?_
    refine AWP.skip ?_
    change AWP _ _ _ _ _ _
    refine AWP.seq ?_
    refine AWP.seq ?_
    refine AWP.region (l := [0, 1, 2, 3]) rfl ?_
    refine AOps.cons rfl rfl (AOp.move (.sl w.length (w.map eStr)) rfl rfl ?_)
    refine AOps.cons rfl rfl (AOp.indexAddrS rfl rfl rfl sl_57 (by omega) (by omega) ?_)
    refine AOps.cons rfl rfl (AOp.loadF (.str (at_ w 0)) rfl rfl ty_9 (ld1 (by omega) (by omega)) ?_)
    refine AOps.cons rfl rfl (AOp.seqD rfl rfl rfl ?_)
    refine AOps.nil ?_
    change AWP _ _ _ _ _ _
    refine AWP.condT rfl (decide_eq_true (hk)) ?_
    refine AWP.seq ?_
    refine AWP.seq ?_
    refine AWP.region (l := [0, 1, 2, 3]) rfl ?_
    refine AOps.cons rfl rfl (AOp.fieldAddr rfl rfl fl_48_2 ?_ (hid := ⟨_, h32⟩))
    refine AOps.cons rfl rfl (AOp.load (vK) rfl rfl ty_46 h32 rfl ?_)
    refine AOps.cons rfl rfl (AOp.len_own (m := ((lastC s.cages).Creases.length)) rfl rfl o37 u_46 ?_)
    refine AOps.cons rfl rfl (AOp.bin (.bool (decide ((((lastC s.cages).Creases.length) : Int) ≥ 128))) rfl rfl rfl rfl ?_)
    refine AOps.nil ?_
    change AWP _ _ _ _ _ _
    by_cases b40 : (((lastC s.cages).Creases.length) : Int) ≥ 128
    ·
     refine AWP.condT rfl (decide_eq_true b40) ?_
     refine AWP.seq ?_
     refine AWP.region (l := [0]) rfl ?_
     refine AOps.cons rfl rfl (AOp.assign (.int .i64 13) rfl rfl ?_)
     refine AOps.nil ?_
     change AWP _ _ _ _ _ _
     refine AWP.ret ?_
     exact ⟨_, _, Ghost.refl, .inr rfl, _, Res.one rfl rfl, .inr ⟨13, gT (cnt_T (numsL_len _) hb1 b10) (gT (decide_eq_true (by omega)) (gF (decide_eq_false (by omega)))), m39, rfl⟩⟩
    ·
     refine AWP.condF rfl (decide_eq_false b40) ?_
     refine AWP.skip ?_
     change AWP _ _ _ _ _ _
     refine AWP.seq ?_
     refine AWP.seq ?_
     refine AWP.region_quiet mixed (by kernel_rfl) 18 [] rfl (by kernel_rfl) (Mono H31) (Mono.refl _) ?_
     refine QE.op rfl rfl (.inl ⟨rfl, fun f' H' hf hM => AOp.move (.sl (numsL (w.drop 1)).length ((numsL (w.drop 1)).map eI)) rfl ((hf 5 rfl).trans rfl) ⟨rfl, hM⟩⟩) ?_
     refine QE.op rfl rfl (.inl ⟨rfl, fun f' H' hf hM => AOp.move (.int .i64 ((((lastC s.cages).Verts.length) : Int) - 1)) rfl ((hf 8 rfl).trans rfl) ⟨rfl, hM⟩⟩) ?_
     refine QE.op rfl rfl (.inl ⟨rfl, fun f' H' hf hM => AOp.pcall («as» := [.sl (numsL (w.drop 1)).length ((numsL (w.drop 1)).map eI), .int .i64 0, .int .i64 2, .int .i64 0, .int .i64 ((((lastC s.cages).Verts.length) : Int) - 1)]) rfl rfl (lapp (lcons ((hf 115 rfl).trans rfl) (lcons rfl (lcons rfl (lcons rfl (lcons ((hf 116 rfl).trans rfl) rfl))))) rfl) tf_89 (c_rwithin (numsL (w.drop 1)) (0 : Int) (2 : Int) 0 ((((lastC s.cages).Verts.length) : Int) - 1) (by omega) (by omega) (by omega) (by omega)) fun H2 m2 => ⟨rfl, hM.trans m2⟩⟩) ?_
     refine QE.op rfl rfl (.inl ⟨rfl, fun f' H' hf hM => AOp.not rfl ((hf 117 rfl).trans rfl) ⟨rfl, hM⟩⟩) ?_
     refine QE.op rfl rfl (.inl ⟨rfl, fun f' H' hf hM => AOp.move (.bool (!(inB 0 ((((lastC s.cages).Verts.length) : Int) - 1) ((numsL (w.drop 1)).take 2)))) rfl ((hf 118 rfl).trans rfl) ⟨rfl, hM⟩⟩) ?_
     rcases Bool.eq_false_or_eq_true (inB 0 ((((lastC s.cages).Verts.length) : Int) - 1) ((numsL (w.drop 1)).take 2)) with b41 | b41
     ·
      refine QE.op rfl rfl (QOp.yes rfl rfl rfl rfl (nb b41) fun f' H' hf hM => AOp.move (.sl (numsL (w.drop 1)).length ((numsL (w.drop 1)).map eI)) rfl ((hf 5 rfl).trans rfl) ⟨rfl, hM⟩) ?_
      refine QE.op rfl rfl (QOp.yes rfl rfl rfl rfl (nb b41) fun f' H' hf hM => AOp.indexAddrS rfl ((hf 120 rfl).trans rfl) rfl sl_68 (by omega) (by omega) ⟨rfl, hM⟩) ?_
      refine QE.op rfl rfl (QOp.yes rfl rfl rfl rfl (nb b41) fun f' H' hf hM => AOp.loadF (.int .i64 (at_ (numsL (w.drop 1)) 0)) rfl ((hf 121 rfl).trans rfl) ty_3 (ld1 (by omega) (by omega)) ⟨rfl, hM⟩) ?_
      refine QE.op rfl rfl (QOp.yes rfl rfl rfl rfl (nb b41) fun f' H' hf hM => AOp.move (.sl (numsL (w.drop 1)).length ((numsL (w.drop 1)).map eI)) rfl ((hf 5 rfl).trans rfl) ⟨rfl, hM⟩) ?_
      refine QE.op rfl rfl (QOp.yes rfl rfl rfl rfl (nb b41) fun f' H' hf hM => AOp.indexAddrS rfl ((hf 123 rfl).trans rfl) rfl sl_68 (by omega) (by omega) ⟨rfl, hM⟩) ?_
      refine QE.op rfl rfl (QOp.yes rfl rfl rfl rfl (nb b41) fun f' H' hf hM => AOp.loadF (.int .i64 (at_ (numsL (w.drop 1)) 1)) rfl ((hf 124 rfl).trans rfl) ty_3 (ld1 (by omega) (by omega)) ⟨rfl, hM⟩) ?_
      refine QE.op rfl rfl (QOp.yes rfl rfl rfl rfl (nb b41) fun f' H' hf hM => AOp.bin (.bool (decide (at_ (numsL (w.drop 1)) 0 = at_ (numsL (w.drop 1)) 1))) rfl ((hf 122 rfl).trans rfl) ((hf 125 rfl).trans rfl) ieq ⟨rfl, hM⟩) ?_
      refine QE.op rfl rfl (.inl ⟨rfl, fun f' H' hf hM => AOp.pickF (.bool (decide (at_ (numsL (w.drop 1)) 0 = at_ (numsL (w.drop 1)) 1))) rfl ((hf 119 rfl).trans rfl) (nb b41) ((hf 126 rfl).trans rfl) ⟨rfl, hM⟩⟩) ?_
      refine QE.op rfl rfl (.inl ⟨rfl, fun f' H' hf hM => AOp.move (.bool (decide (at_ (numsL (w.drop 1)) 0 = at_ (numsL (w.drop 1)) 1))) rfl ((hf 127 rfl).trans rfl) ⟨rfl, hM⟩⟩) ?_
      by_cases b42 : at_ (numsL (w.drop 1)) 0 = at_ (numsL (w.drop 1)) 1
      ·
       refine QE.op rfl rfl (QOp.no rfl rfl rfl rfl (ble_of (decide_eq_true b42) (by decide)) rfl) ?_
       refine QE.op rfl rfl (QOp.no rfl rfl rfl rfl (ble_of (decide_eq_true b42) (by decide)) rfl) ?_
       refine QE.op rfl rfl (QOp.no rfl rfl rfl rfl (ble_of (decide_eq_true b42) (by decide)) rfl) ?_
       refine QE.op rfl rfl (.inl ⟨rfl, fun f' H' hf hM => AOp.pickT (.bool true) rfl ((hf 128 rfl).trans rfl) (decide_eq_true b42) rfl ⟨rfl, hM⟩⟩) ?_
       refine QE.done fun H43 m44 => ?_
       have h45 := m44 _ _ h34
       have h46 := m44 _ _ h35
       have h47 := m44 _ _ h32
       have o48 := Own.mono o37 m44
       have o49 := MO.mono o38 m44
       have m50 := m39.trans m44
       refine AOps.nil ?_
       change AWP _ _ _ _ _ _
       refine AWP.condT rfl rfl ?_
       refine AWP.seq ?_
       refine AWP.region (l := [0]) rfl ?_
       refine AOps.cons rfl rfl (AOp.assign (.int .i64 11) rfl rfl ?_)
       refine AOps.nil ?_
       change AWP _ _ _ _ _ _
       refine AWP.ret ?_
       exact ⟨_, _, Ghost.refl, .inr rfl, _, Res.one rfl rfl, .inr ⟨11, gT (cnt_T (numsL_len _) hb1 b10) (gT (decide_eq_true (by omega)) (gT (decide_eq_true (by omega)) (gT (b41) (gF (not_F (decide_eq_true b42)))))), m50, rfl⟩⟩
      ·
       refine QE.op rfl rfl (QOp.yes rfl rfl rfl rfl (decide_eq_false b42) fun f' H' hf hM => AOp.move (.sl (numsL (w.drop 1)).length ((numsL (w.drop 1)).map eI)) rfl ((hf 5 rfl).trans rfl) ⟨rfl, hM⟩) ?_
       refine QE.op rfl rfl (QOp.yes rfl rfl rfl rfl (decide_eq_false b42) fun f' H' hf hM => AOp.pcall («as» := [.sl (numsL (w.drop 1)).length ((numsL (w.drop 1)).map eI), .int .i64 2, .int .i64 3, .int .i64 1, .int .i64 255]) rfl rfl (lapp (lcons ((hf 129 rfl).trans rfl) (lcons rfl (lcons rfl (lcons rfl (lcons rfl rfl))))) rfl) tf_89 (c_rwithin1 (numsL (w.drop 1)) 2 3 1 255 (by omega) (by omega) (by omega) (by omega)) fun H2 m2 => ⟨rfl, hM.trans m2⟩) ?_
       refine QE.op rfl rfl (QOp.yes rfl rfl rfl rfl (decide_eq_false b42) fun f' H' hf hM => AOp.not rfl ((hf 130 rfl).trans rfl) ⟨rfl, hM⟩) ?_
       refine QE.op rfl rfl (.inl ⟨rfl, fun f' H' hf hM => AOp.pickF (.bool (!(inB 1 255 [at_ (numsL (w.drop 1)) 2]))) rfl ((hf 128 rfl).trans rfl) (decide_eq_false b42) ((hf 131 rfl).trans rfl) ⟨rfl, hM⟩⟩) ?_
       refine QE.done fun H51 m52 => ?_
       have h53 := m52 _ _ h34
       have h54 := m52 _ _ h35
       have h55 := m52 _ _ h32
       have o56 := Own.mono o37 m52
       have o57 := MO.mono o38 m52
       have m58 := m39.trans m52
       refine AOps.nil ?_
       change AWP _ _ _ _ _ _
       rcases Bool.eq_false_or_eq_true (inB 1 255 [at_ (numsL (w.drop 1)) 2]) with b59 | b59
       ·
        refine AWP.condF rfl (nb b59) ?_
        refine AWP.skip ?_
        change AWP _ _ _ _ _ _
        refine AWP.region_str mixed (by kernel_rfl) [(0, none), (1, none), (2, none), (3, none), (4, none), (5, none), (6, none), (7, none), (8, none), (9, none), (10, none), (11, none), (12, some [0, 1])] [13, 14, 15] (by kernel_rfl) ?_
        refine STR.op rfl rfl (.inl ⟨rfl, fun H1 f' H' hf hN hM => AOp.fieldAddr rfl ((hf 7 rfl).trans rfl) fl_48_2 ⟨rfl, hN⟩ (hid := ⟨_, (hM _ _ h55)⟩)⟩) ?_
        refine STR.op rfl rfl (.inl ⟨rfl, fun H1 f' H' hf hN hM => AOp.load (vK) rfl ((hf 133 rfl).trans rfl) ty_46 (hM _ _ h55) rfl ⟨rfl, hN⟩⟩) ?_
        refine STR.op rfl rfl (.inl ⟨rfl, fun H1 f' H' hf hN hM => AOp.move (.sl (numsL (w.drop 1)).length ((numsL (w.drop 1)).map eI)) rfl ((hf 5 rfl).trans rfl) ⟨rfl, hN⟩⟩) ?_
        refine STR.op rfl rfl (.inl ⟨rfl, fun H1 f' H' hf hN hM => AOp.indexAddrS rfl ((hf 135 rfl).trans rfl) rfl sl_68 (by omega) (by omega) ⟨rfl, hN⟩⟩) ?_
        refine STR.op rfl rfl (.inl ⟨rfl, fun H1 f' H' hf hN hM => AOp.loadF (.int .i64 (at_ (numsL (w.drop 1)) 0)) rfl ((hf 136 rfl).trans rfl) ty_3 (ld1 (by omega) (by omega)) ⟨rfl, hN⟩⟩) ?_
        refine STR.op rfl rfl (.inl ⟨rfl, fun H1 f' H' hf hN hM => AOp.move (.sl (numsL (w.drop 1)).length ((numsL (w.drop 1)).map eI)) rfl ((hf 5 rfl).trans rfl) ⟨rfl, hN⟩⟩) ?_
        refine STR.op rfl rfl (.inl ⟨rfl, fun H1 f' H' hf hN hM => AOp.indexAddrS rfl ((hf 138 rfl).trans rfl) rfl sl_68 (by omega) (by omega) ⟨rfl, hN⟩⟩) ?_
        refine STR.op rfl rfl (.inl ⟨rfl, fun H1 f' H' hf hN hM => AOp.loadF (.int .i64 (at_ (numsL (w.drop 1)) 1)) rfl ((hf 139 rfl).trans rfl) ty_3 (ld1 (by omega) (by omega)) ⟨rfl, hN⟩⟩) ?_
        refine STR.op rfl rfl (.inl ⟨rfl, fun H1 f' H' hf hN hM => AOp.move (.sl (numsL (w.drop 1)).length ((numsL (w.drop 1)).map eI)) rfl ((hf 5 rfl).trans rfl) ⟨rfl, hN⟩⟩) ?_
        refine STR.op rfl rfl (.inl ⟨rfl, fun H1 f' H' hf hN hM => AOp.indexAddrS rfl ((hf 141 rfl).trans rfl) rfl sl_68 (by omega) (by omega) ⟨rfl, hN⟩⟩) ?_
        refine STR.op rfl rfl (.inl ⟨rfl, fun H1 f' H' hf hN hM => AOp.loadF (.int .i64 (at_ (numsL (w.drop 1)) 2)) rfl ((hf 142 rfl).trans rfl) ty_3 (ld1 (by omega) (by omega)) ⟨rfl, hN⟩⟩) ?_
        refine STR.op rfl rfl (.inl ⟨rfl, fun H1 f' H' hf hN hM => AOp.build (cells := [.int .i64 (at_ (numsL (w.drop 1)) 0), .int .i64 (at_ (numsL (w.drop 1)) 1), .int .i64 (at_ (numsL (w.drop 1)) 2)]) rfl tz_91 pl_91 (lconsP ((hf 137 rfl).trans rfl) (lconsP ((hf 140 rfl).trans rfl) (lconsP ((hf 143 rfl).trans rfl) rfl))) rfl ⟨rfl, hN⟩⟩) ?_
        refine STR.eff rfl rfl rfl fun f60 H61 hf62 m63 => ?_
        have h64 := m63 _ _ h53
        have h65 := m63 _ _ h54
        have h66 := m63 _ _ h55
        have o67 := Own.mono o56 m63
        have o68 := MO.mono o57 m63
        have m69 := m58.trans m63
        refine AOp.buildSlice (cells := [.int .i64 (at_ (numsL (w.drop 1)) 0), .int .i64 (at_ (numsL (w.drop 1)) 1), .int .i64 (at_ (numsL (w.drop 1)) 2)]) rfl u_46 ts_91 tz_91 rfl (lconsP ((hf62 144 rfl).trans rfl) rfl) rfl ?_
        intro i70 H71 n72 h73 k74
        have e75 := ne_new h64 n72
        have e76 := ne_new h65 n72
        have e77 := ne_new h66 n72
        have z78 := Mono.free m69 n72
        have h79 := keep k74 (ne_new h64 n72) h64
        have h80 := keep k74 (ne_new h65 n72) h65
        have h81 := keep k74 (ne_new h66 n72) h66
        have o82 := Own.keep o67 k74 (Own.notnew o67 n72)
        have no83 := Own.notnew o67 n72
        have o84 := MO.keep o68 k74 (MO.notnew o68 n72)
        have no85 := MO.notnew o68 n72
        have m86 := Mono.new m69 n72 k74
        refine ⟨_, rfl, .inl (Mono.new (Mono.refl _) n72 k74), ?_⟩
        refine STR.done fun H87 m88 => ?_
        have h89 := m88 _ _ h79
        have h90 := m88 _ _ h80
        have h91 := m88 _ _ h81
        have h92 := m88 _ _ h73
        have o93 := Own.mono o82 m88
        have o94 := MO.mono o84 m88
        have m95 := m86.trans m88
        refine AOps.cons rfl rfl (AOp.append_own (es := 3) (m := 1) (len := ((lastC s.cages).Creases.length)) (old := ((lastC s.cages).Creases).flatMap eCr) (cells := [.int .i64 (at_ (numsL (w.drop 1)) 0), .int .i64 (at_ (numsL (w.drop 1)) 1), .int .i64 (at_ (numsL (w.drop 1)) 2)]) rfl u_46 ts_91 tzn_91 tb_91 (by decide) ni_46 rfl o93 m95 rfl (.slm h92 rfl) (one_of rfl) (by decide) (by first | omega | (simp; omega)) ?_)
        intro v96 H97 o98 m99 k100 j101
        have o102 := Own.snocM (xs := ((lastC s.cages).Creases : List CrT)) (y := (CrT.mk (at_ (numsL (w.drop 1)) 0) (at_ (numsL (w.drop 1)) 1) (at_ (numsL (w.drop 1)) 2))) (e := eCr) (by simp) o98
        have h103 := (k100 _ nX (by rw [h89]; simp)).trans h89
        have no104 := j101 _ nX (by rw [h89]; simp)
        have h105 := (k100 _ no12 (by rw [h90]; simp)).trans h90
        have no106 := j101 _ no12 (by rw [h90]; simp)
        have h107 := (k100 _ no23 (by rw [h91]; simp)).trans h91
        have no108 := j101 _ no23 (by rw [h91]; simp)
        have sp110 := MO.sep o94 spX j101
        have o109 := MO.stay o94 spX k100
        refine AOps.cons rfl rfl (AOp.fieldAddr rfl rfl fl_48_2 ?_ (hid := ⟨_, h107⟩))
        refine AOps.cons rfl rfl (AOp.storeO (cells' := [vV, vF, v96]) rfl rfl o102 ts_46 h107 rfl rfl ?_)
        intro H111 h112 k113
        have h114 := keep k113 e20 h103
        have h115 := keep k113 e21 h105
        have o117 := MO.keep o109 k113 no24
        have o118 := Own.keep o102 k113 no108
        have m119 := Mono.set m99 z22 k113
        refine AOps.nil ?_
        change AWP _ _ _ _ _ _
        refine AWP.seq ?_
        refine AWP.region_quiet mixed (by kernel_rfl) 14 [14] rfl (by kernel_rfl) (Mono H111) (Mono.refl _) ?_
        refine QE.op rfl rfl (.inl ⟨rfl, fun f' H' hf hM => AOp.move (.ptr id ver 0) rfl ((hf 0 rfl).trans rfl) ⟨rfl, hM⟩⟩) ?_
        refine QE.op rfl rfl (.inl ⟨rfl, fun f' H' hf hM => AOp.nilCheck (.ptr id ver 0) rfl ((hf 148 rfl).trans rfl) rfl ⟨rfl, hM⟩⟩) ?_
        refine QE.op rfl rfl (.inl ⟨rfl, fun f' H' hf hM => AOp.fieldAddr rfl ((hf 149 rfl).trans rfl) fl_63_0 ⟨rfl, hM⟩ (hid := ⟨_, (hM _ _ h114)⟩)⟩) ?_
        refine QE.op rfl rfl (.inl ⟨rfl, fun f' H' hf hM => AOp.fieldAddr rfl ((hf 150 rfl).trans rfl) fl_35_6 ⟨rfl, hM⟩ (hid := ⟨_, (hM _ _ h114)⟩)⟩) ?_
        refine QE.op rfl rfl (.inl ⟨rfl, fun f' H' hf hM => AOp.load (vC) rfl ((hf 151 rfl).trans rfl) ty_33 (hM _ _ h114) rfl ⟨rfl, hM⟩⟩) ?_
        refine QE.op rfl rfl (.inl ⟨rfl, fun f' H' hf hM => AOp.move (.ptr id ver 0) rfl ((hf 0 rfl).trans rfl) ⟨rfl, hM⟩⟩) ?_
        refine QE.op rfl rfl (.inl ⟨rfl, fun f' H' hf hM => AOp.nilCheck (.ptr id ver 0) rfl ((hf 153 rfl).trans rfl) rfl ⟨rfl, hM⟩⟩) ?_
        refine QE.op rfl rfl (.inl ⟨rfl, fun f' H' hf hM => AOp.fieldAddr rfl ((hf 154 rfl).trans rfl) fl_63_0 ⟨rfl, hM⟩ (hid := ⟨_, (hM _ _ h114)⟩)⟩) ?_
        refine QE.op rfl rfl (.inl ⟨rfl, fun f' H' hf hM => AOp.fieldAddr rfl ((hf 155 rfl).trans rfl) fl_35_6 ⟨rfl, hM⟩ (hid := ⟨_, (hM _ _ h114)⟩)⟩) ?_
        refine QE.op rfl rfl (.inl ⟨rfl, fun f' H' hf hM => AOp.load (vC) rfl ((hf 156 rfl).trans rfl) ty_33 (hM _ _ h114) rfl ⟨rfl, hM⟩⟩) ?_
        refine QE.op rfl rfl (.inl ⟨rfl, fun f' H' hf hM => AOp.len (m := s.cages.length) rfl (Eq.trans ((hf 157 rfl).trans rfl) hvC) (.inr (.inr ⟨_, _, _, _, rfl⟩)) u_33 ⟨rfl, hM⟩⟩) ?_
        refine QE.op rfl rfl (.inl ⟨rfl, fun f' H' hf hM => AOp.bin (.int .i64 ((s.cages.length : Int) - 1)) rfl ((hf 158 rfl).trans rfl) rfl (isub (by omega)) ⟨rfl, hM⟩⟩) ?_
        refine QE.op rfl rfl (.inl ⟨rfl, fun f' H' hf hM => AOp.load (.agg [vV, vF, v96]) rfl ((hf 7 rfl).trans rfl) ty_48 (hM _ _ h112) rfl ⟨rfl, hM⟩⟩) ?_
        refine QE.op rfl rfl (.inl ⟨rfl, fun f' H' hf hM => AOp.indexAddrO rfl (Eq.trans ((hf 152 rfl).trans rfl) hvC) ((hf 159 rfl).trans rfl) sl_33 (by omega) (by omega) (hM _ _ h115) ⟨rfl, hM⟩⟩) ?_
        refine QE.done fun H120 m121 => ?_
        have h122 := m121 _ _ h114
        have h123 := m121 _ _ h115
        have h124 := m121 _ _ h112
        have o125 := MO.mono o117 m121
        have o126 := Own.mono o118 m121
        have m127 := m119.trans m121
        refine AOps.cons rfl rfl (AOp.store' (cells' := s.cages.dropLast.flatMap eCage ++ [vV, vF, v96]) (.agg [vV, vF, v96]) rfl rfl ts_48 h123 (by simp only [AV.cells, List.all_cons, List.all_nil, Own.one_ (o125.at 4 rfl).1, Own.one_ (o125.at 5 rfl).1, Own.one_ o126]; rfl) rfl (Nat.ble_eq_true_of_le (by rw [List.length_append, drop_len]; simp only [List.length_cons, List.length_nil]; omega)) (wrC0 (drop_len _) rfl) ?_)
        intro H128 h129 k130
        have h131 := keep k130 nid h122
        have h133 := keep k130 (Ne.symm e21) h124
        have o134 := MO.keep o125 k130 no13
        have o135 := Own.keep o126 k130 no106
        have m136 := Mono.set m127 hBic k130
        refine AOps.nil ?_
        change AWP _ _ _ _ _ _
        refine AWP.seq ?_
        refine AWP.region (l := [0]) rfl ?_
        refine AOps.cons rfl rfl (AOp.assign (.int .i64 0) rfl rfl ?_)
        refine AOps.nil ?_
        change AWP _ _ _ _ _ _
        refine AWP.ret ?_
        exact ⟨_, _, Ghost.refl, .inr rfl, _, Res.one rfl rfl, .inl ⟨_, gT (cnt_T (numsL_len _) hb1 b10) (gT (decide_eq_true (by omega)) (gT (decide_eq_true (by omega)) (gT (b41) (gT (not_T (decide_eq_false b42)) (gT (b59) (rfl)))))), ⟨_, _, _, _, _, _, _, _, RDv.upC (c := { lastC s.cages with Creases := (lastC s.cages).Creases ++ [⟨at_ (numsL (w.drop 1)) 0, at_ (numsL (w.drop 1)) 1, at_ (numsL (w.drop 1)) 2⟩] }) hne0 h131 hB (MO.put (L := (rdL s vL vM vT vS vC vV vF vK).set 7 (3, v96, (((lastC s.cages).Creases) ++ [(CrT.mk (at_ (numsL (w.drop 1)) 0) (at_ (numsL (w.drop 1)) 1) (at_ (numsL (w.drop 1)) 2))]).length, (((lastC s.cages).Creases) ++ [(CrT.mk (at_ (numsL (w.drop 1)) 0) (at_ (numsL (w.drop 1)) 1) (at_ (numsL (w.drop 1)) 2))]).flatMap eCr)) (e := (3, vC, s.cages.length, s.cages.dropLast.flatMap eCage ++ [vV, vF, v96])) 4 (by simp [rdL]) (MO.put (L := (rdL s vL vM vT vS vC vV vF vK).eraseIdx 4) (e := (3, v96, (((lastC s.cages).Creases) ++ [(CrT.mk (at_ (numsL (w.drop 1)) 0) (at_ (numsL (w.drop 1)) 1) (at_ (numsL (w.drop 1)) 2))]).length, (((lastC s.cages).Creases) ++ [(CrT.mk (at_ (numsL (w.drop 1)) 0) (at_ (numsL (w.drop 1)) 1) (at_ (numsL (w.drop 1)) 2))]).flatMap eCr)) 6 (by simp [rdL]) o134 o135 sp110) (.inr ⟨ic, vc, hvC, h129, hBic, (by rw [List.length_append, drop_len]; simp only [List.length_cons, List.length_nil]; omega)⟩) (SepM.of (NotIdM.put (L := (rdL s vL vM vT vS vC vV vF vK).eraseIdx 4) (e := (3, v96, (((lastC s.cages).Creases) ++ [(CrT.mk (at_ (numsL (w.drop 1)) 0) (at_ (numsL (w.drop 1)) 1) (at_ (numsL (w.drop 1)) 2))]).length, (((lastC s.cages).Creases) ++ [(CrT.mk (at_ (numsL (w.drop 1)) 0) (at_ (numsL (w.drop 1)) 1) (at_ (numsL (w.drop 1)) 2))]).flatMap eCr)) 6 no13 no106) hvC)) (NotIdM.put (L := (rdL s vL vM vT vS vC vV vF vK).set 7 (3, v96, (((lastC s.cages).Creases) ++ [(CrT.mk (at_ (numsL (w.drop 1)) 0) (at_ (numsL (w.drop 1)) 1) (at_ (numsL (w.drop 1)) 2))]).length, (((lastC s.cages).Creases) ++ [(CrT.mk (at_ (numsL (w.drop 1)) 0) (at_ (numsL (w.drop 1)) 1) (at_ (numsL (w.drop 1)) 2))]).flatMap eCr)) (e := (3, vC, s.cages.length, s.cages.dropLast.flatMap eCage ++ [vV, vF, v96])) 4 (NotIdM.put (L := (rdL s vL vM vT vS vC vV vF vK).eraseIdx 4) (e := (3, v96, (((lastC s.cages).Creases) ++ [(CrT.mk (at_ (numsL (w.drop 1)) 0) (at_ (numsL (w.drop 1)) 1) (at_ (numsL (w.drop 1)) 2))]).length, (((lastC s.cages).Creases) ++ [(CrT.mk (at_ (numsL (w.drop 1)) 0) (at_ (numsL (w.drop 1)) 1) (at_ (numsL (w.drop 1)) 2))]).flatMap eCr)) 6 ngX no104) nC)⟩, m136, rfl⟩⟩
       ·
        refine AWP.condT rfl (nb b59) ?_
        refine AWP.seq ?_
        refine AWP.region (l := [0]) rfl ?_
        refine AOps.cons rfl rfl (AOp.assign (.int .i64 11) rfl rfl ?_)
        refine AOps.nil ?_
        change AWP _ _ _ _ _ _
        refine AWP.ret ?_
        exact ⟨_, _, Ghost.refl, .inr rfl, _, Res.one rfl rfl, .inr ⟨11, gT (cnt_T (numsL_len _) hb1 b10) (gT (decide_eq_true (by omega)) (gT (decide_eq_true (by omega)) (gT (b41) (gT (not_T (decide_eq_false b42)) (gF (b59)))))), m58, rfl⟩⟩
     ·
      refine QE.op rfl rfl (QOp.no rfl rfl rfl rfl (ble_of (nb b41) (by decide)) rfl) ?_
      refine QE.op rfl rfl (QOp.no rfl rfl rfl rfl (ble_of (nb b41) (by decide)) rfl) ?_
      refine QE.op rfl rfl (QOp.no rfl rfl rfl rfl (ble_of (nb b41) (by decide)) rfl) ?_
      refine QE.op rfl rfl (QOp.no rfl rfl rfl rfl (ble_of (nb b41) (by decide)) rfl) ?_
      refine QE.op rfl rfl (QOp.no rfl rfl rfl rfl (ble_of (nb b41) (by decide)) rfl) ?_
      refine QE.op rfl rfl (QOp.no rfl rfl rfl rfl (ble_of (nb b41) (by decide)) rfl) ?_
      refine QE.op rfl rfl (QOp.no rfl rfl rfl rfl (ble_of (nb b41) (by decide)) rfl) ?_
      refine QE.op rfl rfl (.inl ⟨rfl, fun f' H' hf hM => AOp.pickT (.bool true) rfl ((hf 119 rfl).trans rfl) (nb b41) rfl ⟨rfl, hM⟩⟩) ?_
      refine QE.op rfl rfl (.inl ⟨rfl, fun f' H' hf hM => AOp.move (.bool true) rfl ((hf 127 rfl).trans rfl) ⟨rfl, hM⟩⟩) ?_
      refine QE.op rfl rfl (QOp.no rfl rfl rfl rfl (ble_of rfl (by decide)) rfl) ?_
      refine QE.op rfl rfl (QOp.no rfl rfl rfl rfl (ble_of rfl (by decide)) rfl) ?_
      refine QE.op rfl rfl (QOp.no rfl rfl rfl rfl (ble_of rfl (by decide)) rfl) ?_
      refine QE.op rfl rfl (.inl ⟨rfl, fun f' H' hf hM => AOp.pickT (.bool true) rfl ((hf 128 rfl).trans rfl) rfl rfl ⟨rfl, hM⟩⟩) ?_
      refine QE.done fun H137 m138 => ?_
      have h139 := m138 _ _ h34
      have h140 := m138 _ _ h35
      have h141 := m138 _ _ h32
      have o142 := Own.mono o37 m138
      have o143 := MO.mono o38 m138
      have m144 := m39.trans m138
      refine AOps.nil ?_
      change AWP _ _ _ _ _ _
      refine AWP.condT rfl rfl ?_
      refine AWP.seq ?_
      refine AWP.region (l := [0]) rfl ?_
      refine AOps.cons rfl rfl (AOp.assign (.int .i64 11) rfl rfl ?_)
      refine AOps.nil ?_
      change AWP _ _ _ _ _ _
      refine AWP.ret ?_
      exact ⟨_, _, Ghost.refl, .inr rfl, _, Res.one rfl rfl, .inr ⟨11, gT (cnt_T (numsL_len _) hb1 b10) (gT (decide_eq_true (by omega)) (gT (decide_eq_true (by omega)) (gF (b41)))), m144, rfl⟩⟩
  ·
   refine AOps.no rfl rfl rfl rfl rfl rfl rfl (ble_of (nb (decide_eq_false b10)) (by decide)) ?_
   refine AOps.no rfl rfl rfl rfl rfl rfl rfl (ble_of (nb (decide_eq_false b10)) (by decide)) ?_
   refine AOps.no rfl rfl rfl rfl rfl rfl rfl (ble_of (nb (decide_eq_false b10)) (by decide)) ?_
   refine AOps.no rfl rfl rfl rfl rfl rfl rfl (ble_of (nb (decide_eq_false b10)) (by decide)) ?_
   refine AOps.no rfl rfl rfl rfl rfl rfl rfl (ble_of (nb (decide_eq_false b10)) (by decide)) ?_
   refine AOps.un rfl rfl rfl rfl rfl rfl rfl ?_
   refine AOps.un rfl rfl rfl rfl rfl rfl rfl ?_
   refine AOps.un rfl rfl rfl rfl rfl rfl rfl ?_
   refine AOps.un rfl rfl rfl rfl rfl rfl rfl ?_
   refine AOps.un rfl rfl rfl rfl rfl rfl rfl ?_
   refine AOps.un rfl rfl rfl rfl rfl rfl rfl ?_
   refine AOps.un rfl rfl rfl rfl rfl rfl rfl ?_
   refine AOps.un rfl rfl rfl rfl rfl rfl rfl ?_
   refine AOps.no rfl rfl rfl rfl rfl rfl rfl (ble_of (nb (decide_eq_false b10)) (by decide)) ?_
   refine AOps.cons rfl rfl (AOp.pickT (.bool true) rfl rfl (nb (decide_eq_false b10)) rfl ?_)
   refine AOps.nil ?_
   change AWP _ _ _ _ _ _
   refine AWP.condT rfl rfl ?_
   refine AWP.seq ?_
   refine AWP.region (l := [0]) rfl ?_
   refine AOps.cons rfl rfl (AOp.assign (.int .i64 10) rfl rfl ?_)
   refine AOps.nil ?_
   change AWP _ _ _ _ _ _
   refine AWP.ret ?_
   exact ⟨_, _, Ghost.refl, .inr rfl, _, Res.one rfl rfl, .inr ⟨10, gF (cnt_F2 (numsL_len _) b10), m8, rfl⟩⟩
 ·
  refine AOps.cons rfl rfl (AOp.pcall («as» := [.sl (w.drop 1).length ((w.drop 1).map eStr)]) rfl rfl (rfl) tf_88 (c_rnumbers_F hb1 (w.drop 1) (by first | omega | assumption | (simp only [List.length_drop, List.length_take]; omega) | (simp; omega) | simp)) ?_)
  intro H145 m146
  have h147 := m146 _ _ hrow
  have o148 := Own.mono oC m146
  have o149 := Own.mono oX m146
  have o150 := MO.mono ogX m146
  have m151 := m0.trans m146
  refine AOps.cons rfl rfl (AOp.move (.tup [.sl ([] : List Int).length (([] : List Int).map eI), .bool false]) rfl rfl ?_)
  refine AOps.cons rfl rfl (AOp.extract (.sl ([] : List Int).length (([] : List Int).map eI)) rfl rfl rfl ?_)
  refine AOps.cons rfl rfl (AOp.extract (.bool false) rfl rfl rfl ?_)
  refine AOps.cons rfl rfl (AOp.assign (.sl ([] : List Int).length (([] : List Int).map eI)) rfl rfl ?_)
  refine AOps.cons rfl rfl (AOp.assign (.bool false) rfl rfl ?_)
  refine AOps.nil ?_
  change AWP _ _ _ _ _ _
  refine AWP.seq ?_
  refine AWP.seq ?_
  refine AWP.region (l := [0, 1, 2, 3, 4, 5, 6, 7, 8, 9, 10, 11, 12, 13, 14, 15, 16, 17, 18, 19, 20, 21, 22, 23, 24, 25, 26, 27, 28]) rfl ?_
  refine AOps.cons rfl rfl (AOp.move (.bool false) rfl rfl ?_)
  refine AOps.cons rfl rfl (AOp.not rfl rfl ?_)
  refine AOps.cons rfl rfl (AOp.move (.bool (!false)) rfl rfl ?_)
  refine AOps.no rfl rfl rfl rfl rfl rfl rfl (ble_of rfl (by decide)) ?_
  refine AOps.no rfl rfl rfl rfl rfl rfl rfl (ble_of rfl (by decide)) ?_
  refine AOps.no rfl rfl rfl rfl rfl rfl rfl (ble_of rfl (by decide)) ?_
  refine AOps.no rfl rfl rfl rfl rfl rfl rfl (ble_of rfl (by decide)) ?_
  refine AOps.no rfl rfl rfl rfl rfl rfl rfl (ble_of rfl (by decide)) ?_
  refine AOps.un rfl rfl rfl rfl rfl rfl rfl ?_
  refine AOps.un rfl rfl rfl rfl rfl rfl rfl ?_
  refine AOps.un rfl rfl rfl rfl rfl rfl rfl ?_
  refine AOps.no rfl rfl rfl rfl rfl rfl rfl (ble_of rfl (by decide)) ?_
  refine AOps.cons rfl rfl (AOp.pickT (.bool true) rfl rfl rfl rfl ?_)
  refine AOps.cons rfl rfl (AOp.move (.bool true) rfl rfl ?_)
  refine AOps.no rfl rfl rfl rfl rfl rfl rfl (ble_of rfl (by decide)) ?_
  refine AOps.no rfl rfl rfl rfl rfl rfl rfl (ble_of rfl (by decide)) ?_
  refine AOps.no rfl rfl rfl rfl rfl rfl rfl (ble_of rfl (by decide)) ?_
  refine AOps.no rfl rfl rfl rfl rfl rfl rfl (ble_of rfl (by decide)) ?_
  refine AOps.no rfl rfl rfl rfl rfl rfl rfl (ble_of rfl (by decide)) ?_
  refine AOps.un rfl rfl rfl rfl rfl rfl rfl ?_
  refine AOps.un rfl rfl rfl rfl rfl rfl rfl ?_
  refine AOps.un rfl rfl rfl rfl rfl rfl rfl ?_
  refine AOps.un rfl rfl rfl rfl rfl rfl rfl ?_
  refine AOps.un rfl rfl rfl rfl rfl rfl rfl ?_
  refine AOps.un rfl rfl rfl rfl rfl rfl rfl ?_
  refine AOps.un rfl rfl rfl rfl rfl rfl rfl ?_
  refine AOps.un rfl rfl rfl rfl rfl rfl rfl ?_
  refine AOps.no rfl rfl rfl rfl rfl rfl rfl (ble_of rfl (by decide)) ?_
  refine AOps.cons rfl rfl (AOp.pickT (.bool true) rfl rfl rfl rfl ?_)
  refine AOps.nil ?_
  change AWP _ _ _ _ _ _
  refine AWP.condT rfl rfl ?_
  refine AWP.seq ?_
  refine AWP.region (l := [0]) rfl ?_
  refine AOps.cons rfl rfl (AOp.assign (.int .i64 10) rfl rfl ?_)
  refine AOps.nil ?_
  change AWP _ _ _ _ _ _
  refine AWP.ret ?_
  exact ⟨_, _, Ghost.refl, .inr rfl, _, Res.one rfl rfl, .inr ⟨10, gF (cnt_F1 hb1), m151, rfl⟩⟩
end Go.Proofs.S
namespace Go.AH
variable [Globs]
set_option linter.unusedSectionVars false
open Go Go.Maps
abbrev Prt := ByteArray ⊕ List Int
def ptV : Prt → List Value
  | .inl s => [.string s]
  | .inr xs => xs.map fun x => .int .i64 x
def ptA : Prt → List AV
  | .inl s => [.str s]
  | .inr xs => xs.map fun x => .int .i64 x
def ptN : Prt → Bool × Nat
  | .inl _ => (true, 1)
  | .inr xs => (false, xs.length)
def ptOk : Prt → Prop
  | .inl s => s.size ≤ maxLen
  | .inr xs => ∀ x ∈ xs, inR x
def chkF (P : Program) : Nat → List Field → List (Bool × Nat) → Bool
  | _, [], [] => true
  | o, f :: fs, (b, m) :: r => f.offset == o && P.cellsOf f.type == m && (if b then (match P.underlying f.type with | some .string => true | _ => false) else flatI P 4 f.type) && f.name != "_" && chkF P (o + m) fs r
  | _, _, _ => false
theorem ptV_len (p : Prt) : (ptV p).length = (ptN p).2 := by cases p <;> simp [ptV, ptN]
theorem mix_lits {P : Program} {d : Nat} (hd : 4 ≤ d) : ∀ (fs : List Field) (parts : List Prt) (o : Nat) (pre : List Value), chkF P o fs (parts.map ptN) = true → pre.length = o → (∀ p ∈ parts, ptOk p) →
    (∃ ls, fs.mapM (fun f => P.keyLits d f.type (((pre ++ parts.flatMap ptV).drop f.offset).take (P.cellsOf f.type))) = some ls) ∧ fs.all (·.name != "_") = true
  | [], [], _, _, _, _, _ => ⟨⟨[], rfl⟩, rfl⟩
  | [], _ :: _, _, _, h, _, _ => by simp [chkF] at h
  | _ :: _, [], _, _, h, _, _ => by simp [chkF] at h
  | f :: fs, p :: parts, o, pre, h, hp, hk => by
    simp only [List.map_cons, chkF, Bool.and_eq_true, beq_iff_eq] at h
    obtain ⟨⟨⟨⟨h1, h2⟩, h3⟩, h4⟩, h5⟩ := h
    obtain ⟨⟨ls, hl⟩, hn⟩ := mix_lits hd fs parts (o + (ptN p).2) (pre ++ ptV p) h5 (by rw [List.length_append, hp, ptV_len]) fun q hq => hk q (.tail _ hq)
    have hcut : ((pre ++ (p :: parts).flatMap ptV).drop f.offset).take (P.cellsOf f.type) = ptV p := by
      rw [h1, h2, ← hp, List.drop_left, List.flatMap_cons, ← ptV_len, List.take_left]
    have hy : ∃ y, P.keyLits d f.type (ptV p) = some y := by
      cases p with
      | inl s =>
        obtain ⟨d, rfl⟩ : ∃ e, d = e + 1 := ⟨d - 1, by omega⟩
        have hs : s.size ≤ maxLen := hk (.inl s) (.head _)
        simp only [ptN, if_true] at h3
        rw [Program.keyLits.eq_def]
        cases hu : P.underlying f.type with
        | none => rw [hu] at h3; cases h3
        | some u =>
          rw [hu] at h3
          cases u <;> first | (cases h3; done) | (refine ⟨[.string s.data.toList], ?_⟩; simp only [ptV, hu, hs, if_true])
      | inr xs =>
        simp only [ptN, Bool.false_eq_true, if_false] at h3
        exact flat_lits 4 d f.type hd h3 xs (by rw [h2]; rfl) (hk (.inr xs) (.head _))
    obtain ⟨y, hy⟩ := hy
    refine ⟨⟨y :: ls, ?_⟩, ?_⟩
    · rw [List.mapM_cons, hcut, hy]
      rw [show pre ++ (p :: parts).flatMap ptV = pre ++ ptV p ++ parts.flatMap ptV by simp] 
      rw [hl]; rfl
    · rw [List.all_cons, h4, hn]; rfl
theorem concM : ∀ parts : List Prt, (parts.flatMap ptA).mapM concA = some (parts.flatMap ptV)
  | [] => rfl
  | p :: parts => by
    have h1 : (ptA p).mapM concA = some (ptV p) := by
      cases p with
      | inl s => rfl
      | inr xs => exact concs
    rw [List.flatMap_cons, List.flatMap_cons, List.mapM_append, h1, concM parts]; rfl
theorem KOK.mix {P : Program} {t : TypeId} {fs : Array Field} {parts : List Prt} (hu : P.underlying t = some (.struct fs)) (hk : P.keyType t = true) (hs : Nat.ble 4 P.types.size = true) (hc : P.cellsOf t = (parts.flatMap ptV).length)
    (hch : chkF P 0 fs.toList (parts.map ptN) = true) (ok : ∀ p ∈ parts, ptOk p) : KOK P t (.agg (parts.flatMap ptA)) := by
  obtain ⟨⟨ls, hl⟩, hn⟩ := mix_lits (P := P) (d := P.types.size) (Nat.le_of_ble_eq_true hs) fs.toList parts 0 [] hch rfl ok
  have hkl : P.keyLits (P.types.size + 1) t (parts.flatMap ptV) = some ls.flatten := by
    rw [Program.keyLits.eq_def]
    have hn' : fs.all (·.name != "_") = true := by rw [← Array.all_toList]; exact hn
    simp only [hu, hc, hn', and_self, if_true]
    simp only [List.nil_append] at hl
    rw [hl]; rfl
  refine ⟨.agg (parts.flatMap ptV).toArray, .string (keyBytes ls.flatten), by simp only [conc, concM, Option.map_some], ?_⟩
  unfold keyOf
  have h1 : Value.formed P t (.agg (parts.flatMap ptV).toArray) = true := by simp only [Value.formed, hu, hc]; simp
  simp only [hu, h1, hk, Bool.and_self, if_true, Value.cells, hkl, Option.map_some]
end Go.AH
namespace Go.Proofs.S
open Go Go.AH Go.Proofs.L
set_option maxRecDepth 4000
set_option maxHeartbeats 4000000
set_option linter.unusedSimpArgs false
set_option linter.unusedVariables false
set_option linter.unusedSectionVars false
variable [LexG]
theorem laid : laidOutB Tryz.prog = true := by kernel_rfl
theorem row_lt {a b : Nat} (h : Nat.ble (a + 1) b = true) : a < b := Nat.le_of_ble_eq_true h
def ranV (v : VT) : Prop := inR v.X ∧ inR v.Y ∧ inR v.Z
theorem teq24 : TEq Tryz.prog 24 := TEq.mk' laid (m := 5) (by decide) (row_lt (by kernel_rfl)) (by kernel_rfl) (by kernel_rfl) (by kernel_rfl)
theorem kokV {v : VT} (h : ranV v) : KOK Tryz.prog 24 (.agg (eV v)) := by
  obtain ⟨h0, h1, h2⟩ := h
  exact KOK.mix (parts := [.inr [v.X], .inr [v.Y], .inr [v.Z]]) rfl (by kernel_rfl) (by kernel_rfl) (by kernel_rfl) (by kernel_rfl) (by
    simp only [List.forall_mem_cons]
    exact ⟨(fun x hx => by simp only [List.mem_cons, List.not_mem_nil, or_false] at hx; rcases hx with rfl <;> assumption), (fun x hx => by simp only [List.mem_cons, List.not_mem_nil, or_false] at hx; rcases hx with rfl <;> assumption), (fun x hx => by simp only [List.mem_cons, List.not_mem_nil, or_false] at hx; rcases hx with rfl <;> assumption), by simp⟩)
def ranCol (v : ColT) : Prop := inR v.R ∧ inR v.G ∧ inR v.B
theorem teq28 : TEq Tryz.prog 28 := TEq.mk' laid (m := 5) (by decide) (row_lt (by kernel_rfl)) (by kernel_rfl) (by kernel_rfl) (by kernel_rfl)
theorem kokCol {v : ColT} (h : ranCol v) : KOK Tryz.prog 28 (.agg (eCol v)) := by
  obtain ⟨h0, h1, h2⟩ := h
  exact KOK.mix (parts := [.inr [v.R], .inr [v.G], .inr [v.B]]) rfl (by kernel_rfl) (by kernel_rfl) (by kernel_rfl) (by kernel_rfl) (by
    simp only [List.forall_mem_cons]
    exact ⟨(fun x hx => by simp only [List.mem_cons, List.not_mem_nil, or_false] at hx; rcases hx with rfl <;> assumption), (fun x hx => by simp only [List.mem_cons, List.not_mem_nil, or_false] at hx; rcases hx with rfl <;> assumption), (fun x hx => by simp only [List.mem_cons, List.not_mem_nil, or_false] at hx; rcases hx with rfl <;> assumption), by simp⟩)
def ranCam (v : CamT) : Prop := inR v.Eye.X ∧ inR v.Eye.Y ∧ inR v.Eye.Z ∧ inR v.First.X ∧ inR v.First.Y ∧ inR v.First.Z ∧ inR v.Right.X ∧ inR v.Right.Y ∧ inR v.Right.Z ∧ inR v.Down.X ∧ inR v.Down.Y ∧ inR v.Down.Z ∧ inR v.W ∧ inR v.H ∧ inR v.Grid ∧ inR v.Depth
theorem teq26 : TEq Tryz.prog 26 := TEq.mk' laid (m := 5) (by decide) (row_lt (by kernel_rfl)) (by kernel_rfl) (by kernel_rfl) (by kernel_rfl)
theorem kokCam {v : CamT} (h : ranCam v) : KOK Tryz.prog 26 (.agg (eCam v)) := by
  obtain ⟨h0, h1, h2, h3, h4, h5, h6, h7, h8, h9, h10, h11, h12, h13, h14, h15⟩ := h
  exact KOK.mix (parts := [.inr [v.Eye.X, v.Eye.Y, v.Eye.Z], .inr [v.First.X, v.First.Y, v.First.Z], .inr [v.Right.X, v.Right.Y, v.Right.Z], .inr [v.Down.X, v.Down.Y, v.Down.Z], .inr [v.W], .inr [v.H], .inr [v.Grid], .inr [v.Depth]]) rfl (by kernel_rfl) (by kernel_rfl) (by kernel_rfl) (by kernel_rfl) (by
    simp only [List.forall_mem_cons]
    exact ⟨(fun x hx => by simp only [List.mem_cons, List.not_mem_nil, or_false] at hx; rcases hx with rfl | rfl | rfl <;> assumption), (fun x hx => by simp only [List.mem_cons, List.not_mem_nil, or_false] at hx; rcases hx with rfl | rfl | rfl <;> assumption), (fun x hx => by simp only [List.mem_cons, List.not_mem_nil, or_false] at hx; rcases hx with rfl | rfl | rfl <;> assumption), (fun x hx => by simp only [List.mem_cons, List.not_mem_nil, or_false] at hx; rcases hx with rfl | rfl | rfl <;> assumption), (fun x hx => by simp only [List.mem_cons, List.not_mem_nil, or_false] at hx; rcases hx with rfl <;> assumption), (fun x hx => by simp only [List.mem_cons, List.not_mem_nil, or_false] at hx; rcases hx with rfl <;> assumption), (fun x hx => by simp only [List.mem_cons, List.not_mem_nil, or_false] at hx; rcases hx with rfl <;> assumption), (fun x hx => by simp only [List.mem_cons, List.not_mem_nil, or_false] at hx; rcases hx with rfl <;> assumption), by simp⟩)
def ranLight (v : LightT) : Prop := inR v.At.X ∧ inR v.At.Y ∧ inR v.At.Z ∧ inR v.Color.R ∧ inR v.Color.G ∧ inR v.Color.B
theorem teq65 : TEq Tryz.prog 65 := TEq.mk' laid (m := 5) (by decide) (row_lt (by kernel_rfl)) (by kernel_rfl) (by kernel_rfl) (by kernel_rfl)
theorem kokLight {v : LightT} (h : ranLight v) : KOK Tryz.prog 65 (.agg (eLight v)) := by
  obtain ⟨h0, h1, h2, h3, h4, h5⟩ := h
  exact KOK.mix (parts := [.inr [v.At.X, v.At.Y, v.At.Z], .inr [v.Color.R, v.Color.G, v.Color.B]]) rfl (by kernel_rfl) (by kernel_rfl) (by kernel_rfl) (by kernel_rfl) (by
    simp only [List.forall_mem_cons]
    exact ⟨(fun x hx => by simp only [List.mem_cons, List.not_mem_nil, or_false] at hx; rcases hx with rfl | rfl | rfl <;> assumption), (fun x hx => by simp only [List.mem_cons, List.not_mem_nil, or_false] at hx; rcases hx with rfl | rfl | rfl <;> assumption), by simp⟩)
def ranMat (v : MatT) : Prop := (v.Name).size ≤ 1048576 ∧ inR v.Color.R ∧ inR v.Color.G ∧ inR v.Color.B ∧ inR v.Shine ∧ inR v.Sharp ∧ inR v.Mirror ∧ inR v.Clear ∧ inR v.Ior
theorem teq67 : TEq Tryz.prog 67 := TEq.mk' laid (m := 5) (by decide) (row_lt (by kernel_rfl)) (by kernel_rfl) (by kernel_rfl) (by kernel_rfl)
theorem kokMat {v : MatT} (h : ranMat v) : KOK Tryz.prog 67 (.agg (eMat v)) := by
  obtain ⟨h0, h1, h2, h3, h4, h5, h6, h7, h8⟩ := h
  exact KOK.mix (parts := [.inl v.Name, .inr [v.Color.R, v.Color.G, v.Color.B], .inr [v.Shine], .inr [v.Sharp], .inr [v.Mirror], .inr [v.Clear], .inr [v.Ior]]) rfl (by kernel_rfl) (by kernel_rfl) (by kernel_rfl) (by kernel_rfl) (by
    simp only [List.forall_mem_cons]
    exact ⟨(show _ ≤ maxLen from Nat.le_trans h0 (by decide)), (fun x hx => by simp only [List.mem_cons, List.not_mem_nil, or_false] at hx; rcases hx with rfl | rfl | rfl <;> assumption), (fun x hx => by simp only [List.mem_cons, List.not_mem_nil, or_false] at hx; rcases hx with rfl <;> assumption), (fun x hx => by simp only [List.mem_cons, List.not_mem_nil, or_false] at hx; rcases hx with rfl <;> assumption), (fun x hx => by simp only [List.mem_cons, List.not_mem_nil, or_false] at hx; rcases hx with rfl <;> assumption), (fun x hx => by simp only [List.mem_cons, List.not_mem_nil, or_false] at hx; rcases hx with rfl <;> assumption), (fun x hx => by simp only [List.mem_cons, List.not_mem_nil, or_false] at hx; rcases hx with rfl <;> assumption), by simp⟩)
theorem eMat_iff (a b : MatT) : a = b ↔ eMat a = eMat b := by
  refine ⟨fun h => by rw [h], fun h => ?_⟩
  obtain ⟨_, ⟨_, _, _⟩, _, _, _, _, _⟩ := a; obtain ⟨_, ⟨_, _, _⟩, _, _, _, _, _⟩ := b
  simp [eMat] at h
  simp [h]
def ranSkin (v : SkinT) : Prop := (v.Name).size ≤ 1048576 ∧ inR v.Mat ∧ inR v.Levels ∧ inR v.Unit ∧ inR v.Tex ∧ inR v.Height
theorem teq50 : TEq Tryz.prog 50 := TEq.mk' laid (m := 5) (by decide) (row_lt (by kernel_rfl)) (by kernel_rfl) (by kernel_rfl) (by kernel_rfl)
theorem kokSkin {v : SkinT} (h : ranSkin v) : KOK Tryz.prog 50 (.agg (eSkin v)) := by
  obtain ⟨h0, h1, h2, h3, h4, h5⟩ := h
  exact KOK.mix (parts := [.inl v.Name, .inr [v.Mat], .inr [v.Levels], .inr [v.Unit], .inr [v.Tex], .inr [v.Height]]) rfl (by kernel_rfl) (by kernel_rfl) (by kernel_rfl) (by kernel_rfl) (by
    simp only [List.forall_mem_cons]
    exact ⟨(show _ ≤ maxLen from Nat.le_trans h0 (by decide)), (fun x hx => by simp only [List.mem_cons, List.not_mem_nil, or_false] at hx; rcases hx with rfl <;> assumption), (fun x hx => by simp only [List.mem_cons, List.not_mem_nil, or_false] at hx; rcases hx with rfl <;> assumption), (fun x hx => by simp only [List.mem_cons, List.not_mem_nil, or_false] at hx; rcases hx with rfl <;> assumption), (fun x hx => by simp only [List.mem_cons, List.not_mem_nil, or_false] at hx; rcases hx with rfl <;> assumption), (fun x hx => by simp only [List.mem_cons, List.not_mem_nil, or_false] at hx; rcases hx with rfl <;> assumption), by simp⟩)
theorem eSkin_iff (a b : SkinT) : a = b ↔ eSkin a = eSkin b := by
  refine ⟨fun h => by rw [h], fun h => ?_⟩
  obtain ⟨_, _, _, _, _, _⟩ := a; obtain ⟨_, _, _, _, _, _⟩ := b
  simp [eSkin] at h
  simp [h]
def ranCr (v : CrT) : Prop := inR v.A ∧ inR v.B ∧ inR v.S
theorem teq91 : TEq Tryz.prog 91 := TEq.mk' laid (m := 5) (by decide) (row_lt (by kernel_rfl)) (by kernel_rfl) (by kernel_rfl) (by kernel_rfl)
theorem kokCr {v : CrT} (h : ranCr v) : KOK Tryz.prog 91 (.agg (eCr v)) := by
  obtain ⟨h0, h1, h2⟩ := h
  exact KOK.mix (parts := [.inr [v.A], .inr [v.B], .inr [v.S]]) rfl (by kernel_rfl) (by kernel_rfl) (by kernel_rfl) (by kernel_rfl) (by
    simp only [List.forall_mem_cons]
    exact ⟨(fun x hx => by simp only [List.mem_cons, List.not_mem_nil, or_false] at hx; rcases hx with rfl <;> assumption), (fun x hx => by simp only [List.mem_cons, List.not_mem_nil, or_false] at hx; rcases hx with rfl <;> assumption), (fun x hx => by simp only [List.mem_cons, List.not_mem_nil, or_false] at hx; rcases hx with rfl <;> assumption), by simp⟩)
instance : DecidableEq MatT := fun a b => decidable_of_iff (a.Name = b.Name ∧ a.Color = b.Color ∧ a.Shine = b.Shine ∧ a.Sharp = b.Sharp ∧ a.Mirror = b.Mirror ∧ a.Clear = b.Clear ∧ a.Ior = b.Ior) (by cases a; cases b; simp)
instance : DecidableEq TexT := fun a b => decidable_of_iff (a.Name = b.Name ∧ a.W = b.W ∧ a.H = b.H ∧ a.Rows = b.Rows) (by cases a; cases b; simp)
instance : DecidableEq SkinT := fun a b => decidable_of_iff (a.Name = b.Name ∧ a.Mat = b.Mat ∧ a.Levels = b.Levels ∧ a.Unit = b.Unit ∧ a.Tex = b.Tex ∧ a.Height = b.Height) (by cases a; cases b; simp)
instance : DecidableEq SceneT := fun a b => decidable_of_iff (a.Camera = b.Camera ∧ a.Sky = b.Sky ∧ a.Lights = b.Lights ∧ a.Mats = b.Mats ∧ a.Texs = b.Texs ∧ a.Skins = b.Skins ∧ a.Cages = b.Cages) (by cases a; cases b; simp)
theorem tex_ext {x y : TexT} (h1 : x.Name = y.Name) (h2 : x.W = y.W) (h3 : x.H = y.H) (h4 : x.Rows = y.Rows) : x = y := by cases x; cases y; simp_all
theorem cage_ext {x y : CageT} (h1 : x.Verts = y.Verts) (h2 : x.Faces = y.Faces) (h3 : x.Creases = y.Creases) : x = y := by cases x; cases y; simp_all
theorem scene_ext {x y : SceneT} (h1 : x.Camera = y.Camera) (h2 : x.Sky = y.Sky) (h3 : x.Lights = y.Lights) (h4 : x.Mats = y.Mats) (h5 : x.Texs = y.Texs) (h6 : x.Skins = y.Skins) (h7 : x.Cages = y.Cages) : x = y := by cases x; cases y; simp_all
def ranCage (g : CageT) : Prop := (g.Verts.length ≤ 1048576 ∧ g.Faces.length ≤ 1048576 ∧ g.Creases.length ≤ 1048576) ∧ (∀ v ∈ g.Verts, ranV v) ∧ (∀ c ∈ g.Creases, ranCr c) ∧ ∀ f ∈ g.Faces, f.length ≤ 1048576 ∧ ∀ x ∈ f, inR x
def ranTex (t : TexT) : Prop := t.Name.size ≤ 1048576 ∧ inR t.W ∧ inR t.H ∧ t.Rows.length ≤ 1048576 ∧ ∀ x ∈ t.Rows, inR x
structure RanS (a : SceneT) : Prop where
  cam : ranCam a.Camera
  sky : ranCol a.Sky
  nl : a.Lights.length ≤ 1048576
  nm : a.Mats.length ≤ 1048576
  nt : a.Texs.length ≤ 1048576
  nk : a.Skins.length ≤ 1048576
  nc : a.Cages.length ≤ 1048576
  l : ∀ x ∈ a.Lights, ranLight x
  m : ∀ x ∈ a.Mats, ranMat x
  t : ∀ x ∈ a.Texs, ranTex x
  k : ∀ x ∈ a.Skins, ranSkin x
  c : ∀ x ∈ a.Cages, ranCage x
theorem at_memS {α : Type} [Inhabited α] {l : List α} {i : Int} (h0 : 0 ≤ i) (h1 : i < l.length) : at_ l i ∈ l := by rw [at_get h0 h1]; exact List.getElem_mem _
end Go.Proofs.S
namespace Go.Proofs.S
open Go Go.AH Go.Proofs.L
set_option maxRecDepth 4000
set_option maxHeartbeats 4000000
set_option linter.unusedSimpArgs false
set_option linter.unusedVariables false
set_option linter.unusedSectionVars false
variable [LexG]
theorem c_sameInts (a b : List Int) (ha : a.length ≤ 1048576) (hb : b.length ≤ 1048576) : PC Tryz.prog 20 [.sl a.length (a.map eI), .sl b.length (b.map eI)] (.bool (decide (a = b))) := by
 intro H0
 refine ACalls.of_body' (n := 26) rfl rfl rfl rfl ?_
 have m0 := Mono.refl H0
 refine Sr ?_
 refine A rfl rfl ?_
 refine AWP.seq ?_
 refine Sr ?_
 refine V rfl rfl (C rfl (AOp.len (m := a.length) rfl rfl (.inr (.inl ⟨_, rfl⟩)) u_68 (V rfl rfl (C rfl (AOp.len (m := b.length) rfl rfl (.inr (.inl ⟨_, rfl⟩)) u_68 (B rfl rfl rfl ine ?_))))))
 refine AOps.nil ?_
 change AWP _ _ _ _ _ _
 by_cases b1 : (a.length : Int) = (b.length : Int)
 refine cf_ rfl (nb (decide_eq_true b1)) ?_
 refine AWP.skip ?_
 refine AWP.seq ?_
 refine Sr ?_
 refine A rfl rfl ?_
 refine bk_ ?_
 refine AWP.loop (fun q2 fq Hq => ∃ (i : Int), q2 = (((a.length : Int) : Int) - i).toNat ∧ fq 5 = .int .i64 i ∧ fq 0 = .sl a.length (a.map eI) ∧ fq 1 = .sl b.length (b.map eI) ∧ Mono H0 Hq ∧ (0 ≤ i) ∧ (i ≤ (a.length : Int)) ∧ ((a.length : Int) = b.length) ∧ (∀ j : Int, 0 ≤ j → j < i → at_ a j = at_ b j)) (k := (((a.length : Int) : Int) - 0).toNat) ?_ ?_
 exact ⟨0, rfl, rfl, rfl, rfl, m0, by omega, by omega, by assumption, by intro j; omega⟩
 rintro _ f4 H3 ⟨i, rfl, s5, s6, s7, m8, hi0, hi1, hl, pre⟩
 refine AWP.seq ?_
 refine Sr ?_
 refine V rfl s5 (V rfl s6 (C rfl (AOp.len (m := a.length) rfl rfl (.inr (.inl ⟨_, rfl⟩)) u_68 (B rfl rfl rfl rfl ?_))))
 refine AOps.nil ?_
 change AWP _ _ _ _ _ _
 by_cases b9 : i < (a.length : Int)
 refine ct_ rfl (decide_eq_true b9) ?_
 refine AWP.skip ?_
 refine AWP.seq ?_
 refine bk_ ?_
 refine AWP.seq ?_
 refine AWP.region_quiet mixed (by kernel_rfl) 9 [] rfl (by kernel_rfl) (Mono H3) (Mono.refl _) ?_
 refine QV rfl s6 (QV rfl s5 (Q rfl (fun _ _ φ ψ => iS_ rfl (φ 17 rfl) (φ 18 rfl) sl_68 (by omega) (by omega) ⟨rfl, ψ⟩) (QL rfl rfl ty_3 (ld1 (by omega) (by omega)) (QV rfl s7 (QV rfl s5 (Q rfl (fun _ _ φ ψ => iS_ rfl (φ 21 rfl) (φ 22 rfl) sl_68 (by omega) (by omega) ⟨rfl, ψ⟩) (QL rfl rfl ty_3 (ld1 (by omega) (by omega)) (QB rfl rfl rfl ine ?_))))))))
 refine QE.done fun H10 m11 => ?_
 have m12 := m8.trans m11
 refine AOps.nil ?_
 change AWP _ _ _ _ _ _
 by_cases b13 : at_ a i = at_ b i
 refine cf_ rfl (nb (decide_eq_true b13)) ?_
 refine AWP.skip ?_
 refine AWP.region rfl ?_
 refine V rfl s5 (B rfl rfl rfl (iadd (by omega)) (A rfl rfl ?_))
 refine AOps.nil ?_
 exact ⟨_, by omega, i + 1, rfl, rfl, s6, s7, m12, by omega, by omega, by assumption, by exact pre_step pre (b13)⟩
 refine ct_ rfl (nb (decide_eq_false b13)) ?_
 refine Sr ?_
 refine A rfl rfl ?_
 refine rt_ ?_
 refine Rr (Res.one rfl rfl) ?_ m12
 exact (congrArg AV.bool (rfl.trans (decide_eq_false (show ¬ (a = b) from by rintro rfl; first | omega | (exact absurd rfl b13))).symm))
 refine cf_ rfl (decide_eq_false b9) ?_
 refine AWP.exit ?_
 change AWP _ _ _ _ _ _
 refine Sr ?_
 refine A rfl rfl ?_
 refine rt_ ?_
 refine Rr (Res.one rfl rfl) ?_ m8
 exact (congrArg AV.bool (rfl.trans (decide_eq_true (show a = b from by exact ext_at (by omega) (fun j h1 h2 => pre j h1 (by omega)))).symm))
 refine ct_ rfl (nb (decide_eq_false b1)) ?_
 refine Sr ?_
 refine A rfl rfl ?_
 refine rt_ ?_
 refine Rr (Res.one rfl rfl) ?_ m0
 exact (congrArg AV.bool (rfl.trans (decide_eq_false (show ¬ (a = b) from by rintro rfl; first | omega | (exact absurd rfl b1))).symm))
theorem c_sameCage (a b : CageT) (ra : ranCage a) (rb : ranCage b) : PC Tryz.prog 21 [.agg [.sl a.Verts.length (a.Verts.flatMap eV), .sl a.Faces.length (a.Faces.map eF), .sl a.Creases.length (a.Creases.flatMap eCr)], .agg [.sl b.Verts.length (b.Verts.flatMap eV), .sl b.Faces.length (b.Faces.map eF), .sl b.Creases.length (b.Creases.flatMap eCr)]] (.bool (decide (a = b))) := by
 intro H0
 obtain ⟨⟨na1, na2, na3⟩, ra2⟩ := id ra
 obtain ⟨⟨nb1, nb2, nb3⟩, rb2⟩ := id rb
 refine ACalls.of_body' (n := 88) rfl rfl rfl rfl ?_
 have m0 := Mono.refl H0
 refine Sr ?_
 refine C rfl (bx_ (.agg [.sl a.Verts.length (a.Verts.flatMap eV), .sl a.Faces.length (a.Faces.map eF), .sl a.Creases.length (a.Creases.flatMap eCr)]) rfl rfl rfl ?_)
 intro i1 H2 n3 h4 k5
 have z6 := Mono.free m0 n3
 have m7 := Mono.new m0 n3 k5
 refine C rfl (bx_ (.agg [.sl b.Verts.length (b.Verts.flatMap eV), .sl b.Faces.length (b.Faces.map eF), .sl b.Creases.length (b.Creases.flatMap eCr)]) rfl rfl rfl ?_)
 intro i8 H9 n10 h11 k12
 have e13 := ne_new h4 n10
 have z14 := Mono.free m7 n10
 have h15 := keep k12 (ne_new h4 n10) h4
 have m16 := Mono.new m7 n10 k12
 refine A rfl rfl ?_
 refine AWP.seq ?_
 refine AWP.seq ?_
 refine fz_ 2 h15 z6 rfl m16 fun H17 m18 k19 => ?_
 have h20 := (k19 _ (Ne.symm e13)).trans h11
 refine fz_ 3 h20 z14 rfl m18 fun H21 m22 k23 => ?_
 refine AWP.region rfl ?_
 refine F rfl rfl fl_48_0 (L rfl rfl ty_44 rfl (C rfl (AOp.len (m := a.Verts.length) rfl rfl (.inr (.inl ⟨_, rfl⟩)) u_44 (F rfl rfl fl_48_0 (L rfl rfl ty_44 rfl (C rfl (AOp.len (m := b.Verts.length) rfl rfl (.inr (.inl ⟨_, rfl⟩)) u_44 (B rfl rfl rfl ine (V rfl rfl ?_)))))))))
 by_cases b24 : (a.Verts.length : Int) = (b.Verts.length : Int)
 refine Y rfl rfl rfl (nb (decide_eq_true b24)) (Ff rfl rfl fl_48_1 (Y rfl rfl rfl (nb (decide_eq_true b24)) (Lf _ rfl rfl ty_45 rfl (Y rfl rfl rfl (nb (decide_eq_true b24)) (AOp.len (m := a.Faces.length) rfl rfl (.inr (.inl ⟨_, rfl⟩)) u_45 (Y rfl rfl rfl (nb (decide_eq_true b24)) (Ff rfl rfl fl_48_1 (Y rfl rfl rfl (nb (decide_eq_true b24)) (Lf _ rfl rfl ty_45 rfl (Y rfl rfl rfl (nb (decide_eq_true b24)) (AOp.len (m := b.Faces.length) rfl rfl (.inr (.inl ⟨_, rfl⟩)) u_45 (Y rfl rfl rfl (nb (decide_eq_true b24)) (Bi _ rfl rfl rfl ine (C rfl (Pf _ rfl rfl (nb (decide_eq_true b24)) rfl (V rfl rfl ?_))))))))))))))))
 by_cases b25 : (a.Faces.length : Int) = (b.Faces.length : Int)
 refine Y rfl rfl rfl (nb (decide_eq_true b25)) (Ff rfl rfl fl_48_2 (Y rfl rfl rfl (nb (decide_eq_true b25)) (Lf _ rfl rfl ty_46 rfl (Y rfl rfl rfl (nb (decide_eq_true b25)) (AOp.len (m := a.Creases.length) rfl rfl (.inr (.inl ⟨_, rfl⟩)) u_46 (Y rfl rfl rfl (nb (decide_eq_true b25)) (Ff rfl rfl fl_48_2 (Y rfl rfl rfl (nb (decide_eq_true b25)) (Lf _ rfl rfl ty_46 rfl (Y rfl rfl rfl (nb (decide_eq_true b25)) (AOp.len (m := b.Creases.length) rfl rfl (.inr (.inl ⟨_, rfl⟩)) u_46 (Y rfl rfl rfl (nb (decide_eq_true b25)) (Bi _ rfl rfl rfl ine (C rfl (Pf _ rfl rfl (nb (decide_eq_true b25)) rfl ?_)))))))))))))))
 refine AOps.nil ?_
 change AWP _ _ _ _ _ _
 by_cases b26 : (a.Creases.length : Int) = (b.Creases.length : Int)
 refine cf_ rfl (nb (decide_eq_true b26)) ?_
 refine AWP.skip ?_
 refine AWP.seq ?_
 refine Sr ?_
 refine A rfl rfl ?_
 refine bk_ ?_
 refine AWP.loop (fun q27 fq Hq => ∃ (i0 : Int), q27 = (((a.Verts.length : Int) : Int) - i0).toNat ∧ fq 5 = .int .i64 i0 ∧ fq 2 = .fptr [.sl a.Verts.length (a.Verts.flatMap eV), .sl a.Faces.length (a.Faces.map eF), .sl a.Creases.length (a.Creases.flatMap eCr)] 0 ∧ fq 3 = .fptr [.sl b.Verts.length (b.Verts.flatMap eV), .sl b.Faces.length (b.Faces.map eF), .sl b.Creases.length (b.Creases.flatMap eCr)] 0 ∧ Mono H0 Hq ∧ (0 ≤ i0) ∧ (i0 ≤ (a.Verts.length : Int)) ∧ (∀ j : Int, 0 ≤ j → j < i0 → at_ a.Verts j = at_ b.Verts j)) (k := (((a.Verts.length : Int) : Int) - 0).toNat) ?_ ?_
 exact ⟨0, rfl, rfl, rfl, rfl, m22, by omega, by omega, by intro j; omega⟩
 rintro _ f29 H28 ⟨i0, rfl, s30, s31, s32, m33, hi00, hi01, pre0⟩
 refine AWP.seq ?_
 refine Sr ?_
 refine V rfl s30 (F rfl s31 fl_48_0 (L rfl rfl ty_44 rfl (C rfl (AOp.len (m := a.Verts.length) rfl rfl (.inr (.inl ⟨_, rfl⟩)) u_44 (B rfl rfl rfl rfl ?_)))))
 refine AOps.nil ?_
 change AWP _ _ _ _ _ _
 by_cases b34 : i0 < (a.Verts.length : Int)
 refine ct_ rfl (decide_eq_true b34) ?_
 refine AWP.skip ?_
 refine AWP.seq ?_
 refine bk_ ?_
 refine AWP.seq ?_
 refine AWP.region_quiet mixed (by kernel_rfl) 11 [] rfl (by kernel_rfl) (Mono H28) (Mono.refl _) ?_
 refine QF rfl s31 fl_48_0 (QL rfl rfl ty_44 rfl (QV rfl s30 (Q rfl (fun _ _ φ ψ => iS_ rfl (φ 41 rfl) (φ 42 rfl) sl_44 (by omega) (by omega) ⟨rfl, ψ⟩) (QL rfl rfl ty_24 (ldM eV_len (by omega) (by omega)) (QF rfl s32 fl_48_0 (QL rfl rfl ty_44 rfl (QV rfl s30 (Q rfl (fun _ _ φ ψ => iS_ rfl (φ 46 rfl) (φ 47 rfl) sl_44 (by omega) (by omega) ⟨rfl, ψ⟩) (QL rfl rfl ty_24 (ldM eV_len (by omega) (by omega)) (Q rfl (fun _ _ φ ψ => AOp.neAggD rfl (φ 44 rfl) (φ 49 rfl) teq24 (kokV (v := (at_ a.Verts i0)) (by first | assumption | exact (ra.2.1 _ (at_memS (by omega) (by omega))))) (kokV (v := (at_ b.Verts i0)) (by first | assumption | exact (rb.2.1 _ (at_memS (by omega) (by omega))))) (eV_iff (at_ a.Verts i0) (at_ b.Verts i0)) ⟨rfl, ψ⟩) ?_))))))))))
 refine QE.done fun H35 m36 => ?_
 have m37 := m33.trans m36
 refine AOps.nil ?_
 change AWP _ _ _ _ _ _
 by_cases b38 : (at_ a.Verts i0) = (at_ b.Verts i0)
 refine cf_ rfl (nb (decide_eq_true b38)) ?_
 refine AWP.skip ?_
 refine AWP.region rfl ?_
 refine V rfl s30 (B rfl rfl rfl (iadd (by omega)) (A rfl rfl ?_))
 refine AOps.nil ?_
 exact ⟨_, by omega, i0 + 1, rfl, rfl, s31, s32, m37, by omega, by omega, by exact pre_step pre0 (b38)⟩
 refine ct_ rfl (nb (decide_eq_false b38)) ?_
 refine Sr ?_
 refine A rfl rfl ?_
 refine rt_ ?_
 refine Rr (Res.one rfl rfl) ?_ m37
 exact (congrArg AV.bool (rfl.trans (decide_eq_false (show ¬ (a = b) from by rintro rfl; first | omega | (exact absurd rfl b38))).symm))
 refine cf_ rfl (decide_eq_false b34) ?_
 refine AWP.exit ?_
 change AWP _ _ _ _ _ _
 refine AWP.seq ?_
 refine Sr ?_
 refine A rfl rfl ?_
 refine bk_ ?_
 refine AWP.loop (fun q39 fq Hq => ∃ (i1 : Int), q39 = (((a.Faces.length : Int) : Int) - i1).toNat ∧ fq 6 = .int .i64 i1 ∧ fq 2 = .fptr [.sl a.Verts.length (a.Verts.flatMap eV), .sl a.Faces.length (a.Faces.map eF), .sl a.Creases.length (a.Creases.flatMap eCr)] 0 ∧ fq 3 = .fptr [.sl b.Verts.length (b.Verts.flatMap eV), .sl b.Faces.length (b.Faces.map eF), .sl b.Creases.length (b.Creases.flatMap eCr)] 0 ∧ Mono H0 Hq ∧ (0 ≤ i1) ∧ (i1 ≤ (a.Faces.length : Int)) ∧ (∀ j : Int, 0 ≤ j → j < i1 → at_ a.Faces j = at_ b.Faces j)) (k := (((a.Faces.length : Int) : Int) - 0).toNat) ?_ ?_
 exact ⟨0, rfl, rfl, s31, s32, m33, by omega, by omega, by intro j; omega⟩
 rintro _ f41 H40 ⟨i1, rfl, s42, s43, s44, m45, hi10, hi11, pre1⟩
 refine AWP.seq ?_
 refine Sr ?_
 refine V rfl s42 (F rfl s43 fl_48_1 (L rfl rfl ty_45 rfl (C rfl (AOp.len (m := a.Faces.length) rfl rfl (.inr (.inl ⟨_, rfl⟩)) u_45 (B rfl rfl rfl rfl ?_)))))
 refine AOps.nil ?_
 change AWP _ _ _ _ _ _
 by_cases b46 : i1 < (a.Faces.length : Int)
 refine ct_ rfl (decide_eq_true b46) ?_
 refine AWP.skip ?_
 refine AWP.seq ?_
 refine bk_ ?_
 refine AWP.seq ?_
 refine AWP.region_quiet mixed (by kernel_rfl) 12 [] rfl (by kernel_rfl) (Mono H40) (Mono.refl _) ?_
 refine QF rfl s43 fl_48_1 (QL rfl rfl ty_45 rfl (QV rfl s42 (Q rfl (fun _ _ φ ψ => iS_ rfl (φ 59 rfl) (φ 60 rfl) sl_45 (by omega) (by omega) ⟨rfl, ψ⟩) (QL rfl rfl ty_68 (ld1 (by omega) (by omega)) (QF rfl s44 fl_48_1 (QL rfl rfl ty_45 rfl (QV rfl s42 (Q rfl (fun _ _ φ ψ => iS_ rfl (φ 64 rfl) (φ 65 rfl) sl_45 (by omega) (by omega) ⟨rfl, ψ⟩) (QL rfl rfl ty_68 (ld1 (by omega) (by omega)) (Q rfl (fun _ _ φ ψ => Pc («as» := [.sl (at_ a.Faces i1).length ((at_ a.Faces i1).map eI), .sl (at_ b.Faces i1).length ((at_ b.Faces i1).map eI)]) rfl rfl (lapp (lcons (φ 62 rfl) (lcons (φ 67 rfl) rfl)) rfl) tf_20 (c_sameInts _ _ ((ra2.2.2 _ (at_memS (by omega) (by omega))).1) ((rb2.2.2 _ (at_memS (by omega) (by omega))).1)) fun H2 m2 => ⟨rfl, ψ.trans m2⟩) (Q rfl (fun _ _ φ ψ => AOp.not rfl (φ 68 rfl) ⟨rfl, ψ⟩) ?_)))))))))))
 refine QE.done fun H47 m48 => ?_
 have m49 := m45.trans m48
 refine AOps.nil ?_
 change AWP _ _ _ _ _ _
 by_cases b50 : at_ a.Faces i1 = at_ b.Faces i1
 refine cf_ rfl (nb (decide_eq_true b50)) ?_
 refine AWP.skip ?_
 refine AWP.region rfl ?_
 refine V rfl s42 (B rfl rfl rfl (iadd (by omega)) (A rfl rfl ?_))
 refine AOps.nil ?_
 exact ⟨_, by omega, i1 + 1, rfl, rfl, s43, s44, m49, by omega, by omega, by exact pre_step pre1 (b50)⟩
 refine ct_ rfl (nb (decide_eq_false b50)) ?_
 refine Sr ?_
 refine A rfl rfl ?_
 refine rt_ ?_
 refine Rr (Res.one rfl rfl) ?_ m49
 exact (congrArg AV.bool (rfl.trans (decide_eq_false (show ¬ (a = b) from by rintro rfl; first | omega | (exact absurd rfl b50))).symm))
 refine cf_ rfl (decide_eq_false b46) ?_
 refine AWP.exit ?_
 change AWP _ _ _ _ _ _
 refine AWP.seq ?_
 refine Sr ?_
 refine A rfl rfl ?_
 refine bk_ ?_
 refine AWP.loop (fun q51 fq Hq => ∃ (i2 : Int), q51 = (((a.Creases.length : Int) : Int) - i2).toNat ∧ fq 7 = .int .i64 i2 ∧ fq 2 = .fptr [.sl a.Verts.length (a.Verts.flatMap eV), .sl a.Faces.length (a.Faces.map eF), .sl a.Creases.length (a.Creases.flatMap eCr)] 0 ∧ fq 3 = .fptr [.sl b.Verts.length (b.Verts.flatMap eV), .sl b.Faces.length (b.Faces.map eF), .sl b.Creases.length (b.Creases.flatMap eCr)] 0 ∧ Mono H0 Hq ∧ (0 ≤ i2) ∧ (i2 ≤ (a.Creases.length : Int)) ∧ (∀ j : Int, 0 ≤ j → j < i2 → at_ a.Creases j = at_ b.Creases j)) (k := (((a.Creases.length : Int) : Int) - 0).toNat) ?_ ?_
 exact ⟨0, rfl, rfl, s43, s44, m45, by omega, by omega, by intro j; omega⟩
 rintro _ f53 H52 ⟨i2, rfl, s54, s55, s56, m57, hi20, hi21, pre2⟩
 refine AWP.seq ?_
 refine Sr ?_
 refine V rfl s54 (F rfl s55 fl_48_2 (L rfl rfl ty_46 rfl (C rfl (AOp.len (m := a.Creases.length) rfl rfl (.inr (.inl ⟨_, rfl⟩)) u_46 (B rfl rfl rfl rfl ?_)))))
 refine AOps.nil ?_
 change AWP _ _ _ _ _ _
 by_cases b58 : i2 < (a.Creases.length : Int)
 refine ct_ rfl (decide_eq_true b58) ?_
 refine AWP.skip ?_
 refine AWP.seq ?_
 refine bk_ ?_
 refine AWP.seq ?_
 refine AWP.region_quiet mixed (by kernel_rfl) 11 [] rfl (by kernel_rfl) (Mono H52) (Mono.refl _) ?_
 refine QF rfl s55 fl_48_2 (QL rfl rfl ty_46 rfl (QV rfl s54 (Q rfl (fun _ _ φ ψ => iS_ rfl (φ 78 rfl) (φ 79 rfl) sl_46 (by omega) (by omega) ⟨rfl, ψ⟩) (QL rfl rfl ty_91 (ldM eCr_len (by omega) (by omega)) (QF rfl s56 fl_48_2 (QL rfl rfl ty_46 rfl (QV rfl s54 (Q rfl (fun _ _ φ ψ => iS_ rfl (φ 83 rfl) (φ 84 rfl) sl_46 (by omega) (by omega) ⟨rfl, ψ⟩) (QL rfl rfl ty_91 (ldM eCr_len (by omega) (by omega)) (Q rfl (fun _ _ φ ψ => AOp.neAggD rfl (φ 81 rfl) (φ 86 rfl) teq91 (kokCr (v := (at_ a.Creases i2)) (by first | assumption | exact (ra.2.2.1 _ (at_memS (by omega) (by omega))))) (kokCr (v := (at_ b.Creases i2)) (by first | assumption | exact (rb.2.2.1 _ (at_memS (by omega) (by omega))))) (eCr_iff (at_ a.Creases i2) (at_ b.Creases i2)) ⟨rfl, ψ⟩) ?_))))))))))
 refine QE.done fun H59 m60 => ?_
 have m61 := m57.trans m60
 refine AOps.nil ?_
 change AWP _ _ _ _ _ _
 by_cases b62 : (at_ a.Creases i2) = (at_ b.Creases i2)
 refine cf_ rfl (nb (decide_eq_true b62)) ?_
 refine AWP.skip ?_
 refine AWP.region rfl ?_
 refine V rfl s54 (B rfl rfl rfl (iadd (by omega)) (A rfl rfl ?_))
 refine AOps.nil ?_
 exact ⟨_, by omega, i2 + 1, rfl, rfl, s55, s56, m61, by omega, by omega, by exact pre_step pre2 (b62)⟩
 refine ct_ rfl (nb (decide_eq_false b62)) ?_
 refine Sr ?_
 refine A rfl rfl ?_
 refine rt_ ?_
 refine Rr (Res.one rfl rfl) ?_ m61
 exact (congrArg AV.bool (rfl.trans (decide_eq_false (show ¬ (a = b) from by rintro rfl; first | omega | (exact absurd rfl b62))).symm))
 refine cf_ rfl (decide_eq_false b58) ?_
 refine AWP.exit ?_
 change AWP _ _ _ _ _ _
 refine Sr ?_
 refine A rfl rfl ?_
 refine rt_ ?_
 refine Rr (Res.one rfl rfl) ?_ m57
 exact (congrArg AV.bool (rfl.trans (decide_eq_true (show a = b from by exact cage_ext (ext_at (by omega) (fun j h1 h2 => pre0 j h1 (by omega))) (ext_at (by omega) (fun j h1 h2 => pre1 j h1 (by omega))) (ext_at (by omega) (fun j h1 h2 => pre2 j h1 (by omega))))).symm))
 refine ct_ rfl (nb (decide_eq_false b26)) ?_
 refine Sr ?_
 refine A rfl rfl ?_
 refine rt_ ?_
 refine Rr (Res.one rfl rfl) ?_ m22
 exact (congrArg AV.bool (rfl.trans (decide_eq_false (show ¬ (a = b) from by rintro rfl; first | omega | (exact absurd rfl b26))).symm))
 refine N rfl rfl (nb (decide_eq_false b25)) (N rfl rfl (nb (decide_eq_false b25)) (N rfl rfl (nb (decide_eq_false b25)) (N rfl rfl (nb (decide_eq_false b25)) (N rfl rfl (nb (decide_eq_false b25)) (N rfl rfl (nb (decide_eq_false b25)) (N rfl rfl (nb (decide_eq_false b25)) (C rfl (Pt _ rfl rfl (nb (decide_eq_false b25)) rfl ?_))))))))
 refine ct_ rfl rfl ?_
 refine Sr ?_
 refine A rfl rfl ?_
 refine rt_ ?_
 refine Rr (Res.one rfl rfl) ?_ m22
 exact (congrArg AV.bool (rfl.trans (decide_eq_false (show ¬ (a = b) from by rintro rfl; first | omega | (exact absurd rfl b25))).symm))
 refine N rfl rfl (nb (decide_eq_false b24)) (N rfl rfl (nb (decide_eq_false b24)) (N rfl rfl (nb (decide_eq_false b24)) (N rfl rfl (nb (decide_eq_false b24)) (N rfl rfl (nb (decide_eq_false b24)) (N rfl rfl (nb (decide_eq_false b24)) (N rfl rfl (nb (decide_eq_false b24)) (C rfl (Pt _ rfl rfl (nb (decide_eq_false b24)) rfl (V rfl rfl (N rfl rfl rfl (N rfl rfl rfl (N rfl rfl rfl (N rfl rfl rfl (N rfl rfl rfl (N rfl rfl rfl (N rfl rfl rfl (C rfl (Pt _ rfl rfl rfl rfl ?_))))))))))))))))))
 refine ct_ rfl rfl ?_
 refine Sr ?_
 refine A rfl rfl ?_
 refine rt_ ?_
 refine Rr (Res.one rfl rfl) ?_ m22
 exact (congrArg AV.bool (rfl.trans (decide_eq_false (show ¬ (a = b) from by rintro rfl; first | omega | (exact absurd rfl b24))).symm))
theorem c_Same (a b : SceneT) (ra : RanS a) (rb : RanS b) (hsc : a.Skins.length = a.Cages.length) : PC Tryz.prog 11 [.agg [.int .i64 a.Camera.Eye.X, .int .i64 a.Camera.Eye.Y, .int .i64 a.Camera.Eye.Z, .int .i64 a.Camera.First.X, .int .i64 a.Camera.First.Y, .int .i64 a.Camera.First.Z, .int .i64 a.Camera.Right.X, .int .i64 a.Camera.Right.Y, .int .i64 a.Camera.Right.Z, .int .i64 a.Camera.Down.X, .int .i64 a.Camera.Down.Y, .int .i64 a.Camera.Down.Z, .int .i64 a.Camera.W, .int .i64 a.Camera.H, .int .i64 a.Camera.Grid, .int .i64 a.Camera.Depth, .int .i64 a.Sky.R, .int .i64 a.Sky.G, .int .i64 a.Sky.B, .sl a.Lights.length (a.Lights.flatMap eLight), .sl a.Mats.length (a.Mats.flatMap eMat), .sl a.Texs.length (a.Texs.flatMap eTex), .sl a.Skins.length (a.Skins.flatMap eSkin), .sl a.Cages.length (a.Cages.flatMap eCage)], .agg [.int .i64 b.Camera.Eye.X, .int .i64 b.Camera.Eye.Y, .int .i64 b.Camera.Eye.Z, .int .i64 b.Camera.First.X, .int .i64 b.Camera.First.Y, .int .i64 b.Camera.First.Z, .int .i64 b.Camera.Right.X, .int .i64 b.Camera.Right.Y, .int .i64 b.Camera.Right.Z, .int .i64 b.Camera.Down.X, .int .i64 b.Camera.Down.Y, .int .i64 b.Camera.Down.Z, .int .i64 b.Camera.W, .int .i64 b.Camera.H, .int .i64 b.Camera.Grid, .int .i64 b.Camera.Depth, .int .i64 b.Sky.R, .int .i64 b.Sky.G, .int .i64 b.Sky.B, .sl b.Lights.length (b.Lights.flatMap eLight), .sl b.Mats.length (b.Mats.flatMap eMat), .sl b.Texs.length (b.Texs.flatMap eTex), .sl b.Skins.length (b.Skins.flatMap eSkin), .sl b.Cages.length (b.Cages.flatMap eCage)]] (.bool (decide (a = b))) := by
 intro H0
 have na1 := ra.nl; have na2 := ra.nm; have na3 := ra.nt; have na4 := ra.nk; have na5 := ra.nc
 have nb1 := rb.nl; have nb2 := rb.nm; have nb3 := rb.nt; have nb4 := rb.nk; have nb5 := rb.nc
 refine ACalls.of_body' (n := 187) rfl rfl rfl rfl ?_
 have m0 := Mono.refl H0
 refine Sr ?_
 refine C rfl (bx_ (.agg [.int .i64 a.Camera.Eye.X, .int .i64 a.Camera.Eye.Y, .int .i64 a.Camera.Eye.Z, .int .i64 a.Camera.First.X, .int .i64 a.Camera.First.Y, .int .i64 a.Camera.First.Z, .int .i64 a.Camera.Right.X, .int .i64 a.Camera.Right.Y, .int .i64 a.Camera.Right.Z, .int .i64 a.Camera.Down.X, .int .i64 a.Camera.Down.Y, .int .i64 a.Camera.Down.Z, .int .i64 a.Camera.W, .int .i64 a.Camera.H, .int .i64 a.Camera.Grid, .int .i64 a.Camera.Depth, .int .i64 a.Sky.R, .int .i64 a.Sky.G, .int .i64 a.Sky.B, .sl a.Lights.length (a.Lights.flatMap eLight), .sl a.Mats.length (a.Mats.flatMap eMat), .sl a.Texs.length (a.Texs.flatMap eTex), .sl a.Skins.length (a.Skins.flatMap eSkin), .sl a.Cages.length (a.Cages.flatMap eCage)]) rfl rfl rfl ?_)
 intro i1 H2 n3 h4 k5
 have z6 := Mono.free m0 n3
 have m7 := Mono.new m0 n3 k5
 refine C rfl (bx_ (.agg [.int .i64 b.Camera.Eye.X, .int .i64 b.Camera.Eye.Y, .int .i64 b.Camera.Eye.Z, .int .i64 b.Camera.First.X, .int .i64 b.Camera.First.Y, .int .i64 b.Camera.First.Z, .int .i64 b.Camera.Right.X, .int .i64 b.Camera.Right.Y, .int .i64 b.Camera.Right.Z, .int .i64 b.Camera.Down.X, .int .i64 b.Camera.Down.Y, .int .i64 b.Camera.Down.Z, .int .i64 b.Camera.W, .int .i64 b.Camera.H, .int .i64 b.Camera.Grid, .int .i64 b.Camera.Depth, .int .i64 b.Sky.R, .int .i64 b.Sky.G, .int .i64 b.Sky.B, .sl b.Lights.length (b.Lights.flatMap eLight), .sl b.Mats.length (b.Mats.flatMap eMat), .sl b.Texs.length (b.Texs.flatMap eTex), .sl b.Skins.length (b.Skins.flatMap eSkin), .sl b.Cages.length (b.Cages.flatMap eCage)]) rfl rfl rfl ?_)
 intro i8 H9 n10 h11 k12
 have e13 := ne_new h4 n10
 have z14 := Mono.free m7 n10
 have h15 := keep k12 (ne_new h4 n10) h4
 have m16 := Mono.new m7 n10 k12
 refine A rfl rfl ?_
 refine AWP.seq ?_
 refine AWP.seq ?_
 refine fz_ 2 h15 z6 rfl m16 fun H17 m18 k19 => ?_
 have h20 := (k19 _ (Ne.symm e13)).trans h11
 refine fz_ 3 h20 z14 rfl m18 fun H21 m22 k23 => ?_
 refine AWP.region rfl ?_
 refine F rfl rfl fl_35_0 (L rfl rfl ty_26 rfl (F rfl rfl fl_35_0 (L rfl rfl ty_26 rfl (C rfl (AOp.neAggD rfl rfl rfl teq26 (kokCam (v := a.Camera) (by first | assumption | exact ra.cam)) (kokCam (v := b.Camera) (by first | assumption | exact rb.cam)) (eCam_iff a.Camera b.Camera) (V rfl rfl ?_))))))
 by_cases b24 : a.Camera = b.Camera
 refine Y rfl rfl rfl (nb (decide_eq_true b24)) (Ff rfl rfl fl_35_1 (Y rfl rfl rfl (nb (decide_eq_true b24)) (Lf _ rfl rfl ty_28 rfl (Y rfl rfl rfl (nb (decide_eq_true b24)) (Ff rfl rfl fl_35_1 (Y rfl rfl rfl (nb (decide_eq_true b24)) (Lf _ rfl rfl ty_28 rfl (Y rfl rfl rfl (nb (decide_eq_true b24)) (AOp.neAggD rfl rfl rfl teq28 (kokCol (v := a.Sky) (by first | assumption | exact ra.sky)) (kokCol (v := b.Sky) (by first | assumption | exact rb.sky)) (eCol_iff a.Sky b.Sky) (C rfl (Pf _ rfl rfl (nb (decide_eq_true b24)) rfl (V rfl rfl ?_))))))))))))
 by_cases b25 : a.Sky = b.Sky
 refine Y rfl rfl rfl (nb (decide_eq_true b25)) (Ff rfl rfl fl_35_2 (Y rfl rfl rfl (nb (decide_eq_true b25)) (Lf _ rfl rfl ty_29 rfl (Y rfl rfl rfl (nb (decide_eq_true b25)) (AOp.len (m := a.Lights.length) rfl rfl (.inr (.inl ⟨_, rfl⟩)) u_29 (Y rfl rfl rfl (nb (decide_eq_true b25)) (Ff rfl rfl fl_35_2 (Y rfl rfl rfl (nb (decide_eq_true b25)) (Lf _ rfl rfl ty_29 rfl (Y rfl rfl rfl (nb (decide_eq_true b25)) (AOp.len (m := b.Lights.length) rfl rfl (.inr (.inl ⟨_, rfl⟩)) u_29 (Y rfl rfl rfl (nb (decide_eq_true b25)) (Bi _ rfl rfl rfl ine (C rfl (Pf _ rfl rfl (nb (decide_eq_true b25)) rfl (V rfl rfl ?_))))))))))))))))
 by_cases b26 : (a.Lights.length : Int) = (b.Lights.length : Int)
 refine Y rfl rfl rfl (nb (decide_eq_true b26)) (Ff rfl rfl fl_35_3 (Y rfl rfl rfl (nb (decide_eq_true b26)) (Lf _ rfl rfl ty_30 rfl (Y rfl rfl rfl (nb (decide_eq_true b26)) (AOp.len (m := a.Mats.length) rfl rfl (.inr (.inl ⟨_, rfl⟩)) u_30 (Y rfl rfl rfl (nb (decide_eq_true b26)) (Ff rfl rfl fl_35_3 (Y rfl rfl rfl (nb (decide_eq_true b26)) (Lf _ rfl rfl ty_30 rfl (Y rfl rfl rfl (nb (decide_eq_true b26)) (AOp.len (m := b.Mats.length) rfl rfl (.inr (.inl ⟨_, rfl⟩)) u_30 (Y rfl rfl rfl (nb (decide_eq_true b26)) (Bi _ rfl rfl rfl ine (C rfl (Pf _ rfl rfl (nb (decide_eq_true b26)) rfl (V rfl rfl ?_))))))))))))))))
 by_cases b27 : (a.Mats.length : Int) = (b.Mats.length : Int)
 refine Y rfl rfl rfl (nb (decide_eq_true b27)) (Ff rfl rfl fl_35_4 (Y rfl rfl rfl (nb (decide_eq_true b27)) (Lf _ rfl rfl ty_31 rfl (Y rfl rfl rfl (nb (decide_eq_true b27)) (AOp.len (m := a.Texs.length) rfl rfl (.inr (.inl ⟨_, rfl⟩)) u_31 (Y rfl rfl rfl (nb (decide_eq_true b27)) (Ff rfl rfl fl_35_4 (Y rfl rfl rfl (nb (decide_eq_true b27)) (Lf _ rfl rfl ty_31 rfl (Y rfl rfl rfl (nb (decide_eq_true b27)) (AOp.len (m := b.Texs.length) rfl rfl (.inr (.inl ⟨_, rfl⟩)) u_31 (Y rfl rfl rfl (nb (decide_eq_true b27)) (Bi _ rfl rfl rfl ine (C rfl (Pf _ rfl rfl (nb (decide_eq_true b27)) rfl (V rfl rfl ?_))))))))))))))))
 by_cases b28 : (a.Texs.length : Int) = (b.Texs.length : Int)
 refine Y rfl rfl rfl (nb (decide_eq_true b28)) (Ff rfl rfl fl_35_5 (Y rfl rfl rfl (nb (decide_eq_true b28)) (Lf _ rfl rfl ty_32 rfl (Y rfl rfl rfl (nb (decide_eq_true b28)) (AOp.len (m := a.Skins.length) rfl rfl (.inr (.inl ⟨_, rfl⟩)) u_32 (Y rfl rfl rfl (nb (decide_eq_true b28)) (Ff rfl rfl fl_35_5 (Y rfl rfl rfl (nb (decide_eq_true b28)) (Lf _ rfl rfl ty_32 rfl (Y rfl rfl rfl (nb (decide_eq_true b28)) (AOp.len (m := b.Skins.length) rfl rfl (.inr (.inl ⟨_, rfl⟩)) u_32 (Y rfl rfl rfl (nb (decide_eq_true b28)) (Bi _ rfl rfl rfl ine (C rfl (Pf _ rfl rfl (nb (decide_eq_true b28)) rfl (V rfl rfl ?_))))))))))))))))
 by_cases b29 : (a.Skins.length : Int) = (b.Skins.length : Int)
 refine Y rfl rfl rfl (nb (decide_eq_true b29)) (Ff rfl rfl fl_35_6 (Y rfl rfl rfl (nb (decide_eq_true b29)) (Lf _ rfl rfl ty_33 rfl (Y rfl rfl rfl (nb (decide_eq_true b29)) (AOp.len (m := a.Cages.length) rfl rfl (.inr (.inl ⟨_, rfl⟩)) u_33 (Y rfl rfl rfl (nb (decide_eq_true b29)) (Ff rfl rfl fl_35_6 (Y rfl rfl rfl (nb (decide_eq_true b29)) (Lf _ rfl rfl ty_33 rfl (Y rfl rfl rfl (nb (decide_eq_true b29)) (AOp.len (m := b.Cages.length) rfl rfl (.inr (.inl ⟨_, rfl⟩)) u_33 (Y rfl rfl rfl (nb (decide_eq_true b29)) (Bi _ rfl rfl rfl ine (C rfl (Pf _ rfl rfl (nb (decide_eq_true b29)) rfl ?_)))))))))))))))
 refine AOps.nil ?_
 change AWP _ _ _ _ _ _
 by_cases b30 : (a.Cages.length : Int) = (b.Cages.length : Int)
 refine cf_ rfl (nb (decide_eq_true b30)) ?_
 refine AWP.skip ?_
 refine AWP.seq ?_
 refine Sr ?_
 refine A rfl rfl ?_
 refine bk_ ?_
 refine AWP.loop (fun q31 fq Hq => ∃ (i0 : Int), q31 = (((a.Lights.length : Int) : Int) - i0).toNat ∧ fq 5 = .int .i64 i0 ∧ fq 2 = .fptr [.int .i64 a.Camera.Eye.X, .int .i64 a.Camera.Eye.Y, .int .i64 a.Camera.Eye.Z, .int .i64 a.Camera.First.X, .int .i64 a.Camera.First.Y, .int .i64 a.Camera.First.Z, .int .i64 a.Camera.Right.X, .int .i64 a.Camera.Right.Y, .int .i64 a.Camera.Right.Z, .int .i64 a.Camera.Down.X, .int .i64 a.Camera.Down.Y, .int .i64 a.Camera.Down.Z, .int .i64 a.Camera.W, .int .i64 a.Camera.H, .int .i64 a.Camera.Grid, .int .i64 a.Camera.Depth, .int .i64 a.Sky.R, .int .i64 a.Sky.G, .int .i64 a.Sky.B, .sl a.Lights.length (a.Lights.flatMap eLight), .sl a.Mats.length (a.Mats.flatMap eMat), .sl a.Texs.length (a.Texs.flatMap eTex), .sl a.Skins.length (a.Skins.flatMap eSkin), .sl a.Cages.length (a.Cages.flatMap eCage)] 0 ∧ fq 3 = .fptr [.int .i64 b.Camera.Eye.X, .int .i64 b.Camera.Eye.Y, .int .i64 b.Camera.Eye.Z, .int .i64 b.Camera.First.X, .int .i64 b.Camera.First.Y, .int .i64 b.Camera.First.Z, .int .i64 b.Camera.Right.X, .int .i64 b.Camera.Right.Y, .int .i64 b.Camera.Right.Z, .int .i64 b.Camera.Down.X, .int .i64 b.Camera.Down.Y, .int .i64 b.Camera.Down.Z, .int .i64 b.Camera.W, .int .i64 b.Camera.H, .int .i64 b.Camera.Grid, .int .i64 b.Camera.Depth, .int .i64 b.Sky.R, .int .i64 b.Sky.G, .int .i64 b.Sky.B, .sl b.Lights.length (b.Lights.flatMap eLight), .sl b.Mats.length (b.Mats.flatMap eMat), .sl b.Texs.length (b.Texs.flatMap eTex), .sl b.Skins.length (b.Skins.flatMap eSkin), .sl b.Cages.length (b.Cages.flatMap eCage)] 0 ∧ Mono H0 Hq ∧ (0 ≤ i0) ∧ (i0 ≤ (a.Lights.length : Int)) ∧ (∀ j : Int, 0 ≤ j → j < i0 → at_ a.Lights j = at_ b.Lights j)) (k := (((a.Lights.length : Int) : Int) - 0).toNat) ?_ ?_
 exact ⟨0, rfl, rfl, rfl, rfl, m22, by omega, by omega, by intro j; omega⟩
 rintro _ f33 H32 ⟨i0, rfl, s34, s35, s36, m37, hi00, hi01, pre0⟩
 refine AWP.seq ?_
 refine Sr ?_
 refine V rfl s34 (F rfl s35 fl_35_2 (L rfl rfl ty_29 rfl (C rfl (AOp.len (m := a.Lights.length) rfl rfl (.inr (.inl ⟨_, rfl⟩)) u_29 (B rfl rfl rfl rfl ?_)))))
 refine AOps.nil ?_
 change AWP _ _ _ _ _ _
 by_cases b38 : i0 < (a.Lights.length : Int)
 refine ct_ rfl (decide_eq_true b38) ?_
 refine AWP.skip ?_
 refine AWP.seq ?_
 refine bk_ ?_
 refine AWP.seq ?_
 refine AWP.region_quiet mixed (by kernel_rfl) 11 [] rfl (by kernel_rfl) (Mono H32) (Mono.refl _) ?_
 refine QF rfl s35 fl_35_2 (QL rfl rfl ty_29 rfl (QV rfl s34 (Q rfl (fun _ _ φ ψ => iS_ rfl (φ 76 rfl) (φ 77 rfl) sl_29 (by omega) (by omega) ⟨rfl, ψ⟩) (QL rfl rfl ty_65 (ldM eLight_len (by omega) (by omega)) (QF rfl s36 fl_35_2 (QL rfl rfl ty_29 rfl (QV rfl s34 (Q rfl (fun _ _ φ ψ => iS_ rfl (φ 81 rfl) (φ 82 rfl) sl_29 (by omega) (by omega) ⟨rfl, ψ⟩) (QL rfl rfl ty_65 (ldM eLight_len (by omega) (by omega)) (Q rfl (fun _ _ φ ψ => AOp.neAggD rfl (φ 79 rfl) (φ 84 rfl) teq65 (kokLight (v := (at_ a.Lights i0)) (by first | assumption | exact (ra.l _ (at_memS (by omega) (by omega))))) (kokLight (v := (at_ b.Lights i0)) (by first | assumption | exact (rb.l _ (at_memS (by omega) (by omega))))) (eLight_iff (at_ a.Lights i0) (at_ b.Lights i0)) ⟨rfl, ψ⟩) ?_))))))))))
 refine QE.done fun H39 m40 => ?_
 have m41 := m37.trans m40
 refine AOps.nil ?_
 change AWP _ _ _ _ _ _
 by_cases b42 : (at_ a.Lights i0) = (at_ b.Lights i0)
 refine cf_ rfl (nb (decide_eq_true b42)) ?_
 refine AWP.skip ?_
 refine AWP.region rfl ?_
 refine V rfl s34 (B rfl rfl rfl (iadd (by omega)) (A rfl rfl ?_))
 refine AOps.nil ?_
 exact ⟨_, by omega, i0 + 1, rfl, rfl, s35, s36, m41, by omega, by omega, by exact pre_step pre0 (b42)⟩
 refine ct_ rfl (nb (decide_eq_false b42)) ?_
 refine Sr ?_
 refine A rfl rfl ?_
 refine rt_ ?_
 refine Rr (Res.one rfl rfl) ?_ m41
 exact (congrArg AV.bool (rfl.trans (decide_eq_false (show ¬ (a = b) from by rintro rfl; first | omega | (exact absurd rfl b42))).symm))
 refine cf_ rfl (decide_eq_false b38) ?_
 refine AWP.exit ?_
 change AWP _ _ _ _ _ _
 refine AWP.seq ?_
 refine Sr ?_
 refine A rfl rfl ?_
 refine bk_ ?_
 refine AWP.loop (fun q43 fq Hq => ∃ (i1 : Int), q43 = (((a.Mats.length : Int) : Int) - i1).toNat ∧ fq 6 = .int .i64 i1 ∧ fq 2 = .fptr [.int .i64 a.Camera.Eye.X, .int .i64 a.Camera.Eye.Y, .int .i64 a.Camera.Eye.Z, .int .i64 a.Camera.First.X, .int .i64 a.Camera.First.Y, .int .i64 a.Camera.First.Z, .int .i64 a.Camera.Right.X, .int .i64 a.Camera.Right.Y, .int .i64 a.Camera.Right.Z, .int .i64 a.Camera.Down.X, .int .i64 a.Camera.Down.Y, .int .i64 a.Camera.Down.Z, .int .i64 a.Camera.W, .int .i64 a.Camera.H, .int .i64 a.Camera.Grid, .int .i64 a.Camera.Depth, .int .i64 a.Sky.R, .int .i64 a.Sky.G, .int .i64 a.Sky.B, .sl a.Lights.length (a.Lights.flatMap eLight), .sl a.Mats.length (a.Mats.flatMap eMat), .sl a.Texs.length (a.Texs.flatMap eTex), .sl a.Skins.length (a.Skins.flatMap eSkin), .sl a.Cages.length (a.Cages.flatMap eCage)] 0 ∧ fq 3 = .fptr [.int .i64 b.Camera.Eye.X, .int .i64 b.Camera.Eye.Y, .int .i64 b.Camera.Eye.Z, .int .i64 b.Camera.First.X, .int .i64 b.Camera.First.Y, .int .i64 b.Camera.First.Z, .int .i64 b.Camera.Right.X, .int .i64 b.Camera.Right.Y, .int .i64 b.Camera.Right.Z, .int .i64 b.Camera.Down.X, .int .i64 b.Camera.Down.Y, .int .i64 b.Camera.Down.Z, .int .i64 b.Camera.W, .int .i64 b.Camera.H, .int .i64 b.Camera.Grid, .int .i64 b.Camera.Depth, .int .i64 b.Sky.R, .int .i64 b.Sky.G, .int .i64 b.Sky.B, .sl b.Lights.length (b.Lights.flatMap eLight), .sl b.Mats.length (b.Mats.flatMap eMat), .sl b.Texs.length (b.Texs.flatMap eTex), .sl b.Skins.length (b.Skins.flatMap eSkin), .sl b.Cages.length (b.Cages.flatMap eCage)] 0 ∧ Mono H0 Hq ∧ (0 ≤ i1) ∧ (i1 ≤ (a.Mats.length : Int)) ∧ (∀ j : Int, 0 ≤ j → j < i1 → at_ a.Mats j = at_ b.Mats j)) (k := (((a.Mats.length : Int) : Int) - 0).toNat) ?_ ?_
 exact ⟨0, rfl, rfl, s35, s36, m37, by omega, by omega, by intro j; omega⟩
 rintro _ f45 H44 ⟨i1, rfl, s46, s47, s48, m49, hi10, hi11, pre1⟩
 refine AWP.seq ?_
 refine Sr ?_
 refine V rfl s46 (F rfl s47 fl_35_3 (L rfl rfl ty_30 rfl (C rfl (AOp.len (m := a.Mats.length) rfl rfl (.inr (.inl ⟨_, rfl⟩)) u_30 (B rfl rfl rfl rfl ?_)))))
 refine AOps.nil ?_
 change AWP _ _ _ _ _ _
 by_cases b50 : i1 < (a.Mats.length : Int)
 refine ct_ rfl (decide_eq_true b50) ?_
 refine AWP.skip ?_
 refine AWP.seq ?_
 refine bk_ ?_
 refine AWP.seq ?_
 refine AWP.region_quiet mixed (by kernel_rfl) 11 [] rfl (by kernel_rfl) (Mono H44) (Mono.refl _) ?_
 refine QF rfl s47 fl_35_3 (QL rfl rfl ty_30 rfl (QV rfl s46 (Q rfl (fun _ _ φ ψ => iS_ rfl (φ 94 rfl) (φ 95 rfl) sl_30 (by omega) (by omega) ⟨rfl, ψ⟩) (QL rfl rfl ty_67 (ldM eMat_len (by omega) (by omega)) (QF rfl s48 fl_35_3 (QL rfl rfl ty_30 rfl (QV rfl s46 (Q rfl (fun _ _ φ ψ => iS_ rfl (φ 99 rfl) (φ 100 rfl) sl_30 (by omega) (by omega) ⟨rfl, ψ⟩) (QL rfl rfl ty_67 (ldM eMat_len (by omega) (by omega)) (Q rfl (fun _ _ φ ψ => AOp.neAggD rfl (φ 97 rfl) (φ 102 rfl) teq67 (kokMat (v := (at_ a.Mats i1)) (by first | assumption | exact (ra.m _ (at_memS (by omega) (by omega))))) (kokMat (v := (at_ b.Mats i1)) (by first | assumption | exact (rb.m _ (at_memS (by omega) (by omega))))) (eMat_iff (at_ a.Mats i1) (at_ b.Mats i1)) ⟨rfl, ψ⟩) ?_))))))))))
 refine QE.done fun H51 m52 => ?_
 have m53 := m49.trans m52
 refine AOps.nil ?_
 change AWP _ _ _ _ _ _
 by_cases b54 : (at_ a.Mats i1) = (at_ b.Mats i1)
 refine cf_ rfl (nb (decide_eq_true b54)) ?_
 refine AWP.skip ?_
 refine AWP.region rfl ?_
 refine V rfl s46 (B rfl rfl rfl (iadd (by omega)) (A rfl rfl ?_))
 refine AOps.nil ?_
 exact ⟨_, by omega, i1 + 1, rfl, rfl, s47, s48, m53, by omega, by omega, by exact pre_step pre1 (b54)⟩
 refine ct_ rfl (nb (decide_eq_false b54)) ?_
 refine Sr ?_
 refine A rfl rfl ?_
 refine rt_ ?_
 refine Rr (Res.one rfl rfl) ?_ m53
 exact (congrArg AV.bool (rfl.trans (decide_eq_false (show ¬ (a = b) from by rintro rfl; first | omega | (exact absurd rfl b54))).symm))
 refine cf_ rfl (decide_eq_false b50) ?_
 refine AWP.exit ?_
 change AWP _ _ _ _ _ _
 refine AWP.seq ?_
 refine Sr ?_
 refine A rfl rfl ?_
 refine bk_ ?_
 refine AWP.loop (fun q55 fq Hq => ∃ (i2 : Int), q55 = (((a.Texs.length : Int) : Int) - i2).toNat ∧ fq 7 = .int .i64 i2 ∧ fq 2 = .fptr [.int .i64 a.Camera.Eye.X, .int .i64 a.Camera.Eye.Y, .int .i64 a.Camera.Eye.Z, .int .i64 a.Camera.First.X, .int .i64 a.Camera.First.Y, .int .i64 a.Camera.First.Z, .int .i64 a.Camera.Right.X, .int .i64 a.Camera.Right.Y, .int .i64 a.Camera.Right.Z, .int .i64 a.Camera.Down.X, .int .i64 a.Camera.Down.Y, .int .i64 a.Camera.Down.Z, .int .i64 a.Camera.W, .int .i64 a.Camera.H, .int .i64 a.Camera.Grid, .int .i64 a.Camera.Depth, .int .i64 a.Sky.R, .int .i64 a.Sky.G, .int .i64 a.Sky.B, .sl a.Lights.length (a.Lights.flatMap eLight), .sl a.Mats.length (a.Mats.flatMap eMat), .sl a.Texs.length (a.Texs.flatMap eTex), .sl a.Skins.length (a.Skins.flatMap eSkin), .sl a.Cages.length (a.Cages.flatMap eCage)] 0 ∧ fq 3 = .fptr [.int .i64 b.Camera.Eye.X, .int .i64 b.Camera.Eye.Y, .int .i64 b.Camera.Eye.Z, .int .i64 b.Camera.First.X, .int .i64 b.Camera.First.Y, .int .i64 b.Camera.First.Z, .int .i64 b.Camera.Right.X, .int .i64 b.Camera.Right.Y, .int .i64 b.Camera.Right.Z, .int .i64 b.Camera.Down.X, .int .i64 b.Camera.Down.Y, .int .i64 b.Camera.Down.Z, .int .i64 b.Camera.W, .int .i64 b.Camera.H, .int .i64 b.Camera.Grid, .int .i64 b.Camera.Depth, .int .i64 b.Sky.R, .int .i64 b.Sky.G, .int .i64 b.Sky.B, .sl b.Lights.length (b.Lights.flatMap eLight), .sl b.Mats.length (b.Mats.flatMap eMat), .sl b.Texs.length (b.Texs.flatMap eTex), .sl b.Skins.length (b.Skins.flatMap eSkin), .sl b.Cages.length (b.Cages.flatMap eCage)] 0 ∧ Mono H0 Hq ∧ (0 ≤ i2) ∧ (i2 ≤ (a.Texs.length : Int)) ∧ (∀ j : Int, 0 ≤ j → j < i2 → at_ a.Texs j = at_ b.Texs j)) (k := (((a.Texs.length : Int) : Int) - 0).toNat) ?_ ?_
 exact ⟨0, rfl, rfl, s47, s48, m49, by omega, by omega, by intro j; omega⟩
 rintro _ f57 H56 ⟨i2, rfl, s58, s59, s60, m61, hi20, hi21, pre2⟩
 refine AWP.seq ?_
 refine Sr ?_
 refine V rfl s58 (F rfl s59 fl_35_4 (L rfl rfl ty_31 rfl (C rfl (AOp.len (m := a.Texs.length) rfl rfl (.inr (.inl ⟨_, rfl⟩)) u_31 (B rfl rfl rfl rfl ?_)))))
 refine AOps.nil ?_
 change AWP _ _ _ _ _ _
 by_cases b62 : i2 < (a.Texs.length : Int)
 refine ct_ rfl (decide_eq_true b62) ?_
 refine AWP.skip ?_
 refine AWP.seq ?_
 refine bk_ ?_
 refine Sr ?_
 refine F rfl s59 fl_35_4 (L rfl rfl ty_31 rfl (V rfl s58 (C rfl (iS_ rfl rfl rfl sl_31 (by omega) (by omega) (L rfl rfl ty_70 (ldM eTex_len (by omega) (by omega)) (C rfl (al_ rfl tz_70 ?_)))))))
 intro i63 H64 n65 h66 k67
 have z68 := Mono.free m61 n65
 have m69 := Mono.new m61 n65 k67
 refine C rfl (Sw rfl rfl ts_70 h66 rfl rfl rfl ?_)
 intro H70 h71 k72
 have m74 := Mono.set m69 z68 k72
 refine AWP.seq ?_
 refine fz_ 8 h71 z68 rfl m74 fun H75 m76 k77 => ?_
 refine AWP.region rfl ?_
 refine F rfl s60 fl_35_4 (L rfl rfl ty_31 rfl (V rfl s58 (C rfl (iS_ rfl rfl rfl sl_31 (by omega) (by omega) (L rfl rfl ty_70 (ldM eTex_len (by omega) (by omega)) (C rfl (al_ rfl tz_70 ?_)))))))
 intro i78 H79 n80 h81 k82
 have z83 := Mono.free m76 n80
 have m84 := Mono.new m76 n80 k82
 refine C rfl (Sw rfl rfl ts_70 h81 rfl rfl rfl ?_)
 intro H85 h86 k87
 have m89 := Mono.set m84 z83 k87
 refine AWP.seq ?_
 refine fz_ 9 h86 z83 rfl m89 fun H90 m91 k92 => ?_
 refine AWP.region rfl ?_
 refine F rfl rfl fl_70_0 (L rfl rfl ty_9 rfl (F rfl rfl fl_70_0 (L rfl rfl ty_9 rfl (C rfl (AOp.sneD rfl rfl rfl (V rfl rfl ?_))))))
 by_cases b93 : ((at_ a.Texs i2).Name) = ((at_ b.Texs i2).Name)
 refine Y rfl rfl rfl (nb (decide_eq_true b93)) (Ff rfl rfl fl_70_1 (Y rfl rfl rfl (nb (decide_eq_true b93)) (Lf _ rfl rfl ty_3 rfl (Y rfl rfl rfl (nb (decide_eq_true b93)) (Ff rfl rfl fl_70_1 (Y rfl rfl rfl (nb (decide_eq_true b93)) (Lf _ rfl rfl ty_3 rfl (Y rfl rfl rfl (nb (decide_eq_true b93)) (Bi _ rfl rfl rfl ine (C rfl (Pf _ rfl rfl (nb (decide_eq_true b93)) rfl (V rfl rfl ?_))))))))))))
 by_cases b94 : (at_ a.Texs i2).W = (at_ b.Texs i2).W
 refine Y rfl rfl rfl (nb (decide_eq_true b94)) (Ff rfl rfl fl_70_2 (Y rfl rfl rfl (nb (decide_eq_true b94)) (Lf _ rfl rfl ty_3 rfl (Y rfl rfl rfl (nb (decide_eq_true b94)) (Ff rfl rfl fl_70_2 (Y rfl rfl rfl (nb (decide_eq_true b94)) (Lf _ rfl rfl ty_3 rfl (Y rfl rfl rfl (nb (decide_eq_true b94)) (Bi _ rfl rfl rfl ine (C rfl (Pf _ rfl rfl (nb (decide_eq_true b94)) rfl (V rfl rfl ?_))))))))))))
 by_cases b95 : (at_ a.Texs i2).H = (at_ b.Texs i2).H
 refine Y rfl rfl rfl (nb (decide_eq_true b95)) (Ff rfl rfl fl_70_3 (Y rfl rfl rfl (nb (decide_eq_true b95)) (Lf _ rfl rfl ty_68 rfl (Y rfl rfl rfl (nb (decide_eq_true b95)) (Ff rfl rfl fl_70_3 (Y rfl rfl rfl (nb (decide_eq_true b95)) (Lf _ rfl rfl ty_68 rfl (Y rfl rfl rfl (nb (decide_eq_true b95)) (Pc («as» := [.sl ((at_ a.Texs i2).Rows).length (((at_ a.Texs i2).Rows).map eI), .sl ((at_ b.Texs i2).Rows).length (((at_ b.Texs i2).Rows).map eI)]) rfl rfl (rfl) tf_20 (c_sameInts _ _ ((ra.t _ (at_memS (by omega) (by omega))).2.2.2.1) ((rb.t _ (at_memS (by omega) (by omega))).2.2.2.1)) ?_)))))))))
 intro H96 m97
 have m98 := m91.trans m97
 refine Y rfl rfl rfl (nb (decide_eq_true b95)) (AOp.not rfl rfl (C rfl (Pf _ rfl rfl (nb (decide_eq_true b95)) rfl ?_)))
 refine AOps.nil ?_
 change AWP _ _ _ _ _ _
 by_cases b99 : ((at_ a.Texs i2).Rows) = ((at_ b.Texs i2).Rows)
 refine cf_ rfl (nb (decide_eq_true b99)) ?_
 refine AWP.skip ?_
 refine AWP.region rfl ?_
 refine V rfl s58 (B rfl rfl rfl (iadd (by omega)) (A rfl rfl ?_))
 refine AOps.nil ?_
 exact ⟨_, by omega, i2 + 1, rfl, rfl, s59, s60, m98, by omega, by omega, by exact pre_step pre2 (tex_ext b93 b94 b95 b99)⟩
 refine ct_ rfl (nb (decide_eq_false b99)) ?_
 refine Sr ?_
 refine A rfl rfl ?_
 refine rt_ ?_
 refine Rr (Res.one rfl rfl) ?_ m98
 exact (congrArg AV.bool (rfl.trans (decide_eq_false (show ¬ (a = b) from by rintro rfl; first | omega | (exact absurd rfl b99))).symm))
 refine N rfl rfl (nb (decide_eq_false b95)) (N rfl rfl (nb (decide_eq_false b95)) (N rfl rfl (nb (decide_eq_false b95)) (N rfl rfl (nb (decide_eq_false b95)) (N rfl rfl (nb (decide_eq_false b95)) (N rfl rfl (nb (decide_eq_false b95)) (C rfl (Pt _ rfl rfl (nb (decide_eq_false b95)) rfl ?_)))))))
 refine ct_ rfl rfl ?_
 refine Sr ?_
 refine A rfl rfl ?_
 refine rt_ ?_
 refine Rr (Res.one rfl rfl) ?_ m91
 exact (congrArg AV.bool (rfl.trans (decide_eq_false (show ¬ (a = b) from by rintro rfl; first | omega | (exact absurd rfl b95))).symm))
 refine N rfl rfl (nb (decide_eq_false b94)) (N rfl rfl (nb (decide_eq_false b94)) (N rfl rfl (nb (decide_eq_false b94)) (N rfl rfl (nb (decide_eq_false b94)) (N rfl rfl (nb (decide_eq_false b94)) (C rfl (Pt _ rfl rfl (nb (decide_eq_false b94)) rfl (V rfl rfl (N rfl rfl rfl (N rfl rfl rfl (N rfl rfl rfl (N rfl rfl rfl (N rfl rfl rfl (N rfl rfl rfl (C rfl (Pt _ rfl rfl rfl rfl ?_)))))))))))))))
 refine ct_ rfl rfl ?_
 refine Sr ?_
 refine A rfl rfl ?_
 refine rt_ ?_
 refine Rr (Res.one rfl rfl) ?_ m91
 exact (congrArg AV.bool (rfl.trans (decide_eq_false (show ¬ (a = b) from by rintro rfl; first | omega | (exact absurd rfl b94))).symm))
 refine N rfl rfl (nb (decide_eq_false b93)) (N rfl rfl (nb (decide_eq_false b93)) (N rfl rfl (nb (decide_eq_false b93)) (N rfl rfl (nb (decide_eq_false b93)) (N rfl rfl (nb (decide_eq_false b93)) (C rfl (Pt _ rfl rfl (nb (decide_eq_false b93)) rfl (V rfl rfl (N rfl rfl rfl (N rfl rfl rfl (N rfl rfl rfl (N rfl rfl rfl (N rfl rfl rfl (C rfl (Pt _ rfl rfl rfl rfl (V rfl rfl (N rfl rfl rfl (N rfl rfl rfl (N rfl rfl rfl (N rfl rfl rfl ?_)))))))))))))))))))
 refine N rfl rfl rfl (N rfl rfl rfl (C rfl (Pt _ rfl rfl rfl rfl ?_)))
 refine ct_ rfl rfl ?_
 refine Sr ?_
 refine A rfl rfl ?_
 refine rt_ ?_
 refine Rr (Res.one rfl rfl) ?_ m91
 exact (congrArg AV.bool (rfl.trans (decide_eq_false (show ¬ (a = b) from by rintro rfl; first | omega | (exact absurd rfl b93))).symm))
 refine cf_ rfl (decide_eq_false b62) ?_
 refine AWP.exit ?_
 change AWP _ _ _ _ _ _
 refine AWP.seq ?_
 refine Sr ?_
 refine A rfl rfl ?_
 refine bk_ ?_
 refine AWP.loop (fun q100 fq Hq => ∃ (i3 : Int), q100 = (((a.Skins.length : Int) : Int) - i3).toNat ∧ fq 10 = .int .i64 i3 ∧ fq 2 = .fptr [.int .i64 a.Camera.Eye.X, .int .i64 a.Camera.Eye.Y, .int .i64 a.Camera.Eye.Z, .int .i64 a.Camera.First.X, .int .i64 a.Camera.First.Y, .int .i64 a.Camera.First.Z, .int .i64 a.Camera.Right.X, .int .i64 a.Camera.Right.Y, .int .i64 a.Camera.Right.Z, .int .i64 a.Camera.Down.X, .int .i64 a.Camera.Down.Y, .int .i64 a.Camera.Down.Z, .int .i64 a.Camera.W, .int .i64 a.Camera.H, .int .i64 a.Camera.Grid, .int .i64 a.Camera.Depth, .int .i64 a.Sky.R, .int .i64 a.Sky.G, .int .i64 a.Sky.B, .sl a.Lights.length (a.Lights.flatMap eLight), .sl a.Mats.length (a.Mats.flatMap eMat), .sl a.Texs.length (a.Texs.flatMap eTex), .sl a.Skins.length (a.Skins.flatMap eSkin), .sl a.Cages.length (a.Cages.flatMap eCage)] 0 ∧ fq 3 = .fptr [.int .i64 b.Camera.Eye.X, .int .i64 b.Camera.Eye.Y, .int .i64 b.Camera.Eye.Z, .int .i64 b.Camera.First.X, .int .i64 b.Camera.First.Y, .int .i64 b.Camera.First.Z, .int .i64 b.Camera.Right.X, .int .i64 b.Camera.Right.Y, .int .i64 b.Camera.Right.Z, .int .i64 b.Camera.Down.X, .int .i64 b.Camera.Down.Y, .int .i64 b.Camera.Down.Z, .int .i64 b.Camera.W, .int .i64 b.Camera.H, .int .i64 b.Camera.Grid, .int .i64 b.Camera.Depth, .int .i64 b.Sky.R, .int .i64 b.Sky.G, .int .i64 b.Sky.B, .sl b.Lights.length (b.Lights.flatMap eLight), .sl b.Mats.length (b.Mats.flatMap eMat), .sl b.Texs.length (b.Texs.flatMap eTex), .sl b.Skins.length (b.Skins.flatMap eSkin), .sl b.Cages.length (b.Cages.flatMap eCage)] 0 ∧ Mono H0 Hq ∧ (0 ≤ i3) ∧ (i3 ≤ (a.Skins.length : Int)) ∧ (∀ j : Int, 0 ≤ j → j < i3 → at_ a.Skins j = at_ b.Skins j) ∧ (∀ j : Int, 0 ≤ j → j < i3 → at_ a.Cages j = at_ b.Cages j)) (k := (((a.Skins.length : Int) : Int) - 0).toNat) ?_ ?_
 exact ⟨0, rfl, rfl, s59, s60, m61, by omega, by omega, by intro j; omega, by intro j; omega⟩
 rintro _ f102 H101 ⟨i3, rfl, s103, s104, s105, m106, hi30, hi31, pre3, pre4⟩
 refine AWP.seq ?_
 refine Sr ?_
 refine V rfl s103 (F rfl s104 fl_35_5 (L rfl rfl ty_32 rfl (C rfl (AOp.len (m := a.Skins.length) rfl rfl (.inr (.inl ⟨_, rfl⟩)) u_32 (B rfl rfl rfl rfl ?_)))))
 refine AOps.nil ?_
 change AWP _ _ _ _ _ _
 by_cases b107 : i3 < (a.Skins.length : Int)
 refine ct_ rfl (decide_eq_true b107) ?_
 refine AWP.skip ?_
 refine AWP.seq ?_
 refine bk_ ?_
 refine AWP.seq ?_
 refine AWP.region_quiet mixed (by kernel_rfl) 25 [] rfl (by kernel_rfl) (Mono H101) (Mono.refl _) ?_
 refine QF rfl s104 fl_35_5 (QL rfl rfl ty_32 rfl (QV rfl s103 (Q rfl (fun _ _ φ ψ => iS_ rfl (φ 156 rfl) (φ 157 rfl) sl_32 (by omega) (by omega) ⟨rfl, ψ⟩) (QL rfl rfl ty_50 (ldM eSkin_len (by omega) (by omega)) (QF rfl s105 fl_35_5 (QL rfl rfl ty_32 rfl (QV rfl s103 (Q rfl (fun _ _ φ ψ => iS_ rfl (φ 161 rfl) (φ 162 rfl) sl_32 (by omega) (by omega) ⟨rfl, ψ⟩) (QL rfl rfl ty_50 (ldM eSkin_len (by omega) (by omega)) (Q rfl (fun _ _ φ ψ => AOp.neAggD rfl (φ 159 rfl) (φ 164 rfl) teq50 (kokSkin (v := (at_ a.Skins i3)) (by first | assumption | exact (ra.k _ (at_memS (by omega) (by omega))))) (kokSkin (v := (at_ b.Skins i3)) (by first | assumption | exact (rb.k _ (at_memS (by omega) (by omega))))) (eSkin_iff (at_ a.Skins i3) (at_ b.Skins i3)) ⟨rfl, ψ⟩) (QV rfl rfl ?_)))))))))))
 by_cases b108 : (at_ a.Skins i3) = (at_ b.Skins i3)
 refine QE.op rfl rfl (QOp.yes rfl rfl rfl rfl (nb (decide_eq_true b108)) fun f' H' hf hM => Ff rfl ((hf 2 rfl).trans s104) fl_35_6 ⟨rfl, hM⟩) ?_
 refine QE.op rfl rfl (QOp.yes rfl rfl rfl rfl (nb (decide_eq_true b108)) fun f' H' hf hM => Lf _ rfl ((hf 167 rfl).trans rfl) ty_33 rfl ⟨rfl, hM⟩) ?_
 refine QE.op rfl rfl (QOp.yes rfl rfl rfl rfl (nb (decide_eq_true b108)) fun f' H' hf hM => Mv _ rfl ((hf 10 rfl).trans s103) ⟨rfl, hM⟩) ?_
 refine QE.op rfl rfl (QOp.yes rfl rfl rfl rfl (nb (decide_eq_true b108)) fun f' H' hf hM => iS_ rfl ((hf 168 rfl).trans rfl) ((hf 169 rfl).trans rfl) sl_33 (by omega) (by omega) ⟨rfl, hM⟩) ?_
 refine QE.op rfl rfl (QOp.yes rfl rfl rfl rfl (nb (decide_eq_true b108)) fun f' H' hf hM => Lf _ rfl ((hf 170 rfl).trans rfl) ty_48 (ldM eCage_len (by omega) (by omega)) ⟨rfl, hM⟩) ?_
 refine QE.op rfl rfl (QOp.yes rfl rfl rfl rfl (nb (decide_eq_true b108)) fun f' H' hf hM => Ff rfl ((hf 3 rfl).trans s105) fl_35_6 ⟨rfl, hM⟩) ?_
 refine QE.op rfl rfl (QOp.yes rfl rfl rfl rfl (nb (decide_eq_true b108)) fun f' H' hf hM => Lf _ rfl ((hf 172 rfl).trans rfl) ty_33 rfl ⟨rfl, hM⟩) ?_
 refine QE.op rfl rfl (QOp.yes rfl rfl rfl rfl (nb (decide_eq_true b108)) fun f' H' hf hM => Mv _ rfl ((hf 10 rfl).trans s103) ⟨rfl, hM⟩) ?_
 refine QE.op rfl rfl (QOp.yes rfl rfl rfl rfl (nb (decide_eq_true b108)) fun f' H' hf hM => iS_ rfl ((hf 173 rfl).trans rfl) ((hf 174 rfl).trans rfl) sl_33 (by omega) (by omega) ⟨rfl, hM⟩) ?_
 refine QE.op rfl rfl (QOp.yes rfl rfl rfl rfl (nb (decide_eq_true b108)) fun f' H' hf hM => Lf _ rfl ((hf 175 rfl).trans rfl) ty_48 (ldM eCage_len (by omega) (by omega)) ⟨rfl, hM⟩) ?_
 refine QE.op rfl rfl (QOp.yes rfl rfl rfl rfl (nb (decide_eq_true b108)) fun f' H' hf hM => Pc («as» := [.agg [.sl ((at_ a.Cages i3).Verts).length (((at_ a.Cages i3).Verts).flatMap eV), .sl ((at_ a.Cages i3).Faces).length (((at_ a.Cages i3).Faces).map eF), .sl ((at_ a.Cages i3).Creases).length (((at_ a.Cages i3).Creases).flatMap eCr)], .agg [.sl ((at_ b.Cages i3).Verts).length (((at_ b.Cages i3).Verts).flatMap eV), .sl ((at_ b.Cages i3).Faces).length (((at_ b.Cages i3).Faces).map eF), .sl ((at_ b.Cages i3).Creases).length (((at_ b.Cages i3).Creases).flatMap eCr)]]) rfl rfl (lapp (lcons ((hf 171 rfl).trans rfl) (lcons ((hf 176 rfl).trans rfl) rfl)) rfl) tf_21 (c_sameCage (at_ a.Cages i3) (at_ b.Cages i3) (ra.c _ (at_memS (by omega) (by omega))) (rb.c _ (at_memS (by omega) (by omega)))) fun H2 m2 => ⟨rfl, hM.trans m2⟩) ?_
 refine QE.op rfl rfl (QOp.yes rfl rfl rfl rfl (nb (decide_eq_true b108)) fun f' H' hf hM => AOp.not rfl ((hf 177 rfl).trans rfl) ⟨rfl, hM⟩) ?_
 refine Q rfl (fun _ _ φ ψ => Pf _ rfl (φ 166 rfl) (nb (decide_eq_true b108)) (φ 178 rfl) ⟨rfl, ψ⟩) ?_
 refine QE.done fun H109 m110 => ?_
 have m111 := m106.trans m110
 refine AOps.nil ?_
 change AWP _ _ _ _ _ _
 by_cases b112 : (at_ a.Cages i3) = (at_ b.Cages i3)
 refine cf_ rfl (nb (decide_eq_true b112)) ?_
 refine AWP.skip ?_
 refine AWP.region rfl ?_
 refine V rfl s103 (B rfl rfl rfl (iadd (by omega)) (A rfl rfl ?_))
 refine AOps.nil ?_
 exact ⟨_, by omega, i3 + 1, rfl, rfl, s104, s105, m111, by omega, by omega, by exact pre_step pre3 (b108), by exact pre_step pre4 (b112)⟩
 refine ct_ rfl (nb (decide_eq_false b112)) ?_
 refine Sr ?_
 refine A rfl rfl ?_
 refine rt_ ?_
 refine Rr (Res.one rfl rfl) ?_ m111
 exact (congrArg AV.bool (rfl.trans (decide_eq_false (show ¬ (a = b) from by rintro rfl; first | omega | (exact absurd rfl b112))).symm))
 refine QE.op rfl rfl (QOp.no rfl rfl rfl rfl (ble_of (nb (decide_eq_false b108)) (by decide)) rfl) ?_
 refine QE.op rfl rfl (QOp.no rfl rfl rfl rfl (ble_of (nb (decide_eq_false b108)) (by decide)) rfl) ?_
 refine QE.op rfl rfl (QOp.no rfl rfl rfl rfl (ble_of (nb (decide_eq_false b108)) (by decide)) rfl) ?_
 refine QE.op rfl rfl (QOp.no rfl rfl rfl rfl (ble_of (nb (decide_eq_false b108)) (by decide)) rfl) ?_
 refine QE.op rfl rfl (QOp.no rfl rfl rfl rfl (ble_of (nb (decide_eq_false b108)) (by decide)) rfl) ?_
 refine QE.op rfl rfl (QOp.no rfl rfl rfl rfl (ble_of (nb (decide_eq_false b108)) (by decide)) rfl) ?_
 refine QE.op rfl rfl (QOp.no rfl rfl rfl rfl (ble_of (nb (decide_eq_false b108)) (by decide)) rfl) ?_
 refine QE.op rfl rfl (QOp.no rfl rfl rfl rfl (ble_of (nb (decide_eq_false b108)) (by decide)) rfl) ?_
 refine QE.op rfl rfl (QOp.no rfl rfl rfl rfl (ble_of (nb (decide_eq_false b108)) (by decide)) rfl) ?_
 refine QE.op rfl rfl (QOp.no rfl rfl rfl rfl (ble_of (nb (decide_eq_false b108)) (by decide)) rfl) ?_
 refine QE.op rfl rfl (QOp.no rfl rfl rfl rfl (ble_of (nb (decide_eq_false b108)) (by decide)) rfl) ?_
 refine QE.op rfl rfl (QOp.no rfl rfl rfl rfl (ble_of (nb (decide_eq_false b108)) (by decide)) rfl) ?_
 refine Q rfl (fun _ _ φ ψ => Pt _ rfl (φ 166 rfl) (nb (decide_eq_false b108)) rfl ⟨rfl, ψ⟩) ?_
 refine QE.done fun H113 m114 => ?_
 have m115 := m106.trans m114
 refine ct_ rfl rfl ?_
 refine Sr ?_
 refine A rfl rfl ?_
 refine rt_ ?_
 refine Rr (Res.one rfl rfl) ?_ m115
 exact (congrArg AV.bool (rfl.trans (decide_eq_false (show ¬ (a = b) from by rintro rfl; first | omega | (exact absurd rfl b108))).symm))
 refine cf_ rfl (decide_eq_false b107) ?_
 refine AWP.exit ?_
 change AWP _ _ _ _ _ _
 refine Sr ?_
 refine F rfl s104 fl_35_5 (L rfl rfl ty_32 rfl (C rfl (AOp.len (m := a.Skins.length) rfl rfl (.inr (.inl ⟨_, rfl⟩)) u_32 (F rfl s104 fl_35_6 (L rfl rfl ty_33 rfl (C rfl (AOp.len (m := a.Cages.length) rfl rfl (.inr (.inl ⟨_, rfl⟩)) u_33 (B rfl rfl rfl ieq (A rfl rfl ?_)))))))))
 refine rt_ ?_
 refine Rr (Res.one rfl rfl) ?_ m106
 exact (congrArg AV.bool (show (decide ((a.Skins.length : Int) = (a.Cages.length : Int)) : Bool) = decide (a = b) from by exact (decide_eq_true (by omega)).trans (decide_eq_true (scene_ext b24 b25 (ext_at (by omega) (fun j h1 h2 => pre0 j h1 (by omega))) (ext_at (by omega) (fun j h1 h2 => pre1 j h1 (by omega))) (ext_at (by omega) (fun j h1 h2 => pre2 j h1 (by omega))) (ext_at (by omega) (fun j h1 h2 => pre3 j h1 (by omega))) (ext_at (by omega) (fun j h1 h2 => pre4 j h1 (by omega))))).symm))
 refine ct_ rfl (nb (decide_eq_false b30)) ?_
 refine Sr ?_
 refine A rfl rfl ?_
 refine rt_ ?_
 refine Rr (Res.one rfl rfl) ?_ m22
 exact (congrArg AV.bool (rfl.trans (decide_eq_false (show ¬ (a = b) from by rintro rfl; first | omega | (exact absurd rfl b30))).symm))
 refine N rfl rfl (nb (decide_eq_false b29)) (N rfl rfl (nb (decide_eq_false b29)) (N rfl rfl (nb (decide_eq_false b29)) (N rfl rfl (nb (decide_eq_false b29)) (N rfl rfl (nb (decide_eq_false b29)) (N rfl rfl (nb (decide_eq_false b29)) (N rfl rfl (nb (decide_eq_false b29)) (C rfl (Pt _ rfl rfl (nb (decide_eq_false b29)) rfl ?_))))))))
 refine ct_ rfl rfl ?_
 refine Sr ?_
 refine A rfl rfl ?_
 refine rt_ ?_
 refine Rr (Res.one rfl rfl) ?_ m22
 exact (congrArg AV.bool (rfl.trans (decide_eq_false (show ¬ (a = b) from by rintro rfl; first | omega | (exact absurd rfl b29))).symm))
 refine N rfl rfl (nb (decide_eq_false b28)) (N rfl rfl (nb (decide_eq_false b28)) (N rfl rfl (nb (decide_eq_false b28)) (N rfl rfl (nb (decide_eq_false b28)) (N rfl rfl (nb (decide_eq_false b28)) (N rfl rfl (nb (decide_eq_false b28)) (N rfl rfl (nb (decide_eq_false b28)) (C rfl (Pt _ rfl rfl (nb (decide_eq_false b28)) rfl (V rfl rfl (N rfl rfl rfl (N rfl rfl rfl (N rfl rfl rfl (N rfl rfl rfl (N rfl rfl rfl (N rfl rfl rfl (N rfl rfl rfl (C rfl (Pt _ rfl rfl rfl rfl ?_))))))))))))))))))
 refine ct_ rfl rfl ?_
 refine Sr ?_
 refine A rfl rfl ?_
 refine rt_ ?_
 refine Rr (Res.one rfl rfl) ?_ m22
 exact (congrArg AV.bool (rfl.trans (decide_eq_false (show ¬ (a = b) from by rintro rfl; first | omega | (exact absurd rfl b28))).symm))
 refine N rfl rfl (nb (decide_eq_false b27)) (N rfl rfl (nb (decide_eq_false b27)) (N rfl rfl (nb (decide_eq_false b27)) (N rfl rfl (nb (decide_eq_false b27)) (N rfl rfl (nb (decide_eq_false b27)) (N rfl rfl (nb (decide_eq_false b27)) (N rfl rfl (nb (decide_eq_false b27)) (C rfl (Pt _ rfl rfl (nb (decide_eq_false b27)) rfl (V rfl rfl (N rfl rfl rfl (N rfl rfl rfl (N rfl rfl rfl (N rfl rfl rfl (N rfl rfl rfl (N rfl rfl rfl (N rfl rfl rfl (C rfl (Pt _ rfl rfl rfl rfl (V rfl rfl ?_)))))))))))))))))))
 refine N rfl rfl rfl (N rfl rfl rfl (N rfl rfl rfl (N rfl rfl rfl (N rfl rfl rfl (N rfl rfl rfl (N rfl rfl rfl (C rfl (Pt _ rfl rfl rfl rfl ?_))))))))
 refine ct_ rfl rfl ?_
 refine Sr ?_
 refine A rfl rfl ?_
 refine rt_ ?_
 refine Rr (Res.one rfl rfl) ?_ m22
 exact (congrArg AV.bool (rfl.trans (decide_eq_false (show ¬ (a = b) from by rintro rfl; first | omega | (exact absurd rfl b27))).symm))
 refine N rfl rfl (nb (decide_eq_false b26)) (N rfl rfl (nb (decide_eq_false b26)) (N rfl rfl (nb (decide_eq_false b26)) (N rfl rfl (nb (decide_eq_false b26)) (N rfl rfl (nb (decide_eq_false b26)) (N rfl rfl (nb (decide_eq_false b26)) (N rfl rfl (nb (decide_eq_false b26)) (C rfl (Pt _ rfl rfl (nb (decide_eq_false b26)) rfl (V rfl rfl (N rfl rfl rfl (N rfl rfl rfl (N rfl rfl rfl (N rfl rfl rfl (N rfl rfl rfl (N rfl rfl rfl (N rfl rfl rfl (C rfl (Pt _ rfl rfl rfl rfl (V rfl rfl ?_)))))))))))))))))))
 refine N rfl rfl rfl (N rfl rfl rfl (N rfl rfl rfl (N rfl rfl rfl (N rfl rfl rfl (N rfl rfl rfl (N rfl rfl rfl (C rfl (Pt _ rfl rfl rfl rfl (V rfl rfl (N rfl rfl rfl (N rfl rfl rfl (N rfl rfl rfl (N rfl rfl rfl (N rfl rfl rfl (N rfl rfl rfl (N rfl rfl rfl (C rfl (Pt _ rfl rfl rfl rfl ?_))))))))))))))))))
 refine ct_ rfl rfl ?_
 refine Sr ?_
 refine A rfl rfl ?_
 refine rt_ ?_
 refine Rr (Res.one rfl rfl) ?_ m22
 exact (congrArg AV.bool (rfl.trans (decide_eq_false (show ¬ (a = b) from by rintro rfl; first | omega | (exact absurd rfl b26))).symm))
 refine N rfl rfl (nb (decide_eq_false b25)) (N rfl rfl (nb (decide_eq_false b25)) (N rfl rfl (nb (decide_eq_false b25)) (N rfl rfl (nb (decide_eq_false b25)) (N rfl rfl (nb (decide_eq_false b25)) (N rfl rfl (nb (decide_eq_false b25)) (N rfl rfl (nb (decide_eq_false b25)) (C rfl (Pt _ rfl rfl (nb (decide_eq_false b25)) rfl (V rfl rfl (N rfl rfl rfl (N rfl rfl rfl (N rfl rfl rfl (N rfl rfl rfl (N rfl rfl rfl (N rfl rfl rfl (N rfl rfl rfl (C rfl (Pt _ rfl rfl rfl rfl (V rfl rfl ?_)))))))))))))))))))
 refine N rfl rfl rfl (N rfl rfl rfl (N rfl rfl rfl (N rfl rfl rfl (N rfl rfl rfl (N rfl rfl rfl (N rfl rfl rfl (C rfl (Pt _ rfl rfl rfl rfl (V rfl rfl (N rfl rfl rfl (N rfl rfl rfl (N rfl rfl rfl (N rfl rfl rfl (N rfl rfl rfl (N rfl rfl rfl (N rfl rfl rfl (C rfl (Pt _ rfl rfl rfl rfl (V rfl rfl ?_)))))))))))))))))))
 refine N rfl rfl rfl (N rfl rfl rfl (N rfl rfl rfl (N rfl rfl rfl (N rfl rfl rfl (N rfl rfl rfl (N rfl rfl rfl (C rfl (Pt _ rfl rfl rfl rfl ?_))))))))
 refine ct_ rfl rfl ?_
 refine Sr ?_
 refine A rfl rfl ?_
 refine rt_ ?_
 refine Rr (Res.one rfl rfl) ?_ m22
 exact (congrArg AV.bool (rfl.trans (decide_eq_false (show ¬ (a = b) from by rintro rfl; first | omega | (exact absurd rfl b25))).symm))
 refine N rfl rfl (nb (decide_eq_false b24)) (N rfl rfl (nb (decide_eq_false b24)) (N rfl rfl (nb (decide_eq_false b24)) (N rfl rfl (nb (decide_eq_false b24)) (N rfl rfl (nb (decide_eq_false b24)) (C rfl (Pt _ rfl rfl (nb (decide_eq_false b24)) rfl (V rfl rfl (N rfl rfl rfl (N rfl rfl rfl (N rfl rfl rfl (N rfl rfl rfl (N rfl rfl rfl (N rfl rfl rfl (N rfl rfl rfl (C rfl (Pt _ rfl rfl rfl rfl (V rfl rfl (N rfl rfl rfl (N rfl rfl rfl ?_)))))))))))))))))))
 refine N rfl rfl rfl (N rfl rfl rfl (N rfl rfl rfl (N rfl rfl rfl (N rfl rfl rfl (C rfl (Pt _ rfl rfl rfl rfl (V rfl rfl (N rfl rfl rfl (N rfl rfl rfl (N rfl rfl rfl (N rfl rfl rfl (N rfl rfl rfl (N rfl rfl rfl (N rfl rfl rfl (C rfl (Pt _ rfl rfl rfl rfl (V rfl rfl (N rfl rfl rfl (N rfl rfl rfl ?_)))))))))))))))))))
 refine N rfl rfl rfl (N rfl rfl rfl (N rfl rfl rfl (N rfl rfl rfl (N rfl rfl rfl (C rfl (Pt _ rfl rfl rfl rfl (V rfl rfl (N rfl rfl rfl (N rfl rfl rfl (N rfl rfl rfl (N rfl rfl rfl (N rfl rfl rfl (N rfl rfl rfl (N rfl rfl rfl (C rfl (Pt _ rfl rfl rfl rfl ?_))))))))))))))))
 refine ct_ rfl rfl ?_
 refine Sr ?_
 refine A rfl rfl ?_
 refine rt_ ?_
 refine Rr (Res.one rfl rfl) ?_ m22
 exact (congrArg AV.bool (rfl.trans (decide_eq_false (show ¬ (a = b) from by rintro rfl; first | omega | (exact absurd rfl b24))).symm))
end Go.Proofs.S
namespace Go.Proofs.S
open Go Go.AH Go.Proofs.L
set_option linter.unusedSectionVars false
variable [LexG]
theorem c_rLines (s : ByteArray) : PC Tryz.prog 18 [.str s] (.tup [.sl (linesR s).1.length ((linesR s).1.flatMap eLine), .int .i64 (linesR s).2.1, .int .i64 (linesR s).2.2]) := by
  rw [lines_same]; exact c_ref_Lines s
end Go.Proofs.S
namespace Go.Proofs.S
open Go Go.AH Go.Proofs.L
set_option maxRecDepth 4000
set_option maxHeartbeats 4000000
set_option linter.unusedSimpArgs false
set_option linter.unusedVariables false
set_option linter.unusedSectionVars false
variable [LexG]
theorem c_line {B H0 : Heap} {id ver : Nat} {s : Rd} (hm : Mono B H0) (hs : RD B H0 id ver s) (ok : RdOk s) (w : List ByteArray) (hw : w.length ≤ 1048576) (hne : 0 < w.length) : ACalls Tryz.prog 19 [.ptr id ver 0, .sl w.length (w.map eStr)] H0 fun r H' => (∃ t, lineP s w = .ok t ∧ RD B H' id ver t ∧ Mono B H' ∧ r = .int .i64 0) ∨ ∃ k, lineP s w = .error k ∧ Mono B H' ∧ r = .int .i64 k := by
 refine ACalls.of_body' (n := 45) rfl rfl rfl rfl ?_
 have m0 := hm
 refine Sr ?_
 refine A rfl rfl ?_
 refine AWP.seq ?_
 refine Sr ?_
 refine V rfl rfl (C rfl (iS_ rfl rfl rfl sl_57 (by omega) (by omega) (L rfl rfl ty_9 (ld1 (by omega) (by omega)) ?_)))
 refine bk_ ?_
 refine Sr ?_
 refine C rfl (AOp.seqD rfl rfl rfl (A rfl rfl ?_))
 refine AOps.nil ?_
 change AWP _ _ _ _ _ _
 by_cases b1 : (at_ w 0) = ⟨#[99, 97, 109, 101, 114, 97]⟩
 refine ct_ rfl (decide_eq_true b1) ?_
 refine Sr ?_
 refine V rfl rfl (V rfl rfl (C rfl (AOp.xcall («as» := [.ptr id ver 0, .sl w.length (w.map eStr)]) rfl rfl (rfl) tf_41 (c_rcamera hm hs ok w hw hne) ?_)))
 rintro r4 H2 hD3
 refine A rfl rfl ?_
 refine rt_ ?_
 refine ⟨_, _, Ghost.refl, .inr rfl, _, Res.one rfl rfl, ?_⟩
 rw [line_Camera b1]; exact hD3
 refine cf_ rfl (decide_eq_false b1) ?_
 refine Sr ?_
 refine C rfl (AOp.seqD rfl rfl rfl (A rfl rfl ?_))
 refine AOps.nil ?_
 change AWP _ _ _ _ _ _
 by_cases b5 : (at_ w 0) = ⟨#[115, 107, 121]⟩
 refine ct_ rfl (decide_eq_true b5) ?_
 refine Sr ?_
 refine V rfl rfl (V rfl rfl (C rfl (AOp.xcall («as» := [.ptr id ver 0, .sl w.length (w.map eStr)]) rfl rfl (rfl) tf_42 (c_rsky hm hs ok w hw hne) ?_)))
 rintro r8 H6 hD7
 refine A rfl rfl ?_
 refine rt_ ?_
 refine ⟨_, _, Ghost.refl, .inr rfl, _, Res.one rfl rfl, ?_⟩
 rw [line_Sky b5]; exact hD7
 refine cf_ rfl (decide_eq_false b5) ?_
 refine Sr ?_
 refine C rfl (AOp.seqD rfl rfl rfl (A rfl rfl ?_))
 refine AOps.nil ?_
 change AWP _ _ _ _ _ _
 by_cases b9 : (at_ w 0) = ⟨#[108, 105, 103, 104, 116]⟩
 refine ct_ rfl (decide_eq_true b9) ?_
 refine Sr ?_
 refine V rfl rfl (V rfl rfl (C rfl (AOp.xcall («as» := [.ptr id ver 0, .sl w.length (w.map eStr)]) rfl rfl (rfl) tf_43 (c_rlight hm hs ok w hw hne) ?_)))
 rintro r12 H10 hD11
 refine A rfl rfl ?_
 refine rt_ ?_
 refine ⟨_, _, Ghost.refl, .inr rfl, _, Res.one rfl rfl, ?_⟩
 rw [line_Light b9]; exact hD11
 refine cf_ rfl (decide_eq_false b9) ?_
 refine Sr ?_
 refine C rfl (AOp.seqD rfl rfl rfl (A rfl rfl ?_))
 refine AOps.nil ?_
 change AWP _ _ _ _ _ _
 by_cases b13 : (at_ w 0) = ⟨#[116, 101, 120, 116, 117, 114, 101]⟩
 refine ct_ rfl (decide_eq_true b13) ?_
 refine Sr ?_
 refine V rfl rfl (V rfl rfl (C rfl (AOp.xcall («as» := [.ptr id ver 0, .sl w.length (w.map eStr)]) rfl rfl (rfl) tf_44 (c_rtexture hm hs ok w hw hne) ?_)))
 rintro r16 H14 hD15
 refine A rfl rfl ?_
 refine rt_ ?_
 refine ⟨_, _, Ghost.refl, .inr rfl, _, Res.one rfl rfl, ?_⟩
 rw [line_Texture b13]; exact hD15
 refine cf_ rfl (decide_eq_false b13) ?_
 refine Sr ?_
 refine C rfl (AOp.seqD rfl rfl rfl (A rfl rfl ?_))
 refine AOps.nil ?_
 change AWP _ _ _ _ _ _
 by_cases b17 : (at_ w 0) = ⟨#[109, 97, 116, 101, 114, 105, 97, 108]⟩
 refine ct_ rfl (decide_eq_true b17) ?_
 refine Sr ?_
 refine V rfl rfl (V rfl rfl (C rfl (AOp.xcall («as» := [.ptr id ver 0, .sl w.length (w.map eStr)]) rfl rfl (rfl) tf_45 (c_rmaterial hm hs ok w hw hne) ?_)))
 rintro r20 H18 hD19
 refine A rfl rfl ?_
 refine rt_ ?_
 refine ⟨_, _, Ghost.refl, .inr rfl, _, Res.one rfl rfl, ?_⟩
 rw [line_Material b17]; exact hD19
 refine cf_ rfl (decide_eq_false b17) ?_
 refine Sr ?_
 refine C rfl (AOp.seqD rfl rfl rfl (A rfl rfl ?_))
 refine AOps.nil ?_
 change AWP _ _ _ _ _ _
 by_cases b21 : (at_ w 0) = ⟨#[99, 97, 103, 101]⟩
 refine ct_ rfl (decide_eq_true b21) ?_
 refine Sr ?_
 refine V rfl rfl (V rfl rfl (C rfl (AOp.xcall («as» := [.ptr id ver 0, .sl w.length (w.map eStr)]) rfl rfl (rfl) tf_46 (c_rskin hm hs ok w hw hne) ?_)))
 rintro r24 H22 hD23
 refine A rfl rfl ?_
 refine rt_ ?_
 refine ⟨_, _, Ghost.refl, .inr rfl, _, Res.one rfl rfl, ?_⟩
 rw [line_Cage b21]; exact hD23
 refine cf_ rfl (decide_eq_false b21) ?_
 refine AWP.seq ?_
 refine Sr ?_
 refine C rfl (AOp.seqD rfl rfl rfl (A rfl rfl ?_))
 refine AOps.nil ?_
 change AWP _ _ _ _ _ _
 by_cases b25 : (at_ w 0) = ⟨#[118]⟩
 refine ct_ rfl (decide_eq_true b25) ?_
 refine AWP.skip ?_
 refine ct_ rfl (decide_eq_true b25) ?_
 refine Sr ?_
 refine V rfl rfl (V rfl rfl (C rfl (AOp.xcall («as» := [.ptr id ver 0, .sl w.length (w.map eStr)]) rfl rfl (rfl) tf_47 (c_rpart_V hm hs ok w hw hne b25) ?_)))
 rintro r28 H26 hD27
 refine A rfl rfl ?_
 refine rt_ ?_
 refine ⟨_, _, Ghost.refl, .inr rfl, _, Res.one rfl rfl, ?_⟩
 rw [line_Vertex b25]; exact hD27
 refine cf_ rfl (decide_eq_false b25) ?_
 refine Sr ?_
 refine C rfl (AOp.seqD rfl rfl rfl (A rfl rfl ?_))
 refine AOps.nil ?_
 change AWP _ _ _ _ _ _
 by_cases b29 : (at_ w 0) = ⟨#[102]⟩
 refine ct_ rfl (decide_eq_true b29) ?_
 refine AWP.skip ?_
 refine ct_ rfl (decide_eq_true b29) ?_
 refine Sr ?_
 refine V rfl rfl (V rfl rfl (C rfl (AOp.xcall («as» := [.ptr id ver 0, .sl w.length (w.map eStr)]) rfl rfl (rfl) tf_47 (c_rpart_F hm hs ok w hw hne b29) ?_)))
 rintro r32 H30 hD31
 refine A rfl rfl ?_
 refine rt_ ?_
 refine ⟨_, _, Ghost.refl, .inr rfl, _, Res.one rfl rfl, ?_⟩
 rw [line_Face b29]; exact hD31
 refine cf_ rfl (decide_eq_false b29) ?_
 refine AWP.region rfl ?_
 refine C rfl (AOp.seqD rfl rfl rfl (A rfl rfl ?_))
 refine AOps.nil ?_
 change AWP _ _ _ _ _ _
 by_cases b33 : (at_ w 0) = ⟨#[99, 114, 101, 97, 115, 101]⟩
 refine ct_ rfl (decide_eq_true b33) ?_
 refine Sr ?_
 refine V rfl rfl (V rfl rfl (C rfl (AOp.xcall («as» := [.ptr id ver 0, .sl w.length (w.map eStr)]) rfl rfl (rfl) tf_47 (c_rpart_K hm hs ok w hw hne b33) ?_)))
 rintro r36 H34 hD35
 refine A rfl rfl ?_
 refine rt_ ?_
 refine ⟨_, _, Ghost.refl, .inr rfl, _, Res.one rfl rfl, ?_⟩
 rw [line_Crease b33]; exact hD35
 refine cf_ rfl (decide_eq_false b33) ?_
 refine AWP.skip ?_
 refine Sr ?_
 refine A rfl rfl ?_
 refine rt_ ?_
 refine ⟨_, _, Ghost.refl, .inr rfl, _, Res.one rfl rfl, ?_⟩
 exact .inr ⟨10, line_none b1 b5 b9 b13 b17 b21 b25 b29 b33, m0, rfl⟩
theorem c_rParse (s : ByteArray) : PC Tryz.prog 10 [.str s] (.tup [.agg (eScene (parseR s).1), .int .i64 ((parseR s).2.1), .int .i64 ((parseR s).2.2)]) := by
 intro H0
 refine ACalls.of_body' (n := 56) rfl rfl rfl rfl ?_
 have m0 := Mono.refl H0
 refine Sr ?_
 refine C rfl (al_ rfl tz_35 ?_)
 intro i1 H2 n3 h4 k5
 have z6 := Mono.free m0 n3
 have m7 := Mono.new m0 n3 k5
 refine A rfl rfl (A rfl rfl ?_)
 refine Sr ?_
 refine V rfl rfl (C rfl (Pc («as» := [.str s]) rfl rfl (rfl) tf_18 (c_rLines _) ?_))
 intro H8 m9
 have h10 := m9 _ _ h4
 have m11 := m7.trans m9
 refine V rfl rfl (E rfl rfl rfl (E rfl rfl rfl (E rfl rfl rfl (A rfl rfl (A rfl rfl (A rfl rfl ?_))))))
 refine AWP.seq ?_
 refine Sr ?_
 refine V rfl rfl (B rfl rfl rfl ine ?_)
 refine AOps.nil ?_
 change AWP _ _ _ _ _ _
 by_cases b12 : (linesR s).2.2 = 0
 refine cf_ rfl (nb (decide_eq_true b12)) ?_
 refine AWP.skip ?_
 refine Sr ?_
 refine C rfl (Bl (cells := [.int .i64 0, .int .i64 0, .int .i64 0, .int .i64 0, .int .i64 0, .int .i64 0, .int .i64 0, .int .i64 0, .int .i64 0, .int .i64 0, .int .i64 0, .int .i64 0, .int .i64 0, .int .i64 0, .int .i64 0, .int .i64 0, .int .i64 0, .int .i64 0, .int .i64 0, .snil, .snil, .snil, .snil, .snil, .bool false, .bool false]) rfl tz_63 pl_63 rfl rfl (C rfl (bx_ (.agg [.int .i64 0, .int .i64 0, .int .i64 0, .int .i64 0, .int .i64 0, .int .i64 0, .int .i64 0, .int .i64 0, .int .i64 0, .int .i64 0, .int .i64 0, .int .i64 0, .int .i64 0, .int .i64 0, .int .i64 0, .int .i64 0, .int .i64 0, .int .i64 0, .int .i64 0, .snil, .snil, .snil, .snil, .snil, .bool false, .bool false]) rfl rfl rfl ?_)))
 intro i13 H14 n15 h16 k17
 have h20 := keep k17 (ne_new h10 n15) h10
 have m21 := Mono.new m11 n15 k17
 refine A rfl rfl ?_
 refine AWP.seq ?_
 refine AWP.seq ?_
 have hrd0 : RD H8 H14 i13 0 rd0 := RD.init h16 n15
 have hmm0 : Mono H8 H14 := Mono.new (Mono.refl _) n15 k17
 have hl0_ := b12
 have hll_ := lines_len s
 refine AWP.region rfl ?_
 refine A rfl rfl ?_
 refine bk_ ?_
 refine AWP.loop (fun q22 fq Hq => ∃ (i : Int) (r : Rd), q22 = (((((linesR s).1).length : Int) : Int) - i).toNat ∧ fq 9 = .int .i64 i ∧ fq 2 = .ptr i1 0 0 ∧ fq 5 = .sl ((linesR s).1).length (((linesR s).1).flatMap eLine) ∧ fq 8 = .ptr i13 0 0 ∧ Hq i1 = some (.row 0 ([.int .i64 0, .int .i64 0, .int .i64 0, .int .i64 0, .int .i64 0, .int .i64 0, .int .i64 0, .int .i64 0, .int .i64 0, .int .i64 0, .int .i64 0, .int .i64 0, .int .i64 0, .int .i64 0, .int .i64 0, .int .i64 0, .int .i64 0, .int .i64 0, .int .i64 0, .snil, .snil, .snil, .snil, .snil])) ∧ Mono H0 Hq ∧ (RD H8 Hq i13 0 r) ∧ (Mono H8 Hq) ∧ (0 ≤ i) ∧ (i ≤ (((linesR s).1).length : Int)) ∧ (foldP rd0 (linesR s).1 = foldP r ((linesR s).1.drop i.toNat)) ∧ (RdOk r)) (k := (((((linesR s).1).length : Int) : Int) - 0).toNat) ?_ ?_
 exact ⟨0, rd0, rfl, rfl, rfl, rfl, rfl, h20, m21, hrd0, hmm0, by omega, by omega, by rfl, by exact rd0_ok⟩
 rintro _ f24 H23 ⟨i, r, rfl, s25, s26, s27, s28, h29, m30, hrd, hmm, hi0, hi1, hfd, hok⟩
 refine AWP.seq ?_
 refine Sr ?_
 refine V rfl s25 (V rfl s27 (C rfl (AOp.len (m := ((linesR s).1).length) rfl rfl (.inr (.inl ⟨_, rfl⟩)) u_51 (B rfl rfl rfl rfl ?_))))
 refine AOps.nil ?_
 change AWP _ _ _ _ _ _
 by_cases b31 : i < ((((linesR s).1).length) : Int)
 refine ct_ rfl (decide_eq_true b31) ?_
 refine AWP.skip ?_
 refine AWP.seq ?_
 refine bk_ ?_
 refine Sr ?_
 refine V rfl s28 (V rfl s27 (V rfl s25 (C rfl (iS_ rfl rfl rfl sl_51 (by omega) (by omega) (F rfl rfl fl_59_1 (L rfl rfl ty_57 (ldF eLine_len (by omega) (by omega) rfl (by decide)) ?_))))))
 have hwd := line_at s hi0 (by omega)
 refine C rfl (AOp.xcall («as» := [.ptr i13 0 0, .sl ((at_ ((linesR s).1) i).Words).length (((at_ ((linesR s).1) i).Words).map eStr)]) rfl rfl (rfl) tf_19 (c_line (B := H8) hmm hrd hok ((at_ ((linesR s).1) i).Words) hwd.1 hwd.2) ?_)
 rintro _ H32 (⟨t33, et34, hR35, m36, rfl⟩ | ⟨k37, et34, m36, rfl⟩)
 refine A rfl rfl ?_
 refine Sr ?_
 refine V rfl rfl (B rfl rfl rfl ine ?_)
 refine cf_ rfl (nb (decide_eq_true (by decide))) ?_
 refine AWP.skip ?_
 refine AWP.region rfl ?_
 refine V rfl s25 (B rfl rfl rfl (iadd (by omega)) (A rfl rfl ?_))
 refine AOps.nil ?_
 exact ⟨_, by omega, i + 1, t33, rfl, rfl, s26, s27, s28, (m36 _ _ h10), (Mono.trans m11 m36), hR35, m36, by omega, by omega, by rw [hfd]; exact fold_step hi0 (by omega) et34, by exact lineP_ok hok et34⟩
 have hk38 := line_err et34
 refine A rfl rfl ?_
 refine Sr ?_
 refine V rfl rfl (B rfl rfl rfl ine ?_)
 refine ct_ rfl (nb (decide_eq_false hk38)) ?_
 refine AWP.seq ?_
 refine AWP.region_str mixed (by kernel_rfl) [(0, none), (1, none), (2, none), (3, none), (4, none), (5, none), (6, none), (7, some [1, 2, 3, 4, 5, 6]), (8, none)] [9] (by kernel_rfl) ?_
 refine STR.op rfl rfl (.inl ⟨rfl, fun H1 f' H' hf hN hM => Bl (cells := [.int .i64 0, .int .i64 0, .int .i64 0, .int .i64 0, .int .i64 0, .int .i64 0, .int .i64 0, .int .i64 0, .int .i64 0, .int .i64 0, .int .i64 0, .int .i64 0, .int .i64 0, .int .i64 0, .int .i64 0, .int .i64 0, .int .i64 0, .int .i64 0, .int .i64 0, .snil, .snil, .snil, .snil, .snil]) rfl tz_35 pl_35 rfl rfl ⟨rfl, hN⟩⟩) ?_
 refine STR.op rfl rfl (.inl ⟨rfl, fun H1 f' H' hf hN hM => Mv _ rfl ((hf 5 rfl).trans s27) ⟨rfl, hN⟩⟩) ?_
 refine STR.op rfl rfl (.inl ⟨rfl, fun H1 f' H' hf hN hM => Mv _ rfl ((hf 9 rfl).trans s25) ⟨rfl, hN⟩⟩) ?_
 refine STR.op rfl rfl (.inl ⟨rfl, fun H1 f' H' hf hN hM => iS_ rfl ((hf 40 rfl).trans rfl) ((hf 41 rfl).trans rfl) sl_51 (by omega) (by omega) ⟨rfl, hN⟩⟩) ?_
 refine STR.op rfl rfl (.inl ⟨rfl, fun H1 f' H' hf hN hM => Ff rfl ((hf 42 rfl).trans rfl) fl_59_0 ⟨rfl, hN⟩⟩) ?_
 refine STR.op rfl rfl (.inl ⟨rfl, fun H1 f' H' hf hN hM => Lf _ rfl ((hf 43 rfl).trans rfl) ty_3 (ldF eLine_len (by omega) (by omega) rfl (by decide)) ⟨rfl, hN⟩⟩) ?_
 refine STR.op rfl rfl (.inl ⟨rfl, fun H1 f' H' hf hN hM => Mv _ rfl ((hf 10 rfl).trans rfl) ⟨rfl, hN⟩⟩) ?_
 refine STR.st rfl rfl rfl fun f39 H40 hf41 m42 => ?_
 have h43 := m42 _ _ (m36 _ _ h10)
 have m44 := (Mono.trans m11 m36).trans m42
 refine So (cells' := [.int .i64 0, .int .i64 0, .int .i64 0, .int .i64 0, .int .i64 0, .int .i64 0, .int .i64 0, .int .i64 0, .int .i64 0, .int .i64 0, .int .i64 0, .int .i64 0, .int .i64 0, .int .i64 0, .int .i64 0, .int .i64 0, .int .i64 0, .int .i64 0, .int .i64 0, .snil, .snil, .snil, .snil, .snil]) (.agg [.int .i64 0, .int .i64 0, .int .i64 0, .int .i64 0, .int .i64 0, .int .i64 0, .int .i64 0, .int .i64 0, .int .i64 0, .int .i64 0, .int .i64 0, .int .i64 0, .int .i64 0, .int .i64 0, .int .i64 0, .int .i64 0, .int .i64 0, .int .i64 0, .int .i64 0, .snil, .snil, .snil, .snil, .snil]) ((hf41 2 rfl).trans s26) ((hf41 39 rfl).trans rfl) ts_35 h43 rfl rfl rfl rfl ?_
 intro H45 h46 k47
 have m49 := Mono.set m44 z6 k47
 refine ⟨rfl, .inr (RevR.cons rfl (.inl ⟨rfl, fun H1 f' H' hf hN hM => Mv _ rfl ((hf 10 rfl).trans rfl) ⟨rfl, hN⟩⟩) (RevR.cons rfl (.inl ⟨rfl, fun H1 f' H' hf hN hM => Lf _ rfl ((hf 43 rfl).trans rfl) ty_3 (ldF eLine_len (by omega) (by omega) rfl (by decide)) ⟨rfl, hN⟩⟩) (RevR.cons rfl (.inl ⟨rfl, fun H1 f' H' hf hN hM => Ff rfl ((hf 42 rfl).trans rfl) fl_59_0 ⟨rfl, hN⟩⟩) (RevR.cons rfl (.inl ⟨rfl, fun H1 f' H' hf hN hM => iS_ rfl ((hf 40 rfl).trans rfl) ((hf 41 rfl).trans rfl) sl_51 (by omega) (by omega) ⟨rfl, hN⟩⟩) (RevR.cons rfl (.inl ⟨rfl, fun H1 f' H' hf hN hM => Mv _ rfl ((hf 9 rfl).trans s25) ⟨rfl, hN⟩⟩) (RevR.cons rfl (.inl ⟨rfl, fun H1 f' H' hf hN hM => Mv _ rfl ((hf 5 rfl).trans s27) ⟨rfl, hN⟩⟩) (RevR.skip rfl RevR.nil))))))), ?_⟩
 refine STR.op rfl rfl (.inl ⟨rfl, fun H1 f' H' hf hN hM => As _ rfl ((hf 44 rfl).trans rfl) ⟨rfl, hN⟩⟩) ?_
 refine STR.done fun H50 m51 => ?_
 have h52 := m51 _ _ h46
 have m53 := m49.trans m51
 refine A rfl rfl ?_
 refine rt_ ?_
 refine Fin.frzCell 19 (Own.nil H0 H50 1) h52 z6 rfl (NotId.nil _) m53 fun H54 h55 m56 k57 => ?_
 have h58 : H54 i1 = some (.row 0 ([.int .i64 0, .int .i64 0, .int .i64 0, .int .i64 0, .int .i64 0, .int .i64 0, .int .i64 0, .int .i64 0, .int .i64 0, .int .i64 0, .int .i64 0, .int .i64 0, .int .i64 0, .int .i64 0, .int .i64 0, .int .i64 0, .int .i64 0, .int .i64 0, .int .i64 0, .sl 0 ([]), .snil, .snil, .snil, .snil])) := h55
 refine Fin.frzCell 20 (Own.nil H0 H54 1) h58 z6 rfl (NotId.nil _) m56 fun H59 h60 m61 k62 => ?_
 have h63 : H59 i1 = some (.row 0 ([.int .i64 0, .int .i64 0, .int .i64 0, .int .i64 0, .int .i64 0, .int .i64 0, .int .i64 0, .int .i64 0, .int .i64 0, .int .i64 0, .int .i64 0, .int .i64 0, .int .i64 0, .int .i64 0, .int .i64 0, .int .i64 0, .int .i64 0, .int .i64 0, .int .i64 0, .sl 0 ([]), .sl 0 ([]), .snil, .snil, .snil])) := h60
 refine Fin.frzCell 21 (Own.nil H0 H59 1) h63 z6 rfl (NotId.nil _) m61 fun H64 h65 m66 k67 => ?_
 have h68 : H64 i1 = some (.row 0 ([.int .i64 0, .int .i64 0, .int .i64 0, .int .i64 0, .int .i64 0, .int .i64 0, .int .i64 0, .int .i64 0, .int .i64 0, .int .i64 0, .int .i64 0, .int .i64 0, .int .i64 0, .int .i64 0, .int .i64 0, .int .i64 0, .int .i64 0, .int .i64 0, .int .i64 0, .sl 0 ([]), .sl 0 ([]), .sl 0 ([]), .snil, .snil])) := h65
 refine Fin.frzCell 22 (Own.nil H0 H64 1) h68 z6 rfl (NotId.nil _) m66 fun H69 h70 m71 k72 => ?_
 have h73 : H69 i1 = some (.row 0 ([.int .i64 0, .int .i64 0, .int .i64 0, .int .i64 0, .int .i64 0, .int .i64 0, .int .i64 0, .int .i64 0, .int .i64 0, .int .i64 0, .int .i64 0, .int .i64 0, .int .i64 0, .int .i64 0, .int .i64 0, .int .i64 0, .int .i64 0, .int .i64 0, .int .i64 0, .sl 0 ([]), .sl 0 ([]), .sl 0 ([]), .sl 0 ([]), .snil])) := h70
 refine Fin.frzCell 23 (Own.nil H0 H69 1) h73 z6 rfl (NotId.nil _) m71 fun H74 h75 m76 k77 => ?_
 have h78 : H74 i1 = some (.row 0 ([.int .i64 0, .int .i64 0, .int .i64 0, .int .i64 0, .int .i64 0, .int .i64 0, .int .i64 0, .int .i64 0, .int .i64 0, .int .i64 0, .int .i64 0, .int .i64 0, .int .i64 0, .int .i64 0, .int .i64 0, .int .i64 0, .int .i64 0, .int .i64 0, .int .i64 0, .sl 0 ([]), .sl 0 ([]), .sl 0 ([]), .sl 0 ([]), .sl 0 ([])])) := h75
 refine Rr (Res.list rfl rfl (.cell (v := .agg [.int .i64 0, .int .i64 0, .int .i64 0, .int .i64 0, .int .i64 0, .int .i64 0, .int .i64 0, .int .i64 0, .int .i64 0, .int .i64 0, .int .i64 0, .int .i64 0, .int .i64 0, .int .i64 0, .int .i64 0, .int .i64 0, .int .i64 0, .int .i64 0, .int .i64 0, .sl 0 ([]), .sl 0 ([]), .sl 0 ([]), .sl 0 ([]), .sl 0 ([])]) s26 ty_35 h78 rfl (.tmp rfl (.tmp rfl (.nil))))) ?_ m76
 have hP : parseR s = (rd0.scene, (at_ ((linesR s).1) i).No, k37) := parse_err hl0_ hfd hi0 (by omega) et34
 exact (congrArg (fun r : SceneT × Int × Int => AV.tup [.agg (eScene r.1), .int .i64 r.2.1, .int .i64 r.2.2]) hP).symm
 refine cf_ rfl (decide_eq_false b31) ?_
 refine AWP.exit ?_
 change AWP _ _ _ _ _ _
 refine AWP.seq ?_
 refine AWP.seq ?_
 refine AWP.rdFreeze hrd hmm fun H79 m80 h81 => ?_
 have hBid_ : H0 i13 = none := Mono.free m11 n15
 have e82 : i1 ≠ i13 := ne_new h10 n15
 refine AWP.region rfl ?_
 refine V rfl s28 (C rfl (nc_ (.ptr i13 0 0) rfl rfl rfl ?_))
 refine C rfl (Fa rfl rfl fl_63_1 ?_ (hid := ⟨_, h81⟩))
 refine C rfl (Ld _ rfl rfl ty_4 h81 rfl (C rfl (AOp.not rfl rfl ?_)))
 refine AOps.nil ?_
 change AWP _ _ _ _ _ _
 rcases Bool.eq_false_or_eq_true (r.hc) with b83 | b83
 refine cf_ rfl (nb b83) ?_
 refine AWP.skip ?_
 refine Sr ?_
 refine V rfl s28 (C rfl (nc_ (.ptr i13 0 0) rfl rfl rfl ?_))
 refine C rfl (Fa rfl rfl fl_63_0 ?_ (hid := ⟨_, h81⟩))
 refine C rfl (Ld _ rfl rfl ty_35 h81 rfl (C rfl (So (cells' := [.int .i64 r.scene.Camera.Eye.X, .int .i64 r.scene.Camera.Eye.Y, .int .i64 r.scene.Camera.Eye.Z, .int .i64 r.scene.Camera.First.X, .int .i64 r.scene.Camera.First.Y, .int .i64 r.scene.Camera.First.Z, .int .i64 r.scene.Camera.Right.X, .int .i64 r.scene.Camera.Right.Y, .int .i64 r.scene.Camera.Right.Z, .int .i64 r.scene.Camera.Down.X, .int .i64 r.scene.Camera.Down.Y, .int .i64 r.scene.Camera.Down.Z, .int .i64 r.scene.Camera.W, .int .i64 r.scene.Camera.H, .int .i64 r.scene.Camera.Grid, .int .i64 r.scene.Camera.Depth, .int .i64 r.scene.Sky.R, .int .i64 r.scene.Sky.G, .int .i64 r.scene.Sky.B, .sl r.scene.Lights.length (r.scene.Lights.flatMap eLight), .sl r.scene.Mats.length (r.scene.Mats.flatMap eMat), .sl r.scene.Texs.length (r.scene.Texs.flatMap eTex), .sl r.scene.Skins.length (r.scene.Skins.flatMap eSkin), .sl r.scene.Cages.length (r.scene.Cages.flatMap eCage)]) (.agg [.int .i64 r.scene.Camera.Eye.X, .int .i64 r.scene.Camera.Eye.Y, .int .i64 r.scene.Camera.Eye.Z, .int .i64 r.scene.Camera.First.X, .int .i64 r.scene.Camera.First.Y, .int .i64 r.scene.Camera.First.Z, .int .i64 r.scene.Camera.Right.X, .int .i64 r.scene.Camera.Right.Y, .int .i64 r.scene.Camera.Right.Z, .int .i64 r.scene.Camera.Down.X, .int .i64 r.scene.Camera.Down.Y, .int .i64 r.scene.Camera.Down.Z, .int .i64 r.scene.Camera.W, .int .i64 r.scene.Camera.H, .int .i64 r.scene.Camera.Grid, .int .i64 r.scene.Camera.Depth, .int .i64 r.scene.Sky.R, .int .i64 r.scene.Sky.G, .int .i64 r.scene.Sky.B, .sl r.scene.Lights.length (r.scene.Lights.flatMap eLight), .sl r.scene.Mats.length (r.scene.Mats.flatMap eMat), .sl r.scene.Texs.length (r.scene.Texs.flatMap eTex), .sl r.scene.Skins.length (r.scene.Skins.flatMap eSkin), .sl r.scene.Cages.length (r.scene.Cages.flatMap eCage)]) s26 rfl ts_35 (m80 _ _ h10) rfl rfl rfl rfl ?_)))
 intro H84 h85 k86
 have m89 := Mono.set (Mono.trans m11 m80) z6 k86
 refine A rfl rfl (A rfl rfl ?_)
 refine rt_ ?_
 refine Rr (Res.list rfl rfl (.cell (v := .agg [.int .i64 r.scene.Camera.Eye.X, .int .i64 r.scene.Camera.Eye.Y, .int .i64 r.scene.Camera.Eye.Z, .int .i64 r.scene.Camera.First.X, .int .i64 r.scene.Camera.First.Y, .int .i64 r.scene.Camera.First.Z, .int .i64 r.scene.Camera.Right.X, .int .i64 r.scene.Camera.Right.Y, .int .i64 r.scene.Camera.Right.Z, .int .i64 r.scene.Camera.Down.X, .int .i64 r.scene.Camera.Down.Y, .int .i64 r.scene.Camera.Down.Z, .int .i64 r.scene.Camera.W, .int .i64 r.scene.Camera.H, .int .i64 r.scene.Camera.Grid, .int .i64 r.scene.Camera.Depth, .int .i64 r.scene.Sky.R, .int .i64 r.scene.Sky.G, .int .i64 r.scene.Sky.B, .sl r.scene.Lights.length (r.scene.Lights.flatMap eLight), .sl r.scene.Mats.length (r.scene.Mats.flatMap eMat), .sl r.scene.Texs.length (r.scene.Texs.flatMap eTex), .sl r.scene.Skins.length (r.scene.Skins.flatMap eSkin), .sl r.scene.Cages.length (r.scene.Cages.flatMap eCage)]) s26 ty_35 h85 rfl (.tmp rfl (.tmp rfl (.nil))))) ?_ m89
 have hP : parseR s = (r.scene, 0, 0) := parse_ok hl0_ hfd (by omega) b83
 exact (congrArg (fun r : SceneT × Int × Int => AV.tup [.agg (eScene r.1), .int .i64 r.2.1, .int .i64 r.2.2]) hP).symm
 refine ct_ rfl (nb b83) ?_
 refine Sr ?_
 refine C rfl (Bl (cells := [.int .i64 0, .int .i64 0, .int .i64 0, .int .i64 0, .int .i64 0, .int .i64 0, .int .i64 0, .int .i64 0, .int .i64 0, .int .i64 0, .int .i64 0, .int .i64 0, .int .i64 0, .int .i64 0, .int .i64 0, .int .i64 0, .int .i64 0, .int .i64 0, .int .i64 0, .snil, .snil, .snil, .snil, .snil]) rfl tz_35 pl_35 rfl rfl (C rfl (So (cells' := [.int .i64 0, .int .i64 0, .int .i64 0, .int .i64 0, .int .i64 0, .int .i64 0, .int .i64 0, .int .i64 0, .int .i64 0, .int .i64 0, .int .i64 0, .int .i64 0, .int .i64 0, .int .i64 0, .int .i64 0, .int .i64 0, .int .i64 0, .int .i64 0, .int .i64 0, .snil, .snil, .snil, .snil, .snil]) (.agg [.int .i64 0, .int .i64 0, .int .i64 0, .int .i64 0, .int .i64 0, .int .i64 0, .int .i64 0, .int .i64 0, .int .i64 0, .int .i64 0, .int .i64 0, .int .i64 0, .int .i64 0, .int .i64 0, .int .i64 0, .int .i64 0, .int .i64 0, .int .i64 0, .int .i64 0, .snil, .snil, .snil, .snil, .snil]) s26 rfl ts_35 (m80 _ _ h10) rfl rfl rfl rfl ?_)))
 intro H90 h91 k92
 have m95 := Mono.set (Mono.trans m11 m80) z6 k92
 refine A rfl rfl (A rfl rfl ?_)
 refine rt_ ?_
 refine Fin.frzCell 19 (Own.nil H0 H90 1) h91 z6 rfl (NotId.nil _) m95 fun H96 h97 m98 k99 => ?_
 have h101 : H96 i1 = some (.row 0 ([.int .i64 0, .int .i64 0, .int .i64 0, .int .i64 0, .int .i64 0, .int .i64 0, .int .i64 0, .int .i64 0, .int .i64 0, .int .i64 0, .int .i64 0, .int .i64 0, .int .i64 0, .int .i64 0, .int .i64 0, .int .i64 0, .int .i64 0, .int .i64 0, .int .i64 0, .sl 0 ([]), .snil, .snil, .snil, .snil])) := h97
 refine Fin.frzCell 20 (Own.nil H0 H96 1) h101 z6 rfl (NotId.nil _) m98 fun H102 h103 m104 k105 => ?_
 have h107 : H102 i1 = some (.row 0 ([.int .i64 0, .int .i64 0, .int .i64 0, .int .i64 0, .int .i64 0, .int .i64 0, .int .i64 0, .int .i64 0, .int .i64 0, .int .i64 0, .int .i64 0, .int .i64 0, .int .i64 0, .int .i64 0, .int .i64 0, .int .i64 0, .int .i64 0, .int .i64 0, .int .i64 0, .sl 0 ([]), .sl 0 ([]), .snil, .snil, .snil])) := h103
 refine Fin.frzCell 21 (Own.nil H0 H102 1) h107 z6 rfl (NotId.nil _) m104 fun H108 h109 m110 k111 => ?_
 have h113 : H108 i1 = some (.row 0 ([.int .i64 0, .int .i64 0, .int .i64 0, .int .i64 0, .int .i64 0, .int .i64 0, .int .i64 0, .int .i64 0, .int .i64 0, .int .i64 0, .int .i64 0, .int .i64 0, .int .i64 0, .int .i64 0, .int .i64 0, .int .i64 0, .int .i64 0, .int .i64 0, .int .i64 0, .sl 0 ([]), .sl 0 ([]), .sl 0 ([]), .snil, .snil])) := h109
 refine Fin.frzCell 22 (Own.nil H0 H108 1) h113 z6 rfl (NotId.nil _) m110 fun H114 h115 m116 k117 => ?_
 have h119 : H114 i1 = some (.row 0 ([.int .i64 0, .int .i64 0, .int .i64 0, .int .i64 0, .int .i64 0, .int .i64 0, .int .i64 0, .int .i64 0, .int .i64 0, .int .i64 0, .int .i64 0, .int .i64 0, .int .i64 0, .int .i64 0, .int .i64 0, .int .i64 0, .int .i64 0, .int .i64 0, .int .i64 0, .sl 0 ([]), .sl 0 ([]), .sl 0 ([]), .sl 0 ([]), .snil])) := h115
 refine Fin.frzCell 23 (Own.nil H0 H114 1) h119 z6 rfl (NotId.nil _) m116 fun H120 h121 m122 k123 => ?_
 have h125 : H120 i1 = some (.row 0 ([.int .i64 0, .int .i64 0, .int .i64 0, .int .i64 0, .int .i64 0, .int .i64 0, .int .i64 0, .int .i64 0, .int .i64 0, .int .i64 0, .int .i64 0, .int .i64 0, .int .i64 0, .int .i64 0, .int .i64 0, .int .i64 0, .int .i64 0, .int .i64 0, .int .i64 0, .sl 0 ([]), .sl 0 ([]), .sl 0 ([]), .sl 0 ([]), .sl 0 ([])])) := h121
 refine Rr (Res.list rfl rfl (.cell (v := .agg [.int .i64 0, .int .i64 0, .int .i64 0, .int .i64 0, .int .i64 0, .int .i64 0, .int .i64 0, .int .i64 0, .int .i64 0, .int .i64 0, .int .i64 0, .int .i64 0, .int .i64 0, .int .i64 0, .int .i64 0, .int .i64 0, .int .i64 0, .int .i64 0, .int .i64 0, .sl 0 ([]), .sl 0 ([]), .sl 0 ([]), .sl 0 ([]), .sl 0 ([])]) s26 ty_35 h125 rfl (.tmp rfl (.tmp rfl (.nil))))) ?_ m122
 have hP : parseR s = (rd0.scene, 0, 15) := parse_no hl0_ hfd (by omega) b83
 exact (congrArg (fun r : SceneT × Int × Int => AV.tup [.agg (eScene r.1), .int .i64 r.2.1, .int .i64 r.2.2]) hP).symm
 refine ct_ rfl (nb (decide_eq_false b12)) ?_
 refine Sr ?_
 refine C rfl (Bl (cells := [.int .i64 0, .int .i64 0, .int .i64 0, .int .i64 0, .int .i64 0, .int .i64 0, .int .i64 0, .int .i64 0, .int .i64 0, .int .i64 0, .int .i64 0, .int .i64 0, .int .i64 0, .int .i64 0, .int .i64 0, .int .i64 0, .int .i64 0, .int .i64 0, .int .i64 0, .snil, .snil, .snil, .snil, .snil]) rfl tz_35 pl_35 rfl rfl (V rfl rfl (V rfl rfl (C rfl (Sw rfl rfl ts_35 h10 rfl rfl rfl ?_)))))
 intro H126 h127 k128
 have m130 := Mono.set m11 z6 k128
 refine A rfl rfl (A rfl rfl ?_)
 refine rt_ ?_
 refine Fin.frzCell 19 (Own.nil H0 H126 1) h127 z6 rfl (NotId.nil _) m130 fun H131 h132 m133 k134 => ?_
 have h135 : H131 i1 = some (.row 0 ([.int .i64 0, .int .i64 0, .int .i64 0, .int .i64 0, .int .i64 0, .int .i64 0, .int .i64 0, .int .i64 0, .int .i64 0, .int .i64 0, .int .i64 0, .int .i64 0, .int .i64 0, .int .i64 0, .int .i64 0, .int .i64 0, .int .i64 0, .int .i64 0, .int .i64 0, .sl 0 ([]), .snil, .snil, .snil, .snil])) := h132
 refine Fin.frzCell 20 (Own.nil H0 H131 1) h135 z6 rfl (NotId.nil _) m133 fun H136 h137 m138 k139 => ?_
 have h140 : H136 i1 = some (.row 0 ([.int .i64 0, .int .i64 0, .int .i64 0, .int .i64 0, .int .i64 0, .int .i64 0, .int .i64 0, .int .i64 0, .int .i64 0, .int .i64 0, .int .i64 0, .int .i64 0, .int .i64 0, .int .i64 0, .int .i64 0, .int .i64 0, .int .i64 0, .int .i64 0, .int .i64 0, .sl 0 ([]), .sl 0 ([]), .snil, .snil, .snil])) := h137
 refine Fin.frzCell 21 (Own.nil H0 H136 1) h140 z6 rfl (NotId.nil _) m138 fun H141 h142 m143 k144 => ?_
 have h145 : H141 i1 = some (.row 0 ([.int .i64 0, .int .i64 0, .int .i64 0, .int .i64 0, .int .i64 0, .int .i64 0, .int .i64 0, .int .i64 0, .int .i64 0, .int .i64 0, .int .i64 0, .int .i64 0, .int .i64 0, .int .i64 0, .int .i64 0, .int .i64 0, .int .i64 0, .int .i64 0, .int .i64 0, .sl 0 ([]), .sl 0 ([]), .sl 0 ([]), .snil, .snil])) := h142
 refine Fin.frzCell 22 (Own.nil H0 H141 1) h145 z6 rfl (NotId.nil _) m143 fun H146 h147 m148 k149 => ?_
 have h150 : H146 i1 = some (.row 0 ([.int .i64 0, .int .i64 0, .int .i64 0, .int .i64 0, .int .i64 0, .int .i64 0, .int .i64 0, .int .i64 0, .int .i64 0, .int .i64 0, .int .i64 0, .int .i64 0, .int .i64 0, .int .i64 0, .int .i64 0, .int .i64 0, .int .i64 0, .int .i64 0, .int .i64 0, .sl 0 ([]), .sl 0 ([]), .sl 0 ([]), .sl 0 ([]), .snil])) := h147
 refine Fin.frzCell 23 (Own.nil H0 H146 1) h150 z6 rfl (NotId.nil _) m148 fun H151 h152 m153 k154 => ?_
 have h155 : H151 i1 = some (.row 0 ([.int .i64 0, .int .i64 0, .int .i64 0, .int .i64 0, .int .i64 0, .int .i64 0, .int .i64 0, .int .i64 0, .int .i64 0, .int .i64 0, .int .i64 0, .int .i64 0, .int .i64 0, .int .i64 0, .int .i64 0, .int .i64 0, .int .i64 0, .int .i64 0, .int .i64 0, .sl 0 ([]), .sl 0 ([]), .sl 0 ([]), .sl 0 ([]), .sl 0 ([])])) := h152
 refine Rr (Res.list rfl rfl (.cell (v := .agg [.int .i64 0, .int .i64 0, .int .i64 0, .int .i64 0, .int .i64 0, .int .i64 0, .int .i64 0, .int .i64 0, .int .i64 0, .int .i64 0, .int .i64 0, .int .i64 0, .int .i64 0, .int .i64 0, .int .i64 0, .int .i64 0, .int .i64 0, .int .i64 0, .int .i64 0, .sl 0 ([]), .sl 0 ([]), .sl 0 ([]), .sl 0 ([]), .sl 0 ([])]) rfl ty_35 h155 rfl (.tmp rfl (.tmp rfl (.nil))))) ?_ m153
 have hP : parseR s = (rd0.scene, (linesR s).2.1, (linesR s).2.2) := if_neg b12
 exact (congrArg (fun r : SceneT × Int × Int => AV.tup [.agg (eScene r.1), .int .i64 r.2.1, .int .i64 r.2.2]) hP).symm
end Go.Proofs.S
namespace Go.Proofs.S
open Go Go.AH Go.Proofs.L
set_option maxRecDepth 4000
set_option linter.unusedSectionVars false
variable [LexG]
theorem at_out {α : Type} [Inhabited α] {l : List α} {i : Int} (h : (l.length : Int) ≤ i) : at_ l i = default := by
  simp only [at_, List.getD_eq_getElem?_getD]
  rw [List.getElem?_eq_none (by omega)]; rfl
theorem at_neg {α : Type} [Inhabited α] {l : List α} {i : Int} (h : i < 0) : at_ l i = at_ l 0 := by
  simp only [at_, show i.toNat = (0 : Int).toNat by omega]
theorem numsL_at (w : List ByteArray) (i : Int) : -999999 ≤ at_ (numsL w) i ∧ at_ (numsL w) i ≤ 999999 := by
  have key : ∀ i : Int, 0 ≤ i → -999999 ≤ at_ (numsL w) i ∧ at_ (numsL w) i ≤ 999999 := fun i h0 => by
    by_cases h : i < ((numsL w).length : Int)
    · exact nums_rng w i h0 h
    · rw [at_out (by omega), show (default : Int) = 0 from rfl]; omega
  by_cases h : i < 0
  · rw [at_neg h]; exact key 0 (by omega)
  · exact key i (by omega)
theorem inRn (w : List ByteArray) (i : Int) : inR (at_ (numsL w) i) := by have := numsL_at w i; unfold inR; omega
theorem numsL_drop (w : List ByteArray) (k : Nat) : (numsL w).drop k = numsL (w.drop k) := by simp [numsL]
theorem ranPt (w : List ByteArray) : ranV (ptR (numsL w)) := ⟨inRn _ _, inRn _ _, inRn _ _⟩
theorem ranColR (w : List ByteArray) : ranCol (colR (numsL w)) := ⟨inRn _ _, inRn _ _, inRn _ _⟩
theorem named_at {w : List ByteArray} {k l : Int} (h : namedB w k l = true) (hk : 1 ≤ k) (hl : 1 ≤ l) : (at_ w 0).size ≤ 1048576 := by
  have h1 := named_len h
  simp only [namedB, Bool.and_eq_true] at h
  have hm : at_ w 0 ∈ w.take k.toNat := by
    match w, h1 with
    | [], h1 => simp at h1; omega
    | a :: r, _ =>
      obtain ⟨m, hm⟩ : ∃ m, k.toNat = m + 1 := ⟨k.toNat - 1, by omega⟩
      rw [hm]; simp [at_]
  have := (nameB_iff.1 (List.all_eq_true.1 h.2 _ hm)).2.1
  omega
theorem putC_all {p : CageT → Prop} {cs : List CageT} {c : CageT} (h : ∀ c ∈ cs, p c) (hc : p c) : ∀ x ∈ putC cs c, p x := fun x hx => by
  rcases List.mem_append.1 hx with hx | hx
  · exact h x (List.dropLast_subset _ hx)
  · rw [List.mem_singleton.1 hx]; exact hc
theorem snoc_all {α : Type} {p : α → Prop} {l : List α} {a : α} (h : ∀ x ∈ l, p x) (ha : p a) : ∀ x ∈ l ++ [a], p x := fun x hx => by
  rcases List.mem_append.1 hx with hx | hx
  · exact h x hx
  · rw [List.mem_singleton.1 hx]; exact ha
theorem idx_inR (l : List ByteArray) (x : ByteArray) (h : l.length ≤ 1048576) : inR (idxN l x) := by have := idxN_rng l x; unfold inR; omega
theorem mem_nums {w : List ByteArray} {x : Int} (h : x ∈ numsL w) : inR x := by
  obtain ⟨y, _, rfl⟩ := List.mem_map.1 h
  have := num_rng y; unfold inR; omega
theorem lineP_ran {s t : Rd} {w : List ByteArray} (hw : w.length ≤ 1048576) (ok : RdOk s) (r : RanS s.scene) (h : lineP s w = .ok t) : RanS t.scene := by
  have ok' := lineP_ok ok h
  obtain ⟨a1, a2, a3, a4, a5, a6⟩ := ok
  obtain ⟨b1, b2, b3, b4, b5, b6⟩ := ok'
  obtain ⟨cam, sky, _, _, _, _, _, rl, rm, rt, rk, rc⟩ := r
  have lens : t.scene.Lights.length ≤ 1048576 ∧ t.scene.Mats.length ≤ 1048576 ∧ t.scene.Texs.length ≤ 1048576 ∧ t.scene.Skins.length ≤ 1048576 ∧ t.scene.Cages.length ≤ 1048576 :=
    ⟨Nat.le_trans b1 (by decide), Nat.le_trans b2 (by decide), Nat.le_trans b3 (by decide), Nat.le_trans b4 (by decide), by show t.cages.length ≤ _; omega⟩
  obtain ⟨n1, n2, n3, n4, n5⟩ := lens
  have lc : s.cages ≠ [] → ranCage (lastC s.cages) := fun hne => rc _ (lastC_mem hne)
  unfold lineP at h
  simp only [cameraP, skyP, lightP, textureP, materialP, cageP, vertexP, faceP, creaseP] at h
  repeat' split at h
  all_goals simp only [gd_ok, Except.ok.injEq, decide_eq_true_eq, reduceCtorEq] at h
  · obtain ⟨_, _, _, _, _, _, _, rfl⟩ := h
    refine ⟨?_, sky, n1, n2, n3, n4, n5, rl, rm, rt, rk, rc⟩
    show ranCam _
    simp only [numsL_drop]
    exact ⟨inRn _ _, inRn _ _, inRn _ _, inRn _ _, inRn _ _, inRn _ _, inRn _ _, inRn _ _, inRn _ _, inRn _ _, inRn _ _, inRn _ _, inRn _ _, inRn _ _, inRn _ _, inRn _ _⟩
  · obtain ⟨_, _, _, rfl⟩ := h; exact ⟨cam, ranColR _, n1, n2, n3, n4, n5, rl, rm, rt, rk, rc⟩
  · obtain ⟨_, h1, _, _, rfl⟩ := h
    refine ⟨cam, sky, n1, n2, n3, n4, n5, snoc_all rl ?_, rm, rt, rk, rc⟩
    simp only [numsL_drop]
    exact ⟨inRn _ _, inRn _ _, inRn _ _, inRn _ _, inRn _ _, inRn _ _⟩
  · obtain ⟨h0, _, _, h1, _, _, _, rfl⟩ := h
    refine ⟨cam, sky, n1, n2, n3, n4, n5, rl, rm, snoc_all rt ⟨named_at h0 (by omega) (by omega), inRn _ _, inRn _ _, ?_, fun x hx => ?_⟩, rk, rc⟩
    · rw [numsL_drop, numsL_len]; simp; omega
    · rw [numsL_drop] at hx; exact mem_nums hx
  · obtain ⟨h0, _, h1, _, _, _, _, _, _, rfl⟩ := h
    exact ⟨cam, sky, n1, n2, n3, n4, n5, rl, snoc_all rm ⟨named_at h0 (by omega) (by omega), inRn _ _, inRn _ _, inRn _ _, inRn _ _, inRn _ _, inRn _ _, inRn _ _, inRn _ _⟩, rt, rk, rc⟩
  · obtain ⟨h0, _, _, h1, _, _, _, _, rfl⟩ := h
    refine ⟨cam, sky, n1, n2, n3, n4, n5, rl, rm, rt, snoc_all rk ⟨named_at h0 (by omega) (by omega), idx_inR _ _ (by simp; omega), inRn (cageW (w.drop 1)) 0, inRn (cageW (w.drop 1)) 1, idx_inR _ _ (by simp; omega), inRn (cageW (w.drop 1)) 2⟩, snoc_all rc ?_⟩
    exact ⟨by simp, by simp, by simp, by simp⟩
  · obtain ⟨_, h1, h2, _, rfl⟩ := h
    have hne : s.cages ≠ [] := List.length_pos_iff.1 (by omega)
    have hc := lc hne
    refine ⟨cam, sky, n1, n2, n3, n4, n5, rl, rm, rt, rk, putC_all rc ⟨⟨by simp; omega, hc.1.2⟩, snoc_all hc.2.1 (ranPt _), hc.2.2⟩⟩
  · obtain ⟨_, h3, h1, h2, _, rfl⟩ := h
    have hne : s.cages ≠ [] := List.length_pos_iff.1 (by omega)
    have hc := lc hne
    have h8 : w.length ≤ 9 := by simp only [Bool.and_eq_true, decide_eq_true_eq, List.length_drop] at h3; omega
    refine ⟨cam, sky, n1, n2, n3, n4, n5, rl, rm, rt, rk, putC_all rc ⟨⟨hc.1.1, by simp; omega, hc.1.2.2⟩, hc.2.1, hc.2.2.1, snoc_all hc.2.2.2 ⟨by rw [numsL_len]; simp; omega, fun x hx => mem_nums hx⟩⟩⟩
  · obtain ⟨_, h1, h2, _, _, _, rfl⟩ := h
    have hne : s.cages ≠ [] := List.length_pos_iff.1 (by omega)
    have hc := lc hne
    refine ⟨cam, sky, n1, n2, n3, n4, n5, rl, rm, rt, rk, putC_all rc ⟨⟨hc.1.1, hc.1.2.1, by simp; omega⟩, hc.2.1, snoc_all hc.2.2.1 ⟨inRn _ _, inRn _ _, inRn _ _⟩, hc.2.2.2⟩⟩
theorem rd0_ran : RanS rd0.scene := by
  have z : inR 0 := by unfold inR; omega
  exact ⟨⟨z, z, z, z, z, z, z, z, z, z, z, z, z, z, z, z⟩, ⟨z, z, z⟩, by decide, by decide, by decide, by decide, by decide, by simp [rd0, Rd.scene], by simp [rd0, Rd.scene], by simp [rd0, Rd.scene], by simp [rd0, Rd.scene], by simp [rd0, Rd.scene]⟩
theorem foldP_ran : ∀ (l : List LineT) (s t : Rd), (∀ x ∈ l, x.Words.length ≤ 1048576) → RdOk s → RanS s.scene → foldP s l = .ok t → RdOk t ∧ RanS t.scene
  | [], s, t, _, h1, h2, h => by cases h; exact ⟨h1, h2⟩
  | x :: r, s, t, hw, h1, h2, h => by
    cases hl : lineP s x.Words with
    | error k => rw [foldP_err hl] at h; cases h
    | ok u =>
      rw [foldP_cons hl] at h
      exact foldP_ran r u t (fun y hy => hw y (.tail _ hy)) (lineP_ok h1 hl) (lineP_ran (hw x (.head _)) h1 h2 hl) h
theorem parse_cases (s : ByteArray) : (∃ t, parseR s = (t.scene, 0, 0) ∧ RdOk t ∧ RanS t.scene ∧ (linesR s).2.2 = 0 ∧ foldP rd0 (linesR s).1 = .ok t ∧ t.hc = true) ∨ ((parseR s).1 = rd0.scene ∧ (parseR s).2.2 ≠ 0) := by
  unfold parseR
  by_cases h : (linesR s).2.2 = 0
  · rw [if_pos h]
    cases hf : foldP rd0 (linesR s).1 with
    | ok t =>
      obtain ⟨h1, h2⟩ := foldP_ran _ _ _ (lines_words s) rd0_ok rd0_ran hf
      by_cases hc : t.hc = true
      · exact .inl ⟨t, by simp [endP, hc], h1, h2, h, rfl, hc⟩
      · exact .inr (by simp [endP, hc])
    | error e =>
      refine .inr ⟨rfl, ?_⟩
      have key : ∀ (l : List LineT) (u : Rd) (e : Int × Int), foldP u l = .error e → e.2 ≠ 0 := by
        intro l
        induction l with
        | nil => intro u e h; cases h
        | cons x r ih =>
          intro u e h
          cases hl : lineP u x.Words with
          | error k => rw [foldP_err hl] at h; cases h; exact line_err hl
          | ok v => rw [foldP_cons hl] at h; exact ih v e h
      exact key _ _ _ hf
  · rw [if_neg h]; exact .inr ⟨rfl, h⟩
theorem parse_ran (s : ByteArray) : RanS (parseR s).1 ∧ (parseR s).1.Skins.length = (parseR s).1.Cages.length := by
  rcases parse_cases s with ⟨t, h, h1, h2, _⟩ | ⟨h, _⟩
  · rw [h]; exact ⟨h2, h1.c.symm⟩
  · rw [h]; exact ⟨rd0_ran, rfl⟩
end Go.Proofs.S
namespace Go.Proofs.S
open Go Go.AH Go.Proofs.L
set_option maxRecDepth 20000
set_option linter.unusedSectionVars false
variable [LexG]
def alS1 : SceneT := ⟨⟨⟨0, 0, -9⟩, ⟨0, 0, 8⟩, ⟨1, 0, 0⟩, ⟨0, 1, 0⟩, 2, 2, 1, 0⟩, ⟨0, 0, 0⟩, [], [⟨⟨#[109]⟩, ⟨1, 2, 3⟩, 0, 1, 0, 0, 256⟩], [], [⟨⟨#[99]⟩, 0, 1, 5, -1, 0⟩], [⟨[⟨1, 2, 3⟩], [], []⟩]⟩
def alT1 : ByteArray := ⟨#[99, 97, 109, 101, 114, 97, 32, 48, 32, 48, 32, 45, 57, 32, 48, 32, 48, 32, 56, 32, 49, 32, 48, 32, 48, 32, 48, 32, 49, 32, 48, 32, 50, 32, 50, 32, 49, 32, 48, 10, 109, 97, 116, 101, 114, 105, 97, 108, 32, 109, 32, 49, 32, 50, 32, 51, 32, 48, 32, 49, 32, 48, 32, 48, 32, 50, 53, 54, 10, 99, 97, 103, 101, 32, 99, 32, 109, 32, 49, 32, 53, 32, 45, 32, 48, 10, 118, 32, 49, 32, 50, 32, 51, 10]⟩
def alT2 : ByteArray := ⟨#[10, 108, 105, 103, 104, 116, 32, 49]⟩
def alT3 : ByteArray := ⟨#[115, 107, 121, 32, 49, 32, 50, 32, 51]⟩
theorem al_1 : parseR alT1 = (alS1, 0, 0) := by kernel_rfl
theorem al_pc1 : PC Tryz.prog 9 [.str alT1] (.tup [.agg (eScene alS1), .int .i64 0, .int .i64 0]) :=
  Eq.mp (congrArg (fun r : SceneT × Int × Int => PC Tryz.prog 9 [.str alT1] (.tup [.agg (eScene r.1), .int .i64 r.2.1, .int .i64 r.2.2])) al_1) (c_Parse alT1)
theorem al_2 : parseR alT2 = (rd0.scene, 2, 10) := by kernel_rfl
theorem al_pc2 : PC Tryz.prog 9 [.str alT2] (.tup [.agg (eScene rd0.scene), .int .i64 2, .int .i64 10]) :=
  Eq.mp (congrArg (fun r : SceneT × Int × Int => PC Tryz.prog 9 [.str alT2] (.tup [.agg (eScene r.1), .int .i64 r.2.1, .int .i64 r.2.2])) al_2) (c_Parse alT2)
theorem al_3 : parseR alT3 = (rd0.scene, 0, 15) := by kernel_rfl
theorem al_pc3 : PC Tryz.prog 9 [.str alT3] (.tup [.agg (eScene rd0.scene), .int .i64 0, .int .i64 15]) :=
  Eq.mp (congrArg (fun r : SceneT × Int × Int => PC Tryz.prog 9 [.str alT3] (.tup [.agg (eScene r.1), .int .i64 r.2.1, .int .i64 r.2.2])) al_3) (c_Parse alT3)
end Go.Proofs.S
namespace Go.Proofs.S
open Go Go.AH Go.Proofs.L
set_option maxRecDepth 4000
set_option maxHeartbeats 4000000
set_option linter.unusedSimpArgs false
set_option linter.unusedVariables false
set_option linter.unusedSectionVars false
variable [LexG]
theorem c_alive : PC Tryz.prog 8 [] (.bool true) := by
 intro H0
 refine ACalls.of_body' (n := 79) rfl rfl rfl rfl ?_
 have m0 := Mono.refl H0
 refine Sr ?_
 refine A rfl rfl ?_
 refine Sr ?_
 refine C rfl (Pc («as» := [.str ⟨#[99, 97, 109, 101, 114, 97, 32, 48, 32, 48, 32, 45, 57, 32, 48, 32, 48, 32, 56, 32, 49, 32, 48, 32, 48, 32, 48, 32, 49, 32, 48, 32, 50, 32, 50, 32, 49, 32, 48, 10, 109, 97, 116, 101, 114, 105, 97, 108, 32, 109, 32, 49, 32, 50, 32, 51, 32, 48, 32, 49, 32, 48, 32, 48, 32, 50, 53, 54, 10, 99, 97, 103, 101, 32, 99, 32, 109, 32, 49, 32, 53, 32, 45, 32, 48, 10, 118, 32, 49, 32, 50, 32, 51, 10]⟩]) rfl rfl (rfl) tf_9 (al_pc1) ?_)
 intro H1 m2
 have m3 := m0.trans m2
 refine V rfl rfl (E rfl rfl rfl (E rfl rfl rfl (E rfl rfl rfl (C rfl (al_ rfl tz_35 ?_)))))
 intro i4 H5 n6 h7 k8
 have z9 := Mono.free m3 n6
 have m10 := Mono.new m3 n6 k8
 refine C rfl (Sw rfl rfl ts_35 h7 rfl rfl rfl ?_)
 intro H11 h12 k13
 have m15 := Mono.set m10 z9 k13
 refine A rfl rfl (A rfl rfl ?_)
 refine AWP.seq ?_
 refine fz_ 1 h12 z9 rfl m15 fun H16 m17 k18 => ?_
 refine AWP.region rfl ?_
 refine C rfl (Pc («as» := [.str ⟨#[10, 108, 105, 103, 104, 116, 32, 49]⟩]) rfl rfl (rfl) tf_9 (al_pc2) ?_)
 intro H19 m20
 have m21 := m17.trans m20
 refine V rfl rfl (E rfl rfl rfl (E rfl rfl rfl (E rfl rfl rfl (C rfl (al_ rfl tz_35 ?_)))))
 intro i22 H23 n24 h25 k26
 have z27 := Mono.free m21 n24
 have m28 := Mono.new m21 n24 k26
 refine C rfl (Sw rfl rfl ts_35 h25 rfl rfl rfl ?_)
 intro H29 h30 k31
 have m33 := Mono.set m28 z27 k31
 refine A rfl rfl (A rfl rfl ?_)
 refine AWP.seq ?_
 refine fz_ 4 h30 z27 rfl m33 fun H34 m35 k36 => ?_
 refine AWP.region rfl ?_
 refine C rfl (Pc («as» := [.str ⟨#[115, 107, 121, 32, 49, 32, 50, 32, 51]⟩]) rfl rfl (rfl) tf_9 (al_pc3) ?_)
 intro H37 m38
 have m39 := m35.trans m38
 refine V rfl rfl (E rfl rfl rfl (E rfl rfl rfl (E rfl rfl rfl (C rfl (al_ rfl tz_35 ?_)))))
 intro i40 H41 n42 h43 k44
 have z45 := Mono.free m39 n42
 have m46 := Mono.new m39 n42 k44
 refine C rfl (Sw rfl rfl ts_35 h43 rfl rfl rfl ?_)
 intro H47 h48 k49
 have m51 := Mono.set m46 z45 k49
 refine A rfl rfl (A rfl rfl ?_)
 refine AWP.seq ?_
 refine fz_ 7 h48 z45 rfl m51 fun H52 m53 k54 => ?_
 have hal1 : alS1.Cages.length = 1 := rfl
 have hal2 : alS1.Skins.length = 1 := rfl
 refine AWP.region rfl ?_
 refine V rfl rfl (B rfl rfl rfl ieq (V rfl rfl (Y rfl rfl rfl (decide_eq_true (by decide)) (Ff rfl rfl fl_35_0 (Y rfl rfl rfl (decide_eq_true (by decide)) (Ff rfl rfl fl_26_0 (Y rfl rfl rfl (decide_eq_true (by decide)) (Ff rfl rfl fl_24_2 (Y rfl rfl rfl (decide_eq_true (by decide)) (Lf _ rfl rfl ty_3 rfl (Y rfl rfl rfl (decide_eq_true (by decide)) (Bi _ rfl rfl rfl ieq (C rfl (Pt _ rfl rfl (decide_eq_true (by decide)) rfl (V rfl rfl (Y rfl rfl rfl (decide_eq_true (rfl)) (Ff rfl rfl fl_35_6 (Y rfl rfl rfl (decide_eq_true (rfl)) (Lf _ rfl rfl ty_33 rfl (Y rfl rfl rfl (decide_eq_true (rfl)) (AOp.len (m := alS1.Cages.length) rfl rfl (.inr (.inl ⟨_, rfl⟩)) u_33 (Y rfl rfl rfl (decide_eq_true (rfl)) (Bi _ rfl rfl rfl ieq (C rfl (Pt _ rfl rfl (decide_eq_true (rfl)) rfl (V rfl rfl (Y rfl rfl rfl (decide_eq_true (rfl)) (Ff rfl rfl fl_35_6 (Y rfl rfl rfl (decide_eq_true (rfl)) (Lf _ rfl rfl ty_33 rfl ?_))))))))))))))))))))))))))))))
 refine Y rfl rfl rfl (decide_eq_true (rfl)) (iS_ rfl rfl rfl sl_33 (by omega) (by omega) (Y rfl rfl rfl (decide_eq_true (rfl)) (Ff rfl rfl fl_48_0 (Y rfl rfl rfl (decide_eq_true (rfl)) (Lf _ rfl rfl ty_44 (ldF eCage_len (by omega) (by omega) rfl (by decide)) (Y rfl rfl rfl (decide_eq_true (rfl)) (AOp.len (m := ((at_ alS1.Cages 0).Verts).length) rfl rfl (.inr (.inl ⟨_, rfl⟩)) u_44 (Y rfl rfl rfl (decide_eq_true (rfl)) (Bi _ rfl rfl rfl ieq (C rfl (Pt _ rfl rfl (decide_eq_true (rfl)) rfl (V rfl rfl (Y rfl rfl rfl (decide_eq_true (rfl)) (Ff rfl rfl fl_35_5 (Y rfl rfl rfl (decide_eq_true (rfl)) (Lf _ rfl rfl ty_32 rfl (Y rfl rfl rfl (decide_eq_true (rfl)) (AOp.len (m := alS1.Skins.length) rfl rfl (.inr (.inl ⟨_, rfl⟩)) u_32 (Y rfl rfl rfl (decide_eq_true (rfl)) (Bi _ rfl rfl rfl ieq (C rfl (Pt _ rfl rfl (decide_eq_true (rfl)) rfl (V rfl rfl (Y rfl rfl rfl (decide_eq_true (rfl)) (Ff rfl rfl fl_35_5 (Y rfl rfl rfl (decide_eq_true (rfl)) (Lf _ rfl rfl ty_32 rfl (Y rfl rfl rfl (decide_eq_true (rfl)) (iS_ rfl rfl rfl sl_32 (by omega) (by omega) (Y rfl rfl rfl (decide_eq_true (rfl)) (Ff rfl rfl fl_50_4 (Y rfl rfl rfl (decide_eq_true (rfl)) (Lf _ rfl rfl ty_3 (ldF eSkin_len (by omega) (by omega) rfl (by decide)) ?_)))))))))))))))))))))))))))))))))
 refine Y rfl rfl rfl (decide_eq_true (rfl)) (Bi _ rfl rfl rfl ieq (C rfl (Pt _ rfl rfl (decide_eq_true (rfl)) rfl (V rfl rfl (Y rfl rfl rfl (decide_eq_true (rfl)) (Mv _ rfl rfl (Y rfl rfl rfl (decide_eq_true (rfl)) (Bi _ rfl rfl rfl ieq (C rfl (Pt _ rfl rfl (decide_eq_true (rfl)) rfl (V rfl rfl (Y rfl rfl rfl (decide_eq_true (by decide)) (Mv _ rfl rfl (Y rfl rfl rfl (decide_eq_true (by decide)) (Bi _ rfl rfl rfl ieq (C rfl (Pt _ rfl rfl (decide_eq_true (by decide)) rfl (V rfl rfl (Y rfl rfl rfl (decide_eq_true (by decide)) (Mv _ rfl rfl (Y rfl rfl rfl (decide_eq_true (by decide)) (Bi _ rfl rfl rfl ieq (C rfl (Pt _ rfl rfl (decide_eq_true (by decide)) rfl (V rfl rfl (Y rfl rfl rfl (decide_eq_true (by decide)) (Mv _ rfl rfl (Y rfl rfl rfl (decide_eq_true (by decide)) (Bi _ rfl rfl rfl ieq (C rfl (Pt _ rfl rfl (decide_eq_true (by decide)) rfl ?_)))))))))))))))))))))))))))))))
 refine A rfl rfl ?_
 refine rt_ ?_
 refine Rr (Res.one rfl rfl) ?_ m53
 exact (congrArg AV.bool (show (decide (15 = 15) : Bool) = true from by decide))
end Go.Proofs.S
namespace Go.Proofs.S
open Go Go.AH Go.Proofs.L
set_option maxRecDepth 4000
set_option maxHeartbeats 4000000
set_option linter.unusedSimpArgs false
set_option linter.unusedVariables false
set_option linter.unusedSectionVars false
variable [LexG]
abbrev ZSceneParses_0 (s : ByteArray) := (((parseR s).1).Camera).First
abbrev ZSceneParses_1 (s : ByteArray) := (((parseR s).1).Camera).Right
abbrev ZSceneParses_2 (s : ByteArray) := (((parseR s).1).Camera).Down
abbrev ZSceneParses_3 (s : ByteArray) := (((parseR s).1).Camera).Eye
theorem c_SceneParses (s : ByteArray) : PC Tryz.prog 3 [.str s] (.bool true) := by
 intro H0
 refine ACalls.of_body' (n := 44) rfl rfl rfl rfl ?_
 have m0 := Mono.refl H0
 refine Sr ?_
 refine A rfl rfl ?_
 refine AWP.seq ?_
 refine Sr ?_
 refine C rfl (Pc («as» := []) rfl rfl (rfl) tf_8 (c_alive) ?_)
 intro H1 m2
 have m3 := m0.trans m2
 refine C rfl (AOp.not rfl rfl ?_)
 refine cf_ rfl rfl ?_
 refine AWP.skip ?_
 refine AWP.seq ?_
 refine Sr ?_
 refine V rfl rfl (C rfl (AOp.lenStr rfl rfl u_9 (B rfl rfl rfl rfl (V rfl rfl ?_))))
 by_cases b4 : (s.size : Int) > 8000
 refine Y rfl rfl rfl (decide_eq_true b4) (Mv _ rfl rfl (Y rfl rfl rfl (decide_eq_true b4) (AOp.lenStr rfl rfl u_9 (Y rfl rfl rfl (decide_eq_true b4) (Bi _ rfl rfl rfl rfl (C rfl (Pt _ rfl rfl (decide_eq_true b4) rfl ?_)))))))
 refine AOps.nil ?_
 change AWP _ _ _ _ _ _
 by_cases b5 : (s.size : Int) ≤ 65536
 refine ct_ rfl (decide_eq_true b5) ?_
 refine Sr ?_
 refine A rfl rfl ?_
 refine rt_ ?_
 refine Rr (Res.one rfl rfl) ?_ m3
 exact rfl
 refine cf_ rfl (decide_eq_false b5) ?_
 refine AWP.skip ?_
 refine Sr ?_
 refine V rfl rfl (C rfl (Pc («as» := [.str s]) rfl rfl (rfl) tf_9 (c_Parse s) ?_))
 intro H6 m7
 have m8 := m3.trans m7
 refine V rfl rfl (E rfl rfl rfl (E rfl rfl rfl (E rfl rfl rfl (C rfl (al_ rfl tz_35 ?_)))))
 intro i9 H10 n11 h12 k13
 have z14 := Mono.free m8 n11
 have m15 := Mono.new m8 n11 k13
 refine C rfl (Sw rfl rfl ts_35 h12 rfl rfl rfl ?_)
 intro H16 h17 k18
 have m20 := Mono.set m15 z14 k18
 refine A rfl rfl (A rfl rfl ?_)
 refine AWP.seq ?_
 refine fz_ 3 h17 z14 rfl m20 fun H21 m22 k23 => ?_
 refine AWP.region rfl ?_
 refine V rfl rfl (C rfl (Pc («as» := [.str s]) rfl rfl (rfl) tf_10 (c_rParse s) ?_))
 intro H24 m25
 have m26 := m22.trans m25
 refine V rfl rfl (E rfl rfl rfl (E rfl rfl rfl (E rfl rfl rfl (C rfl (al_ rfl tz_35 ?_)))))
 intro i27 H28 n29 h30 k31
 have z32 := Mono.free m26 n29
 have m33 := Mono.new m26 n29 k31
 refine C rfl (Sw rfl rfl ts_35 h30 rfl rfl rfl ?_)
 intro H34 h35 k36
 have m38 := Mono.set m33 z32 k36
 refine A rfl rfl (A rfl rfl ?_)
 refine AWP.seq ?_
 refine fz_ 6 h35 z32 rfl m38 fun H39 m40 k41 => ?_
 refine AWP.region rfl ?_
 refine L rfl rfl ty_35 rfl (L rfl rfl ty_35 rfl (C rfl (Pc («as» := [.agg [.int .i64 ((ZSceneParses_3 s).X), .int .i64 ((ZSceneParses_3 s).Y), .int .i64 ((ZSceneParses_3 s).Z), .int .i64 ((ZSceneParses_0 s).X), .int .i64 ((ZSceneParses_0 s).Y), .int .i64 ((ZSceneParses_0 s).Z), .int .i64 ((ZSceneParses_1 s).X), .int .i64 ((ZSceneParses_1 s).Y), .int .i64 ((ZSceneParses_1 s).Z), .int .i64 ((ZSceneParses_2 s).X), .int .i64 ((ZSceneParses_2 s).Y), .int .i64 ((ZSceneParses_2 s).Z), .int .i64 ((((parseR s).1).Camera).W), .int .i64 ((((parseR s).1).Camera).H), .int .i64 ((((parseR s).1).Camera).Grid), .int .i64 ((((parseR s).1).Camera).Depth), .int .i64 ((((parseR s).1).Sky).R), .int .i64 ((((parseR s).1).Sky).G), .int .i64 ((((parseR s).1).Sky).B), .sl (((parseR s).1).Lights).length ((((parseR s).1).Lights).flatMap eLight), .sl (((parseR s).1).Mats).length ((((parseR s).1).Mats).flatMap eMat), .sl (((parseR s).1).Texs).length ((((parseR s).1).Texs).flatMap eTex), .sl (((parseR s).1).Skins).length ((((parseR s).1).Skins).flatMap eSkin), .sl (((parseR s).1).Cages).length ((((parseR s).1).Cages).flatMap eCage)], .agg [.int .i64 ((ZSceneParses_3 s).X), .int .i64 ((ZSceneParses_3 s).Y), .int .i64 ((ZSceneParses_3 s).Z), .int .i64 ((ZSceneParses_0 s).X), .int .i64 ((ZSceneParses_0 s).Y), .int .i64 ((ZSceneParses_0 s).Z), .int .i64 ((ZSceneParses_1 s).X), .int .i64 ((ZSceneParses_1 s).Y), .int .i64 ((ZSceneParses_1 s).Z), .int .i64 ((ZSceneParses_2 s).X), .int .i64 ((ZSceneParses_2 s).Y), .int .i64 ((ZSceneParses_2 s).Z), .int .i64 ((((parseR s).1).Camera).W), .int .i64 ((((parseR s).1).Camera).H), .int .i64 ((((parseR s).1).Camera).Grid), .int .i64 ((((parseR s).1).Camera).Depth), .int .i64 ((((parseR s).1).Sky).R), .int .i64 ((((parseR s).1).Sky).G), .int .i64 ((((parseR s).1).Sky).B), .sl (((parseR s).1).Lights).length ((((parseR s).1).Lights).flatMap eLight), .sl (((parseR s).1).Mats).length ((((parseR s).1).Mats).flatMap eMat), .sl (((parseR s).1).Texs).length ((((parseR s).1).Texs).flatMap eTex), .sl (((parseR s).1).Skins).length ((((parseR s).1).Skins).flatMap eSkin), .sl (((parseR s).1).Cages).length ((((parseR s).1).Cages).flatMap eCage)]]) rfl rfl (rfl) tf_11 (c_Same ((parseR s).1) ((parseR s).1) (parse_ran _).1 (parse_ran _).1 (parse_ran _).2) ?_)))
 intro H42 m43
 have m44 := m40.trans m43
 refine V rfl rfl (Y rfl rfl rfl (decide_eq_true rfl) (Mv _ rfl rfl (Y rfl rfl rfl (decide_eq_true rfl) (Mv _ rfl rfl (Y rfl rfl rfl (decide_eq_true rfl) (Bi _ rfl rfl rfl ieq (C rfl (Pt _ rfl rfl (decide_eq_true rfl) rfl (V rfl rfl (Y rfl rfl rfl (decide_eq_true rfl) (Mv _ rfl rfl (Y rfl rfl rfl (decide_eq_true rfl) (Mv _ rfl rfl (Y rfl rfl rfl (decide_eq_true rfl) (Bi _ rfl rfl rfl ieq (C rfl (Pt _ rfl rfl (decide_eq_true rfl) rfl (A rfl rfl ?_))))))))))))))))))
 refine rt_ ?_
 refine Rr (Res.one rfl rfl) ?_ m44
 exact (congrArg AV.bool (show (decide ((parseR s).2.2 = (parseR s).2.2) : Bool) = true from by first | decide | rfl | simp))
 refine N rfl rfl (decide_eq_false b4) (N rfl rfl (decide_eq_false b4) (N rfl rfl (decide_eq_false b4) (C rfl (Pf _ rfl rfl (decide_eq_false b4) rfl ?_))))
 refine cf_ rfl rfl ?_
 refine AWP.skip ?_
 refine Sr ?_
 refine V rfl rfl (C rfl (Pc («as» := [.str s]) rfl rfl (rfl) tf_9 (c_Parse s) ?_))
 intro H45 m46
 have m47 := m3.trans m46
 refine V rfl rfl (E rfl rfl rfl (E rfl rfl rfl (E rfl rfl rfl (C rfl (al_ rfl tz_35 ?_)))))
 intro i48 H49 n50 h51 k52
 have z53 := Mono.free m47 n50
 have m54 := Mono.new m47 n50 k52
 refine C rfl (Sw rfl rfl ts_35 h51 rfl rfl rfl ?_)
 intro H55 h56 k57
 have m59 := Mono.set m54 z53 k57
 refine A rfl rfl (A rfl rfl ?_)
 refine AWP.seq ?_
 refine fz_ 3 h56 z53 rfl m59 fun H60 m61 k62 => ?_
 refine AWP.region rfl ?_
 refine V rfl rfl (C rfl (Pc («as» := [.str s]) rfl rfl (rfl) tf_10 (c_rParse s) ?_))
 intro H63 m64
 have m65 := m61.trans m64
 refine V rfl rfl (E rfl rfl rfl (E rfl rfl rfl (E rfl rfl rfl (C rfl (al_ rfl tz_35 ?_)))))
 intro i66 H67 n68 h69 k70
 have z71 := Mono.free m65 n68
 have m72 := Mono.new m65 n68 k70
 refine C rfl (Sw rfl rfl ts_35 h69 rfl rfl rfl ?_)
 intro H73 h74 k75
 have m77 := Mono.set m72 z71 k75
 refine A rfl rfl (A rfl rfl ?_)
 refine AWP.seq ?_
 refine fz_ 6 h74 z71 rfl m77 fun H78 m79 k80 => ?_
 refine AWP.region rfl ?_
 refine L rfl rfl ty_35 rfl (L rfl rfl ty_35 rfl (C rfl (Pc («as» := [.agg [.int .i64 ((ZSceneParses_3 s).X), .int .i64 ((ZSceneParses_3 s).Y), .int .i64 ((ZSceneParses_3 s).Z), .int .i64 ((ZSceneParses_0 s).X), .int .i64 ((ZSceneParses_0 s).Y), .int .i64 ((ZSceneParses_0 s).Z), .int .i64 ((ZSceneParses_1 s).X), .int .i64 ((ZSceneParses_1 s).Y), .int .i64 ((ZSceneParses_1 s).Z), .int .i64 ((ZSceneParses_2 s).X), .int .i64 ((ZSceneParses_2 s).Y), .int .i64 ((ZSceneParses_2 s).Z), .int .i64 ((((parseR s).1).Camera).W), .int .i64 ((((parseR s).1).Camera).H), .int .i64 ((((parseR s).1).Camera).Grid), .int .i64 ((((parseR s).1).Camera).Depth), .int .i64 ((((parseR s).1).Sky).R), .int .i64 ((((parseR s).1).Sky).G), .int .i64 ((((parseR s).1).Sky).B), .sl (((parseR s).1).Lights).length ((((parseR s).1).Lights).flatMap eLight), .sl (((parseR s).1).Mats).length ((((parseR s).1).Mats).flatMap eMat), .sl (((parseR s).1).Texs).length ((((parseR s).1).Texs).flatMap eTex), .sl (((parseR s).1).Skins).length ((((parseR s).1).Skins).flatMap eSkin), .sl (((parseR s).1).Cages).length ((((parseR s).1).Cages).flatMap eCage)], .agg [.int .i64 ((ZSceneParses_3 s).X), .int .i64 ((ZSceneParses_3 s).Y), .int .i64 ((ZSceneParses_3 s).Z), .int .i64 ((ZSceneParses_0 s).X), .int .i64 ((ZSceneParses_0 s).Y), .int .i64 ((ZSceneParses_0 s).Z), .int .i64 ((ZSceneParses_1 s).X), .int .i64 ((ZSceneParses_1 s).Y), .int .i64 ((ZSceneParses_1 s).Z), .int .i64 ((ZSceneParses_2 s).X), .int .i64 ((ZSceneParses_2 s).Y), .int .i64 ((ZSceneParses_2 s).Z), .int .i64 ((((parseR s).1).Camera).W), .int .i64 ((((parseR s).1).Camera).H), .int .i64 ((((parseR s).1).Camera).Grid), .int .i64 ((((parseR s).1).Camera).Depth), .int .i64 ((((parseR s).1).Sky).R), .int .i64 ((((parseR s).1).Sky).G), .int .i64 ((((parseR s).1).Sky).B), .sl (((parseR s).1).Lights).length ((((parseR s).1).Lights).flatMap eLight), .sl (((parseR s).1).Mats).length ((((parseR s).1).Mats).flatMap eMat), .sl (((parseR s).1).Texs).length ((((parseR s).1).Texs).flatMap eTex), .sl (((parseR s).1).Skins).length ((((parseR s).1).Skins).flatMap eSkin), .sl (((parseR s).1).Cages).length ((((parseR s).1).Cages).flatMap eCage)]]) rfl rfl (rfl) tf_11 (c_Same ((parseR s).1) ((parseR s).1) (parse_ran _).1 (parse_ran _).1 (parse_ran _).2) ?_)))
 intro H81 m82
 have m83 := m79.trans m82
 refine V rfl rfl (Y rfl rfl rfl (decide_eq_true rfl) (Mv _ rfl rfl (Y rfl rfl rfl (decide_eq_true rfl) (Mv _ rfl rfl (Y rfl rfl rfl (decide_eq_true rfl) (Bi _ rfl rfl rfl ieq (C rfl (Pt _ rfl rfl (decide_eq_true rfl) rfl (V rfl rfl (Y rfl rfl rfl (decide_eq_true rfl) (Mv _ rfl rfl (Y rfl rfl rfl (decide_eq_true rfl) (Mv _ rfl rfl (Y rfl rfl rfl (decide_eq_true rfl) (Bi _ rfl rfl rfl ieq (C rfl (Pt _ rfl rfl (decide_eq_true rfl) rfl (A rfl rfl ?_))))))))))))))))))
 refine rt_ ?_
 refine Rr (Res.one rfl rfl) ?_ m83
 exact (congrArg AV.bool (show (decide ((parseR s).2.2 = (parseR s).2.2) : Bool) = true from by first | decide | rfl | simp))
end Go.Proofs.S
