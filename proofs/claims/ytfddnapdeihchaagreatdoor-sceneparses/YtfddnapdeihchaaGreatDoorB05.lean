/- A part of the proof that a law answers true for every input of its row: own work, by an AI agent. -/
import Derived.Test.YtfddnapdeihchaaGreatDoorB01
import Derived.Test.YtfddnapdeihchaaGreatDoorB04
set_option linter.unusedSimpArgs false
set_option linter.unusedVariables false
set_option linter.defProp false
namespace Go.Proofs.S
open Go Go.AH Go.Proofs.L
set_option maxRecDepth 4000
set_option maxHeartbeats 4000000
set_option linter.unusedSimpArgs false
set_option linter.unusedVariables false
set_option linter.unusedSectionVars false
variable [LexG]
theorem c_rcamera {B H0 : Heap} {id ver : Nat} {s : Rd} (hm : Mono B H0) (hs : RD B H0 id ver s) (ok : RdOk s) (w : List ByteArray) (hw : w.length ≤ 1048576) (hne : 0 < w.length) : ACalls Tryz.prog 41 [.ptr id ver 0, .sl w.length (w.map eStr)] H0 fun r H' => (∃ t, cameraP s (w.drop 1) = .ok t ∧ RD B H' id ver t ∧ Mono B H' ∧ r = .int .i64 0) ∨ ∃ k, cameraP s (w.drop 1) = .error k ∧ Mono B H' ∧ r = .int .i64 k := by
 obtain ⟨vL, vM, vT, vS, vC, vV, vF, vK, hrow, hB, hg, hn⟩ := hs
 refine ACalls.of_body' (n := 75) rfl rfl rfl rfl ?_
 have m0 := hm
 refine AWP.seq ?_
 refine AWP.region (l := [0]) rfl ?_
 refine AOps.cons rfl rfl (AOp.assign (.int .i64 0) rfl rfl ?_)
 refine AOps.nil ?_
 change AWP _ _ _ _ _ _
 refine AWP.seq ?_
 refine AWP.region (l := [0, 1, 2, 3, 4, 5, 6, 7]) rfl ?_
 refine AOps.cons rfl rfl (AOp.move (.sl w.length (w.map eStr)) rfl rfl ?_)
 refine AOps.cons rfl rfl (AOp.sliceSD1 (xs := w) (l := 1) (h := (w.length : Int)) rfl rfl  sl_57 (lo_of rfl) rfl (by first | omega | (simp; omega)) (by first | omega | (simp; omega)) (by first | omega | (simp; omega)) rfl ?_)
 rcases Bool.eq_false_or_eq_true (numsB (w.drop 1)) with hb1 | hb1
 ·
  refine AOps.cons rfl rfl (AOp.pcall («as» := [.sl (w.drop 1).length ((w.drop 1).map eStr)]) rfl rfl (rfl) tf_88 (c_rnumbers_T hb1 (w.drop 1) (by first | omega | assumption | (simp only [List.length_drop, List.length_take]; omega) | (simp; omega) | simp)) ?_)
  intro H2 m3
  have h4 := m3 _ _ hrow
  have o5 := MO.mono hg m3
  have m6 := m0.trans m3
  have hl7 := numsL_len (w.drop 1)
  simp only [List.length_drop] at hl7
  refine AOps.cons rfl rfl (AOp.move (.tup [.sl (numsL (w.drop 1)).length ((numsL (w.drop 1)).map eI), .bool true]) rfl rfl ?_)
  refine AOps.cons rfl rfl (AOp.extract (.sl (numsL (w.drop 1)).length ((numsL (w.drop 1)).map eI)) rfl rfl rfl ?_)
  refine AOps.cons rfl rfl (AOp.extract (.bool true) rfl rfl rfl ?_)
  refine AOps.cons rfl rfl (AOp.assign (.sl (numsL (w.drop 1)).length ((numsL (w.drop 1)).map eI)) rfl rfl ?_)
  refine AOps.cons rfl rfl (AOp.assign (.bool true) rfl rfl ?_)
  refine AOps.nil ?_
  change AWP _ _ _ _ _ _
  refine AWP.seq ?_
  refine AWP.seq ?_
  refine AWP.region (l := [0, 1, 2, 3, 4, 5, 6]) rfl ?_
  refine AOps.cons rfl rfl (AOp.move (.bool true) rfl rfl ?_)
  refine AOps.cons rfl rfl (AOp.not rfl rfl ?_)
  refine AOps.cons rfl rfl (AOp.move (.bool (!true)) rfl rfl ?_)
  refine AOps.yes rfl rfl rfl rfl rfl rfl rfl rfl (AOp.move (.sl (numsL (w.drop 1)).length ((numsL (w.drop 1)).map eI)) rfl rfl ?_)
  refine AOps.yes rfl rfl rfl rfl rfl rfl rfl rfl (AOp.len (m := (numsL (w.drop 1)).length) rfl rfl (.inr (.inl ⟨_, rfl⟩)) u_68 ?_)
  refine AOps.yes rfl rfl rfl rfl rfl rfl rfl rfl (AOp.bin (.bool (!decide ((((numsL (w.drop 1)).length) : Int) = 16))) rfl rfl rfl ine ?_)
  refine AOps.cons rfl rfl (AOp.pickF (.bool (!decide ((((numsL (w.drop 1)).length) : Int) = 16))) rfl rfl rfl rfl ?_)
  refine AOps.nil ?_
  change AWP _ _ _ _ _ _
  by_cases b8 : (((numsL (w.drop 1)).length) : Int) = 16
  ·
   refine AWP.condF rfl (nb (decide_eq_true b8)) ?_
   refine AWP.skip ?_
   change AWP _ _ _ _ _ _
   refine AWP.seq ?_
   refine AWP.seq ?_
   refine AWP.region (l := [0, 1, 2, 3]) rfl ?_
   refine AOps.cons rfl rfl (AOp.move (.ptr id ver 0) rfl rfl ?_)
   refine AOps.cons rfl rfl (AOp.nilCheck (.ptr id ver 0) rfl rfl rfl ?_)
   refine AOps.cons rfl rfl (AOp.fieldAddr rfl rfl fl_63_1 ?_ (hid := ⟨_, h4⟩))
   refine AOps.cons rfl rfl (AOp.load (.bool s.hc) rfl rfl ty_4 h4 rfl ?_)
   refine AOps.nil ?_
   change AWP _ _ _ _ _ _
   rcases Bool.eq_false_or_eq_true (s.hc) with b9 | b9
   ·
    refine AWP.condT rfl b9 ?_
    refine AWP.seq ?_
    refine AWP.region (l := [0]) rfl ?_
    refine AOps.cons rfl rfl (AOp.assign (.int .i64 12) rfl rfl ?_)
    refine AOps.nil ?_
    change AWP _ _ _ _ _ _
    refine AWP.ret ?_
    exact ⟨_, _, Ghost.refl, .inr rfl, _, Res.one rfl rfl, .inr ⟨12, gT (cnt_T (numsL_len _) hb1 b8) (gF (not_F b9)), m6, rfl⟩⟩
   ·
    refine AWP.condF rfl b9 ?_
    refine AWP.skip ?_
    change AWP _ _ _ _ _ _
    refine AWP.seq ?_
    refine AWP.seq ?_
    refine AWP.region (l := [0, 1, 2, 3, 4, 5, 6, 7, 8, 9, 10, 11, 12, 13, 14, 15, 16, 17, 18, 19, 20, 21, 22]) rfl ?_
    refine AOps.cons rfl rfl (AOp.move (.sl (numsL (w.drop 1)).length ((numsL (w.drop 1)).map eI)) rfl rfl ?_)
    refine AOps.cons rfl rfl (AOp.pcall («as» := [.sl (numsL (w.drop 1)).length ((numsL (w.drop 1)).map eI), .int .i64 0, .int .i64 6, .int .i64 (-16384), .int .i64 16384]) rfl rfl (rfl) tf_89 (c_rwithin (numsL (w.drop 1)) (0 : Int) (6 : Int) (-16384) 16384 (by omega) (by omega) (by omega) (by omega)) ?_)
    intro H10 m11
    have h12 := m11 _ _ h4
    have o13 := MO.mono o5 m11
    have m14 := m6.trans m11
    refine AOps.cons rfl rfl (AOp.not rfl rfl ?_)
    refine AOps.cons rfl rfl (AOp.move (.bool (!(inB (-16384) 16384 ((numsL (w.drop 1)).take 6)))) rfl rfl ?_)
    rcases Bool.eq_false_or_eq_true (inB (-16384) 16384 ((numsL (w.drop 1)).take 6)) with b15 | b15
    ·
     refine AOps.yes rfl rfl rfl rfl rfl rfl rfl (nb b15) (AOp.move (.sl (numsL (w.drop 1)).length ((numsL (w.drop 1)).map eI)) rfl rfl ?_)
     refine AOps.yes rfl rfl rfl rfl rfl rfl rfl (nb b15) (AOp.pcall («as» := [.sl (numsL (w.drop 1)).length ((numsL (w.drop 1)).map eI), .int .i64 6, .int .i64 12, .int .i64 (-32), .int .i64 32]) rfl rfl (rfl) tf_89 (c_rwithin (numsL (w.drop 1)) (6 : Int) (12 : Int) (-32) 32 (by omega) (by omega) (by omega) (by omega)) ?_)
     intro H16 m17
     have h18 := m17 _ _ h12
     have o19 := MO.mono o13 m17
     have m20 := m14.trans m17
     refine AOps.yes rfl rfl rfl rfl rfl rfl rfl (nb b15) (AOp.not rfl rfl ?_)
     refine AOps.cons rfl rfl (AOp.pickF (.bool (!(inB (-32) 32 (((numsL (w.drop 1)).drop 6).take 6)))) rfl rfl (nb b15) rfl ?_)
     refine AOps.cons rfl rfl (AOp.move (.bool (!(inB (-32) 32 (((numsL (w.drop 1)).drop 6).take 6)))) rfl rfl ?_)
     rcases Bool.eq_false_or_eq_true (inB (-32) 32 (((numsL (w.drop 1)).drop 6).take 6)) with b21 | b21
     ·
      refine AOps.yes rfl rfl rfl rfl rfl rfl rfl (nb b21) (AOp.move (.sl (numsL (w.drop 1)).length ((numsL (w.drop 1)).map eI)) rfl rfl ?_)
      refine AOps.yes rfl rfl rfl rfl rfl rfl rfl (nb b21) (AOp.pcall («as» := [.sl (numsL (w.drop 1)).length ((numsL (w.drop 1)).map eI), .int .i64 12, .int .i64 14, .int .i64 1, .int .i64 64]) rfl rfl (rfl) tf_89 (c_rwithin (numsL (w.drop 1)) (12 : Int) (14 : Int) 1 64 (by omega) (by omega) (by omega) (by omega)) ?_)
      intro H22 m23
      have h24 := m23 _ _ h18
      have o25 := MO.mono o19 m23
      have m26 := m20.trans m23
      refine AOps.yes rfl rfl rfl rfl rfl rfl rfl (nb b21) (AOp.not rfl rfl ?_)
      refine AOps.cons rfl rfl (AOp.pickF (.bool (!(inB 1 64 (((numsL (w.drop 1)).drop 12).take 2)))) rfl rfl (nb b21) rfl ?_)
      refine AOps.cons rfl rfl (AOp.move (.bool (!(inB 1 64 (((numsL (w.drop 1)).drop 12).take 2)))) rfl rfl ?_)
      rcases Bool.eq_false_or_eq_true (inB 1 64 (((numsL (w.drop 1)).drop 12).take 2)) with b27 | b27
      ·
       refine AOps.yes rfl rfl rfl rfl rfl rfl rfl (nb b27) (AOp.move (.sl (numsL (w.drop 1)).length ((numsL (w.drop 1)).map eI)) rfl rfl ?_)
       refine AOps.yes rfl rfl rfl rfl rfl rfl rfl (nb b27) (AOp.pcall («as» := [.sl (numsL (w.drop 1)).length ((numsL (w.drop 1)).map eI), .int .i64 14, .int .i64 15, .int .i64 1, .int .i64 4]) rfl rfl (rfl) tf_89 (c_rwithin1 (numsL (w.drop 1)) 14 15 1 4 (by omega) (by omega) (by omega) (by omega)) ?_)
       intro H28 m29
       have h30 := m29 _ _ h24
       have o31 := MO.mono o25 m29
       have m32 := m26.trans m29
       refine AOps.yes rfl rfl rfl rfl rfl rfl rfl (nb b27) (AOp.not rfl rfl ?_)
       refine AOps.cons rfl rfl (AOp.pickF (.bool (!(inB 1 4 [at_ (numsL (w.drop 1)) 14]))) rfl rfl (nb b27) rfl ?_)
       refine AOps.cons rfl rfl (AOp.move (.bool (!(inB 1 4 [at_ (numsL (w.drop 1)) 14]))) rfl rfl ?_)
       rcases Bool.eq_false_or_eq_true (inB 1 4 [at_ (numsL (w.drop 1)) 14]) with b33 | b33
       ·
        refine AOps.yes rfl rfl rfl rfl rfl rfl rfl (nb b33) (AOp.move (.sl (numsL (w.drop 1)).length ((numsL (w.drop 1)).map eI)) rfl rfl ?_)
        refine AOps.yes rfl rfl rfl rfl rfl rfl rfl (nb b33) (AOp.pcall («as» := [.sl (numsL (w.drop 1)).length ((numsL (w.drop 1)).map eI), .int .i64 15, .int .i64 16, .int .i64 0, .int .i64 8]) rfl rfl (rfl) tf_89 (c_rwithin1 (numsL (w.drop 1)) 15 16 0 8 (by omega) (by omega) (by omega) (by omega)) ?_)
        intro H34 m35
        have h36 := m35 _ _ h30
        have o37 := MO.mono o31 m35
        have m38 := m32.trans m35
        refine AOps.yes rfl rfl rfl rfl rfl rfl rfl (nb b33) (AOp.not rfl rfl ?_)
        refine AOps.cons rfl rfl (AOp.pickF (.bool (!(inB 0 8 [at_ (numsL (w.drop 1)) 15]))) rfl rfl (nb b33) rfl ?_)
        refine AOps.nil ?_
        change AWP _ _ _ _ _ _
        rcases Bool.eq_false_or_eq_true (inB 0 8 [at_ (numsL (w.drop 1)) 15]) with b39 | b39
        ·
         refine AWP.condF rfl (nb b39) ?_
         refine AWP.skip ?_
         change AWP _ _ _ _ _ _
         refine AWP.seq ?_
         refine AWP.region (l := [0, 1, 2, 3]) rfl ?_
         refine AOps.cons rfl rfl (AOp.move (.ptr id ver 0) rfl rfl ?_)
         refine AOps.cons rfl rfl (AOp.nilCheck (.ptr id ver 0) rfl rfl rfl ?_)
         refine AOps.cons rfl rfl (AOp.fieldAddr rfl rfl fl_63_1 ?_ (hid := ⟨_, h36⟩))
         refine AOps.cons rfl rfl (AOp.store' (cells' := rdC s.cam s.sky vL vM vT vS vC true s.hs) (.bool true) rfl rfl ts_4 h36 rfl rfl rfl rfl ?_)
         intro H40 h41 k42
         have o44 := MO.keep o37 k42 hn
         have m45 := Mono.set m38 hB k42
         refine AOps.nil ?_
         change AWP _ _ _ _ _ _
         refine AWP.seq ?_
         refine AWP.region_quiet mixed (by kernel_rfl) 25 [25] rfl (by kernel_rfl) (Mono H40) (Mono.refl _) ?_
         refine QE.op rfl rfl (.inl ⟨rfl, fun f' H' hf hM => AOp.move (.ptr id ver 0) rfl ((hf 0 rfl).trans rfl) ⟨rfl, hM⟩⟩) ?_
         refine QE.op rfl rfl (.inl ⟨rfl, fun f' H' hf hM => AOp.move (.sl (numsL (w.drop 1)).length ((numsL (w.drop 1)).map eI)) rfl ((hf 5 rfl).trans rfl) ⟨rfl, hM⟩⟩) ?_
         refine QE.op rfl rfl (.inl ⟨rfl, fun f' H' hf hM => AOp.pcall («as» := [.sl (numsL (w.drop 1)).length ((numsL (w.drop 1)).map eI), .int .i64 0]) rfl rfl (lapp (lcons ((hf 51 rfl).trans rfl) (lcons rfl rfl)) rfl) tf_90 (c_rpoint (numsL (w.drop 1)) 0 (by omega) (by omega) (by omega)) fun H2 m2 => ⟨rfl, hM.trans m2⟩⟩) ?_
         refine QE.op rfl rfl (.inl ⟨rfl, fun f' H' hf hM => AOp.move (.sl (numsL (w.drop 1)).length ((numsL (w.drop 1)).map eI)) rfl ((hf 5 rfl).trans rfl) ⟨rfl, hM⟩⟩) ?_
         refine QE.op rfl rfl (.inl ⟨rfl, fun f' H' hf hM => AOp.pcall («as» := [.sl (numsL (w.drop 1)).length ((numsL (w.drop 1)).map eI), .int .i64 3]) rfl rfl (lapp (lcons ((hf 53 rfl).trans rfl) (lcons rfl rfl)) rfl) tf_90 (c_rpoint (numsL (w.drop 1)) 3 (by omega) (by omega) (by omega)) fun H2 m2 => ⟨rfl, hM.trans m2⟩⟩) ?_
         refine QE.op rfl rfl (.inl ⟨rfl, fun f' H' hf hM => AOp.move (.sl (numsL (w.drop 1)).length ((numsL (w.drop 1)).map eI)) rfl ((hf 5 rfl).trans rfl) ⟨rfl, hM⟩⟩) ?_
         refine QE.op rfl rfl (.inl ⟨rfl, fun f' H' hf hM => AOp.pcall («as» := [.sl (numsL (w.drop 1)).length ((numsL (w.drop 1)).map eI), .int .i64 6]) rfl rfl (lapp (lcons ((hf 55 rfl).trans rfl) (lcons rfl rfl)) rfl) tf_90 (c_rpoint (numsL (w.drop 1)) 6 (by omega) (by omega) (by omega)) fun H2 m2 => ⟨rfl, hM.trans m2⟩⟩) ?_
         refine QE.op rfl rfl (.inl ⟨rfl, fun f' H' hf hM => AOp.move (.sl (numsL (w.drop 1)).length ((numsL (w.drop 1)).map eI)) rfl ((hf 5 rfl).trans rfl) ⟨rfl, hM⟩⟩) ?_
         refine QE.op rfl rfl (.inl ⟨rfl, fun f' H' hf hM => AOp.pcall («as» := [.sl (numsL (w.drop 1)).length ((numsL (w.drop 1)).map eI), .int .i64 9]) rfl rfl (lapp (lcons ((hf 57 rfl).trans rfl) (lcons rfl rfl)) rfl) tf_90 (c_rpoint (numsL (w.drop 1)) 9 (by omega) (by omega) (by omega)) fun H2 m2 => ⟨rfl, hM.trans m2⟩⟩) ?_
         refine QE.op rfl rfl (.inl ⟨rfl, fun f' H' hf hM => AOp.move (.sl (numsL (w.drop 1)).length ((numsL (w.drop 1)).map eI)) rfl ((hf 5 rfl).trans rfl) ⟨rfl, hM⟩⟩) ?_
         refine QE.op rfl rfl (.inl ⟨rfl, fun f' H' hf hM => AOp.indexAddrS rfl ((hf 59 rfl).trans rfl) rfl sl_68 (by omega) (by omega) ⟨rfl, hM⟩⟩) ?_
         refine QE.op rfl rfl (.inl ⟨rfl, fun f' H' hf hM => AOp.loadF (.int .i64 (at_ (numsL (w.drop 1)) 12)) rfl ((hf 60 rfl).trans rfl) ty_3 (ld1 (by omega) (by omega)) ⟨rfl, hM⟩⟩) ?_
         refine QE.op rfl rfl (.inl ⟨rfl, fun f' H' hf hM => AOp.move (.sl (numsL (w.drop 1)).length ((numsL (w.drop 1)).map eI)) rfl ((hf 5 rfl).trans rfl) ⟨rfl, hM⟩⟩) ?_
         refine QE.op rfl rfl (.inl ⟨rfl, fun f' H' hf hM => AOp.indexAddrS rfl ((hf 62 rfl).trans rfl) rfl sl_68 (by omega) (by omega) ⟨rfl, hM⟩⟩) ?_
         refine QE.op rfl rfl (.inl ⟨rfl, fun f' H' hf hM => AOp.loadF (.int .i64 (at_ (numsL (w.drop 1)) 13)) rfl ((hf 63 rfl).trans rfl) ty_3 (ld1 (by omega) (by omega)) ⟨rfl, hM⟩⟩) ?_
         refine QE.op rfl rfl (.inl ⟨rfl, fun f' H' hf hM => AOp.move (.sl (numsL (w.drop 1)).length ((numsL (w.drop 1)).map eI)) rfl ((hf 5 rfl).trans rfl) ⟨rfl, hM⟩⟩) ?_
         refine QE.op rfl rfl (.inl ⟨rfl, fun f' H' hf hM => AOp.indexAddrS rfl ((hf 65 rfl).trans rfl) rfl sl_68 (by omega) (by omega) ⟨rfl, hM⟩⟩) ?_
         refine QE.op rfl rfl (.inl ⟨rfl, fun f' H' hf hM => AOp.loadF (.int .i64 (at_ (numsL (w.drop 1)) 14)) rfl ((hf 66 rfl).trans rfl) ty_3 (ld1 (by omega) (by omega)) ⟨rfl, hM⟩⟩) ?_
         refine QE.op rfl rfl (.inl ⟨rfl, fun f' H' hf hM => AOp.move (.sl (numsL (w.drop 1)).length ((numsL (w.drop 1)).map eI)) rfl ((hf 5 rfl).trans rfl) ⟨rfl, hM⟩⟩) ?_
         refine QE.op rfl rfl (.inl ⟨rfl, fun f' H' hf hM => AOp.indexAddrS rfl ((hf 68 rfl).trans rfl) rfl sl_68 (by omega) (by omega) ⟨rfl, hM⟩⟩) ?_
         refine QE.op rfl rfl (.inl ⟨rfl, fun f' H' hf hM => AOp.loadF (.int .i64 (at_ (numsL (w.drop 1)) 15)) rfl ((hf 69 rfl).trans rfl) ty_3 (ld1 (by omega) (by omega)) ⟨rfl, hM⟩⟩) ?_
         refine QE.op rfl rfl (.inl ⟨rfl, fun f' H' hf hM => AOp.build (cells := [.int .i64 ((ptR (numsL (w.drop 1))).X), .int .i64 ((ptR (numsL (w.drop 1))).Y), .int .i64 ((ptR (numsL (w.drop 1))).Z), .int .i64 ((ptR ((numsL (w.drop 1)).drop 3)).X), .int .i64 ((ptR ((numsL (w.drop 1)).drop 3)).Y), .int .i64 ((ptR ((numsL (w.drop 1)).drop 3)).Z), .int .i64 ((ptR ((numsL (w.drop 1)).drop 6)).X), .int .i64 ((ptR ((numsL (w.drop 1)).drop 6)).Y), .int .i64 ((ptR ((numsL (w.drop 1)).drop 6)).Z), .int .i64 ((ptR ((numsL (w.drop 1)).drop 9)).X), .int .i64 ((ptR ((numsL (w.drop 1)).drop 9)).Y), .int .i64 ((ptR ((numsL (w.drop 1)).drop 9)).Z), .int .i64 (at_ (numsL (w.drop 1)) 12), .int .i64 (at_ (numsL (w.drop 1)) 13), .int .i64 (at_ (numsL (w.drop 1)) 14), .int .i64 (at_ (numsL (w.drop 1)) 15)]) rfl tz_26 pl_26 (lconsP ((hf 52 rfl).trans rfl) (lconsP ((hf 54 rfl).trans rfl) (lconsP ((hf 56 rfl).trans rfl) (lconsP ((hf 58 rfl).trans rfl) (lconsP ((hf 61 rfl).trans rfl) (lconsP ((hf 64 rfl).trans rfl) (lconsP ((hf 67 rfl).trans rfl) (lconsP ((hf 70 rfl).trans rfl) rfl)))))))) rfl ⟨rfl, hM⟩⟩) ?_
         refine QE.op rfl rfl (.inl ⟨rfl, fun f' H' hf hM => AOp.nilCheck (.ptr id ver 0) rfl ((hf 50 rfl).trans rfl) rfl ⟨rfl, hM⟩⟩) ?_
         refine QE.op rfl rfl (.inl ⟨rfl, fun f' H' hf hM => AOp.fieldAddr rfl ((hf 72 rfl).trans rfl) fl_63_0 ⟨rfl, hM⟩ (hid := ⟨_, (hM _ _ h41)⟩)⟩) ?_
         refine QE.op rfl rfl (.inl ⟨rfl, fun f' H' hf hM => AOp.fieldAddr rfl ((hf 73 rfl).trans rfl) fl_35_0 ⟨rfl, hM⟩ (hid := ⟨_, (hM _ _ h41)⟩)⟩) ?_
         refine QE.done fun H46 m47 => ?_
         have h48 := m47 _ _ h41
         have o49 := MO.mono o44 m47
         have m50 := m45.trans m47
         refine AOps.cons rfl rfl (AOp.store' (cells' := rdC (CamT.mk (ptR (numsL (w.drop 1))) (ptR ((numsL (w.drop 1)).drop 3)) (ptR ((numsL (w.drop 1)).drop 6)) (ptR ((numsL (w.drop 1)).drop 9)) (at_ (numsL (w.drop 1)) 12) (at_ (numsL (w.drop 1)) 13) (at_ (numsL (w.drop 1)) 14) (at_ (numsL (w.drop 1)) 15)) s.sky vL vM vT vS vC true s.hs) (.agg [.int .i64 ((ptR (numsL (w.drop 1))).X), .int .i64 ((ptR (numsL (w.drop 1))).Y), .int .i64 ((ptR (numsL (w.drop 1))).Z), .int .i64 ((ptR ((numsL (w.drop 1)).drop 3)).X), .int .i64 ((ptR ((numsL (w.drop 1)).drop 3)).Y), .int .i64 ((ptR ((numsL (w.drop 1)).drop 3)).Z), .int .i64 ((ptR ((numsL (w.drop 1)).drop 6)).X), .int .i64 ((ptR ((numsL (w.drop 1)).drop 6)).Y), .int .i64 ((ptR ((numsL (w.drop 1)).drop 6)).Z), .int .i64 ((ptR ((numsL (w.drop 1)).drop 9)).X), .int .i64 ((ptR ((numsL (w.drop 1)).drop 9)).Y), .int .i64 ((ptR ((numsL (w.drop 1)).drop 9)).Z), .int .i64 (at_ (numsL (w.drop 1)) 12), .int .i64 (at_ (numsL (w.drop 1)) 13), .int .i64 (at_ (numsL (w.drop 1)) 14), .int .i64 (at_ (numsL (w.drop 1)) 15)]) rfl rfl ts_26 h48 rfl rfl rfl rfl ?_)
         intro H51 h52 k53
         have o55 := MO.keep o49 k53 hn
         have m56 := Mono.set m50 hB k53
         refine AOps.nil ?_
         change AWP _ _ _ _ _ _
         refine AWP.seq ?_
         refine AWP.region (l := [0]) rfl ?_
         refine AOps.cons rfl rfl (AOp.assign (.int .i64 0) rfl rfl ?_)
         refine AOps.nil ?_
         change AWP _ _ _ _ _ _
         refine AWP.ret ?_
         exact ⟨_, _, Ghost.refl, .inr rfl, _, Res.one rfl rfl, .inl ⟨_, gT (cnt_T (numsL_len _) hb1 b8) (gT (not_T b9) (gT (b15) (gT (b21) (gT (b27) (gT (b33) (gT (b39) (rfl))))))), ⟨_, _, _, _, _, _, _, _, h52, hB, o55, hn⟩, m56, rfl⟩⟩
        ·
         refine AWP.condT rfl (nb b39) ?_
         refine AWP.seq ?_
         refine AWP.region (l := [0]) rfl ?_
         refine AOps.cons rfl rfl (AOp.assign (.int .i64 11) rfl rfl ?_)
         refine AOps.nil ?_
         change AWP _ _ _ _ _ _
         refine AWP.ret ?_
         exact ⟨_, _, Ghost.refl, .inr rfl, _, Res.one rfl rfl, .inr ⟨11, gT (cnt_T (numsL_len _) hb1 b8) (gT (not_T b9) (gT (b15) (gT (b21) (gT (b27) (gT (b33) (gF (b39))))))), m38, rfl⟩⟩
       ·
        refine AOps.no rfl rfl rfl rfl rfl rfl rfl (ble_of (nb b33) (by decide)) ?_
        refine AOps.no rfl rfl rfl rfl rfl rfl rfl (ble_of (nb b33) (by decide)) ?_
        refine AOps.no rfl rfl rfl rfl rfl rfl rfl (ble_of (nb b33) (by decide)) ?_
        refine AOps.cons rfl rfl (AOp.pickT (.bool true) rfl rfl (nb b33) rfl ?_)
        refine AOps.nil ?_
        change AWP _ _ _ _ _ _
        refine AWP.condT rfl rfl ?_
        refine AWP.seq ?_
        refine AWP.region (l := [0]) rfl ?_
        refine AOps.cons rfl rfl (AOp.assign (.int .i64 11) rfl rfl ?_)
        refine AOps.nil ?_
        change AWP _ _ _ _ _ _
        refine AWP.ret ?_
        exact ⟨_, _, Ghost.refl, .inr rfl, _, Res.one rfl rfl, .inr ⟨11, gT (cnt_T (numsL_len _) hb1 b8) (gT (not_T b9) (gT (b15) (gT (b21) (gT (b27) (gF (b33)))))), m32, rfl⟩⟩
      ·
       refine AOps.no rfl rfl rfl rfl rfl rfl rfl (ble_of (nb b27) (by decide)) ?_
       refine AOps.no rfl rfl rfl rfl rfl rfl rfl (ble_of (nb b27) (by decide)) ?_
       refine AOps.no rfl rfl rfl rfl rfl rfl rfl (ble_of (nb b27) (by decide)) ?_
       refine AOps.cons rfl rfl (AOp.pickT (.bool true) rfl rfl (nb b27) rfl ?_)
       refine AOps.cons rfl rfl (AOp.move (.bool true) rfl rfl ?_)
       refine AOps.no rfl rfl rfl rfl rfl rfl rfl (ble_of rfl (by decide)) ?_
       refine AOps.no rfl rfl rfl rfl rfl rfl rfl (ble_of rfl (by decide)) ?_
       refine AOps.no rfl rfl rfl rfl rfl rfl rfl (ble_of rfl (by decide)) ?_
       refine AOps.cons rfl rfl (AOp.pickT (.bool true) rfl rfl rfl rfl ?_)
       refine AOps.nil ?_
       change AWP _ _ _ _ _ _
       refine AWP.condT rfl rfl ?_
       refine AWP.seq ?_
       refine AWP.region (l := [0]) rfl ?_
       refine AOps.cons rfl rfl (AOp.assign (.int .i64 11) rfl rfl ?_)
       refine AOps.nil ?_
       change AWP _ _ _ _ _ _
       refine AWP.ret ?_
       exact ⟨_, _, Ghost.refl, .inr rfl, _, Res.one rfl rfl, .inr ⟨11, gT (cnt_T (numsL_len _) hb1 b8) (gT (not_T b9) (gT (b15) (gT (b21) (gF (b27))))), m26, rfl⟩⟩
     ·
      refine AOps.no rfl rfl rfl rfl rfl rfl rfl (ble_of (nb b21) (by decide)) ?_
      refine AOps.no rfl rfl rfl rfl rfl rfl rfl (ble_of (nb b21) (by decide)) ?_
      refine AOps.no rfl rfl rfl rfl rfl rfl rfl (ble_of (nb b21) (by decide)) ?_
      refine AOps.cons rfl rfl (AOp.pickT (.bool true) rfl rfl (nb b21) rfl ?_)
      refine AOps.cons rfl rfl (AOp.move (.bool true) rfl rfl ?_)
      refine AOps.no rfl rfl rfl rfl rfl rfl rfl (ble_of rfl (by decide)) ?_
      refine AOps.no rfl rfl rfl rfl rfl rfl rfl (ble_of rfl (by decide)) ?_
      refine AOps.no rfl rfl rfl rfl rfl rfl rfl (ble_of rfl (by decide)) ?_
      refine AOps.cons rfl rfl (AOp.pickT (.bool true) rfl rfl rfl rfl ?_)
      refine AOps.cons rfl rfl (AOp.move (.bool true) rfl rfl ?_)
      refine AOps.no rfl rfl rfl rfl rfl rfl rfl (ble_of rfl (by decide)) ?_
      refine AOps.no rfl rfl rfl rfl rfl rfl rfl (ble_of rfl (by decide)) ?_
      refine AOps.no rfl rfl rfl rfl rfl rfl rfl (ble_of rfl (by decide)) ?_
      refine AOps.cons rfl rfl (AOp.pickT (.bool true) rfl rfl rfl rfl ?_)
      refine AOps.nil ?_
      change AWP _ _ _ _ _ _
      refine AWP.condT rfl rfl ?_
      refine AWP.seq ?_
      refine AWP.region (l := [0]) rfl ?_
      refine AOps.cons rfl rfl (AOp.assign (.int .i64 11) rfl rfl ?_)
      refine AOps.nil ?_
      change AWP _ _ _ _ _ _
      refine AWP.ret ?_
      exact ⟨_, _, Ghost.refl, .inr rfl, _, Res.one rfl rfl, .inr ⟨11, gT (cnt_T (numsL_len _) hb1 b8) (gT (not_T b9) (gT (b15) (gF (b21)))), m20, rfl⟩⟩
    ·
     refine AOps.no rfl rfl rfl rfl rfl rfl rfl (ble_of (nb b15) (by decide)) ?_
     refine AOps.no rfl rfl rfl rfl rfl rfl rfl (ble_of (nb b15) (by decide)) ?_
     refine AOps.no rfl rfl rfl rfl rfl rfl rfl (ble_of (nb b15) (by decide)) ?_
     refine AOps.cons rfl rfl (AOp.pickT (.bool true) rfl rfl (nb b15) rfl ?_)
     refine AOps.cons rfl rfl (AOp.move (.bool true) rfl rfl ?_)
     refine AOps.no rfl rfl rfl rfl rfl rfl rfl (ble_of rfl (by decide)) ?_
     refine AOps.no rfl rfl rfl rfl rfl rfl rfl (ble_of rfl (by decide)) ?_
     refine AOps.no rfl rfl rfl rfl rfl rfl rfl (ble_of rfl (by decide)) ?_
     refine AOps.cons rfl rfl (AOp.pickT (.bool true) rfl rfl rfl rfl ?_)
     refine AOps.cons rfl rfl (AOp.move (.bool true) rfl rfl ?_)
     refine AOps.no rfl rfl rfl rfl rfl rfl rfl (ble_of rfl (by decide)) ?_
     refine AOps.no rfl rfl rfl rfl rfl rfl rfl (ble_of rfl (by decide)) ?_
     refine AOps.no rfl rfl rfl rfl rfl rfl rfl (ble_of rfl (by decide)) ?_
     refine AOps.cons rfl rfl (AOp.pickT (.bool true) rfl rfl rfl rfl ?_)
     refine AOps.cons rfl rfl (AOp.move (.bool true) rfl rfl ?_)
     refine AOps.no rfl rfl rfl rfl rfl rfl rfl (ble_of rfl (by decide)) ?_
     refine AOps.no rfl rfl rfl rfl rfl rfl rfl (ble_of rfl (by decide)) ?_
     refine AOps.no rfl rfl rfl rfl rfl rfl rfl (ble_of rfl (by decide)) ?_
     refine AOps.cons rfl rfl (AOp.pickT (.bool true) rfl rfl rfl rfl ?_)
     refine AOps.nil ?_
     change AWP _ _ _ _ _ _
     refine AWP.condT rfl rfl ?_
     refine AWP.seq ?_
     refine AWP.region (l := [0]) rfl ?_
     refine AOps.cons rfl rfl (AOp.assign (.int .i64 11) rfl rfl ?_)
     refine AOps.nil ?_
     change AWP _ _ _ _ _ _
     refine AWP.ret ?_
     exact ⟨_, _, Ghost.refl, .inr rfl, _, Res.one rfl rfl, .inr ⟨11, gT (cnt_T (numsL_len _) hb1 b8) (gT (not_T b9) (gF (b15))), m14, rfl⟩⟩
  ·
   refine AWP.condT rfl (nb (decide_eq_false b8)) ?_
   refine AWP.seq ?_
   refine AWP.region (l := [0]) rfl ?_
   refine AOps.cons rfl rfl (AOp.assign (.int .i64 10) rfl rfl ?_)
   refine AOps.nil ?_
   change AWP _ _ _ _ _ _
   refine AWP.ret ?_
   exact ⟨_, _, Ghost.refl, .inr rfl, _, Res.one rfl rfl, .inr ⟨10, gF (cnt_F2 (numsL_len _) b8), m6, rfl⟩⟩
 ·
  refine AOps.cons rfl rfl (AOp.pcall («as» := [.sl (w.drop 1).length ((w.drop 1).map eStr)]) rfl rfl (rfl) tf_88 (c_rnumbers_F hb1 (w.drop 1) (by first | omega | assumption | (simp only [List.length_drop, List.length_take]; omega) | (simp; omega) | simp)) ?_)
  intro H57 m58
  have h59 := m58 _ _ hrow
  have o60 := MO.mono hg m58
  have m61 := m0.trans m58
  refine AOps.cons rfl rfl (AOp.move (.tup [.sl ([] : List Int).length (([] : List Int).map eI), .bool false]) rfl rfl ?_)
  refine AOps.cons rfl rfl (AOp.extract (.sl ([] : List Int).length (([] : List Int).map eI)) rfl rfl rfl ?_)
  refine AOps.cons rfl rfl (AOp.extract (.bool false) rfl rfl rfl ?_)
  refine AOps.cons rfl rfl (AOp.assign (.sl ([] : List Int).length (([] : List Int).map eI)) rfl rfl ?_)
  refine AOps.cons rfl rfl (AOp.assign (.bool false) rfl rfl ?_)
  refine AOps.nil ?_
  change AWP _ _ _ _ _ _
  refine AWP.seq ?_
  refine AWP.seq ?_
  refine AWP.region (l := [0, 1, 2, 3, 4, 5, 6]) rfl ?_
  refine AOps.cons rfl rfl (AOp.move (.bool false) rfl rfl ?_)
  refine AOps.cons rfl rfl (AOp.not rfl rfl ?_)
  refine AOps.cons rfl rfl (AOp.move (.bool (!false)) rfl rfl ?_)
  refine AOps.no rfl rfl rfl rfl rfl rfl rfl (ble_of rfl (by decide)) ?_
  refine AOps.no rfl rfl rfl rfl rfl rfl rfl (ble_of rfl (by decide)) ?_
  refine AOps.no rfl rfl rfl rfl rfl rfl rfl (ble_of rfl (by decide)) ?_
  refine AOps.cons rfl rfl (AOp.pickT (.bool true) rfl rfl rfl rfl ?_)
  refine AOps.nil ?_
  change AWP _ _ _ _ _ _
  refine AWP.condT rfl rfl ?_
  refine AWP.seq ?_
  refine AWP.region (l := [0]) rfl ?_
  refine AOps.cons rfl rfl (AOp.assign (.int .i64 10) rfl rfl ?_)
  refine AOps.nil ?_
  change AWP _ _ _ _ _ _
  refine AWP.ret ?_
  exact ⟨_, _, Ghost.refl, .inr rfl, _, Res.one rfl rfl, .inr ⟨10, gF (cnt_F1 hb1), m61, rfl⟩⟩
theorem c_rsky {B H0 : Heap} {id ver : Nat} {s : Rd} (hm : Mono B H0) (hs : RD B H0 id ver s) (ok : RdOk s) (w : List ByteArray) (hw : w.length ≤ 1048576) (hne : 0 < w.length) : ACalls Tryz.prog 42 [.ptr id ver 0, .sl w.length (w.map eStr)] H0 fun r H' => (∃ t, skyP s (w.drop 1) = .ok t ∧ RD B H' id ver t ∧ Mono B H' ∧ r = .int .i64 0) ∨ ∃ k, skyP s (w.drop 1) = .error k ∧ Mono B H' ∧ r = .int .i64 k := by
 obtain ⟨vL, vM, vT, vS, vC, vV, vF, vK, hrow, hB, hg, hn⟩ := hs
 refine ACalls.of_body' (n := 36) rfl rfl rfl rfl ?_
 have m0 := hm
 refine Sr ?_
 refine A rfl rfl ?_
 refine Sr ?_
 refine V rfl rfl (C rfl (AOp.sliceSD1 (xs := w) (l := 1) (h := (w.length : Int)) rfl rfl  sl_57 (lo_of rfl) rfl (by first | omega | (simp; omega)) (by first | omega | (simp; omega)) (by first | omega | (simp; omega)) rfl ?_))
 rcases Bool.eq_false_or_eq_true (numsB (w.drop 1)) with hb1 | hb1
 refine C rfl (Pc («as» := [.sl (w.drop 1).length ((w.drop 1).map eStr)]) rfl rfl (rfl) tf_88 (c_rnumbers_T hb1 (w.drop 1) (by first | omega | assumption | (simp only [List.length_drop, List.length_take]; omega) | (simp; omega) | simp)) ?_)
 intro H2 m3
 have h4 := m3 _ _ hrow
 have o5 := MO.mono hg m3
 have m6 := m0.trans m3
 have hl7 := numsL_len (w.drop 1)
 simp only [List.length_drop] at hl7
 refine V rfl rfl (E rfl rfl rfl (E rfl rfl rfl (A rfl rfl (A rfl rfl ?_))))
 refine AWP.seq ?_
 refine Sr ?_
 refine V rfl rfl (C rfl (AOp.not rfl rfl (V rfl rfl (Y rfl rfl rfl rfl (Mv _ rfl rfl (Y rfl rfl rfl rfl (AOp.len (m := (numsL (w.drop 1)).length) rfl rfl (.inr (.inl ⟨_, rfl⟩)) u_68 (Y rfl rfl rfl rfl (Bi _ rfl rfl rfl ine (C rfl (Pf _ rfl rfl rfl rfl ?_)))))))))))
 refine AOps.nil ?_
 change AWP _ _ _ _ _ _
 by_cases b8 : (((numsL (w.drop 1)).length) : Int) = 3
 refine cf_ rfl (nb (decide_eq_true b8)) ?_
 refine AWP.skip ?_
 refine AWP.seq ?_
 refine Sr ?_
 refine V rfl rfl (C rfl (nc_ (.ptr id ver 0) rfl rfl rfl ?_))
 refine C rfl (Fa rfl rfl fl_63_2 ?_ (hid := ⟨_, h4⟩))
 refine C rfl (Ld _ rfl rfl ty_4 h4 rfl ?_)
 refine AOps.nil ?_
 change AWP _ _ _ _ _ _
 rcases Bool.eq_false_or_eq_true (s.hs) with b9 | b9
 refine ct_ rfl b9 ?_
 refine Sr ?_
 refine A rfl rfl ?_
 refine rt_ ?_
 exact ⟨_, _, Ghost.refl, .inr rfl, _, Res.one rfl rfl, .inr ⟨12, gT (cnt_T (numsL_len _) hb1 b8) (gF (not_F b9)), m6, rfl⟩⟩
 refine cf_ rfl b9 ?_
 refine AWP.skip ?_
 refine AWP.seq ?_
 refine Sr ?_
 refine V rfl rfl (C rfl (Pc («as» := [.sl (numsL (w.drop 1)).length ((numsL (w.drop 1)).map eI), .int .i64 0, .int .i64 3, .int .i64 0, .int .i64 255]) rfl rfl (rfl) tf_89 (c_rwithin (numsL (w.drop 1)) (0 : Int) (3 : Int) 0 255 (by omega) (by omega) (by omega) (by omega)) ?_))
 intro H10 m11
 have h12 := m11 _ _ h4
 have o13 := MO.mono o5 m11
 have m14 := m6.trans m11
 refine C rfl (AOp.not rfl rfl ?_)
 refine AOps.nil ?_
 change AWP _ _ _ _ _ _
 rcases Bool.eq_false_or_eq_true (inB 0 255 ((numsL (w.drop 1)).take 3)) with b15 | b15
 refine cf_ rfl (nb b15) ?_
 refine AWP.skip ?_
 refine Sr ?_
 refine V rfl rfl (C rfl (nc_ (.ptr id ver 0) rfl rfl rfl ?_))
 refine C rfl (Fa rfl rfl fl_63_2 ?_ (hid := ⟨_, h12⟩))
 refine C rfl (So (cells' := rdC s.cam s.sky vL vM vT vS vC s.hc true) (.bool true) rfl rfl ts_4 h12 rfl rfl rfl rfl ?_)
 intro H16 h17 k18
 have o20 := MO.keep o13 k18 hn
 have m21 := Mono.set m14 hB k18
 refine Sr ?_
 refine V rfl rfl (V rfl rfl (C rfl (Pc («as» := [.sl (numsL (w.drop 1)).length ((numsL (w.drop 1)).map eI), .int .i64 0]) rfl rfl (rfl) tf_91 (c_rcolor (numsL (w.drop 1)) 0 (by omega) (by omega) (by omega)) ?_)))
 intro H22 m23
 have h24 := m23 _ _ h17
 have o25 := MO.mono o20 m23
 have m26 := m21.trans m23
 refine C rfl (nc_ (.ptr id ver 0) rfl rfl rfl ?_)
 refine C rfl (Fa rfl rfl fl_63_0 ?_ (hid := ⟨_, h24⟩))
 refine C rfl (Fa rfl rfl fl_35_1 ?_ (hid := ⟨_, h24⟩))
 refine C rfl (So (cells' := rdC s.cam (colR (numsL (w.drop 1))) vL vM vT vS vC s.hc true) (.agg [.int .i64 ((colR (numsL (w.drop 1))).R), .int .i64 ((colR (numsL (w.drop 1))).G), .int .i64 ((colR (numsL (w.drop 1))).B)]) rfl rfl ts_28 h24 rfl rfl rfl rfl ?_)
 intro H27 h28 k29
 have o31 := MO.keep o25 k29 hn
 have m32 := Mono.set m26 hB k29
 refine Sr ?_
 refine A rfl rfl ?_
 refine rt_ ?_
 exact ⟨_, _, Ghost.refl, .inr rfl, _, Res.one rfl rfl, .inl ⟨_, gT (cnt_T (numsL_len _) hb1 b8) (gT (not_T b9) (gT ((in_take (by omega) b15)) (rfl))), ⟨_, _, _, _, _, _, _, _, h28, hB, o31, hn⟩, m32, rfl⟩⟩
 refine ct_ rfl (nb b15) ?_
 refine Sr ?_
 refine A rfl rfl ?_
 refine rt_ ?_
 exact ⟨_, _, Ghost.refl, .inr rfl, _, Res.one rfl rfl, .inr ⟨11, gT (cnt_T (numsL_len _) hb1 b8) (gT (not_T b9) (gF ((in_take (by omega) b15)))), m14, rfl⟩⟩
 refine ct_ rfl (nb (decide_eq_false b8)) ?_
 refine Sr ?_
 refine A rfl rfl ?_
 refine rt_ ?_
 exact ⟨_, _, Ghost.refl, .inr rfl, _, Res.one rfl rfl, .inr ⟨10, gF (cnt_F2 (numsL_len _) b8), m6, rfl⟩⟩
 refine C rfl (Pc («as» := [.sl (w.drop 1).length ((w.drop 1).map eStr)]) rfl rfl (rfl) tf_88 (c_rnumbers_F hb1 (w.drop 1) (by first | omega | assumption | (simp only [List.length_drop, List.length_take]; omega) | (simp; omega) | simp)) ?_)
 intro H33 m34
 have m37 := m0.trans m34
 refine V rfl rfl (E rfl rfl rfl (E rfl rfl rfl (A rfl rfl (A rfl rfl ?_))))
 refine AWP.seq ?_
 refine Sr ?_
 refine V rfl rfl (C rfl (AOp.not rfl rfl (V rfl rfl (N rfl rfl rfl (N rfl rfl rfl (N rfl rfl rfl (C rfl (Pt _ rfl rfl rfl rfl ?_))))))))
 refine ct_ rfl rfl ?_
 refine Sr ?_
 refine A rfl rfl ?_
 refine rt_ ?_
 exact ⟨_, _, Ghost.refl, .inr rfl, _, Res.one rfl rfl, .inr ⟨10, gF (cnt_F1 hb1), m37, rfl⟩⟩
theorem c_rlight {B H0 : Heap} {id ver : Nat} {s : Rd} (hm : Mono B H0) (hs : RD B H0 id ver s) (ok : RdOk s) (w : List ByteArray) (hw : w.length ≤ 1048576) (hne : 0 < w.length) : ACalls Tryz.prog 43 [.ptr id ver 0, .sl w.length (w.map eStr)] H0 fun r H' => (∃ t, lightP s (w.drop 1) = .ok t ∧ RD B H' id ver t ∧ Mono B H' ∧ r = .int .i64 0) ∨ ∃ k, lightP s (w.drop 1) = .error k ∧ Mono B H' ∧ r = .int .i64 k := by
 obtain ⟨vL, vM, vT, vS, vC, vV, vF, vK, hrow, hB, hg, hn⟩ := hs
 obtain ⟨oL', ogL, spL⟩ := hg.at 0 rfl
 have oL : Own B H0 6 vL s.lights.length (s.lights.flatMap eLight) := oL'
 have nL : NotId vL id := hn.at 0 rfl
 have ngL := hn.erase 0
 refine ACalls.of_body' (n := 51) rfl rfl rfl rfl ?_
 have m0 := hm
 refine AWP.seq (AWP.region rfl ?_)
 refine AOps.cons rfl rfl (AOp.assign _ rfl rfl ?_)
 refine AWP.seq (AWP.region rfl ?_)
 refine AOps.cons rfl rfl (AOp.move _ rfl rfl (AOps.cons rfl rfl (AOp.sliceSD1 (xs := w) (l := 1) (h := (w.length : Int)) rfl rfl  sl_57 (lo_of rfl) rfl (by first | omega | (simp; omega)) (by first | omega | (simp; omega)) (by first | omega | (simp; omega)) rfl ?_)))
 rcases Bool.eq_false_or_eq_true (numsB (w.drop 1)) with hb1 | hb1
 refine AOps.cons rfl rfl (AOp.pcall («as» := [.sl (w.drop 1).length ((w.drop 1).map eStr)]) rfl rfl (rfl) tf_88 (c_rnumbers_T hb1 (w.drop 1) (by first | omega | assumption | (simp only [List.length_drop, List.length_take]; omega) | (simp; omega) | simp)) ?_)
 intro H2 m3
 have h4 := m3 _ _ hrow
 have o5 := Own.mono oL m3
 have o6 := MO.mono ogL m3
 have m7 := m0.trans m3
 have hl8 := numsL_len (w.drop 1)
 simp only [List.length_drop] at hl8
 refine AOps.cons rfl rfl (AOp.move _ rfl rfl (AOps.cons rfl rfl (AOp.extract _ rfl rfl rfl (AOps.cons rfl rfl (AOp.extract _ rfl rfl rfl (AOps.cons rfl rfl (AOp.assign _ rfl rfl (AOps.cons rfl rfl (AOp.assign _ rfl rfl ?_)))))))))
 refine AWP.seq ?_
 refine AWP.seq (AWP.region rfl ?_)
 refine AOps.cons rfl rfl (AOp.move _ rfl rfl (AOps.cons rfl rfl (AOp.not rfl rfl (AOps.cons rfl rfl (AOp.move _ rfl rfl (AOps.yes rfl rfl rfl rfl rfl rfl rfl rfl (AOp.move _ rfl rfl (AOps.yes rfl rfl rfl rfl rfl rfl rfl rfl (AOp.len (m := (numsL (w.drop 1)).length) rfl rfl (.inr (.inl ⟨_, rfl⟩)) u_68 (AOps.yes rfl rfl rfl rfl rfl rfl rfl rfl (AOp.bin _ rfl rfl rfl ine ?_)))))))))))
 refine AOps.cons rfl rfl (AOp.pickF _ rfl rfl rfl rfl ?_)
 refine AOps.nil ?_
 change AWP _ _ _ _ _ _
 by_cases b9 : (((numsL (w.drop 1)).length) : Int) = 6
 refine AWP.condF rfl (nb (decide_eq_true b9)) ?_
 refine AWP.skip ?_
 refine AWP.seq ?_
 refine AWP.seq (AWP.region rfl ?_)
 refine AOps.cons rfl rfl (AOp.move _ rfl rfl (AOps.cons rfl rfl (AOp.nilCheck (.ptr id ver 0) rfl rfl rfl ?_)))
 refine AOps.cons rfl rfl (AOp.fieldAddr rfl rfl fl_63_0 ?_ (hid := ⟨_, h4⟩))
 refine AOps.cons rfl rfl (AOp.fieldAddr rfl rfl fl_35_2 ?_ (hid := ⟨_, h4⟩))
 refine AOps.cons rfl rfl (AOp.load _ rfl rfl ty_29 h4 rfl (AOps.cons rfl rfl (AOp.len_own (m := s.lights.length) rfl rfl o5 u_29 (AOps.cons rfl rfl (AOp.bin _ rfl rfl rfl rfl ?_)))))
 refine AOps.nil ?_
 change AWP _ _ _ _ _ _
 by_cases b10 : (s.lights.length : Int) ≥ 4
 refine AWP.condT rfl (decide_eq_true b10) ?_
 refine AWP.seq (AWP.region rfl ?_)
 refine AOps.cons rfl rfl (AOp.assign _ rfl rfl ?_)
 refine AWP.ret ?_
 exact ⟨_, _, Ghost.refl, .inr rfl, _, Res.one rfl rfl, .inr ⟨13, gT (cnt_T (numsL_len _) hb1 b9) (gF (decide_eq_false (by omega))), m7, rfl⟩⟩
 refine AWP.condF rfl (decide_eq_false b10) ?_
 refine AWP.skip ?_
 refine AWP.seq ?_
 refine AWP.seq (AWP.region rfl ?_)
 refine AOps.cons rfl rfl (AOp.move _ rfl rfl (AOps.cons rfl rfl (AOp.pcall («as» := [.sl (numsL (w.drop 1)).length ((numsL (w.drop 1)).map eI), .int .i64 0, .int .i64 3, .int .i64 (-16384), .int .i64 16384]) rfl rfl (rfl) tf_89 (c_rwithin (numsL (w.drop 1)) (0 : Int) (3 : Int) (-16384) 16384 (by omega) (by omega) (by omega) (by omega)) ?_)))
 intro H11 m12
 have h13 := m12 _ _ h4
 have o14 := Own.mono o5 m12
 have o15 := MO.mono o6 m12
 have m16 := m7.trans m12
 refine AOps.cons rfl rfl (AOp.not rfl rfl (AOps.cons rfl rfl (AOp.move _ rfl rfl ?_)))
 rcases Bool.eq_false_or_eq_true (inB (-16384) 16384 ((numsL (w.drop 1)).take 3)) with b17 | b17
 refine AOps.yes rfl rfl rfl rfl rfl rfl rfl (nb b17) (AOp.move _ rfl rfl (AOps.yes rfl rfl rfl rfl rfl rfl rfl (nb b17) (AOp.pcall («as» := [.sl (numsL (w.drop 1)).length ((numsL (w.drop 1)).map eI), .int .i64 3, .int .i64 6, .int .i64 0, .int .i64 255]) rfl rfl (rfl) tf_89 (c_rwithin (numsL (w.drop 1)) (3 : Int) (6 : Int) 0 255 (by omega) (by omega) (by omega) (by omega)) ?_)))
 intro H18 m19
 have h20 := m19 _ _ h13
 have o21 := Own.mono o14 m19
 have o22 := MO.mono o15 m19
 have m23 := m16.trans m19
 refine AOps.yes rfl rfl rfl rfl rfl rfl rfl (nb b17) (AOp.not rfl rfl (AOps.cons rfl rfl (AOp.pickF _ rfl rfl (nb b17) rfl ?_)))
 refine AOps.nil ?_
 change AWP _ _ _ _ _ _
 rcases Bool.eq_false_or_eq_true (inB 0 255 (((numsL (w.drop 1)).drop 3).take 3)) with b24 | b24
 refine AWP.condF rfl (nb b24) ?_
 refine AWP.skip ?_
 refine AWP.seq ?_
 refine AWP.region_str mixed (by kernel_rfl) [(0, none), (1, none), (2, none), (3, none), (4, none), (5, none), (6, none), (7, none), (8, none), (9, none), (10, none), (11, some [0, 1, 2, 3, 4, 5]), (12, some [0])] [13, 14, 15, 16] (by kernel_rfl) ?_
 refine STR.op rfl rfl (.inl ⟨rfl, fun H1 f' H' hf hN hM => AOp.move _ rfl ((hf 0 rfl).trans rfl) ⟨rfl, hN⟩⟩) ?_
 refine STR.op rfl rfl (.inl ⟨rfl, fun H1 f' H' hf hN hM => AOp.move _ rfl ((hf 0 rfl).trans rfl) ⟨rfl, hN⟩⟩) ?_
 refine STR.op rfl rfl (.inl ⟨rfl, fun H1 f' H' hf hN hM => AOp.nilCheck (.ptr id ver 0) rfl ((hf 36 rfl).trans rfl) rfl ⟨rfl, hN⟩⟩) ?_
 refine STR.op rfl rfl (.inl ⟨rfl, fun H1 f' H' hf hN hM => AOp.fieldAddr rfl ((hf 37 rfl).trans rfl) fl_63_0 ⟨rfl, hN⟩ (hid := ⟨_, (hM _ _ h20)⟩)⟩) ?_
 refine STR.op rfl rfl (.inl ⟨rfl, fun H1 f' H' hf hN hM => AOp.fieldAddr rfl ((hf 38 rfl).trans rfl) fl_35_2 ⟨rfl, hN⟩ (hid := ⟨_, (hM _ _ h20)⟩)⟩) ?_
 refine STR.op rfl rfl (.inl ⟨rfl, fun H1 f' H' hf hN hM => AOp.load _ rfl ((hf 39 rfl).trans rfl) ty_29 (hM _ _ h20) rfl ⟨rfl, hN⟩⟩) ?_
 refine STR.op rfl rfl (.inl ⟨rfl, fun H1 f' H' hf hN hM => AOp.move _ rfl ((hf 5 rfl).trans rfl) ⟨rfl, hN⟩⟩) ?_
 refine STR.op rfl rfl (.inl ⟨rfl, fun H1 f' H' hf hN hM => AOp.pcall («as» := [.sl (numsL (w.drop 1)).length ((numsL (w.drop 1)).map eI), .int .i64 0]) rfl rfl (lapp (lcons ((hf 41 rfl).trans rfl) (lcons rfl rfl)) rfl) tf_90 (c_rpoint (numsL (w.drop 1)) 0 (by omega) (by omega) (by omega)) fun H2 m2 => ⟨rfl, hN.trans m2⟩⟩) ?_
 refine STR.op rfl rfl (.inl ⟨rfl, fun H1 f' H' hf hN hM => AOp.move _ rfl ((hf 5 rfl).trans rfl) ⟨rfl, hN⟩⟩) ?_
 refine STR.op rfl rfl (.inl ⟨rfl, fun H1 f' H' hf hN hM => AOp.pcall («as» := [.sl (numsL (w.drop 1)).length ((numsL (w.drop 1)).map eI), .int .i64 3]) rfl rfl (lapp (lcons ((hf 43 rfl).trans rfl) (lcons rfl rfl)) rfl) tf_91 (c_rcolor (numsL (w.drop 1)) 3 (by omega) (by omega) (by omega)) fun H2 m2 => ⟨rfl, hN.trans m2⟩⟩) ?_
 refine STR.op rfl rfl (.inl ⟨rfl, fun H1 f' H' hf hN hM => AOp.build (cells := [.int .i64 ((ptR (numsL (w.drop 1))).X), .int .i64 ((ptR (numsL (w.drop 1))).Y), .int .i64 ((ptR (numsL (w.drop 1))).Z), .int .i64 ((colR ((numsL (w.drop 1)).drop 3)).R), .int .i64 ((colR ((numsL (w.drop 1)).drop 3)).G), .int .i64 ((colR ((numsL (w.drop 1)).drop 3)).B)]) rfl tz_65 pl_65 (lconsP ((hf 42 rfl).trans rfl) (lconsP ((hf 44 rfl).trans rfl) rfl)) rfl ⟨rfl, hN⟩⟩) ?_
 refine STR.eff rfl rfl rfl fun f25 H26 hf27 m28 => ?_
 have h29 := m28 _ _ h20
 have o30 := Own.mono o21 m28
 have o31 := MO.mono o22 m28
 have m32 := m23.trans m28
 refine AOp.buildSlice (cells := [.int .i64 ((ptR (numsL (w.drop 1))).X), .int .i64 ((ptR (numsL (w.drop 1))).Y), .int .i64 ((ptR (numsL (w.drop 1))).Z), .int .i64 ((colR ((numsL (w.drop 1)).drop 3)).R), .int .i64 ((colR ((numsL (w.drop 1)).drop 3)).G), .int .i64 ((colR ((numsL (w.drop 1)).drop 3)).B)]) rfl u_29 ts_65 tz_65 rfl (lconsP ((hf27 45 rfl).trans rfl) rfl) rfl ?_
 intro i33 H34 n35 h36 k37
 have h40 := keep k37 (ne_new h29 n35) h29
 have o41 := Own.keep o30 k37 (Own.notnew o30 n35)
 have o43 := MO.keep o31 k37 (MO.notnew o31 n35)
 have m45 := Mono.new m32 n35 k37
 refine ⟨_, rfl, .inl (Mono.new (Mono.refl _) n35 k37), ?_⟩
 refine STR.eff rfl rfl rfl fun f46 H47 hf48 m49 => ?_
 have h50 := m49 _ _ h40
 have h51 := m49 _ _ h36
 have o52 := Own.mono o41 m49
 have o53 := MO.mono o43 m49
 have m54 := m45.trans m49
 refine AOp.append_own (es := 6) (m := 1) (len := s.lights.length) (old := s.lights.flatMap eLight) (cells := [.int .i64 ((ptR (numsL (w.drop 1))).X), .int .i64 ((ptR (numsL (w.drop 1))).Y), .int .i64 ((ptR (numsL (w.drop 1))).Z), .int .i64 ((colR ((numsL (w.drop 1)).drop 3)).R), .int .i64 ((colR ((numsL (w.drop 1)).drop 3)).G), .int .i64 ((colR ((numsL (w.drop 1)).drop 3)).B)]) rfl u_29 ts_65 tzn_65 tb_65 (by decide) ni_29 ((hf48 40 rfl).trans rfl) o52 m54 ((hf48 46 rfl).trans rfl) (.slm h51 rfl) (one_of rfl) (by decide) (by first | omega | (simp; omega)) ?_
 intro v55 H56 o57 m58 k59 j60
 have o61 := Own.snocM (xs := (s.lights : List LightT)) (y := (LightT.mk (ptR (numsL (w.drop 1))) (colR ((numsL (w.drop 1)).drop 3)))) (e := eLight) (by simp) o57
 have h62 := (k59 _ nL (by rw [h50]; simp)).trans h50
 have no63 := j60 _ nL (by rw [h50]; simp)
 have sp65 := MO.sep o53 spL j60
 have o64 := MO.stay o53 spL k59
 refine ⟨_, rfl, .inr (RevR.skip rfl (RevR.skip rfl (RevR.skip rfl (RevR.skip rfl (RevR.skip rfl (RevR.skip rfl (RevR.skip rfl (RevR.skip rfl (RevR.skip rfl (RevR.skip rfl (RevR.skip rfl (RevR.cons rfl (.inl ⟨rfl, fun H1 f' H' hf hN hM => AOp.move _ rfl ((hf 0 rfl).trans rfl) ⟨rfl, hN⟩⟩) RevR.nil)))))))))))), ?_⟩
 refine STR.done fun H66 m67 => ?_
 have h68 := m67 _ _ h62
 have o69 := MO.mono o64 m67
 have o70 := Own.mono o61 m67
 have m71 := m58.trans m67
 refine AOps.cons rfl rfl (AOp.nilCheck (.ptr id ver 0) rfl rfl rfl ?_)
 refine AOps.cons rfl rfl (AOp.fieldAddr rfl rfl fl_63_0 ?_ (hid := ⟨_, h68⟩))
 refine AOps.cons rfl rfl (AOp.fieldAddr rfl rfl fl_35_2 ?_ (hid := ⟨_, h68⟩))
 refine AOps.cons rfl rfl (AOp.storeO (cells' := rdC s.cam s.sky v55 vM vT vS vC s.hc s.hs) rfl rfl o70 ts_29 h68 rfl rfl ?_)
 intro H72 h73 k74
 have o76 := MO.keep o69 k74 ngL
 have o77 := Own.keep o70 k74 no63
 have m78 := Mono.set m71 hB k74
 refine AWP.seq (AWP.region rfl ?_)
 refine AOps.cons rfl rfl (AOp.assign _ rfl rfl ?_)
 refine AWP.ret ?_
 exact ⟨_, _, Ghost.refl, .inr rfl, _, Res.one rfl rfl, .inl ⟨_, gT (cnt_T (numsL_len _) hb1 b9) (gT (decide_eq_true (by omega)) (gT (b17) (gT ((in_dtake (by omega) b24)) (rfl)))), ⟨_, _, _, _, _, _, _, _, h73, hB, MO.put 0 (by simp [rdL]) o76 o77 sp65, NotIdM.put 0 ngL no63⟩, m78, rfl⟩⟩
 refine AWP.condT rfl (nb b24) ?_
 refine AWP.seq (AWP.region rfl ?_)
 refine AOps.cons rfl rfl (AOp.assign _ rfl rfl ?_)
 refine AWP.ret ?_
 exact ⟨_, _, Ghost.refl, .inr rfl, _, Res.one rfl rfl, .inr ⟨11, gT (cnt_T (numsL_len _) hb1 b9) (gT (decide_eq_true (by omega)) (gT (b17) (gF ((in_dtake (by omega) b24))))), m23, rfl⟩⟩
 refine AOps.no rfl rfl rfl rfl rfl rfl rfl (ble_of (nb b17) (by decide)) (AOps.no rfl rfl rfl rfl rfl rfl rfl (ble_of (nb b17) (by decide)) (AOps.no rfl rfl rfl rfl rfl rfl rfl (ble_of (nb b17) (by decide)) (AOps.cons rfl rfl (AOp.pickT _ rfl rfl (nb b17) rfl ?_))))
 refine AWP.condT rfl rfl ?_
 refine AWP.seq (AWP.region rfl ?_)
 refine AOps.cons rfl rfl (AOp.assign _ rfl rfl ?_)
 refine AWP.ret ?_
 exact ⟨_, _, Ghost.refl, .inr rfl, _, Res.one rfl rfl, .inr ⟨11, gT (cnt_T (numsL_len _) hb1 b9) (gT (decide_eq_true (by omega)) (gF (b17))), m16, rfl⟩⟩
 refine AWP.condT rfl (nb (decide_eq_false b9)) ?_
 refine AWP.seq (AWP.region rfl ?_)
 refine AOps.cons rfl rfl (AOp.assign _ rfl rfl ?_)
 refine AWP.ret ?_
 exact ⟨_, _, Ghost.refl, .inr rfl, _, Res.one rfl rfl, .inr ⟨10, gF (cnt_F2 (numsL_len _) b9), m7, rfl⟩⟩
 refine AOps.cons rfl rfl (AOp.pcall («as» := [.sl (w.drop 1).length ((w.drop 1).map eStr)]) rfl rfl (rfl) tf_88 (c_rnumbers_F hb1 (w.drop 1) (by first | omega | assumption | (simp only [List.length_drop, List.length_take]; omega) | (simp; omega) | simp)) ?_)
 intro H79 m80
 have m84 := m0.trans m80
 refine AOps.cons rfl rfl (AOp.move _ rfl rfl (AOps.cons rfl rfl (AOp.extract _ rfl rfl rfl (AOps.cons rfl rfl (AOp.extract _ rfl rfl rfl (AOps.cons rfl rfl (AOp.assign _ rfl rfl (AOps.cons rfl rfl (AOp.assign _ rfl rfl ?_)))))))))
 refine AWP.seq ?_
 refine AWP.seq (AWP.region rfl ?_)
 refine AOps.cons rfl rfl (AOp.move _ rfl rfl (AOps.cons rfl rfl (AOp.not rfl rfl (AOps.cons rfl rfl (AOp.move _ rfl rfl (AOps.no rfl rfl rfl rfl rfl rfl rfl (ble_of rfl (by decide)) (AOps.no rfl rfl rfl rfl rfl rfl rfl (ble_of rfl (by decide)) (AOps.no rfl rfl rfl rfl rfl rfl rfl (ble_of rfl (by decide)) ?_))))))))
 refine AOps.cons rfl rfl (AOp.pickT _ rfl rfl rfl rfl ?_)
 refine AWP.condT rfl rfl ?_
 refine AWP.seq (AWP.region rfl ?_)
 refine AOps.cons rfl rfl (AOp.assign _ rfl rfl ?_)
 refine AWP.ret ?_
 exact ⟨_, _, Ghost.refl, .inr rfl, _, Res.one rfl rfl, .inr ⟨10, gF (cnt_F1 hb1), m84, rfl⟩⟩
theorem c_rtexture {B H0 : Heap} {id ver : Nat} {s : Rd} (hm : Mono B H0) (hs : RD B H0 id ver s) (ok : RdOk s) (w : List ByteArray) (hw : w.length ≤ 1048576) (hne : 0 < w.length) : ACalls Tryz.prog 44 [.ptr id ver 0, .sl w.length (w.map eStr)] H0 fun r H' => (∃ t, textureP s (w.drop 1) = .ok t ∧ RD B H' id ver t ∧ Mono B H' ∧ r = .int .i64 0) ∨ ∃ k, textureP s (w.drop 1) = .error k ∧ Mono B H' ∧ r = .int .i64 k := by
 obtain ⟨vL, vM, vT, vS, vC, vV, vF, vK, hrow, hB, hg, hn⟩ := hs
 obtain ⟨oT', ogT, spT⟩ := hg.at 2 rfl
 have oT : Own B H0 4 vT s.texs.length (s.texs.flatMap eTex) := oT'
 have nT : NotId vT id := hn.at 2 rfl
 have ngT := hn.erase 2
 refine ACalls.of_body' (n := 84) rfl rfl rfl rfl ?_
 have m0 := hm
 refine AWP.seq (AWP.region rfl ?_)
 refine AOps.cons rfl rfl (AOp.assign _ rfl rfl ?_)
 refine AWP.seq ?_
 refine AWP.seq (AWP.region rfl ?_)
 refine AOps.cons rfl rfl (AOp.move _ rfl rfl (AOps.cons rfl rfl (AOp.len (m := w.length) rfl rfl (.inr (.inl ⟨_, rfl⟩)) u_57 (AOps.cons rfl rfl (AOp.bin _ rfl rfl rfl rfl (AOps.cons rfl rfl (AOp.move _ rfl rfl ?_)))))))
 by_cases b1 : (w.length : Int) < 4
 refine AOps.no rfl rfl rfl rfl rfl rfl rfl (ble_of (decide_eq_true b1) (by decide)) (AOps.no rfl rfl rfl rfl rfl rfl rfl (ble_of (decide_eq_true b1) (by decide)) (AOps.no rfl rfl rfl rfl rfl rfl rfl (ble_of (decide_eq_true b1) (by decide)) (AOps.no rfl rfl rfl rfl rfl rfl rfl (ble_of (decide_eq_true b1) (by decide)) (AOps.no rfl rfl rfl rfl rfl rfl rfl (ble_of (decide_eq_true b1) (by decide)) (AOps.cons rfl rfl (AOp.pickT _ rfl rfl (decide_eq_true b1) rfl ?_))))))
 refine AWP.condT rfl rfl ?_
 refine AWP.seq (AWP.region rfl ?_)
 refine AOps.cons rfl rfl (AOp.assign _ rfl rfl ?_)
 refine AWP.ret ?_
 exact ⟨_, _, Ghost.refl, .inr rfl, _, Res.one rfl rfl, .inr ⟨10, (tex_eq s w).trans (gF (named_F1 (by simp; omega))), m0, rfl⟩⟩
 refine AOps.yes rfl rfl rfl rfl rfl rfl rfl (decide_eq_false b1) (AOp.move _ rfl rfl (AOps.yes rfl rfl rfl rfl rfl rfl rfl (decide_eq_false b1) (AOp.indexAddrS rfl rfl rfl sl_57 (by omega) (by omega) (AOps.yes rfl rfl rfl rfl rfl rfl rfl (decide_eq_false b1) (AOp.loadF _ rfl rfl ty_9 (ld1 (by omega) (by omega)) (AOps.yes rfl rfl rfl rfl rfl rfl rfl (decide_eq_false b1) (AOp.pcall («as» := [.str (at_ w 1)]) rfl rfl (rfl) tf_92 (c_ref_Name _) ?_)))))))
 intro H2 m3
 have h4 := m3 _ _ hrow
 have o5 := Own.mono oT m3
 have o6 := MO.mono ogT m3
 have m7 := m0.trans m3
 refine AOps.yes rfl rfl rfl rfl rfl rfl rfl (decide_eq_false b1) (AOp.not rfl rfl (AOps.cons rfl rfl (AOp.pickF _ rfl rfl (decide_eq_false b1) rfl ?_)))
 refine AOps.nil ?_
 change AWP _ _ _ _ _ _
 rcases Bool.eq_false_or_eq_true (nameB (at_ w 1)) with b8 | b8
 refine AWP.condF rfl (nb b8) ?_
 refine AWP.skip ?_
 refine AWP.seq (AWP.region rfl ?_)
 refine AOps.cons rfl rfl (AOp.move _ rfl rfl (AOps.cons rfl rfl (AOp.sliceSD1 (xs := w) (l := 2) (h := (w.length : Int)) rfl rfl  sl_57 (lo_of rfl) rfl (by first | omega | (simp; omega)) (by first | omega | (simp; omega)) (by first | omega | (simp; omega)) rfl ?_)))
 rcases Bool.eq_false_or_eq_true (numsB (w.drop 2)) with hb9 | hb9
 refine AOps.cons rfl rfl (AOp.pcall («as» := [.sl (w.drop 2).length ((w.drop 2).map eStr)]) rfl rfl (rfl) tf_88 (c_rnumbers_T hb9 (w.drop 2) (by first | omega | assumption | (simp only [List.length_drop, List.length_take]; omega) | (simp; omega) | simp)) ?_)
 intro H10 m11
 have h12 := m11 _ _ h4
 have o13 := Own.mono o5 m11
 have o14 := MO.mono o6 m11
 have m15 := m7.trans m11
 have hl16 := numsL_len (w.drop 2)
 simp only [List.length_drop] at hl16
 refine AOps.cons rfl rfl (AOp.move _ rfl rfl (AOps.cons rfl rfl (AOp.extract _ rfl rfl rfl (AOps.cons rfl rfl (AOp.extract _ rfl rfl rfl (AOps.cons rfl rfl (AOp.assign _ rfl rfl (AOps.cons rfl rfl (AOp.assign _ rfl rfl ?_)))))))))
 refine AWP.seq ?_
 refine AWP.seq ?_
 have h0_ := nums_rng (w.drop 2) 0 (by omega) (by omega); have h1_ := nums_rng (w.drop 2) 1 (by omega) (by omega)
 refine AWP.region_quiet mixed (by kernel_rfl) 15 [] rfl (by kernel_rfl) (Mono H10) (Mono.refl _) ?_
 refine QE.op rfl rfl (.inl ⟨rfl, fun f' H' hf hM => AOp.move _ rfl ((hf 6 rfl).trans rfl) ⟨rfl, hM⟩⟩) ?_
 refine QE.op rfl rfl (.inl ⟨rfl, fun f' H' hf hM => AOp.not rfl ((hf 23 rfl).trans rfl) ⟨rfl, hM⟩⟩) ?_
 refine QE.op rfl rfl (.inl ⟨rfl, fun f' H' hf hM => AOp.move _ rfl ((hf 24 rfl).trans rfl) ⟨rfl, hM⟩⟩) ?_
 refine QE.op rfl rfl (QOp.yes rfl rfl rfl rfl rfl fun f' H' hf hM => AOp.move _ rfl ((hf 5 rfl).trans rfl) ⟨rfl, hM⟩) ?_
 refine QE.op rfl rfl (QOp.yes rfl rfl rfl rfl rfl fun f' H' hf hM => AOp.indexAddrS rfl ((hf 26 rfl).trans rfl) rfl sl_68 (by omega) (by omega) ⟨rfl, hM⟩) ?_
 refine QE.op rfl rfl (QOp.yes rfl rfl rfl rfl rfl fun f' H' hf hM => AOp.loadF _ rfl ((hf 27 rfl).trans rfl) ty_3 (ld1 (by omega) (by omega)) ⟨rfl, hM⟩) ?_
 refine QE.op rfl rfl (QOp.yes rfl rfl rfl rfl rfl fun f' H' hf hM => AOp.move _ rfl ((hf 5 rfl).trans rfl) ⟨rfl, hM⟩) ?_
 refine QE.op rfl rfl (QOp.yes rfl rfl rfl rfl rfl fun f' H' hf hM => AOp.indexAddrS rfl ((hf 29 rfl).trans rfl) rfl sl_68 (by omega) (by omega) ⟨rfl, hM⟩) ?_
 refine QE.op rfl rfl (QOp.yes rfl rfl rfl rfl rfl fun f' H' hf hM => AOp.loadF _ rfl ((hf 30 rfl).trans rfl) ty_3 (ld1 (by omega) (by omega)) ⟨rfl, hM⟩) ?_
 refine QE.op rfl rfl (QOp.yes rfl rfl rfl rfl rfl fun f' H' hf hM => AOp.bin _ rfl ((hf 28 rfl).trans rfl) ((hf 31 rfl).trans rfl) (imul (by have := mul_rng h0_ h1_; omega)) ⟨rfl, hM⟩) ?_
 refine QE.op rfl rfl (QOp.yes rfl rfl rfl rfl rfl fun f' H' hf hM => AOp.move _ rfl ((hf 5 rfl).trans rfl) ⟨rfl, hM⟩) ?_
 refine QE.op rfl rfl (QOp.yes rfl rfl rfl rfl rfl fun f' H' hf hM => AOp.len (m := (numsL (w.drop 2)).length) rfl ((hf 33 rfl).trans rfl) (.inr (.inl ⟨_, rfl⟩)) u_68 ⟨rfl, hM⟩) ?_
 refine QE.op rfl rfl (QOp.yes rfl rfl rfl rfl rfl fun f' H' hf hM => AOp.bin _ rfl ((hf 34 rfl).trans rfl) rfl (isub (by omega)) ⟨rfl, hM⟩) ?_
 refine QE.op rfl rfl (QOp.yes rfl rfl rfl rfl rfl fun f' H' hf hM => AOp.bin _ rfl ((hf 32 rfl).trans rfl) ((hf 35 rfl).trans rfl) ine ⟨rfl, hM⟩) ?_
 refine QE.op rfl rfl (.inl ⟨rfl, fun f' H' hf hM => AOp.pickF _ rfl ((hf 25 rfl).trans rfl) rfl ((hf 36 rfl).trans rfl) ⟨rfl, hM⟩⟩) ?_
 refine QE.done fun H17 m18 => ?_
 have h19 := m18 _ _ h12
 have o20 := Own.mono o13 m18
 have o21 := MO.mono o14 m18
 have m22 := m15.trans m18
 refine AOps.nil ?_
 change AWP _ _ _ _ _ _
 by_cases b23 : (at_ (numsL (w.drop 2)) 0) * (at_ (numsL (w.drop 2)) 1) = (((numsL (w.drop 2)).length) : Int) - 2
 refine AWP.condF rfl (nb (decide_eq_true b23)) ?_
 refine AWP.skip ?_
 refine AWP.seq ?_
 refine AWP.seq (AWP.region rfl ?_)
 refine AOps.cons rfl rfl (AOp.move _ rfl rfl (AOps.cons rfl rfl (AOp.nilCheck (.ptr id ver 0) rfl rfl rfl ?_)))
 refine AOps.cons rfl rfl (AOp.fieldAddr rfl rfl fl_63_0 ?_ (hid := ⟨_, h19⟩))
 refine AOps.cons rfl rfl (AOp.fieldAddr rfl rfl fl_35_4 ?_ (hid := ⟨_, h19⟩))
 refine AOps.cons rfl rfl (AOp.load _ rfl rfl ty_31 h19 rfl (AOps.cons rfl rfl (AOp.len_own (m := s.texs.length) rfl rfl o20 u_31 (AOps.cons rfl rfl (AOp.bin _ rfl rfl rfl rfl ?_)))))
 refine AOps.nil ?_
 change AWP _ _ _ _ _ _
 by_cases b24 : (s.texs.length : Int) ≥ 4
 refine AWP.condT rfl (decide_eq_true b24) ?_
 refine AWP.seq (AWP.region rfl ?_)
 refine AOps.cons rfl rfl (AOp.assign _ rfl rfl ?_)
 refine AWP.ret ?_
 exact ⟨_, _, Ghost.refl, .inr rfl, _, Res.one rfl rfl, .inr ⟨13, (tex_eq s w).trans (gT (named1_T (by omega) (by omega) b8) (gT (hb9) (gT (decide_eq_true b23) (gF (decide_eq_false (by omega)))))), m22, rfl⟩⟩
 refine AWP.condF rfl (decide_eq_false b24) ?_
 refine AWP.skip ?_
 refine AWP.seq ?_
 refine AWP.seq (AWP.region rfl ?_)
 refine AOps.cons rfl rfl (AOp.move _ rfl rfl (AOps.cons rfl rfl (AOp.move _ rfl rfl (AOps.cons rfl rfl (AOp.indexAddrS rfl rfl rfl sl_57 (by omega) (by omega) (AOps.cons rfl rfl (AOp.loadF _ rfl rfl ty_9 (ld1 (by omega) (by omega)) (AOps.cons rfl rfl (AOp.pcallH («as» := [.ptr id ver 0, .str (at_ w 1)]) rfl rfl (rfl) tf_93 ((c_rTex (B := B) m22 hB h19 o20 nT (by have := ok.t; omega) (at_ w 1))) ?_)))))))))
 intro H25 m26
 have h27 := m26 _ _ h19
 have o28 := Own.mono o20 m26
 have o29 := MO.mono o21 m26
 have m30 := m22.trans m26
 refine AOps.cons rfl rfl (AOp.bin _ rfl rfl rfl rfl ?_)
 refine AOps.nil ?_
 change AWP _ _ _ _ _ _
 by_cases b31 : texX s (at_ w 1) ≥ 0
 refine AWP.condT rfl (decide_eq_true b31) ?_
 refine AWP.seq (AWP.region rfl ?_)
 refine AOps.cons rfl rfl (AOp.assign _ rfl rfl ?_)
 refine AWP.ret ?_
 exact ⟨_, _, Ghost.refl, .inr rfl, _, Res.one rfl rfl, .inr ⟨12, (tex_eq s w).trans (gT (named1_T (by omega) (by omega) b8) (gT (hb9) (gT (decide_eq_true b23) (gT (decide_eq_true (by omega)) (gF (decide_eq_false (by omega))))))), m30, rfl⟩⟩
 refine AWP.condF rfl (decide_eq_false b31) ?_
 refine AWP.skip ?_
 refine AWP.seq ?_
 refine AWP.seq (AWP.region rfl ?_)
 refine AOps.cons rfl rfl (AOp.move _ rfl rfl (AOps.cons rfl rfl (AOp.pcall («as» := [.sl (numsL (w.drop 2)).length ((numsL (w.drop 2)).map eI), .int .i64 0, .int .i64 2, .int .i64 1, .int .i64 16]) rfl rfl (rfl) tf_89 (c_rwithin (numsL (w.drop 2)) (0 : Int) (2 : Int) 1 16 (by omega) (by omega) (by omega) (by omega)) ?_)))
 intro H32 m33
 have h34 := m33 _ _ h27
 have o35 := Own.mono o28 m33
 have o36 := MO.mono o29 m33
 have m37 := m30.trans m33
 refine AOps.cons rfl rfl (AOp.not rfl rfl (AOps.cons rfl rfl (AOp.move _ rfl rfl ?_)))
 rcases Bool.eq_false_or_eq_true (inB 1 16 ((numsL (w.drop 2)).take 2)) with b38 | b38
 refine AOps.yes rfl rfl rfl rfl rfl rfl rfl (nb b38) (AOp.move _ rfl rfl (AOps.yes rfl rfl rfl rfl rfl rfl rfl (nb b38) (AOp.move _ rfl rfl (AOps.yes rfl rfl rfl rfl rfl rfl rfl (nb b38) (AOp.len (m := (numsL (w.drop 2)).length) rfl rfl (.inr (.inl ⟨_, rfl⟩)) u_68 (AOps.yes rfl rfl rfl rfl rfl rfl rfl (nb b38) (AOp.pcall («as» := [.sl (numsL (w.drop 2)).length ((numsL (w.drop 2)).map eI), .int .i64 2, .int .i64 (((numsL (w.drop 2)).length) : Int), .int .i64 0, .int .i64 255]) rfl rfl (rfl) tf_89 (c_rwithinD (numsL (w.drop 2)) (2 : Int) _ 0 255 rfl (by omega) (by omega) (by omega)) ?_)))))))
 intro H39 m40
 have h41 := m40 _ _ h34
 have o42 := Own.mono o35 m40
 have o43 := MO.mono o36 m40
 have m44 := m37.trans m40
 refine AOps.yes rfl rfl rfl rfl rfl rfl rfl (nb b38) (AOp.not rfl rfl (AOps.cons rfl rfl (AOp.pickF _ rfl rfl (nb b38) rfl ?_)))
 refine AOps.nil ?_
 change AWP _ _ _ _ _ _
 rcases Bool.eq_false_or_eq_true (inB 0 255 ((numsL (w.drop 2)).drop 2)) with b45 | b45
 refine AWP.condF rfl (nb b45) ?_
 refine AWP.skip ?_
 refine AWP.seq ?_
 refine AWP.region_str mixed (by kernel_rfl) [(0, none), (1, none), (2, none), (3, none), (4, none), (5, none), (6, none), (7, none), (8, none), (9, none), (10, none), (11, none), (12, none), (13, none), (14, none), (15, none), (16, none), (17, none), (18, some [0, 1, 2, 3, 4, 5]), (19, some [0])] [20, 21, 22, 23] (by kernel_rfl) ?_
 refine STR.op rfl rfl (.inl ⟨rfl, fun H1 f' H' hf hN hM => AOp.move _ rfl ((hf 0 rfl).trans rfl) ⟨rfl, hN⟩⟩) ?_
 refine STR.op rfl rfl (.inl ⟨rfl, fun H1 f' H' hf hN hM => AOp.move _ rfl ((hf 0 rfl).trans rfl) ⟨rfl, hN⟩⟩) ?_
 refine STR.op rfl rfl (.inl ⟨rfl, fun H1 f' H' hf hN hM => AOp.nilCheck (.ptr id ver 0) rfl ((hf 62 rfl).trans rfl) rfl ⟨rfl, hN⟩⟩) ?_
 refine STR.op rfl rfl (.inl ⟨rfl, fun H1 f' H' hf hN hM => AOp.fieldAddr rfl ((hf 63 rfl).trans rfl) fl_63_0 ⟨rfl, hN⟩ (hid := ⟨_, (hM _ _ h41)⟩)⟩) ?_
 refine STR.op rfl rfl (.inl ⟨rfl, fun H1 f' H' hf hN hM => AOp.fieldAddr rfl ((hf 64 rfl).trans rfl) fl_35_4 ⟨rfl, hN⟩ (hid := ⟨_, (hM _ _ h41)⟩)⟩) ?_
 refine STR.op rfl rfl (.inl ⟨rfl, fun H1 f' H' hf hN hM => AOp.load _ rfl ((hf 65 rfl).trans rfl) ty_31 (hM _ _ h41) rfl ⟨rfl, hN⟩⟩) ?_
 refine STR.op rfl rfl (.inl ⟨rfl, fun H1 f' H' hf hN hM => AOp.move _ rfl ((hf 1 rfl).trans rfl) ⟨rfl, hN⟩⟩) ?_
 refine STR.op rfl rfl (.inl ⟨rfl, fun H1 f' H' hf hN hM => AOp.indexAddrS rfl ((hf 67 rfl).trans rfl) rfl sl_57 (by omega) (by omega) ⟨rfl, hN⟩⟩) ?_
 refine STR.op rfl rfl (.inl ⟨rfl, fun H1 f' H' hf hN hM => AOp.loadF _ rfl ((hf 68 rfl).trans rfl) ty_9 (ld1 (by omega) (by omega)) ⟨rfl, hN⟩⟩) ?_
 refine STR.op rfl rfl (.inl ⟨rfl, fun H1 f' H' hf hN hM => AOp.move _ rfl ((hf 5 rfl).trans rfl) ⟨rfl, hN⟩⟩) ?_
 refine STR.op rfl rfl (.inl ⟨rfl, fun H1 f' H' hf hN hM => AOp.indexAddrS rfl ((hf 70 rfl).trans rfl) rfl sl_68 (by omega) (by omega) ⟨rfl, hN⟩⟩) ?_
 refine STR.op rfl rfl (.inl ⟨rfl, fun H1 f' H' hf hN hM => AOp.loadF _ rfl ((hf 71 rfl).trans rfl) ty_3 (ld1 (by omega) (by omega)) ⟨rfl, hN⟩⟩) ?_
 refine STR.op rfl rfl (.inl ⟨rfl, fun H1 f' H' hf hN hM => AOp.move _ rfl ((hf 5 rfl).trans rfl) ⟨rfl, hN⟩⟩) ?_
 refine STR.op rfl rfl (.inl ⟨rfl, fun H1 f' H' hf hN hM => AOp.indexAddrS rfl ((hf 73 rfl).trans rfl) rfl sl_68 (by omega) (by omega) ⟨rfl, hN⟩⟩) ?_
 refine STR.op rfl rfl (.inl ⟨rfl, fun H1 f' H' hf hN hM => AOp.loadF _ rfl ((hf 74 rfl).trans rfl) ty_3 (ld1 (by omega) (by omega)) ⟨rfl, hN⟩⟩) ?_
 refine STR.op rfl rfl (.inl ⟨rfl, fun H1 f' H' hf hN hM => AOp.move _ rfl ((hf 5 rfl).trans rfl) ⟨rfl, hN⟩⟩) ?_
 refine STR.op rfl rfl (.inl ⟨rfl, fun H1 f' H' hf hN hM => AOp.sliceSD1 (xs := numsL (w.drop 2)) (l := 2) (h := (((numsL (w.drop 2)).length) : Int)) rfl ((hf 76 rfl).trans rfl)  sl_68 (lo_of rfl) rfl (by first | omega | (simp; omega)) (by first | omega | (simp; omega)) (by first | omega | (simp; omega)) rfl ⟨rfl, hN⟩⟩) ?_
 refine STR.op rfl rfl (.inl ⟨rfl, fun H1 f' H' hf hN hM => AOp.build (cells := [.str (at_ w 1), .int .i64 (at_ (numsL (w.drop 2)) 0), .int .i64 (at_ (numsL (w.drop 2)) 1), .sl ((numsL (w.drop 2)).drop 2).length (((numsL (w.drop 2)).drop 2).map eI)]) rfl tz_70 pl_70 (lconsP ((hf 69 rfl).trans rfl) (lconsP ((hf 72 rfl).trans rfl) (lconsP ((hf 75 rfl).trans rfl) (lconsP ((hf 77 rfl).trans rfl) rfl)))) rfl ⟨rfl, hN⟩⟩) ?_
 refine STR.eff rfl rfl rfl fun f46 H47 hf48 m49 => ?_
 have h50 := m49 _ _ h41
 have o51 := Own.mono o42 m49
 have o52 := MO.mono o43 m49
 have m53 := m44.trans m49
 refine AOp.buildSlice (cells := [.str (at_ w 1), .int .i64 (at_ (numsL (w.drop 2)) 0), .int .i64 (at_ (numsL (w.drop 2)) 1), .sl ((numsL (w.drop 2)).drop 2).length (((numsL (w.drop 2)).drop 2).map eI)]) rfl u_31 ts_70 tz_70 rfl (lconsP ((hf48 78 rfl).trans rfl) rfl) rfl ?_
 intro i54 H55 n56 h57 k58
 have h61 := keep k58 (ne_new h50 n56) h50
 have o62 := Own.keep o51 k58 (Own.notnew o51 n56)
 have o64 := MO.keep o52 k58 (MO.notnew o52 n56)
 have m66 := Mono.new m53 n56 k58
 refine ⟨_, rfl, .inl (Mono.new (Mono.refl _) n56 k58), ?_⟩
 refine STR.eff rfl rfl rfl fun f67 H68 hf69 m70 => ?_
 have h71 := m70 _ _ h61
 have h72 := m70 _ _ h57
 have o73 := Own.mono o62 m70
 have o74 := MO.mono o64 m70
 have m75 := m66.trans m70
 refine AOp.append_own (es := 4) (m := 1) (len := s.texs.length) (old := s.texs.flatMap eTex) (cells := [.str (at_ w 1), .int .i64 (at_ (numsL (w.drop 2)) 0), .int .i64 (at_ (numsL (w.drop 2)) 1), .sl ((numsL (w.drop 2)).drop 2).length (((numsL (w.drop 2)).drop 2).map eI)]) rfl u_31 ts_70 tzn_70 tb_70 (by decide) ni_31 ((hf69 66 rfl).trans rfl) o73 m75 ((hf69 79 rfl).trans rfl) (.slm h72 rfl) (one_of rfl) (by decide) (by first | omega | (simp; omega)) ?_
 intro v76 H77 o78 m79 k80 j81
 have o82 := Own.snocM (xs := (s.texs : List TexT)) (y := (TexT.mk (at_ w 1) (at_ (numsL (w.drop 2)) 0) (at_ (numsL (w.drop 2)) 1) ((numsL (w.drop 2)).drop 2))) (e := eTex) (by simp) o78
 have h83 := (k80 _ nT (by rw [h71]; simp)).trans h71
 have no84 := j81 _ nT (by rw [h71]; simp)
 have sp86 := MO.sep o74 spT j81
 have o85 := MO.stay o74 spT k80
 refine ⟨_, rfl, .inr (RevR.skip rfl (RevR.skip rfl (RevR.skip rfl (RevR.skip rfl (RevR.skip rfl (RevR.skip rfl (RevR.skip rfl (RevR.skip rfl (RevR.skip rfl (RevR.skip rfl (RevR.skip rfl (RevR.skip rfl (RevR.skip rfl (RevR.skip rfl (RevR.skip rfl (RevR.skip rfl (RevR.skip rfl (RevR.skip rfl (RevR.cons rfl (.inl ⟨rfl, fun H1 f' H' hf hN hM => AOp.move _ rfl ((hf 0 rfl).trans rfl) ⟨rfl, hN⟩⟩) RevR.nil))))))))))))))))))), ?_⟩
 refine STR.done fun H87 m88 => ?_
 have h89 := m88 _ _ h83
 have o90 := MO.mono o85 m88
 have o91 := Own.mono o82 m88
 have m92 := m79.trans m88
 refine AOps.cons rfl rfl (AOp.nilCheck (.ptr id ver 0) rfl rfl rfl ?_)
 refine AOps.cons rfl rfl (AOp.fieldAddr rfl rfl fl_63_0 ?_ (hid := ⟨_, h89⟩))
 refine AOps.cons rfl rfl (AOp.fieldAddr rfl rfl fl_35_4 ?_ (hid := ⟨_, h89⟩))
 refine AOps.cons rfl rfl (AOp.storeO (cells' := rdC s.cam s.sky vL vM v76 vS vC s.hc s.hs) rfl rfl o91 ts_31 h89 rfl rfl ?_)
 intro H93 h94 k95
 have o97 := MO.keep o90 k95 ngT
 have o98 := Own.keep o91 k95 no84
 have m99 := Mono.set m92 hB k95
 refine AWP.seq (AWP.region rfl ?_)
 refine AOps.cons rfl rfl (AOp.assign _ rfl rfl ?_)
 refine AWP.ret ?_
 exact ⟨_, _, Ghost.refl, .inr rfl, _, Res.one rfl rfl, .inl ⟨_, (tex_eq s w).trans (gT (named1_T (by omega) (by omega) b8) (gT (hb9) (gT (decide_eq_true b23) (gT (decide_eq_true (by omega)) (gT (decide_eq_true (by omega)) (gT (b38) (gT (b45) (rfl)))))))), ⟨_, _, _, _, _, _, _, _, h94, hB, MO.put 2 (by simp [rdL]) o97 o98 sp86, NotIdM.put 2 ngT no84⟩, m99, rfl⟩⟩
 refine AWP.condT rfl (nb b45) ?_
 refine AWP.seq (AWP.region rfl ?_)
 refine AOps.cons rfl rfl (AOp.assign _ rfl rfl ?_)
 refine AWP.ret ?_
 exact ⟨_, _, Ghost.refl, .inr rfl, _, Res.one rfl rfl, .inr ⟨11, (tex_eq s w).trans (gT (named1_T (by omega) (by omega) b8) (gT (hb9) (gT (decide_eq_true b23) (gT (decide_eq_true (by omega)) (gT (decide_eq_true (by omega)) (gT (b38) (gF (b45)))))))), m44, rfl⟩⟩
 refine AOps.no rfl rfl rfl rfl rfl rfl rfl (ble_of (nb b38) (by decide)) (AOps.no rfl rfl rfl rfl rfl rfl rfl (ble_of (nb b38) (by decide)) (AOps.no rfl rfl rfl rfl rfl rfl rfl (ble_of (nb b38) (by decide)) (AOps.no rfl rfl rfl rfl rfl rfl rfl (ble_of (nb b38) (by decide)) (AOps.no rfl rfl rfl rfl rfl rfl rfl (ble_of (nb b38) (by decide)) (AOps.cons rfl rfl (AOp.pickT _ rfl rfl (nb b38) rfl ?_))))))
 refine AWP.condT rfl rfl ?_
 refine AWP.seq (AWP.region rfl ?_)
 refine AOps.cons rfl rfl (AOp.assign _ rfl rfl ?_)
 refine AWP.ret ?_
 exact ⟨_, _, Ghost.refl, .inr rfl, _, Res.one rfl rfl, .inr ⟨11, (tex_eq s w).trans (gT (named1_T (by omega) (by omega) b8) (gT (hb9) (gT (decide_eq_true b23) (gT (decide_eq_true (by omega)) (gT (decide_eq_true (by omega)) (gF (b38))))))), m37, rfl⟩⟩
 refine AWP.condT rfl (nb (decide_eq_false b23)) ?_
 refine AWP.seq (AWP.region rfl ?_)
 refine AOps.cons rfl rfl (AOp.assign _ rfl rfl ?_)
 refine AWP.ret ?_
 exact ⟨_, _, Ghost.refl, .inr rfl, _, Res.one rfl rfl, .inr ⟨10, (tex_eq s w).trans (gT (named1_T (by omega) (by omega) b8) (gT (hb9) (gF (decide_eq_false b23)))), m22, rfl⟩⟩
 refine AOps.cons rfl rfl (AOp.pcall («as» := [.sl (w.drop 2).length ((w.drop 2).map eStr)]) rfl rfl (rfl) tf_88 (c_rnumbers_F hb9 (w.drop 2) (by first | omega | assumption | (simp only [List.length_drop, List.length_take]; omega) | (simp; omega) | simp)) ?_)
 intro H100 m101
 have m105 := m7.trans m101
 refine AOps.cons rfl rfl (AOp.move _ rfl rfl (AOps.cons rfl rfl (AOp.extract _ rfl rfl rfl (AOps.cons rfl rfl (AOp.extract _ rfl rfl rfl (AOps.cons rfl rfl (AOp.assign _ rfl rfl (AOps.cons rfl rfl (AOp.assign _ rfl rfl ?_)))))))))
 refine AWP.seq ?_
 refine AWP.seq ?_
 skip
 refine AWP.region_quiet mixed (by kernel_rfl) 15 [] rfl (by kernel_rfl) (Mono H100) (Mono.refl _) ?_
 refine QE.op rfl rfl (.inl ⟨rfl, fun f' H' hf hM => AOp.move _ rfl ((hf 6 rfl).trans rfl) ⟨rfl, hM⟩⟩) ?_
 refine QE.op rfl rfl (.inl ⟨rfl, fun f' H' hf hM => AOp.not rfl ((hf 23 rfl).trans rfl) ⟨rfl, hM⟩⟩) ?_
 refine QE.op rfl rfl (.inl ⟨rfl, fun f' H' hf hM => AOp.move _ rfl ((hf 24 rfl).trans rfl) ⟨rfl, hM⟩⟩) ?_
 refine QE.op rfl rfl (QOp.no rfl rfl rfl rfl (ble_of rfl (by decide)) rfl) ?_
 refine QE.op rfl rfl (QOp.no rfl rfl rfl rfl (ble_of rfl (by decide)) rfl) ?_
 refine QE.op rfl rfl (QOp.no rfl rfl rfl rfl (ble_of rfl (by decide)) rfl) ?_
 refine QE.op rfl rfl (QOp.no rfl rfl rfl rfl (ble_of rfl (by decide)) rfl) ?_
 refine QE.op rfl rfl (QOp.no rfl rfl rfl rfl (ble_of rfl (by decide)) rfl) ?_
 refine QE.op rfl rfl (QOp.no rfl rfl rfl rfl (ble_of rfl (by decide)) rfl) ?_
 refine QE.op rfl rfl (QOp.no rfl rfl rfl rfl (ble_of rfl (by decide)) rfl) ?_
 refine QE.op rfl rfl (QOp.no rfl rfl rfl rfl (ble_of rfl (by decide)) rfl) ?_
 refine QE.op rfl rfl (QOp.no rfl rfl rfl rfl (ble_of rfl (by decide)) rfl) ?_
 refine QE.op rfl rfl (QOp.no rfl rfl rfl rfl (ble_of rfl (by decide)) rfl) ?_
 refine QE.op rfl rfl (QOp.no rfl rfl rfl rfl (ble_of rfl (by decide)) rfl) ?_
 refine QE.op rfl rfl (.inl ⟨rfl, fun f' H' hf hM => AOp.pickT _ rfl ((hf 25 rfl).trans rfl) rfl rfl ⟨rfl, hM⟩⟩) ?_
 refine QE.done fun H106 m107 => ?_
 have m111 := m105.trans m107
 refine AWP.condT rfl rfl ?_
 refine AWP.seq (AWP.region rfl ?_)
 refine AOps.cons rfl rfl (AOp.assign _ rfl rfl ?_)
 refine AWP.ret ?_
 exact ⟨_, _, Ghost.refl, .inr rfl, _, Res.one rfl rfl, .inr ⟨10, (tex_eq s w).trans (gT (named1_T (by omega) (by omega) b8) (gF (hb9))), m111, rfl⟩⟩
 refine AWP.condT rfl (nb b8) ?_
 refine AWP.seq (AWP.region rfl ?_)
 refine AOps.cons rfl rfl (AOp.assign _ rfl rfl ?_)
 refine AWP.ret ?_
 exact ⟨_, _, Ghost.refl, .inr rfl, _, Res.one rfl rfl, .inr ⟨10, (tex_eq s w).trans (gF (named1_F (by omega) b8)), m7, rfl⟩⟩
theorem c_rmaterial {B H0 : Heap} {id ver : Nat} {s : Rd} (hm : Mono B H0) (hs : RD B H0 id ver s) (ok : RdOk s) (w : List ByteArray) (hw : w.length ≤ 1048576) (hne : 0 < w.length) : ACalls Tryz.prog 45 [.ptr id ver 0, .sl w.length (w.map eStr)] H0 fun r H' => (∃ t, materialP s (w.drop 1) = .ok t ∧ RD B H' id ver t ∧ Mono B H' ∧ r = .int .i64 0) ∨ ∃ k, materialP s (w.drop 1) = .error k ∧ Mono B H' ∧ r = .int .i64 k := by
 obtain ⟨vL, vM, vT, vS, vC, vV, vF, vK, hrow, hB, hg, hn⟩ := hs
 obtain ⟨oM', ogM, spM⟩ := hg.at 1 rfl
 have oM : Own B H0 9 vM s.mats.length (s.mats.flatMap eMat) := oM'
 have nM : NotId vM id := hn.at 1 rfl
 have ngM := hn.erase 1
 refine ACalls.of_body' (n := 103) rfl rfl rfl rfl ?_
 have m0 := hm
 refine AWP.seq ?_
 refine AWP.region (l := [0]) rfl ?_
 refine AOps.cons rfl rfl (AOp.assign (.int .i64 0) rfl rfl ?_)
 refine AOps.nil ?_
 change AWP _ _ _ _ _ _
 refine AWP.seq ?_
 refine AWP.seq ?_
 refine AWP.region (l := [0, 1, 2, 3, 4, 5, 6, 7, 8, 9]) rfl ?_
 refine AOps.cons rfl rfl (AOp.move (.sl w.length (w.map eStr)) rfl rfl ?_)
 refine AOps.cons rfl rfl (AOp.len (m := w.length) rfl rfl (.inr (.inl ⟨_, rfl⟩)) u_57 ?_)
 refine AOps.cons rfl rfl (AOp.bin (.bool (!decide ((w.length : Int) = 10))) rfl rfl rfl ine ?_)
 refine AOps.cons rfl rfl (AOp.move (.bool (!decide ((w.length : Int) = 10))) rfl rfl ?_)
 by_cases b1 : (w.length : Int) = 10
 ·
  refine AOps.yes rfl rfl rfl rfl rfl rfl rfl (nb (decide_eq_true b1)) (AOp.move (.sl w.length (w.map eStr)) rfl rfl ?_)
  refine AOps.yes rfl rfl rfl rfl rfl rfl rfl (nb (decide_eq_true b1)) (AOp.indexAddrS rfl rfl rfl sl_57 (by omega) (by omega) ?_)
  refine AOps.yes rfl rfl rfl rfl rfl rfl rfl (nb (decide_eq_true b1)) (AOp.loadF (.str (at_ w 1)) rfl rfl ty_9 (ld1 (by omega) (by omega)) ?_)
  refine AOps.yes rfl rfl rfl rfl rfl rfl rfl (nb (decide_eq_true b1)) (AOp.pcall («as» := [.str (at_ w 1)]) rfl rfl (rfl) tf_92 (c_ref_Name _) ?_)
  intro H2 m3
  have h4 := m3 _ _ hrow
  have o5 := Own.mono oM m3
  have o6 := MO.mono ogM m3
  have m7 := m0.trans m3
  refine AOps.yes rfl rfl rfl rfl rfl rfl rfl (nb (decide_eq_true b1)) (AOp.not rfl rfl ?_)
  refine AOps.cons rfl rfl (AOp.pickF (.bool (!(nameB (at_ w 1)))) rfl rfl (nb (decide_eq_true b1)) rfl ?_)
  refine AOps.nil ?_
  change AWP _ _ _ _ _ _
  rcases Bool.eq_false_or_eq_true (nameB (at_ w 1)) with b8 | b8
  ·
   refine AWP.condF rfl (nb b8) ?_
   refine AWP.skip ?_
   change AWP _ _ _ _ _ _
   refine AWP.seq ?_
   refine AWP.region (l := [0, 1, 2, 3, 4, 5, 6, 7]) rfl ?_
   refine AOps.cons rfl rfl (AOp.move (.sl w.length (w.map eStr)) rfl rfl ?_)
   refine AOps.cons rfl rfl (AOp.sliceSD1 (xs := w) (l := 2) (h := (w.length : Int)) rfl rfl  sl_57 (lo_of rfl) rfl (by first | omega | (simp; omega)) (by first | omega | (simp; omega)) (by first | omega | (simp; omega)) rfl ?_)
   rcases Bool.eq_false_or_eq_true (numsB (w.drop 2)) with hb9 | hb9
   ·
    refine AOps.cons rfl rfl (AOp.pcall («as» := [.sl (w.drop 2).length ((w.drop 2).map eStr)]) rfl rfl (rfl) tf_88 (c_rnumbers_T hb9 (w.drop 2) (by first | omega | assumption | (simp only [List.length_drop, List.length_take]; omega) | (simp; omega) | simp)) ?_)
    intro H10 m11
    have h12 := m11 _ _ h4
    have o13 := Own.mono o5 m11
    have o14 := MO.mono o6 m11
    have m15 := m7.trans m11
    have hl16 := numsL_len (w.drop 2)
    simp only [List.length_drop] at hl16
    refine AOps.cons rfl rfl (AOp.move (.tup [.sl (numsL (w.drop 2)).length ((numsL (w.drop 2)).map eI), .bool true]) rfl rfl ?_)
    refine AOps.cons rfl rfl (AOp.extract (.sl (numsL (w.drop 2)).length ((numsL (w.drop 2)).map eI)) rfl rfl rfl ?_)
    refine AOps.cons rfl rfl (AOp.extract (.bool true) rfl rfl rfl ?_)
    refine AOps.cons rfl rfl (AOp.assign (.sl (numsL (w.drop 2)).length ((numsL (w.drop 2)).map eI)) rfl rfl ?_)
    refine AOps.cons rfl rfl (AOp.assign (.bool true) rfl rfl ?_)
    refine AOps.nil ?_
    change AWP _ _ _ _ _ _
    refine AWP.seq ?_
    refine AWP.seq ?_
    refine AWP.region (l := [0, 1]) rfl ?_
    refine AOps.cons rfl rfl (AOp.move (.bool true) rfl rfl ?_)
    refine AOps.cons rfl rfl (AOp.not rfl rfl ?_)
    refine AOps.nil ?_
    change AWP _ _ _ _ _ _
    refine AWP.condF rfl rfl ?_
    refine AWP.skip ?_
    change AWP _ _ _ _ _ _
    refine AWP.seq ?_
    refine AWP.seq ?_
    refine AWP.region (l := [0, 1, 2, 3, 4, 5, 6]) rfl ?_
    refine AOps.cons rfl rfl (AOp.move (.ptr id ver 0) rfl rfl ?_)
    refine AOps.cons rfl rfl (AOp.nilCheck (.ptr id ver 0) rfl rfl rfl ?_)
    refine AOps.cons rfl rfl (AOp.fieldAddr rfl rfl fl_63_0 ?_ (hid := ⟨_, h12⟩))
    refine AOps.cons rfl rfl (AOp.fieldAddr rfl rfl fl_35_3 ?_ (hid := ⟨_, h12⟩))
    refine AOps.cons rfl rfl (AOp.load (vM) rfl rfl ty_30 h12 rfl ?_)
    refine AOps.cons rfl rfl (AOp.len_own (m := s.mats.length) rfl rfl o13 u_30 ?_)
    refine AOps.cons rfl rfl (AOp.bin (.bool (decide ((s.mats.length : Int) ≥ 8))) rfl rfl rfl rfl ?_)
    refine AOps.nil ?_
    change AWP _ _ _ _ _ _
    by_cases b17 : (s.mats.length : Int) ≥ 8
    ·
     refine AWP.condT rfl (decide_eq_true b17) ?_
     refine AWP.seq ?_
     refine AWP.region (l := [0]) rfl ?_
     refine AOps.cons rfl rfl (AOp.assign (.int .i64 13) rfl rfl ?_)
     refine AOps.nil ?_
     change AWP _ _ _ _ _ _
     refine AWP.ret ?_
     exact ⟨_, _, Ghost.refl, .inr rfl, _, Res.one rfl rfl, .inr ⟨13, (mat_eq s w).trans (gT (named1_T (by omega) (by omega) b8) (gT (cnt_T (numsL_len _) hb9 (by omega)) (gF (decide_eq_false (by omega))))), m15, rfl⟩⟩
    ·
     refine AWP.condF rfl (decide_eq_false b17) ?_
     refine AWP.skip ?_
     change AWP _ _ _ _ _ _
     refine AWP.seq ?_
     refine AWP.seq ?_
     refine AWP.region (l := [0, 1, 2, 3, 4, 5]) rfl ?_
     refine AOps.cons rfl rfl (AOp.move (.ptr id ver 0) rfl rfl ?_)
     refine AOps.cons rfl rfl (AOp.move (.sl w.length (w.map eStr)) rfl rfl ?_)
     refine AOps.cons rfl rfl (AOp.indexAddrS rfl rfl rfl sl_57 (by omega) (by omega) ?_)
     refine AOps.cons rfl rfl (AOp.loadF (.str (at_ w 1)) rfl rfl ty_9 (ld1 (by omega) (by omega)) ?_)
     refine AOps.cons rfl rfl (AOp.pcallH («as» := [.ptr id ver 0, .str (at_ w 1)]) rfl rfl (rfl) tf_94 ((c_rMat (B := B) m15 hB h12 o13 nM (by have := ok.m; omega) (at_ w 1))) ?_)
     intro H18 m19
     have h20 := m19 _ _ h12
     have o21 := Own.mono o13 m19
     have o22 := MO.mono o14 m19
     have m23 := m15.trans m19
     refine AOps.cons rfl rfl (AOp.bin (.bool (decide (matX s (at_ w 1) ≥ 0))) rfl rfl rfl rfl ?_)
     refine AOps.nil ?_
     change AWP _ _ _ _ _ _
     by_cases b24 : matX s (at_ w 1) ≥ 0
     ·
      refine AWP.condT rfl (decide_eq_true b24) ?_
      refine AWP.seq ?_
      refine AWP.region (l := [0]) rfl ?_
      refine AOps.cons rfl rfl (AOp.assign (.int .i64 12) rfl rfl ?_)
      refine AOps.nil ?_
      change AWP _ _ _ _ _ _
      refine AWP.ret ?_
      exact ⟨_, _, Ghost.refl, .inr rfl, _, Res.one rfl rfl, .inr ⟨12, (mat_eq s w).trans (gT (named1_T (by omega) (by omega) b8) (gT (cnt_T (numsL_len _) hb9 (by omega)) (gT (decide_eq_true (by omega)) (gF (decide_eq_false (by omega)))))), m23, rfl⟩⟩
     ·
      refine AWP.condF rfl (decide_eq_false b24) ?_
      refine AWP.skip ?_
      change AWP _ _ _ _ _ _
      refine AWP.seq ?_
      refine AWP.seq ?_
      have h5_ := nums_rng (w.drop 2) 5 (by omega) (by omega)
      have h6_ := nums_rng (w.drop 2) 6 (by omega) (by omega)
      refine AWP.region_quiet mixed (by kernel_rfl) 33 [] rfl (by kernel_rfl) (Mono H18) (Mono.refl _) ?_
      refine QE.op rfl rfl (.inl ⟨rfl, fun f' H' hf hM => AOp.move (.sl (numsL (w.drop 2)).length ((numsL (w.drop 2)).map eI)) rfl ((hf 5 rfl).trans rfl) ⟨rfl, hM⟩⟩) ?_
      refine QE.op rfl rfl (.inl ⟨rfl, fun f' H' hf hM => AOp.pcall («as» := [.sl (numsL (w.drop 2)).length ((numsL (w.drop 2)).map eI), .int .i64 0, .int .i64 3, .int .i64 0, .int .i64 255]) rfl rfl (lapp (lcons ((hf 38 rfl).trans rfl) (lcons rfl (lcons rfl (lcons rfl (lcons rfl rfl))))) rfl) tf_89 (c_rwithin (numsL (w.drop 2)) (0 : Int) (3 : Int) 0 255 (by omega) (by omega) (by omega) (by omega)) fun H2 m2 => ⟨rfl, hM.trans m2⟩⟩) ?_
      refine QE.op rfl rfl (.inl ⟨rfl, fun f' H' hf hM => AOp.not rfl ((hf 39 rfl).trans rfl) ⟨rfl, hM⟩⟩) ?_
      refine QE.op rfl rfl (.inl ⟨rfl, fun f' H' hf hM => AOp.move (.bool (!(inB 0 255 ((numsL (w.drop 2)).take 3)))) rfl ((hf 40 rfl).trans rfl) ⟨rfl, hM⟩⟩) ?_
      rcases Bool.eq_false_or_eq_true (inB 0 255 ((numsL (w.drop 2)).take 3)) with b25 | b25
      ·
       refine QE.op rfl rfl (QOp.yes rfl rfl rfl rfl (nb b25) fun f' H' hf hM => AOp.move (.sl (numsL (w.drop 2)).length ((numsL (w.drop 2)).map eI)) rfl ((hf 5 rfl).trans rfl) ⟨rfl, hM⟩) ?_
       refine QE.op rfl rfl (QOp.yes rfl rfl rfl rfl (nb b25) fun f' H' hf hM => AOp.pcall («as» := [.sl (numsL (w.drop 2)).length ((numsL (w.drop 2)).map eI), .int .i64 3, .int .i64 4, .int .i64 0, .int .i64 256]) rfl rfl (lapp (lcons ((hf 42 rfl).trans rfl) (lcons rfl (lcons rfl (lcons rfl (lcons rfl rfl))))) rfl) tf_89 (c_rwithin1 (numsL (w.drop 2)) 3 4 0 256 (by omega) (by omega) (by omega) (by omega)) fun H2 m2 => ⟨rfl, hM.trans m2⟩) ?_
       refine QE.op rfl rfl (QOp.yes rfl rfl rfl rfl (nb b25) fun f' H' hf hM => AOp.not rfl ((hf 43 rfl).trans rfl) ⟨rfl, hM⟩) ?_
       refine QE.op rfl rfl (.inl ⟨rfl, fun f' H' hf hM => AOp.pickF (.bool (!(inB 0 256 [at_ (numsL (w.drop 2)) 3]))) rfl ((hf 41 rfl).trans rfl) (nb b25) ((hf 44 rfl).trans rfl) ⟨rfl, hM⟩⟩) ?_
       refine QE.op rfl rfl (.inl ⟨rfl, fun f' H' hf hM => AOp.move (.bool (!(inB 0 256 [at_ (numsL (w.drop 2)) 3]))) rfl ((hf 45 rfl).trans rfl) ⟨rfl, hM⟩⟩) ?_
       rcases Bool.eq_false_or_eq_true (inB 0 256 [at_ (numsL (w.drop 2)) 3]) with b26 | b26
       ·
        refine QE.op rfl rfl (QOp.yes rfl rfl rfl rfl (nb b26) fun f' H' hf hM => AOp.move (.sl (numsL (w.drop 2)).length ((numsL (w.drop 2)).map eI)) rfl ((hf 5 rfl).trans rfl) ⟨rfl, hM⟩) ?_
        refine QE.op rfl rfl (QOp.yes rfl rfl rfl rfl (nb b26) fun f' H' hf hM => AOp.pcall («as» := [.sl (numsL (w.drop 2)).length ((numsL (w.drop 2)).map eI), .int .i64 4, .int .i64 5, .int .i64 1, .int .i64 64]) rfl rfl (lapp (lcons ((hf 47 rfl).trans rfl) (lcons rfl (lcons rfl (lcons rfl (lcons rfl rfl))))) rfl) tf_89 (c_rwithin1 (numsL (w.drop 2)) 4 5 1 64 (by omega) (by omega) (by omega) (by omega)) fun H2 m2 => ⟨rfl, hM.trans m2⟩) ?_
        refine QE.op rfl rfl (QOp.yes rfl rfl rfl rfl (nb b26) fun f' H' hf hM => AOp.not rfl ((hf 48 rfl).trans rfl) ⟨rfl, hM⟩) ?_
        refine QE.op rfl rfl (.inl ⟨rfl, fun f' H' hf hM => AOp.pickF (.bool (!(inB 1 64 [at_ (numsL (w.drop 2)) 4]))) rfl ((hf 46 rfl).trans rfl) (nb b26) ((hf 49 rfl).trans rfl) ⟨rfl, hM⟩⟩) ?_
        refine QE.op rfl rfl (.inl ⟨rfl, fun f' H' hf hM => AOp.move (.bool (!(inB 1 64 [at_ (numsL (w.drop 2)) 4]))) rfl ((hf 50 rfl).trans rfl) ⟨rfl, hM⟩⟩) ?_
        rcases Bool.eq_false_or_eq_true (inB 1 64 [at_ (numsL (w.drop 2)) 4]) with b27 | b27
        ·
         refine QE.op rfl rfl (QOp.yes rfl rfl rfl rfl (nb b27) fun f' H' hf hM => AOp.move (.sl (numsL (w.drop 2)).length ((numsL (w.drop 2)).map eI)) rfl ((hf 5 rfl).trans rfl) ⟨rfl, hM⟩) ?_
         refine QE.op rfl rfl (QOp.yes rfl rfl rfl rfl (nb b27) fun f' H' hf hM => AOp.pcall («as» := [.sl (numsL (w.drop 2)).length ((numsL (w.drop 2)).map eI), .int .i64 5, .int .i64 7, .int .i64 0, .int .i64 256]) rfl rfl (lapp (lcons ((hf 52 rfl).trans rfl) (lcons rfl (lcons rfl (lcons rfl (lcons rfl rfl))))) rfl) tf_89 (c_rwithin (numsL (w.drop 2)) (5 : Int) (7 : Int) 0 256 (by omega) (by omega) (by omega) (by omega)) fun H2 m2 => ⟨rfl, hM.trans m2⟩) ?_
         refine QE.op rfl rfl (QOp.yes rfl rfl rfl rfl (nb b27) fun f' H' hf hM => AOp.not rfl ((hf 53 rfl).trans rfl) ⟨rfl, hM⟩) ?_
         refine QE.op rfl rfl (.inl ⟨rfl, fun f' H' hf hM => AOp.pickF (.bool (!(inB 0 256 (((numsL (w.drop 2)).drop 5).take 2)))) rfl ((hf 51 rfl).trans rfl) (nb b27) ((hf 54 rfl).trans rfl) ⟨rfl, hM⟩⟩) ?_
         refine QE.op rfl rfl (.inl ⟨rfl, fun f' H' hf hM => AOp.move (.bool (!(inB 0 256 (((numsL (w.drop 2)).drop 5).take 2)))) rfl ((hf 55 rfl).trans rfl) ⟨rfl, hM⟩⟩) ?_
         rcases Bool.eq_false_or_eq_true (inB 0 256 (((numsL (w.drop 2)).drop 5).take 2)) with b28 | b28
         ·
          refine QE.op rfl rfl (QOp.yes rfl rfl rfl rfl (nb b28) fun f' H' hf hM => AOp.move (.sl (numsL (w.drop 2)).length ((numsL (w.drop 2)).map eI)) rfl ((hf 5 rfl).trans rfl) ⟨rfl, hM⟩) ?_
          refine QE.op rfl rfl (QOp.yes rfl rfl rfl rfl (nb b28) fun f' H' hf hM => AOp.indexAddrS rfl ((hf 57 rfl).trans rfl) rfl sl_68 (by omega) (by omega) ⟨rfl, hM⟩) ?_
          refine QE.op rfl rfl (QOp.yes rfl rfl rfl rfl (nb b28) fun f' H' hf hM => AOp.loadF (.int .i64 (at_ (numsL (w.drop 2)) 5)) rfl ((hf 58 rfl).trans rfl) ty_3 (ld1 (by omega) (by omega)) ⟨rfl, hM⟩) ?_
          refine QE.op rfl rfl (QOp.yes rfl rfl rfl rfl (nb b28) fun f' H' hf hM => AOp.move (.sl (numsL (w.drop 2)).length ((numsL (w.drop 2)).map eI)) rfl ((hf 5 rfl).trans rfl) ⟨rfl, hM⟩) ?_
          refine QE.op rfl rfl (QOp.yes rfl rfl rfl rfl (nb b28) fun f' H' hf hM => AOp.indexAddrS rfl ((hf 60 rfl).trans rfl) rfl sl_68 (by omega) (by omega) ⟨rfl, hM⟩) ?_
          refine QE.op rfl rfl (QOp.yes rfl rfl rfl rfl (nb b28) fun f' H' hf hM => AOp.loadF (.int .i64 (at_ (numsL (w.drop 2)) 6)) rfl ((hf 61 rfl).trans rfl) ty_3 (ld1 (by omega) (by omega)) ⟨rfl, hM⟩) ?_
          refine QE.op rfl rfl (QOp.yes rfl rfl rfl rfl (nb b28) fun f' H' hf hM => AOp.bin (.int .i64 (at_ (numsL (w.drop 2)) 5 + (at_ (numsL (w.drop 2)) 6))) rfl ((hf 59 rfl).trans rfl) ((hf 62 rfl).trans rfl) (iadd (by omega)) ⟨rfl, hM⟩) ?_
          refine QE.op rfl rfl (QOp.yes rfl rfl rfl rfl (nb b28) fun f' H' hf hM => AOp.bin (.bool (decide (at_ (numsL (w.drop 2)) 5 + (at_ (numsL (w.drop 2)) 6) > 256))) rfl ((hf 63 rfl).trans rfl) rfl rfl ⟨rfl, hM⟩) ?_
          refine QE.op rfl rfl (.inl ⟨rfl, fun f' H' hf hM => AOp.pickF (.bool (decide (at_ (numsL (w.drop 2)) 5 + (at_ (numsL (w.drop 2)) 6) > 256))) rfl ((hf 56 rfl).trans rfl) (nb b28) ((hf 64 rfl).trans rfl) ⟨rfl, hM⟩⟩) ?_
          refine QE.op rfl rfl (.inl ⟨rfl, fun f' H' hf hM => AOp.move (.bool (decide (at_ (numsL (w.drop 2)) 5 + (at_ (numsL (w.drop 2)) 6) > 256))) rfl ((hf 65 rfl).trans rfl) ⟨rfl, hM⟩⟩) ?_
          by_cases b29 : at_ (numsL (w.drop 2)) 5 + (at_ (numsL (w.drop 2)) 6) > 256
          ·
           refine QE.op rfl rfl (QOp.no rfl rfl rfl rfl (ble_of (decide_eq_true b29) (by decide)) rfl) ?_
           refine QE.op rfl rfl (QOp.no rfl rfl rfl rfl (ble_of (decide_eq_true b29) (by decide)) rfl) ?_
           refine QE.op rfl rfl (QOp.no rfl rfl rfl rfl (ble_of (decide_eq_true b29) (by decide)) rfl) ?_
           refine QE.op rfl rfl (.inl ⟨rfl, fun f' H' hf hM => AOp.pickT (.bool true) rfl ((hf 66 rfl).trans rfl) (decide_eq_true b29) rfl ⟨rfl, hM⟩⟩) ?_
           refine QE.done fun H30 m31 => ?_
           have h32 := m31 _ _ h20
           have o33 := Own.mono o21 m31
           have o34 := MO.mono o22 m31
           have m35 := m23.trans m31
           refine AOps.nil ?_
           change AWP _ _ _ _ _ _
           refine AWP.condT rfl rfl ?_
           refine AWP.seq ?_
           refine AWP.region (l := [0]) rfl ?_
           refine AOps.cons rfl rfl (AOp.assign (.int .i64 11) rfl rfl ?_)
           refine AOps.nil ?_
           change AWP _ _ _ _ _ _
           refine AWP.ret ?_
           exact ⟨_, _, Ghost.refl, .inr rfl, _, Res.one rfl rfl, .inr ⟨11, (mat_eq s w).trans ((mat_in (k := 0) (t := s) (named1_T (by omega) (by omega) b8) (cnt_T (numsL_len _) hb9 (by omega)) (by omega) (by omega)).2 (by simp [b25, b26, b27, b28, b29])), m35, rfl⟩⟩
          ·
           refine QE.op rfl rfl (QOp.yes rfl rfl rfl rfl (decide_eq_false b29) fun f' H' hf hM => AOp.move (.sl (numsL (w.drop 2)).length ((numsL (w.drop 2)).map eI)) rfl ((hf 5 rfl).trans rfl) ⟨rfl, hM⟩) ?_
           refine QE.op rfl rfl (QOp.yes rfl rfl rfl rfl (decide_eq_false b29) fun f' H' hf hM => AOp.pcall («as» := [.sl (numsL (w.drop 2)).length ((numsL (w.drop 2)).map eI), .int .i64 7, .int .i64 8, .int .i64 64, .int .i64 1024]) rfl rfl (lapp (lcons ((hf 67 rfl).trans rfl) (lcons rfl (lcons rfl (lcons rfl (lcons rfl rfl))))) rfl) tf_89 (c_rwithin1 (numsL (w.drop 2)) 7 8 64 1024 (by omega) (by omega) (by omega) (by omega)) fun H2 m2 => ⟨rfl, hM.trans m2⟩) ?_
           refine QE.op rfl rfl (QOp.yes rfl rfl rfl rfl (decide_eq_false b29) fun f' H' hf hM => AOp.not rfl ((hf 68 rfl).trans rfl) ⟨rfl, hM⟩) ?_
           refine QE.op rfl rfl (.inl ⟨rfl, fun f' H' hf hM => AOp.pickF (.bool (!(inB 64 1024 [at_ (numsL (w.drop 2)) 7]))) rfl ((hf 66 rfl).trans rfl) (decide_eq_false b29) ((hf 69 rfl).trans rfl) ⟨rfl, hM⟩⟩) ?_
           refine QE.done fun H36 m37 => ?_
           have h38 := m37 _ _ h20
           have o39 := Own.mono o21 m37
           have o40 := MO.mono o22 m37
           have m41 := m23.trans m37
           refine AOps.nil ?_
           change AWP _ _ _ _ _ _
           rcases Bool.eq_false_or_eq_true (inB 64 1024 [at_ (numsL (w.drop 2)) 7]) with b42 | b42
           ·
            refine AWP.condF rfl (nb b42) ?_
            refine AWP.skip ?_
            change AWP _ _ _ _ _ _
            refine AWP.seq ?_
            refine AWP.region_str mixed (by kernel_rfl) [(0, none), (1, none), (2, none), (3, none), (4, none), (5, none), (6, none), (7, none), (8, none), (9, none), (10, none), (11, none), (12, none), (13, none), (14, none), (15, none), (16, none), (17, none), (18, none), (19, none), (20, none), (21, none), (22, none), (23, none), (24, none), (25, none), (26, none), (27, some [0, 1, 2, 3, 4, 5]), (28, some [0])] [29, 30, 31, 32] (by kernel_rfl) ?_
            refine STR.op rfl rfl (.inl ⟨rfl, fun H1 f' H' hf hN hM => AOp.move (.ptr id ver 0) rfl ((hf 0 rfl).trans rfl) ⟨rfl, hN⟩⟩) ?_
            refine STR.op rfl rfl (.inl ⟨rfl, fun H1 f' H' hf hN hM => AOp.move (.ptr id ver 0) rfl ((hf 0 rfl).trans rfl) ⟨rfl, hN⟩⟩) ?_
            refine STR.op rfl rfl (.inl ⟨rfl, fun H1 f' H' hf hN hM => AOp.nilCheck (.ptr id ver 0) rfl ((hf 72 rfl).trans rfl) rfl ⟨rfl, hN⟩⟩) ?_
            refine STR.op rfl rfl (.inl ⟨rfl, fun H1 f' H' hf hN hM => AOp.fieldAddr rfl ((hf 73 rfl).trans rfl) fl_63_0 ⟨rfl, hN⟩ (hid := ⟨_, (hM _ _ h38)⟩)⟩) ?_
            refine STR.op rfl rfl (.inl ⟨rfl, fun H1 f' H' hf hN hM => AOp.fieldAddr rfl ((hf 74 rfl).trans rfl) fl_35_3 ⟨rfl, hN⟩ (hid := ⟨_, (hM _ _ h38)⟩)⟩) ?_
            refine STR.op rfl rfl (.inl ⟨rfl, fun H1 f' H' hf hN hM => AOp.load (vM) rfl ((hf 75 rfl).trans rfl) ty_30 (hM _ _ h38) rfl ⟨rfl, hN⟩⟩) ?_
            refine STR.op rfl rfl (.inl ⟨rfl, fun H1 f' H' hf hN hM => AOp.move (.sl w.length (w.map eStr)) rfl ((hf 1 rfl).trans rfl) ⟨rfl, hN⟩⟩) ?_
            refine STR.op rfl rfl (.inl ⟨rfl, fun H1 f' H' hf hN hM => AOp.indexAddrS rfl ((hf 77 rfl).trans rfl) rfl sl_57 (by omega) (by omega) ⟨rfl, hN⟩⟩) ?_
            refine STR.op rfl rfl (.inl ⟨rfl, fun H1 f' H' hf hN hM => AOp.loadF (.str (at_ w 1)) rfl ((hf 78 rfl).trans rfl) ty_9 (ld1 (by omega) (by omega)) ⟨rfl, hN⟩⟩) ?_
            refine STR.op rfl rfl (.inl ⟨rfl, fun H1 f' H' hf hN hM => AOp.move (.sl (numsL (w.drop 2)).length ((numsL (w.drop 2)).map eI)) rfl ((hf 5 rfl).trans rfl) ⟨rfl, hN⟩⟩) ?_
            refine STR.op rfl rfl (.inl ⟨rfl, fun H1 f' H' hf hN hM => AOp.pcall («as» := [.sl (numsL (w.drop 2)).length ((numsL (w.drop 2)).map eI), .int .i64 0]) rfl rfl (lapp (lcons ((hf 80 rfl).trans rfl) (lcons rfl rfl)) rfl) tf_91 (c_rcolor (numsL (w.drop 2)) 0 (by omega) (by omega) (by omega)) fun H2 m2 => ⟨rfl, hN.trans m2⟩⟩) ?_
            refine STR.op rfl rfl (.inl ⟨rfl, fun H1 f' H' hf hN hM => AOp.move (.sl (numsL (w.drop 2)).length ((numsL (w.drop 2)).map eI)) rfl ((hf 5 rfl).trans rfl) ⟨rfl, hN⟩⟩) ?_
            refine STR.op rfl rfl (.inl ⟨rfl, fun H1 f' H' hf hN hM => AOp.indexAddrS rfl ((hf 82 rfl).trans rfl) rfl sl_68 (by omega) (by omega) ⟨rfl, hN⟩⟩) ?_
            refine STR.op rfl rfl (.inl ⟨rfl, fun H1 f' H' hf hN hM => AOp.loadF (.int .i64 (at_ (numsL (w.drop 2)) 3)) rfl ((hf 83 rfl).trans rfl) ty_3 (ld1 (by omega) (by omega)) ⟨rfl, hN⟩⟩) ?_
            refine STR.op rfl rfl (.inl ⟨rfl, fun H1 f' H' hf hN hM => AOp.move (.sl (numsL (w.drop 2)).length ((numsL (w.drop 2)).map eI)) rfl ((hf 5 rfl).trans rfl) ⟨rfl, hN⟩⟩) ?_
            refine STR.op rfl rfl (.inl ⟨rfl, fun H1 f' H' hf hN hM => AOp.indexAddrS rfl ((hf 85 rfl).trans rfl) rfl sl_68 (by omega) (by omega) ⟨rfl, hN⟩⟩) ?_
            refine STR.op rfl rfl (.inl ⟨rfl, fun H1 f' H' hf hN hM => AOp.loadF (.int .i64 (at_ (numsL (w.drop 2)) 4)) rfl ((hf 86 rfl).trans rfl) ty_3 (ld1 (by omega) (by omega)) ⟨rfl, hN⟩⟩) ?_
            refine STR.op rfl rfl (.inl ⟨rfl, fun H1 f' H' hf hN hM => AOp.move (.sl (numsL (w.drop 2)).length ((numsL (w.drop 2)).map eI)) rfl ((hf 5 rfl).trans rfl) ⟨rfl, hN⟩⟩) ?_
            refine STR.op rfl rfl (.inl ⟨rfl, fun H1 f' H' hf hN hM => AOp.indexAddrS rfl ((hf 88 rfl).trans rfl) rfl sl_68 (by omega) (by omega) ⟨rfl, hN⟩⟩) ?_
            refine STR.op rfl rfl (.inl ⟨rfl, fun H1 f' H' hf hN hM => AOp.loadF (.int .i64 (at_ (numsL (w.drop 2)) 5)) rfl ((hf 89 rfl).trans rfl) ty_3 (ld1 (by omega) (by omega)) ⟨rfl, hN⟩⟩) ?_
            refine STR.op rfl rfl (.inl ⟨rfl, fun H1 f' H' hf hN hM => AOp.move (.sl (numsL (w.drop 2)).length ((numsL (w.drop 2)).map eI)) rfl ((hf 5 rfl).trans rfl) ⟨rfl, hN⟩⟩) ?_
            refine STR.op rfl rfl (.inl ⟨rfl, fun H1 f' H' hf hN hM => AOp.indexAddrS rfl ((hf 91 rfl).trans rfl) rfl sl_68 (by omega) (by omega) ⟨rfl, hN⟩⟩) ?_
            refine STR.op rfl rfl (.inl ⟨rfl, fun H1 f' H' hf hN hM => AOp.loadF (.int .i64 (at_ (numsL (w.drop 2)) 6)) rfl ((hf 92 rfl).trans rfl) ty_3 (ld1 (by omega) (by omega)) ⟨rfl, hN⟩⟩) ?_
            refine STR.op rfl rfl (.inl ⟨rfl, fun H1 f' H' hf hN hM => AOp.move (.sl (numsL (w.drop 2)).length ((numsL (w.drop 2)).map eI)) rfl ((hf 5 rfl).trans rfl) ⟨rfl, hN⟩⟩) ?_
            refine STR.op rfl rfl (.inl ⟨rfl, fun H1 f' H' hf hN hM => AOp.indexAddrS rfl ((hf 94 rfl).trans rfl) rfl sl_68 (by omega) (by omega) ⟨rfl, hN⟩⟩) ?_
            refine STR.op rfl rfl (.inl ⟨rfl, fun H1 f' H' hf hN hM => AOp.loadF (.int .i64 (at_ (numsL (w.drop 2)) 7)) rfl ((hf 95 rfl).trans rfl) ty_3 (ld1 (by omega) (by omega)) ⟨rfl, hN⟩⟩) ?_
            refine STR.op rfl rfl (.inl ⟨rfl, fun H1 f' H' hf hN hM => AOp.build (cells := [.str (at_ w 1), .int .i64 ((colR (numsL (w.drop 2))).R), .int .i64 ((colR (numsL (w.drop 2))).G), .int .i64 ((colR (numsL (w.drop 2))).B), .int .i64 (at_ (numsL (w.drop 2)) 3), .int .i64 (at_ (numsL (w.drop 2)) 4), .int .i64 (at_ (numsL (w.drop 2)) 5), .int .i64 (at_ (numsL (w.drop 2)) 6), .int .i64 (at_ (numsL (w.drop 2)) 7)]) rfl tz_67 pl_67 (lconsP ((hf 79 rfl).trans rfl) (lconsP ((hf 81 rfl).trans rfl) (lconsP ((hf 84 rfl).trans rfl) (lconsP ((hf 87 rfl).trans rfl) (lconsP ((hf 90 rfl).trans rfl) (lconsP ((hf 93 rfl).trans rfl) (lconsP ((hf 96 rfl).trans rfl) rfl))))))) rfl ⟨rfl, hN⟩⟩) ?_
            refine STR.eff rfl rfl rfl fun f43 H44 hf45 m46 => ?_
            have h47 := m46 _ _ h38
            have o48 := Own.mono o39 m46
            have o49 := MO.mono o40 m46
            have m50 := m41.trans m46
            refine AOp.buildSlice (cells := [.str (at_ w 1), .int .i64 ((colR (numsL (w.drop 2))).R), .int .i64 ((colR (numsL (w.drop 2))).G), .int .i64 ((colR (numsL (w.drop 2))).B), .int .i64 (at_ (numsL (w.drop 2)) 3), .int .i64 (at_ (numsL (w.drop 2)) 4), .int .i64 (at_ (numsL (w.drop 2)) 5), .int .i64 (at_ (numsL (w.drop 2)) 6), .int .i64 (at_ (numsL (w.drop 2)) 7)]) rfl u_30 ts_67 tz_67 rfl (lconsP ((hf45 97 rfl).trans rfl) rfl) rfl ?_
            intro i51 H52 n53 h54 k55
            have e56 := ne_new h47 n53
            have z57 := Mono.free m50 n53
            have h58 := keep k55 (ne_new h47 n53) h47
            have o59 := Own.keep o48 k55 (Own.notnew o48 n53)
            have no60 := Own.notnew o48 n53
            have o61 := MO.keep o49 k55 (MO.notnew o49 n53)
            have no62 := MO.notnew o49 n53
            have m63 := Mono.new m50 n53 k55
            refine ⟨_, rfl, .inl (Mono.new (Mono.refl _) n53 k55), ?_⟩
            refine STR.eff rfl rfl rfl fun f64 H65 hf66 m67 => ?_
            have h68 := m67 _ _ h58
            have h69 := m67 _ _ h54
            have o70 := Own.mono o59 m67
            have o71 := MO.mono o61 m67
            have m72 := m63.trans m67
            refine AOp.append_own (es := 9) (m := 1) (len := s.mats.length) (old := s.mats.flatMap eMat) (cells := [.str (at_ w 1), .int .i64 ((colR (numsL (w.drop 2))).R), .int .i64 ((colR (numsL (w.drop 2))).G), .int .i64 ((colR (numsL (w.drop 2))).B), .int .i64 (at_ (numsL (w.drop 2)) 3), .int .i64 (at_ (numsL (w.drop 2)) 4), .int .i64 (at_ (numsL (w.drop 2)) 5), .int .i64 (at_ (numsL (w.drop 2)) 6), .int .i64 (at_ (numsL (w.drop 2)) 7)]) rfl u_30 ts_67 tzn_67 tb_67 (by decide) ni_30 ((hf66 76 rfl).trans rfl) o70 m72 ((hf66 98 rfl).trans rfl) (.slm h69 rfl) (one_of rfl) (by decide) (by first | omega | (simp; omega)) ?_
            intro v73 H74 o75 m76 k77 j78
            have o79 := Own.snocM (xs := (s.mats : List MatT)) (y := (MatT.mk (at_ w 1) (colR (numsL (w.drop 2))) (at_ (numsL (w.drop 2)) 3) (at_ (numsL (w.drop 2)) 4) (at_ (numsL (w.drop 2)) 5) (at_ (numsL (w.drop 2)) 6) (at_ (numsL (w.drop 2)) 7))) (e := eMat) (by simp) o75
            have h80 := (k77 _ nM (by rw [h68]; simp)).trans h68
            have no81 := j78 _ nM (by rw [h68]; simp)
            have sp83 := MO.sep o71 spM j78
            have o82 := MO.stay o71 spM k77
            refine ⟨_, rfl, .inr (RevR.skip rfl (RevR.skip rfl (RevR.skip rfl (RevR.skip rfl (RevR.skip rfl (RevR.skip rfl (RevR.skip rfl (RevR.skip rfl (RevR.skip rfl (RevR.skip rfl (RevR.skip rfl (RevR.skip rfl (RevR.skip rfl (RevR.skip rfl (RevR.skip rfl (RevR.skip rfl (RevR.skip rfl (RevR.skip rfl (RevR.skip rfl (RevR.skip rfl (RevR.skip rfl (RevR.skip rfl (RevR.skip rfl (RevR.skip rfl (RevR.skip rfl (RevR.skip rfl (RevR.skip rfl (RevR.cons rfl (.inl ⟨rfl, fun H1 f' H' hf hN hM => AOp.move (.ptr id ver 0) rfl ((hf 0 rfl).trans rfl) ⟨rfl, hN⟩⟩) RevR.nil)))))))))))))))))))))))))))), ?_⟩
            refine STR.done fun H84 m85 => ?_
            have h86 := m85 _ _ h80
            have o87 := MO.mono o82 m85
            have o88 := Own.mono o79 m85
            have m89 := m76.trans m85
            refine AOps.cons rfl rfl (AOp.nilCheck (.ptr id ver 0) rfl rfl rfl ?_)
            refine AOps.cons rfl rfl (AOp.fieldAddr rfl rfl fl_63_0 ?_ (hid := ⟨_, h86⟩))
            refine AOps.cons rfl rfl (AOp.fieldAddr rfl rfl fl_35_3 ?_ (hid := ⟨_, h86⟩))
            refine AOps.cons rfl rfl (AOp.storeO (cells' := rdC s.cam s.sky vL v73 vT vS vC s.hc s.hs) rfl rfl o88 ts_30 h86 rfl rfl ?_)
            intro H90 h91 k92
            have o94 := MO.keep o87 k92 ngM
            have o95 := Own.keep o88 k92 no81
            have m96 := Mono.set m89 hB k92
            refine AOps.nil ?_
            change AWP _ _ _ _ _ _
            refine AWP.seq ?_
            refine AWP.region (l := [0]) rfl ?_
            refine AOps.cons rfl rfl (AOp.assign (.int .i64 0) rfl rfl ?_)
            refine AOps.nil ?_
            change AWP _ _ _ _ _ _
            refine AWP.ret ?_
            exact ⟨_, _, Ghost.refl, .inr rfl, _, Res.one rfl rfl, .inl ⟨_, (mat_eq s w).trans ((mat_in (k := 0) (t := s) (named1_T (by omega) (by omega) b8) (cnt_T (numsL_len _) hb9 (by omega)) (by omega) (by omega)).1 ⟨b25, b26, b27, b28, b29, b42⟩), ⟨_, _, _, _, _, _, _, _, h91, hB, MO.put 1 (by simp [rdL]) o94 o95 sp83, NotIdM.put 1 ngM no81⟩, m96, rfl⟩⟩
           ·
            refine AWP.condT rfl (nb b42) ?_
            refine AWP.seq ?_
            refine AWP.region (l := [0]) rfl ?_
            refine AOps.cons rfl rfl (AOp.assign (.int .i64 11) rfl rfl ?_)
            refine AOps.nil ?_
            change AWP _ _ _ _ _ _
            refine AWP.ret ?_
            exact ⟨_, _, Ghost.refl, .inr rfl, _, Res.one rfl rfl, .inr ⟨11, (mat_eq s w).trans ((mat_in (k := 0) (t := s) (named1_T (by omega) (by omega) b8) (cnt_T (numsL_len _) hb9 (by omega)) (by omega) (by omega)).2 (by simp [b25, b26, b27, b28, b29, b42])), m41, rfl⟩⟩
         ·
          refine QE.op rfl rfl (QOp.no rfl rfl rfl rfl (ble_of (nb b28) (by decide)) rfl) ?_
          refine QE.op rfl rfl (QOp.no rfl rfl rfl rfl (ble_of (nb b28) (by decide)) rfl) ?_
          refine QE.op rfl rfl (QOp.no rfl rfl rfl rfl (ble_of (nb b28) (by decide)) rfl) ?_
          refine QE.op rfl rfl (QOp.no rfl rfl rfl rfl (ble_of (nb b28) (by decide)) rfl) ?_
          refine QE.op rfl rfl (QOp.no rfl rfl rfl rfl (ble_of (nb b28) (by decide)) rfl) ?_
          refine QE.op rfl rfl (QOp.no rfl rfl rfl rfl (ble_of (nb b28) (by decide)) rfl) ?_
          refine QE.op rfl rfl (QOp.no rfl rfl rfl rfl (ble_of (nb b28) (by decide)) rfl) ?_
          refine QE.op rfl rfl (QOp.no rfl rfl rfl rfl (ble_of (nb b28) (by decide)) rfl) ?_
          refine QE.op rfl rfl (.inl ⟨rfl, fun f' H' hf hM => AOp.pickT (.bool true) rfl ((hf 56 rfl).trans rfl) (nb b28) rfl ⟨rfl, hM⟩⟩) ?_
          refine QE.op rfl rfl (.inl ⟨rfl, fun f' H' hf hM => AOp.move (.bool true) rfl ((hf 65 rfl).trans rfl) ⟨rfl, hM⟩⟩) ?_
          refine QE.op rfl rfl (QOp.no rfl rfl rfl rfl (ble_of rfl (by decide)) rfl) ?_
          refine QE.op rfl rfl (QOp.no rfl rfl rfl rfl (ble_of rfl (by decide)) rfl) ?_
          refine QE.op rfl rfl (QOp.no rfl rfl rfl rfl (ble_of rfl (by decide)) rfl) ?_
          refine QE.op rfl rfl (.inl ⟨rfl, fun f' H' hf hM => AOp.pickT (.bool true) rfl ((hf 66 rfl).trans rfl) rfl rfl ⟨rfl, hM⟩⟩) ?_
          refine QE.done fun H97 m98 => ?_
          have h99 := m98 _ _ h20
          have o100 := Own.mono o21 m98
          have o101 := MO.mono o22 m98
          have m102 := m23.trans m98
          refine AOps.nil ?_
          change AWP _ _ _ _ _ _
          refine AWP.condT rfl rfl ?_
          refine AWP.seq ?_
          refine AWP.region (l := [0]) rfl ?_
          refine AOps.cons rfl rfl (AOp.assign (.int .i64 11) rfl rfl ?_)
          refine AOps.nil ?_
          change AWP _ _ _ _ _ _
          refine AWP.ret ?_
          exact ⟨_, _, Ghost.refl, .inr rfl, _, Res.one rfl rfl, .inr ⟨11, (mat_eq s w).trans ((mat_in (k := 0) (t := s) (named1_T (by omega) (by omega) b8) (cnt_T (numsL_len _) hb9 (by omega)) (by omega) (by omega)).2 (by simp [b25, b26, b27, b28])), m102, rfl⟩⟩
        ·
         refine QE.op rfl rfl (QOp.no rfl rfl rfl rfl (ble_of (nb b27) (by decide)) rfl) ?_
         refine QE.op rfl rfl (QOp.no rfl rfl rfl rfl (ble_of (nb b27) (by decide)) rfl) ?_
         refine QE.op rfl rfl (QOp.no rfl rfl rfl rfl (ble_of (nb b27) (by decide)) rfl) ?_
         refine QE.op rfl rfl (.inl ⟨rfl, fun f' H' hf hM => AOp.pickT (.bool true) rfl ((hf 51 rfl).trans rfl) (nb b27) rfl ⟨rfl, hM⟩⟩) ?_
         refine QE.op rfl rfl (.inl ⟨rfl, fun f' H' hf hM => AOp.move (.bool true) rfl ((hf 55 rfl).trans rfl) ⟨rfl, hM⟩⟩) ?_
         refine QE.op rfl rfl (QOp.no rfl rfl rfl rfl (ble_of rfl (by decide)) rfl) ?_
         refine QE.op rfl rfl (QOp.no rfl rfl rfl rfl (ble_of rfl (by decide)) rfl) ?_
         refine QE.op rfl rfl (QOp.no rfl rfl rfl rfl (ble_of rfl (by decide)) rfl) ?_
         refine QE.op rfl rfl (QOp.no rfl rfl rfl rfl (ble_of rfl (by decide)) rfl) ?_
         refine QE.op rfl rfl (QOp.no rfl rfl rfl rfl (ble_of rfl (by decide)) rfl) ?_
         refine QE.op rfl rfl (QOp.no rfl rfl rfl rfl (ble_of rfl (by decide)) rfl) ?_
         refine QE.op rfl rfl (QOp.no rfl rfl rfl rfl (ble_of rfl (by decide)) rfl) ?_
         refine QE.op rfl rfl (QOp.no rfl rfl rfl rfl (ble_of rfl (by decide)) rfl) ?_
         refine QE.op rfl rfl (.inl ⟨rfl, fun f' H' hf hM => AOp.pickT (.bool true) rfl ((hf 56 rfl).trans rfl) rfl rfl ⟨rfl, hM⟩⟩) ?_
         refine QE.op rfl rfl (.inl ⟨rfl, fun f' H' hf hM => AOp.move (.bool true) rfl ((hf 65 rfl).trans rfl) ⟨rfl, hM⟩⟩) ?_
         refine QE.op rfl rfl (QOp.no rfl rfl rfl rfl (ble_of rfl (by decide)) rfl) ?_
         refine QE.op rfl rfl (QOp.no rfl rfl rfl rfl (ble_of rfl (by decide)) rfl) ?_
         refine QE.op rfl rfl (QOp.no rfl rfl rfl rfl (ble_of rfl (by decide)) rfl) ?_
         refine QE.op rfl rfl (.inl ⟨rfl, fun f' H' hf hM => AOp.pickT (.bool true) rfl ((hf 66 rfl).trans rfl) rfl rfl ⟨rfl, hM⟩⟩) ?_
         refine QE.done fun H103 m104 => ?_
         have h105 := m104 _ _ h20
         have o106 := Own.mono o21 m104
         have o107 := MO.mono o22 m104
         have m108 := m23.trans m104
         refine AOps.nil ?_
         change AWP _ _ _ _ _ _
         refine AWP.condT rfl rfl ?_
         refine AWP.seq ?_
         refine AWP.region (l := [0]) rfl ?_
         refine AOps.cons rfl rfl (AOp.assign (.int .i64 11) rfl rfl ?_)
         refine AOps.nil ?_
         change AWP _ _ _ _ _ _
         refine AWP.ret ?_
         exact ⟨_, _, Ghost.refl, .inr rfl, _, Res.one rfl rfl, .inr ⟨11, (mat_eq s w).trans ((mat_in (k := 0) (t := s) (named1_T (by omega) (by omega) b8) (cnt_T (numsL_len _) hb9 (by omega)) (by omega) (by omega)).2 (by simp [b25, b26, b27])), m108, rfl⟩⟩
       ·
        refine QE.op rfl rfl (QOp.no rfl rfl rfl rfl (ble_of (nb b26) (by decide)) rfl) ?_
        refine QE.op rfl rfl (QOp.no rfl rfl rfl rfl (ble_of (nb b26) (by decide)) rfl) ?_
        refine QE.op rfl rfl (QOp.no rfl rfl rfl rfl (ble_of (nb b26) (by decide)) rfl) ?_
        refine QE.op rfl rfl (.inl ⟨rfl, fun f' H' hf hM => AOp.pickT (.bool true) rfl ((hf 46 rfl).trans rfl) (nb b26) rfl ⟨rfl, hM⟩⟩) ?_
        refine QE.op rfl rfl (.inl ⟨rfl, fun f' H' hf hM => AOp.move (.bool true) rfl ((hf 50 rfl).trans rfl) ⟨rfl, hM⟩⟩) ?_
        refine QE.op rfl rfl (QOp.no rfl rfl rfl rfl (ble_of rfl (by decide)) rfl) ?_
        refine QE.op rfl rfl (QOp.no rfl rfl rfl rfl (ble_of rfl (by decide)) rfl) ?_
        refine QE.op rfl rfl (QOp.no rfl rfl rfl rfl (ble_of rfl (by decide)) rfl) ?_
        refine QE.op rfl rfl (.inl ⟨rfl, fun f' H' hf hM => AOp.pickT (.bool true) rfl ((hf 51 rfl).trans rfl) rfl rfl ⟨rfl, hM⟩⟩) ?_
        refine QE.op rfl rfl (.inl ⟨rfl, fun f' H' hf hM => AOp.move (.bool true) rfl ((hf 55 rfl).trans rfl) ⟨rfl, hM⟩⟩) ?_
        refine QE.op rfl rfl (QOp.no rfl rfl rfl rfl (ble_of rfl (by decide)) rfl) ?_
        refine QE.op rfl rfl (QOp.no rfl rfl rfl rfl (ble_of rfl (by decide)) rfl) ?_
        refine QE.op rfl rfl (QOp.no rfl rfl rfl rfl (ble_of rfl (by decide)) rfl) ?_
        refine QE.op rfl rfl (QOp.no rfl rfl rfl rfl (ble_of rfl (by decide)) rfl) ?_
        refine QE.op rfl rfl (QOp.no rfl rfl rfl rfl (ble_of rfl (by decide)) rfl) ?_
        refine QE.op rfl rfl (QOp.no rfl rfl rfl rfl (ble_of rfl (by decide)) rfl) ?_
        refine QE.op rfl rfl (QOp.no rfl rfl rfl rfl (ble_of rfl (by decide)) rfl) ?_
        refine QE.op rfl rfl (QOp.no rfl rfl rfl rfl (ble_of rfl (by decide)) rfl) ?_
        refine QE.op rfl rfl (.inl ⟨rfl, fun f' H' hf hM => AOp.pickT (.bool true) rfl ((hf 56 rfl).trans rfl) rfl rfl ⟨rfl, hM⟩⟩) ?_
        refine QE.op rfl rfl (.inl ⟨rfl, fun f' H' hf hM => AOp.move (.bool true) rfl ((hf 65 rfl).trans rfl) ⟨rfl, hM⟩⟩) ?_
        refine QE.op rfl rfl (QOp.no rfl rfl rfl rfl (ble_of rfl (by decide)) rfl) ?_
        refine QE.op rfl rfl (QOp.no rfl rfl rfl rfl (ble_of rfl (by decide)) rfl) ?_
        refine QE.op rfl rfl (QOp.no rfl rfl rfl rfl (ble_of rfl (by decide)) rfl) ?_
        refine QE.op rfl rfl (.inl ⟨rfl, fun f' H' hf hM => AOp.pickT (.bool true) rfl ((hf 66 rfl).trans rfl) rfl rfl ⟨rfl, hM⟩⟩) ?_
        refine QE.done fun H109 m110 => ?_
        have h111 := m110 _ _ h20
        have o112 := Own.mono o21 m110
        have o113 := MO.mono o22 m110
        have m114 := m23.trans m110
        refine AOps.nil ?_
        change AWP _ _ _ _ _ _
        refine AWP.condT rfl rfl ?_
        refine AWP.seq ?_
        refine AWP.region (l := [0]) rfl ?_
        refine AOps.cons rfl rfl (AOp.assign (.int .i64 11) rfl rfl ?_)
        refine AOps.nil ?_
        change AWP _ _ _ _ _ _
        refine AWP.ret ?_
        exact ⟨_, _, Ghost.refl, .inr rfl, _, Res.one rfl rfl, .inr ⟨11, (mat_eq s w).trans ((mat_in (k := 0) (t := s) (named1_T (by omega) (by omega) b8) (cnt_T (numsL_len _) hb9 (by omega)) (by omega) (by omega)).2 (by simp [b25, b26])), m114, rfl⟩⟩
      ·
       refine QE.op rfl rfl (QOp.no rfl rfl rfl rfl (ble_of (nb b25) (by decide)) rfl) ?_
       refine QE.op rfl rfl (QOp.no rfl rfl rfl rfl (ble_of (nb b25) (by decide)) rfl) ?_
       refine QE.op rfl rfl (QOp.no rfl rfl rfl rfl (ble_of (nb b25) (by decide)) rfl) ?_
       refine QE.op rfl rfl (.inl ⟨rfl, fun f' H' hf hM => AOp.pickT (.bool true) rfl ((hf 41 rfl).trans rfl) (nb b25) rfl ⟨rfl, hM⟩⟩) ?_
       refine QE.op rfl rfl (.inl ⟨rfl, fun f' H' hf hM => AOp.move (.bool true) rfl ((hf 45 rfl).trans rfl) ⟨rfl, hM⟩⟩) ?_
       refine QE.op rfl rfl (QOp.no rfl rfl rfl rfl (ble_of rfl (by decide)) rfl) ?_
       refine QE.op rfl rfl (QOp.no rfl rfl rfl rfl (ble_of rfl (by decide)) rfl) ?_
       refine QE.op rfl rfl (QOp.no rfl rfl rfl rfl (ble_of rfl (by decide)) rfl) ?_
       refine QE.op rfl rfl (.inl ⟨rfl, fun f' H' hf hM => AOp.pickT (.bool true) rfl ((hf 46 rfl).trans rfl) rfl rfl ⟨rfl, hM⟩⟩) ?_
       refine QE.op rfl rfl (.inl ⟨rfl, fun f' H' hf hM => AOp.move (.bool true) rfl ((hf 50 rfl).trans rfl) ⟨rfl, hM⟩⟩) ?_
       refine QE.op rfl rfl (QOp.no rfl rfl rfl rfl (ble_of rfl (by decide)) rfl) ?_
       refine QE.op rfl rfl (QOp.no rfl rfl rfl rfl (ble_of rfl (by decide)) rfl) ?_
       refine QE.op rfl rfl (QOp.no rfl rfl rfl rfl (ble_of rfl (by decide)) rfl) ?_
       refine QE.op rfl rfl (.inl ⟨rfl, fun f' H' hf hM => AOp.pickT (.bool true) rfl ((hf 51 rfl).trans rfl) rfl rfl ⟨rfl, hM⟩⟩) ?_
       refine QE.op rfl rfl (.inl ⟨rfl, fun f' H' hf hM => AOp.move (.bool true) rfl ((hf 55 rfl).trans rfl) ⟨rfl, hM⟩⟩) ?_
       refine QE.op rfl rfl (QOp.no rfl rfl rfl rfl (ble_of rfl (by decide)) rfl) ?_
       refine QE.op rfl rfl (QOp.no rfl rfl rfl rfl (ble_of rfl (by decide)) rfl) ?_
       refine QE.op rfl rfl (QOp.no rfl rfl rfl rfl (ble_of rfl (by decide)) rfl) ?_
       refine QE.op rfl rfl (QOp.no rfl rfl rfl rfl (ble_of rfl (by decide)) rfl) ?_
       refine QE.op rfl rfl (QOp.no rfl rfl rfl rfl (ble_of rfl (by decide)) rfl) ?_
       refine QE.op rfl rfl (QOp.no rfl rfl rfl rfl (ble_of rfl (by decide)) rfl) ?_
       refine QE.op rfl rfl (QOp.no rfl rfl rfl rfl (ble_of rfl (by decide)) rfl) ?_
       refine QE.op rfl rfl (QOp.no rfl rfl rfl rfl (ble_of rfl (by decide)) rfl) ?_
       refine QE.op rfl rfl (.inl ⟨rfl, fun f' H' hf hM => AOp.pickT (.bool true) rfl ((hf 56 rfl).trans rfl) rfl rfl ⟨rfl, hM⟩⟩) ?_
       refine QE.op rfl rfl (.inl ⟨rfl, fun f' H' hf hM => AOp.move (.bool true) rfl ((hf 65 rfl).trans rfl) ⟨rfl, hM⟩⟩) ?_
       refine QE.op rfl rfl (QOp.no rfl rfl rfl rfl (ble_of rfl (by decide)) rfl) ?_
       refine QE.op rfl rfl (QOp.no rfl rfl rfl rfl (ble_of rfl (by decide)) rfl) ?_
       refine QE.op rfl rfl (QOp.no rfl rfl rfl rfl (ble_of rfl (by decide)) rfl) ?_
       refine QE.op rfl rfl (.inl ⟨rfl, fun f' H' hf hM => AOp.pickT (.bool true) rfl ((hf 66 rfl).trans rfl) rfl rfl ⟨rfl, hM⟩⟩) ?_
       refine QE.done fun H115 m116 => ?_
       have h117 := m116 _ _ h20
       have o118 := Own.mono o21 m116
       have o119 := MO.mono o22 m116
       have m120 := m23.trans m116
       refine AOps.nil ?_
       change AWP _ _ _ _ _ _
       refine AWP.condT rfl rfl ?_
       refine AWP.seq ?_
       refine AWP.region (l := [0]) rfl ?_
       refine AOps.cons rfl rfl (AOp.assign (.int .i64 11) rfl rfl ?_)
       refine AOps.nil ?_
       change AWP _ _ _ _ _ _
       refine AWP.ret ?_
       exact ⟨_, _, Ghost.refl, .inr rfl, _, Res.one rfl rfl, .inr ⟨11, (mat_eq s w).trans ((mat_in (k := 0) (t := s) (named1_T (by omega) (by omega) b8) (cnt_T (numsL_len _) hb9 (by omega)) (by omega) (by omega)).2 (by simp [b25])), m120, rfl⟩⟩
   ·
    refine AOps.cons rfl rfl (AOp.pcall («as» := [.sl (w.drop 2).length ((w.drop 2).map eStr)]) rfl rfl (rfl) tf_88 (c_rnumbers_F hb9 (w.drop 2) (by first | omega | assumption | (simp only [List.length_drop, List.length_take]; omega) | (simp; omega) | simp)) ?_)
    intro H121 m122
    have h123 := m122 _ _ h4
    have o124 := Own.mono o5 m122
    have o125 := MO.mono o6 m122
    have m126 := m7.trans m122
    refine AOps.cons rfl rfl (AOp.move (.tup [.sl ([] : List Int).length (([] : List Int).map eI), .bool false]) rfl rfl ?_)
    refine AOps.cons rfl rfl (AOp.extract (.sl ([] : List Int).length (([] : List Int).map eI)) rfl rfl rfl ?_)
    refine AOps.cons rfl rfl (AOp.extract (.bool false) rfl rfl rfl ?_)
    refine AOps.cons rfl rfl (AOp.assign (.sl ([] : List Int).length (([] : List Int).map eI)) rfl rfl ?_)
    refine AOps.cons rfl rfl (AOp.assign (.bool false) rfl rfl ?_)
    refine AOps.nil ?_
    change AWP _ _ _ _ _ _
    refine AWP.seq ?_
    refine AWP.seq ?_
    refine AWP.region (l := [0, 1]) rfl ?_
    refine AOps.cons rfl rfl (AOp.move (.bool false) rfl rfl ?_)
    refine AOps.cons rfl rfl (AOp.not rfl rfl ?_)
    refine AOps.nil ?_
    change AWP _ _ _ _ _ _
    refine AWP.condT rfl rfl ?_
    refine AWP.seq ?_
    refine AWP.region (l := [0]) rfl ?_
    refine AOps.cons rfl rfl (AOp.assign (.int .i64 10) rfl rfl ?_)
    refine AOps.nil ?_
    change AWP _ _ _ _ _ _
    refine AWP.ret ?_
    exact ⟨_, _, Ghost.refl, .inr rfl, _, Res.one rfl rfl, .inr ⟨10, (mat_eq s w).trans (gT (named1_T (by omega) (by omega) b8) (gF (cnt_F1 hb9))), m126, rfl⟩⟩
  ·
   refine AWP.condT rfl (nb b8) ?_
   refine AWP.seq ?_
   refine AWP.region (l := [0]) rfl ?_
   refine AOps.cons rfl rfl (AOp.assign (.int .i64 10) rfl rfl ?_)
   refine AOps.nil ?_
   change AWP _ _ _ _ _ _
   refine AWP.ret ?_
   exact ⟨_, _, Ghost.refl, .inr rfl, _, Res.one rfl rfl, .inr ⟨10, (mat_eq s w).trans (gF (named1_F (by omega) b8)), m7, rfl⟩⟩
 ·
  refine AOps.no rfl rfl rfl rfl rfl rfl rfl (ble_of (nb (decide_eq_false b1)) (by decide)) ?_
  refine AOps.no rfl rfl rfl rfl rfl rfl rfl (ble_of (nb (decide_eq_false b1)) (by decide)) ?_
  refine AOps.no rfl rfl rfl rfl rfl rfl rfl (ble_of (nb (decide_eq_false b1)) (by decide)) ?_
  refine AOps.no rfl rfl rfl rfl rfl rfl rfl (ble_of (nb (decide_eq_false b1)) (by decide)) ?_
  refine AOps.no rfl rfl rfl rfl rfl rfl rfl (ble_of (nb (decide_eq_false b1)) (by decide)) ?_
  refine AOps.cons rfl rfl (AOp.pickT (.bool true) rfl rfl (nb (decide_eq_false b1)) rfl ?_)
  refine AOps.nil ?_
  change AWP _ _ _ _ _ _
  refine AWP.condT rfl rfl ?_
  refine AWP.seq ?_
  refine AWP.region (l := [0]) rfl ?_
  refine AOps.cons rfl rfl (AOp.assign (.int .i64 10) rfl rfl ?_)
  refine AOps.nil ?_
  change AWP _ _ _ _ _ _
  refine AWP.ret ?_
  exact ⟨_, _, Ghost.refl, .inr rfl, _, Res.one rfl rfl, .inr ⟨10, mat_bad b1, m0, rfl⟩⟩
theorem c_rskin {B H0 : Heap} {id ver : Nat} {s : Rd} (hm : Mono B H0) (hs : RD B H0 id ver s) (ok : RdOk s) (w : List ByteArray) (hw : w.length ≤ 1048576) (hne : 0 < w.length) : ACalls Tryz.prog 46 [.ptr id ver 0, .sl w.length (w.map eStr)] H0 fun r H' => (∃ t, cageP s (w.drop 1) = .ok t ∧ RD B H' id ver t ∧ Mono B H' ∧ r = .int .i64 0) ∨ ∃ k, cageP s (w.drop 1) = .error k ∧ Mono B H' ∧ r = .int .i64 k := by
 obtain ⟨vL, vM, vT, vS, vC, vV, vF, vK, hrow, hB, hg, hn⟩ := hs
 obtain ⟨oS', og1, sp1⟩ := hg.at 3 rfl
 have oS : Own B H0 6 vS s.skins.length (s.skins.flatMap eSkin) := oS'
 have nS : NotId vS id := hn.at 3 rfl
 have ng1 := hn.erase 3
 obtain ⟨oM', og2, sp2⟩ := og1.at 1 rfl
 have oM : Own B H0 9 vM s.mats.length (s.mats.flatMap eMat) := oM'
 have nM : NotId vM id := ng1.at 1 rfl
 have ng2 := ng1.erase 1
 have sMS : Sep vM vS := sp1.at 1 rfl
 have sp1b := sp1.erase 1
 obtain ⟨oT', og3, sp3⟩ := og2.at 1 rfl
 have oT : Own B H0 4 vT s.texs.length (s.texs.flatMap eTex) := oT'
 have nT : NotId vT id := ng2.at 1 rfl
 have ng3 := ng2.erase 1
 have sTS : Sep vT vS := sp1b.at 1 rfl
 have sp1c := sp1b.erase 1
 have sTM : Sep vT vM := sp2.at 1 rfl
 have sp2b := sp2.erase 1
 refine ACalls.of_body' (n := 147) rfl rfl rfl rfl ?_
 have m0 := hm
 refine AWP.seq (AWP.region rfl ?_)
 refine AOps.cons rfl rfl (AOp.assign _ rfl rfl ?_)
 refine AWP.seq ?_
 refine AWP.seqc (fun fq Hq => fq 36 = .bool (!(skinOk w)) ∧ fq 0 = .ptr id ver 0 ∧ fq 1 = .sl w.length (w.map eStr) ∧ fq 4 = .int .i64 0 ∧ Own B Hq 6 vS s.skins.length (s.skins.flatMap eSkin) ∧ Own B Hq 9 vM s.mats.length (s.mats.flatMap eMat) ∧ Own B Hq 4 vT s.texs.length (s.texs.flatMap eTex) ∧ MO B Hq ((((rdL s vL vM vT vS vC vV vF vK).eraseIdx 3).eraseIdx 1).eraseIdx 1) ∧ Hq id = some (.row ver (rdC s.cam s.sky vL vM vT vS vC s.hc s.hs)) ∧ Mono B Hq) ?_ ?_
 refine AWP.region rfl ?_
 refine AOps.cons rfl rfl (AOp.move _ rfl rfl (AOps.cons rfl rfl (AOp.len (m := w.length) rfl rfl (.inr (.inl ⟨_, rfl⟩)) u_57 (AOps.cons rfl rfl (AOp.bin _ rfl rfl rfl ine (AOps.cons rfl rfl (AOp.move _ rfl rfl ?_)))))))
 by_cases b1 : (w.length : Int) = 7
 refine AOps.yes rfl rfl rfl rfl rfl rfl rfl (nb (decide_eq_true b1)) (AOp.move _ rfl rfl (AOps.yes rfl rfl rfl rfl rfl rfl rfl (nb (decide_eq_true b1)) (AOp.indexAddrS rfl rfl rfl sl_57 (by omega) (by omega) (AOps.yes rfl rfl rfl rfl rfl rfl rfl (nb (decide_eq_true b1)) (AOp.loadF _ rfl rfl ty_9 (ld1 (by omega) (by omega)) (AOps.yes rfl rfl rfl rfl rfl rfl rfl (nb (decide_eq_true b1)) (AOp.pcall («as» := [.str (at_ w 1)]) rfl rfl (rfl) tf_92 (c_ref_Name _) ?_)))))))
 intro H2 m3
 have h4 := m3 _ _ hrow
 have o5 := Own.mono oS m3
 have o6 := Own.mono oM m3
 have o7 := Own.mono oT m3
 have o8 := MO.mono og3 m3
 have m9 := m0.trans m3
 refine AOps.yes rfl rfl rfl rfl rfl rfl rfl (nb (decide_eq_true b1)) (AOp.not rfl rfl (AOps.cons rfl rfl (AOp.pickF _ rfl rfl (nb (decide_eq_true b1)) rfl (AOps.cons rfl rfl (AOp.move _ rfl rfl ?_)))))
 rcases Bool.eq_false_or_eq_true (nameB (at_ w 1)) with b10 | b10
 refine AOps.yes rfl rfl rfl rfl rfl rfl rfl (nb b10) (AOp.move _ rfl rfl (AOps.yes rfl rfl rfl rfl rfl rfl rfl (nb b10) (AOp.indexAddrS rfl rfl rfl sl_57 (by omega) (by omega) (AOps.yes rfl rfl rfl rfl rfl rfl rfl (nb b10) (AOp.loadF _ rfl rfl ty_9 (ld1 (by omega) (by omega)) (AOps.yes rfl rfl rfl rfl rfl rfl rfl (nb b10) (AOp.pcall («as» := [.str (at_ w 2)]) rfl rfl (rfl) tf_92 (c_ref_Name _) ?_)))))))
 intro H11 m12
 have h13 := m12 _ _ h4
 have o14 := Own.mono o5 m12
 have o15 := Own.mono o6 m12
 have o16 := Own.mono o7 m12
 have o17 := MO.mono o8 m12
 have m18 := m9.trans m12
 refine AOps.yes rfl rfl rfl rfl rfl rfl rfl (nb b10) (AOp.not rfl rfl (AOps.cons rfl rfl (AOp.pickF _ rfl rfl (nb b10) rfl (AOps.cons rfl rfl (AOp.move _ rfl rfl ?_)))))
 rcases Bool.eq_false_or_eq_true (nameB (at_ w 2)) with b19 | b19
 refine AOps.yes rfl rfl rfl rfl rfl rfl rfl (nb b19) (AOp.move _ rfl rfl (AOps.yes rfl rfl rfl rfl rfl rfl rfl (nb b19) (AOp.indexAddrS rfl rfl rfl sl_57 (by omega) (by omega) (AOps.yes rfl rfl rfl rfl rfl rfl rfl (nb b19) (AOp.loadF _ rfl rfl ty_9 (ld1 (by omega) (by omega)) (AOps.yes rfl rfl rfl rfl rfl rfl rfl (nb b19) (AOp.sneD rfl rfl rfl (AOps.yes rfl rfl rfl rfl rfl rfl rfl (nb b19) (AOp.move _ rfl rfl ?_)))))))))
 by_cases b20 : (at_ w 5) = ⟨#[45]⟩
 refine AOps.no rfl rfl rfl rfl rfl rfl rfl (ble_of (nb (decide_eq_true b20)) (by decide)) (AOps.no rfl rfl rfl rfl rfl rfl rfl (ble_of (nb (decide_eq_true b20)) (by decide)) (AOps.no rfl rfl rfl rfl rfl rfl rfl (ble_of (nb (decide_eq_true b20)) (by decide)) (AOps.no rfl rfl rfl rfl rfl rfl rfl (ble_of (nb (decide_eq_true b20)) (by decide)) (AOps.no rfl rfl rfl rfl rfl rfl rfl (ble_of (nb (decide_eq_true b20)) (by decide)) (AOps.yes rfl rfl rfl rfl rfl rfl rfl (nb b19) (AOp.pickF _ rfl rfl (nb (decide_eq_true b20)) rfl ?_))))))
 refine AOps.cons rfl rfl (AOp.pickF _ rfl rfl (nb b19) rfl ?_)
 refine AOps.nil ?_
 exact Then.n ⟨(congrArg AV.bool (show (false : Bool) = !(skinOk w) from by rw [skinOk_eq]; simp [dash, b1, b10, b19, b20])), rfl, rfl, rfl, o14, o15, o16, o17, h13, m18⟩
 refine AOps.yes rfl rfl rfl rfl rfl rfl rfl (nb (decide_eq_false b20)) (AOp.move _ rfl rfl (AOps.yes rfl rfl rfl rfl rfl rfl rfl (nb (decide_eq_false b20)) (AOp.indexAddrS rfl rfl rfl sl_57 (by omega) (by omega) (AOps.yes rfl rfl rfl rfl rfl rfl rfl (nb (decide_eq_false b20)) (AOp.loadF _ rfl rfl ty_9 (ld1 (by omega) (by omega)) (AOps.yes rfl rfl rfl rfl rfl rfl rfl (nb (decide_eq_false b20)) (AOp.pcall («as» := [.str (at_ w 5)]) rfl rfl (rfl) tf_92 (c_ref_Name _) ?_)))))))
 intro H21 m22
 have h23 := m22 _ _ h13
 have o24 := Own.mono o14 m22
 have o25 := Own.mono o15 m22
 have o26 := Own.mono o16 m22
 have o27 := MO.mono o17 m22
 have m28 := m18.trans m22
 refine AOps.yes rfl rfl rfl rfl rfl rfl rfl (nb (decide_eq_false b20)) (AOp.not rfl rfl (AOps.yes rfl rfl rfl rfl rfl rfl rfl (nb b19) (AOp.pickT _ rfl rfl (nb (decide_eq_false b20)) rfl (AOps.cons rfl rfl (AOp.pickF _ rfl rfl (nb b19) rfl ?_)))))
 refine AOps.nil ?_
 exact Then.n ⟨(congrArg AV.bool (show (!(nameB (at_ w 5)) : Bool) = !(skinOk w) from by rw [skinOk_eq]; simp [dash, b1, b10, b19, b20])), rfl, rfl, rfl, o24, o25, o26, o27, h23, m28⟩
 refine AOps.no rfl rfl rfl rfl rfl rfl rfl (ble_of (nb b19) (by decide)) (AOps.no rfl rfl rfl rfl rfl rfl rfl (ble_of (nb b19) (by decide)) (AOps.no rfl rfl rfl rfl rfl rfl rfl (ble_of (nb b19) (by decide)) (AOps.no rfl rfl rfl rfl rfl rfl rfl (ble_of (nb b19) (by decide)) (AOps.no rfl rfl rfl rfl rfl rfl rfl (ble_of (nb b19) (by decide)) (AOps.un rfl rfl rfl rfl rfl rfl rfl ?_)))))
 refine AOps.un rfl rfl rfl rfl rfl rfl rfl (AOps.un rfl rfl rfl rfl rfl rfl rfl (AOps.un rfl rfl rfl rfl rfl rfl rfl (AOps.un rfl rfl rfl rfl rfl rfl rfl (AOps.no rfl rfl rfl rfl rfl rfl rfl (ble_of (nb b19) (by decide)) (AOps.cons rfl rfl (AOp.pickT _ rfl rfl (nb b19) rfl ?_))))))
 refine AOps.nil ?_
 exact Then.n ⟨(congrArg AV.bool (show (true : Bool) = !(skinOk w) from by rw [skinOk_eq]; simp [dash, b1, b10, b19])), rfl, rfl, rfl, o14, o15, o16, o17, h13, m18⟩
 refine AOps.no rfl rfl rfl rfl rfl rfl rfl (ble_of (nb b10) (by decide)) (AOps.no rfl rfl rfl rfl rfl rfl rfl (ble_of (nb b10) (by decide)) (AOps.no rfl rfl rfl rfl rfl rfl rfl (ble_of (nb b10) (by decide)) (AOps.no rfl rfl rfl rfl rfl rfl rfl (ble_of (nb b10) (by decide)) (AOps.no rfl rfl rfl rfl rfl rfl rfl (ble_of (nb b10) (by decide)) (AOps.cons rfl rfl (AOp.pickT _ rfl rfl (nb b10) rfl ?_))))))
 refine AOps.cons rfl rfl (AOp.move _ rfl rfl (AOps.no rfl rfl rfl rfl rfl rfl rfl (ble_of rfl (by decide)) (AOps.no rfl rfl rfl rfl rfl rfl rfl (ble_of rfl (by decide)) (AOps.no rfl rfl rfl rfl rfl rfl rfl (ble_of rfl (by decide)) (AOps.no rfl rfl rfl rfl rfl rfl rfl (ble_of rfl (by decide)) (AOps.no rfl rfl rfl rfl rfl rfl rfl (ble_of rfl (by decide)) ?_))))))
 refine AOps.un rfl rfl rfl rfl rfl rfl rfl (AOps.un rfl rfl rfl rfl rfl rfl rfl (AOps.un rfl rfl rfl rfl rfl rfl rfl (AOps.un rfl rfl rfl rfl rfl rfl rfl (AOps.un rfl rfl rfl rfl rfl rfl rfl (AOps.no rfl rfl rfl rfl rfl rfl rfl (ble_of rfl (by decide)) ?_)))))
 refine AOps.cons rfl rfl (AOp.pickT _ rfl rfl rfl rfl ?_)
 refine AOps.nil ?_
 exact Then.n ⟨(congrArg AV.bool (show (true : Bool) = !(skinOk w) from by rw [skinOk_eq]; simp [dash, b1, b10])), rfl, rfl, rfl, o5, o6, o7, o8, h4, m9⟩
 refine AOps.no rfl rfl rfl rfl rfl rfl rfl (ble_of (nb (decide_eq_false b1)) (by decide)) (AOps.no rfl rfl rfl rfl rfl rfl rfl (ble_of (nb (decide_eq_false b1)) (by decide)) (AOps.no rfl rfl rfl rfl rfl rfl rfl (ble_of (nb (decide_eq_false b1)) (by decide)) (AOps.no rfl rfl rfl rfl rfl rfl rfl (ble_of (nb (decide_eq_false b1)) (by decide)) (AOps.no rfl rfl rfl rfl rfl rfl rfl (ble_of (nb (decide_eq_false b1)) (by decide)) (AOps.cons rfl rfl (AOp.pickT _ rfl rfl (nb (decide_eq_false b1)) rfl ?_))))))
 refine AOps.cons rfl rfl (AOp.move _ rfl rfl (AOps.no rfl rfl rfl rfl rfl rfl rfl (ble_of rfl (by decide)) (AOps.no rfl rfl rfl rfl rfl rfl rfl (ble_of rfl (by decide)) (AOps.no rfl rfl rfl rfl rfl rfl rfl (ble_of rfl (by decide)) (AOps.no rfl rfl rfl rfl rfl rfl rfl (ble_of rfl (by decide)) (AOps.no rfl rfl rfl rfl rfl rfl rfl (ble_of rfl (by decide)) ?_))))))
 refine AOps.cons rfl rfl (AOp.pickT _ rfl rfl rfl rfl (AOps.cons rfl rfl (AOp.move _ rfl rfl (AOps.no rfl rfl rfl rfl rfl rfl rfl (ble_of rfl (by decide)) (AOps.no rfl rfl rfl rfl rfl rfl rfl (ble_of rfl (by decide)) (AOps.no rfl rfl rfl rfl rfl rfl rfl (ble_of rfl (by decide)) (AOps.no rfl rfl rfl rfl rfl rfl rfl (ble_of rfl (by decide)) ?_)))))))
 refine AOps.no rfl rfl rfl rfl rfl rfl rfl (ble_of rfl (by decide)) (AOps.un rfl rfl rfl rfl rfl rfl rfl (AOps.un rfl rfl rfl rfl rfl rfl rfl (AOps.un rfl rfl rfl rfl rfl rfl rfl (AOps.un rfl rfl rfl rfl rfl rfl rfl (AOps.un rfl rfl rfl rfl rfl rfl rfl ?_)))))
 refine AOps.no rfl rfl rfl rfl rfl rfl rfl (ble_of rfl (by decide)) (AOps.cons rfl rfl (AOp.pickT _ rfl rfl rfl rfl ?_))
 refine AOps.nil ?_
 exact Then.n ⟨(congrArg AV.bool (show (true : Bool) = !(skinOk w) from by rw [skinOk_eq]; simp [dash, b1])), rfl, rfl, rfl, oS, oM, oT, og3, hrow, m0⟩
 rintro f30 H29 ⟨s31, s32, s33, s34, o35, o36, o37, o38, h39, m40⟩
 rcases Bool.eq_false_or_eq_true (skinOk w) with b41 | b41
 refine AWP.condF s31 (nb b41) ?_
 refine AWP.skip ?_
 refine AWP.seq ?_
 have hl7 := skinOk_len b41
 refine AWP.region_quiet mixed (by kernel_rfl) 16 [] rfl (by kernel_rfl) (Mono H29) (Mono.refl _) ?_
 refine QE.op rfl rfl (.inl ⟨rfl, fun f' H' hf hM => AOp.move _ rfl ((hf 1 rfl).trans s33) ⟨rfl, hM⟩⟩) ?_
 refine QE.op rfl rfl (.inl ⟨rfl, fun f' H' hf hM => AOp.indexAddrS rfl ((hf 38 rfl).trans rfl) rfl sl_57 (by omega) (by omega) ⟨rfl, hM⟩⟩) ?_
 refine QE.op rfl rfl (.inl ⟨rfl, fun f' H' hf hM => AOp.loadF _ rfl ((hf 39 rfl).trans rfl) ty_9 (ld1 (by omega) (by omega)) ⟨rfl, hM⟩⟩) ?_
 refine QE.op rfl rfl (.inl ⟨rfl, fun f' H' hf hM => AOp.move _ rfl ((hf 1 rfl).trans s33) ⟨rfl, hM⟩⟩) ?_
 refine QE.op rfl rfl (.inl ⟨rfl, fun f' H' hf hM => AOp.indexAddrS rfl ((hf 41 rfl).trans rfl) rfl sl_57 (by omega) (by omega) ⟨rfl, hM⟩⟩) ?_
 refine QE.op rfl rfl (.inl ⟨rfl, fun f' H' hf hM => AOp.loadF _ rfl ((hf 42 rfl).trans rfl) ty_9 (ld1 (by omega) (by omega)) ⟨rfl, hM⟩⟩) ?_
 refine QE.op rfl rfl (.inl ⟨rfl, fun f' H' hf hM => AOp.move _ rfl ((hf 1 rfl).trans s33) ⟨rfl, hM⟩⟩) ?_
 refine QE.op rfl rfl (.inl ⟨rfl, fun f' H' hf hM => AOp.indexAddrS rfl ((hf 44 rfl).trans rfl) rfl sl_57 (by omega) (by omega) ⟨rfl, hM⟩⟩) ?_
 refine QE.op rfl rfl (.inl ⟨rfl, fun f' H' hf hM => AOp.loadF _ rfl ((hf 45 rfl).trans rfl) ty_9 (ld1 (by omega) (by omega)) ⟨rfl, hM⟩⟩) ?_
 refine QE.op rfl rfl (.inl ⟨rfl, fun f' H' hf hM => AOp.buildSliceF (cells := [.str (at_ w 3), .str (at_ w 4), .str (at_ w 6)]) rfl u_57 ts_9 tz_9 rfl (lconsP ((hf 40 rfl).trans rfl) (lconsP ((hf 43 rfl).trans rfl) (lconsP ((hf 46 rfl).trans rfl) rfl))) rfl rfl fun H2 m2 => ⟨rfl, hM.trans m2⟩⟩) ?_
 rcases Bool.eq_false_or_eq_true (numsB ([(at_ w 3), (at_ w 4), (at_ w 6)] : List ByteArray)) with hb42 | hb42
 refine QE.op rfl rfl (.inl ⟨rfl, fun f' H' hf hM => AOp.pcall («as» := [.sl ([(at_ w 3), (at_ w 4), (at_ w 6)] : List ByteArray).length (([(at_ w 3), (at_ w 4), (at_ w 6)] : List ByteArray).map eStr)]) rfl rfl (lapp (lcons ((hf 47 rfl).trans rfl) rfl) rfl) tf_88 (c_rnumbers_T hb42 ([(at_ w 3), (at_ w 4), (at_ w 6)] : List ByteArray) (by first | omega | assumption | (simp only [List.length_drop, List.length_take]; omega) | (simp; omega) | simp)) fun H2 m2 => ⟨rfl, hM.trans m2⟩⟩) ?_
 have hl43 : ((numsL ([(at_ w 3), (at_ w 4), (at_ w 6)] : List ByteArray)).length : Int) = 3 := by rw [numsL_len]; rfl
 refine QE.op rfl rfl (.inl ⟨rfl, fun f' H' hf hM => AOp.move _ rfl ((hf 48 rfl).trans rfl) ⟨rfl, hM⟩⟩) ?_
 refine QE.op rfl rfl (.inl ⟨rfl, fun f' H' hf hM => AOp.extract _ rfl ((hf 37 rfl).trans rfl) rfl ⟨rfl, hM⟩⟩) ?_
 refine QE.op rfl rfl (.inl ⟨rfl, fun f' H' hf hM => AOp.extract _ rfl ((hf 37 rfl).trans rfl) rfl ⟨rfl, hM⟩⟩) ?_
 refine QE.op rfl rfl (.inl ⟨rfl, fun f' H' hf hM => AOp.assign _ rfl ((hf 49 rfl).trans rfl) ⟨rfl, hM⟩⟩) ?_
 refine QE.op rfl rfl (.inl ⟨rfl, fun f' H' hf hM => AOp.assign _ rfl ((hf 50 rfl).trans rfl) ⟨rfl, hM⟩⟩) ?_
 refine QE.done fun H44 m45 => ?_
 have h46 := m45 _ _ h39
 have o47 := Own.mono o35 m45
 have o48 := Own.mono o36 m45
 have o49 := Own.mono o37 m45
 have o50 := MO.mono o38 m45
 have m51 := m40.trans m45
 refine AWP.seq ?_
 refine AWP.seq (AWP.region rfl ?_)
 refine AOps.cons rfl rfl (AOp.move _ rfl rfl (AOps.cons rfl rfl (AOp.not rfl rfl ?_)))
 refine AWP.condF rfl rfl ?_
 refine AWP.skip ?_
 refine AWP.seq ?_
 refine AWP.seq (AWP.region rfl ?_)
 refine AOps.cons rfl rfl (AOp.move _ rfl s32 (AOps.cons rfl rfl (AOp.nilCheck (.ptr id ver 0) rfl rfl rfl ?_)))
 refine AOps.cons rfl rfl (AOp.fieldAddr rfl rfl fl_63_0 ?_ (hid := ⟨_, h46⟩))
 refine AOps.cons rfl rfl (AOp.fieldAddr rfl rfl fl_35_5 ?_ (hid := ⟨_, h46⟩))
 refine AOps.cons rfl rfl (AOp.load _ rfl rfl ty_32 h46 rfl (AOps.cons rfl rfl (AOp.len_own (m := s.skins.length) rfl rfl o47 u_32 (AOps.cons rfl rfl (AOp.bin _ rfl rfl rfl rfl ?_)))))
 refine AOps.nil ?_
 change AWP _ _ _ _ _ _
 by_cases b52 : (s.skins.length : Int) ≥ 8
 refine AWP.condT rfl (decide_eq_true b52) ?_
 refine AWP.seq (AWP.region rfl ?_)
 refine AOps.cons rfl rfl (AOp.assign _ rfl rfl ?_)
 refine AWP.ret ?_
 exact ⟨_, _, Ghost.refl, .inr rfl, _, Res.one rfl rfl, .inr ⟨13, (cage_eq s w).trans (gT (b41) (gT (hb42) (gF (decide_eq_false (by omega))))), m51, rfl⟩⟩
 refine AWP.condF rfl (decide_eq_false b52) ?_
 refine AWP.skip ?_
 refine AWP.seq ?_
 refine AWP.seqc (fun fq Hq => fq 87 = .bool (!(cageHas s (w.drop 1))) ∧ fq 0 = .ptr id ver 0 ∧ fq 1 = .sl w.length (w.map eStr) ∧ fq 4 = .int .i64 0 ∧ fq 5 = .sl (numsL ([(at_ w 3), (at_ w 4), (at_ w 6)] : List ByteArray)).length ((numsL ([(at_ w 3), (at_ w 4), (at_ w 6)] : List ByteArray)).map eI) ∧ Own B Hq 6 vS s.skins.length (s.skins.flatMap eSkin) ∧ Own B Hq 9 vM s.mats.length (s.mats.flatMap eMat) ∧ Own B Hq 4 vT s.texs.length (s.texs.flatMap eTex) ∧ MO B Hq ((((rdL s vL vM vT vS vC vV vF vK).eraseIdx 3).eraseIdx 1).eraseIdx 1) ∧ Hq id = some (.row ver (rdC s.cam s.sky vL vM vT vS vC s.hc s.hs)) ∧ Mono B Hq) ?_ ?_
 refine AWP.region rfl ?_
 refine AOps.cons rfl rfl (AOp.move _ rfl s32 (AOps.cons rfl rfl (AOp.move _ rfl s33 (AOps.cons rfl rfl (AOp.indexAddrS rfl rfl rfl sl_57 (by omega) (by omega) (AOps.cons rfl rfl (AOp.loadF _ rfl rfl ty_9 (ld1 (by omega) (by omega)) (AOps.cons rfl rfl (AOp.pcallH («as» := [.ptr id ver 0, .str (at_ w 1)]) rfl rfl (rfl) tf_95 ((c_rSkin (B := B) m51 hB h46 o47 nS (by have := ok.k; omega) (at_ w 1))) ?_)))))))))
 intro H53 m54
 have h55 := m54 _ _ h46
 have o56 := Own.mono o47 m54
 have o57 := Own.mono o48 m54
 have o58 := Own.mono o49 m54
 have o59 := MO.mono o50 m54
 have m60 := m51.trans m54
 refine AOps.cons rfl rfl (AOp.bin _ rfl rfl rfl rfl (AOps.cons rfl rfl (AOp.move _ rfl rfl ?_)))
 by_cases b61 : skinX s (at_ w 1) ≥ 0
 refine AOps.no rfl rfl rfl rfl rfl rfl rfl (ble_of (decide_eq_true b61) (by decide)) (AOps.no rfl rfl rfl rfl rfl rfl rfl (ble_of (decide_eq_true b61) (by decide)) (AOps.no rfl rfl rfl rfl rfl rfl rfl (ble_of (decide_eq_true b61) (by decide)) (AOps.no rfl rfl rfl rfl rfl rfl rfl (ble_of (decide_eq_true b61) (by decide)) (AOps.no rfl rfl rfl rfl rfl rfl rfl (ble_of (decide_eq_true b61) (by decide)) (AOps.no rfl rfl rfl rfl rfl rfl rfl (ble_of (decide_eq_true b61) (by decide)) ?_)))))
 refine AOps.cons rfl rfl (AOp.pickT _ rfl rfl (decide_eq_true b61) rfl (AOps.cons rfl rfl (AOp.move _ rfl rfl (AOps.no rfl rfl rfl rfl rfl rfl rfl (ble_of rfl (by decide)) (AOps.no rfl rfl rfl rfl rfl rfl rfl (ble_of rfl (by decide)) (AOps.no rfl rfl rfl rfl rfl rfl rfl (ble_of rfl (by decide)) (AOps.no rfl rfl rfl rfl rfl rfl rfl (ble_of rfl (by decide)) ?_)))))))
 refine AOps.no rfl rfl rfl rfl rfl rfl rfl (ble_of rfl (by decide)) (AOps.un rfl rfl rfl rfl rfl rfl rfl (AOps.un rfl rfl rfl rfl rfl rfl rfl (AOps.un rfl rfl rfl rfl rfl rfl rfl (AOps.un rfl rfl rfl rfl rfl rfl rfl (AOps.un rfl rfl rfl rfl rfl rfl rfl ?_)))))
 refine AOps.un rfl rfl rfl rfl rfl rfl rfl (AOps.no rfl rfl rfl rfl rfl rfl rfl (ble_of rfl (by decide)) (AOps.cons rfl rfl (AOp.pickT _ rfl rfl rfl rfl ?_)))
 refine AOps.nil ?_
 exact Then.n ⟨(congrArg AV.bool (show (true : Bool) = !(cageHas s (w.drop 1)) from by rw [skinHas_eq]; simp only [dash]; first | (simp_all; done) | (simp_all; omega))), s32, s33, s34, rfl, o56, o57, o58, o59, h55, m60⟩
 refine AOps.yes rfl rfl rfl rfl rfl rfl rfl (decide_eq_false b61) (AOp.move _ rfl s32 (AOps.yes rfl rfl rfl rfl rfl rfl rfl (decide_eq_false b61) (AOp.move _ rfl s33 (AOps.yes rfl rfl rfl rfl rfl rfl rfl (decide_eq_false b61) (AOp.indexAddrS rfl rfl rfl sl_57 (by omega) (by omega) (AOps.yes rfl rfl rfl rfl rfl rfl rfl (decide_eq_false b61) (AOp.loadF _ rfl rfl ty_9 (ld1 (by omega) (by omega)) (AOps.yes rfl rfl rfl rfl rfl rfl rfl (decide_eq_false b61) (AOp.pcallH («as» := [.ptr id ver 0, .str (at_ w 2)]) rfl rfl (rfl) tf_94 ((c_rMat (B := B) m60 hB h55 o57 nM (by have := ok.m; omega) (at_ w 2))) ?_)))))))))
 intro H62 m63
 have h64 := m63 _ _ h55
 have o65 := Own.mono o56 m63
 have o66 := Own.mono o57 m63
 have o67 := Own.mono o58 m63
 have o68 := MO.mono o59 m63
 have m69 := m60.trans m63
 refine AOps.yes rfl rfl rfl rfl rfl rfl rfl (decide_eq_false b61) (AOp.bin _ rfl rfl rfl rfl (AOps.cons rfl rfl (AOp.pickF _ rfl rfl (decide_eq_false b61) rfl (AOps.cons rfl rfl (AOp.move _ rfl rfl ?_)))))
 by_cases b70 : matX s (at_ w 2) < 0
 refine AOps.no rfl rfl rfl rfl rfl rfl rfl (ble_of (decide_eq_true b70) (by decide)) (AOps.no rfl rfl rfl rfl rfl rfl rfl (ble_of (decide_eq_true b70) (by decide)) (AOps.no rfl rfl rfl rfl rfl rfl rfl (ble_of (decide_eq_true b70) (by decide)) (AOps.no rfl rfl rfl rfl rfl rfl rfl (ble_of (decide_eq_true b70) (by decide)) (AOps.no rfl rfl rfl rfl rfl rfl rfl (ble_of (decide_eq_true b70) (by decide)) (AOps.un rfl rfl rfl rfl rfl rfl rfl ?_)))))
 refine AOps.un rfl rfl rfl rfl rfl rfl rfl (AOps.un rfl rfl rfl rfl rfl rfl rfl (AOps.un rfl rfl rfl rfl rfl rfl rfl (AOps.un rfl rfl rfl rfl rfl rfl rfl (AOps.un rfl rfl rfl rfl rfl rfl rfl (AOps.no rfl rfl rfl rfl rfl rfl rfl (ble_of (decide_eq_true b70) (by decide)) ?_)))))
 refine AOps.cons rfl rfl (AOp.pickT _ rfl rfl (decide_eq_true b70) rfl ?_)
 refine AOps.nil ?_
 exact Then.n ⟨(congrArg AV.bool (show (true : Bool) = !(cageHas s (w.drop 1)) from by rw [skinHas_eq]; simp only [dash]; first | (simp_all; done) | (simp_all; omega))), s32, s33, s34, rfl, o65, o66, o67, o68, h64, m69⟩
 refine AOps.yes rfl rfl rfl rfl rfl rfl rfl (decide_eq_false b70) (AOp.move _ rfl s33 (AOps.yes rfl rfl rfl rfl rfl rfl rfl (decide_eq_false b70) (AOp.indexAddrS rfl rfl rfl sl_57 (by omega) (by omega) (AOps.yes rfl rfl rfl rfl rfl rfl rfl (decide_eq_false b70) (AOp.loadF _ rfl rfl ty_9 (ld1 (by omega) (by omega)) (AOps.yes rfl rfl rfl rfl rfl rfl rfl (decide_eq_false b70) (AOp.sneD rfl rfl rfl (AOps.yes rfl rfl rfl rfl rfl rfl rfl (decide_eq_false b70) (AOp.move _ rfl rfl ?_)))))))))
 by_cases b71 : (at_ w 5) = ⟨#[45]⟩
 refine AOps.no rfl rfl rfl rfl rfl rfl rfl (ble_of (nb (decide_eq_true b71)) (by decide)) (AOps.no rfl rfl rfl rfl rfl rfl rfl (ble_of (nb (decide_eq_true b71)) (by decide)) (AOps.no rfl rfl rfl rfl rfl rfl rfl (ble_of (nb (decide_eq_true b71)) (by decide)) (AOps.no rfl rfl rfl rfl rfl rfl rfl (ble_of (nb (decide_eq_true b71)) (by decide)) (AOps.no rfl rfl rfl rfl rfl rfl rfl (ble_of (nb (decide_eq_true b71)) (by decide)) (AOps.no rfl rfl rfl rfl rfl rfl rfl (ble_of (nb (decide_eq_true b71)) (by decide)) ?_)))))
 refine AOps.yes rfl rfl rfl rfl rfl rfl rfl (decide_eq_false b70) (AOp.pickF _ rfl rfl (nb (decide_eq_true b71)) rfl (AOps.cons rfl rfl (AOp.pickF _ rfl rfl (decide_eq_false b70) rfl ?_)))
 refine AOps.nil ?_
 exact Then.n ⟨(congrArg AV.bool (show (false : Bool) = !(cageHas s (w.drop 1)) from by rw [skinHas_eq]; simp only [dash]; first | (simp_all; done) | (simp_all; omega))), s32, s33, s34, rfl, o65, o66, o67, o68, h64, m69⟩
 refine AOps.yes rfl rfl rfl rfl rfl rfl rfl (nb (decide_eq_false b71)) (AOp.move _ rfl s32 (AOps.yes rfl rfl rfl rfl rfl rfl rfl (nb (decide_eq_false b71)) (AOp.move _ rfl s33 (AOps.yes rfl rfl rfl rfl rfl rfl rfl (nb (decide_eq_false b71)) (AOp.indexAddrS rfl rfl rfl sl_57 (by omega) (by omega) (AOps.yes rfl rfl rfl rfl rfl rfl rfl (nb (decide_eq_false b71)) (AOp.loadF _ rfl rfl ty_9 (ld1 (by omega) (by omega)) (AOps.yes rfl rfl rfl rfl rfl rfl rfl (nb (decide_eq_false b71)) (AOp.pcallH («as» := [.ptr id ver 0, .str (at_ w 5)]) rfl rfl (rfl) tf_93 ((c_rTex (B := B) m69 hB h64 o67 nT (by have := ok.t; omega) (at_ w 5))) ?_)))))))))
 intro H72 m73
 have h74 := m73 _ _ h64
 have o75 := Own.mono o65 m73
 have o76 := Own.mono o66 m73
 have o77 := Own.mono o67 m73
 have o78 := MO.mono o68 m73
 have m79 := m69.trans m73
 refine AOps.yes rfl rfl rfl rfl rfl rfl rfl (nb (decide_eq_false b71)) (AOp.bin _ rfl rfl rfl rfl (AOps.yes rfl rfl rfl rfl rfl rfl rfl (decide_eq_false b70) (AOp.pickT _ rfl rfl (nb (decide_eq_false b71)) rfl (AOps.cons rfl rfl (AOp.pickF _ rfl rfl (decide_eq_false b70) rfl ?_)))))
 refine AOps.nil ?_
 exact Then.n ⟨(congrArg AV.bool (show (decide (texX s (at_ w 5) < 0) : Bool) = !(cageHas s (w.drop 1)) from by rw [skinHas_eq, decide_eq_true (show skinX s (at_ w 1) < 0 by omega), decide_eq_true (show matX s (at_ w 2) ≥ 0 by omega), decide_eq_false (show ¬ at_ w 5 = dash from b71), Bool.true_and, Bool.true_and, Bool.false_or, Bool.eq_iff_iff]; simp)), s32, s33, s34, rfl, o75, o76, o77, o78, h74, m79⟩
 rintro f81 H80 ⟨s82, s83, s84, s85, s86, o87, o88, o89, o90, h91, m92⟩
 rcases Bool.eq_false_or_eq_true (cageHas s (w.drop 1)) with b93 | b93
 refine AWP.condF s82 (nb b93) ?_
 refine AWP.skip ?_
 refine AWP.seq ?_
 refine AWP.seq (AWP.region rfl ?_)
 refine AOps.cons rfl rfl (AOp.move _ rfl s86 (AOps.cons rfl rfl (AOp.pcall («as» := [.sl (numsL ([(at_ w 3), (at_ w 4), (at_ w 6)] : List ByteArray)).length ((numsL ([(at_ w 3), (at_ w 4), (at_ w 6)] : List ByteArray)).map eI), .int .i64 0, .int .i64 1, .int .i64 0, .int .i64 2]) rfl rfl (rfl) tf_89 (c_rwithin1 (numsL ([(at_ w 3), (at_ w 4), (at_ w 6)] : List ByteArray)) 0 1 0 2 (by omega) (by omega) (by omega) (by omega)) ?_)))
 intro H94 m95
 have h96 := m95 _ _ h91
 have o97 := Own.mono o87 m95
 have o98 := Own.mono o88 m95
 have o99 := Own.mono o89 m95
 have o100 := MO.mono o90 m95
 have m101 := m92.trans m95
 refine AOps.cons rfl rfl (AOp.not rfl rfl (AOps.cons rfl rfl (AOp.move _ rfl rfl ?_)))
 rcases Bool.eq_false_or_eq_true (inB 0 2 [at_ (numsL ([(at_ w 3), (at_ w 4), (at_ w 6)] : List ByteArray)) 0]) with b102 | b102
 refine AOps.yes rfl rfl rfl rfl rfl rfl rfl (nb b102) (AOp.move _ rfl s86 (AOps.yes rfl rfl rfl rfl rfl rfl rfl (nb b102) (AOp.pcall («as» := [.sl (numsL ([(at_ w 3), (at_ w 4), (at_ w 6)] : List ByteArray)).length ((numsL ([(at_ w 3), (at_ w 4), (at_ w 6)] : List ByteArray)).map eI), .int .i64 1, .int .i64 2, .int .i64 1, .int .i64 65536]) rfl rfl (rfl) tf_89 (c_rwithin1 (numsL ([(at_ w 3), (at_ w 4), (at_ w 6)] : List ByteArray)) 1 2 1 65536 (by omega) (by omega) (by omega) (by omega)) ?_)))
 intro H103 m104
 have h105 := m104 _ _ h96
 have o106 := Own.mono o97 m104
 have o107 := Own.mono o98 m104
 have o108 := Own.mono o99 m104
 have o109 := MO.mono o100 m104
 have m110 := m101.trans m104
 refine AOps.yes rfl rfl rfl rfl rfl rfl rfl (nb b102) (AOp.not rfl rfl (AOps.cons rfl rfl (AOp.pickF _ rfl rfl (nb b102) rfl (AOps.cons rfl rfl (AOp.move _ rfl rfl ?_)))))
 rcases Bool.eq_false_or_eq_true (inB 1 65536 [at_ (numsL ([(at_ w 3), (at_ w 4), (at_ w 6)] : List ByteArray)) 1]) with b111 | b111
 refine AOps.yes rfl rfl rfl rfl rfl rfl rfl (nb b111) (AOp.move _ rfl s86 (AOps.yes rfl rfl rfl rfl rfl rfl rfl (nb b111) (AOp.pcall («as» := [.sl (numsL ([(at_ w 3), (at_ w 4), (at_ w 6)] : List ByteArray)).length ((numsL ([(at_ w 3), (at_ w 4), (at_ w 6)] : List ByteArray)).map eI), .int .i64 2, .int .i64 3, .int .i64 0, .int .i64 255]) rfl rfl (rfl) tf_89 (c_rwithin1 (numsL ([(at_ w 3), (at_ w 4), (at_ w 6)] : List ByteArray)) 2 3 0 255 (by omega) (by omega) (by omega) (by omega)) ?_)))
 intro H112 m113
 have h114 := m113 _ _ h105
 have o115 := Own.mono o106 m113
 have o116 := Own.mono o107 m113
 have o117 := Own.mono o108 m113
 have o118 := MO.mono o109 m113
 have m119 := m110.trans m113
 refine AOps.yes rfl rfl rfl rfl rfl rfl rfl (nb b111) (AOp.not rfl rfl (AOps.cons rfl rfl (AOp.pickF _ rfl rfl (nb b111) rfl ?_)))
 refine AOps.nil ?_
 change AWP _ _ _ _ _ _
 rcases Bool.eq_false_or_eq_true (inB 0 255 [at_ (numsL ([(at_ w 3), (at_ w 4), (at_ w 6)] : List ByteArray)) 2]) with b120 | b120
 refine AWP.condF rfl (nb b120) ?_
 refine AWP.skip ?_
 refine AWP.seq ?_
 refine AWP.region_str mixed (by kernel_rfl) [(0, none), (1, none), (2, none), (3, none), (4, none), (5, none), (6, none), (7, none), (8, none), (9, none), (10, none), (11, none), (12, none), (13, none), (14, none), (15, none), (16, none), (17, none), (18, none), (19, none), (20, none), (21, none), (22, none), (23, none), (24, none), (25, none), (26, none), (27, none), (28, none), (29, some [0, 1, 2, 3, 4, 5]), (30, some [0])] [31, 32, 33, 34] (by kernel_rfl) ?_
 refine STR.op rfl rfl (.inl ⟨rfl, fun H1 f' H' hf hN hM => AOp.move _ rfl ((hf 0 rfl).trans s83) ⟨rfl, hN⟩⟩) ?_
 refine STR.op rfl rfl (.inl ⟨rfl, fun H1 f' H' hf hN hM => AOp.move _ rfl ((hf 0 rfl).trans s83) ⟨rfl, hN⟩⟩) ?_
 refine STR.op rfl rfl (.inl ⟨rfl, fun H1 f' H' hf hN hM => AOp.nilCheck (.ptr id ver 0) rfl ((hf 102 rfl).trans rfl) rfl ⟨rfl, hN⟩⟩) ?_
 refine STR.op rfl rfl (.inl ⟨rfl, fun H1 f' H' hf hN hM => AOp.fieldAddr rfl ((hf 103 rfl).trans rfl) fl_63_0 ⟨rfl, hN⟩ (hid := ⟨_, (hM _ _ h114)⟩)⟩) ?_
 refine STR.op rfl rfl (.inl ⟨rfl, fun H1 f' H' hf hN hM => AOp.fieldAddr rfl ((hf 104 rfl).trans rfl) fl_35_5 ⟨rfl, hN⟩ (hid := ⟨_, (hM _ _ h114)⟩)⟩) ?_
 refine STR.op rfl rfl (.inl ⟨rfl, fun H1 f' H' hf hN hM => AOp.load _ rfl ((hf 105 rfl).trans rfl) ty_32 (hM _ _ h114) rfl ⟨rfl, hN⟩⟩) ?_
 refine STR.op rfl rfl (.inl ⟨rfl, fun H1 f' H' hf hN hM => AOp.move _ rfl ((hf 1 rfl).trans s84) ⟨rfl, hN⟩⟩) ?_
 refine STR.op rfl rfl (.inl ⟨rfl, fun H1 f' H' hf hN hM => AOp.indexAddrS rfl ((hf 107 rfl).trans rfl) rfl sl_57 (by omega) (by omega) ⟨rfl, hN⟩⟩) ?_
 refine STR.op rfl rfl (.inl ⟨rfl, fun H1 f' H' hf hN hM => AOp.loadF _ rfl ((hf 108 rfl).trans rfl) ty_9 (ld1 (by omega) (by omega)) ⟨rfl, hN⟩⟩) ?_
 refine STR.op rfl rfl (.inl ⟨rfl, fun H1 f' H' hf hN hM => AOp.move _ rfl ((hf 0 rfl).trans s83) ⟨rfl, hN⟩⟩) ?_
 refine STR.op rfl rfl (.inl ⟨rfl, fun H1 f' H' hf hN hM => AOp.move _ rfl ((hf 1 rfl).trans s84) ⟨rfl, hN⟩⟩) ?_
 refine STR.op rfl rfl (.inl ⟨rfl, fun H1 f' H' hf hN hM => AOp.indexAddrS rfl ((hf 111 rfl).trans rfl) rfl sl_57 (by omega) (by omega) ⟨rfl, hN⟩⟩) ?_
 refine STR.op rfl rfl (.inl ⟨rfl, fun H1 f' H' hf hN hM => AOp.loadF _ rfl ((hf 112 rfl).trans rfl) ty_9 (ld1 (by omega) (by omega)) ⟨rfl, hN⟩⟩) ?_
 refine STR.op rfl rfl (.inl ⟨rfl, fun H1 f' H' hf hN hM => AOp.pcallH («as» := [.ptr id ver 0, .str (at_ w 2)]) rfl rfl (lapp (lcons ((hf 110 rfl).trans rfl) (lcons ((hf 113 rfl).trans rfl) rfl)) rfl) tf_94 ((c_rMat (B := B) (m119.trans hM) hB (hM _ _ h114) (o116.mono hM) nM (by have := ok.m; omega) (at_ w 2))) fun H2 m2 => ⟨rfl, hN.trans m2⟩⟩) ?_
 refine STR.op rfl rfl (.inl ⟨rfl, fun H1 f' H' hf hN hM => AOp.move _ rfl ((hf 5 rfl).trans s86) ⟨rfl, hN⟩⟩) ?_
 refine STR.op rfl rfl (.inl ⟨rfl, fun H1 f' H' hf hN hM => AOp.indexAddrS rfl ((hf 115 rfl).trans rfl) rfl sl_68 (by omega) (by omega) ⟨rfl, hN⟩⟩) ?_
 refine STR.op rfl rfl (.inl ⟨rfl, fun H1 f' H' hf hN hM => AOp.loadF _ rfl ((hf 116 rfl).trans rfl) ty_3 (ld1 (by omega) (by omega)) ⟨rfl, hN⟩⟩) ?_
 refine STR.op rfl rfl (.inl ⟨rfl, fun H1 f' H' hf hN hM => AOp.move _ rfl ((hf 5 rfl).trans s86) ⟨rfl, hN⟩⟩) ?_
 refine STR.op rfl rfl (.inl ⟨rfl, fun H1 f' H' hf hN hM => AOp.indexAddrS rfl ((hf 118 rfl).trans rfl) rfl sl_68 (by omega) (by omega) ⟨rfl, hN⟩⟩) ?_
 refine STR.op rfl rfl (.inl ⟨rfl, fun H1 f' H' hf hN hM => AOp.loadF _ rfl ((hf 119 rfl).trans rfl) ty_3 (ld1 (by omega) (by omega)) ⟨rfl, hN⟩⟩) ?_
 refine STR.op rfl rfl (.inl ⟨rfl, fun H1 f' H' hf hN hM => AOp.move _ rfl ((hf 0 rfl).trans s83) ⟨rfl, hN⟩⟩) ?_
 refine STR.op rfl rfl (.inl ⟨rfl, fun H1 f' H' hf hN hM => AOp.move _ rfl ((hf 1 rfl).trans s84) ⟨rfl, hN⟩⟩) ?_
 refine STR.op rfl rfl (.inl ⟨rfl, fun H1 f' H' hf hN hM => AOp.indexAddrS rfl ((hf 122 rfl).trans rfl) rfl sl_57 (by omega) (by omega) ⟨rfl, hN⟩⟩) ?_
 refine STR.op rfl rfl (.inl ⟨rfl, fun H1 f' H' hf hN hM => AOp.loadF _ rfl ((hf 123 rfl).trans rfl) ty_9 (ld1 (by omega) (by omega)) ⟨rfl, hN⟩⟩) ?_
 refine STR.op rfl rfl (.inl ⟨rfl, fun H1 f' H' hf hN hM => AOp.pcallH («as» := [.ptr id ver 0, .str (at_ w 5)]) rfl rfl (lapp (lcons ((hf 121 rfl).trans rfl) (lcons ((hf 124 rfl).trans rfl) rfl)) rfl) tf_93 ((c_rTex (B := B) (m119.trans hM) hB (hM _ _ h114) (o117.mono hM) nT (by have := ok.t; omega) (at_ w 5))) fun H2 m2 => ⟨rfl, hN.trans m2⟩⟩) ?_
 refine STR.op rfl rfl (.inl ⟨rfl, fun H1 f' H' hf hN hM => AOp.move _ rfl ((hf 5 rfl).trans s86) ⟨rfl, hN⟩⟩) ?_
 refine STR.op rfl rfl (.inl ⟨rfl, fun H1 f' H' hf hN hM => AOp.indexAddrS rfl ((hf 126 rfl).trans rfl) rfl sl_68 (by omega) (by omega) ⟨rfl, hN⟩⟩) ?_
 refine STR.op rfl rfl (.inl ⟨rfl, fun H1 f' H' hf hN hM => AOp.loadF _ rfl ((hf 127 rfl).trans rfl) ty_3 (ld1 (by omega) (by omega)) ⟨rfl, hN⟩⟩) ?_
 refine STR.op rfl rfl (.inl ⟨rfl, fun H1 f' H' hf hN hM => AOp.build (cells := [.str (at_ w 1), .int .i64 (matX s (at_ w 2)), .int .i64 (at_ (numsL ([(at_ w 3), (at_ w 4), (at_ w 6)] : List ByteArray)) 0), .int .i64 (at_ (numsL ([(at_ w 3), (at_ w 4), (at_ w 6)] : List ByteArray)) 1), .int .i64 (texX s (at_ w 5)), .int .i64 (at_ (numsL ([(at_ w 3), (at_ w 4), (at_ w 6)] : List ByteArray)) 2)]) rfl tz_50 pl_50 (lconsP ((hf 109 rfl).trans rfl) (lconsP ((hf 114 rfl).trans rfl) (lconsP ((hf 117 rfl).trans rfl) (lconsP ((hf 120 rfl).trans rfl) (lconsP ((hf 125 rfl).trans rfl) (lconsP ((hf 128 rfl).trans rfl) rfl)))))) rfl ⟨rfl, hN⟩⟩) ?_
 refine STR.eff rfl rfl rfl fun f121 H122 hf123 m124 => ?_
 have h125 := m124 _ _ h114
 have o126 := Own.mono o115 m124
 have o127 := Own.mono o116 m124
 have o128 := Own.mono o117 m124
 have o129 := MO.mono o118 m124
 have m130 := m119.trans m124
 refine AOp.buildSlice (cells := [.str (at_ w 1), .int .i64 (matX s (at_ w 2)), .int .i64 (at_ (numsL ([(at_ w 3), (at_ w 4), (at_ w 6)] : List ByteArray)) 0), .int .i64 (at_ (numsL ([(at_ w 3), (at_ w 4), (at_ w 6)] : List ByteArray)) 1), .int .i64 (texX s (at_ w 5)), .int .i64 (at_ (numsL ([(at_ w 3), (at_ w 4), (at_ w 6)] : List ByteArray)) 2)]) rfl u_32 ts_50 tz_50 rfl (lconsP ((hf123 129 rfl).trans rfl) rfl) rfl ?_
 intro i131 H132 n133 h134 k135
 have h138 := keep k135 (ne_new h125 n133) h125
 have o139 := Own.keep o126 k135 (Own.notnew o126 n133)
 have o141 := Own.keep o127 k135 (Own.notnew o127 n133)
 have o143 := Own.keep o128 k135 (Own.notnew o128 n133)
 have o145 := MO.keep o129 k135 (MO.notnew o129 n133)
 have m147 := Mono.new m130 n133 k135
 refine ⟨_, rfl, .inl (Mono.new (Mono.refl _) n133 k135), ?_⟩
 refine STR.eff rfl rfl rfl fun f148 H149 hf150 m151 => ?_
 have h152 := m151 _ _ h138
 have h153 := m151 _ _ h134
 have o154 := Own.mono o139 m151
 have o155 := Own.mono o141 m151
 have o156 := Own.mono o143 m151
 have o157 := MO.mono o145 m151
 have m158 := m147.trans m151
 refine AOp.append_own (es := 6) (m := 1) (len := s.skins.length) (old := s.skins.flatMap eSkin) (cells := [.str (at_ w 1), .int .i64 (matX s (at_ w 2)), .int .i64 (at_ (numsL ([(at_ w 3), (at_ w 4), (at_ w 6)] : List ByteArray)) 0), .int .i64 (at_ (numsL ([(at_ w 3), (at_ w 4), (at_ w 6)] : List ByteArray)) 1), .int .i64 (texX s (at_ w 5)), .int .i64 (at_ (numsL ([(at_ w 3), (at_ w 4), (at_ w 6)] : List ByteArray)) 2)]) rfl u_32 ts_50 tzn_50 tb_50 (by decide) ni_32 ((hf150 106 rfl).trans rfl) o154 m158 ((hf150 130 rfl).trans rfl) (.slm h153 rfl) (one_of rfl) (by decide) (by first | omega | (simp; omega)) ?_
 intro v159 H160 o161 m162 k163 j164
 have o165 := Own.snocM (xs := (s.skins : List SkinT)) (y := (SkinT.mk (at_ w 1) (matX s (at_ w 2)) (at_ (numsL ([(at_ w 3), (at_ w 4), (at_ w 6)] : List ByteArray)) 0) (at_ (numsL ([(at_ w 3), (at_ w 4), (at_ w 6)] : List ByteArray)) 1) (texX s (at_ w 5)) (at_ (numsL ([(at_ w 3), (at_ w 4), (at_ w 6)] : List ByteArray)) 2))) (e := eSkin) (by simp) o161
 have h166 := (k163 _ nS (by rw [h152]; simp)).trans h152
 have no167 := j164 _ nS (by rw [h152]; simp)
 have sp169 := Own.sep o155 sMS j164
 have o168 := Own.stay o155 sMS k163
 have sp171 := Own.sep o156 sTS j164
 have o170 := Own.stay o156 sTS k163
 have sp173 := MO.sep o157 sp1c j164
 have o172 := MO.stay o157 sp1c k163
 refine ⟨_, rfl, .inr (RevR.skip rfl (RevR.skip rfl (RevR.skip rfl (RevR.skip rfl (RevR.skip rfl (RevR.skip rfl (RevR.skip rfl (RevR.skip rfl (RevR.skip rfl (RevR.skip rfl (RevR.skip rfl (RevR.skip rfl (RevR.skip rfl (RevR.skip rfl (RevR.skip rfl (RevR.skip rfl (RevR.skip rfl (RevR.skip rfl (RevR.skip rfl (RevR.skip rfl (RevR.skip rfl (RevR.skip rfl (RevR.skip rfl (RevR.skip rfl (RevR.skip rfl (RevR.skip rfl (RevR.skip rfl (RevR.skip rfl (RevR.skip rfl (RevR.cons rfl (.inl ⟨rfl, fun H1 f' H' hf hN hM => AOp.move _ rfl ((hf 0 rfl).trans s83) ⟨rfl, hN⟩⟩) RevR.nil)))))))))))))))))))))))))))))), ?_⟩
 refine STR.done fun H174 m175 => ?_
 have h176 := m175 _ _ h166
 have o177 := Own.mono o168 m175
 have o178 := Own.mono o170 m175
 have o179 := MO.mono o172 m175
 have o180 := Own.mono o165 m175
 have m181 := m162.trans m175
 refine AOps.cons rfl rfl (AOp.nilCheck (.ptr id ver 0) rfl rfl rfl ?_)
 refine AOps.cons rfl rfl (AOp.fieldAddr rfl rfl fl_63_0 ?_ (hid := ⟨_, h176⟩))
 refine AOps.cons rfl rfl (AOp.fieldAddr rfl rfl fl_35_5 ?_ (hid := ⟨_, h176⟩))
 refine AOps.cons rfl rfl (AOp.storeO (cells' := rdC s.cam s.sky vL vM vT v159 vC s.hc s.hs) rfl rfl o180 ts_32 h176 rfl rfl ?_)
 intro H182 h183 k184
 have o186 := Own.keep o177 k184 nM
 have o187 := Own.keep o178 k184 nT
 have o188 := MO.keep o179 k184 ng3
 have o189 := Own.keep o180 k184 no167
 have m190 := Mono.set m181 hB k184
 refine AWP.seq ?_
 have hRD : RDv B H182 id ver { s with skins := (s.skins ++ [(SkinT.mk (at_ w 1) (matX s (at_ w 2)) (at_ (numsL ([(at_ w 3), (at_ w 4), (at_ w 6)] : List ByteArray)) 0) (at_ (numsL ([(at_ w 3), (at_ w 4), (at_ w 6)] : List ByteArray)) 1) (texX s (at_ w 5)) (at_ (numsL ([(at_ w 3), (at_ w 4), (at_ w 6)] : List ByteArray)) 2))]) } vL vM vT v159 vC vV vF vK := ⟨h183, hB, (MO.put (L := (rdL s vL vM vT vS vC vV vF vK)) (e := (6, v159, (s.skins ++ [(SkinT.mk (at_ w 1) (matX s (at_ w 2)) (at_ (numsL ([(at_ w 3), (at_ w 4), (at_ w 6)] : List ByteArray)) 0) (at_ (numsL ([(at_ w 3), (at_ w 4), (at_ w 6)] : List ByteArray)) 1) (texX s (at_ w 5)) (at_ (numsL ([(at_ w 3), (at_ w 4), (at_ w 6)] : List ByteArray)) 2))]).length, (s.skins ++ [(SkinT.mk (at_ w 1) (matX s (at_ w 2)) (at_ (numsL ([(at_ w 3), (at_ w 4), (at_ w 6)] : List ByteArray)) 0) (at_ (numsL ([(at_ w 3), (at_ w 4), (at_ w 6)] : List ByteArray)) 1) (texX s (at_ w 5)) (at_ (numsL ([(at_ w 3), (at_ w 4), (at_ w 6)] : List ByteArray)) 2))]).flatMap eSkin)) 3 (by simp [rdL]) (MO.put (L := ((rdL s vL vM vT vS vC vV vF vK).eraseIdx 3)) (e := (9, vM, s.mats.length, s.mats.flatMap eMat)) 1 (by simp [rdL]) (MO.put (L := (((rdL s vL vM vT vS vC vV vF vK).eraseIdx 3).eraseIdx 1)) (e := (4, vT, s.texs.length, s.texs.flatMap eTex)) 1 (by simp [rdL]) o188 o187 sp3) o186 (SepM.put (L := (((rdL s vL vM vT vS vC vV vF vK).eraseIdx 3).eraseIdx 1)) (e := (4, vT, s.texs.length, s.texs.flatMap eTex)) 1 sp2b sTM)) o189 (SepM.put (L := ((rdL s vL vM vT vS vC vV vF vK).eraseIdx 3)) (e := (9, vM, s.mats.length, s.mats.flatMap eMat)) 1 (SepM.put (L := (((rdL s vL vM vT vS vC vV vF vK).eraseIdx 3).eraseIdx 1)) (e := (4, vT, s.texs.length, s.texs.flatMap eTex)) 1 sp173 sp171) sp169)), (NotIdM.put (L := (rdL s vL vM vT vS vC vV vF vK)) (e := (6, v159, (s.skins ++ [(SkinT.mk (at_ w 1) (matX s (at_ w 2)) (at_ (numsL ([(at_ w 3), (at_ w 4), (at_ w 6)] : List ByteArray)) 0) (at_ (numsL ([(at_ w 3), (at_ w 4), (at_ w 6)] : List ByteArray)) 1) (texX s (at_ w 5)) (at_ (numsL ([(at_ w 3), (at_ w 4), (at_ w 6)] : List ByteArray)) 2))]).length, (s.skins ++ [(SkinT.mk (at_ w 1) (matX s (at_ w 2)) (at_ (numsL ([(at_ w 3), (at_ w 4), (at_ w 6)] : List ByteArray)) 0) (at_ (numsL ([(at_ w 3), (at_ w 4), (at_ w 6)] : List ByteArray)) 1) (texX s (at_ w 5)) (at_ (numsL ([(at_ w 3), (at_ w 4), (at_ w 6)] : List ByteArray)) 2))]).flatMap eSkin)) 3 (NotIdM.put (L := ((rdL s vL vM vT vS vC vV vF vK).eraseIdx 3)) (e := (9, vM, s.mats.length, s.mats.flatMap eMat)) 1 (NotIdM.put (L := (((rdL s vL vM vT vS vC vV vF vK).eraseIdx 3).eraseIdx 1)) (e := (4, vT, s.texs.length, s.texs.flatMap eTex)) 1 ng3 nT) nM) no167)⟩
 refine AWP.freezeC hRD m190 fun H5 m5 hr5 g5 n5 => ?_
 obtain ⟨oC5, og5, sp5⟩ := g5.at 4 rfl
 have oC6 : Own B H5 3 vC (s.cages.map some).length ((s.cages.map some).flatMap eCg) := Own.re oC5 (by simp) (eCg_all _).symm
 have nC5 : NotId vC id := n5.at 4 rfl
 have n6 := n5.erase 4
 have hcc := ok.c
 refine AWP.region rfl ?_
 refine AOps.cons rfl rfl (AOp.move _ rfl s83 (AOps.cons rfl rfl (AOp.move _ rfl s83 (AOps.cons rfl rfl (AOp.nilCheck (.ptr id ver 0) rfl rfl rfl ?_)))))
 refine AOps.cons rfl rfl (AOp.fieldAddr rfl rfl fl_63_0 ?_ (hid := ⟨_, hr5⟩))
 refine AOps.cons rfl rfl (AOp.fieldAddr rfl rfl fl_35_6 ?_ (hid := ⟨_, hr5⟩))
 refine AOps.cons rfl rfl (AOp.load _ rfl rfl ty_33 hr5 rfl (AOps.cons rfl rfl (AOp.build (cells := [.snil, .snil, .snil]) rfl tz_48 pl_48 rfl rfl (AOps.cons rfl rfl (AOp.buildSlice (cells := [.snil, .snil, .snil]) rfl u_33 ts_48 tz_48 rfl rfl rfl ?_)))))
 intro i191 H192 n193 h194 k195
 have h198 := keep k195 (ne_new hr5 n193) hr5
 have o199 := Own.keep oC6 k195 (Own.notnew oC6 n193)
 have o201 := MO.keep og5 k195 (MO.notnew og5 n193)
 have m203 := Mono.new m5 n193 k195
 refine AOps.cons rfl rfl (AOp.append_own (es := 3) (m := 1) (len := ((s.cages.map some).length)) (old := (s.cages.map some).flatMap eCg) (cells := [.snil, .snil, .snil]) rfl u_33 ts_48 tzn_48 tb_48 (by decide) ni_33 rfl o199 m203 rfl (.slm h194 rfl) (one_of rfl) (by decide) (by first | omega | (simp; omega)) ?_)
 intro v204 H205 o206 m207 k208 j209
 have o210 := Own.snocM (xs := ((s.cages.map some) : List (Option CageT))) (y := (none : Option CageT)) (e := eCg) (by simp) o206
 have h211 := (k208 _ nC5 (by rw [h198]; simp)).trans h198
 have no212 := j209 _ nC5 (by rw [h198]; simp)
 have sp214 := MO.sep o201 sp5 j209
 have o213 := MO.stay o201 sp5 k208
 refine AOps.cons rfl rfl (AOp.nilCheck (.ptr id ver 0) rfl rfl rfl ?_)
 refine AOps.cons rfl rfl (AOp.fieldAddr rfl rfl fl_63_0 ?_ (hid := ⟨_, h211⟩))
 refine AOps.cons rfl rfl (AOp.fieldAddr rfl rfl fl_35_6 ?_ (hid := ⟨_, h211⟩))
 refine AOps.cons rfl rfl (AOp.storeO (cells' := rdC s.cam s.sky vL vM vT v159 v204 s.hc s.hs) rfl rfl o210 ts_33 h211 rfl rfl ?_)
 intro H215 h216 k217
 have o219 := MO.keep o213 k217 n6
 have o220 := Own.keep o210 k217 no212
 have m221 := Mono.set m207 hB k217
 refine AWP.seq (AWP.region rfl ?_)
 refine AOps.cons rfl rfl (AOp.assign _ rfl rfl ?_)
 refine AWP.ret ?_
 exact ⟨_, _, Ghost.refl, .inr rfl, _, Res.one rfl rfl, .inl ⟨_, (cage_eq s w).trans (gT (b41) (gT (hb42) (gT (decide_eq_true (by omega)) (gT (b93) (gT (b102) (gT (b111) (gT (b120) (rfl)))))))), ⟨_, _, _, _, _, _, _, _, RDv.push (s := { s with skins := (s.skins ++ [(SkinT.mk (at_ w 1) (matX s (at_ w 2)) (at_ (numsL ([(at_ w 3), (at_ w 4), (at_ w 6)] : List ByteArray)) 0) (at_ (numsL ([(at_ w 3), (at_ w 4), (at_ w 6)] : List ByteArray)) 1) (texX s (at_ w 5)) (at_ (numsL ([(at_ w 3), (at_ w 4), (at_ w 6)] : List ByteArray)) 2))]) }) h216 hB (MO.put (L := [(6, vL, s.lights.length, s.lights.flatMap eLight), (9, vM, s.mats.length, s.mats.flatMap eMat), (4, vT, s.texs.length, s.texs.flatMap eTex), (6, v159, (s.skins ++ [(SkinT.mk (at_ w 1) (matX s (at_ w 2)) (at_ (numsL ([(at_ w 3), (at_ w 4), (at_ w 6)] : List ByteArray)) 0) (at_ (numsL ([(at_ w 3), (at_ w 4), (at_ w 6)] : List ByteArray)) 1) (texX s (at_ w 5)) (at_ (numsL ([(at_ w 3), (at_ w 4), (at_ w 6)] : List ByteArray)) 2))]).length, (s.skins ++ [(SkinT.mk (at_ w 1) (matX s (at_ w 2)) (at_ (numsL ([(at_ w 3), (at_ w 4), (at_ w 6)] : List ByteArray)) 0) (at_ (numsL ([(at_ w 3), (at_ w 4), (at_ w 6)] : List ByteArray)) 1) (texX s (at_ w 5)) (at_ (numsL ([(at_ w 3), (at_ w 4), (at_ w 6)] : List ByteArray)) 2))]).flatMap eSkin), (3, vC, s.cages.length, s.cages.flatMap eCage)]) (e := (3, v204, s.cages.length + 1, s.cages.flatMap eCage ++ ([.snil, .snil, .snil] : List AV))) 4 (by simp) o219 (Own.re o220 (by simp) (eCg_push _)) sp214) (NotIdM.put (L := [(6, vL, s.lights.length, s.lights.flatMap eLight), (9, vM, s.mats.length, s.mats.flatMap eMat), (4, vT, s.texs.length, s.texs.flatMap eTex), (6, v159, (s.skins ++ [(SkinT.mk (at_ w 1) (matX s (at_ w 2)) (at_ (numsL ([(at_ w 3), (at_ w 4), (at_ w 6)] : List ByteArray)) 0) (at_ (numsL ([(at_ w 3), (at_ w 4), (at_ w 6)] : List ByteArray)) 1) (texX s (at_ w 5)) (at_ (numsL ([(at_ w 3), (at_ w 4), (at_ w 6)] : List ByteArray)) 2))]).length, (s.skins ++ [(SkinT.mk (at_ w 1) (matX s (at_ w 2)) (at_ (numsL ([(at_ w 3), (at_ w 4), (at_ w 6)] : List ByteArray)) 0) (at_ (numsL ([(at_ w 3), (at_ w 4), (at_ w 6)] : List ByteArray)) 1) (texX s (at_ w 5)) (at_ (numsL ([(at_ w 3), (at_ w 4), (at_ w 6)] : List ByteArray)) 2))]).flatMap eSkin), (3, vC, s.cages.length, s.cages.flatMap eCage)]) (e := (3, v204, s.cages.length + 1, s.cages.flatMap eCage ++ ([.snil, .snil, .snil] : List AV))) 4 n6 no212)⟩, m221, rfl⟩⟩
 refine AWP.condT rfl (nb b120) ?_
 refine AWP.seq (AWP.region rfl ?_)
 refine AOps.cons rfl rfl (AOp.assign _ rfl rfl ?_)
 refine AWP.ret ?_
 exact ⟨_, _, Ghost.refl, .inr rfl, _, Res.one rfl rfl, .inr ⟨11, (cage_eq s w).trans (gT (b41) (gT (hb42) (gT (decide_eq_true (by omega)) (gT (b93) (gT (b102) (gT (b111) (gF (b120)))))))), m119, rfl⟩⟩
 refine AOps.no rfl rfl rfl rfl rfl rfl rfl (ble_of (nb b111) (by decide)) (AOps.no rfl rfl rfl rfl rfl rfl rfl (ble_of (nb b111) (by decide)) (AOps.no rfl rfl rfl rfl rfl rfl rfl (ble_of (nb b111) (by decide)) (AOps.cons rfl rfl (AOp.pickT _ rfl rfl (nb b111) rfl ?_))))
 refine AWP.condT rfl rfl ?_
 refine AWP.seq (AWP.region rfl ?_)
 refine AOps.cons rfl rfl (AOp.assign _ rfl rfl ?_)
 refine AWP.ret ?_
 exact ⟨_, _, Ghost.refl, .inr rfl, _, Res.one rfl rfl, .inr ⟨11, (cage_eq s w).trans (gT (b41) (gT (hb42) (gT (decide_eq_true (by omega)) (gT (b93) (gT (b102) (gF (b111))))))), m110, rfl⟩⟩
 refine AOps.no rfl rfl rfl rfl rfl rfl rfl (ble_of (nb b102) (by decide)) (AOps.no rfl rfl rfl rfl rfl rfl rfl (ble_of (nb b102) (by decide)) (AOps.no rfl rfl rfl rfl rfl rfl rfl (ble_of (nb b102) (by decide)) (AOps.cons rfl rfl (AOp.pickT _ rfl rfl (nb b102) rfl (AOps.cons rfl rfl (AOp.move _ rfl rfl (AOps.no rfl rfl rfl rfl rfl rfl rfl (ble_of rfl (by decide)) ?_)))))))
 refine AOps.no rfl rfl rfl rfl rfl rfl rfl (ble_of rfl (by decide)) (AOps.no rfl rfl rfl rfl rfl rfl rfl (ble_of rfl (by decide)) (AOps.cons rfl rfl (AOp.pickT _ rfl rfl rfl rfl ?_)))
 refine AWP.condT rfl rfl ?_
 refine AWP.seq (AWP.region rfl ?_)
 refine AOps.cons rfl rfl (AOp.assign _ rfl rfl ?_)
 refine AWP.ret ?_
 exact ⟨_, _, Ghost.refl, .inr rfl, _, Res.one rfl rfl, .inr ⟨11, (cage_eq s w).trans (gT (b41) (gT (hb42) (gT (decide_eq_true (by omega)) (gT (b93) (gF (b102)))))), m101, rfl⟩⟩
 refine AWP.condT s82 (nb b93) ?_
 refine AWP.seq (AWP.region rfl ?_)
 refine AOps.cons rfl rfl (AOp.assign _ rfl rfl ?_)
 refine AWP.ret ?_
 exact ⟨_, _, Ghost.refl, .inr rfl, _, Res.one rfl rfl, .inr ⟨12, (cage_eq s w).trans (gT (b41) (gT (hb42) (gT (decide_eq_true (by omega)) (gF (b93))))), m92, rfl⟩⟩
 refine QE.op rfl rfl (.inl ⟨rfl, fun f' H' hf hM => AOp.pcall («as» := [.sl ([(at_ w 3), (at_ w 4), (at_ w 6)] : List ByteArray).length (([(at_ w 3), (at_ w 4), (at_ w 6)] : List ByteArray).map eStr)]) rfl rfl (lapp (lcons ((hf 47 rfl).trans rfl) rfl) rfl) tf_88 (c_rnumbers_F hb42 ([(at_ w 3), (at_ w 4), (at_ w 6)] : List ByteArray) (by first | omega | assumption | (simp only [List.length_drop, List.length_take]; omega) | (simp; omega) | simp)) fun H2 m2 => ⟨rfl, hM.trans m2⟩⟩) ?_
 refine QE.op rfl rfl (.inl ⟨rfl, fun f' H' hf hM => AOp.move _ rfl ((hf 48 rfl).trans rfl) ⟨rfl, hM⟩⟩) ?_
 refine QE.op rfl rfl (.inl ⟨rfl, fun f' H' hf hM => AOp.extract _ rfl ((hf 37 rfl).trans rfl) rfl ⟨rfl, hM⟩⟩) ?_
 refine QE.op rfl rfl (.inl ⟨rfl, fun f' H' hf hM => AOp.extract _ rfl ((hf 37 rfl).trans rfl) rfl ⟨rfl, hM⟩⟩) ?_
 refine QE.op rfl rfl (.inl ⟨rfl, fun f' H' hf hM => AOp.assign _ rfl ((hf 49 rfl).trans rfl) ⟨rfl, hM⟩⟩) ?_
 refine QE.op rfl rfl (.inl ⟨rfl, fun f' H' hf hM => AOp.assign _ rfl ((hf 50 rfl).trans rfl) ⟨rfl, hM⟩⟩) ?_
 refine QE.done fun H222 m223 => ?_
 have m229 := m40.trans m223
 refine AWP.seq ?_
 refine AWP.seq (AWP.region rfl ?_)
 refine AOps.cons rfl rfl (AOp.move _ rfl rfl (AOps.cons rfl rfl (AOp.not rfl rfl ?_)))
 refine AWP.condT rfl rfl ?_
 refine AWP.seq (AWP.region rfl ?_)
 refine AOps.cons rfl rfl (AOp.assign _ rfl rfl ?_)
 refine AWP.ret ?_
 exact ⟨_, _, Ghost.refl, .inr rfl, _, Res.one rfl rfl, .inr ⟨10, (cage_eq s w).trans (gT (b41) (gF (hb42))), m229, rfl⟩⟩
 refine AWP.condT s31 (nb b41) ?_
 refine AWP.seq (AWP.region rfl ?_)
 refine AOps.cons rfl rfl (AOp.assign _ rfl rfl ?_)
 refine AWP.ret ?_
 exact ⟨_, _, Ghost.refl, .inr rfl, _, Res.one rfl rfl, .inr ⟨10, (cage_eq s w).trans (gF (b41)), m40, rfl⟩⟩
end Go.Proofs.S
