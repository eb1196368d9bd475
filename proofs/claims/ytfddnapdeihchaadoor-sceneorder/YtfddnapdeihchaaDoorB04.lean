/- A part of the proof that a law answers true for every input of its row: own work, by an AI agent. -/
import Derived.Test.YtfddnapdeihchaaDoorB03
import Derived.Test.YtfddnapdeihchaaDoorB00
set_option linter.unusedSimpArgs false
set_option linter.unusedVariables false
set_option linter.defProp false
namespace Go.Proofs.S
open Go Go.AH Go.Proofs.L
set_option maxRecDepth 4000
set_option maxHeartbeats 4000000
set_option linter.unusedSimpArgs false
set_option linter.unusedVariables false
set_option linter.unusedSectionVars false
variable [LexG]
theorem c_sameInts (a b : List Int) (ha : a.length ≤ 1048576) (hb : b.length ≤ 1048576) : PC Tryd.prog 17 [.sl a.length (a.map eI), .sl b.length (b.map eI)] (.bool (decide (a = b))) := by
 intro H0
 refine ACalls.of_body' (n := 26) rfl rfl rfl rfl ?_
 have m0 := Mono.refl H0
 refine AWP.seq ?_
 refine AWP.region (l := [0]) rfl ?_
 refine AOps.cons rfl rfl (AOp.assign (.bool false) rfl rfl ?_)
 refine AOps.nil ?_
 change AWP _ _ _ _ _ _
 refine AWP.seq ?_
 refine AWP.seq ?_
 refine AWP.region (l := [0, 1, 2, 3, 4]) rfl ?_
 refine AOps.cons rfl rfl (AOp.move (.sl a.length (a.map eI)) rfl rfl ?_)
 refine AOps.cons rfl rfl (AOp.len (m := a.length) rfl rfl (.inr (.inl ⟨_, rfl⟩)) u_47 ?_)
 refine AOps.cons rfl rfl (AOp.move (.sl b.length (b.map eI)) rfl rfl ?_)
 refine AOps.cons rfl rfl (AOp.len (m := b.length) rfl rfl (.inr (.inl ⟨_, rfl⟩)) u_47 ?_)
 refine AOps.cons rfl rfl (AOp.bin (.bool (!decide ((a.length : Int) = (b.length : Int)))) rfl rfl rfl ine ?_)
 refine AOps.nil ?_
 change AWP _ _ _ _ _ _
 by_cases b1 : (a.length : Int) = (b.length : Int)
 ·
  refine AWP.condF rfl (nb (decide_eq_true b1)) ?_
  refine AWP.skip ?_
  change AWP _ _ _ _ _ _
  refine AWP.seq ?_
  refine AWP.seq ?_
  refine AWP.region (l := [0]) rfl ?_
  refine AOps.cons rfl rfl (AOp.assign (.int .i64 0) rfl rfl ?_)
  refine AOps.nil ?_
  change AWP _ _ _ _ _ _
  refine AWP.block ?_
  refine AWP.loop (fun q2 fq Hq => ∃ (i : Int), q2 = (((a.length : Int) : Int) - i).toNat ∧ fq 5 = .int .i64 i ∧ fq 0 = .sl a.length (a.map eI) ∧ fq 1 = .sl b.length (b.map eI) ∧ Mono H0 Hq ∧ (0 ≤ i) ∧ (i ≤ (a.length : Int)) ∧ ((a.length : Int) = b.length) ∧ (∀ j : Int, 0 ≤ j → j < i → at_ a j = at_ b j)) (k := (((a.length : Int) : Int) - 0).toNat) ?_ ?_
  ·
   exact ⟨0, rfl, rfl, rfl, rfl, m0, by omega, by omega, by assumption, by intro j; omega⟩
  ·
   rintro _ f4 H3 ⟨i, rfl, s5, s6, s7, m8, hi0, hi1, hl, pre⟩
   refine AWP.seq ?_
   refine AWP.seq ?_
   refine AWP.region (l := [0, 1, 2, 3]) rfl ?_
   refine AOps.cons rfl rfl (AOp.move (.int .i64 i) rfl s5 ?_)
   refine AOps.cons rfl rfl (AOp.move (.sl a.length (a.map eI)) rfl s6 ?_)
   refine AOps.cons rfl rfl (AOp.len (m := a.length) rfl rfl (.inr (.inl ⟨_, rfl⟩)) u_47 ?_)
   refine AOps.cons rfl rfl (AOp.bin (.bool (decide (i < (a.length : Int)))) rfl rfl rfl rfl ?_)
   refine AOps.nil ?_
   change AWP _ _ _ _ _ _
   by_cases b9 : i < (a.length : Int)
   ·
    refine AWP.condT rfl (decide_eq_true b9) ?_
    refine AWP.skip ?_
    change AWP _ _ _ _ _ _
    refine AWP.seq ?_
    refine AWP.block ?_
    refine AWP.seq ?_
    refine AWP.region_quiet mixed (by kernel_rfl) 9 [] rfl (by kernel_rfl) (Mono H3) (Mono.refl _) ?_
    refine QE.op rfl rfl (.inl ⟨rfl, fun f' H' hf hM => AOp.move (.sl a.length (a.map eI)) rfl ((hf 0 rfl).trans s6) ⟨rfl, hM⟩⟩) ?_
    refine QE.op rfl rfl (.inl ⟨rfl, fun f' H' hf hM => AOp.move (.int .i64 i) rfl ((hf 5 rfl).trans s5) ⟨rfl, hM⟩⟩) ?_
    refine QE.op rfl rfl (.inl ⟨rfl, fun f' H' hf hM => AOp.indexAddrS rfl ((hf 17 rfl).trans rfl) ((hf 18 rfl).trans rfl) sl_47 (by omega) (by omega) ⟨rfl, hM⟩⟩) ?_
    refine QE.op rfl rfl (.inl ⟨rfl, fun f' H' hf hM => AOp.loadF (.int .i64 (at_ a i)) rfl ((hf 19 rfl).trans rfl) ty_3 (ld1 (by omega) (by omega)) ⟨rfl, hM⟩⟩) ?_
    refine QE.op rfl rfl (.inl ⟨rfl, fun f' H' hf hM => AOp.move (.sl b.length (b.map eI)) rfl ((hf 1 rfl).trans s7) ⟨rfl, hM⟩⟩) ?_
    refine QE.op rfl rfl (.inl ⟨rfl, fun f' H' hf hM => AOp.move (.int .i64 i) rfl ((hf 5 rfl).trans s5) ⟨rfl, hM⟩⟩) ?_
    refine QE.op rfl rfl (.inl ⟨rfl, fun f' H' hf hM => AOp.indexAddrS rfl ((hf 21 rfl).trans rfl) ((hf 22 rfl).trans rfl) sl_47 (by omega) (by omega) ⟨rfl, hM⟩⟩) ?_
    refine QE.op rfl rfl (.inl ⟨rfl, fun f' H' hf hM => AOp.loadF (.int .i64 (at_ b i)) rfl ((hf 23 rfl).trans rfl) ty_3 (ld1 (by omega) (by omega)) ⟨rfl, hM⟩⟩) ?_
    refine QE.op rfl rfl (.inl ⟨rfl, fun f' H' hf hM => AOp.bin (.bool (!decide (at_ a i = at_ b i))) rfl ((hf 20 rfl).trans rfl) ((hf 24 rfl).trans rfl) ine ⟨rfl, hM⟩⟩) ?_
    refine QE.done fun H10 m11 => ?_
    have m12 := m8.trans m11
    refine AOps.nil ?_
    change AWP _ _ _ _ _ _
    by_cases b13 : at_ a i = at_ b i
    ·
     refine AWP.condF rfl (nb (decide_eq_true b13)) ?_
     refine AWP.skip ?_
     change AWP _ _ _ _ _ _
     refine AWP.region (l := [0, 1, 2]) rfl ?_
     refine AOps.cons rfl rfl (AOp.move (.int .i64 i) rfl s5 ?_)
     refine AOps.cons rfl rfl (AOp.bin (.int .i64 (i + 1)) rfl rfl rfl (iadd (by omega)) ?_)
     refine AOps.cons rfl rfl (AOp.assign (.int .i64 (i + 1)) rfl rfl ?_)
     refine AOps.nil ?_
     exact ⟨_, by omega, i + 1, rfl, rfl, s6, s7, m12, by omega, by omega, by assumption, by exact pre_step pre (b13)⟩
    ·
     refine AWP.condT rfl (nb (decide_eq_false b13)) ?_
     refine AWP.seq ?_
     refine AWP.region (l := [0]) rfl ?_
     refine AOps.cons rfl rfl (AOp.assign (.bool false) rfl rfl ?_)
     refine AOps.nil ?_
     change AWP _ _ _ _ _ _
     refine AWP.ret ?_
     refine ⟨_, _, Ghost.refl, .inr rfl, _, Res.one rfl rfl, ?_, m12⟩
     exact (congrArg AV.bool (rfl.trans (decide_eq_false (show ¬ (a = b) from by rintro rfl; first | omega | (exact absurd rfl b13))).symm))
   ·
    refine AWP.condF rfl (decide_eq_false b9) ?_
    refine AWP.exit ?_
    change AWP _ _ _ _ _ _
    refine AWP.seq ?_
    refine AWP.region (l := [0]) rfl ?_
    refine AOps.cons rfl rfl (AOp.assign (.bool true) rfl rfl ?_)
    refine AOps.nil ?_
    change AWP _ _ _ _ _ _
    refine AWP.ret ?_
    refine ⟨_, _, Ghost.refl, .inr rfl, _, Res.one rfl rfl, ?_, m8⟩
    exact (congrArg AV.bool (rfl.trans (decide_eq_true (show a = b from by exact ext_at (by omega) (fun j h1 h2 => pre j h1 (by omega)))).symm))
 ·
  refine AWP.condT rfl (nb (decide_eq_false b1)) ?_
  refine AWP.seq ?_
  refine AWP.region (l := [0]) rfl ?_
  refine AOps.cons rfl rfl (AOp.assign (.bool false) rfl rfl ?_)
  refine AOps.nil ?_
  change AWP _ _ _ _ _ _
  refine AWP.ret ?_
  refine ⟨_, _, Ghost.refl, .inr rfl, _, Res.one rfl rfl, ?_, m0⟩
  exact (congrArg AV.bool (rfl.trans (decide_eq_false (show ¬ (a = b) from by rintro rfl; first | omega | (exact absurd rfl b1))).symm))
theorem c_sameCage (a b : CageT) (ra : ranCage a) (rb : ranCage b) : PC Tryd.prog 18 [.agg [.sl a.Verts.length (a.Verts.flatMap eV), .sl a.Faces.length (a.Faces.map eF), .sl a.Creases.length (a.Creases.flatMap eCr)], .agg [.sl b.Verts.length (b.Verts.flatMap eV), .sl b.Faces.length (b.Faces.map eF), .sl b.Creases.length (b.Creases.flatMap eCr)]] (.bool (decide (a = b))) := by
 intro H0
 obtain ⟨⟨na1, na2, na3⟩, ra2⟩ := id ra
 obtain ⟨⟨nb1, nb2, nb3⟩, rb2⟩ := id rb
 refine ACalls.of_body' (n := 88) rfl rfl rfl rfl ?_
 have m0 := Mono.refl H0
 refine AWP.seq ?_
 refine AWP.region (l := [0, 1, 2]) rfl ?_
 refine AOps.cons rfl rfl (AOp.box (.agg [.sl a.Verts.length (a.Verts.flatMap eV), .sl a.Faces.length (a.Faces.map eF), .sl a.Creases.length (a.Creases.flatMap eCr)]) rfl rfl rfl ?_)
 intro i1 H2 n3 h4 k5
 have z6 := Mono.free m0 n3
 have m7 := Mono.new m0 n3 k5
 refine AOps.cons rfl rfl (AOp.box (.agg [.sl b.Verts.length (b.Verts.flatMap eV), .sl b.Faces.length (b.Faces.map eF), .sl b.Creases.length (b.Creases.flatMap eCr)]) rfl rfl rfl ?_)
 intro i8 H9 n10 h11 k12
 have e13 := ne_new h4 n10
 have z14 := Mono.free m7 n10
 have h15 := keep k12 (ne_new h4 n10) h4
 have m16 := Mono.new m7 n10 k12
 refine AOps.cons rfl rfl (AOp.assign (.bool false) rfl rfl ?_)
 refine AOps.nil ?_
 change AWP _ _ _ _ _ _
 refine AWP.seq ?_
 refine AWP.seq ?_
 refine AWP.frzP 2 h15 z6 rfl m16 fun H17 m18 k19 => ?_
 have h20 := (k19 _ (Ne.symm e13)).trans h11
 refine AWP.frzP 3 h20 z14 rfl m18 fun H21 m22 k23 => ?_
 refine AWP.region (l := [0, 1, 2, 3, 4, 5, 6, 7, 8, 9, 10, 11, 12, 13, 14, 15, 16, 17, 18, 19, 20, 21, 22, 23, 24]) rfl ?_
 refine AOps.cons rfl rfl (AOp.fieldAddrF rfl rfl fl_46_0 ?_)
 refine AOps.cons rfl rfl (AOp.loadF (.sl a.Verts.length (a.Verts.flatMap eV)) rfl rfl ty_42 rfl ?_)
 refine AOps.cons rfl rfl (AOp.len (m := a.Verts.length) rfl rfl (.inr (.inl ⟨_, rfl⟩)) u_42 ?_)
 refine AOps.cons rfl rfl (AOp.fieldAddrF rfl rfl fl_46_0 ?_)
 refine AOps.cons rfl rfl (AOp.loadF (.sl b.Verts.length (b.Verts.flatMap eV)) rfl rfl ty_42 rfl ?_)
 refine AOps.cons rfl rfl (AOp.len (m := b.Verts.length) rfl rfl (.inr (.inl ⟨_, rfl⟩)) u_42 ?_)
 refine AOps.cons rfl rfl (AOp.bin (.bool (!decide ((a.Verts.length : Int) = (b.Verts.length : Int)))) rfl rfl rfl ine ?_)
 refine AOps.cons rfl rfl (AOp.move (.bool (!decide ((a.Verts.length : Int) = (b.Verts.length : Int)))) rfl rfl ?_)
 by_cases b24 : (a.Verts.length : Int) = (b.Verts.length : Int)
 ·
  refine AOps.yes rfl rfl rfl rfl rfl rfl rfl (nb (decide_eq_true b24)) (AOp.fieldAddrF rfl rfl fl_46_1 ?_)
  refine AOps.yes rfl rfl rfl rfl rfl rfl rfl (nb (decide_eq_true b24)) (AOp.loadF (.sl a.Faces.length (a.Faces.map eF)) rfl rfl ty_43 rfl ?_)
  refine AOps.yes rfl rfl rfl rfl rfl rfl rfl (nb (decide_eq_true b24)) (AOp.len (m := a.Faces.length) rfl rfl (.inr (.inl ⟨_, rfl⟩)) u_43 ?_)
  refine AOps.yes rfl rfl rfl rfl rfl rfl rfl (nb (decide_eq_true b24)) (AOp.fieldAddrF rfl rfl fl_46_1 ?_)
  refine AOps.yes rfl rfl rfl rfl rfl rfl rfl (nb (decide_eq_true b24)) (AOp.loadF (.sl b.Faces.length (b.Faces.map eF)) rfl rfl ty_43 rfl ?_)
  refine AOps.yes rfl rfl rfl rfl rfl rfl rfl (nb (decide_eq_true b24)) (AOp.len (m := b.Faces.length) rfl rfl (.inr (.inl ⟨_, rfl⟩)) u_43 ?_)
  refine AOps.yes rfl rfl rfl rfl rfl rfl rfl (nb (decide_eq_true b24)) (AOp.bin (.bool (!decide ((a.Faces.length : Int) = (b.Faces.length : Int)))) rfl rfl rfl ine ?_)
  refine AOps.cons rfl rfl (AOp.pickF (.bool (!decide ((a.Faces.length : Int) = (b.Faces.length : Int)))) rfl rfl (nb (decide_eq_true b24)) rfl ?_)
  refine AOps.cons rfl rfl (AOp.move (.bool (!decide ((a.Faces.length : Int) = (b.Faces.length : Int)))) rfl rfl ?_)
  by_cases b25 : (a.Faces.length : Int) = (b.Faces.length : Int)
  ·
   refine AOps.yes rfl rfl rfl rfl rfl rfl rfl (nb (decide_eq_true b25)) (AOp.fieldAddrF rfl rfl fl_46_2 ?_)
   refine AOps.yes rfl rfl rfl rfl rfl rfl rfl (nb (decide_eq_true b25)) (AOp.loadF (.sl a.Creases.length (a.Creases.flatMap eCr)) rfl rfl ty_44 rfl ?_)
   refine AOps.yes rfl rfl rfl rfl rfl rfl rfl (nb (decide_eq_true b25)) (AOp.len (m := a.Creases.length) rfl rfl (.inr (.inl ⟨_, rfl⟩)) u_44 ?_)
   refine AOps.yes rfl rfl rfl rfl rfl rfl rfl (nb (decide_eq_true b25)) (AOp.fieldAddrF rfl rfl fl_46_2 ?_)
   refine AOps.yes rfl rfl rfl rfl rfl rfl rfl (nb (decide_eq_true b25)) (AOp.loadF (.sl b.Creases.length (b.Creases.flatMap eCr)) rfl rfl ty_44 rfl ?_)
   refine AOps.yes rfl rfl rfl rfl rfl rfl rfl (nb (decide_eq_true b25)) (AOp.len (m := b.Creases.length) rfl rfl (.inr (.inl ⟨_, rfl⟩)) u_44 ?_)
   refine AOps.yes rfl rfl rfl rfl rfl rfl rfl (nb (decide_eq_true b25)) (AOp.bin (.bool (!decide ((a.Creases.length : Int) = (b.Creases.length : Int)))) rfl rfl rfl ine ?_)
   refine AOps.cons rfl rfl (AOp.pickF (.bool (!decide ((a.Creases.length : Int) = (b.Creases.length : Int)))) rfl rfl (nb (decide_eq_true b25)) rfl ?_)
   refine AOps.nil ?_
   change AWP _ _ _ _ _ _
   by_cases b26 : (a.Creases.length : Int) = (b.Creases.length : Int)
   ·
    refine AWP.condF rfl (nb (decide_eq_true b26)) ?_
    refine AWP.skip ?_
    change AWP _ _ _ _ _ _
    refine AWP.seq ?_
    refine AWP.seq ?_
    refine AWP.region (l := [0]) rfl ?_
    refine AOps.cons rfl rfl (AOp.assign (.int .i64 0) rfl rfl ?_)
    refine AOps.nil ?_
    change AWP _ _ _ _ _ _
    refine AWP.block ?_
    refine AWP.loop (fun q27 fq Hq => ∃ (i0 : Int), q27 = (((a.Verts.length : Int) : Int) - i0).toNat ∧ fq 5 = .int .i64 i0 ∧ fq 2 = .fptr [.sl a.Verts.length (a.Verts.flatMap eV), .sl a.Faces.length (a.Faces.map eF), .sl a.Creases.length (a.Creases.flatMap eCr)] 0 ∧ fq 3 = .fptr [.sl b.Verts.length (b.Verts.flatMap eV), .sl b.Faces.length (b.Faces.map eF), .sl b.Creases.length (b.Creases.flatMap eCr)] 0 ∧ Mono H0 Hq ∧ (0 ≤ i0) ∧ (i0 ≤ (a.Verts.length : Int)) ∧ (∀ j : Int, 0 ≤ j → j < i0 → at_ a.Verts j = at_ b.Verts j)) (k := (((a.Verts.length : Int) : Int) - 0).toNat) ?_ ?_
    ·
     exact ⟨0, rfl, rfl, rfl, rfl, m22, by omega, by omega, by intro j; omega⟩
    ·
     rintro _ f29 H28 ⟨i0, rfl, s30, s31, s32, m33, hi00, hi01, pre0⟩
     refine AWP.seq ?_
     refine AWP.seq ?_
     refine AWP.region (l := [0, 1, 2, 3, 4]) rfl ?_
     refine AOps.cons rfl rfl (AOp.move (.int .i64 i0) rfl s30 ?_)
     refine AOps.cons rfl rfl (AOp.fieldAddrF rfl s31 fl_46_0 ?_)
     refine AOps.cons rfl rfl (AOp.loadF (.sl a.Verts.length (a.Verts.flatMap eV)) rfl rfl ty_42 rfl ?_)
     refine AOps.cons rfl rfl (AOp.len (m := a.Verts.length) rfl rfl (.inr (.inl ⟨_, rfl⟩)) u_42 ?_)
     refine AOps.cons rfl rfl (AOp.bin (.bool (decide (i0 < (a.Verts.length : Int)))) rfl rfl rfl rfl ?_)
     refine AOps.nil ?_
     change AWP _ _ _ _ _ _
     by_cases b34 : i0 < (a.Verts.length : Int)
     ·
      refine AWP.condT rfl (decide_eq_true b34) ?_
      refine AWP.skip ?_
      change AWP _ _ _ _ _ _
      refine AWP.seq ?_
      refine AWP.block ?_
      refine AWP.seq ?_
      refine AWP.region_quiet mixed (by kernel_rfl) 11 [] rfl (by kernel_rfl) (Mono H28) (Mono.refl _) ?_
      refine QE.op rfl rfl (.inl ⟨rfl, fun f' H' hf hM => AOp.fieldAddrF rfl ((hf 2 rfl).trans s31) fl_46_0 ⟨rfl, hM⟩⟩) ?_
      refine QE.op rfl rfl (.inl ⟨rfl, fun f' H' hf hM => AOp.loadF (.sl a.Verts.length (a.Verts.flatMap eV)) rfl ((hf 40 rfl).trans rfl) ty_42 rfl ⟨rfl, hM⟩⟩) ?_
      refine QE.op rfl rfl (.inl ⟨rfl, fun f' H' hf hM => AOp.move (.int .i64 i0) rfl ((hf 5 rfl).trans s30) ⟨rfl, hM⟩⟩) ?_
      refine QE.op rfl rfl (.inl ⟨rfl, fun f' H' hf hM => AOp.indexAddrS rfl ((hf 41 rfl).trans rfl) ((hf 42 rfl).trans rfl) sl_42 (by omega) (by omega) ⟨rfl, hM⟩⟩) ?_
      refine QE.op rfl rfl (.inl ⟨rfl, fun f' H' hf hM => AOp.loadF (.agg [.int .i64 ((at_ a.Verts i0).X), .int .i64 ((at_ a.Verts i0).Y), .int .i64 ((at_ a.Verts i0).Z)]) rfl ((hf 43 rfl).trans rfl) ty_24 (ldM eV_len (by omega) (by omega)) ⟨rfl, hM⟩⟩) ?_
      refine QE.op rfl rfl (.inl ⟨rfl, fun f' H' hf hM => AOp.fieldAddrF rfl ((hf 3 rfl).trans s32) fl_46_0 ⟨rfl, hM⟩⟩) ?_
      refine QE.op rfl rfl (.inl ⟨rfl, fun f' H' hf hM => AOp.loadF (.sl b.Verts.length (b.Verts.flatMap eV)) rfl ((hf 45 rfl).trans rfl) ty_42 rfl ⟨rfl, hM⟩⟩) ?_
      refine QE.op rfl rfl (.inl ⟨rfl, fun f' H' hf hM => AOp.move (.int .i64 i0) rfl ((hf 5 rfl).trans s30) ⟨rfl, hM⟩⟩) ?_
      refine QE.op rfl rfl (.inl ⟨rfl, fun f' H' hf hM => AOp.indexAddrS rfl ((hf 46 rfl).trans rfl) ((hf 47 rfl).trans rfl) sl_42 (by omega) (by omega) ⟨rfl, hM⟩⟩) ?_
      refine QE.op rfl rfl (.inl ⟨rfl, fun f' H' hf hM => AOp.loadF (.agg [.int .i64 ((at_ b.Verts i0).X), .int .i64 ((at_ b.Verts i0).Y), .int .i64 ((at_ b.Verts i0).Z)]) rfl ((hf 48 rfl).trans rfl) ty_24 (ldM eV_len (by omega) (by omega)) ⟨rfl, hM⟩⟩) ?_
      refine QE.op rfl rfl (.inl ⟨rfl, fun f' H' hf hM => AOp.neAggD rfl ((hf 44 rfl).trans rfl) ((hf 49 rfl).trans rfl) teq24 (kokV (v := (at_ a.Verts i0)) (by first | assumption | exact (ra.2.1 _ (at_memS (by omega) (by omega))))) (kokV (v := (at_ b.Verts i0)) (by first | assumption | exact (rb.2.1 _ (at_memS (by omega) (by omega))))) (eV_iff (at_ a.Verts i0) (at_ b.Verts i0)) ⟨rfl, hM⟩⟩) ?_
      refine QE.done fun H35 m36 => ?_
      have m37 := m33.trans m36
      refine AOps.nil ?_
      change AWP _ _ _ _ _ _
      by_cases b38 : (at_ a.Verts i0) = (at_ b.Verts i0)
      ·
       refine AWP.condF rfl (nb (decide_eq_true b38)) ?_
       refine AWP.skip ?_
       change AWP _ _ _ _ _ _
       refine AWP.region (l := [0, 1, 2]) rfl ?_
       refine AOps.cons rfl rfl (AOp.move (.int .i64 i0) rfl s30 ?_)
       refine AOps.cons rfl rfl (AOp.bin (.int .i64 (i0 + 1)) rfl rfl rfl (iadd (by omega)) ?_)
       refine AOps.cons rfl rfl (AOp.assign (.int .i64 (i0 + 1)) rfl rfl ?_)
       refine AOps.nil ?_
       exact ⟨_, by omega, i0 + 1, rfl, rfl, s31, s32, m37, by omega, by omega, by exact pre_step pre0 (b38)⟩
      ·
       refine AWP.condT rfl (nb (decide_eq_false b38)) ?_
       refine AWP.seq ?_
       refine AWP.region (l := [0]) rfl ?_
       refine AOps.cons rfl rfl (AOp.assign (.bool false) rfl rfl ?_)
       refine AOps.nil ?_
       change AWP _ _ _ _ _ _
       refine AWP.ret ?_
       refine ⟨_, _, Ghost.refl, .inr rfl, _, Res.one rfl rfl, ?_, m37⟩
       exact (congrArg AV.bool (rfl.trans (decide_eq_false (show ¬ (a = b) from by rintro rfl; first | omega | (exact absurd rfl b38))).symm))
     ·
      refine AWP.condF rfl (decide_eq_false b34) ?_
      refine AWP.exit ?_
      change AWP _ _ _ _ _ _
      refine AWP.seq ?_
      refine AWP.seq ?_
      refine AWP.region (l := [0]) rfl ?_
      refine AOps.cons rfl rfl (AOp.assign (.int .i64 0) rfl rfl ?_)
      refine AOps.nil ?_
      change AWP _ _ _ _ _ _
      refine AWP.block ?_
      refine AWP.loop (fun q39 fq Hq => ∃ (i1 : Int), q39 = (((a.Faces.length : Int) : Int) - i1).toNat ∧ fq 6 = .int .i64 i1 ∧ fq 2 = .fptr [.sl a.Verts.length (a.Verts.flatMap eV), .sl a.Faces.length (a.Faces.map eF), .sl a.Creases.length (a.Creases.flatMap eCr)] 0 ∧ fq 3 = .fptr [.sl b.Verts.length (b.Verts.flatMap eV), .sl b.Faces.length (b.Faces.map eF), .sl b.Creases.length (b.Creases.flatMap eCr)] 0 ∧ Mono H0 Hq ∧ (0 ≤ i1) ∧ (i1 ≤ (a.Faces.length : Int)) ∧ (∀ j : Int, 0 ≤ j → j < i1 → at_ a.Faces j = at_ b.Faces j)) (k := (((a.Faces.length : Int) : Int) - 0).toNat) ?_ ?_
      ·
       exact ⟨0, rfl, rfl, s31, s32, m33, by omega, by omega, by intro j; omega⟩
      ·
       rintro _ f41 H40 ⟨i1, rfl, s42, s43, s44, m45, hi10, hi11, pre1⟩
       refine AWP.seq ?_
       refine AWP.seq ?_
       refine AWP.region (l := [0, 1, 2, 3, 4]) rfl ?_
       refine AOps.cons rfl rfl (AOp.move (.int .i64 i1) rfl s42 ?_)
       refine AOps.cons rfl rfl (AOp.fieldAddrF rfl s43 fl_46_1 ?_)
       refine AOps.cons rfl rfl (AOp.loadF (.sl a.Faces.length (a.Faces.map eF)) rfl rfl ty_43 rfl ?_)
       refine AOps.cons rfl rfl (AOp.len (m := a.Faces.length) rfl rfl (.inr (.inl ⟨_, rfl⟩)) u_43 ?_)
       refine AOps.cons rfl rfl (AOp.bin (.bool (decide (i1 < (a.Faces.length : Int)))) rfl rfl rfl rfl ?_)
       refine AOps.nil ?_
       change AWP _ _ _ _ _ _
       by_cases b46 : i1 < (a.Faces.length : Int)
       ·
        refine AWP.condT rfl (decide_eq_true b46) ?_
        refine AWP.skip ?_
        change AWP _ _ _ _ _ _
        refine AWP.seq ?_
        refine AWP.block ?_
        refine AWP.seq ?_
        refine AWP.region_quiet mixed (by kernel_rfl) 12 [] rfl (by kernel_rfl) (Mono H40) (Mono.refl _) ?_
        refine QE.op rfl rfl (.inl ⟨rfl, fun f' H' hf hM => AOp.fieldAddrF rfl ((hf 2 rfl).trans s43) fl_46_1 ⟨rfl, hM⟩⟩) ?_
        refine QE.op rfl rfl (.inl ⟨rfl, fun f' H' hf hM => AOp.loadF (.sl a.Faces.length (a.Faces.map eF)) rfl ((hf 58 rfl).trans rfl) ty_43 rfl ⟨rfl, hM⟩⟩) ?_
        refine QE.op rfl rfl (.inl ⟨rfl, fun f' H' hf hM => AOp.move (.int .i64 i1) rfl ((hf 6 rfl).trans s42) ⟨rfl, hM⟩⟩) ?_
        refine QE.op rfl rfl (.inl ⟨rfl, fun f' H' hf hM => AOp.indexAddrS rfl ((hf 59 rfl).trans rfl) ((hf 60 rfl).trans rfl) sl_43 (by omega) (by omega) ⟨rfl, hM⟩⟩) ?_
        refine QE.op rfl rfl (.inl ⟨rfl, fun f' H' hf hM => AOp.loadF (.sl (at_ a.Faces i1).length ((at_ a.Faces i1).map eI)) rfl ((hf 61 rfl).trans rfl) ty_47 (ld1 (by omega) (by omega)) ⟨rfl, hM⟩⟩) ?_
        refine QE.op rfl rfl (.inl ⟨rfl, fun f' H' hf hM => AOp.fieldAddrF rfl ((hf 3 rfl).trans s44) fl_46_1 ⟨rfl, hM⟩⟩) ?_
        refine QE.op rfl rfl (.inl ⟨rfl, fun f' H' hf hM => AOp.loadF (.sl b.Faces.length (b.Faces.map eF)) rfl ((hf 63 rfl).trans rfl) ty_43 rfl ⟨rfl, hM⟩⟩) ?_
        refine QE.op rfl rfl (.inl ⟨rfl, fun f' H' hf hM => AOp.move (.int .i64 i1) rfl ((hf 6 rfl).trans s42) ⟨rfl, hM⟩⟩) ?_
        refine QE.op rfl rfl (.inl ⟨rfl, fun f' H' hf hM => AOp.indexAddrS rfl ((hf 64 rfl).trans rfl) ((hf 65 rfl).trans rfl) sl_43 (by omega) (by omega) ⟨rfl, hM⟩⟩) ?_
        refine QE.op rfl rfl (.inl ⟨rfl, fun f' H' hf hM => AOp.loadF (.sl (at_ b.Faces i1).length ((at_ b.Faces i1).map eI)) rfl ((hf 66 rfl).trans rfl) ty_47 (ld1 (by omega) (by omega)) ⟨rfl, hM⟩⟩) ?_
        refine QE.op rfl rfl (.inl ⟨rfl, fun f' H' hf hM => AOp.pcall («as» := [.sl (at_ a.Faces i1).length ((at_ a.Faces i1).map eI), .sl (at_ b.Faces i1).length ((at_ b.Faces i1).map eI)]) rfl rfl (lapp (lcons ((hf 62 rfl).trans rfl) (lcons ((hf 67 rfl).trans rfl) rfl)) rfl) tf_17 (c_sameInts _ _ ((ra2.2.2 _ (at_memS (by omega) (by omega))).1) ((rb2.2.2 _ (at_memS (by omega) (by omega))).1)) fun H2 m2 => ⟨rfl, hM.trans m2⟩⟩) ?_
        refine QE.op rfl rfl (.inl ⟨rfl, fun f' H' hf hM => AOp.not rfl ((hf 68 rfl).trans rfl) ⟨rfl, hM⟩⟩) ?_
        refine QE.done fun H47 m48 => ?_
        have m49 := m45.trans m48
        refine AOps.nil ?_
        change AWP _ _ _ _ _ _
        by_cases b50 : at_ a.Faces i1 = at_ b.Faces i1
        ·
         refine AWP.condF rfl (nb (decide_eq_true b50)) ?_
         refine AWP.skip ?_
         change AWP _ _ _ _ _ _
         refine AWP.region (l := [0, 1, 2]) rfl ?_
         refine AOps.cons rfl rfl (AOp.move (.int .i64 i1) rfl s42 ?_)
         refine AOps.cons rfl rfl (AOp.bin (.int .i64 (i1 + 1)) rfl rfl rfl (iadd (by omega)) ?_)
         refine AOps.cons rfl rfl (AOp.assign (.int .i64 (i1 + 1)) rfl rfl ?_)
         refine AOps.nil ?_
         exact ⟨_, by omega, i1 + 1, rfl, rfl, s43, s44, m49, by omega, by omega, by exact pre_step pre1 (b50)⟩
        ·
         refine AWP.condT rfl (nb (decide_eq_false b50)) ?_
         refine AWP.seq ?_
         refine AWP.region (l := [0]) rfl ?_
         refine AOps.cons rfl rfl (AOp.assign (.bool false) rfl rfl ?_)
         refine AOps.nil ?_
         change AWP _ _ _ _ _ _
         refine AWP.ret ?_
         refine ⟨_, _, Ghost.refl, .inr rfl, _, Res.one rfl rfl, ?_, m49⟩
         exact (congrArg AV.bool (rfl.trans (decide_eq_false (show ¬ (a = b) from by rintro rfl; first | omega | (exact absurd rfl b50))).symm))
       ·
        refine AWP.condF rfl (decide_eq_false b46) ?_
        refine AWP.exit ?_
        change AWP _ _ _ _ _ _
        refine AWP.seq ?_
        refine AWP.seq ?_
        refine AWP.region (l := [0]) rfl ?_
        refine AOps.cons rfl rfl (AOp.assign (.int .i64 0) rfl rfl ?_)
        refine AOps.nil ?_
        change AWP _ _ _ _ _ _
        refine AWP.block ?_
        refine AWP.loop (fun q51 fq Hq => ∃ (i2 : Int), q51 = (((a.Creases.length : Int) : Int) - i2).toNat ∧ fq 7 = .int .i64 i2 ∧ fq 2 = .fptr [.sl a.Verts.length (a.Verts.flatMap eV), .sl a.Faces.length (a.Faces.map eF), .sl a.Creases.length (a.Creases.flatMap eCr)] 0 ∧ fq 3 = .fptr [.sl b.Verts.length (b.Verts.flatMap eV), .sl b.Faces.length (b.Faces.map eF), .sl b.Creases.length (b.Creases.flatMap eCr)] 0 ∧ Mono H0 Hq ∧ (0 ≤ i2) ∧ (i2 ≤ (a.Creases.length : Int)) ∧ (∀ j : Int, 0 ≤ j → j < i2 → at_ a.Creases j = at_ b.Creases j)) (k := (((a.Creases.length : Int) : Int) - 0).toNat) ?_ ?_
        ·
         exact ⟨0, rfl, rfl, s43, s44, m45, by omega, by omega, by intro j; omega⟩
        ·
         rintro _ f53 H52 ⟨i2, rfl, s54, s55, s56, m57, hi20, hi21, pre2⟩
         refine AWP.seq ?_
         refine AWP.seq ?_
         refine AWP.region (l := [0, 1, 2, 3, 4]) rfl ?_
         refine AOps.cons rfl rfl (AOp.move (.int .i64 i2) rfl s54 ?_)
         refine AOps.cons rfl rfl (AOp.fieldAddrF rfl s55 fl_46_2 ?_)
         refine AOps.cons rfl rfl (AOp.loadF (.sl a.Creases.length (a.Creases.flatMap eCr)) rfl rfl ty_44 rfl ?_)
         refine AOps.cons rfl rfl (AOp.len (m := a.Creases.length) rfl rfl (.inr (.inl ⟨_, rfl⟩)) u_44 ?_)
         refine AOps.cons rfl rfl (AOp.bin (.bool (decide (i2 < (a.Creases.length : Int)))) rfl rfl rfl rfl ?_)
         refine AOps.nil ?_
         change AWP _ _ _ _ _ _
         by_cases b58 : i2 < (a.Creases.length : Int)
         ·
          refine AWP.condT rfl (decide_eq_true b58) ?_
          refine AWP.skip ?_
          change AWP _ _ _ _ _ _
          refine AWP.seq ?_
          refine AWP.block ?_
          refine AWP.seq ?_
          refine AWP.region_quiet mixed (by kernel_rfl) 11 [] rfl (by kernel_rfl) (Mono H52) (Mono.refl _) ?_
          refine QE.op rfl rfl (.inl ⟨rfl, fun f' H' hf hM => AOp.fieldAddrF rfl ((hf 2 rfl).trans s55) fl_46_2 ⟨rfl, hM⟩⟩) ?_
          refine QE.op rfl rfl (.inl ⟨rfl, fun f' H' hf hM => AOp.loadF (.sl a.Creases.length (a.Creases.flatMap eCr)) rfl ((hf 77 rfl).trans rfl) ty_44 rfl ⟨rfl, hM⟩⟩) ?_
          refine QE.op rfl rfl (.inl ⟨rfl, fun f' H' hf hM => AOp.move (.int .i64 i2) rfl ((hf 7 rfl).trans s54) ⟨rfl, hM⟩⟩) ?_
          refine QE.op rfl rfl (.inl ⟨rfl, fun f' H' hf hM => AOp.indexAddrS rfl ((hf 78 rfl).trans rfl) ((hf 79 rfl).trans rfl) sl_44 (by omega) (by omega) ⟨rfl, hM⟩⟩) ?_
          refine QE.op rfl rfl (.inl ⟨rfl, fun f' H' hf hM => AOp.loadF (.agg [.int .i64 ((at_ a.Creases i2).A), .int .i64 ((at_ a.Creases i2).B), .int .i64 ((at_ a.Creases i2).S)]) rfl ((hf 80 rfl).trans rfl) ty_81 (ldM eCr_len (by omega) (by omega)) ⟨rfl, hM⟩⟩) ?_
          refine QE.op rfl rfl (.inl ⟨rfl, fun f' H' hf hM => AOp.fieldAddrF rfl ((hf 3 rfl).trans s56) fl_46_2 ⟨rfl, hM⟩⟩) ?_
          refine QE.op rfl rfl (.inl ⟨rfl, fun f' H' hf hM => AOp.loadF (.sl b.Creases.length (b.Creases.flatMap eCr)) rfl ((hf 82 rfl).trans rfl) ty_44 rfl ⟨rfl, hM⟩⟩) ?_
          refine QE.op rfl rfl (.inl ⟨rfl, fun f' H' hf hM => AOp.move (.int .i64 i2) rfl ((hf 7 rfl).trans s54) ⟨rfl, hM⟩⟩) ?_
          refine QE.op rfl rfl (.inl ⟨rfl, fun f' H' hf hM => AOp.indexAddrS rfl ((hf 83 rfl).trans rfl) ((hf 84 rfl).trans rfl) sl_44 (by omega) (by omega) ⟨rfl, hM⟩⟩) ?_
          refine QE.op rfl rfl (.inl ⟨rfl, fun f' H' hf hM => AOp.loadF (.agg [.int .i64 ((at_ b.Creases i2).A), .int .i64 ((at_ b.Creases i2).B), .int .i64 ((at_ b.Creases i2).S)]) rfl ((hf 85 rfl).trans rfl) ty_81 (ldM eCr_len (by omega) (by omega)) ⟨rfl, hM⟩⟩) ?_
          refine QE.op rfl rfl (.inl ⟨rfl, fun f' H' hf hM => AOp.neAggD rfl ((hf 81 rfl).trans rfl) ((hf 86 rfl).trans rfl) teq81 (kokCr (v := (at_ a.Creases i2)) (by first | assumption | exact (ra.2.2.1 _ (at_memS (by omega) (by omega))))) (kokCr (v := (at_ b.Creases i2)) (by first | assumption | exact (rb.2.2.1 _ (at_memS (by omega) (by omega))))) (eCr_iff (at_ a.Creases i2) (at_ b.Creases i2)) ⟨rfl, hM⟩⟩) ?_
          refine QE.done fun H59 m60 => ?_
          have m61 := m57.trans m60
          refine AOps.nil ?_
          change AWP _ _ _ _ _ _
          by_cases b62 : (at_ a.Creases i2) = (at_ b.Creases i2)
          ·
           refine AWP.condF rfl (nb (decide_eq_true b62)) ?_
           refine AWP.skip ?_
           change AWP _ _ _ _ _ _
           refine AWP.region (l := [0, 1, 2]) rfl ?_
           refine AOps.cons rfl rfl (AOp.move (.int .i64 i2) rfl s54 ?_)
           refine AOps.cons rfl rfl (AOp.bin (.int .i64 (i2 + 1)) rfl rfl rfl (iadd (by omega)) ?_)
           refine AOps.cons rfl rfl (AOp.assign (.int .i64 (i2 + 1)) rfl rfl ?_)
           refine AOps.nil ?_
           exact ⟨_, by omega, i2 + 1, rfl, rfl, s55, s56, m61, by omega, by omega, by exact pre_step pre2 (b62)⟩
          ·
           refine AWP.condT rfl (nb (decide_eq_false b62)) ?_
           refine AWP.seq ?_
           refine AWP.region (l := [0]) rfl ?_
           refine AOps.cons rfl rfl (AOp.assign (.bool false) rfl rfl ?_)
           refine AOps.nil ?_
           change AWP _ _ _ _ _ _
           refine AWP.ret ?_
           refine ⟨_, _, Ghost.refl, .inr rfl, _, Res.one rfl rfl, ?_, m61⟩
           exact (congrArg AV.bool (rfl.trans (decide_eq_false (show ¬ (a = b) from by rintro rfl; first | omega | (exact absurd rfl b62))).symm))
         ·
          refine AWP.condF rfl (decide_eq_false b58) ?_
          refine AWP.exit ?_
          change AWP _ _ _ _ _ _
          refine AWP.seq ?_
          refine AWP.region (l := [0]) rfl ?_
          refine AOps.cons rfl rfl (AOp.assign (.bool true) rfl rfl ?_)
          refine AOps.nil ?_
          change AWP _ _ _ _ _ _
          refine AWP.ret ?_
          refine ⟨_, _, Ghost.refl, .inr rfl, _, Res.one rfl rfl, ?_, m57⟩
          exact (congrArg AV.bool (rfl.trans (decide_eq_true (show a = b from by exact cage_ext (ext_at (by omega) (fun j h1 h2 => pre0 j h1 (by omega))) (ext_at (by omega) (fun j h1 h2 => pre1 j h1 (by omega))) (ext_at (by omega) (fun j h1 h2 => pre2 j h1 (by omega))))).symm))
   ·
    refine AWP.condT rfl (nb (decide_eq_false b26)) ?_
    refine AWP.seq ?_
    refine AWP.region (l := [0]) rfl ?_
    refine AOps.cons rfl rfl (AOp.assign (.bool false) rfl rfl ?_)
    refine AOps.nil ?_
    change AWP _ _ _ _ _ _
    refine AWP.ret ?_
    refine ⟨_, _, Ghost.refl, .inr rfl, _, Res.one rfl rfl, ?_, m22⟩
    exact (congrArg AV.bool (rfl.trans (decide_eq_false (show ¬ (a = b) from by rintro rfl; first | omega | (exact absurd rfl b26))).symm))
  ·
   refine AOps.no rfl rfl rfl rfl rfl rfl rfl (ble_of (nb (decide_eq_false b25)) (by decide)) ?_
   refine AOps.no rfl rfl rfl rfl rfl rfl rfl (ble_of (nb (decide_eq_false b25)) (by decide)) ?_
   refine AOps.no rfl rfl rfl rfl rfl rfl rfl (ble_of (nb (decide_eq_false b25)) (by decide)) ?_
   refine AOps.no rfl rfl rfl rfl rfl rfl rfl (ble_of (nb (decide_eq_false b25)) (by decide)) ?_
   refine AOps.no rfl rfl rfl rfl rfl rfl rfl (ble_of (nb (decide_eq_false b25)) (by decide)) ?_
   refine AOps.no rfl rfl rfl rfl rfl rfl rfl (ble_of (nb (decide_eq_false b25)) (by decide)) ?_
   refine AOps.no rfl rfl rfl rfl rfl rfl rfl (ble_of (nb (decide_eq_false b25)) (by decide)) ?_
   refine AOps.cons rfl rfl (AOp.pickT (.bool true) rfl rfl (nb (decide_eq_false b25)) rfl ?_)
   refine AOps.nil ?_
   change AWP _ _ _ _ _ _
   refine AWP.condT rfl rfl ?_
   refine AWP.seq ?_
   refine AWP.region (l := [0]) rfl ?_
   refine AOps.cons rfl rfl (AOp.assign (.bool false) rfl rfl ?_)
   refine AOps.nil ?_
   change AWP _ _ _ _ _ _
   refine AWP.ret ?_
   refine ⟨_, _, Ghost.refl, .inr rfl, _, Res.one rfl rfl, ?_, m22⟩
   exact (congrArg AV.bool (rfl.trans (decide_eq_false (show ¬ (a = b) from by rintro rfl; first | omega | (exact absurd rfl b25))).symm))
 ·
  refine AOps.no rfl rfl rfl rfl rfl rfl rfl (ble_of (nb (decide_eq_false b24)) (by decide)) ?_
  refine AOps.no rfl rfl rfl rfl rfl rfl rfl (ble_of (nb (decide_eq_false b24)) (by decide)) ?_
  refine AOps.no rfl rfl rfl rfl rfl rfl rfl (ble_of (nb (decide_eq_false b24)) (by decide)) ?_
  refine AOps.no rfl rfl rfl rfl rfl rfl rfl (ble_of (nb (decide_eq_false b24)) (by decide)) ?_
  refine AOps.no rfl rfl rfl rfl rfl rfl rfl (ble_of (nb (decide_eq_false b24)) (by decide)) ?_
  refine AOps.no rfl rfl rfl rfl rfl rfl rfl (ble_of (nb (decide_eq_false b24)) (by decide)) ?_
  refine AOps.no rfl rfl rfl rfl rfl rfl rfl (ble_of (nb (decide_eq_false b24)) (by decide)) ?_
  refine AOps.cons rfl rfl (AOp.pickT (.bool true) rfl rfl (nb (decide_eq_false b24)) rfl ?_)
  refine AOps.cons rfl rfl (AOp.move (.bool true) rfl rfl ?_)
  refine AOps.no rfl rfl rfl rfl rfl rfl rfl (ble_of rfl (by decide)) ?_
  refine AOps.no rfl rfl rfl rfl rfl rfl rfl (ble_of rfl (by decide)) ?_
  refine AOps.no rfl rfl rfl rfl rfl rfl rfl (ble_of rfl (by decide)) ?_
  refine AOps.no rfl rfl rfl rfl rfl rfl rfl (ble_of rfl (by decide)) ?_
  refine AOps.no rfl rfl rfl rfl rfl rfl rfl (ble_of rfl (by decide)) ?_
  refine AOps.no rfl rfl rfl rfl rfl rfl rfl (ble_of rfl (by decide)) ?_
  refine AOps.no rfl rfl rfl rfl rfl rfl rfl (ble_of rfl (by decide)) ?_
  refine AOps.cons rfl rfl (AOp.pickT (.bool true) rfl rfl rfl rfl ?_)
  refine AOps.nil ?_
  change AWP _ _ _ _ _ _
  refine AWP.condT rfl rfl ?_
  refine AWP.seq ?_
  refine AWP.region (l := [0]) rfl ?_
  refine AOps.cons rfl rfl (AOp.assign (.bool false) rfl rfl ?_)
  refine AOps.nil ?_
  change AWP _ _ _ _ _ _
  refine AWP.ret ?_
  refine ⟨_, _, Ghost.refl, .inr rfl, _, Res.one rfl rfl, ?_, m22⟩
  exact (congrArg AV.bool (rfl.trans (decide_eq_false (show ¬ (a = b) from by rintro rfl; first | omega | (exact absurd rfl b24))).symm))
theorem c_Same (a b : SceneT) (ra : RanS a) (rb : RanS b) (hsc : a.Skins.length = a.Cages.length) : PC Tryd.prog 10 [.agg [.int .i64 a.Camera.Eye.X, .int .i64 a.Camera.Eye.Y, .int .i64 a.Camera.Eye.Z, .int .i64 a.Camera.First.X, .int .i64 a.Camera.First.Y, .int .i64 a.Camera.First.Z, .int .i64 a.Camera.Right.X, .int .i64 a.Camera.Right.Y, .int .i64 a.Camera.Right.Z, .int .i64 a.Camera.Down.X, .int .i64 a.Camera.Down.Y, .int .i64 a.Camera.Down.Z, .int .i64 a.Camera.W, .int .i64 a.Camera.H, .int .i64 a.Camera.Grid, .int .i64 a.Camera.Depth, .int .i64 a.Sky.R, .int .i64 a.Sky.G, .int .i64 a.Sky.B, .sl a.Lights.length (a.Lights.flatMap eLight), .sl a.Mats.length (a.Mats.flatMap eMat), .sl a.Texs.length (a.Texs.flatMap eTex), .sl a.Skins.length (a.Skins.flatMap eSkin), .sl a.Cages.length (a.Cages.flatMap eCage)], .agg [.int .i64 b.Camera.Eye.X, .int .i64 b.Camera.Eye.Y, .int .i64 b.Camera.Eye.Z, .int .i64 b.Camera.First.X, .int .i64 b.Camera.First.Y, .int .i64 b.Camera.First.Z, .int .i64 b.Camera.Right.X, .int .i64 b.Camera.Right.Y, .int .i64 b.Camera.Right.Z, .int .i64 b.Camera.Down.X, .int .i64 b.Camera.Down.Y, .int .i64 b.Camera.Down.Z, .int .i64 b.Camera.W, .int .i64 b.Camera.H, .int .i64 b.Camera.Grid, .int .i64 b.Camera.Depth, .int .i64 b.Sky.R, .int .i64 b.Sky.G, .int .i64 b.Sky.B, .sl b.Lights.length (b.Lights.flatMap eLight), .sl b.Mats.length (b.Mats.flatMap eMat), .sl b.Texs.length (b.Texs.flatMap eTex), .sl b.Skins.length (b.Skins.flatMap eSkin), .sl b.Cages.length (b.Cages.flatMap eCage)]] (.bool (decide (a = b))) := by
 intro H0
 have na1 := ra.nl; have na2 := ra.nm; have na3 := ra.nt; have na4 := ra.nk; have na5 := ra.nc
 have nb1 := rb.nl; have nb2 := rb.nm; have nb3 := rb.nt; have nb4 := rb.nk; have nb5 := rb.nc
 refine ACalls.of_body' (n := 187) rfl rfl rfl rfl ?_
 have m0 := Mono.refl H0
 refine AWP.seq ?_
 refine AWP.region (l := [0, 1, 2]) rfl ?_
 refine AOps.cons rfl rfl (AOp.box (.agg [.int .i64 a.Camera.Eye.X, .int .i64 a.Camera.Eye.Y, .int .i64 a.Camera.Eye.Z, .int .i64 a.Camera.First.X, .int .i64 a.Camera.First.Y, .int .i64 a.Camera.First.Z, .int .i64 a.Camera.Right.X, .int .i64 a.Camera.Right.Y, .int .i64 a.Camera.Right.Z, .int .i64 a.Camera.Down.X, .int .i64 a.Camera.Down.Y, .int .i64 a.Camera.Down.Z, .int .i64 a.Camera.W, .int .i64 a.Camera.H, .int .i64 a.Camera.Grid, .int .i64 a.Camera.Depth, .int .i64 a.Sky.R, .int .i64 a.Sky.G, .int .i64 a.Sky.B, .sl a.Lights.length (a.Lights.flatMap eLight), .sl a.Mats.length (a.Mats.flatMap eMat), .sl a.Texs.length (a.Texs.flatMap eTex), .sl a.Skins.length (a.Skins.flatMap eSkin), .sl a.Cages.length (a.Cages.flatMap eCage)]) rfl rfl rfl ?_)
 intro i1 H2 n3 h4 k5
 have z6 := Mono.free m0 n3
 have m7 := Mono.new m0 n3 k5
 refine AOps.cons rfl rfl (AOp.box (.agg [.int .i64 b.Camera.Eye.X, .int .i64 b.Camera.Eye.Y, .int .i64 b.Camera.Eye.Z, .int .i64 b.Camera.First.X, .int .i64 b.Camera.First.Y, .int .i64 b.Camera.First.Z, .int .i64 b.Camera.Right.X, .int .i64 b.Camera.Right.Y, .int .i64 b.Camera.Right.Z, .int .i64 b.Camera.Down.X, .int .i64 b.Camera.Down.Y, .int .i64 b.Camera.Down.Z, .int .i64 b.Camera.W, .int .i64 b.Camera.H, .int .i64 b.Camera.Grid, .int .i64 b.Camera.Depth, .int .i64 b.Sky.R, .int .i64 b.Sky.G, .int .i64 b.Sky.B, .sl b.Lights.length (b.Lights.flatMap eLight), .sl b.Mats.length (b.Mats.flatMap eMat), .sl b.Texs.length (b.Texs.flatMap eTex), .sl b.Skins.length (b.Skins.flatMap eSkin), .sl b.Cages.length (b.Cages.flatMap eCage)]) rfl rfl rfl ?_)
 intro i8 H9 n10 h11 k12
 have e13 := ne_new h4 n10
 have z14 := Mono.free m7 n10
 have h15 := keep k12 (ne_new h4 n10) h4
 have m16 := Mono.new m7 n10 k12
 refine AOps.cons rfl rfl (AOp.assign (.bool false) rfl rfl ?_)
 refine AOps.nil ?_
 change AWP _ _ _ _ _ _
 refine AWP.seq ?_
 refine AWP.seq ?_
 refine AWP.frzP 2 h15 z6 rfl m16 fun H17 m18 k19 => ?_
 have h20 := (k19 _ (Ne.symm e13)).trans h11
 refine AWP.frzP 3 h20 z14 rfl m18 fun H21 m22 k23 => ?_
 refine AWP.region (l := [0, 1, 2, 3, 4, 5, 6, 7, 8, 9, 10, 11, 12, 13, 14, 15, 16, 17, 18, 19, 20, 21, 22, 23, 24, 25, 26, 27, 28, 29, 30, 31, 32, 33, 34, 35, 36, 37, 38, 39, 40, 41, 42, 43, 44, 45, 46, 47, 48, 49, 50, 51, 52, 53, 54, 55, 56]) rfl ?_
 refine AOps.cons rfl rfl (AOp.fieldAddrF rfl rfl fl_35_0 ?_)
 refine AOps.cons rfl rfl (AOp.loadF (.agg [.int .i64 a.Camera.Eye.X, .int .i64 a.Camera.Eye.Y, .int .i64 a.Camera.Eye.Z, .int .i64 a.Camera.First.X, .int .i64 a.Camera.First.Y, .int .i64 a.Camera.First.Z, .int .i64 a.Camera.Right.X, .int .i64 a.Camera.Right.Y, .int .i64 a.Camera.Right.Z, .int .i64 a.Camera.Down.X, .int .i64 a.Camera.Down.Y, .int .i64 a.Camera.Down.Z, .int .i64 a.Camera.W, .int .i64 a.Camera.H, .int .i64 a.Camera.Grid, .int .i64 a.Camera.Depth]) rfl rfl ty_26 rfl ?_)
 refine AOps.cons rfl rfl (AOp.fieldAddrF rfl rfl fl_35_0 ?_)
 refine AOps.cons rfl rfl (AOp.loadF (.agg [.int .i64 b.Camera.Eye.X, .int .i64 b.Camera.Eye.Y, .int .i64 b.Camera.Eye.Z, .int .i64 b.Camera.First.X, .int .i64 b.Camera.First.Y, .int .i64 b.Camera.First.Z, .int .i64 b.Camera.Right.X, .int .i64 b.Camera.Right.Y, .int .i64 b.Camera.Right.Z, .int .i64 b.Camera.Down.X, .int .i64 b.Camera.Down.Y, .int .i64 b.Camera.Down.Z, .int .i64 b.Camera.W, .int .i64 b.Camera.H, .int .i64 b.Camera.Grid, .int .i64 b.Camera.Depth]) rfl rfl ty_26 rfl ?_)
 refine AOps.cons rfl rfl (AOp.neAggD rfl rfl rfl teq26 (kokCam (v := a.Camera) (by first | assumption | exact ra.cam)) (kokCam (v := b.Camera) (by first | assumption | exact rb.cam)) (eCam_iff a.Camera b.Camera) ?_)
 refine AOps.cons rfl rfl (AOp.move (.bool (!decide (a.Camera = b.Camera))) rfl rfl ?_)
 by_cases b24 : a.Camera = b.Camera
 ·
  refine AOps.yes rfl rfl rfl rfl rfl rfl rfl (nb (decide_eq_true b24)) (AOp.fieldAddrF rfl rfl fl_35_1 ?_)
  refine AOps.yes rfl rfl rfl rfl rfl rfl rfl (nb (decide_eq_true b24)) (AOp.loadF (.agg [.int .i64 a.Sky.R, .int .i64 a.Sky.G, .int .i64 a.Sky.B]) rfl rfl ty_28 rfl ?_)
  refine AOps.yes rfl rfl rfl rfl rfl rfl rfl (nb (decide_eq_true b24)) (AOp.fieldAddrF rfl rfl fl_35_1 ?_)
  refine AOps.yes rfl rfl rfl rfl rfl rfl rfl (nb (decide_eq_true b24)) (AOp.loadF (.agg [.int .i64 b.Sky.R, .int .i64 b.Sky.G, .int .i64 b.Sky.B]) rfl rfl ty_28 rfl ?_)
  refine AOps.yes rfl rfl rfl rfl rfl rfl rfl (nb (decide_eq_true b24)) (AOp.neAggD rfl rfl rfl teq28 (kokCol (v := a.Sky) (by first | assumption | exact ra.sky)) (kokCol (v := b.Sky) (by first | assumption | exact rb.sky)) (eCol_iff a.Sky b.Sky) ?_)
  refine AOps.cons rfl rfl (AOp.pickF (.bool (!decide (a.Sky = b.Sky))) rfl rfl (nb (decide_eq_true b24)) rfl ?_)
  refine AOps.cons rfl rfl (AOp.move (.bool (!decide (a.Sky = b.Sky))) rfl rfl ?_)
  by_cases b25 : a.Sky = b.Sky
  ·
   refine AOps.yes rfl rfl rfl rfl rfl rfl rfl (nb (decide_eq_true b25)) (AOp.fieldAddrF rfl rfl fl_35_2 ?_)
   refine AOps.yes rfl rfl rfl rfl rfl rfl rfl (nb (decide_eq_true b25)) (AOp.loadF (.sl a.Lights.length (a.Lights.flatMap eLight)) rfl rfl ty_29 rfl ?_)
   refine AOps.yes rfl rfl rfl rfl rfl rfl rfl (nb (decide_eq_true b25)) (AOp.len (m := a.Lights.length) rfl rfl (.inr (.inl ⟨_, rfl⟩)) u_29 ?_)
   refine AOps.yes rfl rfl rfl rfl rfl rfl rfl (nb (decide_eq_true b25)) (AOp.fieldAddrF rfl rfl fl_35_2 ?_)
   refine AOps.yes rfl rfl rfl rfl rfl rfl rfl (nb (decide_eq_true b25)) (AOp.loadF (.sl b.Lights.length (b.Lights.flatMap eLight)) rfl rfl ty_29 rfl ?_)
   refine AOps.yes rfl rfl rfl rfl rfl rfl rfl (nb (decide_eq_true b25)) (AOp.len (m := b.Lights.length) rfl rfl (.inr (.inl ⟨_, rfl⟩)) u_29 ?_)
   refine AOps.yes rfl rfl rfl rfl rfl rfl rfl (nb (decide_eq_true b25)) (AOp.bin (.bool (!decide ((a.Lights.length : Int) = (b.Lights.length : Int)))) rfl rfl rfl ine ?_)
   refine AOps.cons rfl rfl (AOp.pickF (.bool (!decide ((a.Lights.length : Int) = (b.Lights.length : Int)))) rfl rfl (nb (decide_eq_true b25)) rfl ?_)
   refine AOps.cons rfl rfl (AOp.move (.bool (!decide ((a.Lights.length : Int) = (b.Lights.length : Int)))) rfl rfl ?_)
   by_cases b26 : (a.Lights.length : Int) = (b.Lights.length : Int)
   ·
    refine AOps.yes rfl rfl rfl rfl rfl rfl rfl (nb (decide_eq_true b26)) (AOp.fieldAddrF rfl rfl fl_35_3 ?_)
    refine AOps.yes rfl rfl rfl rfl rfl rfl rfl (nb (decide_eq_true b26)) (AOp.loadF (.sl a.Mats.length (a.Mats.flatMap eMat)) rfl rfl ty_30 rfl ?_)
    refine AOps.yes rfl rfl rfl rfl rfl rfl rfl (nb (decide_eq_true b26)) (AOp.len (m := a.Mats.length) rfl rfl (.inr (.inl ⟨_, rfl⟩)) u_30 ?_)
    refine AOps.yes rfl rfl rfl rfl rfl rfl rfl (nb (decide_eq_true b26)) (AOp.fieldAddrF rfl rfl fl_35_3 ?_)
    refine AOps.yes rfl rfl rfl rfl rfl rfl rfl (nb (decide_eq_true b26)) (AOp.loadF (.sl b.Mats.length (b.Mats.flatMap eMat)) rfl rfl ty_30 rfl ?_)
    refine AOps.yes rfl rfl rfl rfl rfl rfl rfl (nb (decide_eq_true b26)) (AOp.len (m := b.Mats.length) rfl rfl (.inr (.inl ⟨_, rfl⟩)) u_30 ?_)
    refine AOps.yes rfl rfl rfl rfl rfl rfl rfl (nb (decide_eq_true b26)) (AOp.bin (.bool (!decide ((a.Mats.length : Int) = (b.Mats.length : Int)))) rfl rfl rfl ine ?_)
    refine AOps.cons rfl rfl (AOp.pickF (.bool (!decide ((a.Mats.length : Int) = (b.Mats.length : Int)))) rfl rfl (nb (decide_eq_true b26)) rfl ?_)
    refine AOps.cons rfl rfl (AOp.move (.bool (!decide ((a.Mats.length : Int) = (b.Mats.length : Int)))) rfl rfl ?_)
    by_cases b27 : (a.Mats.length : Int) = (b.Mats.length : Int)
    ·
     refine AOps.yes rfl rfl rfl rfl rfl rfl rfl (nb (decide_eq_true b27)) (AOp.fieldAddrF rfl rfl fl_35_4 ?_)
     refine AOps.yes rfl rfl rfl rfl rfl rfl rfl (nb (decide_eq_true b27)) (AOp.loadF (.sl a.Texs.length (a.Texs.flatMap eTex)) rfl rfl ty_31 rfl ?_)
     refine AOps.yes rfl rfl rfl rfl rfl rfl rfl (nb (decide_eq_true b27)) (AOp.len (m := a.Texs.length) rfl rfl (.inr (.inl ⟨_, rfl⟩)) u_31 ?_)
     refine AOps.yes rfl rfl rfl rfl rfl rfl rfl (nb (decide_eq_true b27)) (AOp.fieldAddrF rfl rfl fl_35_4 ?_)
     refine AOps.yes rfl rfl rfl rfl rfl rfl rfl (nb (decide_eq_true b27)) (AOp.loadF (.sl b.Texs.length (b.Texs.flatMap eTex)) rfl rfl ty_31 rfl ?_)
     refine AOps.yes rfl rfl rfl rfl rfl rfl rfl (nb (decide_eq_true b27)) (AOp.len (m := b.Texs.length) rfl rfl (.inr (.inl ⟨_, rfl⟩)) u_31 ?_)
     refine AOps.yes rfl rfl rfl rfl rfl rfl rfl (nb (decide_eq_true b27)) (AOp.bin (.bool (!decide ((a.Texs.length : Int) = (b.Texs.length : Int)))) rfl rfl rfl ine ?_)
     refine AOps.cons rfl rfl (AOp.pickF (.bool (!decide ((a.Texs.length : Int) = (b.Texs.length : Int)))) rfl rfl (nb (decide_eq_true b27)) rfl ?_)
     refine AOps.cons rfl rfl (AOp.move (.bool (!decide ((a.Texs.length : Int) = (b.Texs.length : Int)))) rfl rfl ?_)
     by_cases b28 : (a.Texs.length : Int) = (b.Texs.length : Int)
     ·
      refine AOps.yes rfl rfl rfl rfl rfl rfl rfl (nb (decide_eq_true b28)) (AOp.fieldAddrF rfl rfl fl_35_5 ?_)
      refine AOps.yes rfl rfl rfl rfl rfl rfl rfl (nb (decide_eq_true b28)) (AOp.loadF (.sl a.Skins.length (a.Skins.flatMap eSkin)) rfl rfl ty_32 rfl ?_)
      refine AOps.yes rfl rfl rfl rfl rfl rfl rfl (nb (decide_eq_true b28)) (AOp.len (m := a.Skins.length) rfl rfl (.inr (.inl ⟨_, rfl⟩)) u_32 ?_)
      refine AOps.yes rfl rfl rfl rfl rfl rfl rfl (nb (decide_eq_true b28)) (AOp.fieldAddrF rfl rfl fl_35_5 ?_)
      refine AOps.yes rfl rfl rfl rfl rfl rfl rfl (nb (decide_eq_true b28)) (AOp.loadF (.sl b.Skins.length (b.Skins.flatMap eSkin)) rfl rfl ty_32 rfl ?_)
      refine AOps.yes rfl rfl rfl rfl rfl rfl rfl (nb (decide_eq_true b28)) (AOp.len (m := b.Skins.length) rfl rfl (.inr (.inl ⟨_, rfl⟩)) u_32 ?_)
      refine AOps.yes rfl rfl rfl rfl rfl rfl rfl (nb (decide_eq_true b28)) (AOp.bin (.bool (!decide ((a.Skins.length : Int) = (b.Skins.length : Int)))) rfl rfl rfl ine ?_)
      refine AOps.cons rfl rfl (AOp.pickF (.bool (!decide ((a.Skins.length : Int) = (b.Skins.length : Int)))) rfl rfl (nb (decide_eq_true b28)) rfl ?_)
      refine AOps.cons rfl rfl (AOp.move (.bool (!decide ((a.Skins.length : Int) = (b.Skins.length : Int)))) rfl rfl ?_)
      by_cases b29 : (a.Skins.length : Int) = (b.Skins.length : Int)
      ·
       refine AOps.yes rfl rfl rfl rfl rfl rfl rfl (nb (decide_eq_true b29)) (AOp.fieldAddrF rfl rfl fl_35_6 ?_)
       refine AOps.yes rfl rfl rfl rfl rfl rfl rfl (nb (decide_eq_true b29)) (AOp.loadF (.sl a.Cages.length (a.Cages.flatMap eCage)) rfl rfl ty_33 rfl ?_)
       refine AOps.yes rfl rfl rfl rfl rfl rfl rfl (nb (decide_eq_true b29)) (AOp.len (m := a.Cages.length) rfl rfl (.inr (.inl ⟨_, rfl⟩)) u_33 ?_)
       refine AOps.yes rfl rfl rfl rfl rfl rfl rfl (nb (decide_eq_true b29)) (AOp.fieldAddrF rfl rfl fl_35_6 ?_)
       refine AOps.yes rfl rfl rfl rfl rfl rfl rfl (nb (decide_eq_true b29)) (AOp.loadF (.sl b.Cages.length (b.Cages.flatMap eCage)) rfl rfl ty_33 rfl ?_)
       refine AOps.yes rfl rfl rfl rfl rfl rfl rfl (nb (decide_eq_true b29)) (AOp.len (m := b.Cages.length) rfl rfl (.inr (.inl ⟨_, rfl⟩)) u_33 ?_)
       refine AOps.yes rfl rfl rfl rfl rfl rfl rfl (nb (decide_eq_true b29)) (AOp.bin (.bool (!decide ((a.Cages.length : Int) = (b.Cages.length : Int)))) rfl rfl rfl ine ?_)
       refine AOps.cons rfl rfl (AOp.pickF (.bool (!decide ((a.Cages.length : Int) = (b.Cages.length : Int)))) rfl rfl (nb (decide_eq_true b29)) rfl ?_)
       refine AOps.nil ?_
       change AWP _ _ _ _ _ _
       by_cases b30 : (a.Cages.length : Int) = (b.Cages.length : Int)
       ·
        refine AWP.condF rfl (nb (decide_eq_true b30)) ?_
        refine AWP.skip ?_
        change AWP _ _ _ _ _ _
        refine AWP.seq ?_
        refine AWP.seq ?_
        refine AWP.region (l := [0]) rfl ?_
        refine AOps.cons rfl rfl (AOp.assign (.int .i64 0) rfl rfl ?_)
        refine AOps.nil ?_
        change AWP _ _ _ _ _ _
        refine AWP.block ?_
        refine AWP.loop (fun q31 fq Hq => ∃ (i0 : Int), q31 = (((a.Lights.length : Int) : Int) - i0).toNat ∧ fq 5 = .int .i64 i0 ∧ fq 2 = .fptr [.int .i64 a.Camera.Eye.X, .int .i64 a.Camera.Eye.Y, .int .i64 a.Camera.Eye.Z, .int .i64 a.Camera.First.X, .int .i64 a.Camera.First.Y, .int .i64 a.Camera.First.Z, .int .i64 a.Camera.Right.X, .int .i64 a.Camera.Right.Y, .int .i64 a.Camera.Right.Z, .int .i64 a.Camera.Down.X, .int .i64 a.Camera.Down.Y, .int .i64 a.Camera.Down.Z, .int .i64 a.Camera.W, .int .i64 a.Camera.H, .int .i64 a.Camera.Grid, .int .i64 a.Camera.Depth, .int .i64 a.Sky.R, .int .i64 a.Sky.G, .int .i64 a.Sky.B, .sl a.Lights.length (a.Lights.flatMap eLight), .sl a.Mats.length (a.Mats.flatMap eMat), .sl a.Texs.length (a.Texs.flatMap eTex), .sl a.Skins.length (a.Skins.flatMap eSkin), .sl a.Cages.length (a.Cages.flatMap eCage)] 0 ∧ fq 3 = .fptr [.int .i64 b.Camera.Eye.X, .int .i64 b.Camera.Eye.Y, .int .i64 b.Camera.Eye.Z, .int .i64 b.Camera.First.X, .int .i64 b.Camera.First.Y, .int .i64 b.Camera.First.Z, .int .i64 b.Camera.Right.X, .int .i64 b.Camera.Right.Y, .int .i64 b.Camera.Right.Z, .int .i64 b.Camera.Down.X, .int .i64 b.Camera.Down.Y, .int .i64 b.Camera.Down.Z, .int .i64 b.Camera.W, .int .i64 b.Camera.H, .int .i64 b.Camera.Grid, .int .i64 b.Camera.Depth, .int .i64 b.Sky.R, .int .i64 b.Sky.G, .int .i64 b.Sky.B, .sl b.Lights.length (b.Lights.flatMap eLight), .sl b.Mats.length (b.Mats.flatMap eMat), .sl b.Texs.length (b.Texs.flatMap eTex), .sl b.Skins.length (b.Skins.flatMap eSkin), .sl b.Cages.length (b.Cages.flatMap eCage)] 0 ∧ Mono H0 Hq ∧ (0 ≤ i0) ∧ (i0 ≤ (a.Lights.length : Int)) ∧ (∀ j : Int, 0 ≤ j → j < i0 → at_ a.Lights j = at_ b.Lights j)) (k := (((a.Lights.length : Int) : Int) - 0).toNat) ?_ ?_
        ·
         exact ⟨0, rfl, rfl, rfl, rfl, m22, by omega, by omega, by intro j; omega⟩
        ·
         rintro _ f33 H32 ⟨i0, rfl, s34, s35, s36, m37, hi00, hi01, pre0⟩
         refine AWP.seq ?_
         refine AWP.seq ?_
         refine AWP.region (l := [0, 1, 2, 3, 4]) rfl ?_
         refine AOps.cons rfl rfl (AOp.move (.int .i64 i0) rfl s34 ?_)
         refine AOps.cons rfl rfl (AOp.fieldAddrF rfl s35 fl_35_2 ?_)
         refine AOps.cons rfl rfl (AOp.loadF (.sl a.Lights.length (a.Lights.flatMap eLight)) rfl rfl ty_29 rfl ?_)
         refine AOps.cons rfl rfl (AOp.len (m := a.Lights.length) rfl rfl (.inr (.inl ⟨_, rfl⟩)) u_29 ?_)
         refine AOps.cons rfl rfl (AOp.bin (.bool (decide (i0 < (a.Lights.length : Int)))) rfl rfl rfl rfl ?_)
         refine AOps.nil ?_
         change AWP _ _ _ _ _ _
         by_cases b38 : i0 < (a.Lights.length : Int)
         ·
          refine AWP.condT rfl (decide_eq_true b38) ?_
          refine AWP.skip ?_
          change AWP _ _ _ _ _ _
          refine AWP.seq ?_
          refine AWP.block ?_
          refine AWP.seq ?_
          refine AWP.region_quiet mixed (by kernel_rfl) 11 [] rfl (by kernel_rfl) (Mono H32) (Mono.refl _) ?_
          refine QE.op rfl rfl (.inl ⟨rfl, fun f' H' hf hM => AOp.fieldAddrF rfl ((hf 2 rfl).trans s35) fl_35_2 ⟨rfl, hM⟩⟩) ?_
          refine QE.op rfl rfl (.inl ⟨rfl, fun f' H' hf hM => AOp.loadF (.sl a.Lights.length (a.Lights.flatMap eLight)) rfl ((hf 75 rfl).trans rfl) ty_29 rfl ⟨rfl, hM⟩⟩) ?_
          refine QE.op rfl rfl (.inl ⟨rfl, fun f' H' hf hM => AOp.move (.int .i64 i0) rfl ((hf 5 rfl).trans s34) ⟨rfl, hM⟩⟩) ?_
          refine QE.op rfl rfl (.inl ⟨rfl, fun f' H' hf hM => AOp.indexAddrS rfl ((hf 76 rfl).trans rfl) ((hf 77 rfl).trans rfl) sl_29 (by omega) (by omega) ⟨rfl, hM⟩⟩) ?_
          refine QE.op rfl rfl (.inl ⟨rfl, fun f' H' hf hM => AOp.loadF (.agg [.int .i64 (((at_ a.Lights i0).At).X), .int .i64 (((at_ a.Lights i0).At).Y), .int .i64 (((at_ a.Lights i0).At).Z), .int .i64 (((at_ a.Lights i0).Color).R), .int .i64 (((at_ a.Lights i0).Color).G), .int .i64 (((at_ a.Lights i0).Color).B)]) rfl ((hf 78 rfl).trans rfl) ty_68 (ldM eLight_len (by omega) (by omega)) ⟨rfl, hM⟩⟩) ?_
          refine QE.op rfl rfl (.inl ⟨rfl, fun f' H' hf hM => AOp.fieldAddrF rfl ((hf 3 rfl).trans s36) fl_35_2 ⟨rfl, hM⟩⟩) ?_
          refine QE.op rfl rfl (.inl ⟨rfl, fun f' H' hf hM => AOp.loadF (.sl b.Lights.length (b.Lights.flatMap eLight)) rfl ((hf 80 rfl).trans rfl) ty_29 rfl ⟨rfl, hM⟩⟩) ?_
          refine QE.op rfl rfl (.inl ⟨rfl, fun f' H' hf hM => AOp.move (.int .i64 i0) rfl ((hf 5 rfl).trans s34) ⟨rfl, hM⟩⟩) ?_
          refine QE.op rfl rfl (.inl ⟨rfl, fun f' H' hf hM => AOp.indexAddrS rfl ((hf 81 rfl).trans rfl) ((hf 82 rfl).trans rfl) sl_29 (by omega) (by omega) ⟨rfl, hM⟩⟩) ?_
          refine QE.op rfl rfl (.inl ⟨rfl, fun f' H' hf hM => AOp.loadF (.agg [.int .i64 (((at_ b.Lights i0).At).X), .int .i64 (((at_ b.Lights i0).At).Y), .int .i64 (((at_ b.Lights i0).At).Z), .int .i64 (((at_ b.Lights i0).Color).R), .int .i64 (((at_ b.Lights i0).Color).G), .int .i64 (((at_ b.Lights i0).Color).B)]) rfl ((hf 83 rfl).trans rfl) ty_68 (ldM eLight_len (by omega) (by omega)) ⟨rfl, hM⟩⟩) ?_
          refine QE.op rfl rfl (.inl ⟨rfl, fun f' H' hf hM => AOp.neAggD rfl ((hf 79 rfl).trans rfl) ((hf 84 rfl).trans rfl) teq68 (kokLight (v := (at_ a.Lights i0)) (by first | assumption | exact (ra.l _ (at_memS (by omega) (by omega))))) (kokLight (v := (at_ b.Lights i0)) (by first | assumption | exact (rb.l _ (at_memS (by omega) (by omega))))) (eLight_iff (at_ a.Lights i0) (at_ b.Lights i0)) ⟨rfl, hM⟩⟩) ?_
          refine QE.done fun H39 m40 => ?_
          have m41 := m37.trans m40
          refine AOps.nil ?_
          change AWP _ _ _ _ _ _
          by_cases b42 : (at_ a.Lights i0) = (at_ b.Lights i0)
          ·
           refine AWP.condF rfl (nb (decide_eq_true b42)) ?_
           refine AWP.skip ?_
           change AWP _ _ _ _ _ _
           refine AWP.region (l := [0, 1, 2]) rfl ?_
           refine AOps.cons rfl rfl (AOp.move (.int .i64 i0) rfl s34 ?_)
           refine AOps.cons rfl rfl (AOp.bin (.int .i64 (i0 + 1)) rfl rfl rfl (iadd (by omega)) ?_)
           refine AOps.cons rfl rfl (AOp.assign (.int .i64 (i0 + 1)) rfl rfl ?_)
           refine AOps.nil ?_
           exact ⟨_, by omega, i0 + 1, rfl, rfl, s35, s36, m41, by omega, by omega, by exact pre_step pre0 (b42)⟩
          ·
           refine AWP.condT rfl (nb (decide_eq_false b42)) ?_
           refine AWP.seq ?_
           refine AWP.region (l := [0]) rfl ?_
           refine AOps.cons rfl rfl (AOp.assign (.bool false) rfl rfl ?_)
           refine AOps.nil ?_
           change AWP _ _ _ _ _ _
           refine AWP.ret ?_
           refine ⟨_, _, Ghost.refl, .inr rfl, _, Res.one rfl rfl, ?_, m41⟩
           exact (congrArg AV.bool (rfl.trans (decide_eq_false (show ¬ (a = b) from by rintro rfl; first | omega | (exact absurd rfl b42))).symm))
         ·
          refine AWP.condF rfl (decide_eq_false b38) ?_
          refine AWP.exit ?_
          change AWP _ _ _ _ _ _
          refine AWP.seq ?_
          refine AWP.seq ?_
          refine AWP.region (l := [0]) rfl ?_
          refine AOps.cons rfl rfl (AOp.assign (.int .i64 0) rfl rfl ?_)
          refine AOps.nil ?_
          change AWP _ _ _ _ _ _
          refine AWP.block ?_
          refine AWP.loop (fun q43 fq Hq => ∃ (i1 : Int), q43 = (((a.Mats.length : Int) : Int) - i1).toNat ∧ fq 6 = .int .i64 i1 ∧ fq 2 = .fptr [.int .i64 a.Camera.Eye.X, .int .i64 a.Camera.Eye.Y, .int .i64 a.Camera.Eye.Z, .int .i64 a.Camera.First.X, .int .i64 a.Camera.First.Y, .int .i64 a.Camera.First.Z, .int .i64 a.Camera.Right.X, .int .i64 a.Camera.Right.Y, .int .i64 a.Camera.Right.Z, .int .i64 a.Camera.Down.X, .int .i64 a.Camera.Down.Y, .int .i64 a.Camera.Down.Z, .int .i64 a.Camera.W, .int .i64 a.Camera.H, .int .i64 a.Camera.Grid, .int .i64 a.Camera.Depth, .int .i64 a.Sky.R, .int .i64 a.Sky.G, .int .i64 a.Sky.B, .sl a.Lights.length (a.Lights.flatMap eLight), .sl a.Mats.length (a.Mats.flatMap eMat), .sl a.Texs.length (a.Texs.flatMap eTex), .sl a.Skins.length (a.Skins.flatMap eSkin), .sl a.Cages.length (a.Cages.flatMap eCage)] 0 ∧ fq 3 = .fptr [.int .i64 b.Camera.Eye.X, .int .i64 b.Camera.Eye.Y, .int .i64 b.Camera.Eye.Z, .int .i64 b.Camera.First.X, .int .i64 b.Camera.First.Y, .int .i64 b.Camera.First.Z, .int .i64 b.Camera.Right.X, .int .i64 b.Camera.Right.Y, .int .i64 b.Camera.Right.Z, .int .i64 b.Camera.Down.X, .int .i64 b.Camera.Down.Y, .int .i64 b.Camera.Down.Z, .int .i64 b.Camera.W, .int .i64 b.Camera.H, .int .i64 b.Camera.Grid, .int .i64 b.Camera.Depth, .int .i64 b.Sky.R, .int .i64 b.Sky.G, .int .i64 b.Sky.B, .sl b.Lights.length (b.Lights.flatMap eLight), .sl b.Mats.length (b.Mats.flatMap eMat), .sl b.Texs.length (b.Texs.flatMap eTex), .sl b.Skins.length (b.Skins.flatMap eSkin), .sl b.Cages.length (b.Cages.flatMap eCage)] 0 ∧ Mono H0 Hq ∧ (0 ≤ i1) ∧ (i1 ≤ (a.Mats.length : Int)) ∧ (∀ j : Int, 0 ≤ j → j < i1 → at_ a.Mats j = at_ b.Mats j)) (k := (((a.Mats.length : Int) : Int) - 0).toNat) ?_ ?_
          ·
           exact ⟨0, rfl, rfl, s35, s36, m37, by omega, by omega, by intro j; omega⟩
          ·
           rintro _ f45 H44 ⟨i1, rfl, s46, s47, s48, m49, hi10, hi11, pre1⟩
           refine AWP.seq ?_
           refine AWP.seq ?_
           refine AWP.region (l := [0, 1, 2, 3, 4]) rfl ?_
           refine AOps.cons rfl rfl (AOp.move (.int .i64 i1) rfl s46 ?_)
           refine AOps.cons rfl rfl (AOp.fieldAddrF rfl s47 fl_35_3 ?_)
           refine AOps.cons rfl rfl (AOp.loadF (.sl a.Mats.length (a.Mats.flatMap eMat)) rfl rfl ty_30 rfl ?_)
           refine AOps.cons rfl rfl (AOp.len (m := a.Mats.length) rfl rfl (.inr (.inl ⟨_, rfl⟩)) u_30 ?_)
           refine AOps.cons rfl rfl (AOp.bin (.bool (decide (i1 < (a.Mats.length : Int)))) rfl rfl rfl rfl ?_)
           refine AOps.nil ?_
           change AWP _ _ _ _ _ _
           by_cases b50 : i1 < (a.Mats.length : Int)
           ·
            refine AWP.condT rfl (decide_eq_true b50) ?_
            refine AWP.skip ?_
            change AWP _ _ _ _ _ _
            refine AWP.seq ?_
            refine AWP.block ?_
            refine AWP.seq ?_
            refine AWP.region_quiet mixed (by kernel_rfl) 11 [] rfl (by kernel_rfl) (Mono H44) (Mono.refl _) ?_
            refine QE.op rfl rfl (.inl ⟨rfl, fun f' H' hf hM => AOp.fieldAddrF rfl ((hf 2 rfl).trans s47) fl_35_3 ⟨rfl, hM⟩⟩) ?_
            refine QE.op rfl rfl (.inl ⟨rfl, fun f' H' hf hM => AOp.loadF (.sl a.Mats.length (a.Mats.flatMap eMat)) rfl ((hf 93 rfl).trans rfl) ty_30 rfl ⟨rfl, hM⟩⟩) ?_
            refine QE.op rfl rfl (.inl ⟨rfl, fun f' H' hf hM => AOp.move (.int .i64 i1) rfl ((hf 6 rfl).trans s46) ⟨rfl, hM⟩⟩) ?_
            refine QE.op rfl rfl (.inl ⟨rfl, fun f' H' hf hM => AOp.indexAddrS rfl ((hf 94 rfl).trans rfl) ((hf 95 rfl).trans rfl) sl_30 (by omega) (by omega) ⟨rfl, hM⟩⟩) ?_
            refine QE.op rfl rfl (.inl ⟨rfl, fun f' H' hf hM => AOp.loadF (.agg [.str ((at_ a.Mats i1).Name), .int .i64 (((at_ a.Mats i1).Color).R), .int .i64 (((at_ a.Mats i1).Color).G), .int .i64 (((at_ a.Mats i1).Color).B), .int .i64 ((at_ a.Mats i1).Shine), .int .i64 ((at_ a.Mats i1).Sharp), .int .i64 ((at_ a.Mats i1).Mirror), .int .i64 ((at_ a.Mats i1).Clear), .int .i64 ((at_ a.Mats i1).Ior)]) rfl ((hf 96 rfl).trans rfl) ty_70 (ldM eMat_len (by omega) (by omega)) ⟨rfl, hM⟩⟩) ?_
            refine QE.op rfl rfl (.inl ⟨rfl, fun f' H' hf hM => AOp.fieldAddrF rfl ((hf 3 rfl).trans s48) fl_35_3 ⟨rfl, hM⟩⟩) ?_
            refine QE.op rfl rfl (.inl ⟨rfl, fun f' H' hf hM => AOp.loadF (.sl b.Mats.length (b.Mats.flatMap eMat)) rfl ((hf 98 rfl).trans rfl) ty_30 rfl ⟨rfl, hM⟩⟩) ?_
            refine QE.op rfl rfl (.inl ⟨rfl, fun f' H' hf hM => AOp.move (.int .i64 i1) rfl ((hf 6 rfl).trans s46) ⟨rfl, hM⟩⟩) ?_
            refine QE.op rfl rfl (.inl ⟨rfl, fun f' H' hf hM => AOp.indexAddrS rfl ((hf 99 rfl).trans rfl) ((hf 100 rfl).trans rfl) sl_30 (by omega) (by omega) ⟨rfl, hM⟩⟩) ?_
            refine QE.op rfl rfl (.inl ⟨rfl, fun f' H' hf hM => AOp.loadF (.agg [.str ((at_ b.Mats i1).Name), .int .i64 (((at_ b.Mats i1).Color).R), .int .i64 (((at_ b.Mats i1).Color).G), .int .i64 (((at_ b.Mats i1).Color).B), .int .i64 ((at_ b.Mats i1).Shine), .int .i64 ((at_ b.Mats i1).Sharp), .int .i64 ((at_ b.Mats i1).Mirror), .int .i64 ((at_ b.Mats i1).Clear), .int .i64 ((at_ b.Mats i1).Ior)]) rfl ((hf 101 rfl).trans rfl) ty_70 (ldM eMat_len (by omega) (by omega)) ⟨rfl, hM⟩⟩) ?_
            refine QE.op rfl rfl (.inl ⟨rfl, fun f' H' hf hM => AOp.neAggD rfl ((hf 97 rfl).trans rfl) ((hf 102 rfl).trans rfl) teq70 (kokMat (v := (at_ a.Mats i1)) (by first | assumption | exact (ra.m _ (at_memS (by omega) (by omega))))) (kokMat (v := (at_ b.Mats i1)) (by first | assumption | exact (rb.m _ (at_memS (by omega) (by omega))))) (eMat_iff (at_ a.Mats i1) (at_ b.Mats i1)) ⟨rfl, hM⟩⟩) ?_
            refine QE.done fun H51 m52 => ?_
            have m53 := m49.trans m52
            refine AOps.nil ?_
            change AWP _ _ _ _ _ _
            by_cases b54 : (at_ a.Mats i1) = (at_ b.Mats i1)
            ·
             refine AWP.condF rfl (nb (decide_eq_true b54)) ?_
             refine AWP.skip ?_
             change AWP _ _ _ _ _ _
             refine AWP.region (l := [0, 1, 2]) rfl ?_
             refine AOps.cons rfl rfl (AOp.move (.int .i64 i1) rfl s46 ?_)
             refine AOps.cons rfl rfl (AOp.bin (.int .i64 (i1 + 1)) rfl rfl rfl (iadd (by omega)) ?_)
             refine AOps.cons rfl rfl (AOp.assign (.int .i64 (i1 + 1)) rfl rfl ?_)
             refine AOps.nil ?_
             exact ⟨_, by omega, i1 + 1, rfl, rfl, s47, s48, m53, by omega, by omega, by exact pre_step pre1 (b54)⟩
            ·
             refine AWP.condT rfl (nb (decide_eq_false b54)) ?_
             refine AWP.seq ?_
             refine AWP.region (l := [0]) rfl ?_
             refine AOps.cons rfl rfl (AOp.assign (.bool false) rfl rfl ?_)
             refine AOps.nil ?_
             change AWP _ _ _ _ _ _
             refine AWP.ret ?_
             refine ⟨_, _, Ghost.refl, .inr rfl, _, Res.one rfl rfl, ?_, m53⟩
             exact (congrArg AV.bool (rfl.trans (decide_eq_false (show ¬ (a = b) from by rintro rfl; first | omega | (exact absurd rfl b54))).symm))
           ·
            refine AWP.condF rfl (decide_eq_false b50) ?_
            refine AWP.exit ?_
            change AWP _ _ _ _ _ _
            refine AWP.seq ?_
            refine AWP.seq ?_
            refine AWP.region (l := [0]) rfl ?_
            refine AOps.cons rfl rfl (AOp.assign (.int .i64 0) rfl rfl ?_)
            refine AOps.nil ?_
            change AWP _ _ _ _ _ _
            refine AWP.block ?_
            refine AWP.loop (fun q55 fq Hq => ∃ (i2 : Int), q55 = (((a.Texs.length : Int) : Int) - i2).toNat ∧ fq 7 = .int .i64 i2 ∧ fq 2 = .fptr [.int .i64 a.Camera.Eye.X, .int .i64 a.Camera.Eye.Y, .int .i64 a.Camera.Eye.Z, .int .i64 a.Camera.First.X, .int .i64 a.Camera.First.Y, .int .i64 a.Camera.First.Z, .int .i64 a.Camera.Right.X, .int .i64 a.Camera.Right.Y, .int .i64 a.Camera.Right.Z, .int .i64 a.Camera.Down.X, .int .i64 a.Camera.Down.Y, .int .i64 a.Camera.Down.Z, .int .i64 a.Camera.W, .int .i64 a.Camera.H, .int .i64 a.Camera.Grid, .int .i64 a.Camera.Depth, .int .i64 a.Sky.R, .int .i64 a.Sky.G, .int .i64 a.Sky.B, .sl a.Lights.length (a.Lights.flatMap eLight), .sl a.Mats.length (a.Mats.flatMap eMat), .sl a.Texs.length (a.Texs.flatMap eTex), .sl a.Skins.length (a.Skins.flatMap eSkin), .sl a.Cages.length (a.Cages.flatMap eCage)] 0 ∧ fq 3 = .fptr [.int .i64 b.Camera.Eye.X, .int .i64 b.Camera.Eye.Y, .int .i64 b.Camera.Eye.Z, .int .i64 b.Camera.First.X, .int .i64 b.Camera.First.Y, .int .i64 b.Camera.First.Z, .int .i64 b.Camera.Right.X, .int .i64 b.Camera.Right.Y, .int .i64 b.Camera.Right.Z, .int .i64 b.Camera.Down.X, .int .i64 b.Camera.Down.Y, .int .i64 b.Camera.Down.Z, .int .i64 b.Camera.W, .int .i64 b.Camera.H, .int .i64 b.Camera.Grid, .int .i64 b.Camera.Depth, .int .i64 b.Sky.R, .int .i64 b.Sky.G, .int .i64 b.Sky.B, .sl b.Lights.length (b.Lights.flatMap eLight), .sl b.Mats.length (b.Mats.flatMap eMat), .sl b.Texs.length (b.Texs.flatMap eTex), .sl b.Skins.length (b.Skins.flatMap eSkin), .sl b.Cages.length (b.Cages.flatMap eCage)] 0 ∧ Mono H0 Hq ∧ (0 ≤ i2) ∧ (i2 ≤ (a.Texs.length : Int)) ∧ (∀ j : Int, 0 ≤ j → j < i2 → at_ a.Texs j = at_ b.Texs j)) (k := (((a.Texs.length : Int) : Int) - 0).toNat) ?_ ?_
            ·
             exact ⟨0, rfl, rfl, s47, s48, m49, by omega, by omega, by intro j; omega⟩
            ·
             rintro _ f57 H56 ⟨i2, rfl, s58, s59, s60, m61, hi20, hi21, pre2⟩
             refine AWP.seq ?_
             refine AWP.seq ?_
             refine AWP.region (l := [0, 1, 2, 3, 4]) rfl ?_
             refine AOps.cons rfl rfl (AOp.move (.int .i64 i2) rfl s58 ?_)
             refine AOps.cons rfl rfl (AOp.fieldAddrF rfl s59 fl_35_4 ?_)
             refine AOps.cons rfl rfl (AOp.loadF (.sl a.Texs.length (a.Texs.flatMap eTex)) rfl rfl ty_31 rfl ?_)
             refine AOps.cons rfl rfl (AOp.len (m := a.Texs.length) rfl rfl (.inr (.inl ⟨_, rfl⟩)) u_31 ?_)
             refine AOps.cons rfl rfl (AOp.bin (.bool (decide (i2 < (a.Texs.length : Int)))) rfl rfl rfl rfl ?_)
             refine AOps.nil ?_
             change AWP _ _ _ _ _ _
             by_cases b62 : i2 < (a.Texs.length : Int)
             ·
              refine AWP.condT rfl (decide_eq_true b62) ?_
              refine AWP.skip ?_
              change AWP _ _ _ _ _ _
              refine AWP.seq ?_
              refine AWP.block ?_
              refine AWP.seq ?_
              refine AWP.region (l := [0, 1, 2, 3, 4, 5, 6]) rfl ?_
              refine AOps.cons rfl rfl (AOp.fieldAddrF rfl s59 fl_35_4 ?_)
              refine AOps.cons rfl rfl (AOp.loadF (.sl a.Texs.length (a.Texs.flatMap eTex)) rfl rfl ty_31 rfl ?_)
              refine AOps.cons rfl rfl (AOp.move (.int .i64 i2) rfl s58 ?_)
              refine AOps.cons rfl rfl (AOp.indexAddrS rfl rfl rfl sl_31 (by omega) (by omega) ?_)
              refine AOps.cons rfl rfl (AOp.loadF (.agg [.str ((at_ a.Texs i2).Name), .int .i64 ((at_ a.Texs i2).W), .int .i64 ((at_ a.Texs i2).H), .sl ((at_ a.Texs i2).Rows).length (((at_ a.Texs i2).Rows).map eI)]) rfl rfl ty_72 (ldM eTex_len (by omega) (by omega)) ?_)
              refine AOps.cons rfl rfl (AOp.alloc rfl tz_72 ?_)
              intro i63 H64 n65 h66 k67
              have z68 := Mono.free m61 n65
              have m69 := Mono.new m61 n65 k67
              refine AOps.cons rfl rfl (AOp.store' (cells' := [.str ((at_ a.Texs i2).Name), .int .i64 ((at_ a.Texs i2).W), .int .i64 ((at_ a.Texs i2).H), .sl ((at_ a.Texs i2).Rows).length (((at_ a.Texs i2).Rows).map eI)]) (.agg [.str ((at_ a.Texs i2).Name), .int .i64 ((at_ a.Texs i2).W), .int .i64 ((at_ a.Texs i2).H), .sl ((at_ a.Texs i2).Rows).length (((at_ a.Texs i2).Rows).map eI)]) rfl rfl ts_72 h66 rfl rfl rfl rfl ?_)
              intro H70 h71 k72
              have m74 := Mono.set m69 z68 k72
              refine AOps.nil ?_
              change AWP _ _ _ _ _ _
              refine AWP.seq ?_
              refine AWP.frzP 8 h71 z68 rfl m74 fun H75 m76 k77 => ?_
              refine AWP.region (l := [0, 1, 2, 3, 4, 5, 6]) rfl ?_
              refine AOps.cons rfl rfl (AOp.fieldAddrF rfl s60 fl_35_4 ?_)
              refine AOps.cons rfl rfl (AOp.loadF (.sl b.Texs.length (b.Texs.flatMap eTex)) rfl rfl ty_31 rfl ?_)
              refine AOps.cons rfl rfl (AOp.move (.int .i64 i2) rfl s58 ?_)
              refine AOps.cons rfl rfl (AOp.indexAddrS rfl rfl rfl sl_31 (by omega) (by omega) ?_)
              refine AOps.cons rfl rfl (AOp.loadF (.agg [.str ((at_ b.Texs i2).Name), .int .i64 ((at_ b.Texs i2).W), .int .i64 ((at_ b.Texs i2).H), .sl ((at_ b.Texs i2).Rows).length (((at_ b.Texs i2).Rows).map eI)]) rfl rfl ty_72 (ldM eTex_len (by omega) (by omega)) ?_)
              refine AOps.cons rfl rfl (AOp.alloc rfl tz_72 ?_)
              intro i78 H79 n80 h81 k82
              have z83 := Mono.free m76 n80
              have m84 := Mono.new m76 n80 k82
              refine AOps.cons rfl rfl (AOp.store' (cells' := [.str ((at_ b.Texs i2).Name), .int .i64 ((at_ b.Texs i2).W), .int .i64 ((at_ b.Texs i2).H), .sl ((at_ b.Texs i2).Rows).length (((at_ b.Texs i2).Rows).map eI)]) (.agg [.str ((at_ b.Texs i2).Name), .int .i64 ((at_ b.Texs i2).W), .int .i64 ((at_ b.Texs i2).H), .sl ((at_ b.Texs i2).Rows).length (((at_ b.Texs i2).Rows).map eI)]) rfl rfl ts_72 h81 rfl rfl rfl rfl ?_)
              intro H85 h86 k87
              have m89 := Mono.set m84 z83 k87
              refine AOps.nil ?_
              change AWP _ _ _ _ _ _
              refine AWP.seq ?_
              refine AWP.frzP 9 h86 z83 rfl m89 fun H90 m91 k92 => ?_
              refine AWP.region (l := [0, 1, 2, 3, 4, 5, 6, 7, 8, 9, 10, 11, 12, 13, 14, 15, 16, 17, 18, 19, 20, 21, 22, 23, 24, 25, 26]) rfl ?_
              refine AOps.cons rfl rfl (AOp.fieldAddrF rfl rfl fl_72_0 ?_)
              refine AOps.cons rfl rfl (AOp.loadF (.str ((at_ a.Texs i2).Name)) rfl rfl ty_9 rfl ?_)
              refine AOps.cons rfl rfl (AOp.fieldAddrF rfl rfl fl_72_0 ?_)
              refine AOps.cons rfl rfl (AOp.loadF (.str ((at_ b.Texs i2).Name)) rfl rfl ty_9 rfl ?_)
              refine AOps.cons rfl rfl (AOp.sneD rfl rfl rfl ?_)
              refine AOps.cons rfl rfl (AOp.move (.bool (!decide (((at_ a.Texs i2).Name) = ((at_ b.Texs i2).Name)))) rfl rfl ?_)
              by_cases b93 : ((at_ a.Texs i2).Name) = ((at_ b.Texs i2).Name)
              ·
               refine AOps.yes rfl rfl rfl rfl rfl rfl rfl (nb (decide_eq_true b93)) (AOp.fieldAddrF rfl rfl fl_72_1 ?_)
               refine AOps.yes rfl rfl rfl rfl rfl rfl rfl (nb (decide_eq_true b93)) (AOp.loadF (.int .i64 ((at_ a.Texs i2).W)) rfl rfl ty_3 rfl ?_)
               refine AOps.yes rfl rfl rfl rfl rfl rfl rfl (nb (decide_eq_true b93)) (AOp.fieldAddrF rfl rfl fl_72_1 ?_)
               refine AOps.yes rfl rfl rfl rfl rfl rfl rfl (nb (decide_eq_true b93)) (AOp.loadF (.int .i64 ((at_ b.Texs i2).W)) rfl rfl ty_3 rfl ?_)
               refine AOps.yes rfl rfl rfl rfl rfl rfl rfl (nb (decide_eq_true b93)) (AOp.bin (.bool (!decide ((at_ a.Texs i2).W = (at_ b.Texs i2).W))) rfl rfl rfl ine ?_)
               refine AOps.cons rfl rfl (AOp.pickF (.bool (!decide ((at_ a.Texs i2).W = (at_ b.Texs i2).W))) rfl rfl (nb (decide_eq_true b93)) rfl ?_)
               refine AOps.cons rfl rfl (AOp.move (.bool (!decide ((at_ a.Texs i2).W = (at_ b.Texs i2).W))) rfl rfl ?_)
               by_cases b94 : (at_ a.Texs i2).W = (at_ b.Texs i2).W
               ·
                refine AOps.yes rfl rfl rfl rfl rfl rfl rfl (nb (decide_eq_true b94)) (AOp.fieldAddrF rfl rfl fl_72_2 ?_)
                refine AOps.yes rfl rfl rfl rfl rfl rfl rfl (nb (decide_eq_true b94)) (AOp.loadF (.int .i64 ((at_ a.Texs i2).H)) rfl rfl ty_3 rfl ?_)
                refine AOps.yes rfl rfl rfl rfl rfl rfl rfl (nb (decide_eq_true b94)) (AOp.fieldAddrF rfl rfl fl_72_2 ?_)
                refine AOps.yes rfl rfl rfl rfl rfl rfl rfl (nb (decide_eq_true b94)) (AOp.loadF (.int .i64 ((at_ b.Texs i2).H)) rfl rfl ty_3 rfl ?_)
                refine AOps.yes rfl rfl rfl rfl rfl rfl rfl (nb (decide_eq_true b94)) (AOp.bin (.bool (!decide ((at_ a.Texs i2).H = (at_ b.Texs i2).H))) rfl rfl rfl ine ?_)
                refine AOps.cons rfl rfl (AOp.pickF (.bool (!decide ((at_ a.Texs i2).H = (at_ b.Texs i2).H))) rfl rfl (nb (decide_eq_true b94)) rfl ?_)
                refine AOps.cons rfl rfl (AOp.move (.bool (!decide ((at_ a.Texs i2).H = (at_ b.Texs i2).H))) rfl rfl ?_)
                by_cases b95 : (at_ a.Texs i2).H = (at_ b.Texs i2).H
                ·
                 refine AOps.yes rfl rfl rfl rfl rfl rfl rfl (nb (decide_eq_true b95)) (AOp.fieldAddrF rfl rfl fl_72_3 ?_)
                 refine AOps.yes rfl rfl rfl rfl rfl rfl rfl (nb (decide_eq_true b95)) (AOp.loadF (.sl ((at_ a.Texs i2).Rows).length (((at_ a.Texs i2).Rows).map eI)) rfl rfl ty_47 rfl ?_)
                 refine AOps.yes rfl rfl rfl rfl rfl rfl rfl (nb (decide_eq_true b95)) (AOp.fieldAddrF rfl rfl fl_72_3 ?_)
                 refine AOps.yes rfl rfl rfl rfl rfl rfl rfl (nb (decide_eq_true b95)) (AOp.loadF (.sl ((at_ b.Texs i2).Rows).length (((at_ b.Texs i2).Rows).map eI)) rfl rfl ty_47 rfl ?_)
                 refine AOps.yes rfl rfl rfl rfl rfl rfl rfl (nb (decide_eq_true b95)) (AOp.pcall («as» := [.sl ((at_ a.Texs i2).Rows).length (((at_ a.Texs i2).Rows).map eI), .sl ((at_ b.Texs i2).Rows).length (((at_ b.Texs i2).Rows).map eI)]) rfl rfl (rfl) tf_17 (c_sameInts _ _ ((ra.t _ (at_memS (by omega) (by omega))).2.2.2.1) ((rb.t _ (at_memS (by omega) (by omega))).2.2.2.1)) ?_)
                 intro H96 m97
                 have m98 := m91.trans m97
                 refine AOps.yes rfl rfl rfl rfl rfl rfl rfl (nb (decide_eq_true b95)) (AOp.not rfl rfl ?_)
                 refine AOps.cons rfl rfl (AOp.pickF (.bool (!(decide (((at_ a.Texs i2).Rows) = ((at_ b.Texs i2).Rows))))) rfl rfl (nb (decide_eq_true b95)) rfl ?_)
                 refine AOps.nil ?_
                 change AWP _ _ _ _ _ _
                 by_cases b99 : ((at_ a.Texs i2).Rows) = ((at_ b.Texs i2).Rows)
                 ·
                  refine AWP.condF rfl (nb (decide_eq_true b99)) ?_
                  refine AWP.skip ?_
                  change AWP _ _ _ _ _ _
                  refine AWP.region (l := [0, 1, 2]) rfl ?_
                  refine AOps.cons rfl rfl (AOp.move (.int .i64 i2) rfl s58 ?_)
                  refine AOps.cons rfl rfl (AOp.bin (.int .i64 (i2 + 1)) rfl rfl rfl (iadd (by omega)) ?_)
                  refine AOps.cons rfl rfl (AOp.assign (.int .i64 (i2 + 1)) rfl rfl ?_)
                  refine AOps.nil ?_
                  exact ⟨_, by omega, i2 + 1, rfl, rfl, s59, s60, m98, by omega, by omega, by exact pre_step pre2 (tex_ext b93 b94 b95 b99)⟩
                 ·
                  refine AWP.condT rfl (nb (decide_eq_false b99)) ?_
                  refine AWP.seq ?_
                  refine AWP.region (l := [0]) rfl ?_
                  refine AOps.cons rfl rfl (AOp.assign (.bool false) rfl rfl ?_)
                  refine AOps.nil ?_
                  change AWP _ _ _ _ _ _
                  refine AWP.ret ?_
                  refine ⟨_, _, Ghost.refl, .inr rfl, _, Res.one rfl rfl, ?_, m98⟩
                  exact (congrArg AV.bool (rfl.trans (decide_eq_false (show ¬ (a = b) from by rintro rfl; first | omega | (exact absurd rfl b99))).symm))
                ·
                 refine AOps.no rfl rfl rfl rfl rfl rfl rfl (ble_of (nb (decide_eq_false b95)) (by decide)) ?_
                 refine AOps.no rfl rfl rfl rfl rfl rfl rfl (ble_of (nb (decide_eq_false b95)) (by decide)) ?_
                 refine AOps.no rfl rfl rfl rfl rfl rfl rfl (ble_of (nb (decide_eq_false b95)) (by decide)) ?_
                 refine AOps.no rfl rfl rfl rfl rfl rfl rfl (ble_of (nb (decide_eq_false b95)) (by decide)) ?_
                 refine AOps.no rfl rfl rfl rfl rfl rfl rfl (ble_of (nb (decide_eq_false b95)) (by decide)) ?_
                 refine AOps.no rfl rfl rfl rfl rfl rfl rfl (ble_of (nb (decide_eq_false b95)) (by decide)) ?_
                 refine AOps.cons rfl rfl (AOp.pickT (.bool true) rfl rfl (nb (decide_eq_false b95)) rfl ?_)
                 refine AOps.nil ?_
                 change AWP _ _ _ _ _ _
                 refine AWP.condT rfl rfl ?_
                 refine AWP.seq ?_
                 refine AWP.region (l := [0]) rfl ?_
                 refine AOps.cons rfl rfl (AOp.assign (.bool false) rfl rfl ?_)
                 refine AOps.nil ?_
                 change AWP _ _ _ _ _ _
                 refine AWP.ret ?_
                 refine ⟨_, _, Ghost.refl, .inr rfl, _, Res.one rfl rfl, ?_, m91⟩
                 exact (congrArg AV.bool (rfl.trans (decide_eq_false (show ¬ (a = b) from by rintro rfl; first | omega | (exact absurd rfl b95))).symm))
               ·
                refine AOps.no rfl rfl rfl rfl rfl rfl rfl (ble_of (nb (decide_eq_false b94)) (by decide)) ?_
                refine AOps.no rfl rfl rfl rfl rfl rfl rfl (ble_of (nb (decide_eq_false b94)) (by decide)) ?_
                refine AOps.no rfl rfl rfl rfl rfl rfl rfl (ble_of (nb (decide_eq_false b94)) (by decide)) ?_
                refine AOps.no rfl rfl rfl rfl rfl rfl rfl (ble_of (nb (decide_eq_false b94)) (by decide)) ?_
                refine AOps.no rfl rfl rfl rfl rfl rfl rfl (ble_of (nb (decide_eq_false b94)) (by decide)) ?_
                refine AOps.cons rfl rfl (AOp.pickT (.bool true) rfl rfl (nb (decide_eq_false b94)) rfl ?_)
                refine AOps.cons rfl rfl (AOp.move (.bool true) rfl rfl ?_)
                refine AOps.no rfl rfl rfl rfl rfl rfl rfl (ble_of rfl (by decide)) ?_
                refine AOps.no rfl rfl rfl rfl rfl rfl rfl (ble_of rfl (by decide)) ?_
                refine AOps.no rfl rfl rfl rfl rfl rfl rfl (ble_of rfl (by decide)) ?_
                refine AOps.no rfl rfl rfl rfl rfl rfl rfl (ble_of rfl (by decide)) ?_
                refine AOps.no rfl rfl rfl rfl rfl rfl rfl (ble_of rfl (by decide)) ?_
                refine AOps.no rfl rfl rfl rfl rfl rfl rfl (ble_of rfl (by decide)) ?_
                refine AOps.cons rfl rfl (AOp.pickT (.bool true) rfl rfl rfl rfl ?_)
                refine AOps.nil ?_
                change AWP _ _ _ _ _ _
                refine AWP.condT rfl rfl ?_
                refine AWP.seq ?_
                refine AWP.region (l := [0]) rfl ?_
                refine AOps.cons rfl rfl (AOp.assign (.bool false) rfl rfl ?_)
                refine AOps.nil ?_
                change AWP _ _ _ _ _ _
                refine AWP.ret ?_
                refine ⟨_, _, Ghost.refl, .inr rfl, _, Res.one rfl rfl, ?_, m91⟩
                exact (congrArg AV.bool (rfl.trans (decide_eq_false (show ¬ (a = b) from by rintro rfl; first | omega | (exact absurd rfl b94))).symm))
              ·
               refine AOps.no rfl rfl rfl rfl rfl rfl rfl (ble_of (nb (decide_eq_false b93)) (by decide)) ?_
               refine AOps.no rfl rfl rfl rfl rfl rfl rfl (ble_of (nb (decide_eq_false b93)) (by decide)) ?_
               refine AOps.no rfl rfl rfl rfl rfl rfl rfl (ble_of (nb (decide_eq_false b93)) (by decide)) ?_
               refine AOps.no rfl rfl rfl rfl rfl rfl rfl (ble_of (nb (decide_eq_false b93)) (by decide)) ?_
               refine AOps.no rfl rfl rfl rfl rfl rfl rfl (ble_of (nb (decide_eq_false b93)) (by decide)) ?_
               refine AOps.cons rfl rfl (AOp.pickT (.bool true) rfl rfl (nb (decide_eq_false b93)) rfl ?_)
               refine AOps.cons rfl rfl (AOp.move (.bool true) rfl rfl ?_)
               refine AOps.no rfl rfl rfl rfl rfl rfl rfl (ble_of rfl (by decide)) ?_
               refine AOps.no rfl rfl rfl rfl rfl rfl rfl (ble_of rfl (by decide)) ?_
               refine AOps.no rfl rfl rfl rfl rfl rfl rfl (ble_of rfl (by decide)) ?_
               refine AOps.no rfl rfl rfl rfl rfl rfl rfl (ble_of rfl (by decide)) ?_
               refine AOps.no rfl rfl rfl rfl rfl rfl rfl (ble_of rfl (by decide)) ?_
               refine AOps.cons rfl rfl (AOp.pickT (.bool true) rfl rfl rfl rfl ?_)
               refine AOps.cons rfl rfl (AOp.move (.bool true) rfl rfl ?_)
               refine AOps.no rfl rfl rfl rfl rfl rfl rfl (ble_of rfl (by decide)) ?_
               refine AOps.no rfl rfl rfl rfl rfl rfl rfl (ble_of rfl (by decide)) ?_
               refine AOps.no rfl rfl rfl rfl rfl rfl rfl (ble_of rfl (by decide)) ?_
               refine AOps.no rfl rfl rfl rfl rfl rfl rfl (ble_of rfl (by decide)) ?_
               refine AOps.no rfl rfl rfl rfl rfl rfl rfl (ble_of rfl (by decide)) ?_
               refine AOps.no rfl rfl rfl rfl rfl rfl rfl (ble_of rfl (by decide)) ?_
               refine AOps.cons rfl rfl (AOp.pickT (.bool true) rfl rfl rfl rfl ?_)
               refine AOps.nil ?_
               change AWP _ _ _ _ _ _
               refine AWP.condT rfl rfl ?_
               refine AWP.seq ?_
               refine AWP.region (l := [0]) rfl ?_
               refine AOps.cons rfl rfl (AOp.assign (.bool false) rfl rfl ?_)
               refine AOps.nil ?_
               change AWP _ _ _ _ _ _
               refine AWP.ret ?_
               refine ⟨_, _, Ghost.refl, .inr rfl, _, Res.one rfl rfl, ?_, m91⟩
               exact (congrArg AV.bool (rfl.trans (decide_eq_false (show ¬ (a = b) from by rintro rfl; first | omega | (exact absurd rfl b93))).symm))
             ·
              refine AWP.condF rfl (decide_eq_false b62) ?_
              refine AWP.exit ?_
              change AWP _ _ _ _ _ _
              refine AWP.seq ?_
              refine AWP.seq ?_
              refine AWP.region (l := [0]) rfl ?_
              refine AOps.cons rfl rfl (AOp.assign (.int .i64 0) rfl rfl ?_)
              refine AOps.nil ?_
              change AWP _ _ _ _ _ _
              refine AWP.block ?_
              refine AWP.loop (fun q100 fq Hq => ∃ (i3 : Int), q100 = (((a.Skins.length : Int) : Int) - i3).toNat ∧ fq 10 = .int .i64 i3 ∧ fq 2 = .fptr [.int .i64 a.Camera.Eye.X, .int .i64 a.Camera.Eye.Y, .int .i64 a.Camera.Eye.Z, .int .i64 a.Camera.First.X, .int .i64 a.Camera.First.Y, .int .i64 a.Camera.First.Z, .int .i64 a.Camera.Right.X, .int .i64 a.Camera.Right.Y, .int .i64 a.Camera.Right.Z, .int .i64 a.Camera.Down.X, .int .i64 a.Camera.Down.Y, .int .i64 a.Camera.Down.Z, .int .i64 a.Camera.W, .int .i64 a.Camera.H, .int .i64 a.Camera.Grid, .int .i64 a.Camera.Depth, .int .i64 a.Sky.R, .int .i64 a.Sky.G, .int .i64 a.Sky.B, .sl a.Lights.length (a.Lights.flatMap eLight), .sl a.Mats.length (a.Mats.flatMap eMat), .sl a.Texs.length (a.Texs.flatMap eTex), .sl a.Skins.length (a.Skins.flatMap eSkin), .sl a.Cages.length (a.Cages.flatMap eCage)] 0 ∧ fq 3 = .fptr [.int .i64 b.Camera.Eye.X, .int .i64 b.Camera.Eye.Y, .int .i64 b.Camera.Eye.Z, .int .i64 b.Camera.First.X, .int .i64 b.Camera.First.Y, .int .i64 b.Camera.First.Z, .int .i64 b.Camera.Right.X, .int .i64 b.Camera.Right.Y, .int .i64 b.Camera.Right.Z, .int .i64 b.Camera.Down.X, .int .i64 b.Camera.Down.Y, .int .i64 b.Camera.Down.Z, .int .i64 b.Camera.W, .int .i64 b.Camera.H, .int .i64 b.Camera.Grid, .int .i64 b.Camera.Depth, .int .i64 b.Sky.R, .int .i64 b.Sky.G, .int .i64 b.Sky.B, .sl b.Lights.length (b.Lights.flatMap eLight), .sl b.Mats.length (b.Mats.flatMap eMat), .sl b.Texs.length (b.Texs.flatMap eTex), .sl b.Skins.length (b.Skins.flatMap eSkin), .sl b.Cages.length (b.Cages.flatMap eCage)] 0 ∧ Mono H0 Hq ∧ (0 ≤ i3) ∧ (i3 ≤ (a.Skins.length : Int)) ∧ (∀ j : Int, 0 ≤ j → j < i3 → at_ a.Skins j = at_ b.Skins j) ∧ (∀ j : Int, 0 ≤ j → j < i3 → at_ a.Cages j = at_ b.Cages j)) (k := (((a.Skins.length : Int) : Int) - 0).toNat) ?_ ?_
              ·
               exact ⟨0, rfl, rfl, s59, s60, m61, by omega, by omega, by intro j; omega, by intro j; omega⟩
              ·
               rintro _ f102 H101 ⟨i3, rfl, s103, s104, s105, m106, hi30, hi31, pre3, pre4⟩
               refine AWP.seq ?_
               refine AWP.seq ?_
               refine AWP.region (l := [0, 1, 2, 3, 4]) rfl ?_
               refine AOps.cons rfl rfl (AOp.move (.int .i64 i3) rfl s103 ?_)
               refine AOps.cons rfl rfl (AOp.fieldAddrF rfl s104 fl_35_5 ?_)
               refine AOps.cons rfl rfl (AOp.loadF (.sl a.Skins.length (a.Skins.flatMap eSkin)) rfl rfl ty_32 rfl ?_)
               refine AOps.cons rfl rfl (AOp.len (m := a.Skins.length) rfl rfl (.inr (.inl ⟨_, rfl⟩)) u_32 ?_)
               refine AOps.cons rfl rfl (AOp.bin (.bool (decide (i3 < (a.Skins.length : Int)))) rfl rfl rfl rfl ?_)
               refine AOps.nil ?_
               change AWP _ _ _ _ _ _
               by_cases b107 : i3 < (a.Skins.length : Int)
               ·
                refine AWP.condT rfl (decide_eq_true b107) ?_
                refine AWP.skip ?_
                change AWP _ _ _ _ _ _
                refine AWP.seq ?_
                refine AWP.block ?_
                refine AWP.seq ?_
                refine AWP.region_quiet mixed (by kernel_rfl) 25 [] rfl (by kernel_rfl) (Mono H101) (Mono.refl _) ?_
                refine QE.op rfl rfl (.inl ⟨rfl, fun f' H' hf hM => AOp.fieldAddrF rfl ((hf 2 rfl).trans s104) fl_35_5 ⟨rfl, hM⟩⟩) ?_
                refine QE.op rfl rfl (.inl ⟨rfl, fun f' H' hf hM => AOp.loadF (.sl a.Skins.length (a.Skins.flatMap eSkin)) rfl ((hf 155 rfl).trans rfl) ty_32 rfl ⟨rfl, hM⟩⟩) ?_
                refine QE.op rfl rfl (.inl ⟨rfl, fun f' H' hf hM => AOp.move (.int .i64 i3) rfl ((hf 10 rfl).trans s103) ⟨rfl, hM⟩⟩) ?_
                refine QE.op rfl rfl (.inl ⟨rfl, fun f' H' hf hM => AOp.indexAddrS rfl ((hf 156 rfl).trans rfl) ((hf 157 rfl).trans rfl) sl_32 (by omega) (by omega) ⟨rfl, hM⟩⟩) ?_
                refine QE.op rfl rfl (.inl ⟨rfl, fun f' H' hf hM => AOp.loadF (.agg [.str ((at_ a.Skins i3).Name), .int .i64 ((at_ a.Skins i3).Mat), .int .i64 ((at_ a.Skins i3).Levels), .int .i64 ((at_ a.Skins i3).Unit), .int .i64 ((at_ a.Skins i3).Tex), .int .i64 ((at_ a.Skins i3).Height)]) rfl ((hf 158 rfl).trans rfl) ty_41 (ldM eSkin_len (by omega) (by omega)) ⟨rfl, hM⟩⟩) ?_
                refine QE.op rfl rfl (.inl ⟨rfl, fun f' H' hf hM => AOp.fieldAddrF rfl ((hf 3 rfl).trans s105) fl_35_5 ⟨rfl, hM⟩⟩) ?_
                refine QE.op rfl rfl (.inl ⟨rfl, fun f' H' hf hM => AOp.loadF (.sl b.Skins.length (b.Skins.flatMap eSkin)) rfl ((hf 160 rfl).trans rfl) ty_32 rfl ⟨rfl, hM⟩⟩) ?_
                refine QE.op rfl rfl (.inl ⟨rfl, fun f' H' hf hM => AOp.move (.int .i64 i3) rfl ((hf 10 rfl).trans s103) ⟨rfl, hM⟩⟩) ?_
                refine QE.op rfl rfl (.inl ⟨rfl, fun f' H' hf hM => AOp.indexAddrS rfl ((hf 161 rfl).trans rfl) ((hf 162 rfl).trans rfl) sl_32 (by omega) (by omega) ⟨rfl, hM⟩⟩) ?_
                refine QE.op rfl rfl (.inl ⟨rfl, fun f' H' hf hM => AOp.loadF (.agg [.str ((at_ b.Skins i3).Name), .int .i64 ((at_ b.Skins i3).Mat), .int .i64 ((at_ b.Skins i3).Levels), .int .i64 ((at_ b.Skins i3).Unit), .int .i64 ((at_ b.Skins i3).Tex), .int .i64 ((at_ b.Skins i3).Height)]) rfl ((hf 163 rfl).trans rfl) ty_41 (ldM eSkin_len (by omega) (by omega)) ⟨rfl, hM⟩⟩) ?_
                refine QE.op rfl rfl (.inl ⟨rfl, fun f' H' hf hM => AOp.neAggD rfl ((hf 159 rfl).trans rfl) ((hf 164 rfl).trans rfl) teq41 (kokSkin (v := (at_ a.Skins i3)) (by first | assumption | exact (ra.k _ (at_memS (by omega) (by omega))))) (kokSkin (v := (at_ b.Skins i3)) (by first | assumption | exact (rb.k _ (at_memS (by omega) (by omega))))) (eSkin_iff (at_ a.Skins i3) (at_ b.Skins i3)) ⟨rfl, hM⟩⟩) ?_
                refine QE.op rfl rfl (.inl ⟨rfl, fun f' H' hf hM => AOp.move (.bool (!decide ((at_ a.Skins i3) = (at_ b.Skins i3)))) rfl ((hf 165 rfl).trans rfl) ⟨rfl, hM⟩⟩) ?_
                by_cases b108 : (at_ a.Skins i3) = (at_ b.Skins i3)
                ·
                 refine QE.op rfl rfl (QOp.yes rfl rfl rfl rfl (nb (decide_eq_true b108)) fun f' H' hf hM => AOp.fieldAddrF rfl ((hf 2 rfl).trans s104) fl_35_6 ⟨rfl, hM⟩) ?_
                 refine QE.op rfl rfl (QOp.yes rfl rfl rfl rfl (nb (decide_eq_true b108)) fun f' H' hf hM => AOp.loadF (.sl a.Cages.length (a.Cages.flatMap eCage)) rfl ((hf 167 rfl).trans rfl) ty_33 rfl ⟨rfl, hM⟩) ?_
                 refine QE.op rfl rfl (QOp.yes rfl rfl rfl rfl (nb (decide_eq_true b108)) fun f' H' hf hM => AOp.move (.int .i64 i3) rfl ((hf 10 rfl).trans s103) ⟨rfl, hM⟩) ?_
                 refine QE.op rfl rfl (QOp.yes rfl rfl rfl rfl (nb (decide_eq_true b108)) fun f' H' hf hM => AOp.indexAddrS rfl ((hf 168 rfl).trans rfl) ((hf 169 rfl).trans rfl) sl_33 (by omega) (by omega) ⟨rfl, hM⟩) ?_
                 refine QE.op rfl rfl (QOp.yes rfl rfl rfl rfl (nb (decide_eq_true b108)) fun f' H' hf hM => AOp.loadF (.agg [.sl ((at_ a.Cages i3).Verts).length (((at_ a.Cages i3).Verts).flatMap eV), .sl ((at_ a.Cages i3).Faces).length (((at_ a.Cages i3).Faces).map eF), .sl ((at_ a.Cages i3).Creases).length (((at_ a.Cages i3).Creases).flatMap eCr)]) rfl ((hf 170 rfl).trans rfl) ty_46 (ldM eCage_len (by omega) (by omega)) ⟨rfl, hM⟩) ?_
                 refine QE.op rfl rfl (QOp.yes rfl rfl rfl rfl (nb (decide_eq_true b108)) fun f' H' hf hM => AOp.fieldAddrF rfl ((hf 3 rfl).trans s105) fl_35_6 ⟨rfl, hM⟩) ?_
                 refine QE.op rfl rfl (QOp.yes rfl rfl rfl rfl (nb (decide_eq_true b108)) fun f' H' hf hM => AOp.loadF (.sl b.Cages.length (b.Cages.flatMap eCage)) rfl ((hf 172 rfl).trans rfl) ty_33 rfl ⟨rfl, hM⟩) ?_
                 refine QE.op rfl rfl (QOp.yes rfl rfl rfl rfl (nb (decide_eq_true b108)) fun f' H' hf hM => AOp.move (.int .i64 i3) rfl ((hf 10 rfl).trans s103) ⟨rfl, hM⟩) ?_
                 refine QE.op rfl rfl (QOp.yes rfl rfl rfl rfl (nb (decide_eq_true b108)) fun f' H' hf hM => AOp.indexAddrS rfl ((hf 173 rfl).trans rfl) ((hf 174 rfl).trans rfl) sl_33 (by omega) (by omega) ⟨rfl, hM⟩) ?_
                 refine QE.op rfl rfl (QOp.yes rfl rfl rfl rfl (nb (decide_eq_true b108)) fun f' H' hf hM => AOp.loadF (.agg [.sl ((at_ b.Cages i3).Verts).length (((at_ b.Cages i3).Verts).flatMap eV), .sl ((at_ b.Cages i3).Faces).length (((at_ b.Cages i3).Faces).map eF), .sl ((at_ b.Cages i3).Creases).length (((at_ b.Cages i3).Creases).flatMap eCr)]) rfl ((hf 175 rfl).trans rfl) ty_46 (ldM eCage_len (by omega) (by omega)) ⟨rfl, hM⟩) ?_
                 refine QE.op rfl rfl (QOp.yes rfl rfl rfl rfl (nb (decide_eq_true b108)) fun f' H' hf hM => AOp.pcall («as» := [.agg [.sl ((at_ a.Cages i3).Verts).length (((at_ a.Cages i3).Verts).flatMap eV), .sl ((at_ a.Cages i3).Faces).length (((at_ a.Cages i3).Faces).map eF), .sl ((at_ a.Cages i3).Creases).length (((at_ a.Cages i3).Creases).flatMap eCr)], .agg [.sl ((at_ b.Cages i3).Verts).length (((at_ b.Cages i3).Verts).flatMap eV), .sl ((at_ b.Cages i3).Faces).length (((at_ b.Cages i3).Faces).map eF), .sl ((at_ b.Cages i3).Creases).length (((at_ b.Cages i3).Creases).flatMap eCr)]]) rfl rfl (lapp (lcons ((hf 171 rfl).trans rfl) (lcons ((hf 176 rfl).trans rfl) rfl)) rfl) tf_18 (c_sameCage (at_ a.Cages i3) (at_ b.Cages i3) (ra.c _ (at_memS (by omega) (by omega))) (rb.c _ (at_memS (by omega) (by omega)))) fun H2 m2 => ⟨rfl, hM.trans m2⟩) ?_
                 refine QE.op rfl rfl (QOp.yes rfl rfl rfl rfl (nb (decide_eq_true b108)) fun f' H' hf hM => AOp.not rfl ((hf 177 rfl).trans rfl) ⟨rfl, hM⟩) ?_
                 refine QE.op rfl rfl (.inl ⟨rfl, fun f' H' hf hM => AOp.pickF (.bool (!(decide ((at_ a.Cages i3) = (at_ b.Cages i3))))) rfl ((hf 166 rfl).trans rfl) (nb (decide_eq_true b108)) ((hf 178 rfl).trans rfl) ⟨rfl, hM⟩⟩) ?_
                 refine QE.done fun H109 m110 => ?_
                 have m111 := m106.trans m110
                 refine AOps.nil ?_
                 change AWP _ _ _ _ _ _
                 by_cases b112 : (at_ a.Cages i3) = (at_ b.Cages i3)
                 ·
                  refine AWP.condF rfl (nb (decide_eq_true b112)) ?_
                  refine AWP.skip ?_
                  change AWP _ _ _ _ _ _
                  refine AWP.region (l := [0, 1, 2]) rfl ?_
                  refine AOps.cons rfl rfl (AOp.move (.int .i64 i3) rfl s103 ?_)
                  refine AOps.cons rfl rfl (AOp.bin (.int .i64 (i3 + 1)) rfl rfl rfl (iadd (by omega)) ?_)
                  refine AOps.cons rfl rfl (AOp.assign (.int .i64 (i3 + 1)) rfl rfl ?_)
                  refine AOps.nil ?_
                  exact ⟨_, by omega, i3 + 1, rfl, rfl, s104, s105, m111, by omega, by omega, by exact pre_step pre3 (b108), by exact pre_step pre4 (b112)⟩
                 ·
                  refine AWP.condT rfl (nb (decide_eq_false b112)) ?_
                  refine AWP.seq ?_
                  refine AWP.region (l := [0]) rfl ?_
                  refine AOps.cons rfl rfl (AOp.assign (.bool false) rfl rfl ?_)
                  refine AOps.nil ?_
                  change AWP _ _ _ _ _ _
                  refine AWP.ret ?_
                  refine ⟨_, _, Ghost.refl, .inr rfl, _, Res.one rfl rfl, ?_, m111⟩
                  exact (congrArg AV.bool (rfl.trans (decide_eq_false (show ¬ (a = b) from by rintro rfl; first | omega | (exact absurd rfl b112))).symm))
                ·
                 refine QE.op rfl rfl (QOp.no rfl rfl rfl rfl (ble_of (nb (decide_eq_false b108)) (by decide)) rfl) ?_
                 refine QE.op rfl rfl (QOp.no rfl rfl rfl rfl (ble_of (nb (decide_eq_false b108)) (by decide)) rfl) ?_
                 refine QE.op rfl rfl (QOp.no rfl rfl rfl rfl (ble_of (nb (decide_eq_false b108)) (by decide)) rfl) ?_
                 refine QE.op rfl rfl (QOp.no rfl rfl rfl rfl (ble_of (nb (decide_eq_false b108)) (by decide)) rfl) ?_
                 refine QE.op rfl rfl (QOp.no rfl rfl rfl rfl (ble_of (nb (decide_eq_false b108)) (by decide)) rfl) ?_
                 refine QE.op rfl rfl (QOp.no rfl rfl rfl rfl (ble_of (nb (decide_eq_false b108)) (by decide)) rfl) ?_
                 refine QE.op rfl rfl (QOp.no rfl rfl rfl rfl (ble_of (nb (decide_eq_false b108)) (by decide)) rfl) ?_
                 refine QE.op rfl rfl (QOp.no rfl rfl rfl rfl (ble_of (nb (decide_eq_false b108)) (by decide)) rfl) ?_
                 refine QE.op rfl rfl (QOp.no rfl rfl rfl rfl (ble_of (nb (decide_eq_false b108)) (by decide)) rfl) ?_
                 refine QE.op rfl rfl (QOp.no rfl rfl rfl rfl (ble_of (nb (decide_eq_false b108)) (by decide)) rfl) ?_
                 refine QE.op rfl rfl (QOp.no rfl rfl rfl rfl (ble_of (nb (decide_eq_false b108)) (by decide)) rfl) ?_
                 refine QE.op rfl rfl (QOp.no rfl rfl rfl rfl (ble_of (nb (decide_eq_false b108)) (by decide)) rfl) ?_
                 refine QE.op rfl rfl (.inl ⟨rfl, fun f' H' hf hM => AOp.pickT (.bool true) rfl ((hf 166 rfl).trans rfl) (nb (decide_eq_false b108)) rfl ⟨rfl, hM⟩⟩) ?_
                 refine QE.done fun H113 m114 => ?_
                 have m115 := m106.trans m114
                 refine AOps.nil ?_
                 change AWP _ _ _ _ _ _
                 refine AWP.condT rfl rfl ?_
                 refine AWP.seq ?_
                 refine AWP.region (l := [0]) rfl ?_
                 refine AOps.cons rfl rfl (AOp.assign (.bool false) rfl rfl ?_)
                 refine AOps.nil ?_
                 change AWP _ _ _ _ _ _
                 refine AWP.ret ?_
                 refine ⟨_, _, Ghost.refl, .inr rfl, _, Res.one rfl rfl, ?_, m115⟩
                 exact (congrArg AV.bool (rfl.trans (decide_eq_false (show ¬ (a = b) from by rintro rfl; first | omega | (exact absurd rfl b108))).symm))
               ·
                refine AWP.condF rfl (decide_eq_false b107) ?_
                refine AWP.exit ?_
                change AWP _ _ _ _ _ _
                refine AWP.seq ?_
                refine AWP.region (l := [0, 1, 2, 3, 4, 5, 6, 7]) rfl ?_
                refine AOps.cons rfl rfl (AOp.fieldAddrF rfl s104 fl_35_5 ?_)
                refine AOps.cons rfl rfl (AOp.loadF (.sl a.Skins.length (a.Skins.flatMap eSkin)) rfl rfl ty_32 rfl ?_)
                refine AOps.cons rfl rfl (AOp.len (m := a.Skins.length) rfl rfl (.inr (.inl ⟨_, rfl⟩)) u_32 ?_)
                refine AOps.cons rfl rfl (AOp.fieldAddrF rfl s104 fl_35_6 ?_)
                refine AOps.cons rfl rfl (AOp.loadF (.sl a.Cages.length (a.Cages.flatMap eCage)) rfl rfl ty_33 rfl ?_)
                refine AOps.cons rfl rfl (AOp.len (m := a.Cages.length) rfl rfl (.inr (.inl ⟨_, rfl⟩)) u_33 ?_)
                refine AOps.cons rfl rfl (AOp.bin (.bool (decide ((a.Skins.length : Int) = (a.Cages.length : Int)))) rfl rfl rfl ieq ?_)
                refine AOps.cons rfl rfl (AOp.assign (.bool (decide ((a.Skins.length : Int) = (a.Cages.length : Int)))) rfl rfl ?_)
                refine AOps.nil ?_
                change AWP _ _ _ _ _ _
                refine AWP.ret ?_
                refine ⟨_, _, Ghost.refl, .inr rfl, _, Res.one rfl rfl, ?_, m106⟩
                exact (congrArg AV.bool (show (decide ((a.Skins.length : Int) = (a.Cages.length : Int)) : Bool) = decide (a = b) from by exact (decide_eq_true (by omega)).trans (decide_eq_true (scene_ext b24 b25 (ext_at (by omega) (fun j h1 h2 => pre0 j h1 (by omega))) (ext_at (by omega) (fun j h1 h2 => pre1 j h1 (by omega))) (ext_at (by omega) (fun j h1 h2 => pre2 j h1 (by omega))) (ext_at (by omega) (fun j h1 h2 => pre3 j h1 (by omega))) (ext_at (by omega) (fun j h1 h2 => pre4 j h1 (by omega))))).symm))
       ·
        refine AWP.condT rfl (nb (decide_eq_false b30)) ?_
        refine AWP.seq ?_
        refine AWP.region (l := [0]) rfl ?_
        refine AOps.cons rfl rfl (AOp.assign (.bool false) rfl rfl ?_)
        refine AOps.nil ?_
        change AWP _ _ _ _ _ _
        refine AWP.ret ?_
        refine ⟨_, _, Ghost.refl, .inr rfl, _, Res.one rfl rfl, ?_, m22⟩
        exact (congrArg AV.bool (rfl.trans (decide_eq_false (show ¬ (a = b) from by rintro rfl; first | omega | (exact absurd rfl b30))).symm))
      ·
       refine AOps.no rfl rfl rfl rfl rfl rfl rfl (ble_of (nb (decide_eq_false b29)) (by decide)) ?_
       refine AOps.no rfl rfl rfl rfl rfl rfl rfl (ble_of (nb (decide_eq_false b29)) (by decide)) ?_
       refine AOps.no rfl rfl rfl rfl rfl rfl rfl (ble_of (nb (decide_eq_false b29)) (by decide)) ?_
       refine AOps.no rfl rfl rfl rfl rfl rfl rfl (ble_of (nb (decide_eq_false b29)) (by decide)) ?_
       refine AOps.no rfl rfl rfl rfl rfl rfl rfl (ble_of (nb (decide_eq_false b29)) (by decide)) ?_
       refine AOps.no rfl rfl rfl rfl rfl rfl rfl (ble_of (nb (decide_eq_false b29)) (by decide)) ?_
       refine AOps.no rfl rfl rfl rfl rfl rfl rfl (ble_of (nb (decide_eq_false b29)) (by decide)) ?_
       refine AOps.cons rfl rfl (AOp.pickT (.bool true) rfl rfl (nb (decide_eq_false b29)) rfl ?_)
       refine AOps.nil ?_
       change AWP _ _ _ _ _ _
       refine AWP.condT rfl rfl ?_
       refine AWP.seq ?_
       refine AWP.region (l := [0]) rfl ?_
       refine AOps.cons rfl rfl (AOp.assign (.bool false) rfl rfl ?_)
       refine AOps.nil ?_
       change AWP _ _ _ _ _ _
       refine AWP.ret ?_
       refine ⟨_, _, Ghost.refl, .inr rfl, _, Res.one rfl rfl, ?_, m22⟩
       exact (congrArg AV.bool (rfl.trans (decide_eq_false (show ¬ (a = b) from by rintro rfl; first | omega | (exact absurd rfl b29))).symm))
     ·
      refine AOps.no rfl rfl rfl rfl rfl rfl rfl (ble_of (nb (decide_eq_false b28)) (by decide)) ?_
      refine AOps.no rfl rfl rfl rfl rfl rfl rfl (ble_of (nb (decide_eq_false b28)) (by decide)) ?_
      refine AOps.no rfl rfl rfl rfl rfl rfl rfl (ble_of (nb (decide_eq_false b28)) (by decide)) ?_
      refine AOps.no rfl rfl rfl rfl rfl rfl rfl (ble_of (nb (decide_eq_false b28)) (by decide)) ?_
      refine AOps.no rfl rfl rfl rfl rfl rfl rfl (ble_of (nb (decide_eq_false b28)) (by decide)) ?_
      refine AOps.no rfl rfl rfl rfl rfl rfl rfl (ble_of (nb (decide_eq_false b28)) (by decide)) ?_
      refine AOps.no rfl rfl rfl rfl rfl rfl rfl (ble_of (nb (decide_eq_false b28)) (by decide)) ?_
      refine AOps.cons rfl rfl (AOp.pickT (.bool true) rfl rfl (nb (decide_eq_false b28)) rfl ?_)
      refine AOps.cons rfl rfl (AOp.move (.bool true) rfl rfl ?_)
      refine AOps.no rfl rfl rfl rfl rfl rfl rfl (ble_of rfl (by decide)) ?_
      refine AOps.no rfl rfl rfl rfl rfl rfl rfl (ble_of rfl (by decide)) ?_
      refine AOps.no rfl rfl rfl rfl rfl rfl rfl (ble_of rfl (by decide)) ?_
      refine AOps.no rfl rfl rfl rfl rfl rfl rfl (ble_of rfl (by decide)) ?_
      refine AOps.no rfl rfl rfl rfl rfl rfl rfl (ble_of rfl (by decide)) ?_
      refine AOps.no rfl rfl rfl rfl rfl rfl rfl (ble_of rfl (by decide)) ?_
      refine AOps.no rfl rfl rfl rfl rfl rfl rfl (ble_of rfl (by decide)) ?_
      refine AOps.cons rfl rfl (AOp.pickT (.bool true) rfl rfl rfl rfl ?_)
      refine AOps.nil ?_
      change AWP _ _ _ _ _ _
      refine AWP.condT rfl rfl ?_
      refine AWP.seq ?_
      refine AWP.region (l := [0]) rfl ?_
      refine AOps.cons rfl rfl (AOp.assign (.bool false) rfl rfl ?_)
      refine AOps.nil ?_
      change AWP _ _ _ _ _ _
      refine AWP.ret ?_
      refine ⟨_, _, Ghost.refl, .inr rfl, _, Res.one rfl rfl, ?_, m22⟩
      exact (congrArg AV.bool (rfl.trans (decide_eq_false (show ¬ (a = b) from by rintro rfl; first | omega | (exact absurd rfl b28))).symm))
    ·
     refine AOps.no rfl rfl rfl rfl rfl rfl rfl (ble_of (nb (decide_eq_false b27)) (by decide)) ?_
     refine AOps.no rfl rfl rfl rfl rfl rfl rfl (ble_of (nb (decide_eq_false b27)) (by decide)) ?_
     refine AOps.no rfl rfl rfl rfl rfl rfl rfl (ble_of (nb (decide_eq_false b27)) (by decide)) ?_
     refine AOps.no rfl rfl rfl rfl rfl rfl rfl (ble_of (nb (decide_eq_false b27)) (by decide)) ?_
     refine AOps.no rfl rfl rfl rfl rfl rfl rfl (ble_of (nb (decide_eq_false b27)) (by decide)) ?_
     refine AOps.no rfl rfl rfl rfl rfl rfl rfl (ble_of (nb (decide_eq_false b27)) (by decide)) ?_
     refine AOps.no rfl rfl rfl rfl rfl rfl rfl (ble_of (nb (decide_eq_false b27)) (by decide)) ?_
     refine AOps.cons rfl rfl (AOp.pickT (.bool true) rfl rfl (nb (decide_eq_false b27)) rfl ?_)
     refine AOps.cons rfl rfl (AOp.move (.bool true) rfl rfl ?_)
     refine AOps.no rfl rfl rfl rfl rfl rfl rfl (ble_of rfl (by decide)) ?_
     refine AOps.no rfl rfl rfl rfl rfl rfl rfl (ble_of rfl (by decide)) ?_
     refine AOps.no rfl rfl rfl rfl rfl rfl rfl (ble_of rfl (by decide)) ?_
     refine AOps.no rfl rfl rfl rfl rfl rfl rfl (ble_of rfl (by decide)) ?_
     refine AOps.no rfl rfl rfl rfl rfl rfl rfl (ble_of rfl (by decide)) ?_
     refine AOps.no rfl rfl rfl rfl rfl rfl rfl (ble_of rfl (by decide)) ?_
     refine AOps.no rfl rfl rfl rfl rfl rfl rfl (ble_of rfl (by decide)) ?_
     refine AOps.cons rfl rfl (AOp.pickT (.bool true) rfl rfl rfl rfl ?_)
     refine AOps.cons rfl rfl (AOp.move (.bool true) rfl rfl ?_)
     refine AOps.no rfl rfl rfl rfl rfl rfl rfl (ble_of rfl (by decide)) ?_
     refine AOps.no rfl rfl rfl rfl rfl rfl rfl (ble_of rfl (by decide)) ?_
     refine AOps.no rfl rfl rfl rfl rfl rfl rfl (ble_of rfl (by decide)) ?_
     refine AOps.no rfl rfl rfl rfl rfl rfl rfl (ble_of rfl (by decide)) ?_
     refine AOps.no rfl rfl rfl rfl rfl rfl rfl (ble_of rfl (by decide)) ?_
     refine AOps.no rfl rfl rfl rfl rfl rfl rfl (ble_of rfl (by decide)) ?_
     refine AOps.no rfl rfl rfl rfl rfl rfl rfl (ble_of rfl (by decide)) ?_
     refine AOps.cons rfl rfl (AOp.pickT (.bool true) rfl rfl rfl rfl ?_)
     refine AOps.nil ?_
     change AWP _ _ _ _ _ _
     refine AWP.condT rfl rfl ?_
     refine AWP.seq ?_
     refine AWP.region (l := [0]) rfl ?_
     refine AOps.cons rfl rfl (AOp.assign (.bool false) rfl rfl ?_)
     refine AOps.nil ?_
     change AWP _ _ _ _ _ _
     refine AWP.ret ?_
     refine ⟨_, _, Ghost.refl, .inr rfl, _, Res.one rfl rfl, ?_, m22⟩
     exact (congrArg AV.bool (rfl.trans (decide_eq_false (show ¬ (a = b) from by rintro rfl; first | omega | (exact absurd rfl b27))).symm))
   ·
    refine AOps.no rfl rfl rfl rfl rfl rfl rfl (ble_of (nb (decide_eq_false b26)) (by decide)) ?_
    refine AOps.no rfl rfl rfl rfl rfl rfl rfl (ble_of (nb (decide_eq_false b26)) (by decide)) ?_
    refine AOps.no rfl rfl rfl rfl rfl rfl rfl (ble_of (nb (decide_eq_false b26)) (by decide)) ?_
    refine AOps.no rfl rfl rfl rfl rfl rfl rfl (ble_of (nb (decide_eq_false b26)) (by decide)) ?_
    refine AOps.no rfl rfl rfl rfl rfl rfl rfl (ble_of (nb (decide_eq_false b26)) (by decide)) ?_
    refine AOps.no rfl rfl rfl rfl rfl rfl rfl (ble_of (nb (decide_eq_false b26)) (by decide)) ?_
    refine AOps.no rfl rfl rfl rfl rfl rfl rfl (ble_of (nb (decide_eq_false b26)) (by decide)) ?_
    refine AOps.cons rfl rfl (AOp.pickT (.bool true) rfl rfl (nb (decide_eq_false b26)) rfl ?_)
    refine AOps.cons rfl rfl (AOp.move (.bool true) rfl rfl ?_)
    refine AOps.no rfl rfl rfl rfl rfl rfl rfl (ble_of rfl (by decide)) ?_
    refine AOps.no rfl rfl rfl rfl rfl rfl rfl (ble_of rfl (by decide)) ?_
    refine AOps.no rfl rfl rfl rfl rfl rfl rfl (ble_of rfl (by decide)) ?_
    refine AOps.no rfl rfl rfl rfl rfl rfl rfl (ble_of rfl (by decide)) ?_
    refine AOps.no rfl rfl rfl rfl rfl rfl rfl (ble_of rfl (by decide)) ?_
    refine AOps.no rfl rfl rfl rfl rfl rfl rfl (ble_of rfl (by decide)) ?_
    refine AOps.no rfl rfl rfl rfl rfl rfl rfl (ble_of rfl (by decide)) ?_
    refine AOps.cons rfl rfl (AOp.pickT (.bool true) rfl rfl rfl rfl ?_)
    refine AOps.cons rfl rfl (AOp.move (.bool true) rfl rfl ?_)
    refine AOps.no rfl rfl rfl rfl rfl rfl rfl (ble_of rfl (by decide)) ?_
    refine AOps.no rfl rfl rfl rfl rfl rfl rfl (ble_of rfl (by decide)) ?_
    refine AOps.no rfl rfl rfl rfl rfl rfl rfl (ble_of rfl (by decide)) ?_
    refine AOps.no rfl rfl rfl rfl rfl rfl rfl (ble_of rfl (by decide)) ?_
    refine AOps.no rfl rfl rfl rfl rfl rfl rfl (ble_of rfl (by decide)) ?_
    refine AOps.no rfl rfl rfl rfl rfl rfl rfl (ble_of rfl (by decide)) ?_
    refine AOps.no rfl rfl rfl rfl rfl rfl rfl (ble_of rfl (by decide)) ?_
    refine AOps.cons rfl rfl (AOp.pickT (.bool true) rfl rfl rfl rfl ?_)
    refine AOps.cons rfl rfl (AOp.move (.bool true) rfl rfl ?_)
    refine AOps.no rfl rfl rfl rfl rfl rfl rfl (ble_of rfl (by decide)) ?_
    refine AOps.no rfl rfl rfl rfl rfl rfl rfl (ble_of rfl (by decide)) ?_
    refine AOps.no rfl rfl rfl rfl rfl rfl rfl (ble_of rfl (by decide)) ?_
    refine AOps.no rfl rfl rfl rfl rfl rfl rfl (ble_of rfl (by decide)) ?_
    refine AOps.no rfl rfl rfl rfl rfl rfl rfl (ble_of rfl (by decide)) ?_
    refine AOps.no rfl rfl rfl rfl rfl rfl rfl (ble_of rfl (by decide)) ?_
    refine AOps.no rfl rfl rfl rfl rfl rfl rfl (ble_of rfl (by decide)) ?_
    refine AOps.cons rfl rfl (AOp.pickT (.bool true) rfl rfl rfl rfl ?_)
    refine AOps.nil ?_
    change AWP _ _ _ _ _ _
    refine AWP.condT rfl rfl ?_
    refine AWP.seq ?_
    refine AWP.region (l := [0]) rfl ?_
    refine AOps.cons rfl rfl (AOp.assign (.bool false) rfl rfl ?_)
    refine AOps.nil ?_
    change AWP _ _ _ _ _ _
    refine AWP.ret ?_
    refine ⟨_, _, Ghost.refl, .inr rfl, _, Res.one rfl rfl, ?_, m22⟩
    exact (congrArg AV.bool (rfl.trans (decide_eq_false (show ¬ (a = b) from by rintro rfl; first | omega | (exact absurd rfl b26))).symm))
  ·
   refine AOps.no rfl rfl rfl rfl rfl rfl rfl (ble_of (nb (decide_eq_false b25)) (by decide)) ?_
   refine AOps.no rfl rfl rfl rfl rfl rfl rfl (ble_of (nb (decide_eq_false b25)) (by decide)) ?_
   refine AOps.no rfl rfl rfl rfl rfl rfl rfl (ble_of (nb (decide_eq_false b25)) (by decide)) ?_
   refine AOps.no rfl rfl rfl rfl rfl rfl rfl (ble_of (nb (decide_eq_false b25)) (by decide)) ?_
   refine AOps.no rfl rfl rfl rfl rfl rfl rfl (ble_of (nb (decide_eq_false b25)) (by decide)) ?_
   refine AOps.no rfl rfl rfl rfl rfl rfl rfl (ble_of (nb (decide_eq_false b25)) (by decide)) ?_
   refine AOps.no rfl rfl rfl rfl rfl rfl rfl (ble_of (nb (decide_eq_false b25)) (by decide)) ?_
   refine AOps.cons rfl rfl (AOp.pickT (.bool true) rfl rfl (nb (decide_eq_false b25)) rfl ?_)
   refine AOps.cons rfl rfl (AOp.move (.bool true) rfl rfl ?_)
   refine AOps.no rfl rfl rfl rfl rfl rfl rfl (ble_of rfl (by decide)) ?_
   refine AOps.no rfl rfl rfl rfl rfl rfl rfl (ble_of rfl (by decide)) ?_
   refine AOps.no rfl rfl rfl rfl rfl rfl rfl (ble_of rfl (by decide)) ?_
   refine AOps.no rfl rfl rfl rfl rfl rfl rfl (ble_of rfl (by decide)) ?_
   refine AOps.no rfl rfl rfl rfl rfl rfl rfl (ble_of rfl (by decide)) ?_
   refine AOps.no rfl rfl rfl rfl rfl rfl rfl (ble_of rfl (by decide)) ?_
   refine AOps.no rfl rfl rfl rfl rfl rfl rfl (ble_of rfl (by decide)) ?_
   refine AOps.cons rfl rfl (AOp.pickT (.bool true) rfl rfl rfl rfl ?_)
   refine AOps.cons rfl rfl (AOp.move (.bool true) rfl rfl ?_)
   refine AOps.no rfl rfl rfl rfl rfl rfl rfl (ble_of rfl (by decide)) ?_
   refine AOps.no rfl rfl rfl rfl rfl rfl rfl (ble_of rfl (by decide)) ?_
   refine AOps.no rfl rfl rfl rfl rfl rfl rfl (ble_of rfl (by decide)) ?_
   refine AOps.no rfl rfl rfl rfl rfl rfl rfl (ble_of rfl (by decide)) ?_
   refine AOps.no rfl rfl rfl rfl rfl rfl rfl (ble_of rfl (by decide)) ?_
   refine AOps.no rfl rfl rfl rfl rfl rfl rfl (ble_of rfl (by decide)) ?_
   refine AOps.no rfl rfl rfl rfl rfl rfl rfl (ble_of rfl (by decide)) ?_
   refine AOps.cons rfl rfl (AOp.pickT (.bool true) rfl rfl rfl rfl ?_)
   refine AOps.cons rfl rfl (AOp.move (.bool true) rfl rfl ?_)
   refine AOps.no rfl rfl rfl rfl rfl rfl rfl (ble_of rfl (by decide)) ?_
   refine AOps.no rfl rfl rfl rfl rfl rfl rfl (ble_of rfl (by decide)) ?_
   refine AOps.no rfl rfl rfl rfl rfl rfl rfl (ble_of rfl (by decide)) ?_
   refine AOps.no rfl rfl rfl rfl rfl rfl rfl (ble_of rfl (by decide)) ?_
   refine AOps.no rfl rfl rfl rfl rfl rfl rfl (ble_of rfl (by decide)) ?_
   refine AOps.no rfl rfl rfl rfl rfl rfl rfl (ble_of rfl (by decide)) ?_
   refine AOps.no rfl rfl rfl rfl rfl rfl rfl (ble_of rfl (by decide)) ?_
   refine AOps.cons rfl rfl (AOp.pickT (.bool true) rfl rfl rfl rfl ?_)
   refine AOps.cons rfl rfl (AOp.move (.bool true) rfl rfl ?_)
   refine AOps.no rfl rfl rfl rfl rfl rfl rfl (ble_of rfl (by decide)) ?_
   refine AOps.no rfl rfl rfl rfl rfl rfl rfl (ble_of rfl (by decide)) ?_
   refine AOps.no rfl rfl rfl rfl rfl rfl rfl (ble_of rfl (by decide)) ?_
   refine AOps.no rfl rfl rfl rfl rfl rfl rfl (ble_of rfl (by decide)) ?_
   refine AOps.no rfl rfl rfl rfl rfl rfl rfl (ble_of rfl (by decide)) ?_
   refine AOps.no rfl rfl rfl rfl rfl rfl rfl (ble_of rfl (by decide)) ?_
   refine AOps.no rfl rfl rfl rfl rfl rfl rfl (ble_of rfl (by decide)) ?_
   refine AOps.cons rfl rfl (AOp.pickT (.bool true) rfl rfl rfl rfl ?_)
   refine AOps.nil ?_
   change AWP _ _ _ _ _ _
   refine AWP.condT rfl rfl ?_
   refine AWP.seq ?_
   refine AWP.region (l := [0]) rfl ?_
   refine AOps.cons rfl rfl (AOp.assign (.bool false) rfl rfl ?_)
   refine AOps.nil ?_
   change AWP _ _ _ _ _ _
   refine AWP.ret ?_
   refine ⟨_, _, Ghost.refl, .inr rfl, _, Res.one rfl rfl, ?_, m22⟩
   exact (congrArg AV.bool (rfl.trans (decide_eq_false (show ¬ (a = b) from by rintro rfl; first | omega | (exact absurd rfl b25))).symm))
 ·
  refine AOps.no rfl rfl rfl rfl rfl rfl rfl (ble_of (nb (decide_eq_false b24)) (by decide)) ?_
  refine AOps.no rfl rfl rfl rfl rfl rfl rfl (ble_of (nb (decide_eq_false b24)) (by decide)) ?_
  refine AOps.no rfl rfl rfl rfl rfl rfl rfl (ble_of (nb (decide_eq_false b24)) (by decide)) ?_
  refine AOps.no rfl rfl rfl rfl rfl rfl rfl (ble_of (nb (decide_eq_false b24)) (by decide)) ?_
  refine AOps.no rfl rfl rfl rfl rfl rfl rfl (ble_of (nb (decide_eq_false b24)) (by decide)) ?_
  refine AOps.cons rfl rfl (AOp.pickT (.bool true) rfl rfl (nb (decide_eq_false b24)) rfl ?_)
  refine AOps.cons rfl rfl (AOp.move (.bool true) rfl rfl ?_)
  refine AOps.no rfl rfl rfl rfl rfl rfl rfl (ble_of rfl (by decide)) ?_
  refine AOps.no rfl rfl rfl rfl rfl rfl rfl (ble_of rfl (by decide)) ?_
  refine AOps.no rfl rfl rfl rfl rfl rfl rfl (ble_of rfl (by decide)) ?_
  refine AOps.no rfl rfl rfl rfl rfl rfl rfl (ble_of rfl (by decide)) ?_
  refine AOps.no rfl rfl rfl rfl rfl rfl rfl (ble_of rfl (by decide)) ?_
  refine AOps.no rfl rfl rfl rfl rfl rfl rfl (ble_of rfl (by decide)) ?_
  refine AOps.no rfl rfl rfl rfl rfl rfl rfl (ble_of rfl (by decide)) ?_
  refine AOps.cons rfl rfl (AOp.pickT (.bool true) rfl rfl rfl rfl ?_)
  refine AOps.cons rfl rfl (AOp.move (.bool true) rfl rfl ?_)
  refine AOps.no rfl rfl rfl rfl rfl rfl rfl (ble_of rfl (by decide)) ?_
  refine AOps.no rfl rfl rfl rfl rfl rfl rfl (ble_of rfl (by decide)) ?_
  refine AOps.no rfl rfl rfl rfl rfl rfl rfl (ble_of rfl (by decide)) ?_
  refine AOps.no rfl rfl rfl rfl rfl rfl rfl (ble_of rfl (by decide)) ?_
  refine AOps.no rfl rfl rfl rfl rfl rfl rfl (ble_of rfl (by decide)) ?_
  refine AOps.no rfl rfl rfl rfl rfl rfl rfl (ble_of rfl (by decide)) ?_
  refine AOps.no rfl rfl rfl rfl rfl rfl rfl (ble_of rfl (by decide)) ?_
  refine AOps.cons rfl rfl (AOp.pickT (.bool true) rfl rfl rfl rfl ?_)
  refine AOps.cons rfl rfl (AOp.move (.bool true) rfl rfl ?_)
  refine AOps.no rfl rfl rfl rfl rfl rfl rfl (ble_of rfl (by decide)) ?_
  refine AOps.no rfl rfl rfl rfl rfl rfl rfl (ble_of rfl (by decide)) ?_
  refine AOps.no rfl rfl rfl rfl rfl rfl rfl (ble_of rfl (by decide)) ?_
  refine AOps.no rfl rfl rfl rfl rfl rfl rfl (ble_of rfl (by decide)) ?_
  refine AOps.no rfl rfl rfl rfl rfl rfl rfl (ble_of rfl (by decide)) ?_
  refine AOps.no rfl rfl rfl rfl rfl rfl rfl (ble_of rfl (by decide)) ?_
  refine AOps.no rfl rfl rfl rfl rfl rfl rfl (ble_of rfl (by decide)) ?_
  refine AOps.cons rfl rfl (AOp.pickT (.bool true) rfl rfl rfl rfl ?_)
  refine AOps.cons rfl rfl (AOp.move (.bool true) rfl rfl ?_)
  refine AOps.no rfl rfl rfl rfl rfl rfl rfl (ble_of rfl (by decide)) ?_
  refine AOps.no rfl rfl rfl rfl rfl rfl rfl (ble_of rfl (by decide)) ?_
  refine AOps.no rfl rfl rfl rfl rfl rfl rfl (ble_of rfl (by decide)) ?_
  refine AOps.no rfl rfl rfl rfl rfl rfl rfl (ble_of rfl (by decide)) ?_
  refine AOps.no rfl rfl rfl rfl rfl rfl rfl (ble_of rfl (by decide)) ?_
  refine AOps.no rfl rfl rfl rfl rfl rfl rfl (ble_of rfl (by decide)) ?_
  refine AOps.no rfl rfl rfl rfl rfl rfl rfl (ble_of rfl (by decide)) ?_
  refine AOps.cons rfl rfl (AOp.pickT (.bool true) rfl rfl rfl rfl ?_)
  refine AOps.cons rfl rfl (AOp.move (.bool true) rfl rfl ?_)
  refine AOps.no rfl rfl rfl rfl rfl rfl rfl (ble_of rfl (by decide)) ?_
  refine AOps.no rfl rfl rfl rfl rfl rfl rfl (ble_of rfl (by decide)) ?_
  refine AOps.no rfl rfl rfl rfl rfl rfl rfl (ble_of rfl (by decide)) ?_
  refine AOps.no rfl rfl rfl rfl rfl rfl rfl (ble_of rfl (by decide)) ?_
  refine AOps.no rfl rfl rfl rfl rfl rfl rfl (ble_of rfl (by decide)) ?_
  refine AOps.no rfl rfl rfl rfl rfl rfl rfl (ble_of rfl (by decide)) ?_
  refine AOps.no rfl rfl rfl rfl rfl rfl rfl (ble_of rfl (by decide)) ?_
  refine AOps.cons rfl rfl (AOp.pickT (.bool true) rfl rfl rfl rfl ?_)
  refine AOps.nil ?_
  change AWP _ _ _ _ _ _
  refine AWP.condT rfl rfl ?_
  refine AWP.seq ?_
  refine AWP.region (l := [0]) rfl ?_
  refine AOps.cons rfl rfl (AOp.assign (.bool false) rfl rfl ?_)
  refine AOps.nil ?_
  change AWP _ _ _ _ _ _
  refine AWP.ret ?_
  refine ⟨_, _, Ghost.refl, .inr rfl, _, Res.one rfl rfl, ?_, m22⟩
  exact (congrArg AV.bool (rfl.trans (decide_eq_false (show ¬ (a = b) from by rintro rfl; first | omega | (exact absurd rfl b24))).symm))
end Go.Proofs.S
namespace Go.Proofs.S
open Go Go.AH Go.Proofs.L
set_option maxRecDepth 4000
set_option linter.unusedSectionVars false
variable [LexG]
theorem at_out {α : Type} [Inhabited α] {l : List α} {i : Int} (h : (l.length : Int) ≤ i) : at_ l i = default := by
  simp only [at_, List.getD_eq_getElem?_getD]
  rw [List.getElem?_eq_none (by omega)]; rfl
theorem at_neg {α : Type} [Inhabited α] {l : List α} {i : Int} (h : i < 0) : at_ l i = at_ l 0 := by
  simp only [at_, show i.toNat = (0 : Int).toNat by omega]
theorem numsL_at (w : List ByteArray) (i : Int) : -999999 ≤ at_ (numsL w) i ∧ at_ (numsL w) i ≤ 999999 := by
  have key : ∀ i : Int, 0 ≤ i → -999999 ≤ at_ (numsL w) i ∧ at_ (numsL w) i ≤ 999999 := fun i h0 => by
    by_cases h : i < ((numsL w).length : Int)
    · exact nums_rng w i h0 h
    · rw [at_out (by omega), show (default : Int) = 0 from rfl]; omega
  by_cases h : i < 0
  · rw [at_neg h]; exact key 0 (by omega)
  · exact key i (by omega)
theorem inRn (w : List ByteArray) (i : Int) : inR (at_ (numsL w) i) := by have := numsL_at w i; unfold inR; omega
theorem numsL_drop (w : List ByteArray) (k : Nat) : (numsL w).drop k = numsL (w.drop k) := by simp [numsL]
theorem ranPt (w : List ByteArray) : ranV (ptR (numsL w)) := ⟨inRn _ _, inRn _ _, inRn _ _⟩
theorem ranColR (w : List ByteArray) : ranCol (colR (numsL w)) := ⟨inRn _ _, inRn _ _, inRn _ _⟩
theorem named_at {w : List ByteArray} {k l : Int} (h : namedB w k l = true) (hk : 1 ≤ k) (hl : 1 ≤ l) : (at_ w 0).size ≤ 1048576 := by
  have h1 := named_len h
  simp only [namedB, Bool.and_eq_true] at h
  have hm : at_ w 0 ∈ w.take k.toNat := by
    match w, h1 with
    | [], h1 => simp at h1; omega
    | a :: r, _ =>
      obtain ⟨m, hm⟩ : ∃ m, k.toNat = m + 1 := ⟨k.toNat - 1, by omega⟩
      rw [hm]; simp [at_]
  have := (nameB_iff.1 (List.all_eq_true.1 h.2 _ hm)).2.1
  omega
theorem putC_all {p : CageT → Prop} {cs : List CageT} {c : CageT} (h : ∀ c ∈ cs, p c) (hc : p c) : ∀ x ∈ putC cs c, p x := fun x hx => by
  rcases List.mem_append.1 hx with hx | hx
  · exact h x (List.dropLast_subset _ hx)
  · rw [List.mem_singleton.1 hx]; exact hc
theorem snoc_all {α : Type} {p : α → Prop} {l : List α} {a : α} (h : ∀ x ∈ l, p x) (ha : p a) : ∀ x ∈ l ++ [a], p x := fun x hx => by
  rcases List.mem_append.1 hx with hx | hx
  · exact h x hx
  · rw [List.mem_singleton.1 hx]; exact ha
theorem idx_inR (l : List ByteArray) (x : ByteArray) (h : l.length ≤ 1048576) : inR (idxN l x) := by have := idxN_rng l x; unfold inR; omega
theorem mem_nums {w : List ByteArray} {x : Int} (h : x ∈ numsL w) : inR x := by
  obtain ⟨y, _, rfl⟩ := List.mem_map.1 h
  have := num_rng y; unfold inR; omega
theorem lineP_ran {s t : Rd} {w : List ByteArray} (hw : w.length ≤ 1048576) (ok : RdOk s) (r : RanS s.scene) (h : lineP s w = .ok t) : RanS t.scene := by
  have ok' := lineP_ok ok h
  obtain ⟨a1, a2, a3, a4, a5, a6⟩ := ok
  obtain ⟨b1, b2, b3, b4, b5, b6⟩ := ok'
  obtain ⟨cam, sky, _, _, _, _, _, rl, rm, rt, rk, rc⟩ := r
  have lens : t.scene.Lights.length ≤ 1048576 ∧ t.scene.Mats.length ≤ 1048576 ∧ t.scene.Texs.length ≤ 1048576 ∧ t.scene.Skins.length ≤ 1048576 ∧ t.scene.Cages.length ≤ 1048576 :=
    ⟨Nat.le_trans b1 (by decide), Nat.le_trans b2 (by decide), Nat.le_trans b3 (by decide), Nat.le_trans b4 (by decide), by show t.cages.length ≤ _; omega⟩
  obtain ⟨n1, n2, n3, n4, n5⟩ := lens
  have lc : s.cages ≠ [] → ranCage (lastC s.cages) := fun hne => rc _ (lastC_mem hne)
  unfold lineP at h
  simp only [cameraP, skyP, lightP, textureP, materialP, cageP, vertexP, faceP, creaseP] at h
  repeat' split at h
  all_goals simp only [gd_ok, Except.ok.injEq, decide_eq_true_eq, reduceCtorEq] at h
  · obtain ⟨_, _, _, _, _, _, _, rfl⟩ := h
    refine ⟨?_, sky, n1, n2, n3, n4, n5, rl, rm, rt, rk, rc⟩
    show ranCam _
    simp only [numsL_drop]
    exact ⟨inRn _ _, inRn _ _, inRn _ _, inRn _ _, inRn _ _, inRn _ _, inRn _ _, inRn _ _, inRn _ _, inRn _ _, inRn _ _, inRn _ _, inRn _ _, inRn _ _, inRn _ _, inRn _ _⟩
  · obtain ⟨_, _, _, rfl⟩ := h; exact ⟨cam, ranColR _, n1, n2, n3, n4, n5, rl, rm, rt, rk, rc⟩
  · obtain ⟨_, h1, _, _, rfl⟩ := h
    refine ⟨cam, sky, n1, n2, n3, n4, n5, snoc_all rl ?_, rm, rt, rk, rc⟩
    simp only [numsL_drop]
    exact ⟨inRn _ _, inRn _ _, inRn _ _, inRn _ _, inRn _ _, inRn _ _⟩
  · obtain ⟨h0, _, _, h1, _, _, _, rfl⟩ := h
    refine ⟨cam, sky, n1, n2, n3, n4, n5, rl, rm, snoc_all rt ⟨named_at h0 (by omega) (by omega), inRn _ _, inRn _ _, ?_, fun x hx => ?_⟩, rk, rc⟩
    · rw [numsL_drop, numsL_len]; simp; omega
    · rw [numsL_drop] at hx; exact mem_nums hx
  · obtain ⟨h0, _, h1, _, _, _, _, _, _, rfl⟩ := h
    exact ⟨cam, sky, n1, n2, n3, n4, n5, rl, snoc_all rm ⟨named_at h0 (by omega) (by omega), inRn _ _, inRn _ _, inRn _ _, inRn _ _, inRn _ _, inRn _ _, inRn _ _, inRn _ _⟩, rt, rk, rc⟩
  · obtain ⟨h0, _, _, h1, _, _, _, _, rfl⟩ := h
    refine ⟨cam, sky, n1, n2, n3, n4, n5, rl, rm, rt, snoc_all rk ⟨named_at h0 (by omega) (by omega), idx_inR _ _ (by simp; omega), inRn (cageW (w.drop 1)) 0, inRn (cageW (w.drop 1)) 1, idx_inR _ _ (by simp; omega), inRn (cageW (w.drop 1)) 2⟩, snoc_all rc ?_⟩
    exact ⟨by simp, by simp, by simp, by simp⟩
  · obtain ⟨_, h1, h2, _, rfl⟩ := h
    have hne : s.cages ≠ [] := List.length_pos_iff.1 (by omega)
    have hc := lc hne
    refine ⟨cam, sky, n1, n2, n3, n4, n5, rl, rm, rt, rk, putC_all rc ⟨⟨by simp; omega, hc.1.2⟩, snoc_all hc.2.1 (ranPt _), hc.2.2⟩⟩
  · obtain ⟨_, h3, h1, h2, _, rfl⟩ := h
    have hne : s.cages ≠ [] := List.length_pos_iff.1 (by omega)
    have hc := lc hne
    have h8 : w.length ≤ 9 := by simp only [Bool.and_eq_true, decide_eq_true_eq, List.length_drop] at h3; omega
    refine ⟨cam, sky, n1, n2, n3, n4, n5, rl, rm, rt, rk, putC_all rc ⟨⟨hc.1.1, by simp; omega, hc.1.2.2⟩, hc.2.1, hc.2.2.1, snoc_all hc.2.2.2 ⟨by rw [numsL_len]; simp; omega, fun x hx => mem_nums hx⟩⟩⟩
  · obtain ⟨_, h1, h2, _, _, _, rfl⟩ := h
    have hne : s.cages ≠ [] := List.length_pos_iff.1 (by omega)
    have hc := lc hne
    refine ⟨cam, sky, n1, n2, n3, n4, n5, rl, rm, rt, rk, putC_all rc ⟨⟨hc.1.1, hc.1.2.1, by simp; omega⟩, hc.2.1, snoc_all hc.2.2.1 ⟨inRn _ _, inRn _ _, inRn _ _⟩, hc.2.2.2⟩⟩
theorem rd0_ran : RanS rd0.scene := by
  have z : inR 0 := by unfold inR; omega
  exact ⟨⟨z, z, z, z, z, z, z, z, z, z, z, z, z, z, z, z⟩, ⟨z, z, z⟩, by decide, by decide, by decide, by decide, by decide, by simp [rd0, Rd.scene], by simp [rd0, Rd.scene], by simp [rd0, Rd.scene], by simp [rd0, Rd.scene], by simp [rd0, Rd.scene]⟩
theorem foldP_ran : ∀ (l : List LineT) (s t : Rd), (∀ x ∈ l, x.Words.length ≤ 1048576) → RdOk s → RanS s.scene → foldP s l = .ok t → RdOk t ∧ RanS t.scene
  | [], s, t, _, h1, h2, h => by cases h; exact ⟨h1, h2⟩
  | x :: r, s, t, hw, h1, h2, h => by
    cases hl : lineP s x.Words with
    | error k => rw [foldP_err hl] at h; cases h
    | ok u =>
      rw [foldP_cons hl] at h
      exact foldP_ran r u t (fun y hy => hw y (.tail _ hy)) (lineP_ok h1 hl) (lineP_ran (hw x (.head _)) h1 h2 hl) h
theorem parse_cases (s : ByteArray) : (∃ t, parseR s = (t.scene, 0, 0) ∧ RdOk t ∧ RanS t.scene ∧ (linesR s).2.2 = 0 ∧ foldP rd0 (linesR s).1 = .ok t ∧ t.hc = true) ∨ ((parseR s).1 = rd0.scene ∧ (parseR s).2.2 ≠ 0) := by
  unfold parseR
  by_cases h : (linesR s).2.2 = 0
  · rw [if_pos h]
    cases hf : foldP rd0 (linesR s).1 with
    | ok t =>
      obtain ⟨h1, h2⟩ := foldP_ran _ _ _ (lines_words s) rd0_ok rd0_ran hf
      by_cases hc : t.hc = true
      · exact .inl ⟨t, by simp [endP, hc], h1, h2, h, rfl, hc⟩
      · exact .inr (by simp [endP, hc])
    | error e =>
      refine .inr ⟨rfl, ?_⟩
      have key : ∀ (l : List LineT) (u : Rd) (e : Int × Int), foldP u l = .error e → e.2 ≠ 0 := by
        intro l
        induction l with
        | nil => intro u e h; cases h
        | cons x r ih =>
          intro u e h
          cases hl : lineP u x.Words with
          | error k => rw [foldP_err hl] at h; cases h; exact line_err hl
          | ok v => rw [foldP_cons hl] at h; exact ih v e h
      exact key _ _ _ hf
  · rw [if_neg h]; exact .inr ⟨rfl, h⟩
theorem parse_ran (s : ByteArray) : RanS (parseR s).1 ∧ (parseR s).1.Skins.length = (parseR s).1.Cages.length := by
  rcases parse_cases s with ⟨t, h, h1, h2, _⟩ | ⟨h, _⟩
  · rw [h]; exact ⟨h2, h1.c.symm⟩
  · rw [h]; exact ⟨rd0_ran, rfl⟩
end Go.Proofs.S
namespace Go.Proofs.S
open Go Go.AH Go.Proofs.L
set_option maxRecDepth 4000
set_option linter.unusedSectionVars false
variable [LexG]
structure RdB (s : Rd) : Prop where
  cam : s.hc = true → (1 ≤ s.cam.W ∧ s.cam.W ≤ 64) ∧ (1 ≤ s.cam.H ∧ s.cam.H ≤ 64) ∧ (1 ≤ s.cam.Grid ∧ s.cam.Grid ≤ 4) ∧ 0 ≤ s.cam.Depth ∧ s.cam.Depth ≤ 8
  k : ∀ k ∈ s.skins, (0 ≤ k.Mat ∧ k.Mat < (s.mats.length : Int)) ∧ (-1 ≤ k.Tex ∧ k.Tex < (s.texs.length : Int)) ∧ (0 ≤ k.Levels ∧ k.Levels ≤ 2) ∧ 1 ≤ k.Unit
  f : ∀ c ∈ s.cages, ∀ f ∈ c.Faces, ∀ x ∈ f, 0 ≤ x ∧ x < (c.Verts.length : Int)
structure SBd (a : SceneT) : Prop where
  cam : (1 ≤ a.Camera.W ∧ a.Camera.W ≤ 64) ∧ (1 ≤ a.Camera.H ∧ a.Camera.H ≤ 64) ∧ (1 ≤ a.Camera.Grid ∧ a.Camera.Grid ≤ 4) ∧ 0 ≤ a.Camera.Depth ∧ a.Camera.Depth ≤ 8
  n : a.Skins.length = a.Cages.length ∧ a.Cages.length ≤ 8
  k : ∀ i : Int, 0 ≤ i → i < (a.Skins.length : Int) → (0 ≤ (at_ a.Skins i).Mat ∧ (at_ a.Skins i).Mat < (a.Mats.length : Int)) ∧ (-1 ≤ (at_ a.Skins i).Tex ∧ (at_ a.Skins i).Tex < (a.Texs.length : Int)) ∧ (0 ≤ (at_ a.Skins i).Levels ∧ (at_ a.Skins i).Levels ≤ 2) ∧ 1 ≤ (at_ a.Skins i).Unit
  c : ∀ i : Int, 0 ≤ i → i < (a.Cages.length : Int) → (at_ a.Cages i).Verts.length ≤ 64 ∧ (at_ a.Cages i).Faces.length ≤ 64
  l : ∀ i : Int, 0 ≤ i → i < (a.Cages.length : Int) → ∀ f : Int, 0 ≤ f → f < ((at_ a.Cages i).Faces.length : Int) → (at_ (at_ a.Cages i).Faces f).length ≤ 1048576
  f : ∀ i : Int, 0 ≤ i → i < (a.Cages.length : Int) → ∀ f : Int, 0 ≤ f → f < ((at_ a.Cages i).Faces.length : Int) → ∀ j : Int, 0 ≤ j → j < ((at_ (at_ a.Cages i).Faces f).length : Int) → 0 ≤ at_ (at_ (at_ a.Cages i).Faces f) j ∧ at_ (at_ (at_ a.Cages i).Faces f) j < ((at_ a.Cages i).Verts.length : Int)
end Go.Proofs.S
namespace Go.Proofs.L
open Go Go.AH Go.Lib
set_option maxRecDepth 4000
set_option linter.unusedSectionVars false
variable [LexG]
theorem pcs_app : ∀ l m : List UInt8, pcs (l ++ 10 :: m) = pcs l ++ pcs m
  | [], m => by simp [pcs]
  | b :: l, m => by
    rw [List.cons_append, pcs, pcs, pcs_app l m]
    split
    · rfl
    · cases hp : pcs l with
      | nil => exact absurd hp (pcs_ne l)
      | cons p r => rfl
abbrev scF (ps : List (List UInt8)) (out : List LineT) (no : Int) : List LineT × Int × Int := scanQ ps ⟨out, no, [], [], false⟩
end Go.Proofs.L
namespace Go.Proofs.S
open Go Go.AH Go.Proofs.L
set_option maxRecDepth 4000
set_option linter.unusedSectionVars false
variable [LexG]
theorem foldP_app : ∀ (l m : List LineT) (u : Rd), foldP u (l ++ m) = match foldP u l with | .ok t => foldP t m | .error e => .error e
  | [], m, u => rfl
  | x :: l, m, u => by
    rw [List.cons_append]
    cases hl : lineP u x.Words with
    | error k => rw [foldP_err hl, foldP_err hl]
    | ok v => rw [foldP_cons hl, foldP_cons hl]; exact foldP_app l m v
end Go.Proofs.S
namespace Go.Proofs.S
open Go Go.AH Go.Maps Go.Proofs.L
set_option maxRecDepth 4000
set_option linter.unusedSectionVars false
set_option linter.unusedVariables false
def cK (l : List ByteArray) (k : ByteArray) : Nat := l.countP fun y => decide (y = k)
variable [LexG]
def w0 (l : LineT) : ByteArray := at_ l.Words 0
def kc (l : List LineT) (k : ByteArray) : Nat := cK (l.map w0) k
def sumV (cs : List CageT) : Nat := (cs.map fun c => c.Verts.length).sum
def sumF (cs : List CageT) : Nat := (cs.map fun c => c.Faces.length).sum
def sumC (cs : List CageT) : Nat := (cs.map fun c => c.Creases.length).sum
structure Add (s t : Rd) (k : ByteArray) : Prop where
  cam : t.hc.toNat = s.hc.toNat + if k = kCamera then 1 else 0
  l : t.lights.length = s.lights.length + if k = kLight then 1 else 0
  x : t.texs.length = s.texs.length + if k = kTexture then 1 else 0
  m : t.mats.length = s.mats.length + if k = kMaterial then 1 else 0
  c : t.cages.length = s.cages.length + if k = kCage then 1 else 0
  v : sumV t.cages = sumV s.cages + if k = kV then 1 else 0
  f : sumF t.cages = sumF s.cages + if k = kF then 1 else 0
  e : sumC t.cages = sumC s.cages + if k = kCrease then 1 else 0
theorem sum_nil (g : CageT → Nat) (cs : List CageT) (h : g ⟨[], [], []⟩ = 0) : ((cs ++ [(⟨[], [], []⟩ : CageT)]).map g).sum = (cs.map g).sum := by
  rw [List.map_append, List.sum_append, List.map_singleton, List.sum_singleton, h]; rfl
structure Adds (s t : Rd) (l : List LineT) : Prop where
  cam : t.hc.toNat = s.hc.toNat + kc l kCamera
  li : t.lights.length = s.lights.length + kc l kLight
  x : t.texs.length = s.texs.length + kc l kTexture
  m : t.mats.length = s.mats.length + kc l kMaterial
  c : t.cages.length = s.cages.length + kc l kCage
  v : sumV t.cages = sumV s.cages + kc l kV
  f : sumF t.cages = sumF s.cages + kc l kF
  e : sumC t.cages = sumC s.cages + kc l kCrease
theorem take_step_ {α : Type} [Inhabited α] {l : List α} {i : Int} (h0 : 0 ≤ i) (h1 : i < (l.length : Int)) : l.take (i + 1).toNat = l.take i.toNat ++ [at_ l i] := by
  rw [show (i + 1).toNat = i.toNat + 1 by omega, List.take_succ_eq_append_getElem (by omega), at_get h0 h1]
end Go.Proofs.S
namespace Go.Proofs.S
open Go Go.AH Go.Proofs.L
set_option maxRecDepth 4000
set_option linter.unusedSectionVars false
set_option linter.unusedVariables false
variable [LexG]
def isL (w : List ByteArray) : Bool := decide (at_ w 0 = kLight) || decide (at_ w 0 = kSky)
def mixR (a b : Rd) : Rd := { b with sky := a.sky, lights := a.lights, hs := a.hs }
theorem bneq {a b : ByteArray} (h : a.data.toList ≠ b.data.toList) : a ≠ b := fun e => h (by rw [e])
theorem line_sky {s : Rd} {w : List ByteArray} (e : at_ w 0 = kSky) : lineP s w = skyP s (w.drop 1) := by
  unfold lineP
  rw [if_neg (by rw [e]; exact bneq (by decide)), if_pos e]
theorem line_light {s : Rd} {w : List ByteArray} (e : at_ w 0 = kLight) : lineP s w = lightP s (w.drop 1) := by
  unfold lineP
  rw [if_neg (by rw [e]; exact bneq (by decide)), if_neg (by rw [e]; exact bneq (by decide)), if_pos e]
theorem line_L {s t : Rd} {w : List ByteArray} (hl : isL w = true) (h : lineP s w = .ok t) : (∀ b, lineP (mixR s b) w = .ok (mixR t b)) ∧ ∀ a, mixR a t = mixR a s := by
  simp only [isL, Bool.or_eq_true, decide_eq_true_eq] at hl
  rcases hl with e | e
  · simp only [line_light e] at h ⊢
    simp only [lightP, gd_ok, Except.ok.injEq] at h ⊢
    obtain ⟨h1, h2, h3, h4, rfl⟩ := h
    exact ⟨fun b => ⟨h1, h2, h3, h4, rfl⟩, fun _ => rfl⟩
  · simp only [line_sky e] at h ⊢
    simp only [skyP, gd_ok, Except.ok.injEq] at h ⊢
    obtain ⟨h1, h2, h3, rfl⟩ := h
    exact ⟨fun b => ⟨h1, h2, h3, rfl⟩, fun _ => rfl⟩
theorem line_N {s t : Rd} {w : List ByteArray} (hl : isL w = false) (h : lineP s w = .ok t) : (∀ a, lineP (mixR a s) w = .ok (mixR a t)) ∧ ∀ b, mixR t b = mixR s b := by
  simp only [isL, Bool.or_eq_false_iff, decide_eq_false_iff_not] at hl
  unfold lineP at h ⊢
  by_cases e1 : at_ w 0 = kCamera
  · simp only [e1, if_true, cameraP, gd_ok, Except.ok.injEq] at h ⊢
    obtain ⟨h1, h2, h3, h4, h5, h6, h7, rfl⟩ := h
    exact ⟨fun a => ⟨h1, h2, h3, h4, h5, h6, h7, rfl⟩, fun _ => rfl⟩
  simp only [if_neg e1, if_neg hl.2, if_neg hl.1] at h ⊢
  by_cases e2 : at_ w 0 = kTexture
  · simp only [if_pos e2, textureP, gd_ok, Except.ok.injEq] at h ⊢
    obtain ⟨h1, h2, h3, h4, h5, h6, h7, rfl⟩ := h
    exact ⟨fun a => ⟨h1, h2, h3, h4, h5, h6, h7, rfl⟩, fun _ => rfl⟩
  simp only [if_neg e2] at h ⊢
  by_cases e3 : at_ w 0 = kMaterial
  · simp only [if_pos e3, materialP, gd_ok, Except.ok.injEq] at h ⊢
    obtain ⟨h1, h2, h3, h4, h5, h6, h7, h8, h9, rfl⟩ := h
    exact ⟨fun a => ⟨h1, h2, h3, h4, h5, h6, h7, h8, h9, rfl⟩, fun _ => rfl⟩
  simp only [if_neg e3] at h ⊢
  by_cases e4 : at_ w 0 = kCage
  · simp only [if_pos e4, cageP, gd_ok, Except.ok.injEq] at h ⊢
    obtain ⟨h1, h2, h3, h4, h5, h6, h7, h8, rfl⟩ := h
    exact ⟨fun a => ⟨h1, h2, h3, h4, h5, h6, h7, h8, rfl⟩, fun _ => rfl⟩
  simp only [if_neg e4] at h ⊢
  by_cases e5 : at_ w 0 = kV
  · simp only [if_pos e5, vertexP, gd_ok, Except.ok.injEq] at h ⊢
    obtain ⟨h1, h2, h3, h4, rfl⟩ := h
    exact ⟨fun a => ⟨h1, h2, h3, h4, rfl⟩, fun _ => rfl⟩
  simp only [if_neg e5] at h ⊢
  by_cases e6 : at_ w 0 = kF
  · simp only [if_pos e6, faceP, gd_ok, Except.ok.injEq] at h ⊢
    obtain ⟨h1, h2, h3, h4, h5, rfl⟩ := h
    exact ⟨fun a => ⟨h1, h2, h3, h4, h5, rfl⟩, fun _ => rfl⟩
  simp only [if_neg e6] at h ⊢
  by_cases e7 : at_ w 0 = kCrease
  · simp only [if_pos e7, creaseP, gd_ok, Except.ok.injEq] at h ⊢
    obtain ⟨h1, h2, h3, h4, h5, h6, rfl⟩ := h
    exact ⟨fun a => ⟨h1, h2, h3, h4, h5, h6, rfl⟩, fun _ => rfl⟩
  simp only [if_neg e7] at h
  cases h
theorem fold_mix : ∀ (l : List LineT) (s t : Rd), foldP s l = .ok t → (∀ b, foldP (mixR s b) (l.filter fun x => isL x.Words) = .ok (mixR t b)) ∧ ∀ a, foldP (mixR a s) (l.filter fun x => !isL x.Words) = .ok (mixR a t)
  | [], s, t, h => by cases h; exact ⟨fun _ => rfl, fun _ => rfl⟩
  | x :: r, s, t, h => by
    cases hl : lineP s x.Words with
    | error k => rw [foldP_err hl] at h; cases h
    | ok u =>
      rw [foldP_cons hl] at h
      obtain ⟨i1, i2⟩ := fold_mix r u t h
      cases hx : isL x.Words
      · obtain ⟨g1, g2⟩ := line_N hx hl
        rw [List.filter_cons_of_neg (by simp [hx]), List.filter_cons_of_pos (by simp [hx])]
        exact ⟨fun b => by rw [← g2 b]; exact i1 b, fun a => by rw [foldP_cons (g1 a)]; exact i2 a⟩
      · obtain ⟨g1, g2⟩ := line_L hx hl
        rw [List.filter_cons_of_pos (by simp [hx]), List.filter_cons_of_neg (by simp [hx])]
        exact ⟨fun b => by rw [foldP_cons (g1 b)]; exact i1 b, fun a => by rw [← g2 a]; exact i2 a⟩
theorem foldP_words : ∀ (l m : List LineT) (s t : Rd), l.map (·.Words) = m.map (·.Words) → foldP s l = .ok t → foldP s m = .ok t
  | [], [], _, _, _, h => h
  | [], _ :: _, _, _, e, _ => by simp at e
  | _ :: _, [], _, _, e, _ => by simp at e
  | x :: l, y :: m, s, t, e, h => by
    simp only [List.map_cons, List.cons.injEq] at e
    cases hl : lineP s x.Words with
    | error k => rw [foldP_err hl] at h; cases h
    | ok u =>
      rw [foldP_cons hl] at h
      rw [e.1] at hl
      rw [foldP_cons hl]
      exact foldP_words l m u t e.2 h
theorem fold_two {l m : List LineT} {s u t : Rd} (h1 : foldP s l = .ok u) (h2 : foldP u m = .ok t) : foldP s (l ++ m) = .ok t := by rw [foldP_app, h1]; exact h2
theorem fold_order {l : List LineT} {s t : Rd} (h : foldP s l = .ok t) : foldP s (l.filter (fun x => isL x.Words) ++ l.filter fun x => !isL x.Words) = .ok t ∧ foldP s ((l.filter fun x => !isL x.Words) ++ l.filter fun x => isL x.Words) = .ok t := by
  obtain ⟨h1, h2⟩ := fold_mix l s t h
  exact ⟨fold_two (h1 s) (h2 t), fold_two (h2 s) (h1 t)⟩
def bytesW (ws : List ByteArray) : List UInt8 := ws.flatMap fun w => 32 :: w.data.toList
def goodB (b : UInt8) : Prop := b ≠ 32 ∧ b ≠ 35 ∧ 32 ≤ b.toNat ∧ b.toNat ≤ 126
def goodW (w : ByteArray) : Prop := 0 < w.size ∧ ∀ b ∈ w.data.toList, goodB b
theorem words_run : ∀ (l q : List UInt8) (wd : List Int), (∀ b ∈ l, goodB b) → wordsFrom wd false (l ++ q) = wordsFrom (wd ++ l.map toI) false q
  | [], q, wd, _ => by simp
  | b :: l, q, wd, h => by
    obtain ⟨h1, h2, _⟩ := h b (.head _)
    rw [List.cons_append, wordsFrom, if_neg h2, if_neg h1, words_run l q _ fun c hc => h c (.tail _ hc)]
    simp
theorem words_back : ∀ (ws : List ByteArray) (wd : List Int), (∀ w ∈ ws, goodW w) → wordsFrom wd false (bytesW ws) = flush wd ++ ws
  | [], wd, _ => by simp [bytesW, wordsFrom]
  | w :: ws, wd, h => by
    obtain ⟨h1, h2⟩ := h w (.head _)
    have e : bytesW (w :: ws) = 32 :: (w.data.toList ++ bytesW ws) := by simp [bytesW]
    have n1 : ¬ (32 : UInt8) = 35 := by decide
    rw [e, wordsFrom, if_neg n1, if_pos rfl, words_run _ _ _ h2, words_back ws _ fun x hx => h x (.tail _ hx), List.nil_append]
    have : flush (w.data.toList.map toI) = [w] := by
      unfold flush
      rw [if_pos (by rw [List.length_map, blen]; omega), bytesB_toI]
    rw [this]; rfl
theorem bytesW_ok {ws : List ByteArray} (h : ∀ w ∈ ws, goodW w) : ∀ b ∈ bytesW ws, b ≠ 10 ∧ 32 ≤ b.toNat ∧ b.toNat ≤ 126 := by
  intro b hb
  obtain ⟨w, hw, hb⟩ := List.mem_flatMap.1 hb
  rcases List.mem_cons.1 hb with e | e
  · subst e; decide
  · obtain ⟨_, _, h3, h4⟩ := (h w hw).2 b e
    exact ⟨fun e => by subst e; simp at h3, h3, h4⟩
def goodL (x : LineT) : Prop := 0 < x.Words.length ∧ ∀ w ∈ x.Words, goodW w
theorem scF_back : ∀ (l : List LineT) (out : List LineT) (no : Int), (∀ x ∈ l, goodL x) → (scF (l.map (fun x => bytesW x.Words) ++ [[]]) out no).2 = (0, 0) ∧ (scF (l.map (fun x => bytesW x.Words) ++ [[]]) out no).1.map (·.Words) = out.map (·.Words) ++ l.map (·.Words)
  | [], out, no, _ => by simp [scF, scanQ, badP, wordsFrom, flush, lineIf]
  | x :: l, out, no, h => by
    obtain ⟨h1, h2⟩ := h x (.head _)
    have hb := bytesW_ok h2
    have e : scF ((x :: l).map (fun x => bytesW x.Words) ++ [[]]) out no = scF (l.map (fun x => bytesW x.Words) ++ [[]]) (out ++ [⟨no, x.Words⟩]) (no + 1) := by
      simp only [scF, List.map_cons, List.cons_append, scanQ, List.nil_append]
      rw [badP_ok fun b hm => (hb b hm).2]
      simp only [Bool.false_eq_true, if_false]
      rw [words_back _ _ h2]
      have e1 : lineIf no (flush [] ++ x.Words) = [⟨no, x.Words⟩] := by
        rw [show flush [] = [] from rfl, List.nil_append, lineIf, if_pos (by omega)]
      rw [e1]
    obtain ⟨i1, i2⟩ := scF_back l (out ++ [⟨no, x.Words⟩]) (no + 1) fun y hy => h y (.tail _ hy)
    rw [e]
    exact ⟨i1, by rw [i2]; simp⟩
def bytesX (l : List LineT) : List UInt8 := l.flatMap fun x => bytesW x.Words ++ [10]
theorem pcs_back : ∀ (l : List LineT), (∀ x ∈ l, goodL x) → pcs (bytesX l) = l.map (fun x => bytesW x.Words) ++ [[]]
  | [], _ => rfl
  | x :: l, h => by
    have hb := bytesW_ok (h x (.head _)).2
    have e : bytesX (x :: l) = bytesW x.Words ++ 10 :: bytesX l := by simp [bytesX]
    rw [e, pcs_app, pcs_one _ fun b hm => (hb b hm).1, pcs_back l fun y hy => h y (.tail _ hy)]
    rfl
theorem lines_back {t : ByteArray} {l : List LineT} (ht : t.size ≤ 65536) (e : t.data.toList = bytesX l) (h : ∀ x ∈ l, goodL x) : (linesR t).2 = (0, 0) ∧ (linesR t).1.map (·.Words) = l.map (·.Words) := by
  rw [linesQ ht, e, pcs_back l h]
  have := scF_back l [] 1 h
  rwa [List.map_nil, List.nil_append] at this
theorem bad_not {p : List UInt8} (h : ¬ badP p = true) : ∀ b ∈ p, 32 ≤ b.toNat ∧ b.toNat ≤ 126 := fun b hb => by
  have : badP p = false := by simpa using h
  unfold badP at this
  rw [List.any_eq_false] at this
  have := this b hb
  simp at this; omega
theorem flush_good {d : List UInt8} (h : ∀ b ∈ d, goodB b) {w : ByteArray} (hw : w ∈ flush (d.map toI)) : goodW w := by
  unfold flush at hw
  split at hw
  · rename_i hp
    rw [List.length_map] at hp
    rw [List.mem_singleton] at hw
    have e : bytesB (d.map toI) = ⟨d.toArray⟩ := bytesB_toI d
    rw [e] at hw; subst hw
    exact ⟨by show 0 < d.toArray.size; simp; omega, by simpa using h⟩
  · cases hw
theorem words_good : ∀ (p d : List UInt8) (w : ByteArray), (∀ b ∈ d, goodB b) → (∀ b ∈ p, 32 ≤ b.toNat ∧ b.toNat ≤ 126) → w ∈ wordsFrom (d.map toI) false p → goodW w
  | [], d, w, hd, _, h => flush_good hd h
  | b :: p, d, w, hd, hp, h => by
    rw [wordsFrom] at h
    have hp' := fun c hc => hp c (List.mem_cons_of_mem _ hc)
    split at h
    · exact flush_good hd h
    · rename_i n35
      split at h
      · rcases List.mem_append.1 h with e | e
        · exact flush_good hd e
        · exact words_good p [] w (by simp) hp' e
      · rename_i n32
        refine words_good p (d ++ [b]) w (fun c hc => ?_) hp' (by rw [List.map_append]; exact h)
        rcases List.mem_append.1 hc with e | e
        · exact hd c e
        · rw [List.mem_singleton] at e; subst e; exact ⟨n32, n35, hp _ (.head _)⟩
theorem scF_good : ∀ (ps : List (List UInt8)) (out : List LineT) (no : Int), (∀ x ∈ out, goodL x) → ∀ x ∈ (scF ps out no).1, goodL x
  | [], _, _, h => h
  | p :: r, out, no, h => by
    simp only [scF, scanQ, List.nil_append]
    split
    · intro x hx; cases hx
    · rename_i hb
      refine scF_good r _ _ fun x hx => ?_
      rcases List.mem_append.1 hx with e | e
      · exact h x e
      · unfold lineIf at e
        split at e
        · rename_i hpos
          rw [List.mem_singleton] at e; subst e
          exact ⟨by simpa using hpos, fun w hw => words_good p [] w (by simp) (bad_not hb) hw⟩
        · cases e
theorem lines_good {s : ByteArray} (h : s.size ≤ 65536) : ∀ x ∈ (linesR s).1, goodL x := by rw [linesQ h]; exact scF_good _ _ _ (by simp)
def costW (ws : List ByteArray) : Nat := (ws.map fun w => w.size + 1).sum
def costL (l : List LineT) : Nat := (l.map fun x => costW x.Words + 1).sum
theorem flush_cost (wd : List Int) : costW (flush wd) ≤ wd.length + 1 := by
  unfold flush
  split
  · simp [costW, bytesB_size]
  · simp [costW]
theorem costW_app (a b : List ByteArray) : costW (a ++ b) = costW a + costW b := by simp [costW]
theorem costL_app (a b : List LineT) : costL (a ++ b) = costL a + costL b := by simp [costL]
theorem words_cost : ∀ (p : List UInt8) (wd : List Int), costW (wordsFrom wd false p) ≤ wd.length + p.length + 1
  | [], wd => by have := flush_cost wd; simpa [wordsFrom] using this
  | b :: p, wd => by
    have hf := flush_cost wd
    rw [wordsFrom, List.length_cons]
    split
    · omega
    · split
      · rw [costW_app]
        have := words_cost p []
        simp only [List.length_nil] at this
        omega
      · have := words_cost p (wd ++ [toI b])
        rw [List.length_append, List.length_singleton] at this
        omega
theorem scF_cost : ∀ (ps : List (List UInt8)) (out : List LineT) (no : Int), costL (scF ps out no).1 ≤ costL out + (ps.map fun p => p.length + 2).sum
  | [], out, no => by simp [scF, scanQ]
  | p :: r, out, no => by
    simp only [scF, scanQ, List.nil_append, List.map_cons, List.sum_cons]
    split
    · simp [costL]
    · have := scF_cost r (out ++ lineIf no (wordsFrom [] false p)) (no + 1)
      rw [costL_app] at this
      have h2 : costL (lineIf no (wordsFrom [] false p)) ≤ p.length + 2 := by
        unfold lineIf
        split
        · have := words_cost p []
          simp [costL] at this ⊢; omega
        · simp [costL]
      simp only [scF] at this
      omega
theorem pcs_sum : ∀ l : List UInt8, ((pcs l).map fun p => p.length + 2).sum ≤ 2 * l.length + 2
  | [] => by simp [pcs]
  | b :: l => by
    have ih := pcs_sum l
    have hne := pcs_ne l
    rw [pcs]
    split
    · simp only [List.map_cons, List.sum_cons, List.length_nil, List.length_cons]; omega
    · match hp : pcs l with
      | [] => exact absurd hp hne
      | q :: r =>
        rw [hp] at ih
        simp only [List.map_cons, List.sum_cons, List.headD_cons, List.tail_cons, List.length_cons] at ih ⊢
        omega
theorem lines_cost {s : ByteArray} (h : s.size ≤ 65536) : costL (linesR s).1 ≤ 2 * s.size + 2 := by
  rw [linesQ h]
  have h1 := scF_cost (pcs s.data.toList) [] 1
  have h2 := pcs_sum s.data.toList
  rw [blen] at h2
  simp only [scF] at h1
  simp only [costL, List.map_nil, List.sum_nil] at h1 ⊢
  omega
theorem bytesW_len (ws : List ByteArray) : (bytesW ws).length = costW ws := by
  induction ws with
  | nil => rfl
  | cons w ws ih =>
    have e : bytesW (w :: ws) = 32 :: (w.data.toList ++ bytesW ws) := by simp [bytesW]
    rw [e, List.length_cons, List.length_append, ih, blen]
    simp only [costW, List.map_cons, List.sum_cons]; omega
theorem bytesX_len (l : List LineT) : (bytesX l).length = costL l := by
  induction l with
  | nil => rfl
  | cons x l ih =>
    have e : bytesX (x :: l) = bytesW x.Words ++ 10 :: bytesX l := by simp [bytesX]
    rw [e, List.length_append, List.length_cons, ih, bytesW_len]
    simp only [costL, List.map_cons, List.sum_cons]; omega
def nlB : ByteArray := ⟨#[10]⟩
def lineTx (ws : List ByteArray) : ByteArray := ⟨(bytesW ws).toArray⟩
def txt (l : List LineT) : ByteArray := ⟨(bytesX l).toArray⟩
theorem lineTx_snoc (ws : List ByteArray) (w : ByteArray) : lineTx ws ++ (⟨#[32]⟩ ++ w) = lineTx (ws ++ [w]) := by
  apply ByteArray.ext
  rw [ByteArray.data_append, ByteArray.data_append]
  simp [lineTx, bytesW]
theorem txt_snoc (l : List LineT) (x : LineT) : txt l ++ (lineTx x.Words ++ ⟨#[10]⟩) = txt (l ++ [x]) := by
  apply ByteArray.ext
  rw [ByteArray.data_append, ByteArray.data_append]
  simp [lineTx, txt, bytesX]
theorem txt_app (l m : List LineT) : txt l ++ txt m = txt (l ++ m) := by
  apply ByteArray.ext
  rw [ByteArray.data_append]
  simp [txt, bytesX]
theorem txt_size (l : List LineT) : (txt l).size = costL l := by rw [← bytesX_len]; show (bytesX l).toArray.size = _; simp
theorem lineTx_size (ws : List ByteArray) : (lineTx ws).size = costW ws := by rw [← bytesW_len]; show (bytesW ws).toArray.size = _; simp
theorem cost_filter (p : LineT → Bool) : ∀ l : List LineT, costL (l.filter p) ≤ costL l
  | [] => Nat.le_refl _
  | x :: l => by
    have ih := cost_filter p l
    rw [List.filter_cons]
    split
    · simp only [costL, List.map_cons, List.sum_cons] at ih ⊢; omega
    · simp only [costL, List.map_cons, List.sum_cons] at ih ⊢; omega
theorem cost_two (p : LineT → Bool) : ∀ l : List LineT, costL (l.filter p) + costL (l.filter fun x => !p x) = costL l
  | [] => rfl
  | x :: l => by
    have ih := cost_two p l
    cases hp : p x
    · rw [List.filter_cons_of_neg (by simp [hp]), List.filter_cons_of_pos (by simp [hp])]
      simp only [costL, List.map_cons, List.sum_cons] at ih ⊢; omega
    · rw [List.filter_cons_of_pos (by simp [hp]), List.filter_cons_of_neg (by simp [hp])]
      simp only [costL, List.map_cons, List.sum_cons] at ih ⊢; omega
def onL (x : LineT) : Bool := isL x.Words
def offL (x : LineT) : Bool := !isL x.Words
theorem parse_back {l : List LineT} {t : Rd} (hl : ∀ x ∈ l, goodL x) (hz : costL l ≤ 65536) (hf : foldP rd0 l = .ok t) (hc : t.hc = true) : parseR (txt l) = (t.scene, 0, 0) := by
  obtain ⟨h1, h2⟩ := lines_back (t := txt l) (l := l) (by rw [txt_size]; exact hz) (by simp [txt]) hl
  have hf' := foldP_words l _ _ _ h2.symm hf
  unfold parseR
  rw [h1, if_pos rfl, hf']
  simp [endP, hc]
theorem order_law {s : ByteArray} (hs : s.size ≤ 5000) (h : (parseR s).2.2 = 0) :
    parseR (txt ((linesR s).1.filter onL) ++ txt ((linesR s).1.filter offL)) = parseR s ∧ parseR (txt ((linesR s).1.filter offL) ++ txt ((linesR s).1.filter onL)) = parseR s := by
  rcases parse_cases s with ⟨t, e, _, _, _, hf, hc⟩ | ⟨_, e⟩
  · obtain ⟨f1, f2⟩ := fold_order hf
    have hg := lines_good (s := s) (by omega)
    have hcst := lines_cost (s := s) (by omega)
    have h2 := cost_two onL (linesR s).1
    have g1 : ∀ p : LineT → Bool, ∀ x ∈ (linesR s).1.filter p, goodL x := fun p x hx => hg x (List.mem_filter.1 hx).1
    have g2 : ∀ p q : LineT → Bool, ∀ x ∈ (linesR s).1.filter p ++ (linesR s).1.filter q, goodL x := fun p q x hx => by
      rcases List.mem_append.1 hx with e | e
      · exact g1 p x e
      · exact g1 q x e
    rw [txt_app, txt_app, e]
    refine ⟨parse_back (g2 _ _) ?_ f1 hc, parse_back (g2 _ _) ?_ f2 hc⟩
    · rw [costL_app]; have : costL ((linesR s).1.filter offL) = costL ((linesR s).1.filter fun x => !onL x) := rfl; omega
    · rw [costL_app]; have : costL ((linesR s).1.filter offL) = costL ((linesR s).1.filter fun x => !onL x) := rfl; omega
  · exact absurd h e
end Go.Proofs.S
namespace Go.Proofs.S
open Go Go.AH Go.Maps Go.Proofs.L
set_option linter.unusedSectionVars false
set_option maxRecDepth 4000
set_option linter.unusedVariables false
variable [LexG]
end Go.Proofs.S
namespace Go.Proofs.S
open Go Go.AH Go.Proofs.L
set_option linter.unusedSectionVars false
set_option linter.unusedVariables false
variable [LexG]
theorem parse_n0 {s : ByteArray} (h : (parseR s).2.2 = 0) : (parseR s).2.1 = 0 := by
  rcases parse_cases s with ⟨t, e, _⟩ | ⟨_, e⟩
  · rw [e]
  · exact absurd h e
theorem onI1 {x : LineT} (h : at_ x.Words 0 = ⟨#[108, 105, 103, 104, 116]⟩) : onL x = true := by
  have h : at_ x.Words 0 = kLight := h
  simp [onL, isL, h]
theorem onI2 {x : LineT} (h : at_ x.Words 0 = ⟨#[115, 107, 121]⟩) : onL x = true := by
  have h : at_ x.Words 0 = kSky := h
  simp [onL, isL, h]
theorem onI0 {x : LineT} (h : ¬ at_ x.Words 0 = ⟨#[108, 105, 103, 104, 116]⟩) (h2 : ¬ at_ x.Words 0 = ⟨#[115, 107, 121]⟩) : onL x = false := by
  have h : ¬ at_ x.Words 0 = kLight := h
  have h2 : ¬ at_ x.Words 0 = kSky := h2
  simp [onL, isL, h, h2]
theorem on_step {l : List LineT} {i : Int} (h0 : 0 ≤ i) (h1 : i < (l.length : Int)) (h : onL (at_ l i) = true) :
    txt ((l.take i.toNat).filter onL) ++ (lineTx (at_ l i).Words ++ ⟨#[10]⟩) = txt ((l.take (i + 1).toNat).filter onL) ∧ txt ((l.take i.toNat).filter offL) = txt ((l.take (i + 1).toNat).filter offL) := by
  have h2 : offL (at_ l i) = false := by have h' : isL (at_ l i).Words = true := h; simp [offL, h']
  rw [take_step_ h0 h1, List.filter_append, List.filter_append, List.filter_cons_of_pos (by simp [h]), List.filter_cons_of_neg (by simp [h2]), txt_snoc]
  simp
theorem off_step {l : List LineT} {i : Int} (h0 : 0 ≤ i) (h1 : i < (l.length : Int)) (h : onL (at_ l i) = false) :
    txt ((l.take i.toNat).filter offL) ++ (lineTx (at_ l i).Words ++ ⟨#[10]⟩) = txt ((l.take (i + 1).toNat).filter offL) ∧ txt ((l.take i.toNat).filter onL) = txt ((l.take (i + 1).toNat).filter onL) := by
  have h2 : offL (at_ l i) = true := by have h' : isL (at_ l i).Words = false := h; simp [offL, h']
  rw [take_step_ h0 h1, List.filter_append, List.filter_append, List.filter_cons_of_pos (by simp [h2]), List.filter_cons_of_neg (by simp [h]), txt_snoc]
  simp
theorem ltx_step {ws : List ByteArray} {k : Int} (h0 : 0 ≤ k) (h1 : k < (ws.length : Int)) : lineTx (ws.take k.toNat) ++ (⟨#[32]⟩ ++ at_ ws k) = lineTx (ws.take (k + 1).toNat) := by
  rw [take_step_ h0 h1, lineTx_snoc]
theorem cost_mem {l : List LineT} {x : LineT} (h : x ∈ l) : costW x.Words + 1 ≤ costL l := by
  induction l with
  | nil => cases h
  | cons y l ih =>
    simp only [costL, List.map_cons, List.sum_cons] at ih ⊢
    rcases List.mem_cons.1 h with e | e
    · subst e; omega
    · have := ih e; omega
theorem cost_at {l : List LineT} {i : Int} (h0 : 0 ≤ i) (h1 : i < (l.length : Int)) : costW (at_ l i).Words + 1 ≤ costL l := cost_mem (at_memS h0 h1)
theorem cost_take (l : List LineT) (n : Nat) : costL (l.take n) ≤ costL l := by
  have := costL_app (l.take n) (l.drop n)
  rw [List.take_append_drop] at this; omega
theorem cost_tk (p : LineT → Bool) (l : List LineT) (n : Nat) : (txt ((l.take n).filter p)).size ≤ costL l := by
  rw [txt_size]; exact Nat.le_trans (cost_filter p _) (cost_take l n)
theorem costW_at {ws : List ByteArray} {k : Int} (h0 : 0 ≤ k) (h1 : k < (ws.length : Int)) : (lineTx (ws.take k.toNat)).size + (at_ ws k).size + 1 ≤ costW ws := by
  rw [lineTx_size]
  have := costW_app (ws.take (k + 1).toNat) (ws.drop (k + 1).toNat)
  rw [List.take_append_drop, take_step_ h0 h1, costW_app] at this
  simp only [costW, List.map_cons, List.map_nil, List.sum_cons, List.sum_nil] at this ⊢
  omega
theorem txt_two (l : List LineT) (n : Nat) : (txt ((l.take n).filter onL)).size + (txt ((l.take n).filter offL)).size ≤ costL l := by
  rw [txt_size, txt_size]
  have h := cost_two onL (l.take n)
  have h2 := cost_take l n
  have e : costL ((l.take n).filter offL) = costL ((l.take n).filter fun x => !onL x) := rfl
  omega
end Go.Proofs.S
namespace Go.Proofs.S
open Go Go.AH Go.Proofs.L
set_option maxRecDepth 20000
set_option linter.unusedSectionVars false
variable [LexG]
def alS1 : SceneT := ⟨⟨⟨0, 0, -9⟩, ⟨0, 0, 8⟩, ⟨1, 0, 0⟩, ⟨0, 1, 0⟩, 2, 2, 1, 0⟩, ⟨0, 0, 0⟩, [], [⟨⟨#[109]⟩, ⟨1, 2, 3⟩, 0, 1, 0, 0, 256⟩], [], [⟨⟨#[99]⟩, 0, 1, 5, -1, 0⟩], [⟨[⟨1, 2, 3⟩], [], []⟩]⟩
def alT1 : ByteArray := ⟨#[99, 97, 109, 101, 114, 97, 32, 48, 32, 48, 32, 45, 57, 32, 48, 32, 48, 32, 56, 32, 49, 32, 48, 32, 48, 32, 48, 32, 49, 32, 48, 32, 50, 32, 50, 32, 49, 32, 48, 10, 109, 97, 116, 101, 114, 105, 97, 108, 32, 109, 32, 49, 32, 50, 32, 51, 32, 48, 32, 49, 32, 48, 32, 48, 32, 50, 53, 54, 10, 99, 97, 103, 101, 32, 99, 32, 109, 32, 49, 32, 53, 32, 45, 32, 48, 10, 118, 32, 49, 32, 50, 32, 51, 10]⟩
def alT2 : ByteArray := ⟨#[10, 108, 105, 103, 104, 116, 32, 49]⟩
def alT3 : ByteArray := ⟨#[115, 107, 121, 32, 49, 32, 50, 32, 51]⟩
theorem al_1 : parseR alT1 = (alS1, 0, 0) := by kernel_rfl
theorem al_pc1 : PC Tryd.prog 8 [.str alT1] (.tup [.agg (eScene alS1), .int .i64 0, .int .i64 0]) :=
  Eq.mp (congrArg (fun r : SceneT × Int × Int => PC Tryd.prog 8 [.str alT1] (.tup [.agg (eScene r.1), .int .i64 r.2.1, .int .i64 r.2.2])) al_1) (c_Parse alT1)
theorem al_2 : parseR alT2 = (rd0.scene, 2, 10) := by kernel_rfl
theorem al_pc2 : PC Tryd.prog 8 [.str alT2] (.tup [.agg (eScene rd0.scene), .int .i64 2, .int .i64 10]) :=
  Eq.mp (congrArg (fun r : SceneT × Int × Int => PC Tryd.prog 8 [.str alT2] (.tup [.agg (eScene r.1), .int .i64 r.2.1, .int .i64 r.2.2])) al_2) (c_Parse alT2)
theorem al_3 : parseR alT3 = (rd0.scene, 0, 15) := by kernel_rfl
theorem al_pc3 : PC Tryd.prog 8 [.str alT3] (.tup [.agg (eScene rd0.scene), .int .i64 0, .int .i64 15]) :=
  Eq.mp (congrArg (fun r : SceneT × Int × Int => PC Tryd.prog 8 [.str alT3] (.tup [.agg (eScene r.1), .int .i64 r.2.1, .int .i64 r.2.2])) al_3) (c_Parse alT3)
end Go.Proofs.S
namespace Go.Proofs.S
open Go Go.AH Go.Proofs.L
set_option maxRecDepth 4000
set_option maxHeartbeats 4000000
set_option linter.unusedSimpArgs false
set_option linter.unusedVariables false
set_option linter.unusedSectionVars false
variable [LexG]
theorem c_alive : PC Tryd.prog 7 [] (.bool true) := by
 intro H0
 refine ACalls.of_body' (n := 79) rfl rfl rfl rfl ?_
 have m0 := Mono.refl H0
 refine AWP.seq ?_
 refine AWP.region (l := [0]) rfl ?_
 refine AOps.cons rfl rfl (AOp.assign (.bool false) rfl rfl ?_)
 refine AOps.nil ?_
 change AWP _ _ _ _ _ _
 refine AWP.seq ?_
 refine AWP.region (l := [0, 1, 2, 3, 4, 5, 6, 7, 8]) rfl ?_
 refine AOps.cons rfl rfl (AOp.pcall («as» := [.str ⟨#[99, 97, 109, 101, 114, 97, 32, 48, 32, 48, 32, 45, 57, 32, 48, 32, 48, 32, 56, 32, 49, 32, 48, 32, 48, 32, 48, 32, 49, 32, 48, 32, 50, 32, 50, 32, 49, 32, 48, 10, 109, 97, 116, 101, 114, 105, 97, 108, 32, 109, 32, 49, 32, 50, 32, 51, 32, 48, 32, 49, 32, 48, 32, 48, 32, 50, 53, 54, 10, 99, 97, 103, 101, 32, 99, 32, 109, 32, 49, 32, 53, 32, 45, 32, 48, 10, 118, 32, 49, 32, 50, 32, 51, 10]⟩]) rfl rfl (rfl) tf_8 (al_pc1) ?_)
 intro H1 m2
 have m3 := m0.trans m2
 refine AOps.cons rfl rfl (AOp.move (.tup [.agg [.int .i64 alS1.Camera.Eye.X, .int .i64 alS1.Camera.Eye.Y, .int .i64 alS1.Camera.Eye.Z, .int .i64 alS1.Camera.First.X, .int .i64 alS1.Camera.First.Y, .int .i64 alS1.Camera.First.Z, .int .i64 alS1.Camera.Right.X, .int .i64 alS1.Camera.Right.Y, .int .i64 alS1.Camera.Right.Z, .int .i64 alS1.Camera.Down.X, .int .i64 alS1.Camera.Down.Y, .int .i64 alS1.Camera.Down.Z, .int .i64 alS1.Camera.W, .int .i64 alS1.Camera.H, .int .i64 alS1.Camera.Grid, .int .i64 alS1.Camera.Depth, .int .i64 alS1.Sky.R, .int .i64 alS1.Sky.G, .int .i64 alS1.Sky.B, .sl alS1.Lights.length (alS1.Lights.flatMap eLight), .sl alS1.Mats.length (alS1.Mats.flatMap eMat), .sl alS1.Texs.length (alS1.Texs.flatMap eTex), .sl alS1.Skins.length (alS1.Skins.flatMap eSkin), .sl alS1.Cages.length (alS1.Cages.flatMap eCage)], .int .i64 0, .int .i64 0]) rfl rfl ?_)
 refine AOps.cons rfl rfl (AOp.extract (.agg [.int .i64 alS1.Camera.Eye.X, .int .i64 alS1.Camera.Eye.Y, .int .i64 alS1.Camera.Eye.Z, .int .i64 alS1.Camera.First.X, .int .i64 alS1.Camera.First.Y, .int .i64 alS1.Camera.First.Z, .int .i64 alS1.Camera.Right.X, .int .i64 alS1.Camera.Right.Y, .int .i64 alS1.Camera.Right.Z, .int .i64 alS1.Camera.Down.X, .int .i64 alS1.Camera.Down.Y, .int .i64 alS1.Camera.Down.Z, .int .i64 alS1.Camera.W, .int .i64 alS1.Camera.H, .int .i64 alS1.Camera.Grid, .int .i64 alS1.Camera.Depth, .int .i64 alS1.Sky.R, .int .i64 alS1.Sky.G, .int .i64 alS1.Sky.B, .sl alS1.Lights.length (alS1.Lights.flatMap eLight), .sl alS1.Mats.length (alS1.Mats.flatMap eMat), .sl alS1.Texs.length (alS1.Texs.flatMap eTex), .sl alS1.Skins.length (alS1.Skins.flatMap eSkin), .sl alS1.Cages.length (alS1.Cages.flatMap eCage)]) rfl rfl rfl ?_)
 refine AOps.cons rfl rfl (AOp.extract (.int .i64 0) rfl rfl rfl ?_)
 refine AOps.cons rfl rfl (AOp.extract (.int .i64 0) rfl rfl rfl ?_)
 refine AOps.cons rfl rfl (AOp.alloc rfl tz_35 ?_)
 intro i4 H5 n6 h7 k8
 have z9 := Mono.free m3 n6
 have m10 := Mono.new m3 n6 k8
 refine AOps.cons rfl rfl (AOp.store' (cells' := [.int .i64 alS1.Camera.Eye.X, .int .i64 alS1.Camera.Eye.Y, .int .i64 alS1.Camera.Eye.Z, .int .i64 alS1.Camera.First.X, .int .i64 alS1.Camera.First.Y, .int .i64 alS1.Camera.First.Z, .int .i64 alS1.Camera.Right.X, .int .i64 alS1.Camera.Right.Y, .int .i64 alS1.Camera.Right.Z, .int .i64 alS1.Camera.Down.X, .int .i64 alS1.Camera.Down.Y, .int .i64 alS1.Camera.Down.Z, .int .i64 alS1.Camera.W, .int .i64 alS1.Camera.H, .int .i64 alS1.Camera.Grid, .int .i64 alS1.Camera.Depth, .int .i64 alS1.Sky.R, .int .i64 alS1.Sky.G, .int .i64 alS1.Sky.B, .sl alS1.Lights.length (alS1.Lights.flatMap eLight), .sl alS1.Mats.length (alS1.Mats.flatMap eMat), .sl alS1.Texs.length (alS1.Texs.flatMap eTex), .sl alS1.Skins.length (alS1.Skins.flatMap eSkin), .sl alS1.Cages.length (alS1.Cages.flatMap eCage)]) (.agg [.int .i64 alS1.Camera.Eye.X, .int .i64 alS1.Camera.Eye.Y, .int .i64 alS1.Camera.Eye.Z, .int .i64 alS1.Camera.First.X, .int .i64 alS1.Camera.First.Y, .int .i64 alS1.Camera.First.Z, .int .i64 alS1.Camera.Right.X, .int .i64 alS1.Camera.Right.Y, .int .i64 alS1.Camera.Right.Z, .int .i64 alS1.Camera.Down.X, .int .i64 alS1.Camera.Down.Y, .int .i64 alS1.Camera.Down.Z, .int .i64 alS1.Camera.W, .int .i64 alS1.Camera.H, .int .i64 alS1.Camera.Grid, .int .i64 alS1.Camera.Depth, .int .i64 alS1.Sky.R, .int .i64 alS1.Sky.G, .int .i64 alS1.Sky.B, .sl alS1.Lights.length (alS1.Lights.flatMap eLight), .sl alS1.Mats.length (alS1.Mats.flatMap eMat), .sl alS1.Texs.length (alS1.Texs.flatMap eTex), .sl alS1.Skins.length (alS1.Skins.flatMap eSkin), .sl alS1.Cages.length (alS1.Cages.flatMap eCage)]) rfl rfl ts_35 h7 rfl rfl rfl rfl ?_)
 intro H11 h12 k13
 have m15 := Mono.set m10 z9 k13
 refine AOps.cons rfl rfl (AOp.assign (.int .i64 0) rfl rfl ?_)
 refine AOps.cons rfl rfl (AOp.assign (.int .i64 0) rfl rfl ?_)
 refine AOps.nil ?_
 change AWP _ _ _ _ _ _
 refine AWP.seq ?_
 refine AWP.frzP 1 h12 z9 rfl m15 fun H16 m17 k18 => ?_
 refine AWP.region (l := [0, 1, 2, 3, 4, 5, 6, 7, 8]) rfl ?_
 refine AOps.cons rfl rfl (AOp.pcall («as» := [.str ⟨#[10, 108, 105, 103, 104, 116, 32, 49]⟩]) rfl rfl (rfl) tf_8 (al_pc2) ?_)
 intro H19 m20
 have m21 := m17.trans m20
 refine AOps.cons rfl rfl (AOp.move (.tup [.agg [.int .i64 rd0.scene.Camera.Eye.X, .int .i64 rd0.scene.Camera.Eye.Y, .int .i64 rd0.scene.Camera.Eye.Z, .int .i64 rd0.scene.Camera.First.X, .int .i64 rd0.scene.Camera.First.Y, .int .i64 rd0.scene.Camera.First.Z, .int .i64 rd0.scene.Camera.Right.X, .int .i64 rd0.scene.Camera.Right.Y, .int .i64 rd0.scene.Camera.Right.Z, .int .i64 rd0.scene.Camera.Down.X, .int .i64 rd0.scene.Camera.Down.Y, .int .i64 rd0.scene.Camera.Down.Z, .int .i64 rd0.scene.Camera.W, .int .i64 rd0.scene.Camera.H, .int .i64 rd0.scene.Camera.Grid, .int .i64 rd0.scene.Camera.Depth, .int .i64 rd0.scene.Sky.R, .int .i64 rd0.scene.Sky.G, .int .i64 rd0.scene.Sky.B, .sl rd0.scene.Lights.length (rd0.scene.Lights.flatMap eLight), .sl rd0.scene.Mats.length (rd0.scene.Mats.flatMap eMat), .sl rd0.scene.Texs.length (rd0.scene.Texs.flatMap eTex), .sl rd0.scene.Skins.length (rd0.scene.Skins.flatMap eSkin), .sl rd0.scene.Cages.length (rd0.scene.Cages.flatMap eCage)], .int .i64 2, .int .i64 10]) rfl rfl ?_)
 refine AOps.cons rfl rfl (AOp.extract (.agg [.int .i64 rd0.scene.Camera.Eye.X, .int .i64 rd0.scene.Camera.Eye.Y, .int .i64 rd0.scene.Camera.Eye.Z, .int .i64 rd0.scene.Camera.First.X, .int .i64 rd0.scene.Camera.First.Y, .int .i64 rd0.scene.Camera.First.Z, .int .i64 rd0.scene.Camera.Right.X, .int .i64 rd0.scene.Camera.Right.Y, .int .i64 rd0.scene.Camera.Right.Z, .int .i64 rd0.scene.Camera.Down.X, .int .i64 rd0.scene.Camera.Down.Y, .int .i64 rd0.scene.Camera.Down.Z, .int .i64 rd0.scene.Camera.W, .int .i64 rd0.scene.Camera.H, .int .i64 rd0.scene.Camera.Grid, .int .i64 rd0.scene.Camera.Depth, .int .i64 rd0.scene.Sky.R, .int .i64 rd0.scene.Sky.G, .int .i64 rd0.scene.Sky.B, .sl rd0.scene.Lights.length (rd0.scene.Lights.flatMap eLight), .sl rd0.scene.Mats.length (rd0.scene.Mats.flatMap eMat), .sl rd0.scene.Texs.length (rd0.scene.Texs.flatMap eTex), .sl rd0.scene.Skins.length (rd0.scene.Skins.flatMap eSkin), .sl rd0.scene.Cages.length (rd0.scene.Cages.flatMap eCage)]) rfl rfl rfl ?_)
 refine AOps.cons rfl rfl (AOp.extract (.int .i64 2) rfl rfl rfl ?_)
 refine AOps.cons rfl rfl (AOp.extract (.int .i64 10) rfl rfl rfl ?_)
 refine AOps.cons rfl rfl (AOp.alloc rfl tz_35 ?_)
 intro i22 H23 n24 h25 k26
 have z27 := Mono.free m21 n24
 have m28 := Mono.new m21 n24 k26
 refine AOps.cons rfl rfl (AOp.store' (cells' := [.int .i64 rd0.scene.Camera.Eye.X, .int .i64 rd0.scene.Camera.Eye.Y, .int .i64 rd0.scene.Camera.Eye.Z, .int .i64 rd0.scene.Camera.First.X, .int .i64 rd0.scene.Camera.First.Y, .int .i64 rd0.scene.Camera.First.Z, .int .i64 rd0.scene.Camera.Right.X, .int .i64 rd0.scene.Camera.Right.Y, .int .i64 rd0.scene.Camera.Right.Z, .int .i64 rd0.scene.Camera.Down.X, .int .i64 rd0.scene.Camera.Down.Y, .int .i64 rd0.scene.Camera.Down.Z, .int .i64 rd0.scene.Camera.W, .int .i64 rd0.scene.Camera.H, .int .i64 rd0.scene.Camera.Grid, .int .i64 rd0.scene.Camera.Depth, .int .i64 rd0.scene.Sky.R, .int .i64 rd0.scene.Sky.G, .int .i64 rd0.scene.Sky.B, .sl rd0.scene.Lights.length (rd0.scene.Lights.flatMap eLight), .sl rd0.scene.Mats.length (rd0.scene.Mats.flatMap eMat), .sl rd0.scene.Texs.length (rd0.scene.Texs.flatMap eTex), .sl rd0.scene.Skins.length (rd0.scene.Skins.flatMap eSkin), .sl rd0.scene.Cages.length (rd0.scene.Cages.flatMap eCage)]) (.agg [.int .i64 rd0.scene.Camera.Eye.X, .int .i64 rd0.scene.Camera.Eye.Y, .int .i64 rd0.scene.Camera.Eye.Z, .int .i64 rd0.scene.Camera.First.X, .int .i64 rd0.scene.Camera.First.Y, .int .i64 rd0.scene.Camera.First.Z, .int .i64 rd0.scene.Camera.Right.X, .int .i64 rd0.scene.Camera.Right.Y, .int .i64 rd0.scene.Camera.Right.Z, .int .i64 rd0.scene.Camera.Down.X, .int .i64 rd0.scene.Camera.Down.Y, .int .i64 rd0.scene.Camera.Down.Z, .int .i64 rd0.scene.Camera.W, .int .i64 rd0.scene.Camera.H, .int .i64 rd0.scene.Camera.Grid, .int .i64 rd0.scene.Camera.Depth, .int .i64 rd0.scene.Sky.R, .int .i64 rd0.scene.Sky.G, .int .i64 rd0.scene.Sky.B, .sl rd0.scene.Lights.length (rd0.scene.Lights.flatMap eLight), .sl rd0.scene.Mats.length (rd0.scene.Mats.flatMap eMat), .sl rd0.scene.Texs.length (rd0.scene.Texs.flatMap eTex), .sl rd0.scene.Skins.length (rd0.scene.Skins.flatMap eSkin), .sl rd0.scene.Cages.length (rd0.scene.Cages.flatMap eCage)]) rfl rfl ts_35 h25 rfl rfl rfl rfl ?_)
 intro H29 h30 k31
 have m33 := Mono.set m28 z27 k31
 refine AOps.cons rfl rfl (AOp.assign (.int .i64 2) rfl rfl ?_)
 refine AOps.cons rfl rfl (AOp.assign (.int .i64 10) rfl rfl ?_)
 refine AOps.nil ?_
 change AWP _ _ _ _ _ _
 refine AWP.seq ?_
 refine AWP.frzP 4 h30 z27 rfl m33 fun H34 m35 k36 => ?_
 refine AWP.region (l := [0, 1, 2, 3, 4, 5, 6, 7, 8]) rfl ?_
 refine AOps.cons rfl rfl (AOp.pcall («as» := [.str ⟨#[115, 107, 121, 32, 49, 32, 50, 32, 51]⟩]) rfl rfl (rfl) tf_8 (al_pc3) ?_)
 intro H37 m38
 have m39 := m35.trans m38
 refine AOps.cons rfl rfl (AOp.move (.tup [.agg [.int .i64 rd0.scene.Camera.Eye.X, .int .i64 rd0.scene.Camera.Eye.Y, .int .i64 rd0.scene.Camera.Eye.Z, .int .i64 rd0.scene.Camera.First.X, .int .i64 rd0.scene.Camera.First.Y, .int .i64 rd0.scene.Camera.First.Z, .int .i64 rd0.scene.Camera.Right.X, .int .i64 rd0.scene.Camera.Right.Y, .int .i64 rd0.scene.Camera.Right.Z, .int .i64 rd0.scene.Camera.Down.X, .int .i64 rd0.scene.Camera.Down.Y, .int .i64 rd0.scene.Camera.Down.Z, .int .i64 rd0.scene.Camera.W, .int .i64 rd0.scene.Camera.H, .int .i64 rd0.scene.Camera.Grid, .int .i64 rd0.scene.Camera.Depth, .int .i64 rd0.scene.Sky.R, .int .i64 rd0.scene.Sky.G, .int .i64 rd0.scene.Sky.B, .sl rd0.scene.Lights.length (rd0.scene.Lights.flatMap eLight), .sl rd0.scene.Mats.length (rd0.scene.Mats.flatMap eMat), .sl rd0.scene.Texs.length (rd0.scene.Texs.flatMap eTex), .sl rd0.scene.Skins.length (rd0.scene.Skins.flatMap eSkin), .sl rd0.scene.Cages.length (rd0.scene.Cages.flatMap eCage)], .int .i64 0, .int .i64 15]) rfl rfl ?_)
 refine AOps.cons rfl rfl (AOp.extract (.agg [.int .i64 rd0.scene.Camera.Eye.X, .int .i64 rd0.scene.Camera.Eye.Y, .int .i64 rd0.scene.Camera.Eye.Z, .int .i64 rd0.scene.Camera.First.X, .int .i64 rd0.scene.Camera.First.Y, .int .i64 rd0.scene.Camera.First.Z, .int .i64 rd0.scene.Camera.Right.X, .int .i64 rd0.scene.Camera.Right.Y, .int .i64 rd0.scene.Camera.Right.Z, .int .i64 rd0.scene.Camera.Down.X, .int .i64 rd0.scene.Camera.Down.Y, .int .i64 rd0.scene.Camera.Down.Z, .int .i64 rd0.scene.Camera.W, .int .i64 rd0.scene.Camera.H, .int .i64 rd0.scene.Camera.Grid, .int .i64 rd0.scene.Camera.Depth, .int .i64 rd0.scene.Sky.R, .int .i64 rd0.scene.Sky.G, .int .i64 rd0.scene.Sky.B, .sl rd0.scene.Lights.length (rd0.scene.Lights.flatMap eLight), .sl rd0.scene.Mats.length (rd0.scene.Mats.flatMap eMat), .sl rd0.scene.Texs.length (rd0.scene.Texs.flatMap eTex), .sl rd0.scene.Skins.length (rd0.scene.Skins.flatMap eSkin), .sl rd0.scene.Cages.length (rd0.scene.Cages.flatMap eCage)]) rfl rfl rfl ?_)
 refine AOps.cons rfl rfl (AOp.extract (.int .i64 0) rfl rfl rfl ?_)
 refine AOps.cons rfl rfl (AOp.extract (.int .i64 15) rfl rfl rfl ?_)
 refine AOps.cons rfl rfl (AOp.alloc rfl tz_35 ?_)
 intro i40 H41 n42 h43 k44
 have z45 := Mono.free m39 n42
 have m46 := Mono.new m39 n42 k44
 refine AOps.cons rfl rfl (AOp.store' (cells' := [.int .i64 rd0.scene.Camera.Eye.X, .int .i64 rd0.scene.Camera.Eye.Y, .int .i64 rd0.scene.Camera.Eye.Z, .int .i64 rd0.scene.Camera.First.X, .int .i64 rd0.scene.Camera.First.Y, .int .i64 rd0.scene.Camera.First.Z, .int .i64 rd0.scene.Camera.Right.X, .int .i64 rd0.scene.Camera.Right.Y, .int .i64 rd0.scene.Camera.Right.Z, .int .i64 rd0.scene.Camera.Down.X, .int .i64 rd0.scene.Camera.Down.Y, .int .i64 rd0.scene.Camera.Down.Z, .int .i64 rd0.scene.Camera.W, .int .i64 rd0.scene.Camera.H, .int .i64 rd0.scene.Camera.Grid, .int .i64 rd0.scene.Camera.Depth, .int .i64 rd0.scene.Sky.R, .int .i64 rd0.scene.Sky.G, .int .i64 rd0.scene.Sky.B, .sl rd0.scene.Lights.length (rd0.scene.Lights.flatMap eLight), .sl rd0.scene.Mats.length (rd0.scene.Mats.flatMap eMat), .sl rd0.scene.Texs.length (rd0.scene.Texs.flatMap eTex), .sl rd0.scene.Skins.length (rd0.scene.Skins.flatMap eSkin), .sl rd0.scene.Cages.length (rd0.scene.Cages.flatMap eCage)]) (.agg [.int .i64 rd0.scene.Camera.Eye.X, .int .i64 rd0.scene.Camera.Eye.Y, .int .i64 rd0.scene.Camera.Eye.Z, .int .i64 rd0.scene.Camera.First.X, .int .i64 rd0.scene.Camera.First.Y, .int .i64 rd0.scene.Camera.First.Z, .int .i64 rd0.scene.Camera.Right.X, .int .i64 rd0.scene.Camera.Right.Y, .int .i64 rd0.scene.Camera.Right.Z, .int .i64 rd0.scene.Camera.Down.X, .int .i64 rd0.scene.Camera.Down.Y, .int .i64 rd0.scene.Camera.Down.Z, .int .i64 rd0.scene.Camera.W, .int .i64 rd0.scene.Camera.H, .int .i64 rd0.scene.Camera.Grid, .int .i64 rd0.scene.Camera.Depth, .int .i64 rd0.scene.Sky.R, .int .i64 rd0.scene.Sky.G, .int .i64 rd0.scene.Sky.B, .sl rd0.scene.Lights.length (rd0.scene.Lights.flatMap eLight), .sl rd0.scene.Mats.length (rd0.scene.Mats.flatMap eMat), .sl rd0.scene.Texs.length (rd0.scene.Texs.flatMap eTex), .sl rd0.scene.Skins.length (rd0.scene.Skins.flatMap eSkin), .sl rd0.scene.Cages.length (rd0.scene.Cages.flatMap eCage)]) rfl rfl ts_35 h43 rfl rfl rfl rfl ?_)
 intro H47 h48 k49
 have m51 := Mono.set m46 z45 k49
 refine AOps.cons rfl rfl (AOp.assign (.int .i64 0) rfl rfl ?_)
 refine AOps.cons rfl rfl (AOp.assign (.int .i64 15) rfl rfl ?_)
 refine AOps.nil ?_
 change AWP _ _ _ _ _ _
 refine AWP.seq ?_
 refine AWP.frzP 7 h48 z45 rfl m51 fun H52 m53 k54 => ?_
 have hal1 : alS1.Cages.length = 1 := rfl
 have hal2 : alS1.Skins.length = 1 := rfl
 refine AWP.region (l := [0, 1, 2, 3, 4, 5, 6, 7, 8, 9, 10, 11, 12, 13, 14, 15, 16, 17, 18, 19, 20, 21, 22, 23, 24, 25, 26, 27, 28, 29, 30, 31, 32, 33, 34, 35, 36, 37, 38, 39, 40, 41, 42, 43, 44, 45, 46, 47, 48, 49, 50, 51, 52, 53, 54]) rfl ?_
 refine AOps.cons rfl rfl (AOp.move (.int .i64 0) rfl rfl ?_)
 refine AOps.cons rfl rfl (AOp.bin (.bool (decide (0 = 0))) rfl rfl rfl ieq ?_)
 refine AOps.cons rfl rfl (AOp.move (.bool (decide (0 = 0))) rfl rfl ?_)
 refine AOps.yes rfl rfl rfl rfl rfl rfl rfl (decide_eq_true (by decide)) (AOp.fieldAddrF rfl rfl fl_35_0 ?_)
 refine AOps.yes rfl rfl rfl rfl rfl rfl rfl (decide_eq_true (by decide)) (AOp.fieldAddrF rfl rfl fl_26_0 ?_)
 refine AOps.yes rfl rfl rfl rfl rfl rfl rfl (decide_eq_true (by decide)) (AOp.fieldAddrF rfl rfl fl_24_2 ?_)
 refine AOps.yes rfl rfl rfl rfl rfl rfl rfl (decide_eq_true (by decide)) (AOp.loadF (.int .i64 alS1.Camera.Eye.Z) rfl rfl ty_3 rfl ?_)
 refine AOps.yes rfl rfl rfl rfl rfl rfl rfl (decide_eq_true (by decide)) (AOp.bin (.bool (decide (alS1.Camera.Eye.Z = -9))) rfl rfl rfl ieq ?_)
 refine AOps.cons rfl rfl (AOp.pickT (.bool (decide (alS1.Camera.Eye.Z = -9))) rfl rfl (decide_eq_true (by decide)) rfl ?_)
 refine AOps.cons rfl rfl (AOp.move (.bool (decide (alS1.Camera.Eye.Z = -9))) rfl rfl ?_)
 refine AOps.yes rfl rfl rfl rfl rfl rfl rfl (decide_eq_true (rfl)) (AOp.fieldAddrF rfl rfl fl_35_6 ?_)
 refine AOps.yes rfl rfl rfl rfl rfl rfl rfl (decide_eq_true (rfl)) (AOp.loadF (.sl alS1.Cages.length (alS1.Cages.flatMap eCage)) rfl rfl ty_33 rfl ?_)
 refine AOps.yes rfl rfl rfl rfl rfl rfl rfl (decide_eq_true (rfl)) (AOp.len (m := alS1.Cages.length) rfl rfl (.inr (.inl ⟨_, rfl⟩)) u_33 ?_)
 refine AOps.yes rfl rfl rfl rfl rfl rfl rfl (decide_eq_true (rfl)) (AOp.bin (.bool (decide ((alS1.Cages.length : Int) = 1))) rfl rfl rfl ieq ?_)
 refine AOps.cons rfl rfl (AOp.pickT (.bool (decide ((alS1.Cages.length : Int) = 1))) rfl rfl (decide_eq_true (rfl)) rfl ?_)
 refine AOps.cons rfl rfl (AOp.move (.bool (decide ((alS1.Cages.length : Int) = 1))) rfl rfl ?_)
 refine AOps.yes rfl rfl rfl rfl rfl rfl rfl (decide_eq_true (rfl)) (AOp.fieldAddrF rfl rfl fl_35_6 ?_)
 refine AOps.yes rfl rfl rfl rfl rfl rfl rfl (decide_eq_true (rfl)) (AOp.loadF (.sl alS1.Cages.length (alS1.Cages.flatMap eCage)) rfl rfl ty_33 rfl ?_)
 refine AOps.yes rfl rfl rfl rfl rfl rfl rfl (decide_eq_true (rfl)) (AOp.indexAddrS rfl rfl rfl sl_33 (by omega) (by omega) ?_)
 refine AOps.yes rfl rfl rfl rfl rfl rfl rfl (decide_eq_true (rfl)) (AOp.fieldAddrF rfl rfl fl_46_0 ?_)
 refine AOps.yes rfl rfl rfl rfl rfl rfl rfl (decide_eq_true (rfl)) (AOp.loadF (.sl ((at_ alS1.Cages 0).Verts).length (((at_ alS1.Cages 0).Verts).flatMap eV)) rfl rfl ty_42 (ldF eCage_len (by omega) (by omega) rfl (by decide)) ?_)
 refine AOps.yes rfl rfl rfl rfl rfl rfl rfl (decide_eq_true (rfl)) (AOp.len (m := ((at_ alS1.Cages 0).Verts).length) rfl rfl (.inr (.inl ⟨_, rfl⟩)) u_42 ?_)
 refine AOps.yes rfl rfl rfl rfl rfl rfl rfl (decide_eq_true (rfl)) (AOp.bin (.bool (decide (((((at_ alS1.Cages 0).Verts).length) : Int) = 1))) rfl rfl rfl ieq ?_)
 refine AOps.cons rfl rfl (AOp.pickT (.bool (decide (((((at_ alS1.Cages 0).Verts).length) : Int) = 1))) rfl rfl (decide_eq_true (rfl)) rfl ?_)
 refine AOps.cons rfl rfl (AOp.move (.bool (decide (((((at_ alS1.Cages 0).Verts).length) : Int) = 1))) rfl rfl ?_)
 refine AOps.yes rfl rfl rfl rfl rfl rfl rfl (decide_eq_true (rfl)) (AOp.fieldAddrF rfl rfl fl_35_5 ?_)
 refine AOps.yes rfl rfl rfl rfl rfl rfl rfl (decide_eq_true (rfl)) (AOp.loadF (.sl alS1.Skins.length (alS1.Skins.flatMap eSkin)) rfl rfl ty_32 rfl ?_)
 refine AOps.yes rfl rfl rfl rfl rfl rfl rfl (decide_eq_true (rfl)) (AOp.len (m := alS1.Skins.length) rfl rfl (.inr (.inl ⟨_, rfl⟩)) u_32 ?_)
 refine AOps.yes rfl rfl rfl rfl rfl rfl rfl (decide_eq_true (rfl)) (AOp.bin (.bool (decide ((alS1.Skins.length : Int) = 1))) rfl rfl rfl ieq ?_)
 refine AOps.cons rfl rfl (AOp.pickT (.bool (decide ((alS1.Skins.length : Int) = 1))) rfl rfl (decide_eq_true (rfl)) rfl ?_)
 refine AOps.cons rfl rfl (AOp.move (.bool (decide ((alS1.Skins.length : Int) = 1))) rfl rfl ?_)
 refine AOps.yes rfl rfl rfl rfl rfl rfl rfl (decide_eq_true (rfl)) (AOp.fieldAddrF rfl rfl fl_35_5 ?_)
 refine AOps.yes rfl rfl rfl rfl rfl rfl rfl (decide_eq_true (rfl)) (AOp.loadF (.sl alS1.Skins.length (alS1.Skins.flatMap eSkin)) rfl rfl ty_32 rfl ?_)
 refine AOps.yes rfl rfl rfl rfl rfl rfl rfl (decide_eq_true (rfl)) (AOp.indexAddrS rfl rfl rfl sl_32 (by omega) (by omega) ?_)
 refine AOps.yes rfl rfl rfl rfl rfl rfl rfl (decide_eq_true (rfl)) (AOp.fieldAddrF rfl rfl fl_41_4 ?_)
 refine AOps.yes rfl rfl rfl rfl rfl rfl rfl (decide_eq_true (rfl)) (AOp.loadF (.int .i64 ((at_ alS1.Skins 0).Tex)) rfl rfl ty_3 (ldF eSkin_len (by omega) (by omega) rfl (by decide)) ?_)
 refine AOps.yes rfl rfl rfl rfl rfl rfl rfl (decide_eq_true (rfl)) (AOp.bin (.bool (decide ((at_ alS1.Skins 0).Tex = -1))) rfl rfl rfl ieq ?_)
 refine AOps.cons rfl rfl (AOp.pickT (.bool (decide ((at_ alS1.Skins 0).Tex = -1))) rfl rfl (decide_eq_true (rfl)) rfl ?_)
 refine AOps.cons rfl rfl (AOp.move (.bool (decide ((at_ alS1.Skins 0).Tex = -1))) rfl rfl ?_)
 refine AOps.yes rfl rfl rfl rfl rfl rfl rfl (decide_eq_true (rfl)) (AOp.move (.int .i64 2) rfl rfl ?_)
 refine AOps.yes rfl rfl rfl rfl rfl rfl rfl (decide_eq_true (rfl)) (AOp.bin (.bool (decide (2 = 2))) rfl rfl rfl ieq ?_)
 refine AOps.cons rfl rfl (AOp.pickT (.bool (decide (2 = 2))) rfl rfl (decide_eq_true (rfl)) rfl ?_)
 refine AOps.cons rfl rfl (AOp.move (.bool (decide (2 = 2))) rfl rfl ?_)
 refine AOps.yes rfl rfl rfl rfl rfl rfl rfl (decide_eq_true (by decide)) (AOp.move (.int .i64 10) rfl rfl ?_)
 refine AOps.yes rfl rfl rfl rfl rfl rfl rfl (decide_eq_true (by decide)) (AOp.bin (.bool (decide (10 = 10))) rfl rfl rfl ieq ?_)
 refine AOps.cons rfl rfl (AOp.pickT (.bool (decide (10 = 10))) rfl rfl (decide_eq_true (by decide)) rfl ?_)
 refine AOps.cons rfl rfl (AOp.move (.bool (decide (10 = 10))) rfl rfl ?_)
 refine AOps.yes rfl rfl rfl rfl rfl rfl rfl (decide_eq_true (by decide)) (AOp.move (.int .i64 0) rfl rfl ?_)
 refine AOps.yes rfl rfl rfl rfl rfl rfl rfl (decide_eq_true (by decide)) (AOp.bin (.bool (decide (0 = 0))) rfl rfl rfl ieq ?_)
 refine AOps.cons rfl rfl (AOp.pickT (.bool (decide (0 = 0))) rfl rfl (decide_eq_true (by decide)) rfl ?_)
 refine AOps.cons rfl rfl (AOp.move (.bool (decide (0 = 0))) rfl rfl ?_)
 refine AOps.yes rfl rfl rfl rfl rfl rfl rfl (decide_eq_true (by decide)) (AOp.move (.int .i64 15) rfl rfl ?_)
 refine AOps.yes rfl rfl rfl rfl rfl rfl rfl (decide_eq_true (by decide)) (AOp.bin (.bool (decide (15 = 15))) rfl rfl rfl ieq ?_)
 refine AOps.cons rfl rfl (AOp.pickT (.bool (decide (15 = 15))) rfl rfl (decide_eq_true (by decide)) rfl ?_)
 refine AOps.cons rfl rfl (AOp.assign (.bool (decide (15 = 15))) rfl rfl ?_)
 refine AOps.nil ?_
 change AWP _ _ _ _ _ _
 refine AWP.ret ?_
 refine ⟨_, _, Ghost.refl, .inr rfl, _, Res.one rfl rfl, ?_, m53⟩
 exact (congrArg AV.bool (show (decide (15 = 15) : Bool) = true from by decide))
end Go.Proofs.S
namespace Go.Proofs.S
open Go Go.AH Go.Proofs.L
set_option maxRecDepth 4000
set_option maxHeartbeats 4000000
set_option linter.unusedSimpArgs false
set_option linter.unusedVariables false
set_option linter.unusedSectionVars false
variable [LexG]
theorem c_SceneOrder (s : ByteArray) : PC Tryd.prog 5 [.str s] (.bool true) := by
 intro H0
 refine ACalls.of_body' (n := 134) rfl rfl rfl rfl ?_
 have m0 := Mono.refl H0
 refine AWP.seq ?_
 refine AWP.region (l := [0]) rfl ?_
 refine AOps.cons rfl rfl (AOp.assign (.bool false) rfl rfl ?_)
 refine AOps.nil ?_
 change AWP _ _ _ _ _ _
 refine AWP.seq ?_
 refine AWP.seq ?_
 refine AWP.region (l := [0, 1]) rfl ?_
 refine AOps.cons rfl rfl (AOp.pcall («as» := []) rfl rfl (rfl) tf_7 (c_alive) ?_)
 intro H1 m2
 have m3 := m0.trans m2
 refine AOps.cons rfl rfl (AOp.not rfl rfl ?_)
 refine AOps.nil ?_
 change AWP _ _ _ _ _ _
 refine AWP.condF rfl rfl ?_
 refine AWP.skip ?_
 change AWP _ _ _ _ _ _
 refine AWP.seq ?_
 refine AWP.seq ?_
 refine AWP.region (l := [0, 1, 2]) rfl ?_
 refine AOps.cons rfl rfl (AOp.move (.str s) rfl rfl ?_)
 refine AOps.cons rfl rfl (AOp.lenStr rfl rfl u_9 ?_)
 refine AOps.cons rfl rfl (AOp.bin (.bool (decide ((s.size : Int) > 5000))) rfl rfl rfl rfl ?_)
 refine AOps.nil ?_
 change AWP _ _ _ _ _ _
 by_cases b4 : (s.size : Int) > 5000
 ·
  refine AWP.condT rfl (decide_eq_true b4) ?_
  refine AWP.seq ?_
  refine AWP.region (l := [0]) rfl ?_
  refine AOps.cons rfl rfl (AOp.assign (.bool true) rfl rfl ?_)
  refine AOps.nil ?_
  change AWP _ _ _ _ _ _
  refine AWP.ret ?_
  refine ⟨_, _, Ghost.refl, .inr rfl, _, Res.one rfl rfl, ?_, m3⟩
  exact rfl
 ·
  refine AWP.condF rfl (decide_eq_false b4) ?_
  refine AWP.skip ?_
  change AWP _ _ _ _ _ _
  refine AWP.seq ?_
  refine AWP.region (l := [0, 1, 2, 3, 4, 5, 6, 7, 8, 9]) rfl ?_
  refine AOps.cons rfl rfl (AOp.move (.str s) rfl rfl ?_)
  refine AOps.cons rfl rfl (AOp.pcall («as» := [.str s]) rfl rfl (rfl) tf_8 (c_Parse s) ?_)
  intro H5 m6
  have m7 := m3.trans m6
  refine AOps.cons rfl rfl (AOp.move (.tup [.agg [.int .i64 (((((parseR s).1).Camera).Eye).X), .int .i64 (((((parseR s).1).Camera).Eye).Y), .int .i64 (((((parseR s).1).Camera).Eye).Z), .int .i64 (((((parseR s).1).Camera).First).X), .int .i64 (((((parseR s).1).Camera).First).Y), .int .i64 (((((parseR s).1).Camera).First).Z), .int .i64 (((((parseR s).1).Camera).Right).X), .int .i64 (((((parseR s).1).Camera).Right).Y), .int .i64 (((((parseR s).1).Camera).Right).Z), .int .i64 (((((parseR s).1).Camera).Down).X), .int .i64 (((((parseR s).1).Camera).Down).Y), .int .i64 (((((parseR s).1).Camera).Down).Z), .int .i64 ((((parseR s).1).Camera).W), .int .i64 ((((parseR s).1).Camera).H), .int .i64 ((((parseR s).1).Camera).Grid), .int .i64 ((((parseR s).1).Camera).Depth), .int .i64 ((((parseR s).1).Sky).R), .int .i64 ((((parseR s).1).Sky).G), .int .i64 ((((parseR s).1).Sky).B), .sl (((parseR s).1).Lights).length ((((parseR s).1).Lights).flatMap eLight), .sl (((parseR s).1).Mats).length ((((parseR s).1).Mats).flatMap eMat), .sl (((parseR s).1).Texs).length ((((parseR s).1).Texs).flatMap eTex), .sl (((parseR s).1).Skins).length ((((parseR s).1).Skins).flatMap eSkin), .sl (((parseR s).1).Cages).length ((((parseR s).1).Cages).flatMap eCage)], .int .i64 ((parseR s).2.1), .int .i64 ((parseR s).2.2)]) rfl rfl ?_)
  refine AOps.cons rfl rfl (AOp.extract (.agg [.int .i64 (((((parseR s).1).Camera).Eye).X), .int .i64 (((((parseR s).1).Camera).Eye).Y), .int .i64 (((((parseR s).1).Camera).Eye).Z), .int .i64 (((((parseR s).1).Camera).First).X), .int .i64 (((((parseR s).1).Camera).First).Y), .int .i64 (((((parseR s).1).Camera).First).Z), .int .i64 (((((parseR s).1).Camera).Right).X), .int .i64 (((((parseR s).1).Camera).Right).Y), .int .i64 (((((parseR s).1).Camera).Right).Z), .int .i64 (((((parseR s).1).Camera).Down).X), .int .i64 (((((parseR s).1).Camera).Down).Y), .int .i64 (((((parseR s).1).Camera).Down).Z), .int .i64 ((((parseR s).1).Camera).W), .int .i64 ((((parseR s).1).Camera).H), .int .i64 ((((parseR s).1).Camera).Grid), .int .i64 ((((parseR s).1).Camera).Depth), .int .i64 ((((parseR s).1).Sky).R), .int .i64 ((((parseR s).1).Sky).G), .int .i64 ((((parseR s).1).Sky).B), .sl (((parseR s).1).Lights).length ((((parseR s).1).Lights).flatMap eLight), .sl (((parseR s).1).Mats).length ((((parseR s).1).Mats).flatMap eMat), .sl (((parseR s).1).Texs).length ((((parseR s).1).Texs).flatMap eTex), .sl (((parseR s).1).Skins).length ((((parseR s).1).Skins).flatMap eSkin), .sl (((parseR s).1).Cages).length ((((parseR s).1).Cages).flatMap eCage)]) rfl rfl rfl ?_)
  refine AOps.cons rfl rfl (AOp.extract (.int .i64 ((parseR s).2.1)) rfl rfl rfl ?_)
  refine AOps.cons rfl rfl (AOp.extract (.int .i64 ((parseR s).2.2)) rfl rfl rfl ?_)
  refine AOps.cons rfl rfl (AOp.alloc rfl tz_35 ?_)
  intro i8 H9 n10 h11 k12
  have z13 := Mono.free m7 n10
  have m14 := Mono.new m7 n10 k12
  refine AOps.cons rfl rfl (AOp.store' (cells' := [.int .i64 (((((parseR s).1).Camera).Eye).X), .int .i64 (((((parseR s).1).Camera).Eye).Y), .int .i64 (((((parseR s).1).Camera).Eye).Z), .int .i64 (((((parseR s).1).Camera).First).X), .int .i64 (((((parseR s).1).Camera).First).Y), .int .i64 (((((parseR s).1).Camera).First).Z), .int .i64 (((((parseR s).1).Camera).Right).X), .int .i64 (((((parseR s).1).Camera).Right).Y), .int .i64 (((((parseR s).1).Camera).Right).Z), .int .i64 (((((parseR s).1).Camera).Down).X), .int .i64 (((((parseR s).1).Camera).Down).Y), .int .i64 (((((parseR s).1).Camera).Down).Z), .int .i64 ((((parseR s).1).Camera).W), .int .i64 ((((parseR s).1).Camera).H), .int .i64 ((((parseR s).1).Camera).Grid), .int .i64 ((((parseR s).1).Camera).Depth), .int .i64 ((((parseR s).1).Sky).R), .int .i64 ((((parseR s).1).Sky).G), .int .i64 ((((parseR s).1).Sky).B), .sl (((parseR s).1).Lights).length ((((parseR s).1).Lights).flatMap eLight), .sl (((parseR s).1).Mats).length ((((parseR s).1).Mats).flatMap eMat), .sl (((parseR s).1).Texs).length ((((parseR s).1).Texs).flatMap eTex), .sl (((parseR s).1).Skins).length ((((parseR s).1).Skins).flatMap eSkin), .sl (((parseR s).1).Cages).length ((((parseR s).1).Cages).flatMap eCage)]) (.agg [.int .i64 (((((parseR s).1).Camera).Eye).X), .int .i64 (((((parseR s).1).Camera).Eye).Y), .int .i64 (((((parseR s).1).Camera).Eye).Z), .int .i64 (((((parseR s).1).Camera).First).X), .int .i64 (((((parseR s).1).Camera).First).Y), .int .i64 (((((parseR s).1).Camera).First).Z), .int .i64 (((((parseR s).1).Camera).Right).X), .int .i64 (((((parseR s).1).Camera).Right).Y), .int .i64 (((((parseR s).1).Camera).Right).Z), .int .i64 (((((parseR s).1).Camera).Down).X), .int .i64 (((((parseR s).1).Camera).Down).Y), .int .i64 (((((parseR s).1).Camera).Down).Z), .int .i64 ((((parseR s).1).Camera).W), .int .i64 ((((parseR s).1).Camera).H), .int .i64 ((((parseR s).1).Camera).Grid), .int .i64 ((((parseR s).1).Camera).Depth), .int .i64 ((((parseR s).1).Sky).R), .int .i64 ((((parseR s).1).Sky).G), .int .i64 ((((parseR s).1).Sky).B), .sl (((parseR s).1).Lights).length ((((parseR s).1).Lights).flatMap eLight), .sl (((parseR s).1).Mats).length ((((parseR s).1).Mats).flatMap eMat), .sl (((parseR s).1).Texs).length ((((parseR s).1).Texs).flatMap eTex), .sl (((parseR s).1).Skins).length ((((parseR s).1).Skins).flatMap eSkin), .sl (((parseR s).1).Cages).length ((((parseR s).1).Cages).flatMap eCage)]) rfl rfl ts_35 h11 rfl rfl rfl rfl ?_)
  intro H15 h16 k17
  have m19 := Mono.set m14 z13 k17
  refine AOps.cons rfl rfl (AOp.assign (.int .i64 ((parseR s).2.1)) rfl rfl ?_)
  refine AOps.cons rfl rfl (AOp.assign (.int .i64 ((parseR s).2.2)) rfl rfl ?_)
  refine AOps.nil ?_
  change AWP _ _ _ _ _ _
  refine AWP.seq ?_
  refine AWP.frzP 3 h16 z13 rfl m19 fun H20 m21 k22 => ?_
  refine AWP.region (l := [0, 1, 2, 3, 4, 5, 6, 7, 8]) rfl ?_
  refine AOps.cons rfl rfl (AOp.move (.str s) rfl rfl ?_)
  refine AOps.cons rfl rfl (AOp.pcall («as» := [.str s]) rfl rfl (rfl) tf_9 (c_lex_Lines _) ?_)
  intro H23 m24
  have m25 := m21.trans m24
  refine AOps.cons rfl rfl (AOp.move (.tup [.sl ((linesR s).1).length (((linesR s).1).flatMap eLine), .int .i64 ((linesR s).2.1), .int .i64 ((linesR s).2.2)]) rfl rfl ?_)
  refine AOps.cons rfl rfl (AOp.extract (.sl ((linesR s).1).length (((linesR s).1).flatMap eLine)) rfl rfl rfl ?_)
  refine AOps.cons rfl rfl (AOp.extract (.int .i64 ((linesR s).2.1)) rfl rfl rfl ?_)
  refine AOps.cons rfl rfl (AOp.extract (.int .i64 ((linesR s).2.2)) rfl rfl rfl ?_)
  refine AOps.cons rfl rfl (AOp.assign (.sl ((linesR s).1).length (((linesR s).1).flatMap eLine)) rfl rfl ?_)
  refine AOps.cons rfl rfl (AOp.assign (.int .i64 ((linesR s).2.1)) rfl rfl ?_)
  refine AOps.cons rfl rfl (AOp.assign (.int .i64 ((linesR s).2.2)) rfl rfl ?_)
  refine AOps.nil ?_
  change AWP _ _ _ _ _ _
  refine AWP.seq ?_
  refine AWP.seq ?_
  refine AWP.region (l := [0, 1, 2, 3, 4, 5]) rfl ?_
  refine AOps.cons rfl rfl (AOp.move (.int .i64 ((parseR s).2.2)) rfl rfl ?_)
  refine AOps.cons rfl rfl (AOp.bin (.bool (!decide ((parseR s).2.2 = 0))) rfl rfl rfl ine ?_)
  refine AOps.cons rfl rfl (AOp.move (.bool (!decide ((parseR s).2.2 = 0))) rfl rfl ?_)
  by_cases b26 : (parseR s).2.2 = 0
  ·
   refine AOps.yes rfl rfl rfl rfl rfl rfl rfl (nb (decide_eq_true b26)) (AOp.move (.int .i64 ((linesR s).2.2)) rfl rfl ?_)
   refine AOps.yes rfl rfl rfl rfl rfl rfl rfl (nb (decide_eq_true b26)) (AOp.bin (.bool (!decide ((linesR s).2.2 = 0))) rfl rfl rfl ine ?_)
   refine AOps.cons rfl rfl (AOp.pickF (.bool (!decide ((linesR s).2.2 = 0))) rfl rfl (nb (decide_eq_true b26)) rfl ?_)
   refine AOps.nil ?_
   change AWP _ _ _ _ _ _
   by_cases b27 : (linesR s).2.2 = 0
   ·
    refine AWP.condF rfl (nb (decide_eq_true b27)) ?_
    refine AWP.skip ?_
    change AWP _ _ _ _ _ _
    refine AWP.seq ?_
    have hlw := order_law (s := s) (by omega) b26
    have hn0 := parse_n0 b26
    have hll := lines_len' s
    have hcc := lines_cost (s := s) (by omega)
    refine AWP.region (l := [0]) rfl ?_
    refine AOps.cons rfl rfl (AOp.assign (.str ⟨#[]⟩) rfl rfl ?_)
    refine AOps.nil ?_
    change AWP _ _ _ _ _ _
    refine AWP.seq ?_
    refine AWP.region (l := [0]) rfl ?_
    refine AOps.cons rfl rfl (AOp.assign (.str ⟨#[]⟩) rfl rfl ?_)
    refine AOps.nil ?_
    change AWP _ _ _ _ _ _
    refine AWP.seq ?_
    refine AWP.seq ?_
    refine AWP.region (l := [0]) rfl ?_
    refine AOps.cons rfl rfl (AOp.assign (.int .i64 0) rfl rfl ?_)
    refine AOps.nil ?_
    change AWP _ _ _ _ _ _
    refine AWP.block ?_
    refine AWP.loop (fun q28 fq Hq => ∃ (i : Int), q28 = (((((linesR s).1).length : Int) : Int) - i).toNat ∧ fq 11 = .int .i64 i ∧ fq 9 = .str (txt (((linesR s).1.take i.toNat).filter onL)) ∧ fq 10 = .str (txt (((linesR s).1.take i.toNat).filter offL)) ∧ fq 2 = .bool false ∧ fq 3 = .fptr [.int .i64 (((((parseR s).1).Camera).Eye).X), .int .i64 (((((parseR s).1).Camera).Eye).Y), .int .i64 (((((parseR s).1).Camera).Eye).Z), .int .i64 (((((parseR s).1).Camera).First).X), .int .i64 (((((parseR s).1).Camera).First).Y), .int .i64 (((((parseR s).1).Camera).First).Z), .int .i64 (((((parseR s).1).Camera).Right).X), .int .i64 (((((parseR s).1).Camera).Right).Y), .int .i64 (((((parseR s).1).Camera).Right).Z), .int .i64 (((((parseR s).1).Camera).Down).X), .int .i64 (((((parseR s).1).Camera).Down).Y), .int .i64 (((((parseR s).1).Camera).Down).Z), .int .i64 ((((parseR s).1).Camera).W), .int .i64 ((((parseR s).1).Camera).H), .int .i64 ((((parseR s).1).Camera).Grid), .int .i64 ((((parseR s).1).Camera).Depth), .int .i64 ((((parseR s).1).Sky).R), .int .i64 ((((parseR s).1).Sky).G), .int .i64 ((((parseR s).1).Sky).B), .sl (((parseR s).1).Lights).length ((((parseR s).1).Lights).flatMap eLight), .sl (((parseR s).1).Mats).length ((((parseR s).1).Mats).flatMap eMat), .sl (((parseR s).1).Texs).length ((((parseR s).1).Texs).flatMap eTex), .sl (((parseR s).1).Skins).length ((((parseR s).1).Skins).flatMap eSkin), .sl (((parseR s).1).Cages).length ((((parseR s).1).Cages).flatMap eCage)] 0 ∧ fq 5 = .int .i64 ((parseR s).2.2) ∧ fq 6 = .sl ((linesR s).1).length (((linesR s).1).flatMap eLine) ∧ fq 8 = .int .i64 ((linesR s).2.2) ∧ Mono H0 Hq ∧ (0 ≤ i) ∧ (i ≤ (((linesR s).1).length : Int))) (k := (((((linesR s).1).length : Int) : Int) - 0).toNat) ?_ ?_
    ·
     exact ⟨0, rfl, rfl, (congrArg AV.str (show (⟨#[]⟩ : ByteArray) = txt (((linesR s).1.take (0 : Int).toNat).filter onL) from by rfl)), (congrArg AV.str (show (⟨#[]⟩ : ByteArray) = txt (((linesR s).1.take (0 : Int).toNat).filter offL) from by rfl)), rfl, rfl, rfl, rfl, rfl, m25, by omega, by omega⟩
    ·
     rintro _ f30 H29 ⟨i, rfl, s31, s32, s33, s34, s35, s36, s37, s38, m39, hi0, hi1⟩
     refine AWP.seq ?_
     refine AWP.seq ?_
     refine AWP.region (l := [0, 1, 2, 3]) rfl ?_
     refine AOps.cons rfl rfl (AOp.move (.int .i64 i) rfl s31 ?_)
     refine AOps.cons rfl rfl (AOp.move (.sl ((linesR s).1).length (((linesR s).1).flatMap eLine)) rfl s37 ?_)
     refine AOps.cons rfl rfl (AOp.len (m := ((linesR s).1).length) rfl rfl (.inr (.inl ⟨_, rfl⟩)) u_49 ?_)
     refine AOps.cons rfl rfl (AOp.bin (.bool (decide (i < ((((linesR s).1).length) : Int)))) rfl rfl rfl rfl ?_)
     refine AOps.nil ?_
     change AWP _ _ _ _ _ _
     by_cases b40 : i < ((((linesR s).1).length) : Int)
     ·
      refine AWP.condT rfl (decide_eq_true b40) ?_
      refine AWP.skip ?_
      change AWP _ _ _ _ _ _
      refine AWP.seq ?_
      refine AWP.block ?_
      refine AWP.seq ?_
      have hgl := lines_good (s := s) (by omega) _ (at_mem (l := (linesR s).1) (i := i) hi0 (by omega))
      have hgp := hgl.1
      have hwl := lines_words s _ (at_mem (l := (linesR s).1) (i := i) hi0 (by omega))
      have hct := cost_at (l := (linesR s).1) hi0 (by omega)
      have hc1 := cost_tk onL (linesR s).1 i.toNat
      have hc2 := cost_tk offL (linesR s).1 i.toNat
      refine AWP.region (l := [0]) rfl ?_
      refine AOps.cons rfl rfl (AOp.assign (.str ⟨#[]⟩) rfl rfl ?_)
      refine AOps.nil ?_
      change AWP _ _ _ _ _ _
      refine AWP.seq ?_
      refine AWP.seq ?_
      refine AWP.region (l := [0]) rfl ?_
      refine AOps.cons rfl rfl (AOp.assign (.int .i64 0) rfl rfl ?_)
      refine AOps.nil ?_
      change AWP _ _ _ _ _ _
      refine AWP.block ?_
      refine AWP.loop (fun q41 fq Hq => ∃ (k : Int), q41 = (((((at_ (linesR s).1 i).Words).length : Int) : Int) - k).toNat ∧ fq 13 = .int .i64 k ∧ fq 12 = .str (lineTx ((at_ (linesR s).1 i).Words.take k.toNat)) ∧ fq 11 = .int .i64 i ∧ fq 9 = .str (txt (((linesR s).1.take i.toNat).filter onL)) ∧ fq 10 = .str (txt (((linesR s).1.take i.toNat).filter offL)) ∧ fq 2 = .bool false ∧ fq 3 = .fptr [.int .i64 (((((parseR s).1).Camera).Eye).X), .int .i64 (((((parseR s).1).Camera).Eye).Y), .int .i64 (((((parseR s).1).Camera).Eye).Z), .int .i64 (((((parseR s).1).Camera).First).X), .int .i64 (((((parseR s).1).Camera).First).Y), .int .i64 (((((parseR s).1).Camera).First).Z), .int .i64 (((((parseR s).1).Camera).Right).X), .int .i64 (((((parseR s).1).Camera).Right).Y), .int .i64 (((((parseR s).1).Camera).Right).Z), .int .i64 (((((parseR s).1).Camera).Down).X), .int .i64 (((((parseR s).1).Camera).Down).Y), .int .i64 (((((parseR s).1).Camera).Down).Z), .int .i64 ((((parseR s).1).Camera).W), .int .i64 ((((parseR s).1).Camera).H), .int .i64 ((((parseR s).1).Camera).Grid), .int .i64 ((((parseR s).1).Camera).Depth), .int .i64 ((((parseR s).1).Sky).R), .int .i64 ((((parseR s).1).Sky).G), .int .i64 ((((parseR s).1).Sky).B), .sl (((parseR s).1).Lights).length ((((parseR s).1).Lights).flatMap eLight), .sl (((parseR s).1).Mats).length ((((parseR s).1).Mats).flatMap eMat), .sl (((parseR s).1).Texs).length ((((parseR s).1).Texs).flatMap eTex), .sl (((parseR s).1).Skins).length ((((parseR s).1).Skins).flatMap eSkin), .sl (((parseR s).1).Cages).length ((((parseR s).1).Cages).flatMap eCage)] 0 ∧ fq 5 = .int .i64 ((parseR s).2.2) ∧ fq 6 = .sl ((linesR s).1).length (((linesR s).1).flatMap eLine) ∧ fq 8 = .int .i64 ((linesR s).2.2) ∧ Mono H0 Hq ∧ (0 ≤ k) ∧ (k ≤ (((at_ (linesR s).1 i).Words).length : Int))) (k := (((((at_ (linesR s).1 i).Words).length : Int) : Int) - 0).toNat) ?_ ?_
      ·
       exact ⟨0, rfl, rfl, (congrArg AV.str (show (⟨#[]⟩ : ByteArray) = lineTx ((at_ (linesR s).1 i).Words.take (0 : Int).toNat) from by rfl)), s31, s32, s33, s34, s35, s36, s37, s38, m39, by omega, by omega⟩
      ·
       rintro _ f43 H42 ⟨k, rfl, s44, s45, s46, s47, s48, s49, s50, s51, s52, s53, m54, hk0, hk1⟩
       refine AWP.seq ?_
       refine AWP.seq ?_
       refine AWP.region (l := [0, 1, 2, 3, 4, 5, 6, 7]) rfl ?_
       refine AOps.cons rfl rfl (AOp.move (.int .i64 k) rfl s44 ?_)
       refine AOps.cons rfl rfl (AOp.move (.sl ((linesR s).1).length (((linesR s).1).flatMap eLine)) rfl s52 ?_)
       refine AOps.cons rfl rfl (AOp.move (.int .i64 i) rfl s46 ?_)
       refine AOps.cons rfl rfl (AOp.indexAddrS rfl rfl rfl sl_49 (by omega) (by omega) ?_)
       refine AOps.cons rfl rfl (AOp.fieldAddrF rfl rfl fl_54_1 ?_)
       refine AOps.cons rfl rfl (AOp.loadF (.sl ((at_ ((linesR s).1) i).Words).length (((at_ ((linesR s).1) i).Words).map eStr)) rfl rfl ty_52 (ldF eLine_len (by omega) (by omega) rfl (by decide)) ?_)
       refine AOps.cons rfl rfl (AOp.len (m := ((at_ ((linesR s).1) i).Words).length) rfl rfl (.inr (.inl ⟨_, rfl⟩)) u_52 ?_)
       refine AOps.cons rfl rfl (AOp.bin (.bool (decide (k < ((((at_ ((linesR s).1) i).Words).length) : Int)))) rfl rfl rfl rfl ?_)
       refine AOps.nil ?_
       change AWP _ _ _ _ _ _
       by_cases b55 : k < ((((at_ ((linesR s).1) i).Words).length) : Int)
       ·
        refine AWP.condT rfl (decide_eq_true b55) ?_
        refine AWP.skip ?_
        change AWP _ _ _ _ _ _
        refine AWP.seq ?_
        refine AWP.block ?_
        have hwk := costW_at (ws := (at_ (linesR s).1 i).Words) hk0 (by omega)
        have hz32 : ((⟨#[32]⟩ : ByteArray) ++ at_ (at_ (linesR s).1 i).Words k).size = 1 + (at_ (at_ (linesR s).1 i).Words k).size := by rw [ByteArray.size_append]; rfl
        have hz33 : (⟨#[32]⟩ : ByteArray).size = 1 := rfl
        refine AWP.region (l := [0, 1, 2, 3, 4, 5, 6, 7, 8, 9, 10, 11]) rfl ?_
        refine AOps.cons rfl rfl (AOp.move (.str (lineTx ((at_ (linesR s).1 i).Words.take k.toNat))) rfl s45 ?_)
        refine AOps.cons rfl rfl (AOp.move (.sl ((linesR s).1).length (((linesR s).1).flatMap eLine)) rfl s52 ?_)
        refine AOps.cons rfl rfl (AOp.move (.int .i64 i) rfl s46 ?_)
        refine AOps.cons rfl rfl (AOp.indexAddrS rfl rfl rfl sl_49 (by omega) (by omega) ?_)
        refine AOps.cons rfl rfl (AOp.fieldAddrF rfl rfl fl_54_1 ?_)
        refine AOps.cons rfl rfl (AOp.loadF (.sl ((at_ ((linesR s).1) i).Words).length (((at_ ((linesR s).1) i).Words).map eStr)) rfl rfl ty_52 (ldF eLine_len (by omega) (by omega) rfl (by decide)) ?_)
        refine AOps.cons rfl rfl (AOp.move (.int .i64 k) rfl s44 ?_)
        refine AOps.cons rfl rfl (AOp.indexAddrS rfl rfl rfl sl_52 (by omega) (by omega) ?_)
        refine AOps.cons rfl rfl (AOp.loadF (.str (at_ ((at_ ((linesR s).1) i).Words) k)) rfl rfl ty_9 (ld1 (by omega) (by omega)) ?_)
        refine AOps.cons rfl rfl (AOp.sadd rfl rfl rfl (by omega) ?_)
        refine AOps.cons rfl rfl (AOp.sadd rfl rfl rfl (by omega) ?_)
        refine AOps.cons rfl rfl (AOp.assign (.str ((lineTx ((at_ (linesR s).1 i).Words.take k.toNat)) ++ (⟨#[32]⟩ ++ (at_ ((at_ ((linesR s).1) i).Words) k)))) rfl rfl ?_)
        refine AOps.nil ?_
        change AWP _ _ _ _ _ _
        refine AWP.region (l := [0, 1, 2]) rfl ?_
        refine AOps.cons rfl rfl (AOp.move (.int .i64 k) rfl s44 ?_)
        refine AOps.cons rfl rfl (AOp.bin (.int .i64 (k + 1)) rfl rfl rfl (iadd (by omega)) ?_)
        refine AOps.cons rfl rfl (AOp.assign (.int .i64 (k + 1)) rfl rfl ?_)
        refine AOps.nil ?_
        exact ⟨_, by omega, k + 1, rfl, rfl, (congrArg AV.str (show ((lineTx ((at_ (linesR s).1 i).Words.take k.toNat)) ++ (⟨#[32]⟩ ++ (at_ ((at_ ((linesR s).1) i).Words) k)) : ByteArray) = lineTx ((at_ (linesR s).1 i).Words.take (k + 1).toNat) from by exact ltx_step hk0 (by omega))), s46, s47, s48, s49, s50, s51, s52, s53, m54, by omega, by omega⟩
       ·
        refine AWP.condF rfl (decide_eq_false b55) ?_
        refine AWP.exit ?_
        change AWP _ _ _ _ _ _
        refine AWP.seq ?_
        have hkw : (at_ (linesR s).1 i).Words.take k.toNat = (at_ (linesR s).1 i).Words := List.take_of_length_le (by omega)
        have hkz : (lineTx ((at_ (linesR s).1 i).Words.take k.toNat)).size = costW (at_ (linesR s).1 i).Words := by rw [hkw]; exact lineTx_size _
        have hz10 : (lineTx ((at_ (linesR s).1 i).Words.take k.toNat) ++ ⟨#[10]⟩).size = (lineTx ((at_ (linesR s).1 i).Words.take k.toNat)).size + 1 := by rw [ByteArray.size_append]; rfl
        have hz11 : (⟨#[10]⟩ : ByteArray).size = 1 := rfl
        refine AWP.region (l := [0, 1, 2, 3, 4, 5, 6, 7, 8, 9, 10, 11, 12, 13, 14, 15, 16, 17]) rfl ?_
        refine AOps.cons rfl rfl (AOp.move (.sl ((linesR s).1).length (((linesR s).1).flatMap eLine)) rfl s52 ?_)
        refine AOps.cons rfl rfl (AOp.move (.int .i64 i) rfl s46 ?_)
        refine AOps.cons rfl rfl (AOp.indexAddrS rfl rfl rfl sl_49 (by omega) (by omega) ?_)
        refine AOps.cons rfl rfl (AOp.fieldAddrF rfl rfl fl_54_1 ?_)
        refine AOps.cons rfl rfl (AOp.loadF (.sl ((at_ ((linesR s).1) i).Words).length (((at_ ((linesR s).1) i).Words).map eStr)) rfl rfl ty_52 (ldF eLine_len (by omega) (by omega) rfl (by decide)) ?_)
        refine AOps.cons rfl rfl (AOp.indexAddrS rfl rfl rfl sl_52 (by omega) (by omega) ?_)
        refine AOps.cons rfl rfl (AOp.loadF (.str (at_ ((at_ ((linesR s).1) i).Words) 0)) rfl rfl ty_9 (ld1 (by omega) (by omega)) ?_)
        refine AOps.cons rfl rfl (AOp.seqD rfl rfl rfl ?_)
        refine AOps.cons rfl rfl (AOp.move (.bool (decide ((at_ ((at_ ((linesR s).1) i).Words) 0) = ⟨#[108, 105, 103, 104, 116]⟩))) rfl rfl ?_)
        by_cases b56 : (at_ ((at_ ((linesR s).1) i).Words) 0) = ⟨#[108, 105, 103, 104, 116]⟩
        ·
         refine AOps.no rfl rfl rfl rfl rfl rfl rfl (ble_of (decide_eq_true b56) (by decide)) ?_
         refine AOps.no rfl rfl rfl rfl rfl rfl rfl (ble_of (decide_eq_true b56) (by decide)) ?_
         refine AOps.no rfl rfl rfl rfl rfl rfl rfl (ble_of (decide_eq_true b56) (by decide)) ?_
         refine AOps.no rfl rfl rfl rfl rfl rfl rfl (ble_of (decide_eq_true b56) (by decide)) ?_
         refine AOps.no rfl rfl rfl rfl rfl rfl rfl (ble_of (decide_eq_true b56) (by decide)) ?_
         refine AOps.no rfl rfl rfl rfl rfl rfl rfl (ble_of (decide_eq_true b56) (by decide)) ?_
         refine AOps.no rfl rfl rfl rfl rfl rfl rfl (ble_of (decide_eq_true b56) (by decide)) ?_
         refine AOps.no rfl rfl rfl rfl rfl rfl rfl (ble_of (decide_eq_true b56) (by decide)) ?_
         refine AOps.cons rfl rfl (AOp.pickT (.bool true) rfl rfl (decide_eq_true b56) rfl ?_)
         refine AOps.nil ?_
         change AWP _ _ _ _ _ _
         refine AWP.condT rfl rfl ?_
         refine AWP.region (l := [0, 1, 2, 3, 4]) rfl ?_
         refine AOps.cons rfl rfl (AOp.move (.str (txt (((linesR s).1.take i.toNat).filter onL))) rfl s47 ?_)
         refine AOps.cons rfl rfl (AOp.move (.str (lineTx ((at_ (linesR s).1 i).Words.take k.toNat))) rfl s45 ?_)
         refine AOps.cons rfl rfl (AOp.sadd rfl rfl rfl (by omega) ?_)
         refine AOps.cons rfl rfl (AOp.sadd rfl rfl rfl (by omega) ?_)
         refine AOps.cons rfl rfl (AOp.assign (.str ((txt (((linesR s).1.take i.toNat).filter onL)) ++ ((lineTx ((at_ (linesR s).1 i).Words.take k.toNat)) ++ ⟨#[10]⟩))) rfl rfl ?_)
         refine AOps.nil ?_
         change AWP _ _ _ _ _ _
         refine AWP.region (l := [0, 1, 2]) rfl ?_
         refine AOps.cons rfl rfl (AOp.move (.int .i64 i) rfl s46 ?_)
         refine AOps.cons rfl rfl (AOp.bin (.int .i64 (i + 1)) rfl rfl rfl (iadd (by omega)) ?_)
         refine AOps.cons rfl rfl (AOp.assign (.int .i64 (i + 1)) rfl rfl ?_)
         refine AOps.nil ?_
         exact ⟨_, by omega, i + 1, rfl, rfl, (congrArg AV.str (show ((txt (((linesR s).1.take i.toNat).filter onL)) ++ ((lineTx ((at_ (linesR s).1 i).Words.take k.toNat)) ++ ⟨#[10]⟩) : ByteArray) = txt (((linesR s).1.take (i + 1).toNat).filter onL) from by (try rw [hkw]); first | exact (on_step hi0 (by omega) (onI1 (by assumption))).1 | exact (on_step hi0 (by omega) (onI2 (by assumption))).1 | exact (off_step hi0 (by omega) (onI0 (by assumption) (by assumption))).2)), (s48.trans (congrArg AV.str (show (txt (((linesR s).1.take i.toNat).filter offL) : ByteArray) = txt (((linesR s).1.take (i + 1).toNat).filter offL) from by (try rw [hkw]); first | exact (on_step hi0 (by omega) (onI1 (by assumption))).2 | exact (on_step hi0 (by omega) (onI2 (by assumption))).2 | exact (off_step hi0 (by omega) (onI0 (by assumption) (by assumption))).1))), s49, s50, s51, s52, s53, m54, by omega, by omega⟩
        ·
         refine AOps.yes rfl rfl rfl rfl rfl rfl rfl (decide_eq_false b56) (AOp.move (.sl ((linesR s).1).length (((linesR s).1).flatMap eLine)) rfl s52 ?_)
         refine AOps.yes rfl rfl rfl rfl rfl rfl rfl (decide_eq_false b56) (AOp.move (.int .i64 i) rfl s46 ?_)
         refine AOps.yes rfl rfl rfl rfl rfl rfl rfl (decide_eq_false b56) (AOp.indexAddrS rfl rfl rfl sl_49 (by omega) (by omega) ?_)
         refine AOps.yes rfl rfl rfl rfl rfl rfl rfl (decide_eq_false b56) (AOp.fieldAddrF rfl rfl fl_54_1 ?_)
         refine AOps.yes rfl rfl rfl rfl rfl rfl rfl (decide_eq_false b56) (AOp.loadF (.sl ((at_ ((linesR s).1) i).Words).length (((at_ ((linesR s).1) i).Words).map eStr)) rfl rfl ty_52 (ldF eLine_len (by omega) (by omega) rfl (by decide)) ?_)
         refine AOps.yes rfl rfl rfl rfl rfl rfl rfl (decide_eq_false b56) (AOp.indexAddrS rfl rfl rfl sl_52 (by omega) (by omega) ?_)
         refine AOps.yes rfl rfl rfl rfl rfl rfl rfl (decide_eq_false b56) (AOp.loadF (.str (at_ ((at_ ((linesR s).1) i).Words) 0)) rfl rfl ty_9 (ld1 (by omega) (by omega)) ?_)
         refine AOps.yes rfl rfl rfl rfl rfl rfl rfl (decide_eq_false b56) (AOp.seqD rfl rfl rfl ?_)
         refine AOps.cons rfl rfl (AOp.pickF (.bool (decide ((at_ ((at_ ((linesR s).1) i).Words) 0) = ⟨#[115, 107, 121]⟩))) rfl rfl (decide_eq_false b56) rfl ?_)
         refine AOps.nil ?_
         change AWP _ _ _ _ _ _
         by_cases b57 : (at_ ((at_ ((linesR s).1) i).Words) 0) = ⟨#[115, 107, 121]⟩
         ·
          refine AWP.condT rfl (decide_eq_true b57) ?_
          refine AWP.region (l := [0, 1, 2, 3, 4]) rfl ?_
          refine AOps.cons rfl rfl (AOp.move (.str (txt (((linesR s).1.take i.toNat).filter onL))) rfl s47 ?_)
          refine AOps.cons rfl rfl (AOp.move (.str (lineTx ((at_ (linesR s).1 i).Words.take k.toNat))) rfl s45 ?_)
          refine AOps.cons rfl rfl (AOp.sadd rfl rfl rfl (by omega) ?_)
          refine AOps.cons rfl rfl (AOp.sadd rfl rfl rfl (by omega) ?_)
          refine AOps.cons rfl rfl (AOp.assign (.str ((txt (((linesR s).1.take i.toNat).filter onL)) ++ ((lineTx ((at_ (linesR s).1 i).Words.take k.toNat)) ++ ⟨#[10]⟩))) rfl rfl ?_)
          refine AOps.nil ?_
          change AWP _ _ _ _ _ _
          refine AWP.region (l := [0, 1, 2]) rfl ?_
          refine AOps.cons rfl rfl (AOp.move (.int .i64 i) rfl s46 ?_)
          refine AOps.cons rfl rfl (AOp.bin (.int .i64 (i + 1)) rfl rfl rfl (iadd (by omega)) ?_)
          refine AOps.cons rfl rfl (AOp.assign (.int .i64 (i + 1)) rfl rfl ?_)
          refine AOps.nil ?_
          exact ⟨_, by omega, i + 1, rfl, rfl, (congrArg AV.str (show ((txt (((linesR s).1.take i.toNat).filter onL)) ++ ((lineTx ((at_ (linesR s).1 i).Words.take k.toNat)) ++ ⟨#[10]⟩) : ByteArray) = txt (((linesR s).1.take (i + 1).toNat).filter onL) from by (try rw [hkw]); first | exact (on_step hi0 (by omega) (onI1 (by assumption))).1 | exact (on_step hi0 (by omega) (onI2 (by assumption))).1 | exact (off_step hi0 (by omega) (onI0 (by assumption) (by assumption))).2)), (s48.trans (congrArg AV.str (show (txt (((linesR s).1.take i.toNat).filter offL) : ByteArray) = txt (((linesR s).1.take (i + 1).toNat).filter offL) from by (try rw [hkw]); first | exact (on_step hi0 (by omega) (onI1 (by assumption))).2 | exact (on_step hi0 (by omega) (onI2 (by assumption))).2 | exact (off_step hi0 (by omega) (onI0 (by assumption) (by assumption))).1))), s49, s50, s51, s52, s53, m54, by omega, by omega⟩
         ·
          refine AWP.condF rfl (decide_eq_false b57) ?_
          refine AWP.region (l := [0, 1, 2, 3, 4]) rfl ?_
          refine AOps.cons rfl rfl (AOp.move (.str (txt (((linesR s).1.take i.toNat).filter offL))) rfl s48 ?_)
          refine AOps.cons rfl rfl (AOp.move (.str (lineTx ((at_ (linesR s).1 i).Words.take k.toNat))) rfl s45 ?_)
          refine AOps.cons rfl rfl (AOp.sadd rfl rfl rfl (by omega) ?_)
          refine AOps.cons rfl rfl (AOp.sadd rfl rfl rfl (by omega) ?_)
          refine AOps.cons rfl rfl (AOp.assign (.str ((txt (((linesR s).1.take i.toNat).filter offL)) ++ ((lineTx ((at_ (linesR s).1 i).Words.take k.toNat)) ++ ⟨#[10]⟩))) rfl rfl ?_)
          refine AOps.nil ?_
          change AWP _ _ _ _ _ _
          refine AWP.region (l := [0, 1, 2]) rfl ?_
          refine AOps.cons rfl rfl (AOp.move (.int .i64 i) rfl s46 ?_)
          refine AOps.cons rfl rfl (AOp.bin (.int .i64 (i + 1)) rfl rfl rfl (iadd (by omega)) ?_)
          refine AOps.cons rfl rfl (AOp.assign (.int .i64 (i + 1)) rfl rfl ?_)
          refine AOps.nil ?_
          exact ⟨_, by omega, i + 1, rfl, rfl, (s47.trans (congrArg AV.str (show (txt (((linesR s).1.take i.toNat).filter onL) : ByteArray) = txt (((linesR s).1.take (i + 1).toNat).filter onL) from by (try rw [hkw]); first | exact (on_step hi0 (by omega) (onI1 (by assumption))).1 | exact (on_step hi0 (by omega) (onI2 (by assumption))).1 | exact (off_step hi0 (by omega) (onI0 (by assumption) (by assumption))).2))), (congrArg AV.str (show ((txt (((linesR s).1.take i.toNat).filter offL)) ++ ((lineTx ((at_ (linesR s).1 i).Words.take k.toNat)) ++ ⟨#[10]⟩) : ByteArray) = txt (((linesR s).1.take (i + 1).toNat).filter offL) from by (try rw [hkw]); first | exact (on_step hi0 (by omega) (onI1 (by assumption))).2 | exact (on_step hi0 (by omega) (onI2 (by assumption))).2 | exact (off_step hi0 (by omega) (onI0 (by assumption) (by assumption))).1)), s49, s50, s51, s52, s53, m54, by omega, by omega⟩
     ·
      refine AWP.condF rfl (decide_eq_false b40) ?_
      refine AWP.exit ?_
      change AWP _ _ _ _ _ _
      refine AWP.seq ?_
      have hti : (linesR s).1.take i.toNat = (linesR s).1 := List.take_of_length_le (by omega)
      have hz1 := txt_two (linesR s).1 i.toNat
      have hq1 := c_Parse (txt (((linesR s).1.take i.toNat).filter onL) ++ txt (((linesR s).1.take i.toNat).filter offL))
      have hq2 := c_Parse (txt (((linesR s).1.take i.toNat).filter offL) ++ txt (((linesR s).1.take i.toNat).filter onL))
      have he1 : parseR (txt (((linesR s).1.take i.toNat).filter onL) ++ txt (((linesR s).1.take i.toNat).filter offL)) = parseR s := by rw [hti]; exact hlw.1
      have he2 : parseR (txt (((linesR s).1.take i.toNat).filter offL) ++ txt (((linesR s).1.take i.toNat).filter onL)) = parseR s := by rw [hti]; exact hlw.2
      rw [he1] at hq1
      rw [he2] at hq2
      refine AWP.region (l := [0, 1, 2, 3, 4, 5, 6, 7, 8, 9, 10, 11]) rfl ?_
      refine AOps.cons rfl rfl (AOp.move (.str (txt (((linesR s).1.take i.toNat).filter onL))) rfl s32 ?_)
      refine AOps.cons rfl rfl (AOp.move (.str (txt (((linesR s).1.take i.toNat).filter offL))) rfl s33 ?_)
      refine AOps.cons rfl rfl (AOp.sadd rfl rfl rfl (by omega) ?_)
      refine AOps.cons rfl rfl (AOp.pcall («as» := [.str ((txt (((linesR s).1.take i.toNat).filter onL)) ++ (txt (((linesR s).1.take i.toNat).filter offL)))]) rfl rfl (rfl) tf_8 (hq1) ?_)
      intro H58 m59
      have m60 := m39.trans m59
      refine AOps.cons rfl rfl (AOp.move (.tup [.agg [.int .i64 (((((parseR s).1).Camera).Eye).X), .int .i64 (((((parseR s).1).Camera).Eye).Y), .int .i64 (((((parseR s).1).Camera).Eye).Z), .int .i64 (((((parseR s).1).Camera).First).X), .int .i64 (((((parseR s).1).Camera).First).Y), .int .i64 (((((parseR s).1).Camera).First).Z), .int .i64 (((((parseR s).1).Camera).Right).X), .int .i64 (((((parseR s).1).Camera).Right).Y), .int .i64 (((((parseR s).1).Camera).Right).Z), .int .i64 (((((parseR s).1).Camera).Down).X), .int .i64 (((((parseR s).1).Camera).Down).Y), .int .i64 (((((parseR s).1).Camera).Down).Z), .int .i64 ((((parseR s).1).Camera).W), .int .i64 ((((parseR s).1).Camera).H), .int .i64 ((((parseR s).1).Camera).Grid), .int .i64 ((((parseR s).1).Camera).Depth), .int .i64 ((((parseR s).1).Sky).R), .int .i64 ((((parseR s).1).Sky).G), .int .i64 ((((parseR s).1).Sky).B), .sl (((parseR s).1).Lights).length ((((parseR s).1).Lights).flatMap eLight), .sl (((parseR s).1).Mats).length ((((parseR s).1).Mats).flatMap eMat), .sl (((parseR s).1).Texs).length ((((parseR s).1).Texs).flatMap eTex), .sl (((parseR s).1).Skins).length ((((parseR s).1).Skins).flatMap eSkin), .sl (((parseR s).1).Cages).length ((((parseR s).1).Cages).flatMap eCage)], .int .i64 ((parseR s).2.1), .int .i64 ((parseR s).2.2)]) rfl rfl ?_)
      refine AOps.cons rfl rfl (AOp.extract (.agg [.int .i64 (((((parseR s).1).Camera).Eye).X), .int .i64 (((((parseR s).1).Camera).Eye).Y), .int .i64 (((((parseR s).1).Camera).Eye).Z), .int .i64 (((((parseR s).1).Camera).First).X), .int .i64 (((((parseR s).1).Camera).First).Y), .int .i64 (((((parseR s).1).Camera).First).Z), .int .i64 (((((parseR s).1).Camera).Right).X), .int .i64 (((((parseR s).1).Camera).Right).Y), .int .i64 (((((parseR s).1).Camera).Right).Z), .int .i64 (((((parseR s).1).Camera).Down).X), .int .i64 (((((parseR s).1).Camera).Down).Y), .int .i64 (((((parseR s).1).Camera).Down).Z), .int .i64 ((((parseR s).1).Camera).W), .int .i64 ((((parseR s).1).Camera).H), .int .i64 ((((parseR s).1).Camera).Grid), .int .i64 ((((parseR s).1).Camera).Depth), .int .i64 ((((parseR s).1).Sky).R), .int .i64 ((((parseR s).1).Sky).G), .int .i64 ((((parseR s).1).Sky).B), .sl (((parseR s).1).Lights).length ((((parseR s).1).Lights).flatMap eLight), .sl (((parseR s).1).Mats).length ((((parseR s).1).Mats).flatMap eMat), .sl (((parseR s).1).Texs).length ((((parseR s).1).Texs).flatMap eTex), .sl (((parseR s).1).Skins).length ((((parseR s).1).Skins).flatMap eSkin), .sl (((parseR s).1).Cages).length ((((parseR s).1).Cages).flatMap eCage)]) rfl rfl rfl ?_)
      refine AOps.cons rfl rfl (AOp.extract (.int .i64 ((parseR s).2.1)) rfl rfl rfl ?_)
      refine AOps.cons rfl rfl (AOp.extract (.int .i64 ((parseR s).2.2)) rfl rfl rfl ?_)
      refine AOps.cons rfl rfl (AOp.alloc rfl tz_35 ?_)
      intro i61 H62 n63 h64 k65
      have z66 := Mono.free m60 n63
      have m67 := Mono.new m60 n63 k65
      refine AOps.cons rfl rfl (AOp.store' (cells' := [.int .i64 (((((parseR s).1).Camera).Eye).X), .int .i64 (((((parseR s).1).Camera).Eye).Y), .int .i64 (((((parseR s).1).Camera).Eye).Z), .int .i64 (((((parseR s).1).Camera).First).X), .int .i64 (((((parseR s).1).Camera).First).Y), .int .i64 (((((parseR s).1).Camera).First).Z), .int .i64 (((((parseR s).1).Camera).Right).X), .int .i64 (((((parseR s).1).Camera).Right).Y), .int .i64 (((((parseR s).1).Camera).Right).Z), .int .i64 (((((parseR s).1).Camera).Down).X), .int .i64 (((((parseR s).1).Camera).Down).Y), .int .i64 (((((parseR s).1).Camera).Down).Z), .int .i64 ((((parseR s).1).Camera).W), .int .i64 ((((parseR s).1).Camera).H), .int .i64 ((((parseR s).1).Camera).Grid), .int .i64 ((((parseR s).1).Camera).Depth), .int .i64 ((((parseR s).1).Sky).R), .int .i64 ((((parseR s).1).Sky).G), .int .i64 ((((parseR s).1).Sky).B), .sl (((parseR s).1).Lights).length ((((parseR s).1).Lights).flatMap eLight), .sl (((parseR s).1).Mats).length ((((parseR s).1).Mats).flatMap eMat), .sl (((parseR s).1).Texs).length ((((parseR s).1).Texs).flatMap eTex), .sl (((parseR s).1).Skins).length ((((parseR s).1).Skins).flatMap eSkin), .sl (((parseR s).1).Cages).length ((((parseR s).1).Cages).flatMap eCage)]) (.agg [.int .i64 (((((parseR s).1).Camera).Eye).X), .int .i64 (((((parseR s).1).Camera).Eye).Y), .int .i64 (((((parseR s).1).Camera).Eye).Z), .int .i64 (((((parseR s).1).Camera).First).X), .int .i64 (((((parseR s).1).Camera).First).Y), .int .i64 (((((parseR s).1).Camera).First).Z), .int .i64 (((((parseR s).1).Camera).Right).X), .int .i64 (((((parseR s).1).Camera).Right).Y), .int .i64 (((((parseR s).1).Camera).Right).Z), .int .i64 (((((parseR s).1).Camera).Down).X), .int .i64 (((((parseR s).1).Camera).Down).Y), .int .i64 (((((parseR s).1).Camera).Down).Z), .int .i64 ((((parseR s).1).Camera).W), .int .i64 ((((parseR s).1).Camera).H), .int .i64 ((((parseR s).1).Camera).Grid), .int .i64 ((((parseR s).1).Camera).Depth), .int .i64 ((((parseR s).1).Sky).R), .int .i64 ((((parseR s).1).Sky).G), .int .i64 ((((parseR s).1).Sky).B), .sl (((parseR s).1).Lights).length ((((parseR s).1).Lights).flatMap eLight), .sl (((parseR s).1).Mats).length ((((parseR s).1).Mats).flatMap eMat), .sl (((parseR s).1).Texs).length ((((parseR s).1).Texs).flatMap eTex), .sl (((parseR s).1).Skins).length ((((parseR s).1).Skins).flatMap eSkin), .sl (((parseR s).1).Cages).length ((((parseR s).1).Cages).flatMap eCage)]) rfl rfl ts_35 h64 rfl rfl rfl rfl ?_)
      intro H68 h69 k70
      have m72 := Mono.set m67 z66 k70
      refine AOps.cons rfl rfl (AOp.assign (.int .i64 ((parseR s).2.1)) rfl rfl ?_)
      refine AOps.cons rfl rfl (AOp.assign (.int .i64 ((parseR s).2.2)) rfl rfl ?_)
      refine AOps.nil ?_
      change AWP _ _ _ _ _ _
      refine AWP.seq ?_
      refine AWP.frzP 14 h69 z66 rfl m72 fun H73 m74 k75 => ?_
      refine AWP.region (l := [0, 1, 2, 3, 4, 5, 6, 7, 8, 9, 10, 11]) rfl ?_
      refine AOps.cons rfl rfl (AOp.move (.str (txt (((linesR s).1.take i.toNat).filter offL))) rfl s33 ?_)
      refine AOps.cons rfl rfl (AOp.move (.str (txt (((linesR s).1.take i.toNat).filter onL))) rfl s32 ?_)
      refine AOps.cons rfl rfl (AOp.sadd rfl rfl rfl (by omega) ?_)
      refine AOps.cons rfl rfl (AOp.pcall («as» := [.str ((txt (((linesR s).1.take i.toNat).filter offL)) ++ (txt (((linesR s).1.take i.toNat).filter onL)))]) rfl rfl (rfl) tf_8 (hq2) ?_)
      intro H76 m77
      have m78 := m74.trans m77
      refine AOps.cons rfl rfl (AOp.move (.tup [.agg [.int .i64 (((((parseR s).1).Camera).Eye).X), .int .i64 (((((parseR s).1).Camera).Eye).Y), .int .i64 (((((parseR s).1).Camera).Eye).Z), .int .i64 (((((parseR s).1).Camera).First).X), .int .i64 (((((parseR s).1).Camera).First).Y), .int .i64 (((((parseR s).1).Camera).First).Z), .int .i64 (((((parseR s).1).Camera).Right).X), .int .i64 (((((parseR s).1).Camera).Right).Y), .int .i64 (((((parseR s).1).Camera).Right).Z), .int .i64 (((((parseR s).1).Camera).Down).X), .int .i64 (((((parseR s).1).Camera).Down).Y), .int .i64 (((((parseR s).1).Camera).Down).Z), .int .i64 ((((parseR s).1).Camera).W), .int .i64 ((((parseR s).1).Camera).H), .int .i64 ((((parseR s).1).Camera).Grid), .int .i64 ((((parseR s).1).Camera).Depth), .int .i64 ((((parseR s).1).Sky).R), .int .i64 ((((parseR s).1).Sky).G), .int .i64 ((((parseR s).1).Sky).B), .sl (((parseR s).1).Lights).length ((((parseR s).1).Lights).flatMap eLight), .sl (((parseR s).1).Mats).length ((((parseR s).1).Mats).flatMap eMat), .sl (((parseR s).1).Texs).length ((((parseR s).1).Texs).flatMap eTex), .sl (((parseR s).1).Skins).length ((((parseR s).1).Skins).flatMap eSkin), .sl (((parseR s).1).Cages).length ((((parseR s).1).Cages).flatMap eCage)], .int .i64 ((parseR s).2.1), .int .i64 ((parseR s).2.2)]) rfl rfl ?_)
      refine AOps.cons rfl rfl (AOp.extract (.agg [.int .i64 (((((parseR s).1).Camera).Eye).X), .int .i64 (((((parseR s).1).Camera).Eye).Y), .int .i64 (((((parseR s).1).Camera).Eye).Z), .int .i64 (((((parseR s).1).Camera).First).X), .int .i64 (((((parseR s).1).Camera).First).Y), .int .i64 (((((parseR s).1).Camera).First).Z), .int .i64 (((((parseR s).1).Camera).Right).X), .int .i64 (((((parseR s).1).Camera).Right).Y), .int .i64 (((((parseR s).1).Camera).Right).Z), .int .i64 (((((parseR s).1).Camera).Down).X), .int .i64 (((((parseR s).1).Camera).Down).Y), .int .i64 (((((parseR s).1).Camera).Down).Z), .int .i64 ((((parseR s).1).Camera).W), .int .i64 ((((parseR s).1).Camera).H), .int .i64 ((((parseR s).1).Camera).Grid), .int .i64 ((((parseR s).1).Camera).Depth), .int .i64 ((((parseR s).1).Sky).R), .int .i64 ((((parseR s).1).Sky).G), .int .i64 ((((parseR s).1).Sky).B), .sl (((parseR s).1).Lights).length ((((parseR s).1).Lights).flatMap eLight), .sl (((parseR s).1).Mats).length ((((parseR s).1).Mats).flatMap eMat), .sl (((parseR s).1).Texs).length ((((parseR s).1).Texs).flatMap eTex), .sl (((parseR s).1).Skins).length ((((parseR s).1).Skins).flatMap eSkin), .sl (((parseR s).1).Cages).length ((((parseR s).1).Cages).flatMap eCage)]) rfl rfl rfl ?_)
      refine AOps.cons rfl rfl (AOp.extract (.int .i64 ((parseR s).2.1)) rfl rfl rfl ?_)
      refine AOps.cons rfl rfl (AOp.extract (.int .i64 ((parseR s).2.2)) rfl rfl rfl ?_)
      refine AOps.cons rfl rfl (AOp.alloc rfl tz_35 ?_)
      intro i79 H80 n81 h82 k83
      have z84 := Mono.free m78 n81
      have m85 := Mono.new m78 n81 k83
      refine AOps.cons rfl rfl (AOp.store' (cells' := [.int .i64 (((((parseR s).1).Camera).Eye).X), .int .i64 (((((parseR s).1).Camera).Eye).Y), .int .i64 (((((parseR s).1).Camera).Eye).Z), .int .i64 (((((parseR s).1).Camera).First).X), .int .i64 (((((parseR s).1).Camera).First).Y), .int .i64 (((((parseR s).1).Camera).First).Z), .int .i64 (((((parseR s).1).Camera).Right).X), .int .i64 (((((parseR s).1).Camera).Right).Y), .int .i64 (((((parseR s).1).Camera).Right).Z), .int .i64 (((((parseR s).1).Camera).Down).X), .int .i64 (((((parseR s).1).Camera).Down).Y), .int .i64 (((((parseR s).1).Camera).Down).Z), .int .i64 ((((parseR s).1).Camera).W), .int .i64 ((((parseR s).1).Camera).H), .int .i64 ((((parseR s).1).Camera).Grid), .int .i64 ((((parseR s).1).Camera).Depth), .int .i64 ((((parseR s).1).Sky).R), .int .i64 ((((parseR s).1).Sky).G), .int .i64 ((((parseR s).1).Sky).B), .sl (((parseR s).1).Lights).length ((((parseR s).1).Lights).flatMap eLight), .sl (((parseR s).1).Mats).length ((((parseR s).1).Mats).flatMap eMat), .sl (((parseR s).1).Texs).length ((((parseR s).1).Texs).flatMap eTex), .sl (((parseR s).1).Skins).length ((((parseR s).1).Skins).flatMap eSkin), .sl (((parseR s).1).Cages).length ((((parseR s).1).Cages).flatMap eCage)]) (.agg [.int .i64 (((((parseR s).1).Camera).Eye).X), .int .i64 (((((parseR s).1).Camera).Eye).Y), .int .i64 (((((parseR s).1).Camera).Eye).Z), .int .i64 (((((parseR s).1).Camera).First).X), .int .i64 (((((parseR s).1).Camera).First).Y), .int .i64 (((((parseR s).1).Camera).First).Z), .int .i64 (((((parseR s).1).Camera).Right).X), .int .i64 (((((parseR s).1).Camera).Right).Y), .int .i64 (((((parseR s).1).Camera).Right).Z), .int .i64 (((((parseR s).1).Camera).Down).X), .int .i64 (((((parseR s).1).Camera).Down).Y), .int .i64 (((((parseR s).1).Camera).Down).Z), .int .i64 ((((parseR s).1).Camera).W), .int .i64 ((((parseR s).1).Camera).H), .int .i64 ((((parseR s).1).Camera).Grid), .int .i64 ((((parseR s).1).Camera).Depth), .int .i64 ((((parseR s).1).Sky).R), .int .i64 ((((parseR s).1).Sky).G), .int .i64 ((((parseR s).1).Sky).B), .sl (((parseR s).1).Lights).length ((((parseR s).1).Lights).flatMap eLight), .sl (((parseR s).1).Mats).length ((((parseR s).1).Mats).flatMap eMat), .sl (((parseR s).1).Texs).length ((((parseR s).1).Texs).flatMap eTex), .sl (((parseR s).1).Skins).length ((((parseR s).1).Skins).flatMap eSkin), .sl (((parseR s).1).Cages).length ((((parseR s).1).Cages).flatMap eCage)]) rfl rfl ts_35 h82 rfl rfl rfl rfl ?_)
      intro H86 h87 k88
      have m90 := Mono.set m85 z84 k88
      refine AOps.cons rfl rfl (AOp.assign (.int .i64 ((parseR s).2.1)) rfl rfl ?_)
      refine AOps.cons rfl rfl (AOp.assign (.int .i64 ((parseR s).2.2)) rfl rfl ?_)
      refine AOps.nil ?_
      change AWP _ _ _ _ _ _
      refine AWP.seq ?_
      refine AWP.frzP 16 h87 z84 rfl m90 fun H91 m92 k93 => ?_
      refine AWP.region (l := [0, 1, 2, 3, 4, 5, 6, 7, 8, 9, 10, 11, 12, 13, 14, 15, 16, 17, 18, 19, 20, 21, 22, 23, 24]) rfl ?_
      refine AOps.cons rfl rfl (AOp.move (.int .i64 ((parseR s).2.2)) rfl rfl ?_)
      refine AOps.cons rfl rfl (AOp.bin (.bool (decide ((parseR s).2.2 = 0))) rfl rfl rfl ieq ?_)
      refine AOps.cons rfl rfl (AOp.move (.bool (decide ((parseR s).2.2 = 0))) rfl rfl ?_)
      refine AOps.yes rfl rfl rfl rfl rfl rfl rfl (decide_eq_true b26) (AOp.move (.int .i64 ((parseR s).2.2)) rfl rfl ?_)
      refine AOps.yes rfl rfl rfl rfl rfl rfl rfl (decide_eq_true b26) (AOp.bin (.bool (decide ((parseR s).2.2 = 0))) rfl rfl rfl ieq ?_)
      refine AOps.cons rfl rfl (AOp.pickT (.bool (decide ((parseR s).2.2 = 0))) rfl rfl (decide_eq_true b26) rfl ?_)
      refine AOps.cons rfl rfl (AOp.move (.bool (decide ((parseR s).2.2 = 0))) rfl rfl ?_)
      refine AOps.yes rfl rfl rfl rfl rfl rfl rfl (decide_eq_true b26) (AOp.move (.int .i64 ((parseR s).2.1)) rfl rfl ?_)
      refine AOps.yes rfl rfl rfl rfl rfl rfl rfl (decide_eq_true b26) (AOp.bin (.bool (decide ((parseR s).2.1 = 0))) rfl rfl rfl ieq ?_)
      refine AOps.cons rfl rfl (AOp.pickT (.bool (decide ((parseR s).2.1 = 0))) rfl rfl (decide_eq_true b26) rfl ?_)
      refine AOps.cons rfl rfl (AOp.move (.bool (decide ((parseR s).2.1 = 0))) rfl rfl ?_)
      refine AOps.yes rfl rfl rfl rfl rfl rfl rfl (decide_eq_true (hn0)) (AOp.move (.int .i64 ((parseR s).2.1)) rfl rfl ?_)
      refine AOps.yes rfl rfl rfl rfl rfl rfl rfl (decide_eq_true (hn0)) (AOp.bin (.bool (decide ((parseR s).2.1 = 0))) rfl rfl rfl ieq ?_)
      refine AOps.cons rfl rfl (AOp.pickT (.bool (decide ((parseR s).2.1 = 0))) rfl rfl (decide_eq_true (hn0)) rfl ?_)
      refine AOps.cons rfl rfl (AOp.move (.bool (decide ((parseR s).2.1 = 0))) rfl rfl ?_)
      refine AOps.yes rfl rfl rfl rfl rfl rfl rfl (decide_eq_true (hn0)) (AOp.loadF (.agg [.int .i64 (((((parseR s).1).Camera).Eye).X), .int .i64 (((((parseR s).1).Camera).Eye).Y), .int .i64 (((((parseR s).1).Camera).Eye).Z), .int .i64 (((((parseR s).1).Camera).First).X), .int .i64 (((((parseR s).1).Camera).First).Y), .int .i64 (((((parseR s).1).Camera).First).Z), .int .i64 (((((parseR s).1).Camera).Right).X), .int .i64 (((((parseR s).1).Camera).Right).Y), .int .i64 (((((parseR s).1).Camera).Right).Z), .int .i64 (((((parseR s).1).Camera).Down).X), .int .i64 (((((parseR s).1).Camera).Down).Y), .int .i64 (((((parseR s).1).Camera).Down).Z), .int .i64 ((((parseR s).1).Camera).W), .int .i64 ((((parseR s).1).Camera).H), .int .i64 ((((parseR s).1).Camera).Grid), .int .i64 ((((parseR s).1).Camera).Depth), .int .i64 ((((parseR s).1).Sky).R), .int .i64 ((((parseR s).1).Sky).G), .int .i64 ((((parseR s).1).Sky).B), .sl (((parseR s).1).Lights).length ((((parseR s).1).Lights).flatMap eLight), .sl (((parseR s).1).Mats).length ((((parseR s).1).Mats).flatMap eMat), .sl (((parseR s).1).Texs).length ((((parseR s).1).Texs).flatMap eTex), .sl (((parseR s).1).Skins).length ((((parseR s).1).Skins).flatMap eSkin), .sl (((parseR s).1).Cages).length ((((parseR s).1).Cages).flatMap eCage)]) rfl s35 ty_35 rfl ?_)
      refine AOps.yes rfl rfl rfl rfl rfl rfl rfl (decide_eq_true (hn0)) (AOp.loadF (.agg [.int .i64 (((((parseR s).1).Camera).Eye).X), .int .i64 (((((parseR s).1).Camera).Eye).Y), .int .i64 (((((parseR s).1).Camera).Eye).Z), .int .i64 (((((parseR s).1).Camera).First).X), .int .i64 (((((parseR s).1).Camera).First).Y), .int .i64 (((((parseR s).1).Camera).First).Z), .int .i64 (((((parseR s).1).Camera).Right).X), .int .i64 (((((parseR s).1).Camera).Right).Y), .int .i64 (((((parseR s).1).Camera).Right).Z), .int .i64 (((((parseR s).1).Camera).Down).X), .int .i64 (((((parseR s).1).Camera).Down).Y), .int .i64 (((((parseR s).1).Camera).Down).Z), .int .i64 ((((parseR s).1).Camera).W), .int .i64 ((((parseR s).1).Camera).H), .int .i64 ((((parseR s).1).Camera).Grid), .int .i64 ((((parseR s).1).Camera).Depth), .int .i64 ((((parseR s).1).Sky).R), .int .i64 ((((parseR s).1).Sky).G), .int .i64 ((((parseR s).1).Sky).B), .sl (((parseR s).1).Lights).length ((((parseR s).1).Lights).flatMap eLight), .sl (((parseR s).1).Mats).length ((((parseR s).1).Mats).flatMap eMat), .sl (((parseR s).1).Texs).length ((((parseR s).1).Texs).flatMap eTex), .sl (((parseR s).1).Skins).length ((((parseR s).1).Skins).flatMap eSkin), .sl (((parseR s).1).Cages).length ((((parseR s).1).Cages).flatMap eCage)]) rfl rfl ty_35 rfl ?_)
      refine AOps.yes rfl rfl rfl rfl rfl rfl rfl (decide_eq_true (hn0)) (AOp.pcall («as» := [.agg [.int .i64 (((((parseR s).1).Camera).Eye).X), .int .i64 (((((parseR s).1).Camera).Eye).Y), .int .i64 (((((parseR s).1).Camera).Eye).Z), .int .i64 (((((parseR s).1).Camera).First).X), .int .i64 (((((parseR s).1).Camera).First).Y), .int .i64 (((((parseR s).1).Camera).First).Z), .int .i64 (((((parseR s).1).Camera).Right).X), .int .i64 (((((parseR s).1).Camera).Right).Y), .int .i64 (((((parseR s).1).Camera).Right).Z), .int .i64 (((((parseR s).1).Camera).Down).X), .int .i64 (((((parseR s).1).Camera).Down).Y), .int .i64 (((((parseR s).1).Camera).Down).Z), .int .i64 ((((parseR s).1).Camera).W), .int .i64 ((((parseR s).1).Camera).H), .int .i64 ((((parseR s).1).Camera).Grid), .int .i64 ((((parseR s).1).Camera).Depth), .int .i64 ((((parseR s).1).Sky).R), .int .i64 ((((parseR s).1).Sky).G), .int .i64 ((((parseR s).1).Sky).B), .sl (((parseR s).1).Lights).length ((((parseR s).1).Lights).flatMap eLight), .sl (((parseR s).1).Mats).length ((((parseR s).1).Mats).flatMap eMat), .sl (((parseR s).1).Texs).length ((((parseR s).1).Texs).flatMap eTex), .sl (((parseR s).1).Skins).length ((((parseR s).1).Skins).flatMap eSkin), .sl (((parseR s).1).Cages).length ((((parseR s).1).Cages).flatMap eCage)], .agg [.int .i64 (((((parseR s).1).Camera).Eye).X), .int .i64 (((((parseR s).1).Camera).Eye).Y), .int .i64 (((((parseR s).1).Camera).Eye).Z), .int .i64 (((((parseR s).1).Camera).First).X), .int .i64 (((((parseR s).1).Camera).First).Y), .int .i64 (((((parseR s).1).Camera).First).Z), .int .i64 (((((parseR s).1).Camera).Right).X), .int .i64 (((((parseR s).1).Camera).Right).Y), .int .i64 (((((parseR s).1).Camera).Right).Z), .int .i64 (((((parseR s).1).Camera).Down).X), .int .i64 (((((parseR s).1).Camera).Down).Y), .int .i64 (((((parseR s).1).Camera).Down).Z), .int .i64 ((((parseR s).1).Camera).W), .int .i64 ((((parseR s).1).Camera).H), .int .i64 ((((parseR s).1).Camera).Grid), .int .i64 ((((parseR s).1).Camera).Depth), .int .i64 ((((parseR s).1).Sky).R), .int .i64 ((((parseR s).1).Sky).G), .int .i64 ((((parseR s).1).Sky).B), .sl (((parseR s).1).Lights).length ((((parseR s).1).Lights).flatMap eLight), .sl (((parseR s).1).Mats).length ((((parseR s).1).Mats).flatMap eMat), .sl (((parseR s).1).Texs).length ((((parseR s).1).Texs).flatMap eTex), .sl (((parseR s).1).Skins).length ((((parseR s).1).Skins).flatMap eSkin), .sl (((parseR s).1).Cages).length ((((parseR s).1).Cages).flatMap eCage)]]) rfl rfl (rfl) tf_10 (c_Same ((parseR s).1) ((parseR s).1) (parse_ran _).1 (parse_ran _).1 (parse_ran _).2) ?_)
      intro H94 m95
      have m96 := m92.trans m95
      refine AOps.cons rfl rfl (AOp.pickT (.bool (decide (((parseR s).1) = ((parseR s).1)))) rfl rfl (decide_eq_true (hn0)) rfl ?_)
      refine AOps.cons rfl rfl (AOp.move (.bool (decide (((parseR s).1) = ((parseR s).1)))) rfl rfl ?_)
      refine AOps.yes rfl rfl rfl rfl rfl rfl rfl (decide_eq_true (rfl)) (AOp.loadF (.agg [.int .i64 (((((parseR s).1).Camera).Eye).X), .int .i64 (((((parseR s).1).Camera).Eye).Y), .int .i64 (((((parseR s).1).Camera).Eye).Z), .int .i64 (((((parseR s).1).Camera).First).X), .int .i64 (((((parseR s).1).Camera).First).Y), .int .i64 (((((parseR s).1).Camera).First).Z), .int .i64 (((((parseR s).1).Camera).Right).X), .int .i64 (((((parseR s).1).Camera).Right).Y), .int .i64 (((((parseR s).1).Camera).Right).Z), .int .i64 (((((parseR s).1).Camera).Down).X), .int .i64 (((((parseR s).1).Camera).Down).Y), .int .i64 (((((parseR s).1).Camera).Down).Z), .int .i64 ((((parseR s).1).Camera).W), .int .i64 ((((parseR s).1).Camera).H), .int .i64 ((((parseR s).1).Camera).Grid), .int .i64 ((((parseR s).1).Camera).Depth), .int .i64 ((((parseR s).1).Sky).R), .int .i64 ((((parseR s).1).Sky).G), .int .i64 ((((parseR s).1).Sky).B), .sl (((parseR s).1).Lights).length ((((parseR s).1).Lights).flatMap eLight), .sl (((parseR s).1).Mats).length ((((parseR s).1).Mats).flatMap eMat), .sl (((parseR s).1).Texs).length ((((parseR s).1).Texs).flatMap eTex), .sl (((parseR s).1).Skins).length ((((parseR s).1).Skins).flatMap eSkin), .sl (((parseR s).1).Cages).length ((((parseR s).1).Cages).flatMap eCage)]) rfl s35 ty_35 rfl ?_)
      refine AOps.yes rfl rfl rfl rfl rfl rfl rfl (decide_eq_true (rfl)) (AOp.loadF (.agg [.int .i64 (((((parseR s).1).Camera).Eye).X), .int .i64 (((((parseR s).1).Camera).Eye).Y), .int .i64 (((((parseR s).1).Camera).Eye).Z), .int .i64 (((((parseR s).1).Camera).First).X), .int .i64 (((((parseR s).1).Camera).First).Y), .int .i64 (((((parseR s).1).Camera).First).Z), .int .i64 (((((parseR s).1).Camera).Right).X), .int .i64 (((((parseR s).1).Camera).Right).Y), .int .i64 (((((parseR s).1).Camera).Right).Z), .int .i64 (((((parseR s).1).Camera).Down).X), .int .i64 (((((parseR s).1).Camera).Down).Y), .int .i64 (((((parseR s).1).Camera).Down).Z), .int .i64 ((((parseR s).1).Camera).W), .int .i64 ((((parseR s).1).Camera).H), .int .i64 ((((parseR s).1).Camera).Grid), .int .i64 ((((parseR s).1).Camera).Depth), .int .i64 ((((parseR s).1).Sky).R), .int .i64 ((((parseR s).1).Sky).G), .int .i64 ((((parseR s).1).Sky).B), .sl (((parseR s).1).Lights).length ((((parseR s).1).Lights).flatMap eLight), .sl (((parseR s).1).Mats).length ((((parseR s).1).Mats).flatMap eMat), .sl (((parseR s).1).Texs).length ((((parseR s).1).Texs).flatMap eTex), .sl (((parseR s).1).Skins).length ((((parseR s).1).Skins).flatMap eSkin), .sl (((parseR s).1).Cages).length ((((parseR s).1).Cages).flatMap eCage)]) rfl rfl ty_35 rfl ?_)
      refine AOps.yes rfl rfl rfl rfl rfl rfl rfl (decide_eq_true (rfl)) (AOp.pcall («as» := [.agg [.int .i64 (((((parseR s).1).Camera).Eye).X), .int .i64 (((((parseR s).1).Camera).Eye).Y), .int .i64 (((((parseR s).1).Camera).Eye).Z), .int .i64 (((((parseR s).1).Camera).First).X), .int .i64 (((((parseR s).1).Camera).First).Y), .int .i64 (((((parseR s).1).Camera).First).Z), .int .i64 (((((parseR s).1).Camera).Right).X), .int .i64 (((((parseR s).1).Camera).Right).Y), .int .i64 (((((parseR s).1).Camera).Right).Z), .int .i64 (((((parseR s).1).Camera).Down).X), .int .i64 (((((parseR s).1).Camera).Down).Y), .int .i64 (((((parseR s).1).Camera).Down).Z), .int .i64 ((((parseR s).1).Camera).W), .int .i64 ((((parseR s).1).Camera).H), .int .i64 ((((parseR s).1).Camera).Grid), .int .i64 ((((parseR s).1).Camera).Depth), .int .i64 ((((parseR s).1).Sky).R), .int .i64 ((((parseR s).1).Sky).G), .int .i64 ((((parseR s).1).Sky).B), .sl (((parseR s).1).Lights).length ((((parseR s).1).Lights).flatMap eLight), .sl (((parseR s).1).Mats).length ((((parseR s).1).Mats).flatMap eMat), .sl (((parseR s).1).Texs).length ((((parseR s).1).Texs).flatMap eTex), .sl (((parseR s).1).Skins).length ((((parseR s).1).Skins).flatMap eSkin), .sl (((parseR s).1).Cages).length ((((parseR s).1).Cages).flatMap eCage)], .agg [.int .i64 (((((parseR s).1).Camera).Eye).X), .int .i64 (((((parseR s).1).Camera).Eye).Y), .int .i64 (((((parseR s).1).Camera).Eye).Z), .int .i64 (((((parseR s).1).Camera).First).X), .int .i64 (((((parseR s).1).Camera).First).Y), .int .i64 (((((parseR s).1).Camera).First).Z), .int .i64 (((((parseR s).1).Camera).Right).X), .int .i64 (((((parseR s).1).Camera).Right).Y), .int .i64 (((((parseR s).1).Camera).Right).Z), .int .i64 (((((parseR s).1).Camera).Down).X), .int .i64 (((((parseR s).1).Camera).Down).Y), .int .i64 (((((parseR s).1).Camera).Down).Z), .int .i64 ((((parseR s).1).Camera).W), .int .i64 ((((parseR s).1).Camera).H), .int .i64 ((((parseR s).1).Camera).Grid), .int .i64 ((((parseR s).1).Camera).Depth), .int .i64 ((((parseR s).1).Sky).R), .int .i64 ((((parseR s).1).Sky).G), .int .i64 ((((parseR s).1).Sky).B), .sl (((parseR s).1).Lights).length ((((parseR s).1).Lights).flatMap eLight), .sl (((parseR s).1).Mats).length ((((parseR s).1).Mats).flatMap eMat), .sl (((parseR s).1).Texs).length ((((parseR s).1).Texs).flatMap eTex), .sl (((parseR s).1).Skins).length ((((parseR s).1).Skins).flatMap eSkin), .sl (((parseR s).1).Cages).length ((((parseR s).1).Cages).flatMap eCage)]]) rfl rfl (rfl) tf_10 (c_Same ((parseR s).1) ((parseR s).1) (parse_ran _).1 (parse_ran _).1 (parse_ran _).2) ?_)
      intro H97 m98
      have m99 := m96.trans m98
      refine AOps.cons rfl rfl (AOp.pickT (.bool (decide (((parseR s).1) = ((parseR s).1)))) rfl rfl (decide_eq_true (rfl)) rfl ?_)
      refine AOps.cons rfl rfl (AOp.assign (.bool (decide (((parseR s).1) = ((parseR s).1)))) rfl rfl ?_)
      refine AOps.nil ?_
      change AWP _ _ _ _ _ _
      refine AWP.ret ?_
      refine ⟨_, _, Ghost.refl, .inr rfl, _, Res.one rfl rfl, ?_, m99⟩
      exact (congrArg AV.bool (show (decide (((parseR s).1) = ((parseR s).1)) : Bool) = true from by first | rfl | exact decide_eq_true rfl | exact decide_eq_true (by omega) | (exfalso; omega)))
   ·
    refine AWP.condT rfl (nb (decide_eq_false b27)) ?_
    refine AWP.seq ?_
    refine AWP.region (l := [0]) rfl ?_
    refine AOps.cons rfl rfl (AOp.assign (.bool true) rfl rfl ?_)
    refine AOps.nil ?_
    change AWP _ _ _ _ _ _
    refine AWP.ret ?_
    refine ⟨_, _, Ghost.refl, .inr rfl, _, Res.one rfl rfl, ?_, m25⟩
    exact rfl
  ·
   refine AOps.no rfl rfl rfl rfl rfl rfl rfl (ble_of (nb (decide_eq_false b26)) (by decide)) ?_
   refine AOps.no rfl rfl rfl rfl rfl rfl rfl (ble_of (nb (decide_eq_false b26)) (by decide)) ?_
   refine AOps.cons rfl rfl (AOp.pickT (.bool true) rfl rfl (nb (decide_eq_false b26)) rfl ?_)
   refine AOps.nil ?_
   change AWP _ _ _ _ _ _
   refine AWP.condT rfl rfl ?_
   refine AWP.seq ?_
   refine AWP.region (l := [0]) rfl ?_
   refine AOps.cons rfl rfl (AOp.assign (.bool true) rfl rfl ?_)
   refine AOps.nil ?_
   change AWP _ _ _ _ _ _
   refine AWP.ret ?_
   refine ⟨_, _, Ghost.refl, .inr rfl, _, Res.one rfl rfl, ?_, m25⟩
   exact rfl
end Go.Proofs.S
