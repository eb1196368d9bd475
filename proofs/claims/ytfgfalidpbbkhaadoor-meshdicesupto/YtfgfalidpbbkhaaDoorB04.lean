/- A part of the proof that a law answers true for every input of its row: own work, by an AI agent. -/
import Derived.Test.YtfgfalidpbbkhaaDoorB03
import Derived.Test.YtfgfalidpbbkhaaDoorB01
set_option linter.unusedSimpArgs false
set_option linter.unusedVariables false
set_option linter.defProp false
namespace Go.Proofs.M
open Go Go.AH
set_option maxRecDepth 4000
set_option linter.unusedSimpArgs false
set_option linter.unusedVariables false
def R_mesh_fine (p : PatchT) (s : SkinT) : Int :=
  if s.Unit < 1 then 11 else (if s.Height < 0 then 11 else (if s.Height > 255 then 11 else (if allIn p.aP 60000 = true then (if allIn p.aNormals 1023 = true then 0 else 21) else 21)))
theorem fine_11 {p : PatchT} {s : SkinT} (h : s.Unit < 1 ∨ s.Height < 0 ∨ s.Height > 255) : R_mesh_fine p s = 11 := by
  unfold R_mesh_fine; (repeat' split) <;> first | rfl | omega
theorem fine_21 {p : PatchT} {s : SkinT} (h : ¬ (s.Unit < 1 ∨ s.Height < 0 ∨ s.Height > 255)) (g : allIn p.aP 60000 = false ∨ allIn p.aNormals 1023 = false) : R_mesh_fine p s = 21 := by
  unfold R_mesh_fine
  rw [if_neg (by omega), if_neg (by omega), if_neg (by omega)]
  rcases g with g | g
  · rw [if_neg (ff g)]
  · split
    · rw [if_neg (ff g)]
    · rfl
theorem fine_0 {p : PatchT} {s : SkinT} (h : ¬ (s.Unit < 1 ∨ s.Height < 0 ∨ s.Height > 255)) (g : allIn p.aP 60000 = true) (k : allIn p.aNormals 1023 = true) : R_mesh_fine p s = 0 := by
  unfold R_mesh_fine
  rw [if_neg (by omega), if_neg (by omega), if_neg (by omega), if_pos g, if_pos k]
theorem fine_ok {p : PatchT} {s : SkinT} (h : R_mesh_fine p s = 0) : 1 ≤ s.Unit ∧ 0 ≤ s.Height ∧ s.Height ≤ 255 ∧ allIn p.aP 60000 = true ∧ allIn p.aNormals 1023 = true := by
  unfold R_mesh_fine at h
  split at h
  · omega
  · split at h
    · omega
    · split at h
      · omega
      · split at h
        · rename_i a
          split at h
          · rename_i b; exact ⟨by omega, by omega, by omega, a, b⟩
          · omega
        · omega
def Tmesh_fine (r : Int) : AV := J r
theorem c_mesh_fine (p : PatchT) (s : SkinT) : PC Tryd.prog 23 [.agg (p.aP.flatMap eV ++ (p.aCorners.map eI ++ (p.aNormals.flatMap eV ++ [J p.Skin]))), .agg [.str s.Name, J s.Mat, J s.Levels, J s.Unit, J s.Tex, J s.Height]] (J (R_mesh_fine p s)) := by
 intro H0
 refine ACalls.of_body' (n := 33) rfl rfl rfl rfl ?_
 have m0 := Mono.refl H0
 refine Sr ?_
 refine C rfl (bx_ (.agg (p.aP.flatMap eV ++ (p.aCorners.map eI ++ (p.aNormals.flatMap eV ++ [J p.Skin])))) rfl rfl rfl ?_)
 intro i1 H2 n3 h4 k5
 have z6 := Mono.free m0 n3
 have m7 := Mono.new m0 n3 k5
 refine C rfl (bx_ (.agg [.str s.Name, J s.Mat, J s.Levels, J s.Unit, J s.Tex, J s.Height]) rfl rfl rfl ?_)
 intro i8 H9 n10 h11 k12
 have e13 := ne_new h4 n10
 have z14 := Mono.free m7 n10
 have h15 := keep k12 (ne_new h4 n10) h4
 have m16 := Mono.new m7 n10 k12
 refine A rfl rfl ?_
 refine AWP.seq ?_
 refine fz_ 2 h15 z6 rfl m16 fun H17 m18 k19 => ?_
 have h20 := (k19 _ (Ne.symm e13)).trans h11
 refine fz_ 3 h20 z14 rfl m18 fun H21 m22 k23 => ?_
 refine AWP.region rfl ?_
 refine A rfl rfl ?_
 refine AWP.seq ?_
 refine bk_ ?_
 refine Sr ?_
 refine F rfl rfl fl_30_3 (L rfl rfl ty_3 rfl (B rfl rfl rfl rfl (V rfl rfl ?_)))
 by_cases b24 : s.Unit < 1
 refine N rfl rfl (decide_eq_true b24) (N rfl rfl (decide_eq_true b24) (N rfl rfl (decide_eq_true b24) (C rfl (Pt _ rfl rfl (decide_eq_true b24) rfl (V rfl rfl (N rfl rfl rfl (N rfl rfl rfl (N rfl rfl rfl (C rfl (Pt _ rfl rfl rfl rfl (A rfl rfl ?_)))))))))))
 refine ct_ rfl rfl ?_
 refine Sr ?_
 refine A rfl rfl ?_
 refine rt_ ?_
 refine Rr (Res.one rfl rfl) ?_ m22
 have hR : R_mesh_fine p s = 11 := by unfold R_mesh_fine; rw [if_pos b24]
 exact (congrArg Tmesh_fine hR).symm
 refine Y rfl rfl rfl (decide_eq_false b24) (Ff rfl rfl fl_30_5 (Y rfl rfl rfl (decide_eq_false b24) (Lf _ rfl rfl ty_3 rfl (Y rfl rfl rfl (decide_eq_false b24) (Bi _ rfl rfl rfl rfl (C rfl (Pf _ rfl rfl (decide_eq_false b24) rfl (V rfl rfl ?_))))))))
 by_cases b25 : s.Height < 0
 refine N rfl rfl (decide_eq_true b25) (N rfl rfl (decide_eq_true b25) (N rfl rfl (decide_eq_true b25) (C rfl (Pt _ rfl rfl (decide_eq_true b25) rfl (A rfl rfl ?_)))))
 refine ct_ rfl rfl ?_
 refine Sr ?_
 refine A rfl rfl ?_
 refine rt_ ?_
 refine Rr (Res.one rfl rfl) ?_ m22
 have hR : R_mesh_fine p s = 11 := by unfold R_mesh_fine; rw [if_neg b24, if_pos b25]
 exact (congrArg Tmesh_fine hR).symm
 refine Y rfl rfl rfl (decide_eq_false b25) (Ff rfl rfl fl_30_5 (Y rfl rfl rfl (decide_eq_false b25) (Lf _ rfl rfl ty_3 rfl (Y rfl rfl rfl (decide_eq_false b25) (Bi _ rfl rfl rfl rfl (C rfl (Pf _ rfl rfl (decide_eq_false b25) rfl (A rfl rfl ?_))))))))
 refine AOps.nil ?_
 change AWP _ _ _ _ _ _
 by_cases b26 : s.Height > 255
 refine ct_ rfl (decide_eq_true b26) ?_
 refine Sr ?_
 refine A rfl rfl ?_
 refine rt_ ?_
 refine Rr (Res.one rfl rfl) ?_ m22
 have hR : R_mesh_fine p s = 11 := by unfold R_mesh_fine; rw [if_neg b24, if_neg b25, if_pos b26]
 exact (congrArg Tmesh_fine hR).symm
 refine cf_ rfl (decide_eq_false b26) ?_
 refine AWP.seq ?_
 refine AWP.region_quiet mixed (by kernel_rfl) 13 [] rfl (by kernel_rfl) (Mono H21) (Mono.refl _) ?_
 refine QF rfl rfl fl_28_0 (Q rfl (fun _ _ φ ψ => AOp.sliceAF rfl (φ 21 rfl) ar_24 p.lP (SubAt.fst SubAt.all) ⟨rfl, ψ⟩) (QV rfl rfl (Q rfl (fun _ _ φ ψ => Pc («as» := [J 60000]) rfl (φ 23 rfl) (rfl) tf_43 (c_far1 60000) fun H2 m2 => ⟨rfl, ψ.trans m2⟩) (Q rfl (fun _ _ φ ψ => Pc («as» := [.sl p.aP.length (p.aP.flatMap eV), .fn 44 [.fptr [J 60000] 0]]) rfl rfl (lapp (lcons (φ 22 rfl) (lcons (φ 24 rfl) rfl)) rfl) tf_45 (c_anyF p.aP (by first | (have := p.lP; omega) | simp) 60000 (by omega)) fun H2 m2 => ⟨rfl, ψ.trans m2⟩) (QV rfl rfl ?_)))))
 rcases Bool.eq_false_or_eq_true (allIn p.aP 60000) with b27 | b27
 refine QE.op rfl rfl (QOp.yes rfl rfl rfl rfl (nb b27) fun f' H' hf hM => Ff rfl ((hf 2 rfl).trans rfl) fl_28_2 ⟨rfl, hM⟩) ?_
 refine QE.op rfl rfl (QOp.yes rfl rfl rfl rfl (nb b27) fun f' H' hf hM => AOp.sliceAF rfl ((hf 27 rfl).trans rfl) ar_26 p.lNormals (SubAt.skip (off' := 4) (lenM eV_len p.lP rfl) (by omega) (SubAt.skip (off' := 0) (len1 p.lCorners) (by omega) (SubAt.fst SubAt.all))) ⟨rfl, hM⟩) ?_
 refine QE.op rfl rfl (QOp.yes rfl rfl rfl rfl (nb b27) fun f' H' hf hM => Mv _ rfl ((hf 5 rfl).trans rfl) ⟨rfl, hM⟩) ?_
 refine QE.op rfl rfl (QOp.yes rfl rfl rfl rfl (nb b27) fun f' H' hf hM => Pc («as» := [J 1023]) rfl ((hf 29 rfl).trans rfl) (rfl) tf_43 (c_far1 1023) fun H2 m2 => ⟨rfl, hM.trans m2⟩) ?_
 refine QE.op rfl rfl (QOp.yes rfl rfl rfl rfl (nb b27) fun f' H' hf hM => Pc («as» := [.sl p.aNormals.length (p.aNormals.flatMap eV), .fn 44 [.fptr [J 1023] 0]]) rfl rfl (lapp (lcons ((hf 28 rfl).trans rfl) (lcons ((hf 30 rfl).trans rfl) rfl)) rfl) tf_45 (c_anyF p.aNormals (by first | (have := p.lNormals; omega) | simp) 1023 (by omega)) fun H2 m2 => ⟨rfl, hM.trans m2⟩) ?_
 refine Q rfl (fun _ _ φ ψ => Pf _ rfl (φ 26 rfl) (nb b27) (φ 31 rfl) ⟨rfl, ψ⟩) (Q rfl (fun _ _ φ ψ => As _ rfl (φ 32 rfl) ⟨rfl, ψ⟩) ?_)
 refine QE.done fun H28 m29 => ?_
 have m30 := m22.trans m29
 refine AOps.nil ?_
 change AWP _ _ _ _ _ _
 rcases Bool.eq_false_or_eq_true (allIn p.aNormals 1023) with b31 | b31
 refine cf_ rfl (nb b31) ?_
 refine AWP.skip ?_
 refine Sr ?_
 refine A rfl rfl ?_
 refine rt_ ?_
 refine Rr (Res.one rfl rfl) ?_ m30
 have hR : R_mesh_fine p s = 0 := by unfold R_mesh_fine; rw [if_neg b24, if_neg b25, if_neg b26, if_pos b27, if_pos b31]
 exact (congrArg Tmesh_fine hR).symm
 refine ct_ rfl (nb b31) ?_
 refine Sr ?_
 refine A rfl rfl ?_
 refine rt_ ?_
 refine Rr (Res.one rfl rfl) ?_ m30
 have hR : R_mesh_fine p s = 21 := by unfold R_mesh_fine; rw [if_neg b24, if_neg b25, if_neg b26, if_pos b27, if_neg (ff b31)]
 exact (congrArg Tmesh_fine hR).symm
 refine QE.op rfl rfl (QOp.no rfl rfl rfl rfl (ble_of (nb b27) (by decide)) rfl) ?_
 refine QE.op rfl rfl (QOp.no rfl rfl rfl rfl (ble_of (nb b27) (by decide)) rfl) ?_
 refine QE.op rfl rfl (QOp.no rfl rfl rfl rfl (ble_of (nb b27) (by decide)) rfl) ?_
 refine QE.op rfl rfl (QOp.no rfl rfl rfl rfl (ble_of (nb b27) (by decide)) rfl) ?_
 refine QE.op rfl rfl (QOp.no rfl rfl rfl rfl (ble_of (nb b27) (by decide)) rfl) ?_
 refine Q rfl (fun _ _ φ ψ => Pt _ rfl (φ 26 rfl) (nb b27) rfl ⟨rfl, ψ⟩) (Q rfl (fun _ _ φ ψ => As _ rfl (φ 32 rfl) ⟨rfl, ψ⟩) ?_)
 refine QE.done fun H32 m33 => ?_
 have m34 := m22.trans m33
 refine ct_ rfl rfl ?_
 refine Sr ?_
 refine A rfl rfl ?_
 refine rt_ ?_
 refine Rr (Res.one rfl rfl) ?_ m34
 have hR : R_mesh_fine p s = 21 := by unfold R_mesh_fine; rw [if_neg b24, if_neg b25, if_neg b26, if_neg (ff b27)]
 exact (congrArg Tmesh_fine hR).symm
theorem c_ref15_fine (p : PatchT) (s : SkinT) : PC Tryd.prog 30 [.agg (p.aP.flatMap eV ++ (p.aCorners.map eI ++ (p.aNormals.flatMap eV ++ [J p.Skin]))), .agg [.str s.Name, J s.Mat, J s.Levels, J s.Unit, J s.Tex, J s.Height]] (J (R_mesh_fine p s)) := by
 intro H0
 refine ACalls.of_body' (n := 40) rfl rfl rfl rfl ?_
 have m0 := Mono.refl H0
 refine Sr ?_
 refine C rfl (bx_ (.agg (p.aP.flatMap eV ++ (p.aCorners.map eI ++ (p.aNormals.flatMap eV ++ [J p.Skin])))) rfl rfl rfl ?_)
 intro i1 H2 n3 h4 k5
 have z6 := Mono.free m0 n3
 have m7 := Mono.new m0 n3 k5
 refine C rfl (bx_ (.agg [.str s.Name, J s.Mat, J s.Levels, J s.Unit, J s.Tex, J s.Height]) rfl rfl rfl ?_)
 intro i8 H9 n10 h11 k12
 have e13 := ne_new h4 n10
 have z14 := Mono.free m7 n10
 have h15 := keep k12 (ne_new h4 n10) h4
 have m16 := Mono.new m7 n10 k12
 refine A rfl rfl ?_
 refine AWP.seq ?_
 refine AWP.seq ?_
 refine fz_ 2 h15 z6 rfl m16 fun H17 m18 k19 => ?_
 have h20 := (k19 _ (Ne.symm e13)).trans h11
 refine fz_ 3 h20 z14 rfl m18 fun H21 m22 k23 => ?_
 refine AWP.region rfl ?_
 refine F rfl rfl fl_30_3 (L rfl rfl ty_3 rfl (B rfl rfl rfl rfl (V rfl rfl ?_)))
 by_cases b24 : s.Unit < 1
 refine N rfl rfl (decide_eq_true b24) (N rfl rfl (decide_eq_true b24) (N rfl rfl (decide_eq_true b24) (C rfl (Pt _ rfl rfl (decide_eq_true b24) rfl (V rfl rfl (N rfl rfl rfl (N rfl rfl rfl (N rfl rfl rfl (C rfl (Pt _ rfl rfl rfl rfl ?_))))))))))
 refine ct_ rfl rfl ?_
 refine Sr ?_
 refine A rfl rfl ?_
 refine rt_ ?_
 refine Rr (Res.one rfl rfl) ?_ m22
 exact (congrArg (AV.int .i64) (show (11 : Int) = R_mesh_fine p s from by exact (fine_11 (by omega)).symm))
 refine Y rfl rfl rfl (decide_eq_false b24) (Ff rfl rfl fl_30_5 (Y rfl rfl rfl (decide_eq_false b24) (Lf _ rfl rfl ty_3 rfl (Y rfl rfl rfl (decide_eq_false b24) (Bi _ rfl rfl rfl rfl (C rfl (Pf _ rfl rfl (decide_eq_false b24) rfl (V rfl rfl ?_))))))))
 by_cases b25 : s.Height < 0
 refine N rfl rfl (decide_eq_true b25) (N rfl rfl (decide_eq_true b25) (N rfl rfl (decide_eq_true b25) (C rfl (Pt _ rfl rfl (decide_eq_true b25) rfl ?_))))
 refine ct_ rfl rfl ?_
 refine Sr ?_
 refine A rfl rfl ?_
 refine rt_ ?_
 refine Rr (Res.one rfl rfl) ?_ m22
 exact (congrArg (AV.int .i64) (show (11 : Int) = R_mesh_fine p s from by exact (fine_11 (by omega)).symm))
 refine Y rfl rfl rfl (decide_eq_false b25) (Ff rfl rfl fl_30_5 (Y rfl rfl rfl (decide_eq_false b25) (Lf _ rfl rfl ty_3 rfl (Y rfl rfl rfl (decide_eq_false b25) (Bi _ rfl rfl rfl rfl (C rfl (Pf _ rfl rfl (decide_eq_false b25) rfl ?_)))))))
 refine AOps.nil ?_
 change AWP _ _ _ _ _ _
 by_cases b26 : s.Height > 255
 refine ct_ rfl (decide_eq_true b26) ?_
 refine Sr ?_
 refine A rfl rfl ?_
 refine rt_ ?_
 refine Rr (Res.one rfl rfl) ?_ m22
 exact (congrArg (AV.int .i64) (show (11 : Int) = R_mesh_fine p s from by exact (fine_11 (by omega)).symm))
 refine cf_ rfl (decide_eq_false b26) ?_
 refine AWP.skip ?_
 refine AWP.seq ?_
 refine Sr ?_
 refine A rfl rfl ?_
 refine bk_ ?_
 refine AWP.loop (fun q27 fq Hq => ∃ (i : Int), q27 = ((16 : Int) - i).toNat ∧ fq 5 = J i ∧ fq 2 = .fptr ((p.aP.flatMap eV) ++ ((p.aCorners.map eI) ++ ((p.aNormals.flatMap eV) ++ ([J p.Skin] : List AV)))) 0 ∧ Mono H0 Hq ∧ (0 ≤ i) ∧ (i ≤ 16) ∧ (∀ j : Int, 0 ≤ j → j < i → inV 60000 (at_ p.aP j))) (k := ((16 : Int) - 0).toNat) ?_ ?_
 exact ⟨0, rfl, rfl, rfl, m22, by omega, by omega, by intro j; omega⟩
 rintro _ f29 H28 ⟨i, rfl, s30, s31, m32, hi0, hi1, preP⟩
 refine AWP.seq ?_
 refine Sr ?_
 refine V rfl s30 (B rfl rfl rfl rfl ?_)
 refine AOps.nil ?_
 change AWP _ _ _ _ _ _
 by_cases b33 : i < 16
 refine ct_ rfl (decide_eq_true b33) ?_
 refine AWP.skip ?_
 refine AWP.seq ?_
 refine bk_ ?_
 refine Sr ?_
 refine V rfl s30 (F rfl s31 fl_28_0 (C rfl (iF_ rfl rfl rfl ar_24 (by omega) (by omega) (L rfl rfl ty_23 (ld_off (o := 0 + i.toNat * 3) (by omega) (ld_fst (fun h => by first | rfl | cases h) (ldM eV_len (i := i) (by omega) (by first | (have := p.lP; omega) | (simp; omega))))) (C rfl (Pc («as» := [.agg [J ((at_ p.aP i).X), J ((at_ p.aP i).Y), J ((at_ p.aP i).Z)], J 60000]) rfl rfl (rfl) tf_60 (c_ref00_Within (at_ p.aP i) 60000 (by first | omega | assumption | (constructor <;> omega) | simp)) ?_))))))
 intro H34 m35
 have m36 := m32.trans m35
 refine C rfl (AOp.not rfl rfl ?_)
 refine AOps.nil ?_
 change AWP _ _ _ _ _ _
 rcases Bool.eq_false_or_eq_true (R_ref00_Within (at_ p.aP i) 60000) with b37 | b37
 have iv38 : inV 60000 (at_ p.aP i) := withinref00_in b37
 refine cf_ rfl (nb b37) ?_
 refine AWP.skip ?_
 refine AWP.region rfl ?_
 refine V rfl s30 (B rfl rfl rfl (iadd (by omega)) (A rfl rfl ?_))
 refine AOps.nil ?_
 exact ⟨_, by omega, i + 1, rfl, rfl, s31, m36, by omega, by omega, by exact fa_step preP iv38⟩
 refine ct_ rfl (nb b37) ?_
 refine Sr ?_
 refine A rfl rfl ?_
 refine rt_ ?_
 refine Rr (Res.one rfl rfl) ?_ m36
 exact (congrArg (AV.int .i64) (show (21 : Int) = R_mesh_fine p s from by exact (fine_21 (by omega) (.inl (allIn_F hi0 (by have := p.lP; omega) (by rw [← within_same]; exact b37)))).symm))
 refine cf_ rfl (decide_eq_false b33) ?_
 refine AWP.exit ?_
 change AWP _ _ _ _ _ _
 refine AWP.seq ?_
 refine Sr ?_
 refine A rfl rfl ?_
 refine bk_ ?_
 refine AWP.loop (fun q39 fq Hq => ∃ (j : Int), q39 = ((4 : Int) - j).toNat ∧ fq 6 = J j ∧ fq 2 = .fptr ((p.aP.flatMap eV) ++ ((p.aCorners.map eI) ++ ((p.aNormals.flatMap eV) ++ ([J p.Skin] : List AV)))) 0 ∧ Mono H0 Hq ∧ (0 ≤ j) ∧ (j ≤ 4) ∧ (∀ q : Int, 0 ≤ q → q < j → inV 1023 (at_ p.aNormals q))) (k := ((4 : Int) - 0).toNat) ?_ ?_
 exact ⟨0, rfl, rfl, s31, m32, by omega, by omega, by intro q; omega⟩
 rintro _ f41 H40 ⟨j, rfl, s42, s43, m44, hj0, hj1, preN⟩
 refine AWP.seq ?_
 refine Sr ?_
 refine V rfl s42 (B rfl rfl rfl rfl ?_)
 refine AOps.nil ?_
 change AWP _ _ _ _ _ _
 by_cases b45 : j < 4
 refine ct_ rfl (decide_eq_true b45) ?_
 refine AWP.skip ?_
 refine AWP.seq ?_
 refine bk_ ?_
 refine Sr ?_
 refine V rfl s42 (F rfl s43 fl_28_2 (C rfl (iF_ rfl rfl rfl ar_26 (by omega) (by omega) (L rfl rfl ty_23 (ld_skip (off' := 4 + ((j).toNat * 3)) (lenM eV_len p.lP rfl) (by omega) (ld_skip (off' := (j).toNat * 3) (len1 p.lCorners) (by omega) (ld_fst (fun h => by first | rfl | cases h) (ldM eV_len (i := j) (by omega) (by first | (have := p.lNormals; omega) | (simp; omega)))))) (C rfl (Pc («as» := [.agg [J ((at_ p.aNormals j).X), J ((at_ p.aNormals j).Y), J ((at_ p.aNormals j).Z)], J 1023]) rfl rfl (rfl) tf_60 (c_ref00_Within (at_ p.aNormals j) 1023 (by first | omega | assumption | (constructor <;> omega) | simp)) ?_))))))
 intro H46 m47
 have m48 := m44.trans m47
 refine C rfl (AOp.not rfl rfl ?_)
 refine AOps.nil ?_
 change AWP _ _ _ _ _ _
 rcases Bool.eq_false_or_eq_true (R_ref00_Within (at_ p.aNormals j) 1023) with b49 | b49
 have iv50 : inV 1023 (at_ p.aNormals j) := withinref00_in b49
 refine cf_ rfl (nb b49) ?_
 refine AWP.skip ?_
 refine AWP.region rfl ?_
 refine V rfl s42 (B rfl rfl rfl (iadd (by omega)) (A rfl rfl ?_))
 refine AOps.nil ?_
 exact ⟨_, by omega, j + 1, rfl, rfl, s43, m48, by omega, by omega, by exact fa_step preN iv50⟩
 refine ct_ rfl (nb b49) ?_
 refine Sr ?_
 refine A rfl rfl ?_
 refine rt_ ?_
 refine Rr (Res.one rfl rfl) ?_ m48
 exact (congrArg (AV.int .i64) (show (21 : Int) = R_mesh_fine p s from by exact (fine_21 (by omega) (.inr (allIn_F hj0 (by have := p.lNormals; omega) (by rw [← within_same]; exact b49)))).symm))
 refine cf_ rfl (decide_eq_false b45) ?_
 refine AWP.exit ?_
 change AWP _ _ _ _ _ _
 refine Sr ?_
 refine A rfl rfl ?_
 refine rt_ ?_
 refine Rr (Res.one rfl rfl) ?_ m44
 exact (congrArg (AV.int .i64) (show (0 : Int) = R_mesh_fine p s from by exact (fine_0 (by omega) (allIn_T.2 fun q h0 h1 => preP q h0 (by have := p.lP; omega)) (allIn_T.2 fun q h0 h1 => preN q h0 (by have := p.lNormals; omega))).symm))
def R_mesh_Bounds (p : PatchT) (s : SkinT) : BoxT × Int :=
  if R_mesh_fine p s = 0 then ((BoxT.mk (R_vec_Sub (((boundR p.aP).1).Lo) (VT.mk (s.Height + 2) (s.Height + 2) (s.Height + 2))) (R_vec_Add (((boundR p.aP).1).Hi) (VT.mk (s.Height + 2) (s.Height + 2) (s.Height + 2)))), 0) else ((BoxT.mk (VT.mk 0 0 0) (VT.mk 0 0 0)), R_mesh_fine p s)
abbrev Zmesh_Bounds_0 (s : SkinT) := VT.mk (s.Height + 2) (s.Height + 2) (s.Height + 2)
abbrev Zmesh_Bounds_1 (p : PatchT) (s : SkinT) := R_vec_Sub (((boundR p.aP).1).Lo) (Zmesh_Bounds_0 s)
abbrev Zmesh_Bounds_2 (p : PatchT) (s : SkinT) := R_vec_Add (((boundR p.aP).1).Hi) (Zmesh_Bounds_0 s)
def Tmesh_Bounds (r : BoxT × Int) : AV := .tup [.agg [J r.1.Lo.X, J r.1.Lo.Y, J r.1.Lo.Z, J r.1.Hi.X, J r.1.Hi.Y, J r.1.Hi.Z], J r.2]
theorem c_mesh_Bounds (p : PatchT) (s : SkinT) : PC Tryd.prog 13 [.agg (p.aP.flatMap eV ++ (p.aCorners.map eI ++ (p.aNormals.flatMap eV ++ [J p.Skin]))), .agg [.str s.Name, J s.Mat, J s.Levels, J s.Unit, J s.Tex, J s.Height]] (.tup [.agg [J ((((R_mesh_Bounds p s).1).Lo).X), J ((((R_mesh_Bounds p s).1).Lo).Y), J ((((R_mesh_Bounds p s).1).Lo).Z), J ((((R_mesh_Bounds p s).1).Hi).X), J ((((R_mesh_Bounds p s).1).Hi).Y), J ((((R_mesh_Bounds p s).1).Hi).Z)], J ((R_mesh_Bounds p s).2)]) := by
 intro H0
 refine ACalls.of_body' (n := 40) rfl rfl rfl rfl ?_
 have m0 := Mono.refl H0
 refine Sr ?_
 refine C rfl (bx_ (.agg (p.aP.flatMap eV ++ (p.aCorners.map eI ++ (p.aNormals.flatMap eV ++ [J p.Skin])))) rfl rfl rfl ?_)
 intro i1 H2 n3 h4 k5
 have z6 := Mono.free m0 n3
 have m7 := Mono.new m0 n3 k5
 refine C rfl (bx_ (.agg [.str s.Name, J s.Mat, J s.Levels, J s.Unit, J s.Tex, J s.Height]) rfl rfl rfl ?_)
 intro i8 H9 n10 h11 k12
 have e13 := ne_new h4 n10
 have z14 := Mono.free m7 n10
 have h15 := keep k12 (ne_new h4 n10) h4
 have m16 := Mono.new m7 n10 k12
 refine C rfl (al_ rfl tz_43 ?_)
 intro i17 H18 n19 h20 k21
 have e22 := ne_new h15 n19
 have e23 := ne_new h11 n19
 have z24 := Mono.free m16 n19
 have h25 := keep k21 (ne_new h15 n19) h15
 have h26 := keep k21 (ne_new h11 n19) h11
 have m27 := Mono.new m16 n19 k21
 refine A rfl rfl ?_
 refine AWP.seq ?_
 refine AWP.seq ?_
 refine fz_ 2 h25 z6 rfl m27 fun H28 m29 k30 => ?_
 have h31 := (k30 _ (Ne.symm e13)).trans h26
 have h32 := (k30 _ (Ne.symm e22)).trans h20
 refine fz_ 3 h31 z14 rfl m29 fun H33 m34 k35 => ?_
 have h36 := (k35 _ (Ne.symm e23)).trans h32
 refine AWP.region rfl ?_
 refine L rfl rfl ty_28 (ld_all (len_app (m := 48) (n := 17) (k := 65) (lenM eV_len p.lP rfl) (len_app (m := 4) (n := 13) (k := 17) (len1 p.lCorners) (len_app (m := 12) (n := 1) (k := 13) (lenM eV_len p.lNormals rfl) rfl rfl) rfl) rfl)) (L rfl rfl ty_30 rfl (C rfl (Pc («as» := [.agg (p.aP.flatMap eV ++ (p.aCorners.map eI ++ (p.aNormals.flatMap eV ++ [J p.Skin]))), .agg [.str s.Name, J s.Mat, J s.Levels, J s.Unit, J s.Tex, J s.Height]]) rfl rfl (rfl) tf_23 (c_mesh_fine p s) ?_)))
 intro H37 m38
 have h39 := m38 _ _ h36
 have m40 := m34.trans m38
 refine A rfl rfl ?_
 refine Sr ?_
 refine V rfl rfl (B rfl rfl rfl ine ?_)
 refine AOps.nil ?_
 change AWP _ _ _ _ _ _
 by_cases b41 : R_mesh_fine p s = 0
 refine cf_ rfl (nb (decide_eq_true b41)) ?_
 refine AWP.skip ?_
 refine AWP.seq ?_
 have hl := p.lP
 refine AWP.region rfl ?_
 refine F rfl rfl fl_28_0 (C rfl (AOp.sliceAF rfl rfl ar_24 p.lP (SubAt.fst SubAt.all) (C rfl (Pc («as» := [.sl p.aP.length (p.aP.flatMap eV)]) rfl rfl (rfl) tf_36 (c_vec_Bound p.aP (by first | (have := p.lP; omega) | simp)) ?_))))
 intro H42 m43
 have h44 := m43 _ _ h39
 have m45 := m40.trans m43
 refine V rfl rfl (E rfl rfl rfl (E rfl rfl rfl (C rfl (al_ rfl tz_43 ?_))))
 intro i46 H47 n48 h49 k50
 have e51 := ne_new h44 n48
 have z52 := Mono.free m45 n48
 have h53 := keep k50 (ne_new h44 n48) h44
 have m54 := Mono.new m45 n48 k50
 refine C rfl (Sw rfl rfl ts_43 h49 rfl rfl rfl ?_)
 intro H55 h56 k57
 have h58 := keep k57 e51 h53
 have m60 := Mono.set m54 z52 k57
 refine A rfl rfl ?_
 refine AWP.seq ?_
 refine fz_ 7 h56 z52 rfl m60 fun H61 m62 k63 => ?_
 have h64 := (k63 _ e51).trans h58
 have hf := fine_ok (by omega : R_mesh_fine p s = 0)
 refine AWP.region rfl ?_
 refine F rfl rfl fl_30_5 (L rfl rfl ty_3 rfl (B rfl rfl rfl (iadd (by omega)) (A rfl rfl ?_)))
 refine Sr ?_
 refine V rfl rfl (V rfl rfl (V rfl rfl (C rfl (Bl (cells := [J (s.Height + 2), J (s.Height + 2), J (s.Height + 2)]) rfl tz_23 pl_23 rfl rfl (C rfl (al_ rfl tz_23 ?_))))))
 intro i65 H66 n67 h68 k69
 have e70 := ne_new h64 n67
 have z71 := Mono.free m62 n67
 have h72 := keep k69 (ne_new h64 n67) h64
 have m73 := Mono.new m62 n67 k69
 refine C rfl (Sw rfl rfl ts_23 h68 rfl rfl rfl ?_)
 intro H74 h75 k76
 have h77 := keep k76 e70 h72
 have m79 := Mono.set m73 z71 k76
 refine AWP.seq ?_
 refine fz_ 10 h75 z71 rfl m79 fun H80 m81 k82 => ?_
 have h83 := (k82 _ e70).trans h77
 have hbi := bound_in (fun i h0 h1 => inV_le (allIn_T.1 hf.2.2.2.1 i h0 h1) (show (60000 : Int) ≤ 60000 by decide)) (by have := p.lP; omega)
 have hin : inV 257 (Zmesh_Bounds_0 s) := ⟨by simp only; omega, by simp only; omega, by simp only; omega, by simp only; omega, by simp only; omega, by simp only; omega⟩
 refine AWP.region_quiet mixed (by kernel_rfl) 9 [9, 10] rfl (by kernel_rfl) (Mono H80) (Mono.refl _) ?_
 refine QF rfl rfl fl_43_0 (QL rfl rfl ty_23 rfl (QL rfl rfl ty_23 rfl (Q rfl (fun _ _ φ ψ => Pc («as» := [.agg [J ((((boundR p.aP).1).Lo).X), J ((((boundR p.aP).1).Lo).Y), J ((((boundR p.aP).1).Lo).Z)], .agg [J (s.Height + 2), J (s.Height + 2), J (s.Height + 2)]]) rfl rfl (lapp (lcons (φ 32 rfl) (lcons (φ 33 rfl) rfl)) rfl) tf_37 (c_vec_Sub (((boundR p.aP).1).Lo) (Zmesh_Bounds_0 s) (inV_le hbi.1 (by decide)) (inV_le hin (by decide))) fun H2 m2 => ⟨rfl, ψ.trans m2⟩) (QF rfl rfl fl_43_1 (QL rfl rfl ty_23 rfl (QL rfl rfl ty_23 rfl (Q rfl (fun _ _ φ ψ => Pc («as» := [.agg [J ((((boundR p.aP).1).Hi).X), J ((((boundR p.aP).1).Hi).Y), J ((((boundR p.aP).1).Hi).Z)], .agg [J (s.Height + 2), J (s.Height + 2), J (s.Height + 2)]]) rfl rfl (lapp (lcons (φ 36 rfl) (lcons (φ 37 rfl) rfl)) rfl) tf_38 (c_vec_Add (((boundR p.aP).1).Hi) (Zmesh_Bounds_0 s) (inV_le hbi.2 (by decide)) (inV_le hin (by decide))) fun H2 m2 => ⟨rfl, ψ.trans m2⟩) (Q rfl (fun _ _ φ ψ => Bl (cells := [J ((Zmesh_Bounds_1 p s).X), J ((Zmesh_Bounds_1 p s).Y), J ((Zmesh_Bounds_1 p s).Z), J ((Zmesh_Bounds_2 p s).X), J ((Zmesh_Bounds_2 p s).Y), J ((Zmesh_Bounds_2 p s).Z)]) rfl tz_43 pl_43 (lconsP (φ 34 rfl) (lconsP (φ 38 rfl) rfl)) rfl ⟨rfl, ψ⟩) ?_))))))))
 refine QE.done fun H84 m85 => ?_
 have h86 := m85 _ _ h83
 have m87 := m81.trans m85
 refine C rfl (Sw rfl rfl ts_43 h86 rfl rfl rfl ?_)
 intro H88 h89 k90
 have m92 := Mono.set m87 z24 k90
 refine A rfl rfl ?_
 refine rt_ ?_
 refine Rr (Res.list rfl rfl (.cell (v := .agg [J ((Zmesh_Bounds_1 p s).X), J ((Zmesh_Bounds_1 p s).Y), J ((Zmesh_Bounds_1 p s).Z), J ((Zmesh_Bounds_2 p s).X), J ((Zmesh_Bounds_2 p s).Y), J ((Zmesh_Bounds_2 p s).Z)]) rfl ty_43 h89 rfl (.tmp rfl (.nil)))) ?_ m92
 have hR : R_mesh_Bounds p s = ((BoxT.mk (Zmesh_Bounds_1 p s) (Zmesh_Bounds_2 p s)), 0) := by unfold R_mesh_Bounds; rw [if_pos b41]
 exact (congrArg Tmesh_Bounds hR).symm
 refine ct_ rfl (nb (decide_eq_false b41)) ?_
 refine Sr ?_
 refine C rfl (Bl (cells := [J 0, J 0, J 0, J 0, J 0, J 0]) rfl tz_43 pl_43 rfl rfl (V rfl rfl (C rfl (Sw rfl rfl ts_43 h39 rfl rfl rfl ?_))))
 intro H93 h94 k95
 have m97 := Mono.set m40 z24 k95
 refine A rfl rfl ?_
 refine rt_ ?_
 refine Rr (Res.list rfl rfl (.cell (v := .agg [J 0, J 0, J 0, J 0, J 0, J 0]) rfl ty_43 h94 rfl (.tmp rfl (.nil)))) ?_ m97
 have hR : R_mesh_Bounds p s = ((BoxT.mk (VT.mk 0 0 0) (VT.mk 0 0 0)), R_mesh_fine p s) := by unfold R_mesh_Bounds; rw [if_neg b41]
 exact (congrArg Tmesh_Bounds hR).symm
def R_ref15_Bounds (p : PatchT) (s : SkinT) : BoxT × Int :=
  if R_mesh_fine p s = 0 then ((BoxT.mk (R_ref02_Sub (((boundR p.aP).1).Lo) (VT.mk (s.Height + 2) (s.Height + 2) (s.Height + 2))) (R_ref02_Add (((boundR p.aP).1).Hi) (VT.mk (s.Height + 2) (s.Height + 2) (s.Height + 2)))), 0) else ((BoxT.mk (VT.mk 0 0 0) (VT.mk 0 0 0)), R_mesh_fine p s)
abbrev Zref15_Bounds_0 (s : SkinT) := VT.mk (s.Height + 2) (s.Height + 2) (s.Height + 2)
abbrev Zref15_Bounds_1 (p : PatchT) (s : SkinT) := R_ref02_Sub (((boundR p.aP).1).Lo) (Zref15_Bounds_0 s)
abbrev Zref15_Bounds_2 (p : PatchT) (s : SkinT) := R_ref02_Add (((boundR p.aP).1).Hi) (Zref15_Bounds_0 s)
def Tref15_Bounds (r : BoxT × Int) : AV := .tup [.agg [J r.1.Lo.X, J r.1.Lo.Y, J r.1.Lo.Z, J r.1.Hi.X, J r.1.Hi.Y, J r.1.Hi.Z], J r.2]
theorem c_ref15_Bounds (p : PatchT) (s : SkinT) : PC Tryd.prog 14 [.agg (p.aP.flatMap eV ++ (p.aCorners.map eI ++ (p.aNormals.flatMap eV ++ [J p.Skin]))), .agg [.str s.Name, J s.Mat, J s.Levels, J s.Unit, J s.Tex, J s.Height]] (.tup [.agg [J ((((R_ref15_Bounds p s).1).Lo).X), J ((((R_ref15_Bounds p s).1).Lo).Y), J ((((R_ref15_Bounds p s).1).Lo).Z), J ((((R_ref15_Bounds p s).1).Hi).X), J ((((R_ref15_Bounds p s).1).Hi).Y), J ((((R_ref15_Bounds p s).1).Hi).Z)], J ((R_ref15_Bounds p s).2)]) := by
 intro H0
 refine ACalls.of_body' (n := 40) rfl rfl rfl rfl ?_
 have m0 := Mono.refl H0
 refine Sr ?_
 refine C rfl (bx_ (.agg (p.aP.flatMap eV ++ (p.aCorners.map eI ++ (p.aNormals.flatMap eV ++ [J p.Skin])))) rfl rfl rfl ?_)
 intro i1 H2 n3 h4 k5
 have z6 := Mono.free m0 n3
 have m7 := Mono.new m0 n3 k5
 refine C rfl (bx_ (.agg [.str s.Name, J s.Mat, J s.Levels, J s.Unit, J s.Tex, J s.Height]) rfl rfl rfl ?_)
 intro i8 H9 n10 h11 k12
 have e13 := ne_new h4 n10
 have z14 := Mono.free m7 n10
 have h15 := keep k12 (ne_new h4 n10) h4
 have m16 := Mono.new m7 n10 k12
 refine C rfl (al_ rfl tz_43 ?_)
 intro i17 H18 n19 h20 k21
 have e22 := ne_new h15 n19
 have e23 := ne_new h11 n19
 have z24 := Mono.free m16 n19
 have h25 := keep k21 (ne_new h15 n19) h15
 have h26 := keep k21 (ne_new h11 n19) h11
 have m27 := Mono.new m16 n19 k21
 refine A rfl rfl ?_
 refine AWP.seq ?_
 refine fz_ 2 h25 z6 rfl m27 fun H28 m29 k30 => ?_
 have h31 := (k30 _ (Ne.symm e13)).trans h26
 have h32 := (k30 _ (Ne.symm e22)).trans h20
 refine fz_ 3 h31 z14 rfl m29 fun H33 m34 k35 => ?_
 have h36 := (k35 _ (Ne.symm e23)).trans h32
 refine AWP.region rfl ?_
 refine L rfl rfl ty_28 (ld_all (len_app (m := 48) (n := 17) (k := 65) (lenM eV_len p.lP rfl) (len_app (m := 4) (n := 13) (k := 17) (len1 p.lCorners) (len_app (m := 12) (n := 1) (k := 13) (lenM eV_len p.lNormals rfl) rfl rfl) rfl) rfl)) (L rfl rfl ty_30 rfl (C rfl (Pc («as» := [.agg (p.aP.flatMap eV ++ (p.aCorners.map eI ++ (p.aNormals.flatMap eV ++ [J p.Skin]))), .agg [.str s.Name, J s.Mat, J s.Levels, J s.Unit, J s.Tex, J s.Height]]) rfl rfl (rfl) tf_30 (c_ref15_fine p s) ?_)))
 intro H37 m38
 have h39 := m38 _ _ h36
 have m40 := m34.trans m38
 refine A rfl rfl ?_
 refine AWP.seq ?_
 refine Sr ?_
 refine V rfl rfl (B rfl rfl rfl ine ?_)
 refine AOps.nil ?_
 change AWP _ _ _ _ _ _
 by_cases b41 : R_mesh_fine p s = 0
 refine cf_ rfl (nb (decide_eq_true b41)) ?_
 refine AWP.skip ?_
 refine AWP.seq ?_
 have hl := p.lP
 refine AWP.region rfl ?_
 refine F rfl rfl fl_28_0 (C rfl (AOp.sliceAF rfl rfl ar_24 p.lP (SubAt.fst SubAt.all) (C rfl (Pc («as» := [.sl p.aP.length (p.aP.flatMap eV)]) rfl rfl (rfl) tf_39 (c_ref02_Bound p.aP (by first | (have := p.lP; omega) | simp)) ?_))))
 intro H42 m43
 have h44 := m43 _ _ h39
 have m45 := m40.trans m43
 refine V rfl rfl (E rfl rfl rfl (E rfl rfl rfl (C rfl (al_ rfl tz_43 ?_))))
 intro i46 H47 n48 h49 k50
 have e51 := ne_new h44 n48
 have z52 := Mono.free m45 n48
 have h53 := keep k50 (ne_new h44 n48) h44
 have m54 := Mono.new m45 n48 k50
 refine C rfl (Sw rfl rfl ts_43 h49 rfl rfl rfl ?_)
 intro H55 h56 k57
 have h58 := keep k57 e51 h53
 have m60 := Mono.set m54 z52 k57
 refine A rfl rfl ?_
 refine AWP.seq ?_
 refine fz_ 7 h56 z52 rfl m60 fun H61 m62 k63 => ?_
 have h64 := (k63 _ e51).trans h58
 have hf := fine_ok (by omega : R_mesh_fine p s = 0)
 refine AWP.region rfl ?_
 refine F rfl rfl fl_30_5 (L rfl rfl ty_3 rfl (B rfl rfl rfl (iadd (by omega)) (A rfl rfl ?_)))
 refine Sr ?_
 refine V rfl rfl (V rfl rfl (V rfl rfl (C rfl (Bl (cells := [J (s.Height + 2), J (s.Height + 2), J (s.Height + 2)]) rfl tz_23 pl_23 rfl rfl (C rfl (al_ rfl tz_23 ?_))))))
 intro i65 H66 n67 h68 k69
 have e70 := ne_new h64 n67
 have z71 := Mono.free m62 n67
 have h72 := keep k69 (ne_new h64 n67) h64
 have m73 := Mono.new m62 n67 k69
 refine C rfl (Sw rfl rfl ts_23 h68 rfl rfl rfl ?_)
 intro H74 h75 k76
 have h77 := keep k76 e70 h72
 have m79 := Mono.set m73 z71 k76
 refine AWP.seq ?_
 refine fz_ 10 h75 z71 rfl m79 fun H80 m81 k82 => ?_
 have h83 := (k82 _ e70).trans h77
 have hbi := bound_in (fun i h0 h1 => inV_le (allIn_T.1 hf.2.2.2.1 i h0 h1) (show (60000 : Int) ≤ 60000 by decide)) (by have := p.lP; omega)
 have hin : inV 257 (Zref15_Bounds_0 s) := ⟨by simp only; omega, by simp only; omega, by simp only; omega, by simp only; omega, by simp only; omega, by simp only; omega⟩
 refine AWP.region_quiet mixed (by kernel_rfl) 9 [9, 10] rfl (by kernel_rfl) (Mono H80) (Mono.refl _) ?_
 refine QF rfl rfl fl_43_0 (QL rfl rfl ty_23 rfl (QL rfl rfl ty_23 rfl (Q rfl (fun _ _ φ ψ => Pc («as» := [.agg [J ((((boundR p.aP).1).Lo).X), J ((((boundR p.aP).1).Lo).Y), J ((((boundR p.aP).1).Lo).Z)], .agg [J (s.Height + 2), J (s.Height + 2), J (s.Height + 2)]]) rfl rfl (lapp (lcons (φ 32 rfl) (lcons (φ 33 rfl) rfl)) rfl) tf_19 (c_ref02_Sub (((boundR p.aP).1).Lo) (Zref15_Bounds_0 s) (inV_le hbi.1 (by decide)) (inV_le hin (by decide))) fun H2 m2 => ⟨rfl, ψ.trans m2⟩) (QF rfl rfl fl_43_1 (QL rfl rfl ty_23 rfl (QL rfl rfl ty_23 rfl (Q rfl (fun _ _ φ ψ => Pc («as» := [.agg [J ((((boundR p.aP).1).Hi).X), J ((((boundR p.aP).1).Hi).Y), J ((((boundR p.aP).1).Hi).Z)], .agg [J (s.Height + 2), J (s.Height + 2), J (s.Height + 2)]]) rfl rfl (lapp (lcons (φ 36 rfl) (lcons (φ 37 rfl) rfl)) rfl) tf_20 (c_ref02_Add (((boundR p.aP).1).Hi) (Zref15_Bounds_0 s) (inV_le hbi.2 (by decide)) (inV_le hin (by decide))) fun H2 m2 => ⟨rfl, ψ.trans m2⟩) (Q rfl (fun _ _ φ ψ => Bl (cells := [J ((Zref15_Bounds_1 p s).X), J ((Zref15_Bounds_1 p s).Y), J ((Zref15_Bounds_1 p s).Z), J ((Zref15_Bounds_2 p s).X), J ((Zref15_Bounds_2 p s).Y), J ((Zref15_Bounds_2 p s).Z)]) rfl tz_43 pl_43 (lconsP (φ 34 rfl) (lconsP (φ 38 rfl) rfl)) rfl ⟨rfl, ψ⟩) ?_))))))))
 refine QE.done fun H84 m85 => ?_
 have h86 := m85 _ _ h83
 have m87 := m81.trans m85
 refine C rfl (Sw rfl rfl ts_43 h86 rfl rfl rfl ?_)
 intro H88 h89 k90
 have m92 := Mono.set m87 z24 k90
 refine A rfl rfl ?_
 refine rt_ ?_
 refine Rr (Res.list rfl rfl (.cell (v := .agg [J ((Zref15_Bounds_1 p s).X), J ((Zref15_Bounds_1 p s).Y), J ((Zref15_Bounds_1 p s).Z), J ((Zref15_Bounds_2 p s).X), J ((Zref15_Bounds_2 p s).Y), J ((Zref15_Bounds_2 p s).Z)]) rfl ty_43 h89 rfl (.tmp rfl (.nil)))) ?_ m92
 have hR : R_ref15_Bounds p s = ((BoxT.mk (Zref15_Bounds_1 p s) (Zref15_Bounds_2 p s)), 0) := by unfold R_ref15_Bounds; rw [if_pos b41]
 exact (congrArg Tref15_Bounds hR).symm
 refine ct_ rfl (nb (decide_eq_false b41)) ?_
 refine Sr ?_
 refine C rfl (Bl (cells := [J 0, J 0, J 0, J 0, J 0, J 0]) rfl tz_43 pl_43 rfl rfl (V rfl rfl (C rfl (Sw rfl rfl ts_43 h39 rfl rfl rfl ?_))))
 intro H93 h94 k95
 have m97 := Mono.set m40 z24 k95
 refine A rfl rfl ?_
 refine rt_ ?_
 refine Rr (Res.list rfl rfl (.cell (v := .agg [J 0, J 0, J 0, J 0, J 0, J 0]) rfl ty_43 h94 rfl (.tmp rfl (.nil)))) ?_ m97
 have hR : R_ref15_Bounds p s = ((BoxT.mk (VT.mk 0 0 0) (VT.mk 0 0 0)), R_mesh_fine p s) := by unfold R_ref15_Bounds; rw [if_neg b41]
 exact (congrArg Tref15_Bounds hR).symm
def R_mesh_Tri (m : MeshT) (i : Int) : TriT × Bool :=
  if i < 0 then ((TriT.mk (VT.mk 0 0 0) (VT.mk 0 0 0) (VT.mk 0 0 0)), false) else (if i ≥ (m.Tris.length : Int) then ((TriT.mk (VT.mk 0 0 0) (VT.mk 0 0 0) (VT.mk 0 0 0)), false) else (if minL ([(at_ m.Tris i).x0, (at_ m.Tris i).x1, (at_ m.Tris i).x2] : List Int) < 0 then ((TriT.mk (VT.mk 0 0 0) (VT.mk 0 0 0) (VT.mk 0 0 0)), false) else (if maxL ([(at_ m.Tris i).x0, (at_ m.Tris i).x1, (at_ m.Tris i).x2] : List Int) ≥ (m.Verts.length : Int) then ((TriT.mk (VT.mk 0 0 0) (VT.mk 0 0 0) (VT.mk 0 0 0)), false) else ((TriT.mk (at_ m.Verts ((at_ m.Tris i).x0)) (at_ m.Verts ((at_ m.Tris i).x1)) (at_ m.Verts ((at_ m.Tris i).x2))), true))))
def Tmesh_Tri (r : TriT × Bool) : AV := .tup [.agg [J r.1.A.X, J r.1.A.Y, J r.1.A.Z, J r.1.B.X, J r.1.B.Y, J r.1.B.Z, J r.1.C.X, J r.1.C.Y, J r.1.C.Z], .bool r.2]
theorem c_mesh_Tri (m : MeshT) (i : Int) (hv : m.Verts.length ≤ 1048576) (ht : m.Tris.length ≤ 1048576) : PC Tryd.prog 15 [.agg [.sl m.Verts.length (m.Verts.flatMap eV), .sl m.Keys.length (m.Keys.flatMap eKey), .sl m.Tris.length (m.Tris.flatMap eI3)], J i] (.tup [.agg [J ((((R_mesh_Tri m i).1).A).X), J ((((R_mesh_Tri m i).1).A).Y), J ((((R_mesh_Tri m i).1).A).Z), J ((((R_mesh_Tri m i).1).B).X), J ((((R_mesh_Tri m i).1).B).Y), J ((((R_mesh_Tri m i).1).B).Z), J ((((R_mesh_Tri m i).1).C).X), J ((((R_mesh_Tri m i).1).C).Y), J ((((R_mesh_Tri m i).1).C).Z)], .bool ((R_mesh_Tri m i).2)]) := by
 intro H0
 refine ACalls.of_body' (n := 53) rfl rfl rfl rfl ?_
 have m0 := Mono.refl H0
 refine Sr ?_
 refine C rfl (bx_ (.agg [.sl m.Verts.length (m.Verts.flatMap eV), .sl m.Keys.length (m.Keys.flatMap eKey), .sl m.Tris.length (m.Tris.flatMap eI3)]) rfl rfl rfl ?_)
 intro i1 H2 n3 h4 k5
 have z6 := Mono.free m0 n3
 have m7 := Mono.new m0 n3 k5
 refine C rfl (al_ rfl tz_47 ?_)
 intro i8 H9 n10 h11 k12
 have e13 := ne_new h4 n10
 have z14 := Mono.free m7 n10
 have h15 := keep k12 (ne_new h4 n10) h4
 have m16 := Mono.new m7 n10 k12
 refine A rfl rfl ?_
 refine AWP.seq ?_
 refine AWP.seq ?_
 refine fz_ 2 h15 z6 rfl m16 fun H17 m18 k19 => ?_
 have h20 := (k19 _ (Ne.symm e13)).trans h11
 refine AWP.region rfl ?_
 refine V rfl rfl (B rfl rfl rfl rfl (V rfl rfl ?_))
 by_cases b21 : i < 0
 refine N rfl rfl (decide_eq_true b21) (N rfl rfl (decide_eq_true b21) (N rfl rfl (decide_eq_true b21) (N rfl rfl (decide_eq_true b21) (N rfl rfl (decide_eq_true b21) (C rfl (Pt _ rfl rfl (decide_eq_true b21) rfl ?_))))))
 refine ct_ rfl rfl ?_
 refine Sr ?_
 refine C rfl (Bl (cells := [J 0, J 0, J 0, J 0, J 0, J 0, J 0, J 0, J 0]) rfl tz_47 pl_47 rfl rfl (C rfl (Sw rfl rfl ts_47 h20 rfl rfl rfl ?_)))
 intro H22 h23 k24
 have m26 := Mono.set m18 z14 k24
 refine A rfl rfl ?_
 refine rt_ ?_
 refine Rr (Res.list rfl rfl (.cell (v := .agg [J 0, J 0, J 0, J 0, J 0, J 0, J 0, J 0, J 0]) rfl ty_47 h23 rfl (.tmp rfl (.nil)))) ?_ m26
 have hR : R_mesh_Tri m i = ((TriT.mk (VT.mk 0 0 0) (VT.mk 0 0 0) (VT.mk 0 0 0)), false) := by unfold R_mesh_Tri; rw [if_pos b21]
 exact (congrArg Tmesh_Tri hR).symm
 refine Y rfl rfl rfl (decide_eq_false b21) (Mv _ rfl rfl (Y rfl rfl rfl (decide_eq_false b21) (Ff rfl rfl fl_38_2 (Y rfl rfl rfl (decide_eq_false b21) (Lf _ rfl rfl ty_36 rfl (Y rfl rfl rfl (decide_eq_false b21) (AOp.len (m := m.Tris.length) rfl rfl (.inr (.inl ⟨_, rfl⟩)) u_36 (Y rfl rfl rfl (decide_eq_false b21) (Bi _ rfl rfl rfl rfl (C rfl (Pf _ rfl rfl (decide_eq_false b21) rfl ?_)))))))))))
 refine AOps.nil ?_
 change AWP _ _ _ _ _ _
 by_cases b27 : i ≥ (m.Tris.length : Int)
 refine ct_ rfl (decide_eq_true b27) ?_
 refine Sr ?_
 refine C rfl (Bl (cells := [J 0, J 0, J 0, J 0, J 0, J 0, J 0, J 0, J 0]) rfl tz_47 pl_47 rfl rfl (C rfl (Sw rfl rfl ts_47 h20 rfl rfl rfl ?_)))
 intro H28 h29 k30
 have m32 := Mono.set m18 z14 k30
 refine A rfl rfl ?_
 refine rt_ ?_
 refine Rr (Res.list rfl rfl (.cell (v := .agg [J 0, J 0, J 0, J 0, J 0, J 0, J 0, J 0, J 0]) rfl ty_47 h29 rfl (.tmp rfl (.nil)))) ?_ m32
 have hR : R_mesh_Tri m i = ((TriT.mk (VT.mk 0 0 0) (VT.mk 0 0 0) (VT.mk 0 0 0)), false) := by unfold R_mesh_Tri; rw [if_neg b21, if_pos b27]
 exact (congrArg Tmesh_Tri hR).symm
 refine cf_ rfl (decide_eq_false b27) ?_
 refine AWP.skip ?_
 refine Sr ?_
 refine F rfl rfl fl_38_2 (L rfl rfl ty_36 rfl (V rfl rfl (C rfl (iS_ rfl rfl rfl sl_36 (by omega) (by omega) (L rfl rfl ty_59 (ldM eI3_len (by omega) (by omega)) (C rfl (al_ rfl tz_59 ?_)))))))
 intro i33 H34 n35 h36 k37
 have e38 := ne_new h20 n35
 have z39 := Mono.free m18 n35
 have h40 := keep k37 (ne_new h20 n35) h20
 have m41 := Mono.new m18 n35 k37
 refine C rfl (Sw rfl rfl ts_59 h36 rfl rfl rfl ?_)
 intro H42 h43 k44
 have h45 := keep k44 e38 h40
 have m47 := Mono.set m41 z39 k44
 refine AWP.seq ?_
 refine AWP.seq ?_
 refine fz_ 6 h43 z39 rfl m47 fun H48 m49 k50 => ?_
 have h51 := (k50 _ e38).trans h45
 have e1 := min3L (at_ m.Tris i).x0 (at_ m.Tris i).x1 (at_ m.Tris i).x2
 have e2 := max3L (at_ m.Tris i).x0 (at_ m.Tris i).x1 (at_ m.Tris i).x2
 refine AWP.region_quiet mixed (by kernel_rfl) 11 [] rfl (by kernel_rfl) (Mono H48) (Mono.refl _) ?_
 refine Q rfl (fun _ _ φ ψ => AOp.sliceAF rfl (φ 6 rfl) ar_59 (rfl : ([(at_ m.Tris i).x0, (at_ m.Tris i).x1, (at_ m.Tris i).x2] : List Int).length = 3) SubAt.all ⟨rfl, ψ⟩) (Q rfl (fun _ _ φ ψ => Pc («as» := [.sl ([(at_ m.Tris i).x0, (at_ m.Tris i).x1, (at_ m.Tris i).x2] : List Int).length (([(at_ m.Tris i).x0, (at_ m.Tris i).x1, (at_ m.Tris i).x2] : List Int).map eI)]) rfl rfl (lapp (lcons (φ 22 rfl) rfl) rfl) tf_40 (c_Min ([(at_ m.Tris i).x0, (at_ m.Tris i).x1, (at_ m.Tris i).x2] : List Int) (by first | (have := (rfl : ([(at_ m.Tris i).x0, (at_ m.Tris i).x1, (at_ m.Tris i).x2] : List Int).length = 3); omega) | simp) (by first | omega | assumption | (constructor <;> omega) | simp)) fun H2 m2 => ⟨rfl, ψ.trans m2⟩) (QB rfl rfl rfl rfl (QV rfl rfl ?_)))
 by_cases b52 : minL ([(at_ m.Tris i).x0, (at_ m.Tris i).x1, (at_ m.Tris i).x2] : List Int) < 0
 refine QE.op rfl rfl (QOp.no rfl rfl rfl rfl (ble_of (decide_eq_true b52) (by decide)) rfl) ?_
 refine QE.op rfl rfl (QOp.no rfl rfl rfl rfl (ble_of (decide_eq_true b52) (by decide)) rfl) ?_
 refine QE.op rfl rfl (QOp.no rfl rfl rfl rfl (ble_of (decide_eq_true b52) (by decide)) rfl) ?_
 refine QE.op rfl rfl (QOp.no rfl rfl rfl rfl (ble_of (decide_eq_true b52) (by decide)) rfl) ?_
 refine QE.op rfl rfl (QOp.no rfl rfl rfl rfl (ble_of (decide_eq_true b52) (by decide)) rfl) ?_
 refine QE.op rfl rfl (QOp.no rfl rfl rfl rfl (ble_of (decide_eq_true b52) (by decide)) rfl) ?_
 refine Q rfl (fun _ _ φ ψ => Pt _ rfl (φ 25 rfl) (decide_eq_true b52) rfl ⟨rfl, ψ⟩) ?_
 refine QE.done fun H53 m54 => ?_
 have h55 := m54 _ _ h51
 have m56 := m49.trans m54
 refine ct_ rfl rfl ?_
 refine Sr ?_
 refine C rfl (Bl (cells := [J 0, J 0, J 0, J 0, J 0, J 0, J 0, J 0, J 0]) rfl tz_47 pl_47 rfl rfl (C rfl (Sw rfl rfl ts_47 h55 rfl rfl rfl ?_)))
 intro H57 h58 k59
 have m61 := Mono.set m56 z14 k59
 refine A rfl rfl ?_
 refine rt_ ?_
 refine Rr (Res.list rfl rfl (.cell (v := .agg [J 0, J 0, J 0, J 0, J 0, J 0, J 0, J 0, J 0]) rfl ty_47 h58 rfl (.tmp rfl (.nil)))) ?_ m61
 have hR : R_mesh_Tri m i = ((TriT.mk (VT.mk 0 0 0) (VT.mk 0 0 0) (VT.mk 0 0 0)), false) := by unfold R_mesh_Tri; rw [if_neg b21, if_neg b27, if_pos b52]
 exact (congrArg Tmesh_Tri hR).symm
 refine QE.op rfl rfl (QOp.yes rfl rfl rfl rfl (decide_eq_false b52) fun f' H' hf hM => AOp.sliceAF rfl ((hf 6 rfl).trans rfl) ar_59 (rfl : ([(at_ m.Tris i).x0, (at_ m.Tris i).x1, (at_ m.Tris i).x2] : List Int).length = 3) SubAt.all ⟨rfl, hM⟩) ?_
 refine QE.op rfl rfl (QOp.yes rfl rfl rfl rfl (decide_eq_false b52) fun f' H' hf hM => Pc («as» := [.sl ([(at_ m.Tris i).x0, (at_ m.Tris i).x1, (at_ m.Tris i).x2] : List Int).length (([(at_ m.Tris i).x0, (at_ m.Tris i).x1, (at_ m.Tris i).x2] : List Int).map eI)]) rfl rfl (lapp (lcons ((hf 26 rfl).trans rfl) rfl) rfl) tf_26 (c_Max ([(at_ m.Tris i).x0, (at_ m.Tris i).x1, (at_ m.Tris i).x2] : List Int) (by first | (have := (rfl : ([(at_ m.Tris i).x0, (at_ m.Tris i).x1, (at_ m.Tris i).x2] : List Int).length = 3); omega) | simp) (by first | omega | assumption | (constructor <;> omega) | simp)) fun H2 m2 => ⟨rfl, hM.trans m2⟩) ?_
 refine QE.op rfl rfl (QOp.yes rfl rfl rfl rfl (decide_eq_false b52) fun f' H' hf hM => Ff rfl ((hf 2 rfl).trans rfl) fl_38_0 ⟨rfl, hM⟩) ?_
 refine QE.op rfl rfl (QOp.yes rfl rfl rfl rfl (decide_eq_false b52) fun f' H' hf hM => Lf _ rfl ((hf 28 rfl).trans rfl) ty_34 rfl ⟨rfl, hM⟩) ?_
 refine QE.op rfl rfl (QOp.yes rfl rfl rfl rfl (decide_eq_false b52) fun f' H' hf hM => AOp.len (m := m.Verts.length) rfl ((hf 29 rfl).trans rfl) (.inr (.inl ⟨_, rfl⟩)) u_34 ⟨rfl, hM⟩) ?_
 refine QE.op rfl rfl (QOp.yes rfl rfl rfl rfl (decide_eq_false b52) fun f' H' hf hM => Bi _ rfl ((hf 27 rfl).trans rfl) ((hf 30 rfl).trans rfl) rfl ⟨rfl, hM⟩) ?_
 refine Q rfl (fun _ _ φ ψ => Pf _ rfl (φ 25 rfl) (decide_eq_false b52) (φ 31 rfl) ⟨rfl, ψ⟩) ?_
 refine QE.done fun H62 m63 => ?_
 have h64 := m63 _ _ h51
 have m65 := m49.trans m63
 refine AOps.nil ?_
 change AWP _ _ _ _ _ _
 by_cases b66 : maxL ([(at_ m.Tris i).x0, (at_ m.Tris i).x1, (at_ m.Tris i).x2] : List Int) ≥ (m.Verts.length : Int)
 refine ct_ rfl (decide_eq_true b66) ?_
 refine Sr ?_
 refine C rfl (Bl (cells := [J 0, J 0, J 0, J 0, J 0, J 0, J 0, J 0, J 0]) rfl tz_47 pl_47 rfl rfl (C rfl (Sw rfl rfl ts_47 h64 rfl rfl rfl ?_)))
 intro H67 h68 k69
 have m71 := Mono.set m65 z14 k69
 refine A rfl rfl ?_
 refine rt_ ?_
 refine Rr (Res.list rfl rfl (.cell (v := .agg [J 0, J 0, J 0, J 0, J 0, J 0, J 0, J 0, J 0]) rfl ty_47 h68 rfl (.tmp rfl (.nil)))) ?_ m71
 have hR : R_mesh_Tri m i = ((TriT.mk (VT.mk 0 0 0) (VT.mk 0 0 0) (VT.mk 0 0 0)), false) := by unfold R_mesh_Tri; rw [if_neg b21, if_neg b27, if_neg b52, if_pos b66]
 exact (congrArg Tmesh_Tri hR).symm
 refine cf_ rfl (decide_eq_false b66) ?_
 refine AWP.skip ?_
 refine AWP.seq ?_
 refine AWP.region_quiet mixed (by kernel_rfl) 19 [19, 20] rfl (by kernel_rfl) (Mono H62) (Mono.refl _) ?_
 refine QF rfl rfl fl_38_0 (QL rfl rfl ty_34 rfl (Q rfl (fun _ _ φ ψ => iF_ rfl (φ 6 rfl) rfl ar_59 (by omega) (by omega) ⟨rfl, ψ⟩) (QL rfl rfl ty_3 rfl (Q rfl (fun _ _ φ ψ => iS_ rfl (φ 35 rfl) (φ 37 rfl) sl_34 (by omega) (by omega) ⟨rfl, ψ⟩) (QL rfl rfl ty_23 (ldM eV_len (by omega) (by omega)) (QF rfl rfl fl_38_0 (QL rfl rfl ty_34 rfl (Q rfl (fun _ _ φ ψ => iF_ rfl (φ 6 rfl) rfl ar_59 (by omega) (by omega) ⟨rfl, ψ⟩) (QL rfl rfl ty_3 rfl (Q rfl (fun _ _ φ ψ => iS_ rfl (φ 41 rfl) (φ 43 rfl) sl_34 (by omega) (by omega) ⟨rfl, ψ⟩) (QL rfl rfl ty_23 (ldM eV_len (by omega) (by omega)) (QF rfl rfl fl_38_0 (QL rfl rfl ty_34 rfl ?_)))))))))))))
 refine Q rfl (fun _ _ φ ψ => iF_ rfl (φ 6 rfl) rfl ar_59 (by omega) (by omega) ⟨rfl, ψ⟩) (QL rfl rfl ty_3 rfl (Q rfl (fun _ _ φ ψ => iS_ rfl (φ 47 rfl) (φ 49 rfl) sl_34 (by omega) (by omega) ⟨rfl, ψ⟩) (QL rfl rfl ty_23 (ldM eV_len (by omega) (by omega)) (Q rfl (fun _ _ φ ψ => Bl (cells := [J ((at_ m.Verts ((at_ m.Tris i).x0)).X), J ((at_ m.Verts ((at_ m.Tris i).x0)).Y), J ((at_ m.Verts ((at_ m.Tris i).x0)).Z), J ((at_ m.Verts ((at_ m.Tris i).x1)).X), J ((at_ m.Verts ((at_ m.Tris i).x1)).Y), J ((at_ m.Verts ((at_ m.Tris i).x1)).Z), J ((at_ m.Verts ((at_ m.Tris i).x2)).X), J ((at_ m.Verts ((at_ m.Tris i).x2)).Y), J ((at_ m.Verts ((at_ m.Tris i).x2)).Z)]) rfl tz_47 pl_47 (lconsP (φ 39 rfl) (lconsP (φ 45 rfl) (lconsP (φ 51 rfl) rfl))) rfl ⟨rfl, ψ⟩) ?_))))
 refine QE.done fun H72 m73 => ?_
 have h74 := m73 _ _ h64
 have m75 := m65.trans m73
 refine C rfl (Sw rfl rfl ts_47 h74 rfl rfl rfl ?_)
 intro H76 h77 k78
 have m80 := Mono.set m75 z14 k78
 refine A rfl rfl ?_
 refine rt_ ?_
 refine Rr (Res.list rfl rfl (.cell (v := .agg [J ((at_ m.Verts ((at_ m.Tris i).x0)).X), J ((at_ m.Verts ((at_ m.Tris i).x0)).Y), J ((at_ m.Verts ((at_ m.Tris i).x0)).Z), J ((at_ m.Verts ((at_ m.Tris i).x1)).X), J ((at_ m.Verts ((at_ m.Tris i).x1)).Y), J ((at_ m.Verts ((at_ m.Tris i).x1)).Z), J ((at_ m.Verts ((at_ m.Tris i).x2)).X), J ((at_ m.Verts ((at_ m.Tris i).x2)).Y), J ((at_ m.Verts ((at_ m.Tris i).x2)).Z)]) rfl ty_47 h77 rfl (.tmp rfl (.nil)))) ?_ m80
 have hR : R_mesh_Tri m i = ((TriT.mk (at_ m.Verts ((at_ m.Tris i).x0)) (at_ m.Verts ((at_ m.Tris i).x1)) (at_ m.Verts ((at_ m.Tris i).x2))), true) := by unfold R_mesh_Tri; rw [if_neg b21, if_neg b27, if_neg b52, if_neg b66]
 exact (congrArg Tmesh_Tri hR).symm
def R_ref15_Tri (m : MeshT) (i : Int) : TriT × Bool :=
  if i < 0 then ((TriT.mk (VT.mk 0 0 0) (VT.mk 0 0 0) (VT.mk 0 0 0)), false) else (if i ≥ (m.Tris.length : Int) then ((TriT.mk (VT.mk 0 0 0) (VT.mk 0 0 0) (VT.mk 0 0 0)), false) else (if (at_ m.Tris i).x0 < 0 then ((TriT.mk (VT.mk 0 0 0) (VT.mk 0 0 0) (VT.mk 0 0 0)), false) else (if (at_ m.Tris i).x0 ≥ (m.Verts.length : Int) then ((TriT.mk (VT.mk 0 0 0) (VT.mk 0 0 0) (VT.mk 0 0 0)), false) else (if (at_ m.Tris i).x1 < 0 then ((TriT.mk (VT.mk 0 0 0) (VT.mk 0 0 0) (VT.mk 0 0 0)), false) else (if (at_ m.Tris i).x1 ≥ (m.Verts.length : Int) then ((TriT.mk (VT.mk 0 0 0) (VT.mk 0 0 0) (VT.mk 0 0 0)), false) else (if (at_ m.Tris i).x2 < 0 then ((TriT.mk (VT.mk 0 0 0) (VT.mk 0 0 0) (VT.mk 0 0 0)), false) else (if (at_ m.Tris i).x2 ≥ (m.Verts.length : Int) then ((TriT.mk (VT.mk 0 0 0) (VT.mk 0 0 0) (VT.mk 0 0 0)), false) else ((TriT.mk (at_ m.Verts ((at_ m.Tris i).x0)) (at_ m.Verts ((at_ m.Tris i).x1)) (at_ m.Verts ((at_ m.Tris i).x2))), true))))))))
def Tref15_Tri (r : TriT × Bool) : AV := .tup [.agg [J r.1.A.X, J r.1.A.Y, J r.1.A.Z, J r.1.B.X, J r.1.B.Y, J r.1.B.Z, J r.1.C.X, J r.1.C.Y, J r.1.C.Z], .bool r.2]
theorem c_ref15_Tri (m : MeshT) (i : Int) (hv : m.Verts.length ≤ 1048576) (ht : m.Tris.length ≤ 1048576) : PC Tryd.prog 16 [.agg [.sl m.Verts.length (m.Verts.flatMap eV), .sl m.Keys.length (m.Keys.flatMap eKey), .sl m.Tris.length (m.Tris.flatMap eI3)], J i] (.tup [.agg [J ((((R_ref15_Tri m i).1).A).X), J ((((R_ref15_Tri m i).1).A).Y), J ((((R_ref15_Tri m i).1).A).Z), J ((((R_ref15_Tri m i).1).B).X), J ((((R_ref15_Tri m i).1).B).Y), J ((((R_ref15_Tri m i).1).B).Z), J ((((R_ref15_Tri m i).1).C).X), J ((((R_ref15_Tri m i).1).C).Y), J ((((R_ref15_Tri m i).1).C).Z)], .bool ((R_ref15_Tri m i).2)]) := by
 intro H0
 refine ACalls.of_body' (n := 74) rfl rfl rfl rfl ?_
 have m0 := Mono.refl H0
 refine Sr ?_
 refine C rfl (bx_ (.agg [.sl m.Verts.length (m.Verts.flatMap eV), .sl m.Keys.length (m.Keys.flatMap eKey), .sl m.Tris.length (m.Tris.flatMap eI3)]) rfl rfl rfl ?_)
 intro i1 H2 n3 h4 k5
 have z6 := Mono.free m0 n3
 have m7 := Mono.new m0 n3 k5
 refine C rfl (al_ rfl tz_47 ?_)
 intro i8 H9 n10 h11 k12
 have e13 := ne_new h4 n10
 have z14 := Mono.free m7 n10
 have h15 := keep k12 (ne_new h4 n10) h4
 have m16 := Mono.new m7 n10 k12
 refine A rfl rfl ?_
 refine AWP.seq ?_
 refine AWP.seq ?_
 refine fz_ 2 h15 z6 rfl m16 fun H17 m18 k19 => ?_
 have h20 := (k19 _ (Ne.symm e13)).trans h11
 refine AWP.region rfl ?_
 refine V rfl rfl (B rfl rfl rfl rfl (V rfl rfl ?_))
 by_cases b21 : i < 0
 refine N rfl rfl (decide_eq_true b21) (N rfl rfl (decide_eq_true b21) (N rfl rfl (decide_eq_true b21) (N rfl rfl (decide_eq_true b21) (N rfl rfl (decide_eq_true b21) (C rfl (Pt _ rfl rfl (decide_eq_true b21) rfl ?_))))))
 refine ct_ rfl rfl ?_
 refine Sr ?_
 refine C rfl (Bl (cells := [J 0, J 0, J 0, J 0, J 0, J 0, J 0, J 0, J 0]) rfl tz_47 pl_47 rfl rfl (C rfl (Sw rfl rfl ts_47 h20 rfl rfl rfl ?_)))
 intro H22 h23 k24
 have m26 := Mono.set m18 z14 k24
 refine A rfl rfl ?_
 refine rt_ ?_
 refine Rr (Res.list rfl rfl (.cell (v := .agg [J 0, J 0, J 0, J 0, J 0, J 0, J 0, J 0, J 0]) rfl ty_47 h23 rfl (.tmp rfl (.nil)))) ?_ m26
 have hR : R_ref15_Tri m i = ((TriT.mk (VT.mk 0 0 0) (VT.mk 0 0 0) (VT.mk 0 0 0)), false) := by unfold R_ref15_Tri; rw [if_pos b21]
 exact (congrArg Tref15_Tri hR).symm
 refine Y rfl rfl rfl (decide_eq_false b21) (Mv _ rfl rfl (Y rfl rfl rfl (decide_eq_false b21) (Ff rfl rfl fl_38_2 (Y rfl rfl rfl (decide_eq_false b21) (Lf _ rfl rfl ty_36 rfl (Y rfl rfl rfl (decide_eq_false b21) (AOp.len (m := m.Tris.length) rfl rfl (.inr (.inl ⟨_, rfl⟩)) u_36 (Y rfl rfl rfl (decide_eq_false b21) (Bi _ rfl rfl rfl rfl (C rfl (Pf _ rfl rfl (decide_eq_false b21) rfl ?_)))))))))))
 refine AOps.nil ?_
 change AWP _ _ _ _ _ _
 by_cases b27 : i ≥ (m.Tris.length : Int)
 refine ct_ rfl (decide_eq_true b27) ?_
 refine Sr ?_
 refine C rfl (Bl (cells := [J 0, J 0, J 0, J 0, J 0, J 0, J 0, J 0, J 0]) rfl tz_47 pl_47 rfl rfl (C rfl (Sw rfl rfl ts_47 h20 rfl rfl rfl ?_)))
 intro H28 h29 k30
 have m32 := Mono.set m18 z14 k30
 refine A rfl rfl ?_
 refine rt_ ?_
 refine Rr (Res.list rfl rfl (.cell (v := .agg [J 0, J 0, J 0, J 0, J 0, J 0, J 0, J 0, J 0]) rfl ty_47 h29 rfl (.tmp rfl (.nil)))) ?_ m32
 have hR : R_ref15_Tri m i = ((TriT.mk (VT.mk 0 0 0) (VT.mk 0 0 0) (VT.mk 0 0 0)), false) := by unfold R_ref15_Tri; rw [if_neg b21, if_pos b27]
 exact (congrArg Tref15_Tri hR).symm
 refine cf_ rfl (decide_eq_false b27) ?_
 refine AWP.skip ?_
 refine AWP.seq ?_
 refine Sr ?_
 refine A rfl rfl ?_
 refine bk_ ?_
 refine AWP.unroll 20 ?_
 refine UN.step ?_
 refine AWP.seq ?_
 refine Sr ?_
 refine V rfl rfl (B rfl rfl rfl rfl ?_)
 refine ct_ rfl (decide_eq_true (by decide)) ?_
 refine AWP.skip ?_
 refine AWP.seq ?_
 refine bk_ ?_
 refine AWP.seq ?_
 refine AWP.region_quiet mixed (by kernel_rfl) 21 [] rfl (by kernel_rfl) (Mono H17) (Mono.refl _) ?_
 refine QF rfl rfl fl_38_2 (QL rfl rfl ty_36 rfl (QV rfl rfl (QV rfl rfl (Q rfl (fun _ _ φ ψ => iS_ rfl (φ 22 rfl) (φ 23 rfl) sl_36 (by omega) (by omega) ⟨rfl, ψ⟩) (Q rfl (fun _ _ φ ψ => iF_ rfl (φ 25 rfl) (φ 24 rfl) ar_59 (by omega) (by omega) ⟨rfl, ψ⟩) (QL rfl rfl ty_3 (ldF eI3_len (by omega) (by omega) rfl (by decide)) (QB rfl rfl rfl rfl (QV rfl rfl ?_))))))))
 by_cases b33 : (at_ m.Tris i).x0 < 0
 refine QE.op rfl rfl (QOp.no rfl rfl rfl rfl (ble_of (decide_eq_true b33) (by decide)) rfl) ?_
 refine QE.op rfl rfl (QOp.no rfl rfl rfl rfl (ble_of (decide_eq_true b33) (by decide)) rfl) ?_
 refine QE.op rfl rfl (QOp.no rfl rfl rfl rfl (ble_of (decide_eq_true b33) (by decide)) rfl) ?_
 refine QE.op rfl rfl (QOp.no rfl rfl rfl rfl (ble_of (decide_eq_true b33) (by decide)) rfl) ?_
 refine QE.op rfl rfl (QOp.no rfl rfl rfl rfl (ble_of (decide_eq_true b33) (by decide)) rfl) ?_
 refine QE.op rfl rfl (QOp.no rfl rfl rfl rfl (ble_of (decide_eq_true b33) (by decide)) rfl) ?_
 refine QE.op rfl rfl (QOp.no rfl rfl rfl rfl (ble_of (decide_eq_true b33) (by decide)) rfl) ?_
 refine QE.op rfl rfl (QOp.no rfl rfl rfl rfl (ble_of (decide_eq_true b33) (by decide)) rfl) ?_
 refine QE.op rfl rfl (QOp.no rfl rfl rfl rfl (ble_of (decide_eq_true b33) (by decide)) rfl) ?_
 refine QE.op rfl rfl (QOp.no rfl rfl rfl rfl (ble_of (decide_eq_true b33) (by decide)) rfl) ?_
 refine QE.op rfl rfl (QOp.no rfl rfl rfl rfl (ble_of (decide_eq_true b33) (by decide)) rfl) ?_
 refine Q rfl (fun _ _ φ ψ => Pt _ rfl (φ 29 rfl) (decide_eq_true b33) rfl ⟨rfl, ψ⟩) ?_
 refine QE.done fun H34 m35 => ?_
 have h36 := m35 _ _ h20
 have m37 := m18.trans m35
 refine ct_ rfl rfl ?_
 refine Sr ?_
 refine C rfl (Bl (cells := [J 0, J 0, J 0, J 0, J 0, J 0, J 0, J 0, J 0]) rfl tz_47 pl_47 rfl rfl (C rfl (Sw rfl rfl ts_47 h36 rfl rfl rfl ?_)))
 intro H38 h39 k40
 have m42 := Mono.set m37 z14 k40
 refine A rfl rfl ?_
 refine rt_ ?_
 refine Rr (Res.list rfl rfl (.cell (v := .agg [J 0, J 0, J 0, J 0, J 0, J 0, J 0, J 0, J 0]) rfl ty_47 h39 rfl (.tmp rfl (.nil)))) ?_ m42
 have hR : R_ref15_Tri m i = ((TriT.mk (VT.mk 0 0 0) (VT.mk 0 0 0) (VT.mk 0 0 0)), false) := by unfold R_ref15_Tri; rw [if_neg b21, if_neg b27, if_pos b33]
 exact (congrArg Tref15_Tri hR).symm
 refine QE.op rfl rfl (QOp.yes rfl rfl rfl rfl (decide_eq_false b33) fun f' H' hf hM => Ff rfl ((hf 2 rfl).trans rfl) fl_38_2 ⟨rfl, hM⟩) ?_
 refine QE.op rfl rfl (QOp.yes rfl rfl rfl rfl (decide_eq_false b33) fun f' H' hf hM => Lf _ rfl ((hf 30 rfl).trans rfl) ty_36 rfl ⟨rfl, hM⟩) ?_
 refine QE.op rfl rfl (QOp.yes rfl rfl rfl rfl (decide_eq_false b33) fun f' H' hf hM => Mv _ rfl ((hf 1 rfl).trans rfl) ⟨rfl, hM⟩) ?_
 refine QE.op rfl rfl (QOp.yes rfl rfl rfl rfl (decide_eq_false b33) fun f' H' hf hM => Mv _ rfl ((hf 6 rfl).trans rfl) ⟨rfl, hM⟩) ?_
 refine QE.op rfl rfl (QOp.yes rfl rfl rfl rfl (decide_eq_false b33) fun f' H' hf hM => iS_ rfl ((hf 31 rfl).trans rfl) ((hf 32 rfl).trans rfl) sl_36 (by omega) (by omega) ⟨rfl, hM⟩) ?_
 refine QE.op rfl rfl (QOp.yes rfl rfl rfl rfl (decide_eq_false b33) fun f' H' hf hM => iF_ rfl ((hf 34 rfl).trans rfl) ((hf 33 rfl).trans rfl) ar_59 (by omega) (by omega) ⟨rfl, hM⟩) ?_
 refine QE.op rfl rfl (QOp.yes rfl rfl rfl rfl (decide_eq_false b33) fun f' H' hf hM => Lf _ rfl ((hf 35 rfl).trans rfl) ty_3 (ldF eI3_len (by omega) (by omega) rfl (by decide)) ⟨rfl, hM⟩) ?_
 refine QE.op rfl rfl (QOp.yes rfl rfl rfl rfl (decide_eq_false b33) fun f' H' hf hM => Ff rfl ((hf 2 rfl).trans rfl) fl_38_0 ⟨rfl, hM⟩) ?_
 refine QE.op rfl rfl (QOp.yes rfl rfl rfl rfl (decide_eq_false b33) fun f' H' hf hM => Lf _ rfl ((hf 37 rfl).trans rfl) ty_34 rfl ⟨rfl, hM⟩) ?_
 refine QE.op rfl rfl (QOp.yes rfl rfl rfl rfl (decide_eq_false b33) fun f' H' hf hM => AOp.len (m := m.Verts.length) rfl ((hf 38 rfl).trans rfl) (.inr (.inl ⟨_, rfl⟩)) u_34 ⟨rfl, hM⟩) ?_
 refine QE.op rfl rfl (QOp.yes rfl rfl rfl rfl (decide_eq_false b33) fun f' H' hf hM => Bi _ rfl ((hf 36 rfl).trans rfl) ((hf 39 rfl).trans rfl) rfl ⟨rfl, hM⟩) ?_
 refine Q rfl (fun _ _ φ ψ => Pf _ rfl (φ 29 rfl) (decide_eq_false b33) (φ 40 rfl) ⟨rfl, ψ⟩) ?_
 refine QE.done fun H43 m44 => ?_
 have h45 := m44 _ _ h20
 have m46 := m18.trans m44
 refine AOps.nil ?_
 change AWP _ _ _ _ _ _
 by_cases b47 : (at_ m.Tris i).x0 ≥ (m.Verts.length : Int)
 refine ct_ rfl (decide_eq_true b47) ?_
 refine Sr ?_
 refine C rfl (Bl (cells := [J 0, J 0, J 0, J 0, J 0, J 0, J 0, J 0, J 0]) rfl tz_47 pl_47 rfl rfl (C rfl (Sw rfl rfl ts_47 h45 rfl rfl rfl ?_)))
 intro H48 h49 k50
 have m52 := Mono.set m46 z14 k50
 refine A rfl rfl ?_
 refine rt_ ?_
 refine Rr (Res.list rfl rfl (.cell (v := .agg [J 0, J 0, J 0, J 0, J 0, J 0, J 0, J 0, J 0]) rfl ty_47 h49 rfl (.tmp rfl (.nil)))) ?_ m52
 have hR : R_ref15_Tri m i = ((TriT.mk (VT.mk 0 0 0) (VT.mk 0 0 0) (VT.mk 0 0 0)), false) := by unfold R_ref15_Tri; rw [if_neg b21, if_neg b27, if_neg b33, if_pos b47]
 exact (congrArg Tref15_Tri hR).symm
 refine cf_ rfl (decide_eq_false b47) ?_
 refine AWP.skip ?_
 refine AWP.region rfl ?_
 refine V rfl rfl (B rfl rfl rfl (iadd (by omega)) (A rfl rfl ?_))
 refine AOps.nil ?_
 refine UN.step ?_
 refine AWP.seq ?_
 refine Sr ?_
 refine V rfl rfl (B rfl rfl rfl rfl ?_)
 refine ct_ rfl (decide_eq_true (by decide)) ?_
 refine AWP.skip ?_
 refine AWP.seq ?_
 refine bk_ ?_
 refine AWP.seq ?_
 refine AWP.region_quiet mixed (by kernel_rfl) 21 [] rfl (by kernel_rfl) (Mono H43) (Mono.refl _) ?_
 refine QF rfl rfl fl_38_2 (QL rfl rfl ty_36 rfl (QV rfl rfl (QV rfl rfl (Q rfl (fun _ _ φ ψ => iS_ rfl (φ 22 rfl) (φ 23 rfl) sl_36 (by omega) (by omega) ⟨rfl, ψ⟩) (Q rfl (fun _ _ φ ψ => iF_ rfl (φ 25 rfl) (φ 24 rfl) ar_59 (by omega) (by omega) ⟨rfl, ψ⟩) (QL rfl rfl ty_3 (ldF eI3_len (by omega) (by omega) rfl (by decide)) (QB rfl rfl rfl rfl (QV rfl rfl ?_))))))))
 by_cases b53 : (at_ m.Tris i).x1 < 0
 refine QE.op rfl rfl (QOp.no rfl rfl rfl rfl (ble_of (decide_eq_true b53) (by decide)) rfl) ?_
 refine QE.op rfl rfl (QOp.no rfl rfl rfl rfl (ble_of (decide_eq_true b53) (by decide)) rfl) ?_
 refine QE.op rfl rfl (QOp.no rfl rfl rfl rfl (ble_of (decide_eq_true b53) (by decide)) rfl) ?_
 refine QE.op rfl rfl (QOp.no rfl rfl rfl rfl (ble_of (decide_eq_true b53) (by decide)) rfl) ?_
 refine QE.op rfl rfl (QOp.no rfl rfl rfl rfl (ble_of (decide_eq_true b53) (by decide)) rfl) ?_
 refine QE.op rfl rfl (QOp.no rfl rfl rfl rfl (ble_of (decide_eq_true b53) (by decide)) rfl) ?_
 refine QE.op rfl rfl (QOp.no rfl rfl rfl rfl (ble_of (decide_eq_true b53) (by decide)) rfl) ?_
 refine QE.op rfl rfl (QOp.no rfl rfl rfl rfl (ble_of (decide_eq_true b53) (by decide)) rfl) ?_
 refine QE.op rfl rfl (QOp.no rfl rfl rfl rfl (ble_of (decide_eq_true b53) (by decide)) rfl) ?_
 refine QE.op rfl rfl (QOp.no rfl rfl rfl rfl (ble_of (decide_eq_true b53) (by decide)) rfl) ?_
 refine QE.op rfl rfl (QOp.no rfl rfl rfl rfl (ble_of (decide_eq_true b53) (by decide)) rfl) ?_
 refine Q rfl (fun _ _ φ ψ => Pt _ rfl (φ 29 rfl) (decide_eq_true b53) rfl ⟨rfl, ψ⟩) ?_
 refine QE.done fun H54 m55 => ?_
 have h56 := m55 _ _ h45
 have m57 := m46.trans m55
 refine ct_ rfl rfl ?_
 refine Sr ?_
 refine C rfl (Bl (cells := [J 0, J 0, J 0, J 0, J 0, J 0, J 0, J 0, J 0]) rfl tz_47 pl_47 rfl rfl (C rfl (Sw rfl rfl ts_47 h56 rfl rfl rfl ?_)))
 intro H58 h59 k60
 have m62 := Mono.set m57 z14 k60
 refine A rfl rfl ?_
 refine rt_ ?_
 refine Rr (Res.list rfl rfl (.cell (v := .agg [J 0, J 0, J 0, J 0, J 0, J 0, J 0, J 0, J 0]) rfl ty_47 h59 rfl (.tmp rfl (.nil)))) ?_ m62
 have hR : R_ref15_Tri m i = ((TriT.mk (VT.mk 0 0 0) (VT.mk 0 0 0) (VT.mk 0 0 0)), false) := by unfold R_ref15_Tri; rw [if_neg b21, if_neg b27, if_neg b33, if_neg b47, if_pos b53]
 exact (congrArg Tref15_Tri hR).symm
 refine QE.op rfl rfl (QOp.yes rfl rfl rfl rfl (decide_eq_false b53) fun f' H' hf hM => Ff rfl ((hf 2 rfl).trans rfl) fl_38_2 ⟨rfl, hM⟩) ?_
 refine QE.op rfl rfl (QOp.yes rfl rfl rfl rfl (decide_eq_false b53) fun f' H' hf hM => Lf _ rfl ((hf 30 rfl).trans rfl) ty_36 rfl ⟨rfl, hM⟩) ?_
 refine QE.op rfl rfl (QOp.yes rfl rfl rfl rfl (decide_eq_false b53) fun f' H' hf hM => Mv _ rfl ((hf 1 rfl).trans rfl) ⟨rfl, hM⟩) ?_
 refine QE.op rfl rfl (QOp.yes rfl rfl rfl rfl (decide_eq_false b53) fun f' H' hf hM => Mv _ rfl ((hf 6 rfl).trans rfl) ⟨rfl, hM⟩) ?_
 refine QE.op rfl rfl (QOp.yes rfl rfl rfl rfl (decide_eq_false b53) fun f' H' hf hM => iS_ rfl ((hf 31 rfl).trans rfl) ((hf 32 rfl).trans rfl) sl_36 (by omega) (by omega) ⟨rfl, hM⟩) ?_
 refine QE.op rfl rfl (QOp.yes rfl rfl rfl rfl (decide_eq_false b53) fun f' H' hf hM => iF_ rfl ((hf 34 rfl).trans rfl) ((hf 33 rfl).trans rfl) ar_59 (by omega) (by omega) ⟨rfl, hM⟩) ?_
 refine QE.op rfl rfl (QOp.yes rfl rfl rfl rfl (decide_eq_false b53) fun f' H' hf hM => Lf _ rfl ((hf 35 rfl).trans rfl) ty_3 (ldF eI3_len (by omega) (by omega) rfl (by decide)) ⟨rfl, hM⟩) ?_
 refine QE.op rfl rfl (QOp.yes rfl rfl rfl rfl (decide_eq_false b53) fun f' H' hf hM => Ff rfl ((hf 2 rfl).trans rfl) fl_38_0 ⟨rfl, hM⟩) ?_
 refine QE.op rfl rfl (QOp.yes rfl rfl rfl rfl (decide_eq_false b53) fun f' H' hf hM => Lf _ rfl ((hf 37 rfl).trans rfl) ty_34 rfl ⟨rfl, hM⟩) ?_
 refine QE.op rfl rfl (QOp.yes rfl rfl rfl rfl (decide_eq_false b53) fun f' H' hf hM => AOp.len (m := m.Verts.length) rfl ((hf 38 rfl).trans rfl) (.inr (.inl ⟨_, rfl⟩)) u_34 ⟨rfl, hM⟩) ?_
 refine QE.op rfl rfl (QOp.yes rfl rfl rfl rfl (decide_eq_false b53) fun f' H' hf hM => Bi _ rfl ((hf 36 rfl).trans rfl) ((hf 39 rfl).trans rfl) rfl ⟨rfl, hM⟩) ?_
 refine Q rfl (fun _ _ φ ψ => Pf _ rfl (φ 29 rfl) (decide_eq_false b53) (φ 40 rfl) ⟨rfl, ψ⟩) ?_
 refine QE.done fun H63 m64 => ?_
 have h65 := m64 _ _ h45
 have m66 := m46.trans m64
 refine AOps.nil ?_
 change AWP _ _ _ _ _ _
 by_cases b67 : (at_ m.Tris i).x1 ≥ (m.Verts.length : Int)
 refine ct_ rfl (decide_eq_true b67) ?_
 refine Sr ?_
 refine C rfl (Bl (cells := [J 0, J 0, J 0, J 0, J 0, J 0, J 0, J 0, J 0]) rfl tz_47 pl_47 rfl rfl (C rfl (Sw rfl rfl ts_47 h65 rfl rfl rfl ?_)))
 intro H68 h69 k70
 have m72 := Mono.set m66 z14 k70
 refine A rfl rfl ?_
 refine rt_ ?_
 refine Rr (Res.list rfl rfl (.cell (v := .agg [J 0, J 0, J 0, J 0, J 0, J 0, J 0, J 0, J 0]) rfl ty_47 h69 rfl (.tmp rfl (.nil)))) ?_ m72
 have hR : R_ref15_Tri m i = ((TriT.mk (VT.mk 0 0 0) (VT.mk 0 0 0) (VT.mk 0 0 0)), false) := by unfold R_ref15_Tri; rw [if_neg b21, if_neg b27, if_neg b33, if_neg b47, if_neg b53, if_pos b67]
 exact (congrArg Tref15_Tri hR).symm
 refine cf_ rfl (decide_eq_false b67) ?_
 refine AWP.skip ?_
 refine AWP.region rfl ?_
 refine V rfl rfl (B rfl rfl rfl (iadd (by omega)) (A rfl rfl ?_))
 refine AOps.nil ?_
 refine UN.step ?_
 refine AWP.seq ?_
 refine Sr ?_
 refine V rfl rfl (B rfl rfl rfl rfl ?_)
 refine ct_ rfl (decide_eq_true (by decide)) ?_
 refine AWP.skip ?_
 refine AWP.seq ?_
 refine bk_ ?_
 refine AWP.seq ?_
 refine AWP.region_quiet mixed (by kernel_rfl) 21 [] rfl (by kernel_rfl) (Mono H63) (Mono.refl _) ?_
 refine QF rfl rfl fl_38_2 (QL rfl rfl ty_36 rfl (QV rfl rfl (QV rfl rfl (Q rfl (fun _ _ φ ψ => iS_ rfl (φ 22 rfl) (φ 23 rfl) sl_36 (by omega) (by omega) ⟨rfl, ψ⟩) (Q rfl (fun _ _ φ ψ => iF_ rfl (φ 25 rfl) (φ 24 rfl) ar_59 (by omega) (by omega) ⟨rfl, ψ⟩) (QL rfl rfl ty_3 (ldF eI3_len (by omega) (by omega) rfl (by decide)) (QB rfl rfl rfl rfl (QV rfl rfl ?_))))))))
 by_cases b73 : (at_ m.Tris i).x2 < 0
 refine QE.op rfl rfl (QOp.no rfl rfl rfl rfl (ble_of (decide_eq_true b73) (by decide)) rfl) ?_
 refine QE.op rfl rfl (QOp.no rfl rfl rfl rfl (ble_of (decide_eq_true b73) (by decide)) rfl) ?_
 refine QE.op rfl rfl (QOp.no rfl rfl rfl rfl (ble_of (decide_eq_true b73) (by decide)) rfl) ?_
 refine QE.op rfl rfl (QOp.no rfl rfl rfl rfl (ble_of (decide_eq_true b73) (by decide)) rfl) ?_
 refine QE.op rfl rfl (QOp.no rfl rfl rfl rfl (ble_of (decide_eq_true b73) (by decide)) rfl) ?_
 refine QE.op rfl rfl (QOp.no rfl rfl rfl rfl (ble_of (decide_eq_true b73) (by decide)) rfl) ?_
 refine QE.op rfl rfl (QOp.no rfl rfl rfl rfl (ble_of (decide_eq_true b73) (by decide)) rfl) ?_
 refine QE.op rfl rfl (QOp.no rfl rfl rfl rfl (ble_of (decide_eq_true b73) (by decide)) rfl) ?_
 refine QE.op rfl rfl (QOp.no rfl rfl rfl rfl (ble_of (decide_eq_true b73) (by decide)) rfl) ?_
 refine QE.op rfl rfl (QOp.no rfl rfl rfl rfl (ble_of (decide_eq_true b73) (by decide)) rfl) ?_
 refine QE.op rfl rfl (QOp.no rfl rfl rfl rfl (ble_of (decide_eq_true b73) (by decide)) rfl) ?_
 refine Q rfl (fun _ _ φ ψ => Pt _ rfl (φ 29 rfl) (decide_eq_true b73) rfl ⟨rfl, ψ⟩) ?_
 refine QE.done fun H74 m75 => ?_
 have h76 := m75 _ _ h65
 have m77 := m66.trans m75
 refine ct_ rfl rfl ?_
 refine Sr ?_
 refine C rfl (Bl (cells := [J 0, J 0, J 0, J 0, J 0, J 0, J 0, J 0, J 0]) rfl tz_47 pl_47 rfl rfl (C rfl (Sw rfl rfl ts_47 h76 rfl rfl rfl ?_)))
 intro H78 h79 k80
 have m82 := Mono.set m77 z14 k80
 refine A rfl rfl ?_
 refine rt_ ?_
 refine Rr (Res.list rfl rfl (.cell (v := .agg [J 0, J 0, J 0, J 0, J 0, J 0, J 0, J 0, J 0]) rfl ty_47 h79 rfl (.tmp rfl (.nil)))) ?_ m82
 have hR : R_ref15_Tri m i = ((TriT.mk (VT.mk 0 0 0) (VT.mk 0 0 0) (VT.mk 0 0 0)), false) := by unfold R_ref15_Tri; rw [if_neg b21, if_neg b27, if_neg b33, if_neg b47, if_neg b53, if_neg b67, if_pos b73]
 exact (congrArg Tref15_Tri hR).symm
 refine QE.op rfl rfl (QOp.yes rfl rfl rfl rfl (decide_eq_false b73) fun f' H' hf hM => Ff rfl ((hf 2 rfl).trans rfl) fl_38_2 ⟨rfl, hM⟩) ?_
 refine QE.op rfl rfl (QOp.yes rfl rfl rfl rfl (decide_eq_false b73) fun f' H' hf hM => Lf _ rfl ((hf 30 rfl).trans rfl) ty_36 rfl ⟨rfl, hM⟩) ?_
 refine QE.op rfl rfl (QOp.yes rfl rfl rfl rfl (decide_eq_false b73) fun f' H' hf hM => Mv _ rfl ((hf 1 rfl).trans rfl) ⟨rfl, hM⟩) ?_
 refine QE.op rfl rfl (QOp.yes rfl rfl rfl rfl (decide_eq_false b73) fun f' H' hf hM => Mv _ rfl ((hf 6 rfl).trans rfl) ⟨rfl, hM⟩) ?_
 refine QE.op rfl rfl (QOp.yes rfl rfl rfl rfl (decide_eq_false b73) fun f' H' hf hM => iS_ rfl ((hf 31 rfl).trans rfl) ((hf 32 rfl).trans rfl) sl_36 (by omega) (by omega) ⟨rfl, hM⟩) ?_
 refine QE.op rfl rfl (QOp.yes rfl rfl rfl rfl (decide_eq_false b73) fun f' H' hf hM => iF_ rfl ((hf 34 rfl).trans rfl) ((hf 33 rfl).trans rfl) ar_59 (by omega) (by omega) ⟨rfl, hM⟩) ?_
 refine QE.op rfl rfl (QOp.yes rfl rfl rfl rfl (decide_eq_false b73) fun f' H' hf hM => Lf _ rfl ((hf 35 rfl).trans rfl) ty_3 (ldF eI3_len (by omega) (by omega) rfl (by decide)) ⟨rfl, hM⟩) ?_
 refine QE.op rfl rfl (QOp.yes rfl rfl rfl rfl (decide_eq_false b73) fun f' H' hf hM => Ff rfl ((hf 2 rfl).trans rfl) fl_38_0 ⟨rfl, hM⟩) ?_
 refine QE.op rfl rfl (QOp.yes rfl rfl rfl rfl (decide_eq_false b73) fun f' H' hf hM => Lf _ rfl ((hf 37 rfl).trans rfl) ty_34 rfl ⟨rfl, hM⟩) ?_
 refine QE.op rfl rfl (QOp.yes rfl rfl rfl rfl (decide_eq_false b73) fun f' H' hf hM => AOp.len (m := m.Verts.length) rfl ((hf 38 rfl).trans rfl) (.inr (.inl ⟨_, rfl⟩)) u_34 ⟨rfl, hM⟩) ?_
 refine QE.op rfl rfl (QOp.yes rfl rfl rfl rfl (decide_eq_false b73) fun f' H' hf hM => Bi _ rfl ((hf 36 rfl).trans rfl) ((hf 39 rfl).trans rfl) rfl ⟨rfl, hM⟩) ?_
 refine Q rfl (fun _ _ φ ψ => Pf _ rfl (φ 29 rfl) (decide_eq_false b73) (φ 40 rfl) ⟨rfl, ψ⟩) ?_
 refine QE.done fun H83 m84 => ?_
 have h85 := m84 _ _ h65
 have m86 := m66.trans m84
 refine AOps.nil ?_
 change AWP _ _ _ _ _ _
 by_cases b87 : (at_ m.Tris i).x2 ≥ (m.Verts.length : Int)
 refine ct_ rfl (decide_eq_true b87) ?_
 refine Sr ?_
 refine C rfl (Bl (cells := [J 0, J 0, J 0, J 0, J 0, J 0, J 0, J 0, J 0]) rfl tz_47 pl_47 rfl rfl (C rfl (Sw rfl rfl ts_47 h85 rfl rfl rfl ?_)))
 intro H88 h89 k90
 have m92 := Mono.set m86 z14 k90
 refine A rfl rfl ?_
 refine rt_ ?_
 refine Rr (Res.list rfl rfl (.cell (v := .agg [J 0, J 0, J 0, J 0, J 0, J 0, J 0, J 0, J 0]) rfl ty_47 h89 rfl (.tmp rfl (.nil)))) ?_ m92
 have hR : R_ref15_Tri m i = ((TriT.mk (VT.mk 0 0 0) (VT.mk 0 0 0) (VT.mk 0 0 0)), false) := by unfold R_ref15_Tri; rw [if_neg b21, if_neg b27, if_neg b33, if_neg b47, if_neg b53, if_neg b67, if_neg b73, if_pos b87]
 exact (congrArg Tref15_Tri hR).symm
 refine cf_ rfl (decide_eq_false b87) ?_
 refine AWP.skip ?_
 refine AWP.region rfl ?_
 refine V rfl rfl (B rfl rfl rfl (iadd (by omega)) (A rfl rfl ?_))
 refine AOps.nil ?_
 refine UN.step ?_
 refine AWP.seq ?_
 refine Sr ?_
 refine V rfl rfl (B rfl rfl rfl rfl ?_)
 refine cf_ rfl (decide_eq_false (by decide)) ?_
 refine AWP.exit ?_
 change AWP _ _ _ _ _ _
 refine AWP.seq ?_
 refine AWP.region_quiet mixed (by kernel_rfl) 31 [31, 32] rfl (by kernel_rfl) (Mono H83) (Mono.refl _) ?_
 refine QF rfl rfl fl_38_0 (QL rfl rfl ty_34 rfl (QF rfl rfl fl_38_2 (QL rfl rfl ty_36 rfl (QV rfl rfl (Q rfl (fun _ _ φ ψ => iS_ rfl (φ 46 rfl) (φ 47 rfl) sl_36 (by omega) (by omega) ⟨rfl, ψ⟩) (Q rfl (fun _ _ φ ψ => iF_ rfl (φ 48 rfl) rfl ar_59 (by omega) (by omega) ⟨rfl, ψ⟩) (QL rfl rfl ty_3 (ldF eI3_len (by omega) (by omega) rfl (by decide)) (Q rfl (fun _ _ φ ψ => iS_ rfl (φ 44 rfl) (φ 50 rfl) sl_34 (by omega) (by omega) ⟨rfl, ψ⟩) (QL rfl rfl ty_23 (ldM eV_len (by omega) (by omega)) (QF rfl rfl fl_38_0 (QL rfl rfl ty_34 rfl (QF rfl rfl fl_38_2 (QL rfl rfl ty_36 rfl ?_)))))))))))))
 refine QV rfl rfl (Q rfl (fun _ _ φ ψ => iS_ rfl (φ 56 rfl) (φ 57 rfl) sl_36 (by omega) (by omega) ⟨rfl, ψ⟩) (Q rfl (fun _ _ φ ψ => iF_ rfl (φ 58 rfl) rfl ar_59 (by omega) (by omega) ⟨rfl, ψ⟩) (QL rfl rfl ty_3 (ldF eI3_len (by omega) (by omega) rfl (by decide)) (Q rfl (fun _ _ φ ψ => iS_ rfl (φ 54 rfl) (φ 60 rfl) sl_34 (by omega) (by omega) ⟨rfl, ψ⟩) (QL rfl rfl ty_23 (ldM eV_len (by omega) (by omega)) (QF rfl rfl fl_38_0 (QL rfl rfl ty_34 rfl (QF rfl rfl fl_38_2 (QL rfl rfl ty_36 rfl (QV rfl rfl (Q rfl (fun _ _ φ ψ => iS_ rfl (φ 66 rfl) (φ 67 rfl) sl_36 (by omega) (by omega) ⟨rfl, ψ⟩) (Q rfl (fun _ _ φ ψ => iF_ rfl (φ 68 rfl) rfl ar_59 (by omega) (by omega) ⟨rfl, ψ⟩) (QL rfl rfl ty_3 (ldF eI3_len (by omega) (by omega) rfl (by decide)) ?_)))))))))))))
 refine Q rfl (fun _ _ φ ψ => iS_ rfl (φ 64 rfl) (φ 70 rfl) sl_34 (by omega) (by omega) ⟨rfl, ψ⟩) (QL rfl rfl ty_23 (ldM eV_len (by omega) (by omega)) (Q rfl (fun _ _ φ ψ => Bl (cells := [J ((at_ m.Verts ((at_ m.Tris i).x0)).X), J ((at_ m.Verts ((at_ m.Tris i).x0)).Y), J ((at_ m.Verts ((at_ m.Tris i).x0)).Z), J ((at_ m.Verts ((at_ m.Tris i).x1)).X), J ((at_ m.Verts ((at_ m.Tris i).x1)).Y), J ((at_ m.Verts ((at_ m.Tris i).x1)).Z), J ((at_ m.Verts ((at_ m.Tris i).x2)).X), J ((at_ m.Verts ((at_ m.Tris i).x2)).Y), J ((at_ m.Verts ((at_ m.Tris i).x2)).Z)]) rfl tz_47 pl_47 (lconsP (φ 52 rfl) (lconsP (φ 62 rfl) (lconsP (φ 72 rfl) rfl))) rfl ⟨rfl, ψ⟩) ?_))
 refine QE.done fun H93 m94 => ?_
 have h95 := m94 _ _ h85
 have m96 := m86.trans m94
 refine C rfl (Sw rfl rfl ts_47 h95 rfl rfl rfl ?_)
 intro H97 h98 k99
 have m101 := Mono.set m96 z14 k99
 refine A rfl rfl ?_
 refine rt_ ?_
 refine Rr (Res.list rfl rfl (.cell (v := .agg [J ((at_ m.Verts ((at_ m.Tris i).x0)).X), J ((at_ m.Verts ((at_ m.Tris i).x0)).Y), J ((at_ m.Verts ((at_ m.Tris i).x0)).Z), J ((at_ m.Verts ((at_ m.Tris i).x1)).X), J ((at_ m.Verts ((at_ m.Tris i).x1)).Y), J ((at_ m.Verts ((at_ m.Tris i).x1)).Z), J ((at_ m.Verts ((at_ m.Tris i).x2)).X), J ((at_ m.Verts ((at_ m.Tris i).x2)).Y), J ((at_ m.Verts ((at_ m.Tris i).x2)).Z)]) rfl ty_47 h98 rfl (.tmp rfl (.nil)))) ?_ m101
 have hR : R_ref15_Tri m i = ((TriT.mk (at_ m.Verts ((at_ m.Tris i).x0)) (at_ m.Verts ((at_ m.Tris i).x1)) (at_ m.Verts ((at_ m.Tris i).x2))), true) := by unfold R_ref15_Tri; rw [if_neg b21, if_neg b27, if_neg b33, if_neg b47, if_neg b53, if_neg b67, if_neg b73, if_neg b87]
 exact (congrArg Tref15_Tri hR).symm
theorem c_SameVs (a b : List VT) (hal : a.length ≤ 1048576) (hbl : b.length ≤ 1048576) (ha : ∀ v ∈ a, ranV v) (hb : ∀ v ∈ b, ranV v) : PC Tryd.prog 41 [.sl a.length (a.flatMap eV), .sl b.length (b.flatMap eV)] (.bool (decide (a = b))) := by
 intro H0
 refine ACalls.of_body' (n := 26) rfl rfl rfl rfl ?_
 have m0 := Mono.refl H0
 refine Sr ?_
 refine A rfl rfl ?_
 refine AWP.seq ?_
 refine Sr ?_
 refine V rfl rfl (C rfl (AOp.len (m := a.length) rfl rfl (.inr (.inl ⟨_, rfl⟩)) u_34 (V rfl rfl (C rfl (AOp.len (m := b.length) rfl rfl (.inr (.inl ⟨_, rfl⟩)) u_34 (B rfl rfl rfl ine ?_))))))
 refine AOps.nil ?_
 change AWP _ _ _ _ _ _
 by_cases b1 : (a.length : Int) = (b.length : Int)
 refine cf_ rfl (nb (decide_eq_true b1)) ?_
 refine AWP.skip ?_
 refine AWP.seq ?_
 refine Sr ?_
 refine A rfl rfl ?_
 refine bk_ ?_
 refine AWP.loop (fun q2 fq Hq => ∃ (i : Int), q2 = (((a.length : Int) : Int) - i).toNat ∧ fq 5 = J i ∧ fq 0 = .sl a.length (a.flatMap eV) ∧ fq 1 = .sl b.length (b.flatMap eV) ∧ Mono H0 Hq ∧ (0 ≤ i) ∧ (i ≤ (a.length : Int)) ∧ ((a.length : Int) = b.length) ∧ (∀ q : Int, 0 ≤ q → q < i → at_ a q = at_ b q)) (k := (((a.length : Int) : Int) - 0).toNat) ?_ ?_
 exact ⟨0, rfl, rfl, rfl, rfl, m0, by omega, by omega, by assumption, by intro q; omega⟩
 rintro _ f4 H3 ⟨i, rfl, s5, s6, s7, m8, hi0, hi1, hl, pre⟩
 refine AWP.seq ?_
 refine Sr ?_
 refine V rfl s5 (V rfl s6 (C rfl (AOp.len (m := a.length) rfl rfl (.inr (.inl ⟨_, rfl⟩)) u_34 (B rfl rfl rfl rfl ?_))))
 refine AOps.nil ?_
 change AWP _ _ _ _ _ _
 by_cases b9 : i < (a.length : Int)
 refine ct_ rfl (decide_eq_true b9) ?_
 refine AWP.skip ?_
 refine AWP.seq ?_
 refine bk_ ?_
 refine AWP.seq ?_
 refine AWP.region_quiet mixed (by kernel_rfl) 9 [] rfl (by kernel_rfl) (Mono H3) (Mono.refl _) ?_
 refine QV rfl s6 (QV rfl s5 (Q rfl (fun _ _ φ ψ => iS_ rfl (φ 17 rfl) (φ 18 rfl) sl_34 (by omega) (by omega) ⟨rfl, ψ⟩) (QL rfl rfl ty_23 (ldM eV_len (by omega) (by omega)) (QV rfl s7 (QV rfl s5 (Q rfl (fun _ _ φ ψ => iS_ rfl (φ 21 rfl) (φ 22 rfl) sl_34 (by omega) (by omega) ⟨rfl, ψ⟩) (QL rfl rfl ty_23 (ldM eV_len (by omega) (by omega)) (Q rfl (fun _ _ φ ψ => AOp.neAggD rfl (φ 20 rfl) (φ 24 rfl) teq23 (kokV (ha _ (at_mem (by omega) (by omega)))) (kokV (hb _ (at_mem (by omega) (by omega)))) (eV_iff (at_ a i) (at_ b i)) ⟨rfl, ψ⟩) ?_))))))))
 refine QE.done fun H10 m11 => ?_
 have m12 := m8.trans m11
 refine AOps.nil ?_
 change AWP _ _ _ _ _ _
 by_cases b13 : (at_ a i) = (at_ b i)
 refine cf_ rfl (nb (decide_eq_true b13)) ?_
 refine AWP.skip ?_
 refine AWP.region rfl ?_
 refine V rfl s5 (B rfl rfl rfl (iadd (by omega)) (A rfl rfl ?_))
 refine AOps.nil ?_
 exact ⟨_, by omega, i + 1, rfl, rfl, s6, s7, m12, by omega, by omega, by assumption, by exact pre_step pre (b13)⟩
 refine ct_ rfl (nb (decide_eq_false b13)) ?_
 refine Sr ?_
 refine A rfl rfl ?_
 refine rt_ ?_
 refine Rr (Res.one rfl rfl) ?_ m12
 exact (congrArg AV.bool (rfl.trans (decide_eq_false (show ¬ (a = b) from by rintro rfl; first | omega | (exact absurd rfl b13))).symm))
 refine cf_ rfl (decide_eq_false b9) ?_
 refine AWP.exit ?_
 change AWP _ _ _ _ _ _
 refine Sr ?_
 refine A rfl rfl ?_
 refine rt_ ?_
 refine Rr (Res.one rfl rfl) ?_ m8
 exact (congrArg AV.bool (rfl.trans (decide_eq_true (show a = b from by exact ext_at (by omega) (fun j h1 h2 => pre j h1 (by omega)))).symm))
 refine ct_ rfl (nb (decide_eq_false b1)) ?_
 refine Sr ?_
 refine A rfl rfl ?_
 refine rt_ ?_
 refine Rr (Res.one rfl rfl) ?_ m0
 exact (congrArg AV.bool (rfl.trans (decide_eq_false (show ¬ (a = b) from by rintro rfl; first | omega | (exact absurd rfl b1))).symm))
theorem c_SameMesh (a b : MeshT) (ha0 : a.Verts.length ≤ 1048576) (ha1 : a.Keys.length ≤ 1048576) (ha2 : a.Tris.length ≤ 1048576) (hb0 : b.Verts.length ≤ 1048576) (hb1 : b.Keys.length ≤ 1048576) (hb2 : b.Tris.length ≤ 1048576) (ha : ranM a) (hb : ranM b) : PC Tryd.prog 17 [.agg [.sl a.Verts.length (a.Verts.flatMap eV), .sl a.Keys.length (a.Keys.flatMap eKey), .sl a.Tris.length (a.Tris.flatMap eI3)], .agg [.sl b.Verts.length (b.Verts.flatMap eV), .sl b.Keys.length (b.Keys.flatMap eKey), .sl b.Tris.length (b.Tris.flatMap eI3)]] (.bool (decide (a.Verts = b.Verts ∧ a.Keys = b.Keys ∧ a.Tris = b.Tris))) := by
 intro H0
 obtain ⟨hav, hak, hat⟩ := ha
 obtain ⟨hbv, hbk, hbt⟩ := hb
 refine ACalls.of_body' (n := 67) rfl rfl rfl rfl ?_
 have m0 := Mono.refl H0
 refine Sr ?_
 refine C rfl (bx_ (.agg [.sl a.Verts.length (a.Verts.flatMap eV), .sl a.Keys.length (a.Keys.flatMap eKey), .sl a.Tris.length (a.Tris.flatMap eI3)]) rfl rfl rfl ?_)
 intro i1 H2 n3 h4 k5
 have z6 := Mono.free m0 n3
 have m7 := Mono.new m0 n3 k5
 refine C rfl (bx_ (.agg [.sl b.Verts.length (b.Verts.flatMap eV), .sl b.Keys.length (b.Keys.flatMap eKey), .sl b.Tris.length (b.Tris.flatMap eI3)]) rfl rfl rfl ?_)
 intro i8 H9 n10 h11 k12
 have e13 := ne_new h4 n10
 have z14 := Mono.free m7 n10
 have h15 := keep k12 (ne_new h4 n10) h4
 have m16 := Mono.new m7 n10 k12
 refine A rfl rfl ?_
 refine AWP.seq ?_
 refine AWP.seq ?_
 refine fz_ 2 h15 z6 rfl m16 fun H17 m18 k19 => ?_
 have h20 := (k19 _ (Ne.symm e13)).trans h11
 refine fz_ 3 h20 z14 rfl m18 fun H21 m22 k23 => ?_
 refine AWP.region rfl ?_
 refine F rfl rfl fl_38_0 (L rfl rfl ty_34 rfl (F rfl rfl fl_38_0 (L rfl rfl ty_34 rfl (C rfl (Pc («as» := [.sl a.Verts.length (a.Verts.flatMap eV), .sl b.Verts.length (b.Verts.flatMap eV)]) rfl rfl (rfl) tf_41 (c_SameVs a.Verts b.Verts (by first | omega | assumption) (by first | omega | assumption) (by assumption) (by assumption)) ?_)))))
 intro H24 m25
 have m26 := m22.trans m25
 refine C rfl (AOp.not rfl rfl (V rfl rfl ?_))
 by_cases b27 : a.Verts = b.Verts
 refine Y rfl rfl rfl (nb (decide_eq_true b27)) (Ff rfl rfl fl_38_1 (Y rfl rfl rfl (nb (decide_eq_true b27)) (Lf _ rfl rfl ty_35 rfl (Y rfl rfl rfl (nb (decide_eq_true b27)) (AOp.len (m := a.Keys.length) rfl rfl (.inr (.inl ⟨_, rfl⟩)) u_35 (Y rfl rfl rfl (nb (decide_eq_true b27)) (Ff rfl rfl fl_38_1 (Y rfl rfl rfl (nb (decide_eq_true b27)) (Lf _ rfl rfl ty_35 rfl (Y rfl rfl rfl (nb (decide_eq_true b27)) (AOp.len (m := b.Keys.length) rfl rfl (.inr (.inl ⟨_, rfl⟩)) u_35 (Y rfl rfl rfl (nb (decide_eq_true b27)) (Bi _ rfl rfl rfl ine (C rfl (Pf _ rfl rfl (nb (decide_eq_true b27)) rfl (V rfl rfl ?_))))))))))))))))
 by_cases b28 : (a.Keys.length : Int) = (b.Keys.length : Int)
 refine Y rfl rfl rfl (nb (decide_eq_true b28)) (Ff rfl rfl fl_38_2 (Y rfl rfl rfl (nb (decide_eq_true b28)) (Lf _ rfl rfl ty_36 rfl (Y rfl rfl rfl (nb (decide_eq_true b28)) (AOp.len (m := a.Tris.length) rfl rfl (.inr (.inl ⟨_, rfl⟩)) u_36 (Y rfl rfl rfl (nb (decide_eq_true b28)) (Ff rfl rfl fl_38_2 (Y rfl rfl rfl (nb (decide_eq_true b28)) (Lf _ rfl rfl ty_36 rfl (Y rfl rfl rfl (nb (decide_eq_true b28)) (AOp.len (m := b.Tris.length) rfl rfl (.inr (.inl ⟨_, rfl⟩)) u_36 (Y rfl rfl rfl (nb (decide_eq_true b28)) (Bi _ rfl rfl rfl ine (C rfl (Pf _ rfl rfl (nb (decide_eq_true b28)) rfl ?_)))))))))))))))
 refine AOps.nil ?_
 change AWP _ _ _ _ _ _
 by_cases b29 : (a.Tris.length : Int) = (b.Tris.length : Int)
 refine cf_ rfl (nb (decide_eq_true b29)) ?_
 refine AWP.skip ?_
 refine AWP.seq ?_
 refine Sr ?_
 refine A rfl rfl ?_
 refine bk_ ?_
 refine AWP.loop (fun q30 fq Hq => ∃ (i : Int), q30 = (((a.Keys.length : Int) : Int) - i).toNat ∧ fq 5 = J i ∧ fq 2 = .fptr [.sl a.Verts.length (a.Verts.flatMap eV), .sl a.Keys.length (a.Keys.flatMap eKey), .sl a.Tris.length (a.Tris.flatMap eI3)] 0 ∧ fq 3 = .fptr [.sl b.Verts.length (b.Verts.flatMap eV), .sl b.Keys.length (b.Keys.flatMap eKey), .sl b.Tris.length (b.Tris.flatMap eI3)] 0 ∧ Mono H0 Hq ∧ (0 ≤ i) ∧ (i ≤ (a.Keys.length : Int)) ∧ ((a.Keys.length : Int) = b.Keys.length) ∧ ((a.Tris.length : Int) = b.Tris.length) ∧ (∀ q : Int, 0 ≤ q → q < i → at_ a.Keys q = at_ b.Keys q)) (k := (((a.Keys.length : Int) : Int) - 0).toNat) ?_ ?_
 exact ⟨0, rfl, rfl, rfl, rfl, m26, by omega, by omega, by assumption, by assumption, by intro q; omega⟩
 rintro _ f32 H31 ⟨i, rfl, s33, s34, s35, m36, hi0, hi1, hl1, hl2, preK⟩
 refine AWP.seq ?_
 refine Sr ?_
 refine V rfl s33 (F rfl s34 fl_38_1 (L rfl rfl ty_35 rfl (C rfl (AOp.len (m := a.Keys.length) rfl rfl (.inr (.inl ⟨_, rfl⟩)) u_35 (B rfl rfl rfl rfl ?_)))))
 refine AOps.nil ?_
 change AWP _ _ _ _ _ _
 by_cases b37 : i < (a.Keys.length : Int)
 refine ct_ rfl (decide_eq_true b37) ?_
 refine AWP.skip ?_
 refine AWP.seq ?_
 refine bk_ ?_
 refine AWP.seq ?_
 refine AWP.region_quiet mixed (by kernel_rfl) 11 [] rfl (by kernel_rfl) (Mono H31) (Mono.refl _) ?_
 refine QF rfl s34 fl_38_1 (QL rfl rfl ty_35 rfl (QV rfl s33 (Q rfl (fun _ _ φ ψ => iS_ rfl (φ 39 rfl) (φ 40 rfl) sl_35 (by omega) (by omega) ⟨rfl, ψ⟩) (QL rfl rfl ty_58 (ldM eKey_len (by omega) (by omega)) (QF rfl s35 fl_38_1 (QL rfl rfl ty_35 rfl (QV rfl s33 (Q rfl (fun _ _ φ ψ => iS_ rfl (φ 44 rfl) (φ 45 rfl) sl_35 (by omega) (by omega) ⟨rfl, ψ⟩) (QL rfl rfl ty_58 (ldM eKey_len (by omega) (by omega)) (Q rfl (fun _ _ φ ψ => AOp.neAggD rfl (φ 42 rfl) (φ 47 rfl) teq58 (kokK (hak _ (at_mem (by omega) (by omega)))) (kokK (hbk _ (at_mem (by omega) (by omega)))) (eKey_iff (at_ a.Keys i) (at_ b.Keys i)) ⟨rfl, ψ⟩) ?_))))))))))
 refine QE.done fun H38 m39 => ?_
 have m40 := m36.trans m39
 refine AOps.nil ?_
 change AWP _ _ _ _ _ _
 by_cases b41 : (at_ a.Keys i) = (at_ b.Keys i)
 refine cf_ rfl (nb (decide_eq_true b41)) ?_
 refine AWP.skip ?_
 refine AWP.region rfl ?_
 refine V rfl s33 (B rfl rfl rfl (iadd (by omega)) (A rfl rfl ?_))
 refine AOps.nil ?_
 exact ⟨_, by omega, i + 1, rfl, rfl, s34, s35, m40, by omega, by omega, by assumption, by assumption, by exact pre_step preK (b41)⟩
 refine ct_ rfl (nb (decide_eq_false b41)) ?_
 refine Sr ?_
 refine A rfl rfl ?_
 refine rt_ ?_
 refine Rr (Res.one rfl rfl) ?_ m40
 exact (congrArg AV.bool (rfl.trans (decide_eq_false (show ¬ (a.Verts = b.Verts ∧ a.Keys = b.Keys ∧ a.Tris = b.Tris) from by rintro ⟨e1, e2, e3⟩; exact b41 (by rw [e2]))).symm))
 refine cf_ rfl (decide_eq_false b37) ?_
 refine AWP.exit ?_
 change AWP _ _ _ _ _ _
 refine AWP.seq ?_
 refine Sr ?_
 refine A rfl rfl ?_
 refine bk_ ?_
 refine AWP.loop (fun q42 fq Hq => ∃ (j : Int), q42 = (((a.Tris.length : Int) : Int) - j).toNat ∧ fq 6 = J j ∧ fq 2 = .fptr [.sl a.Verts.length (a.Verts.flatMap eV), .sl a.Keys.length (a.Keys.flatMap eKey), .sl a.Tris.length (a.Tris.flatMap eI3)] 0 ∧ fq 3 = .fptr [.sl b.Verts.length (b.Verts.flatMap eV), .sl b.Keys.length (b.Keys.flatMap eKey), .sl b.Tris.length (b.Tris.flatMap eI3)] 0 ∧ Mono H0 Hq ∧ (0 ≤ j) ∧ (j ≤ (a.Tris.length : Int)) ∧ ((a.Keys.length : Int) = b.Keys.length) ∧ ((a.Tris.length : Int) = b.Tris.length) ∧ (i = a.Keys.length) ∧ (∀ q : Int, 0 ≤ q → q < j → at_ a.Tris q = at_ b.Tris q)) (k := (((a.Tris.length : Int) : Int) - 0).toNat) ?_ ?_
 exact ⟨0, rfl, rfl, s34, s35, m36, by omega, by omega, by assumption, by assumption, by omega, by intro q; omega⟩
 rintro _ f44 H43 ⟨j, rfl, s45, s46, s47, m48, hj0, hj1, hl1, hl2, hie, preT⟩
 refine AWP.seq ?_
 refine Sr ?_
 refine V rfl s45 (F rfl s46 fl_38_2 (L rfl rfl ty_36 rfl (C rfl (AOp.len (m := a.Tris.length) rfl rfl (.inr (.inl ⟨_, rfl⟩)) u_36 (B rfl rfl rfl rfl ?_)))))
 refine AOps.nil ?_
 change AWP _ _ _ _ _ _
 by_cases b49 : j < (a.Tris.length : Int)
 refine ct_ rfl (decide_eq_true b49) ?_
 refine AWP.skip ?_
 refine AWP.seq ?_
 refine bk_ ?_
 refine AWP.seq ?_
 refine AWP.region_quiet mixed (by kernel_rfl) 11 [] rfl (by kernel_rfl) (Mono H43) (Mono.refl _) ?_
 refine QF rfl s46 fl_38_2 (QL rfl rfl ty_36 rfl (QV rfl s45 (Q rfl (fun _ _ φ ψ => iS_ rfl (φ 57 rfl) (φ 58 rfl) sl_36 (by omega) (by omega) ⟨rfl, ψ⟩) (QL rfl rfl ty_59 (ldM eI3_len (by omega) (by omega)) (QF rfl s47 fl_38_2 (QL rfl rfl ty_36 rfl (QV rfl s45 (Q rfl (fun _ _ φ ψ => iS_ rfl (φ 62 rfl) (φ 63 rfl) sl_36 (by omega) (by omega) ⟨rfl, ψ⟩) (QL rfl rfl ty_59 (ldM eI3_len (by omega) (by omega)) (Q rfl (fun _ _ φ ψ => AOp.neAggD rfl (φ 60 rfl) (φ 65 rfl) teq59 (kokI3 (hat _ (at_mem (by omega) (by omega)))) (kokI3 (hbt _ (at_mem (by omega) (by omega)))) (eI3_iff (at_ a.Tris j) (at_ b.Tris j)) ⟨rfl, ψ⟩) ?_))))))))))
 refine QE.done fun H50 m51 => ?_
 have m52 := m48.trans m51
 refine AOps.nil ?_
 change AWP _ _ _ _ _ _
 by_cases b53 : (at_ a.Tris j) = (at_ b.Tris j)
 refine cf_ rfl (nb (decide_eq_true b53)) ?_
 refine AWP.skip ?_
 refine AWP.region rfl ?_
 refine V rfl s45 (B rfl rfl rfl (iadd (by omega)) (A rfl rfl ?_))
 refine AOps.nil ?_
 exact ⟨_, by omega, j + 1, rfl, rfl, s46, s47, m52, by omega, by omega, by assumption, by assumption, by omega, by exact pre_step preT (b53)⟩
 refine ct_ rfl (nb (decide_eq_false b53)) ?_
 refine Sr ?_
 refine A rfl rfl ?_
 refine rt_ ?_
 refine Rr (Res.one rfl rfl) ?_ m52
 exact (congrArg AV.bool (rfl.trans (decide_eq_false (show ¬ (a.Verts = b.Verts ∧ a.Keys = b.Keys ∧ a.Tris = b.Tris) from by rintro ⟨e1, e2, e3⟩; exact b53 (by rw [e3]))).symm))
 refine cf_ rfl (decide_eq_false b49) ?_
 refine AWP.exit ?_
 change AWP _ _ _ _ _ _
 refine Sr ?_
 refine A rfl rfl ?_
 refine rt_ ?_
 refine Rr (Res.one rfl rfl) ?_ m48
 exact (congrArg AV.bool (rfl.trans (decide_eq_true (show a.Verts = b.Verts ∧ a.Keys = b.Keys ∧ a.Tris = b.Tris from by exact ⟨b27, ext_at (by omega) (fun q h1 h2 => preK q h1 (by omega)), ext_at (by omega) (fun q h1 h2 => preT q h1 (by omega))⟩)).symm))
 refine ct_ rfl (nb (decide_eq_false b29)) ?_
 refine Sr ?_
 refine A rfl rfl ?_
 refine rt_ ?_
 refine Rr (Res.one rfl rfl) ?_ m26
 exact (congrArg AV.bool (rfl.trans (decide_eq_false (show ¬ (a.Verts = b.Verts ∧ a.Keys = b.Keys ∧ a.Tris = b.Tris) from by rintro ⟨e1, e2, e3⟩; exact b29 (by rw [e3]))).symm))
 refine N rfl rfl (nb (decide_eq_false b28)) (N rfl rfl (nb (decide_eq_false b28)) (N rfl rfl (nb (decide_eq_false b28)) (N rfl rfl (nb (decide_eq_false b28)) (N rfl rfl (nb (decide_eq_false b28)) (N rfl rfl (nb (decide_eq_false b28)) (N rfl rfl (nb (decide_eq_false b28)) (C rfl (Pt _ rfl rfl (nb (decide_eq_false b28)) rfl ?_))))))))
 refine ct_ rfl rfl ?_
 refine Sr ?_
 refine A rfl rfl ?_
 refine rt_ ?_
 refine Rr (Res.one rfl rfl) ?_ m26
 exact (congrArg AV.bool (rfl.trans (decide_eq_false (show ¬ (a.Verts = b.Verts ∧ a.Keys = b.Keys ∧ a.Tris = b.Tris) from by rintro ⟨e1, e2, e3⟩; exact b28 (by rw [e2]))).symm))
 refine N rfl rfl (nb (decide_eq_false b27)) (N rfl rfl (nb (decide_eq_false b27)) (N rfl rfl (nb (decide_eq_false b27)) (N rfl rfl (nb (decide_eq_false b27)) (N rfl rfl (nb (decide_eq_false b27)) (N rfl rfl (nb (decide_eq_false b27)) (N rfl rfl (nb (decide_eq_false b27)) (C rfl (Pt _ rfl rfl (nb (decide_eq_false b27)) rfl (V rfl rfl (N rfl rfl rfl (N rfl rfl rfl (N rfl rfl rfl (N rfl rfl rfl (N rfl rfl rfl (N rfl rfl rfl (N rfl rfl rfl (C rfl (Pt _ rfl rfl rfl rfl ?_))))))))))))))))))
 refine ct_ rfl rfl ?_
 refine Sr ?_
 refine A rfl rfl ?_
 refine rt_ ?_
 refine Rr (Res.one rfl rfl) ?_ m26
 exact (congrArg AV.bool (rfl.trans (decide_eq_false (show ¬ (a.Verts = b.Verts ∧ a.Keys = b.Keys ∧ a.Tris = b.Tris) from by rintro ⟨e1, e2, e3⟩; exact b27 e1)).symm))
end Go.Proofs.M
namespace Go.Proofs.M
open Go Go.AH
def rg (a b : Int) : List Int := (List.range (b - a).toNat).map fun k : Nat => a + (k : Int)
theorem rg_nil {a b : Int} (h : b ≤ a) : rg a b = [] := by
  unfold rg; rw [show (b - a).toNat = 0 by omega]; rfl
theorem rg_snoc {a b : Int} (h : a ≤ b) : rg a (b + 1) = rg a b ++ [b] := by
  unfold rg
  rw [show (b + 1 - a).toNat = (b - a).toNat + 1 by omega, List.range_succ, List.map_append]
  simp only [List.map_cons, List.map_nil]
  rw [show a + ((b - a).toNat : Int) = b by omega]
theorem mem_rg {a b x : Int} : x ∈ rg a b ↔ a ≤ x ∧ x < b := by
  unfold rg
  simp only [List.mem_map, List.mem_range]
  constructor
  · rintro ⟨k, h, rfl⟩; omega
  · rintro ⟨h1, h2⟩; exact ⟨(x - a).toNat, by omega, by omega⟩
theorem rg_len {a b : Int} : (rg a b).length = (b - a).toNat := by simp [rg]
theorem fm_le {α β : Type} {f : α → List β} {c : Nat} : ∀ {l : List α}, (∀ x ∈ l, (f x).length ≤ c) → (l.flatMap f).length ≤ l.length * c
  | [], _ => by simp
  | a :: l, h => by
    rw [List.flatMap_cons, List.length_append, List.length_cons, Nat.add_mul]
    have := h a (.head _)
    have := fm_le (l := l) fun x hx => h x (.tail _ hx)
    omega
def cor (k : Int) : SpotT := ⟨1, k, 0⟩
def edg (k i : Int) : SpotT := ⟨2, k, i⟩
def inn (a b : Int) : SpotT := ⟨3, a, b⟩
def corL (k : Int) : List SpotT := (rg 0 k).map cor
def edgI (k i : Int) : List SpotT := (rg 1 i).map (edg k)
def edgO (rs : List Int) (k : Int) : List SpotT := (rg 0 k).flatMap fun k => edgI k (at_ rs k)
def innI (b a : Int) : List SpotT := (rg 1 a).map fun a => inn a b
def innO (m b : Int) : List SpotT := (rg 1 b).flatMap fun b => innI b m
def spotsL (rs : List Int) (m : Int) : List SpotT := corL 4 ++ edgO rs 4 ++ innO m m
def rates (rs : List Int) : Prop := ∀ k : Int, 0 ≤ k → k < 4 → 1 ≤ at_ rs k ∧ at_ rs k ≤ 16
theorem corL_step {k : Int} (h : 0 ≤ k) : corL (k + 1) = corL k ++ [cor k] := by unfold corL; rw [rg_snoc h]; simp
theorem edgI_step {k i : Int} (h : 1 ≤ i) : edgI k (i + 1) = edgI k i ++ [edg k i] := by unfold edgI; rw [rg_snoc h]; simp
theorem edgO_step {rs : List Int} {k : Int} (h : 0 ≤ k) : edgO rs (k + 1) = edgO rs k ++ edgI k (at_ rs k) := by unfold edgO; rw [rg_snoc h]; simp
theorem innI_step {b a : Int} (h : 1 ≤ a) : innI b (a + 1) = innI b a ++ [inn a b] := by unfold innI; rw [rg_snoc h]; simp
theorem innO_step {m b : Int} (h : 1 ≤ b) : innO m (b + 1) = innO m b ++ innI b m := by unfold innO; rw [rg_snoc h]; simp
theorem edgO_0 {rs : List Int} : edgO rs 0 = [] := rfl
theorem edgI_1 {k i : Int} (h : i ≤ 1) : edgI k i = [] := by unfold edgI; rw [rg_nil h]; rfl
theorem innI_1 {b i : Int} (h : i ≤ 1) : innI b i = [] := by unfold innI; rw [rg_nil h]; rfl
theorem innO_1 {m i : Int} (h : i ≤ 1) : innO m i = [] := by unfold innO; rw [rg_nil h]; rfl
theorem corL_len {k : Int} (h : k ≤ 4) : (corL k).length ≤ 4 := by unfold corL; rw [List.length_map, rg_len]; omega
theorem edgI_len {k i : Int} (h : i ≤ 16) : (edgI k i).length ≤ 16 := by unfold edgI; rw [List.length_map, rg_len]; omega
theorem innI_len {k i : Int} (h : i ≤ 16) : (innI k i).length ≤ 16 := by unfold innI; rw [List.length_map, rg_len]; omega
theorem edgO_len {rs : List Int} {k : Int} (hr : rates rs) (h : k ≤ 4) : (edgO rs k).length ≤ 64 := by
  have h1 := fm_le (l := rg 0 k) (f := fun k => edgI k (at_ rs k)) (c := 16) fun x hx => edgI_len (hr x (mem_rg.1 hx).1 (by have := (mem_rg.1 hx).2; omega)).2
  have h2 := rg_len (a := 0) (b := k)
  unfold edgO; omega
theorem innO_len {m b : Int} (hm : m ≤ 16) (h : b ≤ 16) : (innO m b).length ≤ 256 := by
  have h1 := fm_le (l := rg 1 b) (f := fun b => innI b m) (c := 16) fun x hx => innI_len hm
  have h2 := rg_len (a := 1) (b := b)
  unfold innO; omega
theorem mem_cor {s : SpotT} {k : Int} : s ∈ corL k ↔ s.Kind = 1 ∧ 0 ≤ s.A ∧ s.A < k ∧ s.B = 0 := by
  unfold corL cor
  simp only [List.mem_map, mem_rg]
  constructor
  · rintro ⟨x, ⟨h1, h2⟩, rfl⟩; exact ⟨rfl, h1, h2, rfl⟩
  · rintro ⟨h1, h2, h3, h4⟩; exact ⟨s.A, ⟨h2, h3⟩, by cases s; simp_all⟩
theorem mem_edgI {s : SpotT} {k i : Int} : s ∈ edgI k i ↔ s.Kind = 2 ∧ s.A = k ∧ 1 ≤ s.B ∧ s.B < i := by
  unfold edgI edg
  simp only [List.mem_map, mem_rg]
  constructor
  · rintro ⟨x, ⟨h1, h2⟩, rfl⟩; exact ⟨rfl, rfl, h1, h2⟩
  · rintro ⟨h1, h2, h3, h4⟩; exact ⟨s.B, ⟨h3, h4⟩, by cases s; simp_all⟩
theorem mem_edgO {s : SpotT} {rs : List Int} {k : Int} : s ∈ edgO rs k ↔ s.Kind = 2 ∧ 0 ≤ s.A ∧ s.A < k ∧ 1 ≤ s.B ∧ s.B < at_ rs s.A := by
  unfold edgO
  simp only [List.mem_flatMap, mem_rg, mem_edgI]
  constructor
  · rintro ⟨x, ⟨h1, h2⟩, h3, rfl, h4, h5⟩; exact ⟨h3, h1, h2, h4, h5⟩
  · rintro ⟨h1, h2, h3, h4, h5⟩; exact ⟨s.A, ⟨h2, h3⟩, h1, rfl, h4, h5⟩
theorem mem_innI {s : SpotT} {b i : Int} : s ∈ innI b i ↔ s.Kind = 3 ∧ s.B = b ∧ 1 ≤ s.A ∧ s.A < i := by
  unfold innI inn
  simp only [List.mem_map, mem_rg]
  constructor
  · rintro ⟨x, ⟨h1, h2⟩, rfl⟩; exact ⟨rfl, rfl, h1, h2⟩
  · rintro ⟨h1, h2, h3, h4⟩; exact ⟨s.A, ⟨h3, h4⟩, by cases s; simp_all⟩
theorem mem_innO {s : SpotT} {m b : Int} : s ∈ innO m b ↔ s.Kind = 3 ∧ 1 ≤ s.A ∧ s.A < m ∧ 1 ≤ s.B ∧ s.B < b := by
  unfold innO
  simp only [List.mem_flatMap, mem_rg, mem_innI]
  constructor
  · rintro ⟨x, ⟨h1, h2⟩, h3, rfl, h4, h5⟩; exact ⟨h3, h4, h5, h1, h2⟩
  · rintro ⟨h1, h2, h3, h4, h5⟩; exact ⟨s.B, ⟨h4, h5⟩, h1, rfl, h2, h3⟩
theorem mem_spots {s : SpotT} {rs : List Int} {m : Int} : s ∈ spotsL rs m ↔ (s.Kind = 1 ∧ 0 ≤ s.A ∧ s.A < 4 ∧ s.B = 0) ∨ (s.Kind = 2 ∧ 0 ≤ s.A ∧ s.A < 4 ∧ 1 ≤ s.B ∧ s.B < at_ rs s.A) ∨ (s.Kind = 3 ∧ 1 ≤ s.A ∧ s.A < m ∧ 1 ≤ s.B ∧ s.B < m) := by
  unfold spotsL
  rw [List.mem_append, List.mem_append, mem_cor, mem_edgO, mem_innO]
  exact or_assoc
def numL : List SpotT → SpotT → Int
  | [], _ => -1
  | x :: l, s => if x = s then 0 else if numL l s < 0 then -1 else numL l s + 1
theorem numL_not {s : SpotT} : ∀ {l : List SpotT}, s ∉ l → numL l s = -1
  | [], _ => rfl
  | x :: l, h => by
    have h1 : x ≠ s := fun e => h (e ▸ .head _)
    have h2 := numL_not (l := l) fun g => h (.tail _ g)
    unfold numL; rw [if_neg h1, if_pos (by omega)]
theorem numL_mem {s : SpotT} : ∀ {l : List SpotT}, s ∈ l → 0 ≤ numL l s ∧ numL l s < l.length ∧ at_ l (numL l s) = s
  | [], h => by cases h
  | x :: l, h => by
    unfold numL
    by_cases e : x = s
    · rw [if_pos e]; refine ⟨by omega, by simp only [List.length_cons]; omega, ?_⟩; simpa [at_] using e
    · rw [if_neg e]
      have h1 : s ∈ l := by cases h with | head => exact absurd rfl e | tail _ h => exact h
      obtain ⟨h2, h3, h4⟩ := numL_mem h1
      rw [if_neg (by omega)]
      refine ⟨by omega, by simp only [List.length_cons]; omega, ?_⟩
      unfold at_ at h4 ⊢
      rw [show (numL l s + 1).toNat = (numL l s).toNat + 1 by omega, List.getD_cons_succ]
      exact h4
theorem numL_of {l : List SpotT} {s : SpotT} {i : Int} (h0 : 0 ≤ i) (h1 : i < l.length) (hp : ∀ j : Int, 0 ≤ j → j < i → at_ l j ≠ s) (hi : at_ l i = s) : numL l s = i := by
  induction l generalizing i with
  | nil => simp at h1; omega
  | cons x l ih =>
    unfold numL
    by_cases e : i = 0
    · subst e; rw [if_pos (by simpa [at_] using hi)]
    · have h2 : x ≠ s := by simpa [at_] using hp 0 (by omega) (by omega)
      have sh : ∀ j : Int, 0 ≤ j → at_ (x :: l) (j + 1) = at_ l j := fun j hj => by
        unfold at_; rw [show (j + 1).toNat = j.toNat + 1 by omega, List.getD_cons_succ]
      have h3 := ih (i := i - 1) (by omega) (by simp only [List.length_cons] at h1; omega) (fun j h0 h1 => by rw [← sh j h0]; exact hp _ (by omega) (by omega)) (by rw [← sh _ (by omega), show i - 1 + 1 = i by omega]; exact hi)
      rw [if_neg h2, h3, if_neg (by omega)]; omega
theorem numL_none {l : List SpotT} {s : SpotT} (hp : ∀ j : Int, 0 ≤ j → j < l.length → at_ l j ≠ s) : numL l s = -1 := by
  refine numL_not fun h => ?_
  obtain ⟨a, b, c⟩ := numL_mem h
  exact hp _ a b c
def plcF : Nat → List SpotT → List (AV × AV)
  | _, [] => []
  | n, s :: l => (.agg (eSpot s), .int .i64 n) :: plcF (n + 1) l
def plc (l : List SpotT) : List (AV × AV) := plcF 0 l
theorem eSpot_inj {a b : SpotT} (h : eSpot a = eSpot b) : a = b := (eSpot_iff a b).2 h
theorem plcF_snoc {s : SpotT} : ∀ {l : List SpotT} {n : Nat}, plcF n (l ++ [s]) = plcF n l ++ [(.agg (eSpot s), .int .i64 ((n + l.length : Nat) : Int))]
  | [], n => by simp [plcF]
  | x :: l, n => by
    simp only [List.cons_append, plcF, plcF_snoc (l := l), List.length_cons]
    rw [show n + 1 + l.length = n + (l.length + 1) by omega]
theorem mgetF {s : SpotT} : ∀ {l : List SpotT} {n : Nat}, mget (plcF n l) (.agg (eSpot s)) = if s ∈ l then some (.int .i64 (n + numL l s)) else none
  | [], n => by simp [plcF, mget]
  | x :: l, n => by
    have ih := mgetF (s := s) (l := l) (n := n + 1)
    have hr : mget (plcF n (x :: l)) (.agg (eSpot s)) = if x = s then some (.int .i64 (n : Int)) else mget (plcF (n + 1) l) (.agg (eSpot s)) := by
      unfold mget
      simp only [plcF, List.find?_cons]
      by_cases e : x = s
      · subst e; simp
      · have : ¬ (AV.agg (eSpot x) = AV.agg (eSpot s)) := fun h => e (eSpot_inj (by simpa using h))
        simp [this, e]
    rw [hr, ih]
    by_cases e : x = s
    · subst e; simp [numL]
    · by_cases m : s ∈ l
      · have := numL_mem m
        rw [if_neg e, if_pos m, if_pos (.tail _ m)]
        have g : numL (x :: l) s = numL l s + 1 := by
          show (if x = s then (0 : Int) else if numL l s < 0 then -1 else numL l s + 1) = _
          rw [if_neg e, if_neg (by omega)]
        rw [g]; congr 2; push_cast; omega
      · rw [if_neg e, if_neg m, if_neg]
        intro h; cases h with | head => exact e rfl | tail _ h => exact m h
theorem mget_plc {l : List SpotT} {s : SpotT} (h : s ∈ l) : (mget (plc l) (.agg (eSpot s))).getD (.int .i64 0) = .int .i64 (numL l s) := by
  unfold plc; rw [mgetF, if_pos h]; simp
theorem mput_plc {l : List SpotT} {s : SpotT} (h : s ∉ l) : mput (plc l) (.agg (eSpot s)) (.int .i64 (l.length : Int)) = plc (l ++ [s]) := by
  unfold mput plc
  rw [mgetF, if_neg h, plcF_snoc]; simp
theorem plc_keys {l : List SpotT} (h : ∀ s ∈ l, ranS s) : ∀ e ∈ plc l, KOK Tryd.prog 76 e.1 := by
  unfold plc
  generalize 0 = n
  induction l generalizing n with
  | nil => intro e h; cases h
  | cons x l ih =>
    intro e he
    simp only [plcF] at he
    rcases List.mem_cons.1 he with rfl | he
    · exact kokS (h _ (.head _))
    · exact ih (fun s hs => h s (.tail _ hs)) _ e he
theorem ranS_small {s : SpotT} (h1 : 0 ≤ s.Kind ∧ s.Kind ≤ 3) (h2 : -100 ≤ s.A ∧ s.A ≤ 100) (h3 : -100 ≤ s.B ∧ s.B ≤ 100) : ranS s := by
  simp only [ranS, inR]; omega
theorem ranS_cor {k : Int} (h : k ≤ 4) : ∀ s ∈ corL k, ranS s := fun s hs => by have := mem_cor.1 hs; exact ranS_small (by omega) (by omega) (by omega)
theorem ranS_edgI {k i : Int} (hk : 0 ≤ k ∧ k < 4) (h : i ≤ 16) : ∀ s ∈ edgI k i, ranS s := fun s hs => by have := mem_edgI.1 hs; exact ranS_small (by omega) (by omega) (by omega)
theorem ranS_edgO {rs : List Int} {k : Int} (hr : rates rs) (hk : k ≤ 4) : ∀ s ∈ edgO rs k, ranS s := fun s hs => by
  have := mem_edgO.1 hs; have := hr s.A (by omega) (by omega); exact ranS_small (by omega) (by omega) (by omega)
theorem ranS_innI {b i : Int} (hb : 0 ≤ b ∧ b ≤ 16) (h : i ≤ 16) : ∀ s ∈ innI b i, ranS s := fun s hs => by have := mem_innI.1 hs; exact ranS_small (by omega) (by omega) (by omega)
theorem ranS_innO {m b : Int} (hm : m ≤ 16) (h : b ≤ 16) : ∀ s ∈ innO m b, ranS s := fun s hs => by have := mem_innO.1 hs; exact ranS_small (by omega) (by omega) (by omega)
theorem ranS_spots {rs : List Int} {m : Int} (hr : rates rs) (hm : m ≤ 16) : ∀ s ∈ spotsL rs m, ranS s := fun s hs => by
  unfold spotsL at hs
  rcases List.mem_append.1 hs with hs | hs
  · rcases List.mem_append.1 hs with hs | hs
    · exact ranS_cor (by omega) s hs
    · exact ranS_edgO hr (by omega) s hs
  · exact ranS_innO hm hm s hs
theorem numL_cor {rs : List Int} {m k : Int} (h0 : 0 ≤ k) (h1 : k < 4) : numL (spotsL rs m) (cor k) = k := by
  have e : spotsL rs m = cor 0 :: cor 1 :: cor 2 :: cor 3 :: (edgO rs 4 ++ innO m m) := by
    unfold spotsL; rw [List.append_assoc]; rfl
  rw [e]
  rcases (by omega : k = 0 ∨ k = 1 ∨ k = 2 ∨ k = 3) with rfl | rfl | rfl | rfl <;> simp [numL, cor]
def outS (k i r : Int) : SpotT := if i = 0 then cor k else if i = r then cor ((k + 1) % 4) else edg k i
def besS (k t m : Int) : SpotT := if k = 0 then inn t 1 else if k = 1 then inn (m - 1) t else if k = 2 then inn (m - t) (m - 1) else inn 1 (m - t)
def midC (N : SpotT → Int) (b a : Int) : List I3T := [⟨N (inn a b), N (inn (a + 1) b), N (inn (a + 1) (b + 1))⟩, ⟨N (inn a b), N (inn (a + 1) (b + 1)), N (inn a (b + 1))⟩]
def midI (N : SpotT → Int) (b a : Int) : List I3T := (rg 1 a).flatMap (midC N b)
def midO (N : SpotT → Int) (m b : Int) : List I3T := (rg 1 b).flatMap fun b => midI N b (m - 1)
theorem midI_step {N : SpotT → Int} {b a : Int} (h : 1 ≤ a) : midI N b (a + 1) = midI N b a ++ midC N b a := by unfold midI; rw [rg_snoc h]; simp
theorem midO_step {N : SpotT → Int} {m b : Int} (h : 1 ≤ b) : midO N m (b + 1) = midO N m b ++ midI N b (m - 1) := by unfold midO; rw [rg_snoc h]; simp
theorem midI_1 {N : SpotT → Int} {b i : Int} (h : i ≤ 1) : midI N b i = [] := by unfold midI; rw [rg_nil h]; rfl
theorem midI_len {N : SpotT → Int} {b a : Int} (h : a ≤ 16) : (midI N b a).length ≤ 32 := by
  have h1 := fm_le (l := rg 1 a) (f := midC N b) (c := 2) fun x hx => Nat.le_refl 2
  have h2 := rg_len (a := 1) (b := a)
  unfold midI; omega
theorem midO_len {N : SpotT → Int} {m b : Int} (hm : m ≤ 16) (h : b ≤ 16) : (midO N m b).length ≤ 512 := by
  have h1 := fm_le (l := rg 1 b) (f := fun b => midI N b (m - 1)) (c := 32) fun x hx => midI_len (by omega)
  have h2 := rg_len (a := 1) (b := b)
  unfold midO; omega
def strF (N : SpotT → Int) (k r m : Int) : Nat → Int → Int → List I3T
  | 0, _, _ => []
  | n + 1, i, t =>
    if i < r ∨ t < m - 1 then
      if i < r ∧ (t = m - 1 ∨ (2 * i + 1) * m ≤ (2 * t + 1) * r) then ⟨N (outS k i r), N (outS k (i + 1) r), N (besS k t m)⟩ :: strF N k r m n (i + 1) t
      else ⟨N (outS k i r), N (besS k (t + 1) m), N (besS k t m)⟩ :: strF N k r m n i (t + 1)
    else []
def strT (N : SpotT → Int) (k r m i t : Int) : List I3T := strF N k r m ((r - i) + (m - 1 - t)).toNat i t
theorem strT_end {N : SpotT → Int} {k r m i t : Int} (h1 : i = r) (h2 : t = m - 1) : strT N k r m i t = [] := by
  unfold strT; rw [show ((r - i) + (m - 1 - t)).toNat = 0 by omega]; rfl
theorem strT_out {N : SpotT → Int} {k r m i t : Int} (h1 : i ≤ r) (h2 : t ≤ m - 1) (h : i < r ∧ (t = m - 1 ∨ (2 * i + 1) * m ≤ (2 * t + 1) * r)) : strT N k r m i t = ⟨N (outS k i r), N (outS k (i + 1) r), N (besS k t m)⟩ :: strT N k r m (i + 1) t := by
  unfold strT
  rw [show ((r - i) + (m - 1 - t)).toNat = ((r - (i + 1)) + (m - 1 - t)).toNat + 1 by omega]
  unfold strF
  rw [if_pos (.inl h.1), if_pos h]
  cases ((r - (i + 1)) + (m - 1 - t)).toNat <;> rfl
theorem strT_in {N : SpotT → Int} {k r m i t : Int} (h1 : i ≤ r) (h2 : t < m - 1) (h : ¬ (i < r ∧ (t = m - 1 ∨ (2 * i + 1) * m ≤ (2 * t + 1) * r))) : strT N k r m i t = ⟨N (outS k i r), N (besS k (t + 1) m), N (besS k t m)⟩ :: strT N k r m i (t + 1) := by
  unfold strT
  rw [show ((r - i) + (m - 1 - t)).toNat = ((r - i) + (m - 1 - (t + 1))).toNat + 1 by omega]
  unfold strF
  rw [if_pos (.inr h2), if_neg h]
  cases ((r - i) + (m - 1 - (t + 1))).toNat <;> rfl
def strO (N : SpotT → Int) (rs : List Int) (m k : Int) : List I3T := (rg 0 k).flatMap fun k => strT N k (at_ rs k) m 0 1
theorem strO_step {N : SpotT → Int} {rs : List Int} {m k : Int} (h : 0 ≤ k) : strO N rs m (k + 1) = strO N rs m k ++ strT N k (at_ rs k) m 0 1 := by unfold strO; rw [rg_snoc h]; simp
theorem strF_len {N : SpotT → Int} {k r m : Int} : ∀ {n : Nat} {i t : Int}, (strF N k r m n i t).length ≤ n
  | 0, _, _ => by simp [strF]
  | n + 1, i, t => by
    unfold strF
    split
    · split
      · simp only [List.length_cons]; have := strF_len (N := N) (k := k) (r := r) (m := m) (n := n) (i := i + 1) (t := t); omega
      · simp only [List.length_cons]; have := strF_len (N := N) (k := k) (r := r) (m := m) (n := n) (i := i) (t := t + 1); omega
    · simp
theorem strO_len {N : SpotT → Int} {rs : List Int} {m k : Int} (hr : rates rs) (hm : m ≤ 16) (hk : k ≤ 4) : (strO N rs m k).length ≤ 128 := by
  have h1 := fm_le (l := rg 0 k) (f := fun k => strT N k (at_ rs k) m 0 1) (c := 32) fun x hx => by
    have h := mem_rg.1 hx
    have h2 := hr x h.1 (by omega)
    have := strF_len (N := N) (k := x) (r := at_ rs x) (m := m) (n := ((at_ rs x - 0) + (m - 1 - 1)).toNat) (i := 0) (t := 1)
    show (strT N x (at_ rs x) m 0 1).length ≤ 32
    unfold strT; omega
  have h2 := rg_len (a := 0) (b := k)
  unfold strO; omega
def trisL (N : SpotT → Int) (rs : List Int) (m : Int) : List I3T := if m = 1 then [⟨0, 1, 2⟩, ⟨0, 2, 3⟩] else midO N m (m - 1) ++ strO N rs m 4
def weaveR (rs : List Int) : List SpotT × List I3T × Bool :=
  if minL rs < 1 ∨ maxL rs > 16 then ([], [], false) else (spotsL rs (maxL rs), trisL (numL (spotsL rs (maxL rs))) rs (maxL rs), true)
end Go.Proofs.M
namespace Go.Proofs.M
open Go Go.AH
theorem ne_step {l : List SpotT} {s : SpotT} {i : Int} (h : ∀ j : Int, 0 ≤ j → j < i → at_ l j ≠ s) (hi : ¬ at_ l i = s) : ∀ j : Int, 0 ≤ j → j < i + 1 → at_ l j ≠ s := by
  intro j h1 h2
  by_cases e : j = i
  · subst e; exact hi
  · exact h j h1 (by omega)
theorem bes_rng {k t m : Int} (hk : 0 ≤ k ∧ k < 4) (ht : 1 ≤ t ∧ t < m) : 1 ≤ (at_ ([(I2T.mk t 1), (I2T.mk (m - 1) t), (I2T.mk (m - t) (m - 1)), (I2T.mk 1 (m - t))] : List I2T) k).x0 ∧ (at_ ([(I2T.mk t 1), (I2T.mk (m - 1) t), (I2T.mk (m - t) (m - 1)), (I2T.mk 1 (m - t))] : List I2T) k).x0 < m ∧ 1 ≤ (at_ ([(I2T.mk t 1), (I2T.mk (m - 1) t), (I2T.mk (m - t) (m - 1)), (I2T.mk 1 (m - t))] : List I2T) k).x1 ∧ (at_ ([(I2T.mk t 1), (I2T.mk (m - 1) t), (I2T.mk (m - t) (m - 1)), (I2T.mk 1 (m - t))] : List I2T) k).x1 < m := by
  rcases (by omega : k = 0 ∨ k = 1 ∨ k = 2 ∨ k = 3) with rfl | rfl | rfl | rfl <;> simp [at_] <;> omega
theorem bes_eq {k t m : Int} (hk : 0 ≤ k ∧ k < 4) : inn (at_ ([(I2T.mk t 1), (I2T.mk (m - 1) t), (I2T.mk (m - t) (m - 1)), (I2T.mk 1 (m - t))] : List I2T) k).x0 (at_ ([(I2T.mk t 1), (I2T.mk (m - 1) t), (I2T.mk (m - t) (m - 1)), (I2T.mk 1 (m - t))] : List I2T) k).x1 = besS k t m := by
  rcases (by omega : k = 0 ∨ k = 1 ∨ k = 2 ∨ k = 3) with rfl | rfl | rfl | rfl <;> simp [at_, besS]
end Go.Proofs.M
namespace Go.Proofs.M
open Go Go.AH
theorem spot_inn {rs : List Int} {m a b : Int} (h1 : 1 ≤ a) (h2 : a < m) (h3 : 1 ≤ b) (h4 : b < m) : inn a b ∈ spotsL rs m := mem_spots.2 (.inr (.inr ⟨rfl, h1, h2, h3, h4⟩))
theorem spot_edg {rs : List Int} {m k i : Int} (h1 : 0 ≤ k) (h2 : k < 4) (h3 : 1 ≤ i) (h4 : i < at_ rs k) : edg k i ∈ spotsL rs m := mem_spots.2 (.inr (.inl ⟨rfl, h1, h2, h3, h4⟩))
end Go.Proofs.M
namespace Go.Proofs.M
open Go Go.AH
theorem ranS_mk {x a b : Int} (h1 : 0 ≤ x ∧ x ≤ 3) (h2 : -100 ≤ a ∧ a ≤ 100) (h3 : -100 ≤ b ∧ b ≤ 100) : ranS (SpotT.mk x a b) := ranS_small h1 h2 h3
theorem ranS_inn {a b : Int} (h2 : -100 ≤ a ∧ a ≤ 100) (h3 : -100 ≤ b ∧ b ≤ 100) : ranS (inn a b) := ranS_mk (by omega) h2 h3
theorem ranS_out {k i r : Int} (h2 : 0 ≤ k ∧ k < 4) (h3 : -100 ≤ i ∧ i ≤ 100) : ranS (outS k i r) := by
  unfold outS
  split
  · exact ranS_mk (by omega) (by omega) (by omega)
  · split
    · exact ranS_mk (by omega) (by omega) (by omega)
    · exact ranS_mk (by omega) (by omega) (by omega)
theorem ranS_bes {k t m : Int} (h2 : 0 ≤ t ∧ t ≤ 16) (h3 : 1 ≤ m ∧ m ≤ 16) : ranS (besS k t m) := by
  unfold besS
  (repeat' split) <;> exact ranS_mk (by omega) (by omega) (by omega)
theorem lay_cor {k : Int} (h0 : 0 ≤ k) (h4 : k < 4) : SpotT.mk 1 k 0 ∉ corL k ∧ (∀ x ∈ corL k, ranS x) ∧ (corL k).length ≤ 400 ∧ ranS (SpotT.mk 1 k 0) :=
  ⟨fun h => by have := (mem_cor.1 h).2.2.1; simp only at this; omega, ranS_cor (by omega), by have := corL_len (k := k) (by omega); omega, ranS_mk (by omega) (by omega) (by omega)⟩
theorem lay_edg {rs : List Int} {k i : Int} (hr : rates rs) (h0 : 0 ≤ k) (h4 : k < 4) (h1 : 1 ≤ i) (h2 : i < at_ rs k) : SpotT.mk 2 k i ∉ corL 4 ++ edgO rs k ++ edgI k i ∧ (∀ x ∈ corL 4 ++ edgO rs k ++ edgI k i, ranS x) ∧ (corL 4 ++ edgO rs k ++ edgI k i).length ≤ 400 ∧ ranS (SpotT.mk 2 k i) := by
  have hk := hr k h0 h4
  refine ⟨fun h => ?_, fun x h => ?_, ?_, ranS_mk (by omega) (by omega) (by omega)⟩
  · rcases List.mem_append.1 h with h | h
    · rcases List.mem_append.1 h with h | h
      · have := (mem_cor.1 h).1; simp only at this; omega
      · have := (mem_edgO.1 h).2.2.1; simp only at this; omega
    · have := (mem_edgI.1 h).2.2.2; simp only at this; omega
  · rcases List.mem_append.1 h with h | h
    · rcases List.mem_append.1 h with h | h
      · exact ranS_cor (by omega) x h
      · exact ranS_edgO hr (by omega) x h
    · exact ranS_edgI ⟨h0, h4⟩ (by omega) x h
  · have := corL_len (k := 4) (by omega)
    have := edgO_len hr (k := k) (by omega)
    have := edgI_len (k := k) (i := i) (by omega)
    simp only [List.length_append]; omega
theorem lay_inn {rs : List Int} {m b a : Int} (hr : rates rs) (hm : m ≤ 16) (hb1 : 1 ≤ b) (hb : b < m) (h1 : 1 ≤ a) (h2 : a < m) : SpotT.mk 3 a b ∉ corL 4 ++ edgO rs 4 ++ innO m b ++ innI b a ∧ (∀ x ∈ corL 4 ++ edgO rs 4 ++ innO m b ++ innI b a, ranS x) ∧ (corL 4 ++ edgO rs 4 ++ innO m b ++ innI b a).length ≤ 400 ∧ ranS (SpotT.mk 3 a b) := by
  refine ⟨fun h => ?_, fun x h => ?_, ?_, ranS_mk (by omega) (by omega) (by omega)⟩
  · rcases List.mem_append.1 h with h | h
    · rcases List.mem_append.1 h with h | h
      · rcases List.mem_append.1 h with h | h
        · have := (mem_cor.1 h).1; simp only at this; omega
        · have := (mem_edgO.1 h).1; simp only at this; omega
      · have := (mem_innO.1 h).2.2.2.2; simp only at this; omega
    · have := (mem_innI.1 h).2.2.2; simp only at this; omega
  · rcases List.mem_append.1 h with h | h
    · rcases List.mem_append.1 h with h | h
      · rcases List.mem_append.1 h with h | h
        · exact ranS_cor (by omega) x h
        · exact ranS_edgO hr (by omega) x h
      · exact ranS_innO hm (by omega) x h
    · exact ranS_innI (by omega) (by omega) x h
  · have := corL_len (k := 4) (by omega)
    have := edgO_len hr (k := 4) (by omega)
    have := innO_len hm (b := b) (by omega)
    have := innI_len (k := b) (i := a) (by omega)
    simp only [List.length_append]; omega
theorem rates_of {rs : List Int} (h : rs.length = 4) (h1 : ¬ minL rs < 1) (h2 : ¬ maxL rs > 16) : rates rs := by
  intro k h0 h4
  have e1 := (minL_iff (l := rs) (by omega) (c := 1)).1 (by omega) (at_ rs k) (at_mem (by omega) (by omega))
  have e2 := (maxL_iff (l := rs) (by omega) (c := 16)).1 (by omega) (at_ rs k) (at_mem (by omega) (by omega))
  exact ⟨e1, e2⟩
theorem max_ge {rs : List Int} (h : rs.length = 4) (hr : rates rs) : 1 ≤ maxL rs := by
  have h0 := hr 0 (by omega) (by omega)
  have := (maxL_iff (l := rs) (by omega) (c := maxL rs)).1 (Int.le_refl _) (at_ rs 0) (at_mem (by omega) (by omega))
  omega
theorem strO_0 {N : SpotT → Int} {rs : List Int} {m : Int} : strO N rs m 0 = [] := rfl
theorem spots_len {rs : List Int} {m : Int} (hr : rates rs) (hm : m ≤ 16) : (spotsL rs m).length ≤ 400 := by
  have := corL_len (k := 4) (by omega)
  have := edgO_len hr (k := 4) (by omega)
  have := innO_len hm (b := m) (by omega)
  unfold spotsL
  simp only [List.length_append]; omega
theorem weave_F {rs : List Int} (h : rs.length = 4) {i : Int} (h0 : 0 ≤ i) (h4 : i < 4) (hb : at_ rs i < 1 ∨ at_ rs i > 16) : weaveR rs = ([], [], false) := by
  unfold weaveR
  rw [if_pos]
  rcases hb with hb | hb
  · refine .inl ?_
    rcases Int.lt_or_le (minL rs) 1 with g | g
    · exact g
    · have := (minL_iff (l := rs) (by omega) (c := 1)).1 g (at_ rs i) (at_mem (by omega) (by omega)); omega
  · refine .inr ?_
    rcases Int.lt_or_le 16 (maxL rs) with g | g
    · exact g
    · have := (maxL_iff (l := rs) (by omega) (c := 16)).1 g (at_ rs i) (at_mem (by omega) (by omega)); omega
theorem weave_T {rs : List Int} (h : rs.length = 4) (hr : rates rs) : maxL rs ≤ 16 ∧ 1 ≤ maxL rs ∧ weaveR rs = (spotsL rs (maxL rs), trisL (numL (spotsL rs (maxL rs))) rs (maxL rs), true) := by
  have h2 : maxL rs ≤ 16 := (maxL_iff (l := rs) (by omega) (c := 16)).2 fun x hx => by
    obtain ⟨i, i0, i1, rfl⟩ := mem_at hx; exact (hr i i0 (by omega)).2
  have h1 : 1 ≤ minL rs := (minL_iff (l := rs) (by omega) (c := 1)).2 fun x hx => by
    obtain ⟨i, i0, i1, rfl⟩ := mem_at hx; exact (hr i i0 (by omega)).1
  refine ⟨h2, max_ge h hr, ?_⟩
  unfold weaveR
  rw [if_neg (by omega)]
def mx0 (rs : List Int) (i : Int) : Int := (rs.take i.toNat).foldl max 0
theorem mx0_step {rs : List Int} {i : Int} (h0 : 0 ≤ i) (h1 : i < rs.length) : max (mx0 rs i) (at_ rs i) = mx0 rs (i + 1) := by
  unfold mx0; exact fold_step h0 h1
theorem mx0_eq {rs : List Int} (h : rs.length = 4) (hr : rates rs) : mx0 rs 4 = maxL rs := by
  match rs, h with
  | [a, b, c, d], _ =>
    have := (hr 0 (by omega) (by omega)).1
    simp only [at_] at this
    simp only [mx0, maxL, at_] 
    simp at this ⊢
    omega
theorem mx0_rng {rs : List Int} {i : Int} (h : ∀ j : Int, 0 ≤ j → j < i → 1 ≤ at_ rs j ∧ at_ rs j ≤ 16) : ∀ {n : Nat}, (n : Int) ≤ i → n ≤ rs.length → 0 ≤ mx0 rs n ∧ mx0 rs n ≤ 16
  | 0, _, _ => by simp [mx0]
  | n + 1, h1, h2 => by
    have ih := mx0_rng h (n := n) (by omega) (by omega)
    have := mx0_step (rs := rs) (i := n) (by omega) (by omega)
    have := h n (by omega) (by omega)
    have e : ((n + 1 : Nat) : Int) = (n : Int) + 1 := by omega
    rw [e]; omega
end Go.Proofs.M
namespace Go.Proofs.M
open Go Go.AH
set_option maxRecDepth 4000
set_option linter.unusedSimpArgs false
set_option linter.unusedVariables false
theorem c_ref13_inner (a : Int) (b : Int) : PC Tryd.prog 63 [J a, J b] (.agg [J ((inn a b).Kind), J ((inn a b).A), J ((inn a b).B)]) := by
 intro H0
 refine ACalls.of_body' (n := 8) rfl rfl rfl rfl ?_
 have m0 := Mono.refl H0
 refine Sr ?_
 refine C rfl (al_ rfl tz_76 ?_)
 intro i1 H2 n3 h4 k5
 have z6 := Mono.free m0 n3
 have m7 := Mono.new m0 n3 k5
 refine Sr ?_
 refine V rfl rfl (V rfl rfl (C rfl (Bl (cells := [J 3, J a, J b]) rfl tz_76 pl_76 rfl rfl (C rfl (Sw rfl rfl ts_76 h4 rfl rfl rfl ?_)))))
 intro H8 h9 k10
 have m12 := Mono.set m7 z6 k10
 refine rt_ ?_
 refine Rr (Res.list1 rfl (.cell (v := .agg [J 3, J a, J b]) rfl ty_76 h9 rfl (.nil))) ?_ m12
 exact (congrArg AV.agg (lc (congrArg (AV.int .i64) (show (3 : Int) = (inn a b).Kind from by rfl)) (lc (congrArg (AV.int .i64) (show (a : Int) = (inn a b).A from by rfl)) (lc (congrArg (AV.int .i64) (show (b : Int) = (inn a b).B from by rfl)) rfl))))
theorem c_ref13_outer (k : Int) (i : Int) (r : Int) (hk : 0 ≤ k ∧ k < 4) : PC Tryd.prog 65 [J k, J i, J r] (.agg [J ((outS k i r).Kind), J ((outS k i r).A), J ((outS k i r).B)]) := by
 intro H0
 refine ACalls.of_body' (n := 21) rfl rfl rfl rfl ?_
 have m0 := Mono.refl H0
 refine Sr ?_
 refine C rfl (al_ rfl tz_76 ?_)
 intro i1 H2 n3 h4 k5
 have z6 := Mono.free m0 n3
 have m7 := Mono.new m0 n3 k5
 refine AWP.seq ?_
 refine Sr ?_
 refine V rfl rfl (B rfl rfl rfl ieq ?_)
 refine AOps.nil ?_
 change AWP _ _ _ _ _ _
 by_cases b8 : i = 0
 refine ct_ rfl (decide_eq_true b8) ?_
 refine Sr ?_
 refine V rfl rfl (C rfl (Bl (cells := [J 1, J k, J 0]) rfl tz_76 pl_76 rfl rfl (C rfl (Sw rfl rfl ts_76 h4 rfl rfl rfl ?_))))
 intro H9 h10 k11
 have m13 := Mono.set m7 z6 k11
 refine rt_ ?_
 refine Rr (Res.list1 rfl (.cell (v := .agg [J 1, J k, J 0]) rfl ty_76 h10 rfl (.nil))) ?_ m13
 exact (congrArg AV.agg (lc (congrArg (AV.int .i64) (show (1 : Int) = (outS k i r).Kind from by unfold outS; rw [if_pos b8]; rfl)) (lc (congrArg (AV.int .i64) (show (k : Int) = (outS k i r).A from by unfold outS; rw [if_pos b8]; rfl)) (lc (congrArg (AV.int .i64) (show (0 : Int) = (outS k i r).B from by unfold outS; rw [if_pos b8]; rfl)) rfl))))
 refine cf_ rfl (decide_eq_false b8) ?_
 refine AWP.skip ?_
 refine AWP.seq ?_
 refine Sr ?_
 refine V rfl rfl (V rfl rfl (B rfl rfl rfl ieq ?_))
 refine AOps.nil ?_
 change AWP _ _ _ _ _ _
 by_cases b14 : i = r
 refine ct_ rfl (decide_eq_true b14) ?_
 refine Sr ?_
 refine V rfl rfl (B rfl rfl rfl (iadd (by omega)) (C rfl (AOp.remP rfl rfl rfl (by omega) (by omega) (C rfl (Bl (cells := [J 1, J ((k + 1) % 4), J 0]) rfl tz_76 pl_76 rfl rfl (C rfl (Sw rfl rfl ts_76 h4 rfl rfl rfl ?_)))))))
 intro H15 h16 k17
 have m19 := Mono.set m7 z6 k17
 refine rt_ ?_
 refine Rr (Res.list1 rfl (.cell (v := .agg [J 1, J ((k + 1) % 4), J 0]) rfl ty_76 h16 rfl (.nil))) ?_ m19
 exact (congrArg AV.agg (lc (congrArg (AV.int .i64) (show (1 : Int) = (outS k i r).Kind from by unfold outS; rw [if_neg b8, if_pos b14]; rfl)) (lc (congrArg (AV.int .i64) (show ((k + 1) % 4 : Int) = (outS k i r).A from by unfold outS; rw [if_neg b8, if_pos b14]; rfl)) (lc (congrArg (AV.int .i64) (show (0 : Int) = (outS k i r).B from by unfold outS; rw [if_neg b8, if_pos b14]; rfl)) rfl))))
 refine cf_ rfl (decide_eq_false b14) ?_
 refine AWP.skip ?_
 refine Sr ?_
 refine V rfl rfl (V rfl rfl (C rfl (Bl (cells := [J 2, J k, J i]) rfl tz_76 pl_76 rfl rfl (C rfl (Sw rfl rfl ts_76 h4 rfl rfl rfl ?_)))))
 intro H20 h21 k22
 have m24 := Mono.set m7 z6 k22
 refine rt_ ?_
 refine Rr (Res.list1 rfl (.cell (v := .agg [J 2, J k, J i]) rfl ty_76 h21 rfl (.nil))) ?_ m24
 exact (congrArg AV.agg (lc (congrArg (AV.int .i64) (show (2 : Int) = (outS k i r).Kind from by unfold outS; rw [if_neg b8, if_neg b14]; rfl)) (lc (congrArg (AV.int .i64) (show (k : Int) = (outS k i r).A from by unfold outS; rw [if_neg b8, if_neg b14]; rfl)) (lc (congrArg (AV.int .i64) (show (i : Int) = (outS k i r).B from by unfold outS; rw [if_neg b8, if_neg b14]; rfl)) rfl))))
theorem c_ref13_beside (k : Int) (t : Int) (m : Int) (hm : 1 ≤ m ∧ m ≤ 16) (ht : 0 ≤ t ∧ t ≤ 16) : PC Tryd.prog 66 [J k, J t, J m] (.agg [J ((besS k t m).Kind), J ((besS k t m).A), J ((besS k t m).B)]) := by
 intro H0
 refine ACalls.of_body' (n := 30) rfl rfl rfl rfl ?_
 have m0 := Mono.refl H0
 refine Sr ?_
 refine C rfl (al_ rfl tz_76 ?_)
 intro i1 H2 n3 h4 k5
 have z6 := Mono.free m0 n3
 have m7 := Mono.new m0 n3 k5
 refine AWP.seq ?_
 refine Sr ?_
 refine V rfl rfl ?_
 refine bk_ ?_
 refine Sr ?_
 refine B rfl rfl rfl ieq (A rfl rfl ?_)
 refine AOps.nil ?_
 change AWP _ _ _ _ _ _
 by_cases b8 : k = 0
 refine ct_ rfl (decide_eq_true b8) ?_
 refine Sr ?_
 refine V rfl rfl (C rfl (Pc («as» := [J t, J 1]) rfl rfl (rfl) tf_63 (c_ref13_inner t 1) ?_))
 intro H9 m10
 have h11 := m10 _ _ h4
 have m12 := m7.trans m10
 refine C rfl (Sw rfl rfl ts_76 h11 rfl rfl rfl ?_)
 intro H13 h14 k15
 have m17 := Mono.set m12 z6 k15
 refine rt_ ?_
 refine Rr (Res.list1 rfl (.cell (v := .agg [J ((inn t 1).Kind), J ((inn t 1).A), J ((inn t 1).B)]) rfl ty_76 h14 rfl (.nil))) ?_ m17
 exact (congrArg AV.agg (lc (congrArg (AV.int .i64) (show ((inn t 1).Kind : Int) = (besS k t m).Kind from by unfold besS; rw [if_pos b8] <;> rfl)) (lc (congrArg (AV.int .i64) (show ((inn t 1).A : Int) = (besS k t m).A from by unfold besS; rw [if_pos b8] <;> rfl)) (lc (congrArg (AV.int .i64) (show ((inn t 1).B : Int) = (besS k t m).B from by unfold besS; rw [if_pos b8] <;> rfl)) rfl))))
 refine cf_ rfl (decide_eq_false b8) ?_
 refine Sr ?_
 refine B rfl rfl rfl ieq (A rfl rfl ?_)
 refine AOps.nil ?_
 change AWP _ _ _ _ _ _
 by_cases b18 : k = 1
 refine ct_ rfl (decide_eq_true b18) ?_
 refine Sr ?_
 refine V rfl rfl (B rfl rfl rfl (isub (by omega)) (V rfl rfl (C rfl (Pc («as» := [J (m - 1), J t]) rfl rfl (rfl) tf_63 (c_ref13_inner (m - 1) t) ?_))))
 intro H19 m20
 have h21 := m20 _ _ h4
 have m22 := m7.trans m20
 refine C rfl (Sw rfl rfl ts_76 h21 rfl rfl rfl ?_)
 intro H23 h24 k25
 have m27 := Mono.set m22 z6 k25
 refine rt_ ?_
 refine Rr (Res.list1 rfl (.cell (v := .agg [J ((inn (m - 1) t).Kind), J ((inn (m - 1) t).A), J ((inn (m - 1) t).B)]) rfl ty_76 h24 rfl (.nil))) ?_ m27
 exact (congrArg AV.agg (lc (congrArg (AV.int .i64) (show ((inn (m - 1) t).Kind : Int) = (besS k t m).Kind from by unfold besS; rw [if_neg b8, if_pos b18] <;> rfl)) (lc (congrArg (AV.int .i64) (show ((inn (m - 1) t).A : Int) = (besS k t m).A from by unfold besS; rw [if_neg b8, if_pos b18] <;> rfl)) (lc (congrArg (AV.int .i64) (show ((inn (m - 1) t).B : Int) = (besS k t m).B from by unfold besS; rw [if_neg b8, if_pos b18] <;> rfl)) rfl))))
 refine cf_ rfl (decide_eq_false b18) ?_
 refine Sr ?_
 refine B rfl rfl rfl ieq (A rfl rfl ?_)
 refine AOps.nil ?_
 change AWP _ _ _ _ _ _
 by_cases b28 : k = 2
 refine ct_ rfl (decide_eq_true b28) ?_
 refine Sr ?_
 refine V rfl rfl (V rfl rfl (B rfl rfl rfl (isub (by omega)) (V rfl rfl (B rfl rfl rfl (isub (by omega)) (C rfl (Pc («as» := [J (m - t), J (m - 1)]) rfl rfl (rfl) tf_63 (c_ref13_inner (m - t) (m - 1)) ?_))))))
 intro H29 m30
 have h31 := m30 _ _ h4
 have m32 := m7.trans m30
 refine C rfl (Sw rfl rfl ts_76 h31 rfl rfl rfl ?_)
 intro H33 h34 k35
 have m37 := Mono.set m32 z6 k35
 refine rt_ ?_
 refine Rr (Res.list1 rfl (.cell (v := .agg [J ((inn (m - t) (m - 1)).Kind), J ((inn (m - t) (m - 1)).A), J ((inn (m - t) (m - 1)).B)]) rfl ty_76 h34 rfl (.nil))) ?_ m37
 exact (congrArg AV.agg (lc (congrArg (AV.int .i64) (show ((inn (m - t) (m - 1)).Kind : Int) = (besS k t m).Kind from by unfold besS; rw [if_neg b8, if_neg b18, if_pos b28] <;> rfl)) (lc (congrArg (AV.int .i64) (show ((inn (m - t) (m - 1)).A : Int) = (besS k t m).A from by unfold besS; rw [if_neg b8, if_neg b18, if_pos b28] <;> rfl)) (lc (congrArg (AV.int .i64) (show ((inn (m - t) (m - 1)).B : Int) = (besS k t m).B from by unfold besS; rw [if_neg b8, if_neg b18, if_pos b28] <;> rfl)) rfl))))
 refine cf_ rfl (decide_eq_false b28) ?_
 refine AWP.skip ?_
 refine Sr ?_
 refine V rfl rfl (V rfl rfl (B rfl rfl rfl (isub (by omega)) (C rfl (Pc («as» := [J 1, J (m - t)]) rfl rfl (rfl) tf_63 (c_ref13_inner 1 (m - t)) ?_))))
 intro H38 m39
 have h40 := m39 _ _ h4
 have m41 := m7.trans m39
 refine C rfl (Sw rfl rfl ts_76 h40 rfl rfl rfl ?_)
 intro H42 h43 k44
 have m46 := Mono.set m41 z6 k44
 refine rt_ ?_
 refine Rr (Res.list1 rfl (.cell (v := .agg [J ((inn 1 (m - t)).Kind), J ((inn 1 (m - t)).A), J ((inn 1 (m - t)).B)]) rfl ty_76 h43 rfl (.nil))) ?_ m46
 exact (congrArg AV.agg (lc (congrArg (AV.int .i64) (show ((inn 1 (m - t)).Kind : Int) = (besS k t m).Kind from by unfold besS; rw [if_neg b8, if_neg b18, if_neg b28] <;> rfl)) (lc (congrArg (AV.int .i64) (show ((inn 1 (m - t)).A : Int) = (besS k t m).A from by unfold besS; rw [if_neg b8, if_neg b18, if_neg b28] <;> rfl)) (lc (congrArg (AV.int .i64) (show ((inn 1 (m - t)).B : Int) = (besS k t m).B from by unfold besS; rw [if_neg b8, if_neg b18, if_neg b28] <;> rfl)) rfl))))
theorem c_number (l : List SpotT) (h_l : l.length ≤ 1048576) (s : SpotT) (hl : ∀ x ∈ l, ranS x) (hs : ranS s) : PC Tryd.prog 64 [.sl l.length (l.flatMap eSpot), .agg [J s.Kind, J s.A, J s.B]] (J (numL l s)) := by
 intro H0
 refine ACalls.of_body' (n := 19) rfl rfl rfl rfl ?_
 have m0 := Mono.refl H0
 refine Sr ?_
 refine C rfl (bx_ (.agg [J s.Kind, J s.A, J s.B]) rfl rfl rfl ?_)
 intro i1 H2 n3 h4 k5
 have z6 := Mono.free m0 n3
 have m7 := Mono.new m0 n3 k5
 refine A rfl rfl ?_
 refine AWP.seq ?_
 refine AWP.seq ?_
 refine fz_ 3 h4 z6 rfl m7 fun H8 m9 k10 => ?_
 refine AWP.region rfl ?_
 refine A rfl rfl ?_
 refine bk_ ?_
 refine AWP.loop (fun q11 fq Hq => ∃ (i : Int), q11 = (((l.length : Int) : Int) - i).toNat ∧ fq 5 = J i ∧ fq 0 = .sl l.length (l.flatMap eSpot) ∧ fq 3 = .fptr [J s.Kind, J s.A, J s.B] 0 ∧ Mono H0 Hq ∧ (0 ≤ i) ∧ (i ≤ (l.length : Int)) ∧ (∀ j : Int, 0 ≤ j → j < i → at_ l j ≠ s)) (k := (((l.length : Int) : Int) - 0).toNat) ?_ ?_
 exact ⟨0, rfl, rfl, rfl, rfl, m9, by omega, by omega, by intro j; omega⟩
 rintro _ f13 H12 ⟨i, rfl, s14, s15, s16, m17, hi0, hi1, pre⟩
 refine AWP.seq ?_
 refine Sr ?_
 refine V rfl s14 (V rfl s15 (C rfl (AOp.len (m := l.length) rfl rfl (.inr (.inl ⟨_, rfl⟩)) u_68 (B rfl rfl rfl rfl ?_))))
 refine AOps.nil ?_
 change AWP _ _ _ _ _ _
 by_cases b18 : i < (l.length : Int)
 refine ct_ rfl (decide_eq_true b18) ?_
 refine AWP.skip ?_
 refine AWP.seq ?_
 refine bk_ ?_
 refine AWP.seq ?_
 refine AWP.region_quiet mixed (by kernel_rfl) 6 [] rfl (by kernel_rfl) (Mono H12) (Mono.refl _) ?_
 refine QV rfl s15 (QV rfl s14 (Q rfl (fun _ _ φ ψ => iS_ rfl (φ 12 rfl) (φ 13 rfl) sl_68 (by omega) (by omega) ⟨rfl, ψ⟩) (QL rfl rfl ty_76 (ldM eSpot_len (by omega) (by omega)) (QL rfl s16 ty_76 rfl (Q rfl (fun _ _ φ ψ => AOp.eqAggD rfl (φ 15 rfl) (φ 16 rfl) teq76 (kokS (hl _ (at_mem (by omega) (by omega)))) (kokS hs) (eSpot_iff (at_ l i) s) ⟨rfl, ψ⟩) ?_)))))
 refine QE.done fun H19 m20 => ?_
 have m21 := m17.trans m20
 refine AOps.nil ?_
 change AWP _ _ _ _ _ _
 by_cases b22 : (at_ l i) = s
 refine ct_ rfl (decide_eq_true b22) ?_
 refine Sr ?_
 refine V rfl s14 (A rfl rfl ?_)
 refine rt_ ?_
 refine Rr (Res.one rfl rfl) ?_ m21
 exact (congrArg (AV.int .i64) (show (i : Int) = numL l s from by exact (numL_of hi0 (by omega) pre b22).symm))
 refine cf_ rfl (decide_eq_false b22) ?_
 refine AWP.skip ?_
 refine AWP.region rfl ?_
 refine V rfl s14 (B rfl rfl rfl (iadd (by omega)) (A rfl rfl ?_))
 refine AOps.nil ?_
 exact ⟨_, by omega, i + 1, rfl, rfl, s15, s16, m21, by omega, by omega, by exact ne_step pre b22⟩
 refine cf_ rfl (decide_eq_false b18) ?_
 refine AWP.exit ?_
 change AWP _ _ _ _ _ _
 refine Sr ?_
 refine A rfl rfl ?_
 refine rt_ ?_
 refine Rr (Res.one rfl rfl) ?_ m17
 exact (congrArg (AV.int .i64) (show (-1 : Int) = numL l s from by exact (numL_none (fun j h0 h1 => pre j h0 (by omega))).symm))
theorem c_inner {H0 : Heap} {wid mid : Nat} {vs vt : AV} (rs : List Int) (h : rs.length = 4) (m : Int) (hr : rates rs) (hm : m ≤ 16) (hw : H0 wid = some (.row 0 (rs.map eI ++ [J m, vs, .map mid, vt]))) (hmid : H0 mid = some (.map (plc (spotsL rs m)))) (a b : Int) (ha : 1 ≤ a ∧ a < m) (hb : 1 ≤ b ∧ b < m) : ACalls Tryd.prog 81 [.ptr wid 0 0, J a, J b] H0 fun r H' => r = (J (numL (spotsL rs m) (inn a b))) ∧ Mono H0 H' := by
 refine ACalls.of_body' (n := 15) rfl rfl rfl rfl ?_
 have m0 := Mono.refl H0
 refine Sr ?_
 refine A rfl rfl ?_
 refine Sr ?_
 refine V rfl rfl (C rfl (nc_ (.ptr wid 0 0) rfl rfl rfl ?_))
 refine C rfl (Fa rfl rfl fl_98_3 ?_ (hid := ⟨_, hw⟩))
 refine C rfl (Ld _ rfl rfl ty_96 hw (ld_skip (off' := 2) (len1 h) (by omega) rfl) (V rfl rfl (V rfl rfl (C rfl (Bl (cells := [J 3, J a, J b]) rfl tz_76 pl_76 rfl rfl (C rfl (AOp.lookup' rfl rfl hmid rfl (kokS (v := inn a b) (ranS_small (by simp only [inn]; omega) (by simp only [inn]; omega) (by simp only [inn]; omega))) (plc_keys (ranS_spots hr hm)) tm96 tzv_3 (mget_plc (l := spotsL rs m) (s := inn a b) (spot_inn (by omega) (by omega) (by omega) (by omega))) (A rfl rfl ?_))))))))
 refine rt_ ?_
 refine Rr (Res.one rfl rfl) ?_ m0
 exact rfl
theorem c_outer {H0 : Heap} {wid mid : Nat} {vs vt : AV} (rs : List Int) (h : rs.length = 4) (m : Int) (hr : rates rs) (hm : m ≤ 16) (hw : H0 wid = some (.row 0 (rs.map eI ++ [J m, vs, .map mid, vt]))) (hmid : H0 mid = some (.map (plc (spotsL rs m)))) (k i : Int) (hk : 0 ≤ k ∧ k < 4) (hi : 0 ≤ i ∧ i ≤ at_ rs k) : ACalls Tryd.prog 82 [.ptr wid 0 0, J k, J i] H0 fun r H' => r = (J (numL (spotsL rs m) (outS k i (at_ rs k)))) ∧ Mono H0 H' := by
 have hrk := hr k hk.1 hk.2
 refine ACalls.of_body' (n := 30) rfl rfl rfl rfl ?_
 have m0 := Mono.refl H0
 refine Sr ?_
 refine A rfl rfl ?_
 refine AWP.seq ?_
 refine Sr ?_
 refine V rfl rfl ?_
 refine bk_ ?_
 refine Sr ?_
 refine B rfl rfl rfl ieq (A rfl rfl ?_)
 refine AOps.nil ?_
 change AWP _ _ _ _ _ _
 by_cases b1 : i = 0
 refine ct_ rfl (decide_eq_true b1) ?_
 refine Sr ?_
 refine V rfl rfl (A rfl rfl ?_)
 refine rt_ ?_
 refine Rr (Res.one rfl rfl) ?_ m0
 exact (congrArg (AV.int .i64) (show (k : Int) = numL (spotsL rs m) (outS k i (at_ rs k)) from by unfold outS; rw [if_pos b1, numL_cor hk.1 hk.2]))
 refine cf_ rfl (decide_eq_false b1) ?_
 refine Sr ?_
 refine V rfl rfl (V rfl rfl (C rfl (nc_ (.ptr wid 0 0) rfl rfl rfl ?_)))
 refine C rfl (Fa rfl rfl fl_98_0 ?_ (hid := ⟨_, hw⟩))
 refine C rfl (iA_ rfl rfl rfl ar_25 (by omega) (by omega) ⟨_, hw⟩ (C rfl (Ld _ rfl rfl ty_3 hw (ld_off (o := 0 + k.toNat * 1) (by omega) (ld_fst (fun h => by first | rfl | cases h) (ld1 (i := k) (by omega) (by first | (have := h; omega) | (simp; omega))))) (B rfl rfl rfl ieq (A rfl rfl ?_)))))
 refine AOps.nil ?_
 change AWP _ _ _ _ _ _
 by_cases b2 : i = at_ rs k
 refine ct_ rfl (decide_eq_true b2) ?_
 refine Sr ?_
 refine V rfl rfl (B rfl rfl rfl (iadd (by omega)) (C rfl (AOp.remP rfl rfl rfl (by omega) (by omega) (A rfl rfl ?_))))
 refine rt_ ?_
 refine Rr (Res.one rfl rfl) ?_ m0
 exact (congrArg (AV.int .i64) (show ((k + 1) % 4 : Int) = numL (spotsL rs m) (outS k i (at_ rs k)) from by unfold outS; rw [if_neg b1, if_pos b2, numL_cor (by omega) (by omega)]))
 refine cf_ rfl (decide_eq_false b2) ?_
 refine AWP.skip ?_
 refine Sr ?_
 refine V rfl rfl (C rfl (nc_ (.ptr wid 0 0) rfl rfl rfl ?_))
 refine C rfl (Fa rfl rfl fl_98_3 ?_ (hid := ⟨_, hw⟩))
 refine C rfl (Ld _ rfl rfl ty_96 hw (ld_skip (off' := 2) (len1 h) (by omega) rfl) (V rfl rfl (V rfl rfl (C rfl (Bl (cells := [J 2, J k, J i]) rfl tz_76 pl_76 rfl rfl (C rfl (AOp.lookup' rfl rfl hmid rfl (kokS (v := edg k i) (ranS_small (by simp only [edg]; omega) (by simp only [edg]; omega) (by simp only [edg]; omega))) (plc_keys (ranS_spots hr hm)) tm96 tzv_3 (mget_plc (l := spotsL rs m) (s := edg k i) (spot_edg (by omega) (by omega) (by omega) (by omega))) (A rfl rfl ?_))))))))
 refine rt_ ?_
 refine Rr (Res.one rfl rfl) ?_ m0
 exact (congrArg (AV.int .i64) (show (numL (spotsL rs m) (edg k i) : Int) = numL (spotsL rs m) (outS k i (at_ rs k)) from by unfold outS; rw [if_neg b1, if_neg b2]))
theorem c_beside {H0 : Heap} {wid mid : Nat} {vs vt : AV} (rs : List Int) (h : rs.length = 4) (m : Int) (hr : rates rs) (hm : m ≤ 16) (hw : H0 wid = some (.row 0 (rs.map eI ++ [J m, vs, .map mid, vt]))) (hmid : H0 mid = some (.map (plc (spotsL rs m)))) (k t : Int) (hk : 0 ≤ k ∧ k < 4) (ht : 1 ≤ t ∧ t < m) : ACalls Tryd.prog 83 [.ptr wid 0 0, J k, J t] H0 fun r H' => r = (J (numL (spotsL rs m) (besS k t m))) ∧ Mono H0 H' := by
 have hrt := hr
 have hm16 := hm
 refine ACalls.of_body' (n := 45) rfl rfl rfl rfl ?_
 have m0 := Mono.refl H0
 refine Sr ?_
 refine A rfl rfl ?_
 refine Sr ?_
 refine V rfl rfl (C rfl (nc_ (.ptr wid 0 0) rfl rfl rfl ?_))
 refine C rfl (Fa rfl rfl fl_98_1 ?_ (hid := ⟨_, hw⟩))
 refine C rfl (Ld _ rfl rfl ty_3 hw (ld_skip (off' := 0) (len1 h) (by omega) rfl) (B rfl rfl rfl (isub (by omega)) (A rfl rfl ?_)))
 refine AWP.seq ?_
 refine AWP.freshN fun b1 hb2 => ?_
 obtain ⟨i3, e4⟩ : ∃ x, x = b1 + 0 := ⟨_, rfl⟩
 have n5 := hb2 0; rw [← e4] at n5
 refine AWP.region_strA mixed (by kernel_rfl) [(21, i3, .row 0 ([J 0, J 0, J 0, J 0, J 0, J 0, J 0, J 0]))] [0, 1, 2, 3, 4, 5, 6, 7, 8, 9, 10, 11, 12, 13, 14, 15, 16, 17, 18, 19, 20, 21] [] [22] (by kernel_rfl) (by kernel_rfl) ⟨n5, trivial, trivial⟩ ?_
 have e6 := ne_new hw n5
 have e7 := ne_new hmid n5
 have z8 := Mono.free m0 n5
 refine STRN.op rfl rfl rfl (.inl ⟨rfl, fun H1 f' H' hf hN hM => Mv _ rfl ((hf 2 rfl).trans rfl) ⟨rfl, hN⟩⟩) ?_
 refine STRN.op rfl rfl rfl (.inl ⟨rfl, fun H1 f' H' hf hN hM => Bl (cells := [J t, J 1]) rfl tz_119 pl_119 (lconsP ((hf 14 rfl).trans rfl) (lconsP rfl rfl)) rfl ⟨rfl, hN⟩⟩) ?_
 refine STRN.op rfl rfl rfl (.inl ⟨rfl, fun H1 f' H' hf hN hM => Mv _ rfl ((hf 7 rfl).trans rfl) ⟨rfl, hN⟩⟩) ?_
 refine STRN.op rfl rfl rfl (.inl ⟨rfl, fun H1 f' H' hf hN hM => Mv _ rfl ((hf 2 rfl).trans rfl) ⟨rfl, hN⟩⟩) ?_
 refine STRN.op rfl rfl rfl (.inl ⟨rfl, fun H1 f' H' hf hN hM => Bl (cells := [J (m - 1), J t]) rfl tz_119 pl_119 (lconsP ((hf 16 rfl).trans rfl) (lconsP ((hf 17 rfl).trans rfl) rfl)) rfl ⟨rfl, hN⟩⟩) ?_
 refine STRN.op rfl rfl rfl (.inl ⟨rfl, fun H1 f' H' hf hN hM => Mv _ rfl ((hf 0 rfl).trans rfl) ⟨rfl, hN⟩⟩) ?_
 refine STRN.op rfl rfl rfl (.inl ⟨rfl, fun H1 f' H' hf hN hM => nc_ (.ptr wid 0 0) rfl ((hf 19 rfl).trans rfl) rfl ⟨rfl, hN⟩⟩) ?_
 refine STRN.op rfl rfl rfl (.inl ⟨rfl, fun H1 f' H' hf hN hM => Fa rfl ((hf 20 rfl).trans rfl) fl_98_1 ⟨rfl, hN⟩ (hid := ⟨_, (hM _ _ hw)⟩)⟩) ?_
 refine STRN.op rfl rfl rfl (.inl ⟨rfl, fun H1 f' H' hf hN hM => Ld _ rfl ((hf 21 rfl).trans rfl) ty_3 (hM _ _ hw) (ld_skip (off' := 0) (len1 h) (by omega) rfl) ⟨rfl, hN⟩⟩) ?_
 refine STRN.op rfl rfl rfl (.inl ⟨rfl, fun H1 f' H' hf hN hM => Mv _ rfl ((hf 2 rfl).trans rfl) ⟨rfl, hN⟩⟩) ?_
 refine STRN.op rfl rfl rfl (.inl ⟨rfl, fun H1 f' H' hf hN hM => Bi _ rfl ((hf 22 rfl).trans rfl) ((hf 23 rfl).trans rfl) (isub (by omega)) ⟨rfl, hN⟩⟩) ?_
 refine STRN.op rfl rfl rfl (.inl ⟨rfl, fun H1 f' H' hf hN hM => Mv _ rfl ((hf 7 rfl).trans rfl) ⟨rfl, hN⟩⟩) ?_
 refine STRN.op rfl rfl rfl (.inl ⟨rfl, fun H1 f' H' hf hN hM => Bl (cells := [J (m - t), J (m - 1)]) rfl tz_119 pl_119 (lconsP ((hf 24 rfl).trans rfl) (lconsP ((hf 25 rfl).trans rfl) rfl)) rfl ⟨rfl, hN⟩⟩) ?_
 refine STRN.op rfl rfl rfl (.inl ⟨rfl, fun H1 f' H' hf hN hM => Mv _ rfl ((hf 0 rfl).trans rfl) ⟨rfl, hN⟩⟩) ?_
 refine STRN.op rfl rfl rfl (.inl ⟨rfl, fun H1 f' H' hf hN hM => nc_ (.ptr wid 0 0) rfl ((hf 27 rfl).trans rfl) rfl ⟨rfl, hN⟩⟩) ?_
 refine STRN.op rfl rfl rfl (.inl ⟨rfl, fun H1 f' H' hf hN hM => Fa rfl ((hf 28 rfl).trans rfl) fl_98_1 ⟨rfl, hN⟩ (hid := ⟨_, (hM _ _ hw)⟩)⟩) ?_
 refine STRN.op rfl rfl rfl (.inl ⟨rfl, fun H1 f' H' hf hN hM => Ld _ rfl ((hf 29 rfl).trans rfl) ty_3 (hM _ _ hw) (ld_skip (off' := 0) (len1 h) (by omega) rfl) ⟨rfl, hN⟩⟩) ?_
 refine STRN.op rfl rfl rfl (.inl ⟨rfl, fun H1 f' H' hf hN hM => Mv _ rfl ((hf 2 rfl).trans rfl) ⟨rfl, hN⟩⟩) ?_
 refine STRN.op rfl rfl rfl (.inl ⟨rfl, fun H1 f' H' hf hN hM => Bi _ rfl ((hf 30 rfl).trans rfl) ((hf 31 rfl).trans rfl) (isub (by omega)) ⟨rfl, hN⟩⟩) ?_
 refine STRN.op rfl rfl rfl (.inl ⟨rfl, fun H1 f' H' hf hN hM => Bl (cells := [J 1, J (m - t)]) rfl tz_119 pl_119 (lconsP rfl (lconsP ((hf 32 rfl).trans rfl) rfl)) rfl ⟨rfl, hN⟩⟩) ?_
 refine STRN.op rfl rfl rfl (.inl ⟨rfl, fun H1 f' H' hf hN hM => Bl (cells := [J t, J 1, J (m - 1), J t, J (m - t), J (m - 1), J 1, J (m - t)]) rfl tz_120 pl_120 (lconsP ((hf 15 rfl).trans rfl) (lconsP ((hf 18 rfl).trans rfl) (lconsP ((hf 26 rfl).trans rfl) (lconsP ((hf 33 rfl).trans rfl) rfl)))) rfl ⟨rfl, hN⟩⟩) ?_
 refine STRN.alloc (id := i3) (Z := [J 0, J 0, J 0, J 0, J 0, J 0, J 0, J 0]) (.head _) rfl rfl rfl rfl rfl tz_120 ?_
 refine STRN.done fun H9 m10 hu11 => ?_
 have h12 := m10 _ _ hw
 have h13 := m10 _ _ hmid
 have m14 := m0.trans m10
 have h15 : H9 i3 = some (.row 0 ([J 0, J 0, J 0, J 0, J 0, J 0, J 0, J 0])) := hu11 _ (.head _)
 refine STR.done fun H16 m17 => ?_
 have h18 := m17 _ _ h12
 have h19 := m17 _ _ h13
 have h20 := m17 _ _ h15
 have m21 := m14.trans m17
 refine C rfl (Sw rfl rfl ts_120 h20 rfl rfl rfl ?_)
 intro H22 h23 k24
 have h25 := keep k24 e6 h18
 have h26 := keep k24 e7 h19
 have m28 := Mono.set m21 z8 k24
 refine AWP.seq ?_
 refine fz_ 8 h23 z8 rfl m28 fun H29 m30 k31 => ?_
 have h32 := (k31 _ e6).trans h25
 have h33 := (k31 _ e7).trans h26
 have hbes := bes_rng hk ht
 have hbi := bes_eq (m := m) (t := t) hk
 refine AWP.region_quiet mixed (by kernel_rfl) 11 [] rfl (by kernel_rfl) (Mono H29) (Mono.refl _) ?_
 refine QV rfl rfl (QV rfl rfl (Q rfl (fun _ _ φ ψ => iF_ rfl (φ 8 rfl) (φ 36 rfl) ar_120 (by omega) (by omega) ⟨rfl, ψ⟩) (Q rfl (fun _ _ φ ψ => iF_ rfl (φ 37 rfl) rfl ar_119 (by omega) (by omega) ⟨rfl, ψ⟩) (QL rfl rfl ty_3 (ld_off (o := 0 + k.toNat * 2) (by omega) (ldF eI2_len (i := k) (o := 0) (xs := ([(I2T.mk t 1), (I2T.mk (m - 1) t), (I2T.mk (m - t) (m - 1)), (I2T.mk 1 (m - t))] : List I2T)) (by omega) (by first | (have := (rfl : ([(I2T.mk t 1), (I2T.mk (m - 1) t), (I2T.mk (m - t) (m - 1)), (I2T.mk 1 (m - t))] : List I2T).length = 4); omega) | (simp; omega)) rfl (by decide))) (QV rfl rfl (Q rfl (fun _ _ φ ψ => iF_ rfl (φ 8 rfl) (φ 40 rfl) ar_120 (by omega) (by omega) ⟨rfl, ψ⟩) (Q rfl (fun _ _ φ ψ => iF_ rfl (φ 41 rfl) rfl ar_119 (by omega) (by omega) ⟨rfl, ψ⟩) (QL rfl rfl ty_3 (ld_off (o := 0 + k.toNat * 2 + 1) (by omega) (ldF eI2_len (i := k) (o := 1) (xs := ([(I2T.mk t 1), (I2T.mk (m - 1) t), (I2T.mk (m - t) (m - 1)), (I2T.mk 1 (m - t))] : List I2T)) (by omega) (by first | (have := (rfl : ([(I2T.mk t 1), (I2T.mk (m - 1) t), (I2T.mk (m - t) (m - 1)), (I2T.mk 1 (m - t))] : List I2T).length = 4); omega) | (simp; omega)) rfl (by decide))) (Q rfl (fun _ _ φ ψ => AOp.pcallH («as» := [.ptr wid 0 0, J ((at_ ([(I2T.mk t 1), (I2T.mk (m - 1) t), (I2T.mk (m - t) (m - 1)), (I2T.mk 1 (m - t))] : List I2T) k).x0), J ((at_ ([(I2T.mk t 1), (I2T.mk (m - 1) t), (I2T.mk (m - t) (m - 1)), (I2T.mk 1 (m - t))] : List I2T) k).x1)]) rfl rfl (lapp (lcons (φ 35 rfl) (lcons (φ 39 rfl) (lcons (φ 43 rfl) rfl))) rfl) tf_81 (c_inner rs h m hrt hm16 (ψ _ _ h32) (ψ _ _ h33) ((at_ ([(I2T.mk t 1), (I2T.mk (m - 1) t), (I2T.mk (m - t) (m - 1)), (I2T.mk 1 (m - t))] : List I2T) k).x0) ((at_ ([(I2T.mk t 1), (I2T.mk (m - 1) t), (I2T.mk (m - t) (m - 1)), (I2T.mk 1 (m - t))] : List I2T) k).x1) ⟨hbes.1, hbes.2.1⟩ hbes.2.2) fun H2 m2 => ⟨rfl, ψ.trans m2⟩) (Q rfl (fun _ _ φ ψ => As _ rfl (φ 44 rfl) ⟨rfl, ψ⟩) ?_))))))))))
 refine QE.done fun H34 m35 => ?_
 have h36 := m35 _ _ h32
 have h37 := m35 _ _ h33
 have m38 := m30.trans m35
 refine rt_ ?_
 refine Rr (Res.one rfl rfl) ?_ m38
 exact (congrArg (AV.int .i64) (show (numL (spotsL rs m) (inn ((at_ ([(I2T.mk t 1), (I2T.mk (m - 1) t), (I2T.mk (m - t) (m - 1)), (I2T.mk 1 (m - t))] : List I2T) k).x0) ((at_ ([(I2T.mk t 1), (I2T.mk (m - 1) t), (I2T.mk (m - t) (m - 1)), (I2T.mk 1 (m - t))] : List I2T) k).x1)) : Int) = numL (spotsL rs m) (besS k t m) from by rw [hbi]))
end Go.Proofs.M
namespace Go.Proofs.M
open Go Go.AH
set_option maxRecDepth 4000
set_option linter.unusedSimpArgs false
set_option linter.unusedVariables false
set_option maxHeartbeats 4000000
theorem c_Weave (rs : List Int) (h : rs.length = 4) : PC Tryd.prog 25 [.agg (rs.map eI)] (.tup [.sl ((weaveR rs).1).length (((weaveR rs).1).flatMap eSpot), .sl ((weaveR rs).2.1).length (((weaveR rs).2.1).flatMap eI3), .bool ((weaveR rs).2.2)]) := by
 intro H0
 refine ACalls.of_body' (n := 57) rfl rfl rfl rfl ?_
 have m0 := Mono.refl H0
 refine Sr ?_
 refine C rfl (bx_ (.agg (rs.map eI)) rfl rfl rfl ?_)
 intro i1 H2 n3 h4 k5
 have z6 := Mono.free m0 n3
 have m7 := Mono.new m0 n3 k5
 refine A rfl rfl (A rfl rfl (A rfl rfl ?_))
 refine AWP.seq ?_
 refine AWP.seq ?_
 refine fz_ 1 h4 z6 rfl m7 fun H8 m9 k10 => ?_
 refine AWP.region rfl ?_
 refine C rfl (AOp.sliceAF rfl rfl ar_25 h SubAt.all (C rfl (Pc («as» := [.sl rs.length (rs.map eI)]) rfl rfl (rfl) tf_40 (c_Min rs (by first | (have := h; omega) | simp) (by first | omega | assumption | (constructor <;> omega) | simp)) ?_)))
 intro H11 m12
 have m13 := m9.trans m12
 refine B rfl rfl rfl rfl (V rfl rfl ?_)
 by_cases b14 : minL rs < 1
 refine N rfl rfl (decide_eq_true b14) (N rfl rfl (decide_eq_true b14) (N rfl rfl (decide_eq_true b14) (C rfl (Pt _ rfl rfl (decide_eq_true b14) rfl ?_))))
 refine ct_ rfl rfl ?_
 refine Sr ?_
 refine A rfl rfl (A rfl rfl (A rfl rfl ?_))
 refine rt_ ?_
 refine Fin.frz 2 (Own.nil H0 H11 1) rfl m13 fun H15 m16 k17 => ?_
 refine Fin.frz 3 (Own.nil H0 H15 1) rfl m16 fun H18 m19 k20 => ?_
 refine Rr (Res.three rfl rfl rfl rfl) ?_ m19
 exact congrArg AV.tup (lc (congrArg (fun l : List SpotT => AV.sl l.length (l.flatMap eSpot)) (show ([] : List SpotT) = (weaveR rs).1 from by unfold weaveR; rw [if_pos (.inl b14)])) (lc (congrArg (fun l : List I3T => AV.sl l.length (l.flatMap eI3)) (show ([] : List I3T) = (weaveR rs).2.1 from by unfold weaveR; rw [if_pos (.inl b14)])) (lc (congrArg AV.bool (show (false : Bool) = (weaveR rs).2.2 from by unfold weaveR; rw [if_pos (.inl b14)])) rfl)))
 refine Y rfl rfl rfl (decide_eq_false b14) (AOp.sliceAF rfl rfl ar_25 h SubAt.all (Y rfl rfl rfl (decide_eq_false b14) (Pc («as» := [.sl rs.length (rs.map eI)]) rfl rfl (rfl) tf_26 (c_Max rs (by first | (have := h; omega) | simp) (by first | omega | assumption | (constructor <;> omega) | simp)) ?_)))
 intro H21 m22
 have m23 := m13.trans m22
 refine Y rfl rfl rfl (decide_eq_false b14) (Bi _ rfl rfl rfl rfl (C rfl (Pf _ rfl rfl (decide_eq_false b14) rfl ?_)))
 refine AOps.nil ?_
 change AWP _ _ _ _ _ _
 by_cases b24 : maxL rs > 16
 refine ct_ rfl (decide_eq_true b24) ?_
 refine Sr ?_
 refine A rfl rfl (A rfl rfl (A rfl rfl ?_))
 refine rt_ ?_
 refine Fin.frz 2 (Own.nil H0 H21 1) rfl m23 fun H25 m26 k27 => ?_
 refine Fin.frz 3 (Own.nil H0 H25 1) rfl m26 fun H28 m29 k30 => ?_
 refine Rr (Res.three rfl rfl rfl rfl) ?_ m29
 exact congrArg AV.tup (lc (congrArg (fun l : List SpotT => AV.sl l.length (l.flatMap eSpot)) (show ([] : List SpotT) = (weaveR rs).1 from by unfold weaveR; rw [if_pos (.inr b24)])) (lc (congrArg (fun l : List I3T => AV.sl l.length (l.flatMap eI3)) (show ([] : List I3T) = (weaveR rs).2.1 from by unfold weaveR; rw [if_pos (.inr b24)])) (lc (congrArg AV.bool (show (false : Bool) = (weaveR rs).2.2 from by unfold weaveR; rw [if_pos (.inr b24)])) rfl)))
 refine cf_ rfl (decide_eq_false b24) ?_
 refine AWP.skip ?_
 refine AWP.seq ?_
 have hrt := rates_of h (by omega) (by omega)
 have hm16 : maxL rs ≤ 16 := by omega
 have hm1 := max_ge h hrt
 refine AWP.region_str mixed (by kernel_rfl) [(0, none), (1, none), (2, none), (3, some [0, 1, 2])] [4, 5, 6] (by kernel_rfl) ?_
 refine STR.op rfl rfl (.inl ⟨rfl, fun H1 f' H' hf hN hM => Lf _ rfl ((hf 1 rfl).trans rfl) ty_25 (ld_all (len1 h)) ⟨rfl, hN⟩⟩) ?_
 refine STR.op rfl rfl (.inl ⟨rfl, fun H1 f' H' hf hN hM => AOp.sliceAF rfl ((hf 1 rfl).trans rfl) ar_25 h SubAt.all ⟨rfl, hN⟩⟩) ?_
 refine STR.op rfl rfl (.inl ⟨rfl, fun H1 f' H' hf hN hM => Pc («as» := [.sl rs.length (rs.map eI)]) rfl rfl (lapp (lcons ((hf 16 rfl).trans rfl) rfl) rfl) tf_26 (c_Max rs (by first | (have := h; omega) | simp) (by first | omega | assumption | (constructor <;> omega) | simp)) fun H2 m2 => ⟨rfl, hN.trans m2⟩⟩) ?_
 refine STR.eff rfl rfl rfl fun f31 H32 hf33 m34 => ?_
 have m35 := m23.trans m34
 refine AOp.makeMap rfl ?_
 intro i36 H37 n38 h39 k40
 have z41 := Mono.free m35 n38
 have m42 := Mono.new m35 n38 k40
 refine ⟨_, rfl, .inl (Mono.new (Mono.refl _) n38 k40), ?_⟩
 refine STR.done fun H43 m44 => ?_
 have h45 := m44 _ _ h39
 have m46 := m42.trans m44
 refine C rfl (Bl (ps := [(0, .agg (rs.map eI)), (1, J (maxL rs)), (3, .map i36)]) (cells := rs.map eI ++ [J (maxL rs), .snil, .map i36, .snil]) rfl tz_98 pl_98 rfl (fill_step (c' := ((rs.map eI : List AV) ++ ([J 0, .snil, .mapnil, .snil] : List AV))) rfl rfl (show (AV.cells (.agg (rs.map eI))).length = 4 from (len1 h)) rfl (wr_pre (len1 h)) (fill_step (c' := ((rs.map eI : List AV) ++ ([J (maxL rs), .snil, .mapnil, .snil] : List AV))) rfl rfl rfl (blelen (len_app (m := 4) (n := 4) (k := 8) (len1 h) rfl rfl) (by omega)) (wr_skip (off' := 0) (len1 h) (by omega) rfl) (fill_step (c' := ((rs.map eI : List AV) ++ ([J (maxL rs), .snil, .map i36, .snil] : List AV))) rfl rfl rfl (blelen (len_app (m := 4) (n := 4) (k := 8) (len1 h) rfl rfl) (by omega)) (wr_skip (off' := 2) (len1 h) (by omega) rfl) (rfl)))) (C rfl (bx_ (.agg (rs.map eI ++ [J (maxL rs), .snil, .map i36, .snil])) rfl rfl rfl ?_)))
 intro i47 H48 n49 h50 k51
 have e52 := ne_new h45 n49
 have z53 := Mono.free m46 n49
 have h54 := keep k51 (ne_new h45 n49) h45
 have m55 := Mono.new m46 n49 k51
 refine A rfl rfl ?_
 refine Sr ?_
 refine V rfl rfl (C rfl (AOp.inline (n' := 53) («as» := [.ptr i47 0 0]) rfl rfl (rfl) tf_48 rfl rfl rfl rfl ?_))
 refine AWP.seq ?_
 refine Sr ?_
 refine V rfl rfl ?_
 refine bk_ ?_
 refine AWP.loop (fun q56 fq Hq => ∃ (lq : Int) (w0_2 : AV), q56 = ((4 : Int) - lq).toNat ∧ fq 8 = J lq ∧ fq 0 = .ptr i47 0 0 ∧ Own H0 Hq 3 w0_2 (corL lq).length ((corL lq).flatMap eSpot) ∧ NotId w0_2 i36 ∧ NotId w0_2 i47 ∧ Hq i36 = some (.map (plc (corL lq))) ∧ Hq i47 = some (.row 0 (rs.map eI ++ [J (maxL rs), w0_2, .map i36, .snil])) ∧ Mono H0 Hq ∧ (0 ≤ lq) ∧ (lq ≤ 4)) (k := ((4 : Int) - 0).toNat) ?_ ?_
 exact ⟨0, .snil, rfl, rfl, rfl, Own.nil _ _ _, (NotId.nil _), (NotId.nil _), h54, h50, m55, by omega, by omega⟩
 rintro _ f58 H57 ⟨lq, w0_2, rfl, s59, s60, o61, no62, no63, h64, h65, m66, hlq0, hlq1⟩
 refine Sr ?_
 refine B rfl s59 rfl rfl ?_
 refine AWP.seq ?_
 by_cases b67 : lq < 4
 refine ct_ rfl (decide_eq_true b67) ?_
 refine AWP.skip ?_
 refine AWP.seq ?_
 refine bk_ ?_
 refine Sr ?_
 refine V rfl s59 (A rfl rfl ?_)
 refine AWP.region rfl ?_
 refine V rfl s60 (V rfl rfl (C rfl (AOp.inline (n' := 33) («as» := [.ptr i47 0 0, J 1, J lq, J 0]) rfl rfl (rfl) tf_80 rfl rfl rfl rfl ?_)))
 refine Sr ?_
 refine V rfl rfl (V rfl rfl (V rfl rfl (C rfl (Bl (cells := [J 1, J lq, J 0]) rfl tz_76 pl_76 rfl rfl (C rfl (al_ rfl tz_76 ?_))))))
 intro i68 H69 n70 h71 k72
 have e73 := ne_new h64 n70
 have e74 := ne_new h65 n70
 have z75 := Mono.free m66 n70
 have h76 := keep k72 (ne_new h64 n70) h64
 have h77 := keep k72 (ne_new h65 n70) h65
 have o78 := Own.keep o61 k72 (Own.notnew o61 n70)
 have no79 := Own.notnew o61 n70
 have m80 := Mono.new m66 n70 k72
 refine C rfl (Sw rfl rfl ts_76 h71 rfl rfl rfl ?_)
 intro H81 h82 k83
 have h84 := keep k83 e73 h76
 have h85 := keep k83 e74 h77
 have o87 := Own.keep o78 k83 no79
 have m88 := Mono.set m80 z75 k83
 refine AWP.seq ?_
 refine fz_ 8 h82 z75 rfl m88 fun H89 m90 k91 => ?_
 have h92 := (k91 _ e73).trans h84
 have h93 := (k91 _ e74).trans h85
 have o94 := Own.keep o87 k91 no79
 obtain ⟨hnot, hran, hsl, hns⟩ := lay_cor hlq0 (by omega)
 refine AWP.region_quiet mixed (by kernel_rfl) 10 [10] rfl (by kernel_rfl) (Mono H89) (Mono.refl _) ?_
 refine QV rfl rfl (Q rfl (fun _ _ φ ψ => nc_ (.ptr i47 0 0) rfl (φ 13 rfl) rfl ⟨rfl, ψ⟩) (Q rfl (fun _ _ φ ψ => Fa rfl (φ 14 rfl) fl_98_3 ⟨rfl, ψ⟩ (hid := ⟨_, (ψ _ _ h93)⟩)) (Q rfl (fun _ _ φ ψ => Ld _ rfl (φ 15 rfl) ty_96 (ψ _ _ h93) (ld_skip (off' := 2) (len1 h) (by omega) rfl) ⟨rfl, ψ⟩) (QL rfl rfl ty_76 rfl (QV rfl rfl (Q rfl (fun _ _ φ ψ => nc_ (.ptr i47 0 0) rfl (φ 18 rfl) rfl ⟨rfl, ψ⟩) (Q rfl (fun _ _ φ ψ => Fa rfl (φ 19 rfl) fl_98_2 ⟨rfl, ψ⟩ (hid := ⟨_, (ψ _ _ h93)⟩)) (Q rfl (fun _ _ φ ψ => Ld _ rfl (φ 20 rfl) ty_68 (ψ _ _ h93) (ld_skip (off' := 1) (len1 h) (by omega) rfl) ⟨rfl, ψ⟩) (Q rfl (fun _ _ φ ψ => AOp.len_own (m := ((corL lq).length)) rfl (φ 21 rfl) o94 u_68 ⟨rfl, ψ⟩) ?_)))))))))
 refine QE.done fun H95 m96 => ?_
 have h97 := m96 _ _ h92
 have h98 := m96 _ _ h93
 have o99 := Own.mono o94 m96
 have m100 := m90.trans m96
 refine C rfl (AOp.mapUpdate2 (es' := plc ((corL lq) ++ [(SpotT.mk 1 lq 0)])) rfl h97 rfl (kokS hns) (plc_keys hran) tm96 rfl ((mput_plc hnot)) ?_)
 intro H101 h102 k103
 have h105 := keep k103 (Ne.symm e52) h98
 have o106 := Own.keep o99 k103 no62
 have m107 := Mono.set m100 z41 k103
 refine AWP.region_str mixed (by kernel_rfl) [(0, none), (1, none), (2, none), (3, none), (4, none), (5, none), (6, some [0, 1, 2, 3, 4]), (7, some [0])] [8, 9, 10] (by kernel_rfl) ?_
 refine STR.op rfl rfl (.inl ⟨rfl, fun H1 f' H' hf hN hM => Mv _ rfl ((hf 0 rfl).trans rfl) ⟨rfl, hN⟩⟩) ?_
 refine STR.op rfl rfl (.inl ⟨rfl, fun H1 f' H' hf hN hM => Mv _ rfl ((hf 0 rfl).trans rfl) ⟨rfl, hN⟩⟩) ?_
 refine STR.op rfl rfl (.inl ⟨rfl, fun H1 f' H' hf hN hM => nc_ (.ptr i47 0 0) rfl ((hf 24 rfl).trans rfl) rfl ⟨rfl, hN⟩⟩) ?_
 refine STR.op rfl rfl (.inl ⟨rfl, fun H1 f' H' hf hN hM => Fa rfl ((hf 25 rfl).trans rfl) fl_98_2 ⟨rfl, hN⟩ (hid := ⟨_, (hM _ _ h105)⟩)⟩) ?_
 refine STR.op rfl rfl (.inl ⟨rfl, fun H1 f' H' hf hN hM => Ld _ rfl ((hf 26 rfl).trans rfl) ty_68 (hM _ _ h105) (ld_skip (off' := 1) (len1 h) (by omega) rfl) ⟨rfl, hN⟩⟩) ?_
 refine STR.op rfl rfl (.inl ⟨rfl, fun H1 f' H' hf hN hM => Lf _ rfl ((hf 8 rfl).trans rfl) ty_76 rfl ⟨rfl, hN⟩⟩) ?_
 refine STR.eff rfl rfl rfl fun f108 H109 hf110 m111 => ?_
 have h112 := m111 _ _ h105
 have h113 := m111 _ _ h102
 have o114 := Own.mono o106 m111
 have m115 := m107.trans m111
 refine AOp.buildSlice (cells := [J 1, J lq, J 0]) rfl u_68 ts_76 tz_76 rfl (lconsP ((hf110 28 rfl).trans rfl) rfl) rfl ?_
 intro i116 H117 n118 h119 k120
 have h124 := keep k120 (ne_new h112 n118) h112
 have h125 := keep k120 (ne_new h113 n118) h113
 have o126 := Own.keep o114 k120 (Own.notnew o114 n118)
 have m128 := Mono.new m115 n118 k120
 refine ⟨_, rfl, .inl (Mono.new (Mono.refl _) n118 k120), ?_⟩
 refine STR.eff rfl rfl rfl fun f129 H130 hf131 m132 => ?_
 have h133 := m132 _ _ h124
 have h134 := m132 _ _ h125
 have h135 := m132 _ _ h119
 have o136 := Own.mono o126 m132
 have m137 := m128.trans m132
 refine AOp.append_own (es := 3) (m := 1) (len := ((corL lq).length)) (old := (corL lq).flatMap eSpot) (cells := [J 1, J lq, J 0]) rfl u_68 ts_76 tzn_76 tb_76 (by decide) ni_68 ((hf131 27 rfl).trans rfl) o136 m137 ((hf131 29 rfl).trans rfl) (.slm h135 rfl) (one_of rfl) (by decide) (by first | omega | (simp; omega)) ?_
 intro v138 H139 o140 m141 k142 j143
 have o144 := Own.snocM (xs := ((corL lq) : List SpotT)) (y := (SpotT.mk 1 lq 0)) (e := eSpot) (by simp) o140
 have h145 := (k142 _ no63 (by rw [h133]; simp)).trans h133
 have no146 := j143 _ no63 (by rw [h133]; simp)
 have h147 := (k142 _ no62 (by rw [h134]; simp)).trans h134
 have no148 := j143 _ no62 (by rw [h134]; simp)
 refine ⟨_, rfl, .inr (RevR.skip rfl (RevR.skip rfl (RevR.skip rfl (RevR.skip rfl (RevR.skip rfl (RevR.skip rfl (RevR.cons rfl (.inl ⟨rfl, fun H1 f' H' hf hN hM => Mv _ rfl ((hf 0 rfl).trans rfl) ⟨rfl, hN⟩⟩) RevR.nil))))))), ?_⟩
 refine STR.done fun H149 m150 => ?_
 have h151 := m150 _ _ h145
 have h152 := m150 _ _ h147
 have o153 := Own.mono o144 m150
 have m154 := m141.trans m150
 refine C rfl (nc_ (.ptr i47 0 0) rfl rfl rfl ?_)
 refine C rfl (Fa rfl rfl fl_98_2 ?_ (hid := ⟨_, h151⟩))
 refine C rfl (So (cells' := rs.map eI ++ [J (maxL rs), v138, .map i36, .snil]) (v138) rfl rfl ts_68 h151 (by rw [Own.cells_ o153]; simp only [List.all_cons, List.all_nil, Own.one_ o153]; rfl) (by rw [Own.cells_ o153]; rfl) (blelen (len_app (m := 4) (n := 4) (k := 8) (len1 h) rfl rfl) (by omega)) (by rw [Own.cells_ o153]; exact (wr_skip (off' := 1) (len1 h) (by omega) rfl)) ?_)
 intro H155 h156 k157
 have h159 := keep k157 e52 h152
 have o160 := Own.keep o153 k157 no146
 have m161 := Mono.set m154 z53 k157
 refine AOps.nil ?_
 refine ⟨_, _, Ghost.refl, .inl rfl, _, Res.zero rfl, ?_⟩
 refine AWP.region rfl ?_
 refine B rfl s59 rfl (iadd (by omega)) (V rfl rfl ?_)
 refine AOps.nil ?_
 exact ⟨_, by omega, lq + 1, v138, rfl, rfl, s60, (have hx : (((corL lq) ++ [(SpotT.mk 1 lq 0)]) : List SpotT) = corL (lq + 1) := (by rw [corL_step hlq0] <;> rfl); Own.re o160 (congrArg List.length hx) (congrArg (fun l : List SpotT => l.flatMap eSpot) hx)), no148, no146, (h159.trans (congrArg (fun l : List SpotT => some (AB.map (plc l))) (show (((corL lq) ++ [(SpotT.mk 1 lq 0)]) : List SpotT) = (corL (lq + 1)) from by rw [corL_step hlq0] <;> rfl))), h156, m161, by omega, by omega⟩
 refine cf_ rfl (decide_eq_false b67) ?_
 refine AWP.exit ?_
 change AWP _ _ _ _ _ _
 refine AWP.seq ?_
 refine Sr ?_
 refine V rfl s60 (C rfl (nc_ (.ptr i47 0 0) rfl rfl rfl ?_))
 refine C rfl (Fa rfl rfl fl_98_0 ?_ (hid := ⟨_, h65⟩))
 refine C rfl (Ld _ rfl rfl ty_25 h65 (ld_fst (fun h => by first | rfl | cases h) (ld_all (len1 h))) (V rfl rfl ?_))
 refine bk_ ?_
 refine AWP.loop (fun q162 fq Hq => ∃ (lk : Int) (w0_2 : AV), q162 = ((4 : Int) - lk).toNat ∧ fq 19 = J lk ∧ fq 0 = .ptr i47 0 0 ∧ fq 18 = .agg (rs.map eI) ∧ Own H0 Hq 3 w0_2 (corL 4 ++ edgO rs lk).length ((corL 4 ++ edgO rs lk).flatMap eSpot) ∧ NotId w0_2 i36 ∧ NotId w0_2 i47 ∧ Hq i36 = some (.map (plc (corL 4 ++ edgO rs lk))) ∧ Hq i47 = some (.row 0 (rs.map eI ++ [J (maxL rs), w0_2, .map i36, .snil])) ∧ Mono H0 Hq ∧ (0 ≤ lk) ∧ (lk ≤ 4)) (k := ((4 : Int) - 0).toNat) ?_ ?_
 exact ⟨0, w0_2, rfl, rfl, s60, rfl, (have hx : ((corL lq) : List SpotT) = corL 4 ++ edgO rs 0 := (by rw [show lq = 4 by omega, edgO_0, List.append_nil]); Own.re o61 (congrArg List.length hx) (congrArg (fun l : List SpotT => l.flatMap eSpot) hx)), no62, no63, (h64.trans (congrArg (fun l : List SpotT => some (AB.map (plc l))) (show ((corL lq) : List SpotT) = (corL 4 ++ edgO rs 0) from by rw [show lq = 4 by omega, edgO_0, List.append_nil]))), h65, m66, by omega, by omega⟩
 rintro _ f164 H163 ⟨lk, w0_2, rfl, s165, s166, s167, o168, no169, no170, h171, h172, m173, hlk0, hlk1⟩
 refine Sr ?_
 refine B rfl s165 rfl rfl ?_
 refine AWP.seq ?_
 by_cases b174 : lk < 4
 refine ct_ rfl (decide_eq_true b174) ?_
 refine AWP.skip ?_
 refine AWP.seq ?_
 refine bk_ ?_
 refine Sr ?_
 refine V rfl s165 (C rfl (AOp.indexArr (J (at_ rs lk)) rfl s167 s165 ar_25 (by omega) (by omega) (ld1 (i := lk) (by omega) (by first | (have := h; omega) | (simp; omega))) (A rfl rfl (A rfl rfl ?_))))
 refine AWP.seq ?_
 have hrk := hrt lk hlk0 (by omega)
 refine AWP.region rfl ?_
 refine A rfl rfl ?_
 refine bk_ ?_
 refine AWP.loop (fun q175 fq Hq => ∃ (li : Int) (w0_2 : AV), q175 = ((at_ rs lk : Int) - li).toNat ∧ fq 5 = J li ∧ fq 19 = J lk ∧ fq 0 = .ptr i47 0 0 ∧ fq 18 = .agg (rs.map eI) ∧ fq 3 = J lk ∧ fq 4 = J (at_ rs lk) ∧ Own H0 Hq 3 w0_2 (corL 4 ++ edgO rs lk ++ edgI lk li).length ((corL 4 ++ edgO rs lk ++ edgI lk li).flatMap eSpot) ∧ NotId w0_2 i36 ∧ NotId w0_2 i47 ∧ Hq i36 = some (.map (plc (corL 4 ++ edgO rs lk ++ edgI lk li))) ∧ Hq i47 = some (.row 0 (rs.map eI ++ [J (maxL rs), w0_2, .map i36, .snil])) ∧ Mono H0 Hq ∧ (1 ≤ li) ∧ (li ≤ at_ rs lk)) (k := ((at_ rs lk : Int) - 1).toNat) ?_ ?_
 exact ⟨1, w0_2, rfl, rfl, s165, s166, s167, rfl, rfl, (have hx : ((corL 4 ++ edgO rs lk) : List SpotT) = corL 4 ++ edgO rs lk ++ edgI lk 1 := (by rw [edgI_1 (Int.le_refl 1), List.append_nil]); Own.re o168 (congrArg List.length hx) (congrArg (fun l : List SpotT => l.flatMap eSpot) hx)), no169, no170, (h171.trans (congrArg (fun l : List SpotT => some (AB.map (plc l))) (show ((corL 4 ++ edgO rs lk) : List SpotT) = (corL 4 ++ edgO rs lk ++ edgI lk 1) from by rw [edgI_1 (Int.le_refl 1), List.append_nil]))), h172, m173, by omega, by omega⟩
 rintro _ f177 H176 ⟨li, w0_2, rfl, s178, s179, s180, s181, s182, s183, o184, no185, no186, h187, h188, m189, hli0, hli1⟩
 refine AWP.seq ?_
 refine Sr ?_
 refine V rfl s178 (V rfl s183 (B rfl rfl rfl rfl ?_))
 refine AOps.nil ?_
 change AWP _ _ _ _ _ _
 by_cases b190 : li < at_ rs lk
 refine ct_ rfl (decide_eq_true b190) ?_
 refine AWP.skip ?_
 refine AWP.seq ?_
 refine bk_ ?_
 refine AWP.region rfl ?_
 refine V rfl s180 (V rfl s182 (V rfl s178 (C rfl (AOp.inline (n' := 33) («as» := [.ptr i47 0 0, J 2, J lk, J li]) rfl rfl (rfl) tf_80 rfl rfl rfl rfl ?_))))
 refine Sr ?_
 refine V rfl rfl (V rfl rfl (V rfl rfl (C rfl (Bl (cells := [J 2, J lk, J li]) rfl tz_76 pl_76 rfl rfl (C rfl (al_ rfl tz_76 ?_))))))
 intro i191 H192 n193 h194 k195
 have e196 := ne_new h187 n193
 have e197 := ne_new h188 n193
 have z198 := Mono.free m189 n193
 have h199 := keep k195 (ne_new h187 n193) h187
 have h200 := keep k195 (ne_new h188 n193) h188
 have o201 := Own.keep o184 k195 (Own.notnew o184 n193)
 have no202 := Own.notnew o184 n193
 have m203 := Mono.new m189 n193 k195
 refine C rfl (Sw rfl rfl ts_76 h194 rfl rfl rfl ?_)
 intro H204 h205 k206
 have h207 := keep k206 e196 h199
 have h208 := keep k206 e197 h200
 have o210 := Own.keep o201 k206 no202
 have m211 := Mono.set m203 z198 k206
 refine AWP.seq ?_
 refine fz_ 8 h205 z198 rfl m211 fun H212 m213 k214 => ?_
 have h215 := (k214 _ e196).trans h207
 have h216 := (k214 _ e197).trans h208
 have o217 := Own.keep o210 k214 no202
 obtain ⟨hnot, hran, hsl, hns⟩ := lay_edg hrt hlk0 (by omega) hli0 (by omega)
 refine AWP.region_quiet mixed (by kernel_rfl) 10 [10] rfl (by kernel_rfl) (Mono H212) (Mono.refl _) ?_
 refine QV rfl rfl (Q rfl (fun _ _ φ ψ => nc_ (.ptr i47 0 0) rfl (φ 13 rfl) rfl ⟨rfl, ψ⟩) (Q rfl (fun _ _ φ ψ => Fa rfl (φ 14 rfl) fl_98_3 ⟨rfl, ψ⟩ (hid := ⟨_, (ψ _ _ h216)⟩)) (Q rfl (fun _ _ φ ψ => Ld _ rfl (φ 15 rfl) ty_96 (ψ _ _ h216) (ld_skip (off' := 2) (len1 h) (by omega) rfl) ⟨rfl, ψ⟩) (QL rfl rfl ty_76 rfl (QV rfl rfl (Q rfl (fun _ _ φ ψ => nc_ (.ptr i47 0 0) rfl (φ 18 rfl) rfl ⟨rfl, ψ⟩) (Q rfl (fun _ _ φ ψ => Fa rfl (φ 19 rfl) fl_98_2 ⟨rfl, ψ⟩ (hid := ⟨_, (ψ _ _ h216)⟩)) (Q rfl (fun _ _ φ ψ => Ld _ rfl (φ 20 rfl) ty_68 (ψ _ _ h216) (ld_skip (off' := 1) (len1 h) (by omega) rfl) ⟨rfl, ψ⟩) (Q rfl (fun _ _ φ ψ => AOp.len_own (m := ((corL 4 ++ edgO rs lk ++ edgI lk li).length)) rfl (φ 21 rfl) o217 u_68 ⟨rfl, ψ⟩) ?_)))))))))
 refine QE.done fun H218 m219 => ?_
 have h220 := m219 _ _ h215
 have h221 := m219 _ _ h216
 have o222 := Own.mono o217 m219
 have m223 := m213.trans m219
 refine C rfl (AOp.mapUpdate2 (es' := plc ((corL 4 ++ edgO rs lk ++ edgI lk li) ++ [(SpotT.mk 2 lk li)])) rfl h220 rfl (kokS hns) (plc_keys hran) tm96 rfl ((mput_plc hnot)) ?_)
 intro H224 h225 k226
 have h228 := keep k226 (Ne.symm e52) h221
 have o229 := Own.keep o222 k226 no185
 have m230 := Mono.set m223 z41 k226
 refine AWP.region_str mixed (by kernel_rfl) [(0, none), (1, none), (2, none), (3, none), (4, none), (5, none), (6, some [0, 1, 2, 3, 4]), (7, some [0])] [8, 9, 10] (by kernel_rfl) ?_
 refine STR.op rfl rfl (.inl ⟨rfl, fun H1 f' H' hf hN hM => Mv _ rfl ((hf 0 rfl).trans rfl) ⟨rfl, hN⟩⟩) ?_
 refine STR.op rfl rfl (.inl ⟨rfl, fun H1 f' H' hf hN hM => Mv _ rfl ((hf 0 rfl).trans rfl) ⟨rfl, hN⟩⟩) ?_
 refine STR.op rfl rfl (.inl ⟨rfl, fun H1 f' H' hf hN hM => nc_ (.ptr i47 0 0) rfl ((hf 24 rfl).trans rfl) rfl ⟨rfl, hN⟩⟩) ?_
 refine STR.op rfl rfl (.inl ⟨rfl, fun H1 f' H' hf hN hM => Fa rfl ((hf 25 rfl).trans rfl) fl_98_2 ⟨rfl, hN⟩ (hid := ⟨_, (hM _ _ h228)⟩)⟩) ?_
 refine STR.op rfl rfl (.inl ⟨rfl, fun H1 f' H' hf hN hM => Ld _ rfl ((hf 26 rfl).trans rfl) ty_68 (hM _ _ h228) (ld_skip (off' := 1) (len1 h) (by omega) rfl) ⟨rfl, hN⟩⟩) ?_
 refine STR.op rfl rfl (.inl ⟨rfl, fun H1 f' H' hf hN hM => Lf _ rfl ((hf 8 rfl).trans rfl) ty_76 rfl ⟨rfl, hN⟩⟩) ?_
 refine STR.eff rfl rfl rfl fun f231 H232 hf233 m234 => ?_
 have h235 := m234 _ _ h228
 have h236 := m234 _ _ h225
 have o237 := Own.mono o229 m234
 have m238 := m230.trans m234
 refine AOp.buildSlice (cells := [J 2, J lk, J li]) rfl u_68 ts_76 tz_76 rfl (lconsP ((hf233 28 rfl).trans rfl) rfl) rfl ?_
 intro i239 H240 n241 h242 k243
 have h247 := keep k243 (ne_new h235 n241) h235
 have h248 := keep k243 (ne_new h236 n241) h236
 have o249 := Own.keep o237 k243 (Own.notnew o237 n241)
 have m251 := Mono.new m238 n241 k243
 refine ⟨_, rfl, .inl (Mono.new (Mono.refl _) n241 k243), ?_⟩
 refine STR.eff rfl rfl rfl fun f252 H253 hf254 m255 => ?_
 have h256 := m255 _ _ h247
 have h257 := m255 _ _ h248
 have h258 := m255 _ _ h242
 have o259 := Own.mono o249 m255
 have m260 := m251.trans m255
 refine AOp.append_own (es := 3) (m := 1) (len := ((corL 4 ++ edgO rs lk ++ edgI lk li).length)) (old := (corL 4 ++ edgO rs lk ++ edgI lk li).flatMap eSpot) (cells := [J 2, J lk, J li]) rfl u_68 ts_76 tzn_76 tb_76 (by decide) ni_68 ((hf254 27 rfl).trans rfl) o259 m260 ((hf254 29 rfl).trans rfl) (.slm h258 rfl) (one_of rfl) (by decide) (by first | omega | (simp; omega)) ?_
 intro v261 H262 o263 m264 k265 j266
 have o267 := Own.snocM (xs := ((corL 4 ++ edgO rs lk ++ edgI lk li) : List SpotT)) (y := (SpotT.mk 2 lk li)) (e := eSpot) (by simp) o263
 have h268 := (k265 _ no186 (by rw [h256]; simp)).trans h256
 have no269 := j266 _ no186 (by rw [h256]; simp)
 have h270 := (k265 _ no185 (by rw [h257]; simp)).trans h257
 have no271 := j266 _ no185 (by rw [h257]; simp)
 refine ⟨_, rfl, .inr (RevR.skip rfl (RevR.skip rfl (RevR.skip rfl (RevR.skip rfl (RevR.skip rfl (RevR.skip rfl (RevR.cons rfl (.inl ⟨rfl, fun H1 f' H' hf hN hM => Mv _ rfl ((hf 0 rfl).trans rfl) ⟨rfl, hN⟩⟩) RevR.nil))))))), ?_⟩
 refine STR.done fun H272 m273 => ?_
 have h274 := m273 _ _ h268
 have h275 := m273 _ _ h270
 have o276 := Own.mono o267 m273
 have m277 := m264.trans m273
 refine C rfl (nc_ (.ptr i47 0 0) rfl rfl rfl ?_)
 refine C rfl (Fa rfl rfl fl_98_2 ?_ (hid := ⟨_, h274⟩))
 refine C rfl (So (cells' := rs.map eI ++ [J (maxL rs), v261, .map i36, .snil]) (v261) rfl rfl ts_68 h274 (by rw [Own.cells_ o276]; simp only [List.all_cons, List.all_nil, Own.one_ o276]; rfl) (by rw [Own.cells_ o276]; rfl) (blelen (len_app (m := 4) (n := 4) (k := 8) (len1 h) rfl rfl) (by omega)) (by rw [Own.cells_ o276]; exact (wr_skip (off' := 1) (len1 h) (by omega) rfl)) ?_)
 intro H278 h279 k280
 have h282 := keep k280 e52 h275
 have o283 := Own.keep o276 k280 no269
 have m284 := Mono.set m277 z53 k280
 refine AOps.nil ?_
 refine ⟨_, _, Ghost.refl, .inl rfl, _, Res.zero rfl, ?_⟩
 refine AWP.region rfl ?_
 refine V rfl s178 (B rfl rfl rfl (iadd (by omega)) (A rfl rfl ?_))
 refine AOps.nil ?_
 exact ⟨_, by omega, li + 1, v261, rfl, rfl, s179, s180, s181, s182, s183, (have hx : (((corL 4 ++ edgO rs lk ++ edgI lk li) ++ [(SpotT.mk 2 lk li)]) : List SpotT) = corL 4 ++ edgO rs lk ++ edgI lk (li + 1) := (by rw [edgI_step hli0, ← List.append_assoc] <;> rfl); Own.re o283 (congrArg List.length hx) (congrArg (fun l : List SpotT => l.flatMap eSpot) hx)), no271, no269, (h282.trans (congrArg (fun l : List SpotT => some (AB.map (plc l))) (show (((corL 4 ++ edgO rs lk ++ edgI lk li) ++ [(SpotT.mk 2 lk li)]) : List SpotT) = (corL 4 ++ edgO rs lk ++ edgI lk (li + 1)) from by rw [edgI_step hli0, ← List.append_assoc] <;> rfl))), h279, m284, by omega, by omega⟩
 refine cf_ rfl (decide_eq_false b190) ?_
 refine AWP.exit ?_
 change AWP _ _ _ _ _ _
 refine AWP.region rfl ?_
 refine B rfl s179 rfl (iadd (by omega)) (V rfl rfl ?_)
 refine AOps.nil ?_
 exact ⟨_, by omega, lk + 1, w0_2, rfl, rfl, s180, s181, (have hx : ((corL 4 ++ edgO rs lk ++ edgI lk li) : List SpotT) = corL 4 ++ edgO rs (lk + 1) := (by rw [show li = at_ rs lk by omega, edgO_step hlk0, List.append_assoc]); Own.re o184 (congrArg List.length hx) (congrArg (fun l : List SpotT => l.flatMap eSpot) hx)), no185, no186, (h187.trans (congrArg (fun l : List SpotT => some (AB.map (plc l))) (show ((corL 4 ++ edgO rs lk ++ edgI lk li) : List SpotT) = (corL 4 ++ edgO rs (lk + 1)) from by rw [show li = at_ rs lk by omega, edgO_step hlk0, List.append_assoc]))), h188, m189, by omega, by omega⟩
 refine cf_ rfl (decide_eq_false b174) ?_
 refine AWP.exit ?_
 change AWP _ _ _ _ _ _
 refine Sr ?_
 refine A rfl rfl ?_
 refine bk_ ?_
 refine AWP.loop (fun q285 fq Hq => ∃ (lb : Int) (w0_2 : AV), q285 = ((maxL rs : Int) - lb).toNat ∧ fq 6 = J lb ∧ fq 0 = .ptr i47 0 0 ∧ Own H0 Hq 3 w0_2 (corL 4 ++ edgO rs 4 ++ innO (maxL rs) lb).length ((corL 4 ++ edgO rs 4 ++ innO (maxL rs) lb).flatMap eSpot) ∧ NotId w0_2 i36 ∧ NotId w0_2 i47 ∧ Hq i36 = some (.map (plc (corL 4 ++ edgO rs 4 ++ innO (maxL rs) lb))) ∧ Hq i47 = some (.row 0 (rs.map eI ++ [J (maxL rs), w0_2, .map i36, .snil])) ∧ Mono H0 Hq ∧ (1 ≤ lb) ∧ (lb ≤ maxL rs)) (k := ((maxL rs : Int) - 1).toNat) ?_ ?_
 exact ⟨1, w0_2, rfl, rfl, s166, (have hx : ((corL 4 ++ edgO rs lk) : List SpotT) = corL 4 ++ edgO rs 4 ++ innO (maxL rs) 1 := (by rw [show lk = 4 by omega, innO_1 (Int.le_refl 1), List.append_nil]); Own.re o168 (congrArg List.length hx) (congrArg (fun l : List SpotT => l.flatMap eSpot) hx)), no169, no170, (h171.trans (congrArg (fun l : List SpotT => some (AB.map (plc l))) (show ((corL 4 ++ edgO rs lk) : List SpotT) = (corL 4 ++ edgO rs 4 ++ innO (maxL rs) 1) from by rw [show lk = 4 by omega, innO_1 (Int.le_refl 1), List.append_nil]))), h172, m173, by omega, by omega⟩
 rintro _ f287 H286 ⟨lb, w0_2, rfl, s288, s289, o290, no291, no292, h293, h294, m295, hlb0, hlb1⟩
 refine AWP.seq ?_
 refine Sr ?_
 refine V rfl s288 (V rfl s289 (C rfl (nc_ (.ptr i47 0 0) rfl rfl rfl ?_)))
 refine C rfl (Fa rfl rfl fl_98_1 ?_ (hid := ⟨_, h294⟩))
 refine C rfl (Ld _ rfl rfl ty_3 h294 (ld_skip (off' := 0) (len1 h) (by omega) rfl) (B rfl rfl rfl rfl ?_))
 refine AOps.nil ?_
 change AWP _ _ _ _ _ _
 by_cases b296 : lb < maxL rs
 refine ct_ rfl (decide_eq_true b296) ?_
 refine AWP.skip ?_
 refine AWP.seq ?_
 refine bk_ ?_
 refine Sr ?_
 refine A rfl rfl ?_
 refine bk_ ?_
 refine AWP.loop (fun q297 fq Hq => ∃ (la : Int) (w0_2 : AV), q297 = ((maxL rs : Int) - la).toNat ∧ fq 7 = J la ∧ fq 6 = J lb ∧ fq 0 = .ptr i47 0 0 ∧ Own H0 Hq 3 w0_2 (corL 4 ++ edgO rs 4 ++ innO (maxL rs) lb ++ innI lb la).length ((corL 4 ++ edgO rs 4 ++ innO (maxL rs) lb ++ innI lb la).flatMap eSpot) ∧ NotId w0_2 i36 ∧ NotId w0_2 i47 ∧ Hq i36 = some (.map (plc (corL 4 ++ edgO rs 4 ++ innO (maxL rs) lb ++ innI lb la))) ∧ Hq i47 = some (.row 0 (rs.map eI ++ [J (maxL rs), w0_2, .map i36, .snil])) ∧ Mono H0 Hq ∧ (1 ≤ la) ∧ (la ≤ maxL rs)) (k := ((maxL rs : Int) - 1).toNat) ?_ ?_
 exact ⟨1, w0_2, rfl, rfl, s288, s289, (have hx : ((corL 4 ++ edgO rs 4 ++ innO (maxL rs) lb) : List SpotT) = corL 4 ++ edgO rs 4 ++ innO (maxL rs) lb ++ innI lb 1 := (by rw [innI_1 (Int.le_refl 1), List.append_nil]); Own.re o290 (congrArg List.length hx) (congrArg (fun l : List SpotT => l.flatMap eSpot) hx)), no291, no292, (h293.trans (congrArg (fun l : List SpotT => some (AB.map (plc l))) (show ((corL 4 ++ edgO rs 4 ++ innO (maxL rs) lb) : List SpotT) = (corL 4 ++ edgO rs 4 ++ innO (maxL rs) lb ++ innI lb 1) from by rw [innI_1 (Int.le_refl 1), List.append_nil]))), h294, m295, by omega, by omega⟩
 rintro _ f299 H298 ⟨la, w0_2, rfl, s300, s301, s302, o303, no304, no305, h306, h307, m308, hla0, hla1⟩
 refine AWP.seq ?_
 refine Sr ?_
 refine V rfl s300 (V rfl s302 (C rfl (nc_ (.ptr i47 0 0) rfl rfl rfl ?_)))
 refine C rfl (Fa rfl rfl fl_98_1 ?_ (hid := ⟨_, h307⟩))
 refine C rfl (Ld _ rfl rfl ty_3 h307 (ld_skip (off' := 0) (len1 h) (by omega) rfl) (B rfl rfl rfl rfl ?_))
 refine AOps.nil ?_
 change AWP _ _ _ _ _ _
 by_cases b309 : la < maxL rs
 refine ct_ rfl (decide_eq_true b309) ?_
 refine AWP.skip ?_
 refine AWP.seq ?_
 refine bk_ ?_
 refine AWP.region rfl ?_
 refine V rfl s302 (V rfl s300 (V rfl s301 (C rfl (AOp.inline (n' := 33) («as» := [.ptr i47 0 0, J 3, J la, J lb]) rfl rfl (rfl) tf_80 rfl rfl rfl rfl ?_))))
 refine Sr ?_
 refine V rfl rfl (V rfl rfl (V rfl rfl (C rfl (Bl (cells := [J 3, J la, J lb]) rfl tz_76 pl_76 rfl rfl (C rfl (al_ rfl tz_76 ?_))))))
 intro i310 H311 n312 h313 k314
 have e315 := ne_new h306 n312
 have e316 := ne_new h307 n312
 have z317 := Mono.free m308 n312
 have h318 := keep k314 (ne_new h306 n312) h306
 have h319 := keep k314 (ne_new h307 n312) h307
 have o320 := Own.keep o303 k314 (Own.notnew o303 n312)
 have no321 := Own.notnew o303 n312
 have m322 := Mono.new m308 n312 k314
 refine C rfl (Sw rfl rfl ts_76 h313 rfl rfl rfl ?_)
 intro H323 h324 k325
 have h326 := keep k325 e315 h318
 have h327 := keep k325 e316 h319
 have o329 := Own.keep o320 k325 no321
 have m330 := Mono.set m322 z317 k325
 refine AWP.seq ?_
 refine fz_ 8 h324 z317 rfl m330 fun H331 m332 k333 => ?_
 have h334 := (k333 _ e315).trans h326
 have h335 := (k333 _ e316).trans h327
 have o336 := Own.keep o329 k333 no321
 obtain ⟨hnot, hran, hsl, hns⟩ := lay_inn hrt hm16 hlb0 (by omega) hla0 (by omega)
 refine AWP.region_quiet mixed (by kernel_rfl) 10 [10] rfl (by kernel_rfl) (Mono H331) (Mono.refl _) ?_
 refine QV rfl rfl (Q rfl (fun _ _ φ ψ => nc_ (.ptr i47 0 0) rfl (φ 13 rfl) rfl ⟨rfl, ψ⟩) (Q rfl (fun _ _ φ ψ => Fa rfl (φ 14 rfl) fl_98_3 ⟨rfl, ψ⟩ (hid := ⟨_, (ψ _ _ h335)⟩)) (Q rfl (fun _ _ φ ψ => Ld _ rfl (φ 15 rfl) ty_96 (ψ _ _ h335) (ld_skip (off' := 2) (len1 h) (by omega) rfl) ⟨rfl, ψ⟩) (QL rfl rfl ty_76 rfl (QV rfl rfl (Q rfl (fun _ _ φ ψ => nc_ (.ptr i47 0 0) rfl (φ 18 rfl) rfl ⟨rfl, ψ⟩) (Q rfl (fun _ _ φ ψ => Fa rfl (φ 19 rfl) fl_98_2 ⟨rfl, ψ⟩ (hid := ⟨_, (ψ _ _ h335)⟩)) (Q rfl (fun _ _ φ ψ => Ld _ rfl (φ 20 rfl) ty_68 (ψ _ _ h335) (ld_skip (off' := 1) (len1 h) (by omega) rfl) ⟨rfl, ψ⟩) (Q rfl (fun _ _ φ ψ => AOp.len_own (m := ((corL 4 ++ edgO rs 4 ++ innO (maxL rs) lb ++ innI lb la).length)) rfl (φ 21 rfl) o336 u_68 ⟨rfl, ψ⟩) ?_)))))))))
 refine QE.done fun H337 m338 => ?_
 have h339 := m338 _ _ h334
 have h340 := m338 _ _ h335
 have o341 := Own.mono o336 m338
 have m342 := m332.trans m338
 refine C rfl (AOp.mapUpdate2 (es' := plc ((corL 4 ++ edgO rs 4 ++ innO (maxL rs) lb ++ innI lb la) ++ [(SpotT.mk 3 la lb)])) rfl h339 rfl (kokS hns) (plc_keys hran) tm96 rfl ((mput_plc hnot)) ?_)
 intro H343 h344 k345
 have h347 := keep k345 (Ne.symm e52) h340
 have o348 := Own.keep o341 k345 no304
 have m349 := Mono.set m342 z41 k345
 refine AWP.region_str mixed (by kernel_rfl) [(0, none), (1, none), (2, none), (3, none), (4, none), (5, none), (6, some [0, 1, 2, 3, 4]), (7, some [0])] [8, 9, 10] (by kernel_rfl) ?_
 refine STR.op rfl rfl (.inl ⟨rfl, fun H1 f' H' hf hN hM => Mv _ rfl ((hf 0 rfl).trans rfl) ⟨rfl, hN⟩⟩) ?_
 refine STR.op rfl rfl (.inl ⟨rfl, fun H1 f' H' hf hN hM => Mv _ rfl ((hf 0 rfl).trans rfl) ⟨rfl, hN⟩⟩) ?_
 refine STR.op rfl rfl (.inl ⟨rfl, fun H1 f' H' hf hN hM => nc_ (.ptr i47 0 0) rfl ((hf 24 rfl).trans rfl) rfl ⟨rfl, hN⟩⟩) ?_
 refine STR.op rfl rfl (.inl ⟨rfl, fun H1 f' H' hf hN hM => Fa rfl ((hf 25 rfl).trans rfl) fl_98_2 ⟨rfl, hN⟩ (hid := ⟨_, (hM _ _ h347)⟩)⟩) ?_
 refine STR.op rfl rfl (.inl ⟨rfl, fun H1 f' H' hf hN hM => Ld _ rfl ((hf 26 rfl).trans rfl) ty_68 (hM _ _ h347) (ld_skip (off' := 1) (len1 h) (by omega) rfl) ⟨rfl, hN⟩⟩) ?_
 refine STR.op rfl rfl (.inl ⟨rfl, fun H1 f' H' hf hN hM => Lf _ rfl ((hf 8 rfl).trans rfl) ty_76 rfl ⟨rfl, hN⟩⟩) ?_
 refine STR.eff rfl rfl rfl fun f350 H351 hf352 m353 => ?_
 have h354 := m353 _ _ h347
 have h355 := m353 _ _ h344
 have o356 := Own.mono o348 m353
 have m357 := m349.trans m353
 refine AOp.buildSlice (cells := [J 3, J la, J lb]) rfl u_68 ts_76 tz_76 rfl (lconsP ((hf352 28 rfl).trans rfl) rfl) rfl ?_
 intro i358 H359 n360 h361 k362
 have h366 := keep k362 (ne_new h354 n360) h354
 have h367 := keep k362 (ne_new h355 n360) h355
 have o368 := Own.keep o356 k362 (Own.notnew o356 n360)
 have m370 := Mono.new m357 n360 k362
 refine ⟨_, rfl, .inl (Mono.new (Mono.refl _) n360 k362), ?_⟩
 refine STR.eff rfl rfl rfl fun f371 H372 hf373 m374 => ?_
 have h375 := m374 _ _ h366
 have h376 := m374 _ _ h367
 have h377 := m374 _ _ h361
 have o378 := Own.mono o368 m374
 have m379 := m370.trans m374
 refine AOp.append_own (es := 3) (m := 1) (len := ((corL 4 ++ edgO rs 4 ++ innO (maxL rs) lb ++ innI lb la).length)) (old := (corL 4 ++ edgO rs 4 ++ innO (maxL rs) lb ++ innI lb la).flatMap eSpot) (cells := [J 3, J la, J lb]) rfl u_68 ts_76 tzn_76 tb_76 (by decide) ni_68 ((hf373 27 rfl).trans rfl) o378 m379 ((hf373 29 rfl).trans rfl) (.slm h377 rfl) (one_of rfl) (by decide) (by first | omega | (simp; omega)) ?_
 intro v380 H381 o382 m383 k384 j385
 have o386 := Own.snocM (xs := ((corL 4 ++ edgO rs 4 ++ innO (maxL rs) lb ++ innI lb la) : List SpotT)) (y := (SpotT.mk 3 la lb)) (e := eSpot) (by simp) o382
 have h387 := (k384 _ no305 (by rw [h375]; simp)).trans h375
 have no388 := j385 _ no305 (by rw [h375]; simp)
 have h389 := (k384 _ no304 (by rw [h376]; simp)).trans h376
 have no390 := j385 _ no304 (by rw [h376]; simp)
 refine ⟨_, rfl, .inr (RevR.skip rfl (RevR.skip rfl (RevR.skip rfl (RevR.skip rfl (RevR.skip rfl (RevR.skip rfl (RevR.cons rfl (.inl ⟨rfl, fun H1 f' H' hf hN hM => Mv _ rfl ((hf 0 rfl).trans rfl) ⟨rfl, hN⟩⟩) RevR.nil))))))), ?_⟩
 refine STR.done fun H391 m392 => ?_
 have h393 := m392 _ _ h387
 have h394 := m392 _ _ h389
 have o395 := Own.mono o386 m392
 have m396 := m383.trans m392
 refine C rfl (nc_ (.ptr i47 0 0) rfl rfl rfl ?_)
 refine C rfl (Fa rfl rfl fl_98_2 ?_ (hid := ⟨_, h393⟩))
 refine C rfl (So (cells' := rs.map eI ++ [J (maxL rs), v380, .map i36, .snil]) (v380) rfl rfl ts_68 h393 (by rw [Own.cells_ o395]; simp only [List.all_cons, List.all_nil, Own.one_ o395]; rfl) (by rw [Own.cells_ o395]; rfl) (blelen (len_app (m := 4) (n := 4) (k := 8) (len1 h) rfl rfl) (by omega)) (by rw [Own.cells_ o395]; exact (wr_skip (off' := 1) (len1 h) (by omega) rfl)) ?_)
 intro H397 h398 k399
 have h401 := keep k399 e52 h394
 have o402 := Own.keep o395 k399 no388
 have m403 := Mono.set m396 z53 k399
 refine AOps.nil ?_
 refine ⟨_, _, Ghost.refl, .inl rfl, _, Res.zero rfl, ?_⟩
 refine AWP.region rfl ?_
 refine V rfl s300 (B rfl rfl rfl (iadd (by omega)) (A rfl rfl ?_))
 refine AOps.nil ?_
 exact ⟨_, by omega, la + 1, v380, rfl, rfl, s301, s302, (have hx : (((corL 4 ++ edgO rs 4 ++ innO (maxL rs) lb ++ innI lb la) ++ [(SpotT.mk 3 la lb)]) : List SpotT) = corL 4 ++ edgO rs 4 ++ innO (maxL rs) lb ++ innI lb (la + 1) := (by rw [innI_step hla0, ← List.append_assoc] <;> rfl); Own.re o402 (congrArg List.length hx) (congrArg (fun l : List SpotT => l.flatMap eSpot) hx)), no390, no388, (h401.trans (congrArg (fun l : List SpotT => some (AB.map (plc l))) (show (((corL 4 ++ edgO rs 4 ++ innO (maxL rs) lb ++ innI lb la) ++ [(SpotT.mk 3 la lb)]) : List SpotT) = (corL 4 ++ edgO rs 4 ++ innO (maxL rs) lb ++ innI lb (la + 1)) from by rw [innI_step hla0, ← List.append_assoc] <;> rfl))), h398, m403, by omega, by omega⟩
 refine cf_ rfl (decide_eq_false b309) ?_
 refine AWP.exit ?_
 change AWP _ _ _ _ _ _
 refine AWP.region rfl ?_
 refine V rfl s301 (B rfl rfl rfl (iadd (by omega)) (A rfl rfl ?_))
 refine AOps.nil ?_
 exact ⟨_, by omega, lb + 1, w0_2, rfl, rfl, s302, (have hx : ((corL 4 ++ edgO rs 4 ++ innO (maxL rs) lb ++ innI lb la) : List SpotT) = corL 4 ++ edgO rs 4 ++ innO (maxL rs) (lb + 1) := (by rw [show la = maxL rs by omega, innO_step hlb0, ← List.append_assoc]); Own.re o303 (congrArg List.length hx) (congrArg (fun l : List SpotT => l.flatMap eSpot) hx)), no304, no305, (h306.trans (congrArg (fun l : List SpotT => some (AB.map (plc l))) (show ((corL 4 ++ edgO rs 4 ++ innO (maxL rs) lb ++ innI lb la) : List SpotT) = (corL 4 ++ edgO rs 4 ++ innO (maxL rs) (lb + 1)) from by rw [show la = maxL rs by omega, innO_step hlb0, ← List.append_assoc]))), h307, m308, by omega, by omega⟩
 refine cf_ rfl (decide_eq_false b296) ?_
 refine AWP.exit ?_
 refine ⟨_, _, Ghost.refl, .inl rfl, _, Res.zero rfl, ?_⟩
 refine AWP.seq ?_
 refine AWP.seq ?_
 have hse404 : (corL 4 ++ edgO rs 4 ++ innO (maxL rs) lb : List SpotT) = spotsL rs (maxL rs) := by rw [show lb = maxL rs by omega] <;> rfl
 have o405 := Own.re o290 (congrArg List.length hse404) (congrArg (fun l : List SpotT => l.flatMap eSpot) hse404)
 have h406 := h293.trans (congrArg (fun l : List SpotT => some (AB.map (plc l))) hse404)
 have hb := 0
 refine AWP.region rfl ?_
 refine V rfl rfl (C rfl (nc_ (.ptr i47 0 0) rfl rfl rfl ?_))
 refine C rfl (Fa rfl rfl fl_98_1 ?_ (hid := ⟨_, h294⟩))
 refine C rfl (Ld _ rfl rfl ty_3 h294 (ld_skip (off' := 0) (len1 h) (by omega) rfl) (B rfl rfl rfl ieq ?_))
 refine AOps.nil ?_
 change AWP _ _ _ _ _ _
 by_cases b407 : maxL rs = 1
 refine ct_ rfl (decide_eq_true b407) ?_
 refine Sr ?_
 refine V rfl rfl (C rfl (AOp.inline (n' := 21) («as» := [.ptr i47 0 0, J 0, J 1, J 2]) rfl rfl (rfl) tf_49 rfl rfl rfl rfl ?_))
 have hsl : ([] : List I3T).length ≤ 2000 := by simp
 refine AWP.region rfl ?_
 refine V rfl rfl (V rfl rfl (C rfl (nc_ (.ptr i47 0 0) rfl rfl rfl ?_)))
 refine C rfl (Fa rfl rfl fl_98_4 ?_ (hid := ⟨_, h294⟩))
 refine C rfl (Ld _ rfl rfl ty_36 h294 (ld_skip (off' := 3) (len1 h) (by omega) rfl) (V rfl rfl (V rfl rfl (V rfl rfl (C rfl (Bl (cells := [J 0, J 1, J 2]) rfl tz_59 pl_59 rfl rfl (C rfl (AOp.buildSlice (cells := [J 0, J 1, J 2]) rfl u_36 ts_59 tz_59 rfl rfl rfl ?_))))))))
 intro i408 H409 n410 h411 k412
 have h416 := keep k412 (ne_new h406 n410) h406
 have h417 := keep k412 (ne_new h294 n410) h294
 have o418 := Own.keep o405 k412 (Own.notnew o405 n410)
 have m420 := Mono.new m295 n410 k412
 refine C rfl (AOp.append_own (es := 3) (m := 1) (len := 0) (old := []) (cells := [J 0, J 1, J 2]) rfl u_36 ts_59 tzn_59 tb_59 (by decide) ni_36 rfl (Own.nil H0 H409 3) m420 rfl (.slm h411 rfl) (one_of rfl) (by decide) (by first | omega | (simp; omega)) ?_)
 intro v421 H422 o423 m424 k425 j426
 have o427 := Own.snocM (xs := ([] : List I3T)) (y := (I3T.mk 0 1 2)) (e := eI3) (by simp) o423
 have h428 := (k425 _ (NotId.nil _) (by rw [h416]; simp)).trans h416
 have no429 := j426 _ (NotId.nil _) (by rw [h416]; simp)
 have h430 := (k425 _ (NotId.nil _) (by rw [h417]; simp)).trans h417
 have no431 := j426 _ (NotId.nil _) (by rw [h417]; simp)
 have sp433 := Own.sep o418 (Sep.nilR _) j426
 have o432 := Own.stay o418 (Sep.nilR _) k425
 refine C rfl (nc_ (.ptr i47 0 0) rfl rfl rfl ?_)
 refine C rfl (Fa rfl rfl fl_98_4 ?_ (hid := ⟨_, h430⟩))
 refine C rfl (So (cells' := rs.map eI ++ [J (maxL rs), w0_2, .map i36, v421]) (v421) rfl rfl ts_36 h430 (by rw [Own.cells_ o427]; simp only [List.all_cons, List.all_nil, Own.one_ o427]; rfl) (by rw [Own.cells_ o427]; rfl) (blelen (len_app (m := 4) (n := 4) (k := 8) (len1 h) rfl rfl) (by omega)) (by rw [Own.cells_ o427]; exact (wr_skip (off' := 3) (len1 h) (by omega) rfl)) ?_)
 intro H434 h435 k436
 have h437 := keep k436 e52 h428
 have o439 := Own.keep o432 k436 no292
 have o440 := Own.keep o427 k436 no431
 have m441 := Mono.set m424 z53 k436
 refine AOps.nil ?_
 refine ⟨_, _, Ghost.refl, .inl rfl, _, Res.zero rfl, ?_⟩
 refine Sr ?_
 refine V rfl rfl (C rfl (AOp.inline (n' := 21) («as» := [.ptr i47 0 0, J 0, J 2, J 3]) rfl rfl (rfl) tf_49 rfl rfl rfl rfl ?_))
 have hsl : (([] : List I3T) ++ [(I3T.mk 0 1 2)]).length ≤ 2000 := by simp
 refine AWP.region rfl ?_
 refine V rfl rfl (V rfl rfl (C rfl (nc_ (.ptr i47 0 0) rfl rfl rfl ?_)))
 refine C rfl (Fa rfl rfl fl_98_4 ?_ (hid := ⟨_, h435⟩))
 refine C rfl (Ld _ rfl rfl ty_36 h435 (ld_skip (off' := 3) (len1 h) (by omega) rfl) (V rfl rfl (V rfl rfl (V rfl rfl (C rfl (Bl (cells := [J 0, J 2, J 3]) rfl tz_59 pl_59 rfl rfl (C rfl (AOp.buildSlice (cells := [J 0, J 2, J 3]) rfl u_36 ts_59 tz_59 rfl rfl rfl ?_))))))))
 intro i442 H443 n444 h445 k446
 have h450 := keep k446 (ne_new h437 n444) h437
 have h451 := keep k446 (ne_new h435 n444) h435
 have o452 := Own.keep o439 k446 (Own.notnew o439 n444)
 have o454 := Own.keep o440 k446 (Own.notnew o440 n444)
 have m456 := Mono.new m441 n444 k446
 refine C rfl (AOp.append_own (es := 3) (m := 1) (len := ((([] : List I3T) ++ [(I3T.mk 0 1 2)]).length)) (old := (([] : List I3T) ++ [(I3T.mk 0 1 2)]).flatMap eI3) (cells := [J 0, J 2, J 3]) rfl u_36 ts_59 tzn_59 tb_59 (by decide) ni_36 rfl o454 m456 rfl (.slm h445 rfl) (one_of rfl) (by decide) (by first | omega | (simp; omega)) ?_)
 intro v457 H458 o459 m460 k461 j462
 have o463 := Own.snocM (xs := ((([] : List I3T) ++ [(I3T.mk 0 1 2)]) : List I3T)) (y := (I3T.mk 0 2 3)) (e := eI3) (by simp) o459
 have h464 := (k461 _ no429 (by rw [h450]; simp)).trans h450
 have no465 := j462 _ no429 (by rw [h450]; simp)
 have h466 := (k461 _ no431 (by rw [h451]; simp)).trans h451
 have no467 := j462 _ no431 (by rw [h451]; simp)
 have sp469 := Own.sep o452 sp433 j462
 have o468 := Own.stay o452 sp433 k461
 refine C rfl (nc_ (.ptr i47 0 0) rfl rfl rfl ?_)
 refine C rfl (Fa rfl rfl fl_98_4 ?_ (hid := ⟨_, h466⟩))
 refine C rfl (So (cells' := rs.map eI ++ [J (maxL rs), w0_2, .map i36, v457]) (v457) rfl rfl ts_36 h466 (by rw [Own.cells_ o463]; simp only [List.all_cons, List.all_nil, Own.one_ o463]; rfl) (by rw [Own.cells_ o463]; rfl) (blelen (len_app (m := 4) (n := 4) (k := 8) (len1 h) rfl rfl) (by omega)) (by rw [Own.cells_ o463]; exact (wr_skip (off' := 3) (len1 h) (by omega) rfl)) ?_)
 intro H470 h471 k472
 have h473 := keep k472 e52 h464
 have o475 := Own.keep o468 k472 no292
 have o476 := Own.keep o463 k472 no467
 have m477 := Mono.set m460 z53 k472
 refine AOps.nil ?_
 refine ⟨_, _, Ghost.refl, .inl rfl, _, Res.zero rfl, ?_⟩
 refine AWP.seq ?_
 refine AWP.region_quiet mixed (by kernel_rfl) 11 [] rfl (by kernel_rfl) (Mono H470) (Mono.refl _) ?_
 refine QV rfl rfl (Q rfl (fun _ _ φ ψ => nc_ (.ptr i47 0 0) rfl (φ 32 rfl) rfl ⟨rfl, ψ⟩) (Q rfl (fun _ _ φ ψ => Fa rfl (φ 33 rfl) fl_98_2 ⟨rfl, ψ⟩ (hid := ⟨_, (ψ _ _ h471)⟩)) (Q rfl (fun _ _ φ ψ => Ld _ rfl (φ 34 rfl) ty_68 (ψ _ _ h471) (ld_skip (off' := 1) (len1 h) (by omega) rfl) ⟨rfl, ψ⟩) (QV rfl rfl (Q rfl (fun _ _ φ ψ => nc_ (.ptr i47 0 0) rfl (φ 36 rfl) rfl ⟨rfl, ψ⟩) (Q rfl (fun _ _ φ ψ => Fa rfl (φ 37 rfl) fl_98_4 ⟨rfl, ψ⟩ (hid := ⟨_, (ψ _ _ h471)⟩)) (Q rfl (fun _ _ φ ψ => Ld _ rfl (φ 38 rfl) ty_36 (ψ _ _ h471) (ld_skip (off' := 3) (len1 h) (by omega) rfl) ⟨rfl, ψ⟩) (Q rfl (fun _ _ φ ψ => As _ rfl (φ 35 rfl) ⟨rfl, ψ⟩) (Q rfl (fun _ _ φ ψ => As _ rfl (φ 39 rfl) ⟨rfl, ψ⟩) (Q rfl (fun _ _ φ ψ => As _ rfl rfl ⟨rfl, ψ⟩) ?_))))))))))
 refine QE.done fun H478 m479 => ?_
 have h480 := m479 _ _ h473
 have h481 := m479 _ _ h471
 have o482 := Own.mono o475 m479
 have o483 := Own.mono o476 m479
 have m484 := m477.trans m479
 refine rt_ ?_
 refine Fin.frz 2 o482 rfl m484 fun H485 m486 k487 => ?_
 have o490 := Own.stay o483 (Sep.symm sp469) (fun i hi _ => k487 i hi)
 refine Fin.frz 3 o490 rfl m486 fun H491 m492 k493 => ?_
 refine Rr (Res.three rfl rfl rfl rfl) ?_ m492
 exact congrArg AV.tup (lc (congrArg (fun l : List SpotT => AV.sl l.length (l.flatMap eSpot)) (show ((spotsL rs (maxL rs)) : List SpotT) = (weaveR rs).1 from by rw [(weave_T h hrt).2.2]; first | done | rfl | (unfold trisL; rw [if_pos b407] <;> rfl))) (lc (congrArg (fun l : List I3T => AV.sl l.length (l.flatMap eI3)) (show (((([] : List I3T) ++ [(I3T.mk 0 1 2)]) ++ [(I3T.mk 0 2 3)]) : List I3T) = (weaveR rs).2.1 from by rw [(weave_T h hrt).2.2]; first | done | rfl | (unfold trisL; rw [if_pos b407] <;> rfl))) (lc (congrArg AV.bool (show (true : Bool) = (weaveR rs).2.2 from by rw [(weave_T h hrt).2.2]; first | done | rfl | (unfold trisL; rw [if_pos b407] <;> rfl))) rfl)))
 refine cf_ rfl (decide_eq_false b407) ?_
 refine AWP.skip ?_
 refine AWP.seq ?_
 have hm2 : 2 ≤ maxL rs := by omega
 refine AWP.region rfl ?_
 refine V rfl rfl (C rfl (AOp.inline (n' := 52) («as» := [.ptr i47 0 0]) rfl rfl (rfl) tf_50 rfl rfl rfl rfl ?_))
 refine Sr ?_
 refine A rfl rfl ?_
 refine bk_ ?_
 refine AWP.loop (fun q496 fq Hq => ∃ (mb : Int) (w0_4 : AV), q496 = ((maxL rs - 1 : Int) - mb).toNat ∧ fq 2 = J mb ∧ fq 0 = .ptr i47 0 0 ∧ Own H0 Hq 3 w0_4 (midO (numL (spotsL rs (maxL rs))) (maxL rs) mb).length ((midO (numL (spotsL rs (maxL rs))) (maxL rs) mb).flatMap eI3) ∧ Own H0 Hq 3 w0_2 ((spotsL rs (maxL rs)).length) ((spotsL rs (maxL rs)).flatMap eSpot) ∧ NotId w0_4 i36 ∧ NotId w0_4 i47 ∧ NotId w0_2 i36 ∧ NotId w0_2 i47 ∧ Sep w0_4 w0_2 ∧ Hq i36 = some (.map (plc (spotsL rs (maxL rs)))) ∧ Hq i47 = some (.row 0 (rs.map eI ++ [J (maxL rs), w0_2, .map i36, w0_4])) ∧ Mono H0 Hq ∧ (1 ≤ mb) ∧ (mb ≤ maxL rs - 1)) (k := ((maxL rs - 1 : Int) - 1).toNat) ?_ ?_
 exact ⟨1, .snil, rfl, rfl, rfl, Own.nil _ _ _, o405, (NotId.nil _), (NotId.nil _), no291, no292, (Sep.nilL _), h406, h294, m295, by omega, by omega⟩
 rintro _ f498 H497 ⟨mb, w0_4, rfl, s499, s500, o501, o502, no503, no504, no505, no506, sp507, h508, h509, m510, hmb0, hmb1⟩
 refine AWP.seq ?_
 refine Sr ?_
 refine V rfl s499 (V rfl s500 (C rfl (nc_ (.ptr i47 0 0) rfl rfl rfl ?_)))
 refine C rfl (Fa rfl rfl fl_98_1 ?_ (hid := ⟨_, h509⟩))
 refine C rfl (Ld _ rfl rfl ty_3 h509 (ld_skip (off' := 0) (len1 h) (by omega) rfl) (B rfl rfl rfl (isub (by omega)) (B rfl rfl rfl rfl ?_)))
 refine AOps.nil ?_
 change AWP _ _ _ _ _ _
 by_cases b511 : mb < maxL rs - 1
 refine ct_ rfl (decide_eq_true b511) ?_
 refine AWP.skip ?_
 refine AWP.seq ?_
 refine bk_ ?_
 refine Sr ?_
 refine A rfl rfl ?_
 refine bk_ ?_
 refine AWP.loop (fun q512 fq Hq => ∃ (ma : Int) (w0_4 : AV), q512 = ((maxL rs - 1 : Int) - ma).toNat ∧ fq 3 = J ma ∧ fq 2 = J mb ∧ fq 0 = .ptr i47 0 0 ∧ Own H0 Hq 3 w0_4 (midO (numL (spotsL rs (maxL rs))) (maxL rs) mb ++ midI (numL (spotsL rs (maxL rs))) mb ma).length ((midO (numL (spotsL rs (maxL rs))) (maxL rs) mb ++ midI (numL (spotsL rs (maxL rs))) mb ma).flatMap eI3) ∧ Own H0 Hq 3 w0_2 ((spotsL rs (maxL rs)).length) ((spotsL rs (maxL rs)).flatMap eSpot) ∧ NotId w0_4 i36 ∧ NotId w0_4 i47 ∧ NotId w0_2 i36 ∧ NotId w0_2 i47 ∧ Sep w0_4 w0_2 ∧ Hq i36 = some (.map (plc (spotsL rs (maxL rs)))) ∧ Hq i47 = some (.row 0 (rs.map eI ++ [J (maxL rs), w0_2, .map i36, w0_4])) ∧ Mono H0 Hq ∧ (1 ≤ ma) ∧ (ma ≤ maxL rs - 1)) (k := ((maxL rs - 1 : Int) - 1).toNat) ?_ ?_
 exact ⟨1, w0_4, rfl, rfl, s499, s500, (have hx : ((midO (numL (spotsL rs (maxL rs))) (maxL rs) mb) : List I3T) = midO (numL (spotsL rs (maxL rs))) (maxL rs) mb ++ midI (numL (spotsL rs (maxL rs))) mb 1 := (by rw [midI_1 (Int.le_refl 1), List.append_nil]); Own.re o501 (congrArg List.length hx) (congrArg (fun l : List I3T => l.flatMap eI3) hx)), o502, no503, no504, no505, no506, sp507, h508, h509, m510, by omega, by omega⟩
 rintro _ f514 H513 ⟨ma, w0_4, rfl, s515, s516, s517, o518, o519, no520, no521, no522, no523, sp524, h525, h526, m527, hma0, hma1⟩
 refine AWP.seq ?_
 refine Sr ?_
 refine V rfl s515 (V rfl s517 (C rfl (nc_ (.ptr i47 0 0) rfl rfl rfl ?_)))
 refine C rfl (Fa rfl rfl fl_98_1 ?_ (hid := ⟨_, h526⟩))
 refine C rfl (Ld _ rfl rfl ty_3 h526 (ld_skip (off' := 0) (len1 h) (by omega) rfl) (B rfl rfl rfl (isub (by omega)) (B rfl rfl rfl rfl ?_)))
 refine AOps.nil ?_
 change AWP _ _ _ _ _ _
 by_cases b528 : ma < maxL rs - 1
 refine ct_ rfl (decide_eq_true b528) ?_
 refine AWP.skip ?_
 refine AWP.seq ?_
 refine bk_ ?_
 refine Sr ?_
 refine V rfl s517 (V rfl s515 (V rfl s516 (C rfl (AOp.pcallH («as» := [.ptr i47 0 0, J ma, J mb]) rfl rfl (rfl) tf_81 (c_inner rs h (maxL rs) hrt hm16 h526 h525 ma mb (by omega) (by omega)) ?_))))
 intro H529 m530
 have h531 := m530 _ _ h525
 have h532 := m530 _ _ h526
 have o533 := Own.mono o518 m530
 have o534 := Own.mono o519 m530
 have m535 := m527.trans m530
 refine V rfl s517 (V rfl s515 (B rfl rfl rfl (iadd (by omega)) (V rfl s516 (B rfl rfl rfl (iadd (by omega)) (C rfl (AOp.pcallH («as» := [.ptr i47 0 0, J (ma + 1), J (mb + 1)]) rfl rfl (rfl) tf_81 (c_inner rs h (maxL rs) hrt hm16 h532 h531 (ma + 1) (mb + 1) (by omega) (by omega)) ?_))))))
 intro H536 m537
 have h538 := m537 _ _ h531
 have h539 := m537 _ _ h532
 have o540 := Own.mono o533 m537
 have o541 := Own.mono o534 m537
 have m542 := m535.trans m537
 refine A rfl rfl (A rfl rfl ?_)
 refine Sr ?_
 refine V rfl s517 (V rfl rfl (V rfl s517 (V rfl s515 (B rfl rfl rfl (iadd (by omega)) (V rfl s516 (C rfl (AOp.pcallH («as» := [.ptr i47 0 0, J (ma + 1), J mb]) rfl rfl (rfl) tf_81 (c_inner rs h (maxL rs) hrt hm16 h539 h538 (ma + 1) mb (by omega) (by omega)) ?_)))))))
 intro H543 m544
 have h545 := m544 _ _ h538
 have h546 := m544 _ _ h539
 have o547 := Own.mono o540 m544
 have o548 := Own.mono o541 m544
 have m549 := m542.trans m544
 refine V rfl rfl (C rfl (AOp.inline (n' := 21) («as» := [.ptr i47 0 0, J (numL (spotsL rs (maxL rs)) (inn ma mb)), J (numL (spotsL rs (maxL rs)) (inn (ma + 1) mb)), J (numL (spotsL rs (maxL rs)) (inn (ma + 1) (mb + 1)))]) rfl rfl (rfl) tf_49 rfl rfl rfl rfl ?_))
 have hsl : (midO (numL (spotsL rs (maxL rs))) (maxL rs) mb ++ midI (numL (spotsL rs (maxL rs))) mb ma).length ≤ 2000 := by have q1 := midO_len (N := (numL (spotsL rs (maxL rs)))) (m := maxL rs) (b := mb) hm16 (by omega); have q2 := midI_len (N := (numL (spotsL rs (maxL rs)))) (b := mb) (a := ma) (by omega); simp only [List.length_append, List.length_cons, List.length_nil]; omega
 refine AWP.region rfl ?_
 refine V rfl rfl (V rfl rfl (C rfl (nc_ (.ptr i47 0 0) rfl rfl rfl ?_)))
 refine C rfl (Fa rfl rfl fl_98_4 ?_ (hid := ⟨_, h546⟩))
 refine C rfl (Ld _ rfl rfl ty_36 h546 (ld_skip (off' := 3) (len1 h) (by omega) rfl) (V rfl rfl (V rfl rfl (V rfl rfl (C rfl (Bl (cells := [J (numL (spotsL rs (maxL rs)) (inn ma mb)), J (numL (spotsL rs (maxL rs)) (inn (ma + 1) mb)), J (numL (spotsL rs (maxL rs)) (inn (ma + 1) (mb + 1)))]) rfl tz_59 pl_59 rfl rfl (C rfl (AOp.buildSlice (cells := [J (numL (spotsL rs (maxL rs)) (inn ma mb)), J (numL (spotsL rs (maxL rs)) (inn (ma + 1) mb)), J (numL (spotsL rs (maxL rs)) (inn (ma + 1) (mb + 1)))]) rfl u_36 ts_59 tz_59 rfl rfl rfl ?_))))))))
 intro i550 H551 n552 h553 k554
 have h558 := keep k554 (ne_new h545 n552) h545
 have h559 := keep k554 (ne_new h546 n552) h546
 have o560 := Own.keep o547 k554 (Own.notnew o547 n552)
 have o562 := Own.keep o548 k554 (Own.notnew o548 n552)
 have m564 := Mono.new m549 n552 k554
 refine C rfl (AOp.append_own (es := 3) (m := 1) (len := ((midO (numL (spotsL rs (maxL rs))) (maxL rs) mb ++ midI (numL (spotsL rs (maxL rs))) mb ma).length)) (old := (midO (numL (spotsL rs (maxL rs))) (maxL rs) mb ++ midI (numL (spotsL rs (maxL rs))) mb ma).flatMap eI3) (cells := [J (numL (spotsL rs (maxL rs)) (inn ma mb)), J (numL (spotsL rs (maxL rs)) (inn (ma + 1) mb)), J (numL (spotsL rs (maxL rs)) (inn (ma + 1) (mb + 1)))]) rfl u_36 ts_59 tzn_59 tb_59 (by decide) ni_36 rfl o560 m564 rfl (.slm h553 rfl) (one_of rfl) (by decide) (by first | omega | (simp; omega)) ?_)
 intro v565 H566 o567 m568 k569 j570
 have o571 := Own.snocM (xs := ((midO (numL (spotsL rs (maxL rs))) (maxL rs) mb ++ midI (numL (spotsL rs (maxL rs))) mb ma) : List I3T)) (y := (I3T.mk (numL (spotsL rs (maxL rs)) (inn ma mb)) (numL (spotsL rs (maxL rs)) (inn (ma + 1) mb)) (numL (spotsL rs (maxL rs)) (inn (ma + 1) (mb + 1))))) (e := eI3) (by simp) o567
 have h572 := (k569 _ no520 (by rw [h558]; simp)).trans h558
 have no573 := j570 _ no520 (by rw [h558]; simp)
 have h574 := (k569 _ no521 (by rw [h559]; simp)).trans h559
 have no575 := j570 _ no521 (by rw [h559]; simp)
 have sp577 := Own.sep o562 (Sep.symm sp524) j570
 have o576 := Own.stay o562 (Sep.symm sp524) k569
 refine C rfl (nc_ (.ptr i47 0 0) rfl rfl rfl ?_)
 refine C rfl (Fa rfl rfl fl_98_4 ?_ (hid := ⟨_, h574⟩))
 refine C rfl (So (cells' := rs.map eI ++ [J (maxL rs), w0_2, .map i36, v565]) (v565) rfl rfl ts_36 h574 (by rw [Own.cells_ o571]; simp only [List.all_cons, List.all_nil, Own.one_ o571]; rfl) (by rw [Own.cells_ o571]; rfl) (blelen (len_app (m := 4) (n := 4) (k := 8) (len1 h) rfl rfl) (by omega)) (by rw [Own.cells_ o571]; exact (wr_skip (off' := 3) (len1 h) (by omega) rfl)) ?_)
 intro H578 h579 k580
 have h581 := keep k580 e52 h572
 have o583 := Own.keep o576 k580 no523
 have o584 := Own.keep o571 k580 no575
 have m585 := Mono.set m568 z53 k580
 refine AOps.nil ?_
 refine ⟨_, _, Ghost.refl, .inl rfl, _, Res.zero rfl, ?_⟩
 refine AWP.region rfl ?_
 refine V rfl s517 (V rfl rfl (V rfl rfl (V rfl s517 (V rfl s515 (V rfl s516 (B rfl rfl rfl (iadd (by omega)) (C rfl (AOp.pcallH («as» := [.ptr i47 0 0, J ma, J (mb + 1)]) rfl rfl (rfl) tf_81 (c_inner rs h (maxL rs) hrt hm16 h579 h581 ma (mb + 1) (by omega) (by omega)) ?_))))))))
 intro H586 m587
 have h588 := m587 _ _ h581
 have h589 := m587 _ _ h579
 have o590 := Own.mono o583 m587
 have o591 := Own.mono o584 m587
 have m592 := m585.trans m587
 refine C rfl (AOp.inline (n' := 21) («as» := [.ptr i47 0 0, J (numL (spotsL rs (maxL rs)) (inn ma mb)), J (numL (spotsL rs (maxL rs)) (inn (ma + 1) (mb + 1))), J (numL (spotsL rs (maxL rs)) (inn ma (mb + 1)))]) rfl rfl (rfl) tf_49 rfl rfl rfl rfl ?_)
 have hsl : ((midO (numL (spotsL rs (maxL rs))) (maxL rs) mb ++ midI (numL (spotsL rs (maxL rs))) mb ma) ++ [(I3T.mk (numL (spotsL rs (maxL rs)) (inn ma mb)) (numL (spotsL rs (maxL rs)) (inn (ma + 1) mb)) (numL (spotsL rs (maxL rs)) (inn (ma + 1) (mb + 1))))]).length ≤ 2000 := by have q1 := midO_len (N := (numL (spotsL rs (maxL rs)))) (m := maxL rs) (b := mb) hm16 (by omega); have q2 := midI_len (N := (numL (spotsL rs (maxL rs)))) (b := mb) (a := ma) (by omega); simp only [List.length_append, List.length_cons, List.length_nil]; omega
 refine AWP.region rfl ?_
 refine V rfl rfl (V rfl rfl (C rfl (nc_ (.ptr i47 0 0) rfl rfl rfl ?_)))
 refine C rfl (Fa rfl rfl fl_98_4 ?_ (hid := ⟨_, h589⟩))
 refine C rfl (Ld _ rfl rfl ty_36 h589 (ld_skip (off' := 3) (len1 h) (by omega) rfl) (V rfl rfl (V rfl rfl (V rfl rfl (C rfl (Bl (cells := [J (numL (spotsL rs (maxL rs)) (inn ma mb)), J (numL (spotsL rs (maxL rs)) (inn (ma + 1) (mb + 1))), J (numL (spotsL rs (maxL rs)) (inn ma (mb + 1)))]) rfl tz_59 pl_59 rfl rfl (C rfl (AOp.buildSlice (cells := [J (numL (spotsL rs (maxL rs)) (inn ma mb)), J (numL (spotsL rs (maxL rs)) (inn (ma + 1) (mb + 1))), J (numL (spotsL rs (maxL rs)) (inn ma (mb + 1)))]) rfl u_36 ts_59 tz_59 rfl rfl rfl ?_))))))))
 intro i593 H594 n595 h596 k597
 have h601 := keep k597 (ne_new h588 n595) h588
 have h602 := keep k597 (ne_new h589 n595) h589
 have o603 := Own.keep o590 k597 (Own.notnew o590 n595)
 have o605 := Own.keep o591 k597 (Own.notnew o591 n595)
 have m607 := Mono.new m592 n595 k597
 refine C rfl (AOp.append_own (es := 3) (m := 1) (len := (((midO (numL (spotsL rs (maxL rs))) (maxL rs) mb ++ midI (numL (spotsL rs (maxL rs))) mb ma) ++ [(I3T.mk (numL (spotsL rs (maxL rs)) (inn ma mb)) (numL (spotsL rs (maxL rs)) (inn (ma + 1) mb)) (numL (spotsL rs (maxL rs)) (inn (ma + 1) (mb + 1))))]).length)) (old := ((midO (numL (spotsL rs (maxL rs))) (maxL rs) mb ++ midI (numL (spotsL rs (maxL rs))) mb ma) ++ [(I3T.mk (numL (spotsL rs (maxL rs)) (inn ma mb)) (numL (spotsL rs (maxL rs)) (inn (ma + 1) mb)) (numL (spotsL rs (maxL rs)) (inn (ma + 1) (mb + 1))))]).flatMap eI3) (cells := [J (numL (spotsL rs (maxL rs)) (inn ma mb)), J (numL (spotsL rs (maxL rs)) (inn (ma + 1) (mb + 1))), J (numL (spotsL rs (maxL rs)) (inn ma (mb + 1)))]) rfl u_36 ts_59 tzn_59 tb_59 (by decide) ni_36 rfl o605 m607 rfl (.slm h596 rfl) (one_of rfl) (by decide) (by first | omega | (simp; omega)) ?_)
 intro v608 H609 o610 m611 k612 j613
 have o614 := Own.snocM (xs := (((midO (numL (spotsL rs (maxL rs))) (maxL rs) mb ++ midI (numL (spotsL rs (maxL rs))) mb ma) ++ [(I3T.mk (numL (spotsL rs (maxL rs)) (inn ma mb)) (numL (spotsL rs (maxL rs)) (inn (ma + 1) mb)) (numL (spotsL rs (maxL rs)) (inn (ma + 1) (mb + 1))))]) : List I3T)) (y := (I3T.mk (numL (spotsL rs (maxL rs)) (inn ma mb)) (numL (spotsL rs (maxL rs)) (inn (ma + 1) (mb + 1))) (numL (spotsL rs (maxL rs)) (inn ma (mb + 1))))) (e := eI3) (by simp) o610
 have h615 := (k612 _ no573 (by rw [h601]; simp)).trans h601
 have no616 := j613 _ no573 (by rw [h601]; simp)
 have h617 := (k612 _ no575 (by rw [h602]; simp)).trans h602
 have no618 := j613 _ no575 (by rw [h602]; simp)
 have sp620 := Own.sep o603 sp577 j613
 have o619 := Own.stay o603 sp577 k612
 refine C rfl (nc_ (.ptr i47 0 0) rfl rfl rfl ?_)
 refine C rfl (Fa rfl rfl fl_98_4 ?_ (hid := ⟨_, h617⟩))
 refine C rfl (So (cells' := rs.map eI ++ [J (maxL rs), w0_2, .map i36, v608]) (v608) rfl rfl ts_36 h617 (by rw [Own.cells_ o614]; simp only [List.all_cons, List.all_nil, Own.one_ o614]; rfl) (by rw [Own.cells_ o614]; rfl) (blelen (len_app (m := 4) (n := 4) (k := 8) (len1 h) rfl rfl) (by omega)) (by rw [Own.cells_ o614]; exact (wr_skip (off' := 3) (len1 h) (by omega) rfl)) ?_)
 intro H621 h622 k623
 have h624 := keep k623 e52 h615
 have o626 := Own.keep o619 k623 no523
 have o627 := Own.keep o614 k623 no618
 have m628 := Mono.set m611 z53 k623
 refine AOps.nil ?_
 refine ⟨_, _, Ghost.refl, .inl rfl, _, Res.zero rfl, ?_⟩
 refine AWP.region rfl ?_
 refine V rfl s515 (B rfl rfl rfl (iadd (by omega)) (A rfl rfl ?_))
 refine AOps.nil ?_
 exact ⟨_, by omega, ma + 1, v608, rfl, rfl, s516, s517, (have hx : ((((midO (numL (spotsL rs (maxL rs))) (maxL rs) mb ++ midI (numL (spotsL rs (maxL rs))) mb ma) ++ [(I3T.mk (numL (spotsL rs (maxL rs)) (inn ma mb)) (numL (spotsL rs (maxL rs)) (inn (ma + 1) mb)) (numL (spotsL rs (maxL rs)) (inn (ma + 1) (mb + 1))))]) ++ [(I3T.mk (numL (spotsL rs (maxL rs)) (inn ma mb)) (numL (spotsL rs (maxL rs)) (inn (ma + 1) (mb + 1))) (numL (spotsL rs (maxL rs)) (inn ma (mb + 1))))]) : List I3T) = midO (numL (spotsL rs (maxL rs))) (maxL rs) mb ++ midI (numL (spotsL rs (maxL rs))) mb (ma + 1) := (by rw [midI_step hma0]; simp only [midC, List.append_assoc, List.cons_append, List.nil_append]); Own.re o627 (congrArg List.length hx) (congrArg (fun l : List I3T => l.flatMap eI3) hx)), o626, no616, no618, no522, no523, (Sep.symm sp620), h624, h622, m628, by omega, by omega⟩
 refine cf_ rfl (decide_eq_false b528) ?_
 refine AWP.exit ?_
 change AWP _ _ _ _ _ _
 refine AWP.region rfl ?_
 refine V rfl s516 (B rfl rfl rfl (iadd (by omega)) (A rfl rfl ?_))
 refine AOps.nil ?_
 exact ⟨_, by omega, mb + 1, w0_4, rfl, rfl, s517, (have hx : ((midO (numL (spotsL rs (maxL rs))) (maxL rs) mb ++ midI (numL (spotsL rs (maxL rs))) mb ma) : List I3T) = midO (numL (spotsL rs (maxL rs))) (maxL rs) (mb + 1) := (by rw [show ma = maxL rs - 1 by omega, midO_step hmb0]); Own.re o518 (congrArg List.length hx) (congrArg (fun l : List I3T => l.flatMap eI3) hx)), o519, no520, no521, no522, no523, sp524, h525, h526, m527, by omega, by omega⟩
 refine cf_ rfl (decide_eq_false b511) ?_
 refine AWP.exit ?_
 refine ⟨_, _, Ghost.refl, .inl rfl, _, Res.zero rfl, ?_⟩
 refine AWP.seq ?_
 refine Sr ?_
 refine V rfl rfl ?_
 refine bk_ ?_
 refine AWP.loop (fun q629 fq Hq => ∃ (k : Int) (w5_4 : AV), q629 = ((4 : Int) - k).toNat ∧ fq 42 = J k ∧ fq 2 = .snil ∧ fq 3 = .snil ∧ fq 4 = .bool false ∧ fq 5 = .ptr i47 0 0 ∧ Own H0 Hq 3 w5_4 (midO (numL (spotsL rs (maxL rs))) (maxL rs) (maxL rs - 1) ++ strO (numL (spotsL rs (maxL rs))) rs (maxL rs) k).length ((midO (numL (spotsL rs (maxL rs))) (maxL rs) (maxL rs - 1) ++ strO (numL (spotsL rs (maxL rs))) rs (maxL rs) k).flatMap eI3) ∧ Own H0 Hq 3 w0_2 ((spotsL rs (maxL rs)).length) ((spotsL rs (maxL rs)).flatMap eSpot) ∧ NotId w5_4 i36 ∧ NotId w5_4 i47 ∧ NotId w0_2 i36 ∧ NotId w0_2 i47 ∧ Sep w5_4 w0_2 ∧ Hq i36 = some (.map (plc (spotsL rs (maxL rs)))) ∧ Hq i47 = some (.row 0 (rs.map eI ++ [J (maxL rs), w0_2, .map i36, w5_4])) ∧ Mono H0 Hq ∧ (0 ≤ k) ∧ (k ≤ 4)) (k := ((4 : Int) - 0).toNat) ?_ ?_
 exact ⟨0, w0_4, rfl, rfl, rfl, rfl, rfl, rfl, (have hx : ((midO (numL (spotsL rs (maxL rs))) (maxL rs) mb) : List I3T) = midO (numL (spotsL rs (maxL rs))) (maxL rs) (maxL rs - 1) ++ strO (numL (spotsL rs (maxL rs))) rs (maxL rs) 0 := (by rw [show mb = maxL rs - 1 by omega, strO_0, List.append_nil]); Own.re o501 (congrArg List.length hx) (congrArg (fun l : List I3T => l.flatMap eI3) hx)), o502, no503, no504, no505, no506, sp507, h508, h509, m510, by omega, by omega⟩
 rintro _ f631 H630 ⟨k, w5_4, rfl, s632, s633, s634, s635, s636, o637, o638, no639, no640, no641, no642, sp643, h644, h645, m646, hk0, hk1⟩
 refine Sr ?_
 refine B rfl s632 rfl rfl ?_
 refine AWP.seq ?_
 by_cases b647 : k < 4
 refine ct_ rfl (decide_eq_true b647) ?_
 refine AWP.skip ?_
 refine AWP.seq ?_
 refine bk_ ?_
 refine Sr ?_
 refine V rfl s632 (A rfl rfl ?_)
 refine AWP.region rfl ?_
 refine V rfl s636 (V rfl rfl (C rfl (AOp.inline (n' := 81) («as» := [.ptr i47 0 0, J k]) rfl rfl (rfl) tf_51 rfl rfl rfl rfl ?_)))
 refine AWP.seq ?_
 have hrk := hrt k hk0 (by omega)
 refine AWP.region_quiet mixed (by kernel_rfl) 13 [] rfl (by kernel_rfl) (Mono H630) (Mono.refl _) ?_
 refine QV rfl rfl (QV rfl rfl (Q rfl (fun _ _ φ ψ => nc_ (.ptr i47 0 0) rfl (φ 10 rfl) rfl ⟨rfl, ψ⟩) (Q rfl (fun _ _ φ ψ => Fa rfl (φ 12 rfl) fl_98_0 ⟨rfl, ψ⟩ (hid := ⟨_, (ψ _ _ h645)⟩)) (Q rfl (fun _ _ φ ψ => iA_ rfl (φ 13 rfl) (φ 11 rfl) ar_25 (by omega) (by omega) ⟨_, (ψ _ _ h645)⟩ ⟨rfl, ψ⟩) (Q rfl (fun _ _ φ ψ => Ld _ rfl (φ 14 rfl) ty_3 (ψ _ _ h645) (ld_off (o := 0 + k.toNat * 1) (by omega) (ld_fst (fun h => by first | rfl | cases h) (ld1 (i := k) (by omega) (by first | (have := h; omega) | (simp; omega))))) ⟨rfl, ψ⟩) (QV rfl rfl (Q rfl (fun _ _ φ ψ => nc_ (.ptr i47 0 0) rfl (φ 16 rfl) rfl ⟨rfl, ψ⟩) (Q rfl (fun _ _ φ ψ => Fa rfl (φ 17 rfl) fl_98_1 ⟨rfl, ψ⟩ (hid := ⟨_, (ψ _ _ h645)⟩)) (Q rfl (fun _ _ φ ψ => Ld _ rfl (φ 18 rfl) ty_3 (ψ _ _ h645) (ld_skip (off' := 0) (len1 h) (by omega) rfl) ⟨rfl, ψ⟩) (QB rfl rfl rfl (isub (by omega)) (Q rfl (fun _ _ φ ψ => As _ rfl (φ 15 rfl) ⟨rfl, ψ⟩) (Q rfl (fun _ _ φ ψ => As _ rfl (φ 20 rfl) ⟨rfl, ψ⟩) ?_))))))))))))
 refine QE.done fun H648 m649 => ?_
 have h650 := m649 _ _ h644
 have h651 := m649 _ _ h645
 have o652 := Own.mono o637 m649
 have o653 := Own.mono o638 m649
 have m654 := m646.trans m649
 refine Sr ?_
 refine A rfl rfl (A rfl rfl ?_)
 refine bk_ ?_
 refine AWP.loop (fun q655 fq Hq => ∃ (i : Int) (t : Int) (ts : List I3T) (w0_4 : AV), q655 = ((at_ rs k - i) + (maxL rs - 1 - t)).toNat ∧ fq 6 = J i ∧ fq 7 = J t ∧ fq 0 = .ptr i47 0 0 ∧ fq 1 = J k ∧ fq 4 = J (at_ rs k) ∧ fq 5 = J (maxL rs - 1) ∧ Own H0 Hq 3 w0_4 (ts).length ((ts).flatMap eI3) ∧ Own H0 Hq 3 w0_2 ((spotsL rs (maxL rs)).length) ((spotsL rs (maxL rs)).flatMap eSpot) ∧ NotId w0_4 i36 ∧ NotId w0_4 i47 ∧ NotId w0_2 i36 ∧ NotId w0_2 i47 ∧ Sep w0_4 w0_2 ∧ Hq i36 = some (.map (plc (spotsL rs (maxL rs)))) ∧ Hq i47 = some (.row 0 (rs.map eI ++ [J (maxL rs), w0_2, .map i36, w0_4])) ∧ Mono H0 Hq ∧ (0 ≤ i) ∧ (i ≤ at_ rs k) ∧ (1 ≤ t) ∧ (t ≤ maxL rs - 1) ∧ ((ts.length : Int) + (at_ rs k - i) + (maxL rs - 1 - t) ≤ 1000) ∧ (ts ++ strT (numL (spotsL rs (maxL rs))) k (at_ rs k) (maxL rs) i t = midO (numL (spotsL rs (maxL rs))) (maxL rs) (maxL rs - 1) ++ strO (numL (spotsL rs (maxL rs))) rs (maxL rs)  (k + 1))) (k := ((at_ rs k - 0) + (maxL rs - 1 - 1)).toNat) ?_ ?_
 exact ⟨0, 1, midO (numL (spotsL rs (maxL rs))) (maxL rs) (maxL rs - 1) ++ strO (numL (spotsL rs (maxL rs))) rs (maxL rs) k, w5_4, rfl, rfl, rfl, rfl, rfl, rfl, rfl, o652, o653, no639, no640, no641, no642, sp643, h650, h651, m654, by omega, by omega, by omega, by omega, by have q1 := midO_len (N := (numL (spotsL rs (maxL rs)))) (m := maxL rs) (b := maxL rs - 1) hm16 (by omega); have q2 := strO_len (N := (numL (spotsL rs (maxL rs)))) (rs := rs) (m := maxL rs) (k := k) hrt hm16 (by omega); simp only [List.length_append]; omega, by rw [strO_step hk0, List.append_assoc]⟩
 rintro _ f657 H656 ⟨i, t, ts, w0_4, rfl, s658, s659, s660, s661, s662, s663, o664, o665, no666, no667, no668, no669, sp670, h671, h672, m673, hi0, hi1, ht0, ht1, htl, hts2⟩
 refine AWP.seq ?_
 refine Sr ?_
 refine V rfl s658 (V rfl s662 (B rfl rfl rfl rfl (V rfl rfl ?_)))
 by_cases b674 : i < at_ rs k
 refine N rfl rfl (decide_eq_true b674) (N rfl rfl (decide_eq_true b674) (N rfl rfl (decide_eq_true b674) (C rfl (Pt _ rfl rfl (decide_eq_true b674) rfl ?_))))
 refine ct_ rfl rfl ?_
 refine AWP.skip ?_
 refine bk_ ?_
 refine Sr ?_
 refine V rfl s660 (V rfl s661 (V rfl s658 (C rfl (AOp.pcallH («as» := [.ptr i47 0 0, J k, J i]) rfl rfl (rfl) tf_82 (c_outer rs h (maxL rs) hrt hm16 h672 h671 k i (by omega) (by omega)) ?_))))
 intro H675 m676
 have h677 := m676 _ _ h671
 have h678 := m676 _ _ h672
 have o679 := Own.mono o664 m676
 have o680 := Own.mono o665 m676
 have m681 := m673.trans m676
 refine V rfl s660 (V rfl s661 (V rfl s659 (C rfl (AOp.pcallH («as» := [.ptr i47 0 0, J k, J t]) rfl rfl (rfl) tf_83 (c_beside rs h (maxL rs) hrt hm16 h678 h677 k t (by omega) (by omega)) ?_))))
 intro H682 m683
 have h684 := m683 _ _ h677
 have h685 := m683 _ _ h678
 have o686 := Own.mono o679 m683
 have o687 := Own.mono o680 m683
 have m688 := m681.trans m683
 refine A rfl rfl (A rfl rfl ?_)
 refine Sr ?_
 refine V rfl s658 (V rfl s662 (B rfl rfl rfl rfl (V rfl rfl (Y rfl rfl rfl (decide_eq_true b674) (Mv _ rfl s659 (Y rfl rfl rfl (decide_eq_true b674) (Mv _ rfl s663 (Y rfl rfl rfl (decide_eq_true b674) (Bi _ rfl rfl rfl ieq (Y rfl rfl rfl (decide_eq_true b674) (Mv _ rfl rfl ?_)))))))))))
 by_cases b689 : t = maxL rs - 1
 refine N rfl rfl (decide_eq_true b689) (N rfl rfl (decide_eq_true b689) (N rfl rfl (decide_eq_true b689) (N rfl rfl (decide_eq_true b689) (N rfl rfl (decide_eq_true b689) (N rfl rfl (decide_eq_true b689) (N rfl rfl (decide_eq_true b689) (N rfl rfl (decide_eq_true b689) (N rfl rfl (decide_eq_true b689) (N rfl rfl (decide_eq_true b689) (N rfl rfl (decide_eq_true b689) (N rfl rfl (decide_eq_true b689) (N rfl rfl (decide_eq_true b689) (N rfl rfl (decide_eq_true b689) (Y rfl rfl rfl (decide_eq_true b674) (Pt _ rfl rfl (decide_eq_true b689) rfl (C rfl (Pt _ rfl rfl (decide_eq_true b674) rfl ?_)))))))))))))))))
 refine ct_ rfl rfl ?_
 refine Sr ?_
 refine V rfl s658 (B rfl rfl rfl (iadd (by omega)) (A rfl rfl ?_))
 refine AWP.region rfl ?_
 refine V rfl s660 (V rfl rfl (V rfl s660 (V rfl s661 (V rfl rfl (C rfl (AOp.pcallH («as» := [.ptr i47 0 0, J k, J (i + 1)]) rfl rfl (rfl) tf_82 (c_outer rs h (maxL rs) hrt hm16 h685 h684 k (i + 1) (by omega) (by omega)) ?_))))))
 intro H690 m691
 have h692 := m691 _ _ h684
 have h693 := m691 _ _ h685
 have o694 := Own.mono o686 m691
 have o695 := Own.mono o687 m691
 have m696 := m688.trans m691
 refine V rfl rfl (C rfl (AOp.inline (n' := 21) («as» := [.ptr i47 0 0, J (numL (spotsL rs (maxL rs)) (outS k i (at_ rs k))), J (numL (spotsL rs (maxL rs)) (outS k (i + 1) (at_ rs k))), J (numL (spotsL rs (maxL rs)) (besS k t (maxL rs)))]) rfl rfl (rfl) tf_49 rfl rfl rfl rfl ?_))
 have hsl : (ts).length ≤ 2000 := by omega
 refine AWP.region rfl ?_
 refine V rfl rfl (V rfl rfl (C rfl (nc_ (.ptr i47 0 0) rfl rfl rfl ?_)))
 refine C rfl (Fa rfl rfl fl_98_4 ?_ (hid := ⟨_, h693⟩))
 refine C rfl (Ld _ rfl rfl ty_36 h693 (ld_skip (off' := 3) (len1 h) (by omega) rfl) (V rfl rfl (V rfl rfl (V rfl rfl (C rfl (Bl (cells := [J (numL (spotsL rs (maxL rs)) (outS k i (at_ rs k))), J (numL (spotsL rs (maxL rs)) (outS k (i + 1) (at_ rs k))), J (numL (spotsL rs (maxL rs)) (besS k t (maxL rs)))]) rfl tz_59 pl_59 rfl rfl (C rfl (AOp.buildSlice (cells := [J (numL (spotsL rs (maxL rs)) (outS k i (at_ rs k))), J (numL (spotsL rs (maxL rs)) (outS k (i + 1) (at_ rs k))), J (numL (spotsL rs (maxL rs)) (besS k t (maxL rs)))]) rfl u_36 ts_59 tz_59 rfl rfl rfl ?_))))))))
 intro i697 H698 n699 h700 k701
 have h705 := keep k701 (ne_new h692 n699) h692
 have h706 := keep k701 (ne_new h693 n699) h693
 have o707 := Own.keep o694 k701 (Own.notnew o694 n699)
 have o709 := Own.keep o695 k701 (Own.notnew o695 n699)
 have m711 := Mono.new m696 n699 k701
 refine C rfl (AOp.append_own (es := 3) (m := 1) (len := ((ts).length)) (old := (ts).flatMap eI3) (cells := [J (numL (spotsL rs (maxL rs)) (outS k i (at_ rs k))), J (numL (spotsL rs (maxL rs)) (outS k (i + 1) (at_ rs k))), J (numL (spotsL rs (maxL rs)) (besS k t (maxL rs)))]) rfl u_36 ts_59 tzn_59 tb_59 (by decide) ni_36 rfl o707 m711 rfl (.slm h700 rfl) (one_of rfl) (by decide) (by first | omega | (simp; omega)) ?_)
 intro v712 H713 o714 m715 k716 j717
 have o718 := Own.snocM (xs := ((ts) : List I3T)) (y := (I3T.mk (numL (spotsL rs (maxL rs)) (outS k i (at_ rs k))) (numL (spotsL rs (maxL rs)) (outS k (i + 1) (at_ rs k))) (numL (spotsL rs (maxL rs)) (besS k t (maxL rs))))) (e := eI3) (by simp) o714
 have h719 := (k716 _ no666 (by rw [h705]; simp)).trans h705
 have no720 := j717 _ no666 (by rw [h705]; simp)
 have h721 := (k716 _ no667 (by rw [h706]; simp)).trans h706
 have no722 := j717 _ no667 (by rw [h706]; simp)
 have sp724 := Own.sep o709 (Sep.symm sp670) j717
 have o723 := Own.stay o709 (Sep.symm sp670) k716
 refine C rfl (nc_ (.ptr i47 0 0) rfl rfl rfl ?_)
 refine C rfl (Fa rfl rfl fl_98_4 ?_ (hid := ⟨_, h721⟩))
 refine C rfl (So (cells' := rs.map eI ++ [J (maxL rs), w0_2, .map i36, v712]) (v712) rfl rfl ts_36 h721 (by rw [Own.cells_ o718]; simp only [List.all_cons, List.all_nil, Own.one_ o718]; rfl) (by rw [Own.cells_ o718]; rfl) (blelen (len_app (m := 4) (n := 4) (k := 8) (len1 h) rfl rfl) (by omega)) (by rw [Own.cells_ o718]; exact (wr_skip (off' := 3) (len1 h) (by omega) rfl)) ?_)
 intro H725 h726 k727
 have h728 := keep k727 e52 h719
 have o730 := Own.keep o723 k727 no669
 have o731 := Own.keep o718 k727 no722
 have m732 := Mono.set m715 z53 k727
 refine AOps.nil ?_
 refine ⟨_, _, Ghost.refl, .inl rfl, _, Res.zero rfl, ?_⟩
 refine AOps.nil ?_
 exact ⟨_, by omega, i + 1, t, (ts) ++ [(I3T.mk (numL (spotsL rs (maxL rs)) (outS k i (at_ rs k))) (numL (spotsL rs (maxL rs)) (outS k (i + 1) (at_ rs k))) (numL (spotsL rs (maxL rs)) (besS k t (maxL rs))))], v712, rfl, rfl, s659, s660, s661, s662, s663, o731, o730, no720, no722, no668, no669, (Sep.symm sp724), h728, h726, m732, by omega, by omega, by omega, by omega, by simp only [List.length_append, List.length_cons, List.length_nil]; omega, by rw [← hts2, strT_out (i := i) (t := t) (by omega) (by omega) ⟨by omega, by first | (left; omega) | (right; omega)⟩]; simp only [List.append_assoc, List.cons_append, List.nil_append]⟩
 refine Y rfl rfl rfl (decide_eq_false b689) (Mv _ rfl s658 (Y rfl rfl rfl (decide_eq_false b689) (Bi _ rfl rfl rfl (imul (by omega)) (Y rfl rfl rfl (decide_eq_false b689) (Bi _ rfl rfl rfl (iadd (by omega)) (Y rfl rfl rfl (decide_eq_false b689) (Mv _ rfl s660 (Y rfl rfl rfl (decide_eq_false b689) (nc_ (.ptr i47 0 0) rfl rfl rfl ?_)))))))))
 refine Y rfl rfl rfl (decide_eq_false b689) (Fa rfl rfl fl_98_1 ?_ (hid := ⟨_, h685⟩))
 refine Y rfl rfl rfl (decide_eq_false b689) (Ld _ rfl rfl ty_3 h685 (ld_skip (off' := 0) (len1 h) (by omega) rfl) (Y rfl rfl rfl (decide_eq_false b689) (Bi _ rfl rfl rfl (imul (by have := mul_rng (x := 2 * i + 1) (k := maxL rs) (A := 64) (C := 16) (by omega) (by omega); omega)) (Y rfl rfl rfl (decide_eq_false b689) (Mv _ rfl s659 (Y rfl rfl rfl (decide_eq_false b689) (Bi _ rfl rfl rfl (imul (by omega)) (Y rfl rfl rfl (decide_eq_false b689) (Bi _ rfl rfl rfl (iadd (by omega)) (Y rfl rfl rfl (decide_eq_false b689) (Mv _ rfl s662 (Y rfl rfl rfl (decide_eq_false b689) (Bi _ rfl rfl rfl (imul (by have := mul_rng (x := 2 * t + 1) (k := at_ rs k) (A := 64) (C := 16) (by omega) (by omega); omega)) (Y rfl rfl rfl (decide_eq_false b689) (Bi _ rfl rfl rfl rfl (Y rfl rfl rfl (decide_eq_true b674) (Pf _ rfl rfl (decide_eq_false b689) rfl (C rfl (Pt _ rfl rfl (decide_eq_true b674) rfl ?_)))))))))))))))))))
 refine AOps.nil ?_
 change AWP _ _ _ _ _ _
 by_cases b733 : (2 * i + 1) * (maxL rs) ≤ (2 * t + 1) * (at_ rs k)
 refine ct_ rfl (decide_eq_true b733) ?_
 refine Sr ?_
 refine V rfl s658 (B rfl rfl rfl (iadd (by omega)) (A rfl rfl ?_))
 refine AWP.region rfl ?_
 refine V rfl s660 (V rfl rfl (V rfl s660 (V rfl s661 (V rfl rfl (C rfl (AOp.pcallH («as» := [.ptr i47 0 0, J k, J (i + 1)]) rfl rfl (rfl) tf_82 (c_outer rs h (maxL rs) hrt hm16 h685 h684 k (i + 1) (by omega) (by omega)) ?_))))))
 intro H734 m735
 have h736 := m735 _ _ h684
 have h737 := m735 _ _ h685
 have o738 := Own.mono o686 m735
 have o739 := Own.mono o687 m735
 have m740 := m688.trans m735
 refine V rfl rfl (C rfl (AOp.inline (n' := 21) («as» := [.ptr i47 0 0, J (numL (spotsL rs (maxL rs)) (outS k i (at_ rs k))), J (numL (spotsL rs (maxL rs)) (outS k (i + 1) (at_ rs k))), J (numL (spotsL rs (maxL rs)) (besS k t (maxL rs)))]) rfl rfl (rfl) tf_49 rfl rfl rfl rfl ?_))
 have hsl : (ts).length ≤ 2000 := by omega
 refine AWP.region rfl ?_
 refine V rfl rfl (V rfl rfl (C rfl (nc_ (.ptr i47 0 0) rfl rfl rfl ?_)))
 refine C rfl (Fa rfl rfl fl_98_4 ?_ (hid := ⟨_, h737⟩))
 refine C rfl (Ld _ rfl rfl ty_36 h737 (ld_skip (off' := 3) (len1 h) (by omega) rfl) (V rfl rfl (V rfl rfl (V rfl rfl (C rfl (Bl (cells := [J (numL (spotsL rs (maxL rs)) (outS k i (at_ rs k))), J (numL (spotsL rs (maxL rs)) (outS k (i + 1) (at_ rs k))), J (numL (spotsL rs (maxL rs)) (besS k t (maxL rs)))]) rfl tz_59 pl_59 rfl rfl (C rfl (AOp.buildSlice (cells := [J (numL (spotsL rs (maxL rs)) (outS k i (at_ rs k))), J (numL (spotsL rs (maxL rs)) (outS k (i + 1) (at_ rs k))), J (numL (spotsL rs (maxL rs)) (besS k t (maxL rs)))]) rfl u_36 ts_59 tz_59 rfl rfl rfl ?_))))))))
 intro i741 H742 n743 h744 k745
 have h749 := keep k745 (ne_new h736 n743) h736
 have h750 := keep k745 (ne_new h737 n743) h737
 have o751 := Own.keep o738 k745 (Own.notnew o738 n743)
 have o753 := Own.keep o739 k745 (Own.notnew o739 n743)
 have m755 := Mono.new m740 n743 k745
 refine C rfl (AOp.append_own (es := 3) (m := 1) (len := ((ts).length)) (old := (ts).flatMap eI3) (cells := [J (numL (spotsL rs (maxL rs)) (outS k i (at_ rs k))), J (numL (spotsL rs (maxL rs)) (outS k (i + 1) (at_ rs k))), J (numL (spotsL rs (maxL rs)) (besS k t (maxL rs)))]) rfl u_36 ts_59 tzn_59 tb_59 (by decide) ni_36 rfl o751 m755 rfl (.slm h744 rfl) (one_of rfl) (by decide) (by first | omega | (simp; omega)) ?_)
 intro v756 H757 o758 m759 k760 j761
 have o762 := Own.snocM (xs := ((ts) : List I3T)) (y := (I3T.mk (numL (spotsL rs (maxL rs)) (outS k i (at_ rs k))) (numL (spotsL rs (maxL rs)) (outS k (i + 1) (at_ rs k))) (numL (spotsL rs (maxL rs)) (besS k t (maxL rs))))) (e := eI3) (by simp) o758
 have h763 := (k760 _ no666 (by rw [h749]; simp)).trans h749
 have no764 := j761 _ no666 (by rw [h749]; simp)
 have h765 := (k760 _ no667 (by rw [h750]; simp)).trans h750
 have no766 := j761 _ no667 (by rw [h750]; simp)
 have sp768 := Own.sep o753 (Sep.symm sp670) j761
 have o767 := Own.stay o753 (Sep.symm sp670) k760
 refine C rfl (nc_ (.ptr i47 0 0) rfl rfl rfl ?_)
 refine C rfl (Fa rfl rfl fl_98_4 ?_ (hid := ⟨_, h765⟩))
 refine C rfl (So (cells' := rs.map eI ++ [J (maxL rs), w0_2, .map i36, v756]) (v756) rfl rfl ts_36 h765 (by rw [Own.cells_ o762]; simp only [List.all_cons, List.all_nil, Own.one_ o762]; rfl) (by rw [Own.cells_ o762]; rfl) (blelen (len_app (m := 4) (n := 4) (k := 8) (len1 h) rfl rfl) (by omega)) (by rw [Own.cells_ o762]; exact (wr_skip (off' := 3) (len1 h) (by omega) rfl)) ?_)
 intro H769 h770 k771
 have h772 := keep k771 e52 h763
 have o774 := Own.keep o767 k771 no669
 have o775 := Own.keep o762 k771 no766
 have m776 := Mono.set m759 z53 k771
 refine AOps.nil ?_
 refine ⟨_, _, Ghost.refl, .inl rfl, _, Res.zero rfl, ?_⟩
 refine AOps.nil ?_
 exact ⟨_, by omega, i + 1, t, (ts) ++ [(I3T.mk (numL (spotsL rs (maxL rs)) (outS k i (at_ rs k))) (numL (spotsL rs (maxL rs)) (outS k (i + 1) (at_ rs k))) (numL (spotsL rs (maxL rs)) (besS k t (maxL rs))))], v756, rfl, rfl, s659, s660, s661, s662, s663, o775, o774, no764, no766, no668, no669, (Sep.symm sp768), h772, h770, m776, by omega, by omega, by omega, by omega, by simp only [List.length_append, List.length_cons, List.length_nil]; omega, by rw [← hts2, strT_out (i := i) (t := t) (by omega) (by omega) ⟨by omega, by first | (left; omega) | (right; omega)⟩]; simp only [List.append_assoc, List.cons_append, List.nil_append]⟩
 refine cf_ rfl (decide_eq_false b733) ?_
 refine Sr ?_
 refine V rfl s659 (B rfl rfl rfl (iadd (by omega)) (A rfl rfl ?_))
 refine AWP.region rfl ?_
 refine V rfl s660 (V rfl rfl (V rfl s660 (V rfl s661 (V rfl rfl (C rfl (AOp.pcallH («as» := [.ptr i47 0 0, J k, J (t + 1)]) rfl rfl (rfl) tf_83 (c_beside rs h (maxL rs) hrt hm16 h685 h684 k (t + 1) (by omega) (by omega)) ?_))))))
 intro H777 m778
 have h779 := m778 _ _ h684
 have h780 := m778 _ _ h685
 have o781 := Own.mono o686 m778
 have o782 := Own.mono o687 m778
 have m783 := m688.trans m778
 refine V rfl rfl (C rfl (AOp.inline (n' := 21) («as» := [.ptr i47 0 0, J (numL (spotsL rs (maxL rs)) (outS k i (at_ rs k))), J (numL (spotsL rs (maxL rs)) (besS k (t + 1) (maxL rs))), J (numL (spotsL rs (maxL rs)) (besS k t (maxL rs)))]) rfl rfl (rfl) tf_49 rfl rfl rfl rfl ?_))
 have hsl : (ts).length ≤ 2000 := by omega
 refine AWP.region rfl ?_
 refine V rfl rfl (V rfl rfl (C rfl (nc_ (.ptr i47 0 0) rfl rfl rfl ?_)))
 refine C rfl (Fa rfl rfl fl_98_4 ?_ (hid := ⟨_, h780⟩))
 refine C rfl (Ld _ rfl rfl ty_36 h780 (ld_skip (off' := 3) (len1 h) (by omega) rfl) (V rfl rfl (V rfl rfl (V rfl rfl (C rfl (Bl (cells := [J (numL (spotsL rs (maxL rs)) (outS k i (at_ rs k))), J (numL (spotsL rs (maxL rs)) (besS k (t + 1) (maxL rs))), J (numL (spotsL rs (maxL rs)) (besS k t (maxL rs)))]) rfl tz_59 pl_59 rfl rfl (C rfl (AOp.buildSlice (cells := [J (numL (spotsL rs (maxL rs)) (outS k i (at_ rs k))), J (numL (spotsL rs (maxL rs)) (besS k (t + 1) (maxL rs))), J (numL (spotsL rs (maxL rs)) (besS k t (maxL rs)))]) rfl u_36 ts_59 tz_59 rfl rfl rfl ?_))))))))
 intro i784 H785 n786 h787 k788
 have h792 := keep k788 (ne_new h779 n786) h779
 have h793 := keep k788 (ne_new h780 n786) h780
 have o794 := Own.keep o781 k788 (Own.notnew o781 n786)
 have o796 := Own.keep o782 k788 (Own.notnew o782 n786)
 have m798 := Mono.new m783 n786 k788
 refine C rfl (AOp.append_own (es := 3) (m := 1) (len := ((ts).length)) (old := (ts).flatMap eI3) (cells := [J (numL (spotsL rs (maxL rs)) (outS k i (at_ rs k))), J (numL (spotsL rs (maxL rs)) (besS k (t + 1) (maxL rs))), J (numL (spotsL rs (maxL rs)) (besS k t (maxL rs)))]) rfl u_36 ts_59 tzn_59 tb_59 (by decide) ni_36 rfl o794 m798 rfl (.slm h787 rfl) (one_of rfl) (by decide) (by first | omega | (simp; omega)) ?_)
 intro v799 H800 o801 m802 k803 j804
 have o805 := Own.snocM (xs := ((ts) : List I3T)) (y := (I3T.mk (numL (spotsL rs (maxL rs)) (outS k i (at_ rs k))) (numL (spotsL rs (maxL rs)) (besS k (t + 1) (maxL rs))) (numL (spotsL rs (maxL rs)) (besS k t (maxL rs))))) (e := eI3) (by simp) o801
 have h806 := (k803 _ no666 (by rw [h792]; simp)).trans h792
 have no807 := j804 _ no666 (by rw [h792]; simp)
 have h808 := (k803 _ no667 (by rw [h793]; simp)).trans h793
 have no809 := j804 _ no667 (by rw [h793]; simp)
 have sp811 := Own.sep o796 (Sep.symm sp670) j804
 have o810 := Own.stay o796 (Sep.symm sp670) k803
 refine C rfl (nc_ (.ptr i47 0 0) rfl rfl rfl ?_)
 refine C rfl (Fa rfl rfl fl_98_4 ?_ (hid := ⟨_, h808⟩))
 refine C rfl (So (cells' := rs.map eI ++ [J (maxL rs), w0_2, .map i36, v799]) (v799) rfl rfl ts_36 h808 (by rw [Own.cells_ o805]; simp only [List.all_cons, List.all_nil, Own.one_ o805]; rfl) (by rw [Own.cells_ o805]; rfl) (blelen (len_app (m := 4) (n := 4) (k := 8) (len1 h) rfl rfl) (by omega)) (by rw [Own.cells_ o805]; exact (wr_skip (off' := 3) (len1 h) (by omega) rfl)) ?_)
 intro H812 h813 k814
 have h815 := keep k814 e52 h806
 have o817 := Own.keep o810 k814 no669
 have o818 := Own.keep o805 k814 no809
 have m819 := Mono.set m802 z53 k814
 refine AOps.nil ?_
 refine ⟨_, _, Ghost.refl, .inl rfl, _, Res.zero rfl, ?_⟩
 refine AOps.nil ?_
 exact ⟨_, by omega, i, t + 1, (ts) ++ [(I3T.mk (numL (spotsL rs (maxL rs)) (outS k i (at_ rs k))) (numL (spotsL rs (maxL rs)) (besS k (t + 1) (maxL rs))) (numL (spotsL rs (maxL rs)) (besS k t (maxL rs))))], v799, rfl, s658, rfl, s660, s661, s662, s663, o818, o817, no807, no809, no668, no669, (Sep.symm sp811), h815, h813, m819, by omega, by omega, by omega, by omega, by simp only [List.length_append, List.length_cons, List.length_nil]; omega, by rw [← hts2, strT_in (i := i) (t := t) (by omega) (by omega) (by omega)]; simp only [List.append_assoc, List.cons_append, List.nil_append]⟩
 refine Y rfl rfl rfl (decide_eq_false b674) (Mv _ rfl s659 (Y rfl rfl rfl (decide_eq_false b674) (Mv _ rfl s663 (Y rfl rfl rfl (decide_eq_false b674) (Bi _ rfl rfl rfl rfl (C rfl (Pf _ rfl rfl (decide_eq_false b674) rfl ?_)))))))
 refine AOps.nil ?_
 change AWP _ _ _ _ _ _
 by_cases b820 : t < maxL rs - 1
 refine ct_ rfl (decide_eq_true b820) ?_
 refine AWP.skip ?_
 refine bk_ ?_
 refine Sr ?_
 refine V rfl s660 (V rfl s661 (V rfl s658 (C rfl (AOp.pcallH («as» := [.ptr i47 0 0, J k, J i]) rfl rfl (rfl) tf_82 (c_outer rs h (maxL rs) hrt hm16 h672 h671 k i (by omega) (by omega)) ?_))))
 intro H821 m822
 have h823 := m822 _ _ h671
 have h824 := m822 _ _ h672
 have o825 := Own.mono o664 m822
 have o826 := Own.mono o665 m822
 have m827 := m673.trans m822
 refine V rfl s660 (V rfl s661 (V rfl s659 (C rfl (AOp.pcallH («as» := [.ptr i47 0 0, J k, J t]) rfl rfl (rfl) tf_83 (c_beside rs h (maxL rs) hrt hm16 h824 h823 k t (by omega) (by omega)) ?_))))
 intro H828 m829
 have h830 := m829 _ _ h823
 have h831 := m829 _ _ h824
 have o832 := Own.mono o825 m829
 have o833 := Own.mono o826 m829
 have m834 := m827.trans m829
 refine A rfl rfl (A rfl rfl ?_)
 refine Sr ?_
 refine V rfl s658 (V rfl s662 (B rfl rfl rfl rfl (V rfl rfl (N rfl rfl (decide_eq_false b674) (N rfl rfl (decide_eq_false b674) (N rfl rfl (decide_eq_false b674) (N rfl rfl (decide_eq_false b674) (AOps.un rfl rfl rfl rfl rfl rfl rfl (AOps.un rfl rfl rfl rfl rfl rfl rfl (AOps.un rfl rfl rfl rfl rfl rfl rfl (AOps.un rfl rfl rfl rfl rfl rfl rfl ?_)))))))))))
 refine AOps.un rfl rfl rfl rfl rfl rfl rfl (AOps.un rfl rfl rfl rfl rfl rfl rfl (AOps.un rfl rfl rfl rfl rfl rfl rfl (AOps.un rfl rfl rfl rfl rfl rfl rfl (AOps.un rfl rfl rfl rfl rfl rfl rfl (AOps.un rfl rfl rfl rfl rfl rfl rfl ?_)))))
 refine AOps.un rfl rfl rfl rfl rfl rfl rfl (AOps.un rfl rfl rfl rfl rfl rfl rfl (AOps.un rfl rfl rfl rfl rfl rfl rfl (AOps.un rfl rfl rfl rfl rfl rfl rfl (N rfl rfl (decide_eq_false b674) (C rfl (Pf _ rfl rfl (decide_eq_false b674) rfl ?_))))))
 refine cf_ rfl rfl ?_
 refine Sr ?_
 refine V rfl s659 (B rfl rfl rfl (iadd (by omega)) (A rfl rfl ?_))
 refine AWP.region rfl ?_
 refine V rfl s660 (V rfl rfl (V rfl s660 (V rfl s661 (V rfl rfl (C rfl (AOp.pcallH («as» := [.ptr i47 0 0, J k, J (t + 1)]) rfl rfl (rfl) tf_83 (c_beside rs h (maxL rs) hrt hm16 h831 h830 k (t + 1) (by omega) (by omega)) ?_))))))
 intro H835 m836
 have h837 := m836 _ _ h830
 have h838 := m836 _ _ h831
 have o839 := Own.mono o832 m836
 have o840 := Own.mono o833 m836
 have m841 := m834.trans m836
 refine V rfl rfl (C rfl (AOp.inline (n' := 21) («as» := [.ptr i47 0 0, J (numL (spotsL rs (maxL rs)) (outS k i (at_ rs k))), J (numL (spotsL rs (maxL rs)) (besS k (t + 1) (maxL rs))), J (numL (spotsL rs (maxL rs)) (besS k t (maxL rs)))]) rfl rfl (rfl) tf_49 rfl rfl rfl rfl ?_))
 have hsl : (ts).length ≤ 2000 := by omega
 refine AWP.region rfl ?_
 refine V rfl rfl (V rfl rfl (C rfl (nc_ (.ptr i47 0 0) rfl rfl rfl ?_)))
 refine C rfl (Fa rfl rfl fl_98_4 ?_ (hid := ⟨_, h838⟩))
 refine C rfl (Ld _ rfl rfl ty_36 h838 (ld_skip (off' := 3) (len1 h) (by omega) rfl) (V rfl rfl (V rfl rfl (V rfl rfl (C rfl (Bl (cells := [J (numL (spotsL rs (maxL rs)) (outS k i (at_ rs k))), J (numL (spotsL rs (maxL rs)) (besS k (t + 1) (maxL rs))), J (numL (spotsL rs (maxL rs)) (besS k t (maxL rs)))]) rfl tz_59 pl_59 rfl rfl (C rfl (AOp.buildSlice (cells := [J (numL (spotsL rs (maxL rs)) (outS k i (at_ rs k))), J (numL (spotsL rs (maxL rs)) (besS k (t + 1) (maxL rs))), J (numL (spotsL rs (maxL rs)) (besS k t (maxL rs)))]) rfl u_36 ts_59 tz_59 rfl rfl rfl ?_))))))))
 intro i842 H843 n844 h845 k846
 have h850 := keep k846 (ne_new h837 n844) h837
 have h851 := keep k846 (ne_new h838 n844) h838
 have o852 := Own.keep o839 k846 (Own.notnew o839 n844)
 have o854 := Own.keep o840 k846 (Own.notnew o840 n844)
 have m856 := Mono.new m841 n844 k846
 refine C rfl (AOp.append_own (es := 3) (m := 1) (len := ((ts).length)) (old := (ts).flatMap eI3) (cells := [J (numL (spotsL rs (maxL rs)) (outS k i (at_ rs k))), J (numL (spotsL rs (maxL rs)) (besS k (t + 1) (maxL rs))), J (numL (spotsL rs (maxL rs)) (besS k t (maxL rs)))]) rfl u_36 ts_59 tzn_59 tb_59 (by decide) ni_36 rfl o852 m856 rfl (.slm h845 rfl) (one_of rfl) (by decide) (by first | omega | (simp; omega)) ?_)
 intro v857 H858 o859 m860 k861 j862
 have o863 := Own.snocM (xs := ((ts) : List I3T)) (y := (I3T.mk (numL (spotsL rs (maxL rs)) (outS k i (at_ rs k))) (numL (spotsL rs (maxL rs)) (besS k (t + 1) (maxL rs))) (numL (spotsL rs (maxL rs)) (besS k t (maxL rs))))) (e := eI3) (by simp) o859
 have h864 := (k861 _ no666 (by rw [h850]; simp)).trans h850
 have no865 := j862 _ no666 (by rw [h850]; simp)
 have h866 := (k861 _ no667 (by rw [h851]; simp)).trans h851
 have no867 := j862 _ no667 (by rw [h851]; simp)
 have sp869 := Own.sep o854 (Sep.symm sp670) j862
 have o868 := Own.stay o854 (Sep.symm sp670) k861
 refine C rfl (nc_ (.ptr i47 0 0) rfl rfl rfl ?_)
 refine C rfl (Fa rfl rfl fl_98_4 ?_ (hid := ⟨_, h866⟩))
 refine C rfl (So (cells' := rs.map eI ++ [J (maxL rs), w0_2, .map i36, v857]) (v857) rfl rfl ts_36 h866 (by rw [Own.cells_ o863]; simp only [List.all_cons, List.all_nil, Own.one_ o863]; rfl) (by rw [Own.cells_ o863]; rfl) (blelen (len_app (m := 4) (n := 4) (k := 8) (len1 h) rfl rfl) (by omega)) (by rw [Own.cells_ o863]; exact (wr_skip (off' := 3) (len1 h) (by omega) rfl)) ?_)
 intro H870 h871 k872
 have h873 := keep k872 e52 h864
 have o875 := Own.keep o868 k872 no669
 have o876 := Own.keep o863 k872 no867
 have m877 := Mono.set m860 z53 k872
 refine AOps.nil ?_
 refine ⟨_, _, Ghost.refl, .inl rfl, _, Res.zero rfl, ?_⟩
 refine AOps.nil ?_
 exact ⟨_, by omega, i, t + 1, (ts) ++ [(I3T.mk (numL (spotsL rs (maxL rs)) (outS k i (at_ rs k))) (numL (spotsL rs (maxL rs)) (besS k (t + 1) (maxL rs))) (numL (spotsL rs (maxL rs)) (besS k t (maxL rs))))], v857, rfl, s658, rfl, s660, s661, s662, s663, o876, o875, no865, no867, no668, no669, (Sep.symm sp869), h873, h871, m877, by omega, by omega, by omega, by omega, by simp only [List.length_append, List.length_cons, List.length_nil]; omega, by rw [← hts2, strT_in (i := i) (t := t) (by omega) (by omega) (by omega)]; simp only [List.append_assoc, List.cons_append, List.nil_append]⟩
 refine cf_ rfl (decide_eq_false b820) ?_
 refine AWP.exit ?_
 refine ⟨_, _, Ghost.refl, .inl rfl, _, Res.zero rfl, ?_⟩
 refine AWP.region rfl ?_
 refine B rfl s632 rfl (iadd (by omega)) (V rfl rfl ?_)
 refine AOps.nil ?_
 exact ⟨_, by omega, k + 1, w0_4, rfl, rfl, s633, s634, s635, s636, (have hx : ((ts) : List I3T) = midO (numL (spotsL rs (maxL rs))) (maxL rs) (maxL rs - 1) ++ strO (numL (spotsL rs (maxL rs))) rs (maxL rs) (k + 1) := (by rw [← hts2, strT_end (by omega) (by omega), List.append_nil]); Own.re o664 (congrArg List.length hx) (congrArg (fun l : List I3T => l.flatMap eI3) hx)), o665, no666, no667, no668, no669, sp670, h671, h672, m673, by omega, by omega⟩
 refine cf_ rfl (decide_eq_false b647) ?_
 refine AWP.exit ?_
 change AWP _ _ _ _ _ _
 refine AWP.seq ?_
 refine AWP.region_quiet mixed (by kernel_rfl) 11 [] rfl (by kernel_rfl) (Mono H630) (Mono.refl _) ?_
 refine QV rfl s636 (Q rfl (fun _ _ φ ψ => nc_ (.ptr i47 0 0) rfl (φ 49 rfl) rfl ⟨rfl, ψ⟩) (Q rfl (fun _ _ φ ψ => Fa rfl (φ 50 rfl) fl_98_2 ⟨rfl, ψ⟩ (hid := ⟨_, (ψ _ _ h645)⟩)) (Q rfl (fun _ _ φ ψ => Ld _ rfl (φ 51 rfl) ty_68 (ψ _ _ h645) (ld_skip (off' := 1) (len1 h) (by omega) rfl) ⟨rfl, ψ⟩) (QV rfl s636 (Q rfl (fun _ _ φ ψ => nc_ (.ptr i47 0 0) rfl (φ 53 rfl) rfl ⟨rfl, ψ⟩) (Q rfl (fun _ _ φ ψ => Fa rfl (φ 54 rfl) fl_98_4 ⟨rfl, ψ⟩ (hid := ⟨_, (ψ _ _ h645)⟩)) (Q rfl (fun _ _ φ ψ => Ld _ rfl (φ 55 rfl) ty_36 (ψ _ _ h645) (ld_skip (off' := 3) (len1 h) (by omega) rfl) ⟨rfl, ψ⟩) (Q rfl (fun _ _ φ ψ => As _ rfl (φ 52 rfl) ⟨rfl, ψ⟩) (Q rfl (fun _ _ φ ψ => As _ rfl (φ 56 rfl) ⟨rfl, ψ⟩) (Q rfl (fun _ _ φ ψ => As _ rfl rfl ⟨rfl, ψ⟩) ?_))))))))))
 refine QE.done fun H878 m879 => ?_
 have h880 := m879 _ _ h644
 have h881 := m879 _ _ h645
 have o882 := Own.mono o637 m879
 have o883 := Own.mono o638 m879
 have m884 := m646.trans m879
 refine rt_ ?_
 refine Fin.frz 2 o883 rfl m884 fun H885 m886 k887 => ?_
 have o890 := Own.stay o882 sp643 (fun i hi _ => k887 i hi)
 refine Fin.frz 3 o890 rfl m886 fun H891 m892 k893 => ?_
 refine Rr (Res.three rfl rfl rfl rfl) ?_ m892
 exact congrArg AV.tup (lc (congrArg (fun l : List SpotT => AV.sl l.length (l.flatMap eSpot)) (show ((spotsL rs (maxL rs)) : List SpotT) = (weaveR rs).1 from by rw [(weave_T h hrt).2.2]; first | done | rfl | (unfold trisL; rw [if_neg b407, show k = 4 by omega]))) (lc (congrArg (fun l : List I3T => AV.sl l.length (l.flatMap eI3)) (show ((midO (numL (spotsL rs (maxL rs))) (maxL rs) (maxL rs - 1) ++ strO (numL (spotsL rs (maxL rs))) rs (maxL rs) k) : List I3T) = (weaveR rs).2.1 from by rw [(weave_T h hrt).2.2]; first | done | rfl | (unfold trisL; rw [if_neg b407, show k = 4 by omega]))) (lc (congrArg AV.bool (show (true : Bool) = (weaveR rs).2.2 from by rw [(weave_T h hrt).2.2]; first | done | rfl | (unfold trisL; rw [if_neg b407, show k = 4 by omega]))) rfl)))
end Go.Proofs.M
