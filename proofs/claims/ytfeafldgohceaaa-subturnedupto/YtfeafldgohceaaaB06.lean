/- A part of the proof that a law answers true for every input of its row: own work, by an AI agent. -/
import Derived.Test.YtfeafldgohceaaaB05
set_option linter.unusedSimpArgs false
set_option linter.unusedVariables false
set_option linter.defProp false
namespace Go.Proofs.U
open Go Go.AH Go.Proofs.T
set_option maxRecDepth 4000
set_option linter.unusedSimpArgs false
set_option linter.unusedVariables false
set_option maxHeartbeats 4000000
theorem c_CopyIntsO {H0 : Heap} (l : List Int) (hl : l.length ≤ 1048576) : ACalls Try.prog 67 [.sl l.length (l.map eI)] H0 fun r H' => Own H0 H' 1 r (l).length ((l).map eI) ∧ Mono H0 H' := by
 refine ACalls.of_body' (n := 9) rfl rfl rfl rfl ?_
 have m0 := Mono.refl H0
 refine AWP.seq ?_
 refine AWP.region (l := [0]) rfl ?_
 refine AOps.cons rfl rfl (AOp.assign (.snil) rfl rfl ?_)
 refine AOps.nil ?_
 change AWP _ _ _ _ _ _
 refine AWP.seq ?_
 refine AWP.region (l := [0, 1]) rfl ?_
 refine AOps.cons rfl rfl (AOp.buildSlice (cells := []) rfl u_38 ts_3 tz_3 rfl rfl rfl ?_)
 intro i1 H2 n3 h4 k5
 have z6 := Mono.free m0 n3
 have m7 := Mono.new m0 n3 k5
 obtain ⟨v8, e9⟩ : ∃ v : AV, v = .slm i1 0 1 0 0 := ⟨_, rfl⟩
 have o10 : Own H0 H2 1 v8 0 [] := .inr ⟨_, _, e9, h4, z6, rfl⟩
 refine AOps.cons rfl rfl (AOp.assign (v8) rfl e9.symm ?_)
 refine AOps.nil ?_
 change AWP _ _ _ _ _ _
 refine AWP.seq ?_
 refine AWP.region (l := [0, 1, 2, 3]) rfl ?_
 refine AOps.cons rfl rfl (AOp.move (v8) rfl rfl ?_)
 refine AOps.cons rfl rfl (AOp.move (.sl l.length (l.map eI)) rfl rfl ?_)
 refine AOps.cons rfl rfl (AOp.append_any (es := 1) (m := l.length) (len := 0) (old := []) (cells := l.map eI) rfl u_38 ts_3 tzn_3 tb_3 (by decide) ni_38 rfl o10 m7 rfl (.sl (by simp)) (by exact one_map eI_one)  (by first | omega | (simp; omega)) ?_)
 intro v11 H12 o13 m14 k15 j16
 have o17 := Own.app1 (xs := ([] : List Int)) (ys := l) (e := eI) (by simp) o13
 refine AOps.cons rfl rfl (AOp.assign (v11) rfl rfl ?_)
 refine AOps.nil ?_
 change AWP _ _ _ _ _ _
 refine AWP.seq ?_
 refine AWP.region (l := [0, 1]) rfl ?_
 refine AOps.cons rfl rfl (AOp.move (v11) rfl rfl ?_)
 refine AOps.cons rfl rfl (AOp.assign (v11) rfl rfl ?_)
 refine AOps.nil ?_
 change AWP _ _ _ _ _ _
 refine AWP.ret ?_
 refine ⟨_, _, Ghost.refl, .inr rfl, _, Res.one rfl rfl, ?_, m14⟩
 have hx : ((([]) ++ l) : List Int) = l := (by simp)
 exact Own.re o17 (congrArg List.length hx) (congrArg (fun l : List Int => l.map eI) hx)
theorem c_CopyFacesG {H0 : Heap} (fs : List (List Int)) (hfl : fs.length ≤ 1048576) (hfs : ∀ l ∈ fs, l.length ≤ 1048576) : ACalls Try.prog 47 [.sl fs.length (fs.map eF)] H0 fun r H' => ∃ L : List ME, (∀ x : Int, 0 ≤ x → x < fs.length → (getM L x).2 = at_ fs x) ∧ Own H0 H' 1 r (gvals L fs.length).length ((gvals L fs.length).map eA) ∧ MO H0 H' L ∧ SepM L r ∧ Mono H0 H' := by
 refine ACalls.of_body' (n := 21) rfl rfl rfl rfl ?_
 have m0 := Mono.refl H0
 refine AWP.seq ?_
 refine AWP.region (l := [0]) rfl ?_
 refine AOps.cons rfl rfl (AOp.assign (.snil) rfl rfl ?_)
 refine AOps.nil ?_
 change AWP _ _ _ _ _ _
 refine AWP.seq ?_
 refine AWP.region (l := [0, 1]) rfl ?_
 refine AOps.cons rfl rfl (AOp.buildSlice (cells := []) rfl u_23 ts_38 tz_38 rfl rfl rfl ?_)
 intro i1 H2 n3 h4 k5
 have z6 := Mono.free m0 n3
 have m7 := Mono.new m0 n3 k5
 obtain ⟨v8, e9⟩ : ∃ v : AV, v = .slm i1 0 1 0 0 := ⟨_, rfl⟩
 have o10 : Own H0 H2 1 v8 0 [] := .inr ⟨_, _, e9, h4, z6, rfl⟩
 refine AOps.cons rfl rfl (AOp.assign (v8) rfl e9.symm ?_)
 refine AOps.nil ?_
 change AWP _ _ _ _ _ _
 refine AWP.seq ?_
 refine AWP.seq ?_
 have oM : MO H0 H2 [] := MO.nil _ _
 skip
 refine AWP.region (l := [0]) rfl ?_
 refine AOps.cons rfl rfl (AOp.assign (.int .i64 0) rfl rfl ?_)
 refine AOps.nil ?_
 change AWP _ _ _ _ _ _
 refine AWP.block ?_
 refine AWP.loop (fun q11 fq Hq => ∃ (i : Int) (L : List ME) (w3 : AV), q11 = (((fs.length : Int) : Int) - i).toNat ∧ fq 4 = .int .i64 i ∧ fq 0 = .sl fs.length (fs.map eF) ∧ fq 2 = .snil ∧ fq 3 = w3 ∧ Own H0 Hq 1 w3 (gvals L i.toNat).length ((gvals L i.toNat).map eA) ∧ MO H0 Hq L ∧ SepM L w3 ∧ Mono H0 Hq ∧ (0 ≤ i) ∧ (i ≤ (fs.length : Int)) ∧ (∀ x : Int, 0 ≤ x → x < i → (getM L x).2 = at_ fs x)) (k := (((fs.length : Int) : Int) - 0).toNat) ?_ ?_
 ·
  exact ⟨0, ([] : List ME), v8, rfl, rfl, rfl, rfl, rfl, (have hx : ([] : List AV) = gvals ([] : List ME) (0 : Int).toNat := (by rfl); Own.re o10 (congrArg List.length hx) (congrArg (fun l : List AV => l.map eA) hx)), oM, (SepM.nil _), m7, by omega, by omega, by intro x; omega⟩
 ·
  rintro _ f13 H12 ⟨i, L, w3, rfl, s14, s15, s16, s17, o18, o19, sp20, m21, hi0, hi1, hG⟩
  refine AWP.seq ?_
  refine AWP.seq ?_
  refine AWP.region (l := [0, 1, 2, 3]) rfl ?_
  refine AOps.cons rfl rfl (AOp.move (.int .i64 i) rfl s14 ?_)
  refine AOps.cons rfl rfl (AOp.move (.sl fs.length (fs.map eF)) rfl s15 ?_)
  refine AOps.cons rfl rfl (AOp.len (m := fs.length) rfl rfl (.inr (.inl ⟨_, rfl⟩)) u_23 ?_)
  refine AOps.cons rfl rfl (AOp.bin (.bool (decide (i < (fs.length : Int)))) rfl rfl rfl rfl ?_)
  refine AOps.nil ?_
  change AWP _ _ _ _ _ _
  by_cases b22 : i < (fs.length : Int)
  ·
   refine AWP.condT rfl (decide_eq_true b22) ?_
   refine AWP.skip ?_
   change AWP _ _ _ _ _ _
   refine AWP.seq ?_
   refine AWP.block ?_
   have hq : (at_ fs i).length ≤ 1048576 := hfs _ (at_mem hi0 (by omega))
   refine AWP.region (l := [0, 1, 2, 3, 4, 5, 6, 7, 8]) rfl ?_
   refine AOps.cons rfl rfl (AOp.move (w3) rfl s17 ?_)
   refine AOps.cons rfl rfl (AOp.move (.sl fs.length (fs.map eF)) rfl s15 ?_)
   refine AOps.cons rfl rfl (AOp.move (.int .i64 i) rfl s14 ?_)
   refine AOps.cons rfl rfl (AOp.indexAddrS rfl rfl rfl sl_23 (by omega) (by omega) ?_)
   refine AOps.cons rfl rfl (AOp.loadF (.sl (at_ fs i).length ((at_ fs i).map eI)) rfl rfl ty_38 (ld1 (by omega) (by omega)) ?_)
   refine AOps.cons rfl rfl (AOp.xcall («as» := [.sl (at_ fs i).length ((at_ fs i).map eI)]) rfl rfl (rfl) tf_67 (c_CopyIntsO (at_ fs i) (by omega)) ?_)
   rintro v23 H24 ⟨o25, m26⟩
   have sp27 : Sep v23 w3 := (Sep.fresh o18 o25).symm
   have sp28 := MO.fresh o19 o25
   have o29 := Own.base o25 m21
   have o30 := Own.mono o18 m26
   have o31 := MO.mono o19 m26
   have m32 := m21.trans m26
   refine AOps.cons rfl rfl (AOp.buildSlice (cells := [v23]) rfl u_23 ts_38 tz_38 rfl rfl (fill_own o29 rfl rfl rfl rfl) ?_)
   intro i33 H34 n35 h36 k37
   have z38 := Mono.free m32 n35
   have o39 := Own.keep o30 k37 (Own.notnew o30 n35)
   have no40 := Own.notnew o30 n35
   have o41 := MO.keep o31 k37 (MO.notnew o31 n35)
   have no42 := MO.notnew o31 n35
   have o43 := Own.keep o29 k37 (Own.notnew o29 n35)
   have no44 := Own.notnew o29 n35
   have m45 := Mono.new m32 n35 k37
   refine AOps.cons rfl rfl (AOp.append_own (es := 1) (m := 1) (len := ((gvals L i.toNat).length)) (old := (gvals L i.toNat).map eA) (cells := [v23]) rfl u_23 ts_38 tzn_38 tb_38 (by decide) ni_23 rfl o39 m45 rfl (.slm h36 rfl) (Own.oneL o43) (by decide) (by rw [gvals_len]; omega) ?_)
   intro v46 H47 o48 m49 k50 j51
   have o52 := Own.snoc1 (xs := ((gvals L i.toNat) : List AV)) (y := v23) (e := eA) (by simp) o48
   have sp54 := MO.sep o41 sp20 j51
   have o53 := MO.stay o41 sp20 k50
   have sp56 := Own.sep o43 sp27 j51
   have o55 := Own.stay o43 sp27 k50
   refine AOps.cons rfl rfl (AOp.assign (v46) rfl rfl ?_)
   refine AOps.nil ?_
   change AWP _ _ _ _ _ _
   have o57 := (MO.take o53 i).2.1
   have sp58 := SepM.rest sp28 i
   have o59 := MO.put (L := L) o57 o55 sp58
   have sp60 := SepM.put_ (xs := (at_ fs i)) (SepM.rest sp54 i) sp56
   skip
   refine AWP.region (l := [0, 1, 2]) rfl ?_
   refine AOps.cons rfl rfl (AOp.move (.int .i64 i) rfl s14 ?_)
   refine AOps.cons rfl rfl (AOp.bin (.int .i64 (i + 1)) rfl rfl rfl (iadd (by omega)) ?_)
   refine AOps.cons rfl rfl (AOp.assign (.int .i64 (i + 1)) rfl rfl ?_)
   refine AOps.nil ?_
   exact ⟨_, by omega, i + 1, (putM L i v23 (at_ fs i)), v46, rfl, rfl, s15, s16, rfl, (have hx : (((gvals L i.toNat) ++ [v23]) : List AV) = gvals (putM L i v23 (at_ fs i)) (i + 1).toNat := (by exact gvals_snoc hi0); Own.re o52 (congrArg List.length hx) (congrArg (fun l : List AV => l.map eA) hx)), o59, sp60, m49, by omega, by omega, by exact fun x x0 x1 => by rw [getM_put]; exact if e : x = i then by rw [if_pos e, e] else by rw [if_neg e]; exact hG x x0 (by omega)⟩
  ·
   refine AWP.condF rfl (decide_eq_false b22) ?_
   refine AWP.exit ?_
   change AWP _ _ _ _ _ _
   refine AWP.seq ?_
   refine AWP.region (l := [0, 1]) rfl ?_
   refine AOps.cons rfl rfl (AOp.move (w3) rfl s17 ?_)
   refine AOps.cons rfl rfl (AOp.assign (w3) rfl rfl ?_)
   refine AOps.nil ?_
   change AWP _ _ _ _ _ _
   refine AWP.ret ?_
   have hie : i = (fs.length : Int) := by omega
   have hie2 : i.toNat = fs.length := by omega
   have oz := Own.re (k := (gvals L fs.length).length) (cs := (gvals L fs.length).map eA) o18 (by rw [hie2]) (by rw [hie2])
   exact ⟨_, _, Ghost.refl, .inr rfl, _, Res.one rfl rfl, L, fun x x0 x1 => hG x x0 (by omega), oz, o19, sp20, m21⟩
theorem c_CopyVs (l : List VT) (hl : l.length ≤ 1048576) : PC Try.prog 46 [.sl l.length (l.flatMap eV)] (.sl l.length (l.flatMap eV)) := by
 intro H0
 refine ACalls.of_body' (n := 9) rfl rfl rfl rfl ?_
 have m0 := Mono.refl H0
 refine AWP.seq ?_
 refine AWP.region (l := [0]) rfl ?_
 refine AOps.cons rfl rfl (AOp.assign (.snil) rfl rfl ?_)
 refine AOps.nil ?_
 change AWP _ _ _ _ _ _
 refine AWP.seq ?_
 refine AWP.region (l := [0, 1]) rfl ?_
 refine AOps.cons rfl rfl (AOp.buildSlice (cells := []) rfl u_22 ts_42 tz_42 rfl rfl rfl ?_)
 intro i1 H2 n3 h4 k5
 have z6 := Mono.free m0 n3
 have m7 := Mono.new m0 n3 k5
 obtain ⟨v8, e9⟩ : ∃ v : AV, v = .slm i1 0 3 0 0 := ⟨_, rfl⟩
 have o10 : Own H0 H2 3 v8 0 [] := .inr ⟨_, _, e9, h4, z6, rfl⟩
 refine AOps.cons rfl rfl (AOp.assign (v8) rfl e9.symm ?_)
 refine AOps.nil ?_
 change AWP _ _ _ _ _ _
 refine AWP.seq ?_
 refine AWP.region (l := [0, 1, 2, 3]) rfl ?_
 refine AOps.cons rfl rfl (AOp.move (v8) rfl rfl ?_)
 refine AOps.cons rfl rfl (AOp.move (.sl l.length (l.flatMap eV)) rfl rfl ?_)
 refine AOps.cons rfl rfl (AOp.append_any (es := 3) (m := l.length) (len := 0) (old := []) (cells := l.flatMap eV) rfl u_22 ts_42 tzn_42 tb_42 (by decide) ni_22 rfl o10 m7 rfl (.sl (flatMap_length eV_len _)) (by exact one_flat eV_one)  (by first | omega | (simp; omega)) ?_)
 intro v11 H12 o13 m14 k15 j16
 have o17 := Own.appM (xs := ([] : List VT)) (ys := l) (e := eV) (by simp) o13
 refine AOps.cons rfl rfl (AOp.assign (v11) rfl rfl ?_)
 refine AOps.nil ?_
 change AWP _ _ _ _ _ _
 refine AWP.seq ?_
 refine AWP.region (l := [0, 1]) rfl ?_
 refine AOps.cons rfl rfl (AOp.move (v11) rfl rfl ?_)
 refine AOps.cons rfl rfl (AOp.assign (v11) rfl rfl ?_)
 refine AOps.nil ?_
 change AWP _ _ _ _ _ _
 refine AWP.ret ?_
 refine Fin.frz 2 o17 rfl m14 fun H18 m19 k20 => ?_
 refine ⟨_, _, Ghost.refl, .inr rfl, _, Res.one rfl rfl, ?_, m19⟩
 exact (congrArg (fun l : List VT => AV.sl l.length (l.flatMap eV)) (show ((([]) ++ l) : List VT) = l from by simp))
theorem c_CopyCageG {H0 : Heap} (vs : List VT) (fs : List (List Int)) (cr : List CrT) (hvl : vs.length ≤ 1048576) (hfl : fs.length ≤ 1048576) (hfs : ∀ l ∈ fs, l.length ≤ 1048576) (hcl : cr.length ≤ 1048576) : ACalls Try.prog 22 [.agg [.sl vs.length (vs.flatMap eV), .sl fs.length (fs.map eF), .sl cr.length (cr.flatMap eCr)]] H0 fun r H' => ∃ (v : AV) (L : List ME), (∀ x : Int, 0 ≤ x → x < fs.length → (getM L x).2 = at_ fs x) ∧ Own H0 H' 1 v (gvals L fs.length).length ((gvals L fs.length).map eA) ∧ MO H0 H' L ∧ SepM L v ∧ r = .agg [.sl vs.length (vs.flatMap eV), v, .sl cr.length (cr.flatMap eCr)] ∧ Mono H0 H' := by
 refine ACalls.of_body' (n := 17) rfl rfl rfl rfl ?_
 have m0 := Mono.refl H0
 refine AWP.seq ?_
 refine AWP.region (l := [0, 1]) rfl ?_
 refine AOps.cons rfl rfl (AOp.box (.agg [.sl vs.length (vs.flatMap eV), .sl fs.length (fs.map eF), .sl cr.length (cr.flatMap eCr)]) rfl rfl rfl ?_)
 intro i1 H2 n3 h4 k5
 have z6 := Mono.free m0 n3
 have m7 := Mono.new m0 n3 k5
 refine AOps.cons rfl rfl (AOp.alloc rfl tz_26 ?_)
 intro i8 H9 n10 h11 k12
 have e13 := ne_new h4 n10
 have z14 := Mono.free m7 n10
 have h15 := keep k12 (ne_new h4 n10) h4
 have m16 := Mono.new m7 n10 k12
 refine AOps.nil ?_
 change AWP _ _ _ _ _ _
 refine AWP.seq ?_
 refine AWP.frzP 1 h15 z6 rfl m16 fun H17 m18 k19 => ?_
 have h20 := (k19 _ (Ne.symm e13)).trans h11
 refine AWP.region (l := [0, 1]) rfl ?_
 refine AOps.cons rfl rfl (AOp.buildSlice (cells := []) rfl u_24 ts_53 tz_53 rfl rfl rfl ?_)
 intro i21 H22 n23 h24 k25
 have e26 := ne_new h20 n23
 have z27 := Mono.free m18 n23
 have h28 := keep k25 (ne_new h20 n23) h20
 have m29 := Mono.new m18 n23 k25
 obtain ⟨v30, e31⟩ : ∃ v : AV, v = .slm i21 0 3 0 0 := ⟨_, rfl⟩
 have o32 : Own H0 H22 3 v30 0 [] := .inr ⟨_, _, e31, h24, z27, rfl⟩
 have no33 : NotId v30 i8 := by rw [e31]; exact NotId.slm e26
 refine AOps.cons rfl rfl (AOp.assign (v30) rfl e31.symm ?_)
 refine AOps.nil ?_
 change AWP _ _ _ _ _ _
 refine AWP.seq ?_
 refine AWP.region (l := [0, 1, 2, 3, 4]) rfl ?_
 refine AOps.cons rfl rfl (AOp.move (v30) rfl rfl ?_)
 refine AOps.cons rfl rfl (AOp.fieldAddrF rfl rfl fl_26_2 ?_)
 refine AOps.cons rfl rfl (AOp.loadF (.sl cr.length (cr.flatMap eCr)) rfl rfl ty_24 rfl ?_)
 refine AOps.cons rfl rfl (AOp.append_any (es := 3) (m := cr.length) (len := 0) (old := []) (cells := cr.flatMap eCr) rfl u_24 ts_53 tzn_53 tb_53 (by decide) ni_24 rfl o32 m29 rfl (.sl (flatMap_length eCr_len _)) (by exact one_flat eCr_one)  (by first | omega | (simp; omega)) ?_)
 intro v34 H35 o36 m37 k38 j39
 have o40 := Own.appM (xs := ([] : List CrT)) (ys := cr) (e := eCr) (by simp) o36
 have h41 := (k38 _ no33 (by rw [h28]; simp)).trans h28
 have no42 := j39 _ no33 (by rw [h28]; simp)
 refine AOps.cons rfl rfl (AOp.assign (v34) rfl rfl ?_)
 refine AOps.nil ?_
 change AWP _ _ _ _ _ _
 refine AWP.seq ?_
 refine AWP.frz 3 o40 rfl m37 fun H43 m44 k45 => ?_
 have h46 := (k45 _ no42).trans h41
 refine AWP.region_str mixed (by kernel_rfl) [(0, none), (1, none), (2, none), (3, none), (4, none), (6, none), (5, some [6])] [7, 8] (by kernel_rfl) ?_
 refine STR.op rfl rfl (.inl ⟨rfl, fun H1 f' H' hf hN hM => AOp.fieldAddrF rfl ((hf 1 rfl).trans rfl) fl_26_0 ⟨rfl, hN⟩⟩) ?_
 refine STR.op rfl rfl (.inl ⟨rfl, fun H1 f' H' hf hN hM => AOp.loadF (.sl vs.length (vs.flatMap eV)) rfl ((hf 9 rfl).trans rfl) ty_22 rfl ⟨rfl, hN⟩⟩) ?_
 refine STR.op rfl rfl (.inl ⟨rfl, fun H1 f' H' hf hN hM => AOp.pcall («as» := [.sl vs.length (vs.flatMap eV)]) rfl rfl (lapp (lcons ((hf 10 rfl).trans rfl) rfl) rfl) tf_46 (c_CopyVs _ (by omega)) fun H2 m2 => ⟨rfl, hN.trans m2⟩⟩) ?_
 refine STR.op rfl rfl (.inl ⟨rfl, fun H1 f' H' hf hN hM => AOp.fieldAddrF rfl ((hf 1 rfl).trans rfl) fl_26_1 ⟨rfl, hN⟩⟩) ?_
 refine STR.op rfl rfl (.inl ⟨rfl, fun H1 f' H' hf hN hM => AOp.loadF (.sl fs.length (fs.map eF)) rfl ((hf 12 rfl).trans rfl) ty_23 rfl ⟨rfl, hN⟩⟩) ?_
 refine STR.op rfl rfl (.inl ⟨rfl, fun H1 f' H' hf hN hM => AOp.move (.sl (([]) ++ cr).length ((([]) ++ cr).flatMap eCr)) rfl ((hf 3 rfl).trans rfl) ⟨rfl, hN⟩⟩) ?_
 refine STR.eff rfl rfl rfl fun f47 H48 hf49 m50 => ?_
 have h51 := m50 _ _ h46
 have m52 := m44.trans m50
 refine AOp.xcall («as» := [.sl fs.length (fs.map eF)]) rfl rfl (lapp (lcons ((hf49 13 rfl).trans rfl) rfl) rfl) tf_47 (c_CopyFacesG fs (by omega) (by assumption)) ?_
 rintro v53 H54 ⟨L55, hL56, o57, oM58, sM59, m60⟩
 have no61 : NotId v53 i8 := Own.free o57 h51
 have no62 : NotIdM L55 i8 := MO.free oM58 h51
 have o63 := Own.base o57 m52
 have o64 := MO.base oM58 m52
 have h65 := m60 _ _ h51
 have m66 := m52.trans m60
 refine ⟨_, rfl, .inr (RevR.cons rfl (.inl ⟨rfl, fun H1 f' H' hf hN hM => AOp.move (.sl (([]) ++ cr).length ((([]) ++ cr).flatMap eCr)) rfl ((hf 3 rfl).trans rfl) ⟨rfl, hN⟩⟩) (RevR.skip rfl (RevR.skip rfl (RevR.skip rfl (RevR.skip rfl (RevR.skip rfl RevR.nil)))))), ?_⟩
 refine STR.done fun H67 m68 => ?_
 have h69 := m68 _ _ h65
 have o70 := Own.mono o63 m68
 have o71 := MO.mono o64 m68
 have m72 := m66.trans m68
 refine AOps.cons rfl rfl (AOp.build (cells := [.sl vs.length (vs.flatMap eV), v53, .sl (([]) ++ cr).length ((([]) ++ cr).flatMap eCr)]) rfl tz_26 pl_26 rfl (fill_step rfl rfl rfl rfl rfl (fill_own o70 rfl rfl rfl (fill_step rfl rfl rfl rfl rfl rfl))) ?_)
 refine AOps.cons rfl rfl (AOp.store' (cells' := [.sl vs.length (vs.flatMap eV), v53, .sl (([]) ++ cr).length ((([]) ++ cr).flatMap eCr)]) (.agg [.sl vs.length (vs.flatMap eV), v53, .sl (([]) ++ cr).length ((([]) ++ cr).flatMap eCr)]) rfl rfl ts_26 h69 (by simp only [AV.cells, List.all_cons, List.all_nil, Own.one_ o70]; rfl) rfl rfl rfl ?_)
 intro H73 h74 k75
 have o77 := Own.keep o70 k75 no61
 have o78 := MO.keep o71 k75 no62
 have m79 := Mono.set m72 z14 k75
 refine AOps.nil ?_
 change AWP _ _ _ _ _ _
 refine AWP.ret ?_
 exact ⟨_, _, Ghost.refl, .inr rfl, _, Res.list1 rfl (.cell (v := .agg [.sl vs.length (vs.flatMap eV), v53, .sl (([]) ++ cr).length ((([]) ++ cr).flatMap eCr)]) rfl ty_26 h74 rfl (.nil)), v53, L55, hL56, o77, o78, sM59, rfl, m79⟩
theorem c_SameVs (a b : List VT) (h : a = b) (hl : a.length ≤ 1048576) (hr : ∀ p ∈ a, inV 65536 p) : PC Try.prog 23 [.sl a.length (a.flatMap eV), .sl b.length (b.flatMap eV)] (.bool true) := by
 intro H0
 refine ACalls.of_body' (n := 26) rfl rfl rfl rfl ?_
 have m0 := Mono.refl H0
 refine AWP.seq ?_
 refine AWP.region (l := [0]) rfl ?_
 refine AOps.cons rfl rfl (AOp.assign (.bool false) rfl rfl ?_)
 refine AOps.nil ?_
 change AWP _ _ _ _ _ _
 refine AWP.seq ?_
 refine AWP.seq ?_
 refine AWP.region (l := [0, 1, 2, 3, 4]) rfl ?_
 refine AOps.cons rfl rfl (AOp.move (.sl a.length (a.flatMap eV)) rfl rfl ?_)
 refine AOps.cons rfl rfl (AOp.len (m := a.length) rfl rfl (.inr (.inl ⟨_, rfl⟩)) u_22 ?_)
 refine AOps.cons rfl rfl (AOp.move (.sl b.length (b.flatMap eV)) rfl rfl ?_)
 refine AOps.cons rfl rfl (AOp.len (m := b.length) rfl rfl (.inr (.inl ⟨_, rfl⟩)) u_22 ?_)
 refine AOps.cons rfl rfl (AOp.bin (.bool (!decide ((a.length : Int) = (b.length : Int)))) rfl rfl rfl ine ?_)
 refine AOps.nil ?_
 change AWP _ _ _ _ _ _
 refine AWP.condF rfl (nb (decide_eq_true ((by rw [h])))) ?_
 refine AWP.skip ?_
 change AWP _ _ _ _ _ _
 refine AWP.seq ?_
 refine AWP.seq ?_
 refine AWP.region (l := [0]) rfl ?_
 refine AOps.cons rfl rfl (AOp.assign (.int .i64 0) rfl rfl ?_)
 refine AOps.nil ?_
 change AWP _ _ _ _ _ _
 refine AWP.block ?_
 refine AWP.loop (fun q1 fq Hq => ∃ (i : Int), q1 = (((a.length : Int) : Int) - i).toNat ∧ fq 5 = .int .i64 i ∧ fq 0 = .sl a.length (a.flatMap eV) ∧ fq 1 = .sl b.length (b.flatMap eV) ∧ Mono H0 Hq ∧ (0 ≤ i) ∧ (i ≤ (a.length : Int))) (k := (((a.length : Int) : Int) - 0).toNat) ?_ ?_
 ·
  exact ⟨0, rfl, rfl, rfl, rfl, m0, by omega, by omega⟩
 ·
  rintro _ f3 H2 ⟨i, rfl, s4, s5, s6, m7, hi0, hi1⟩
  refine AWP.seq ?_
  refine AWP.seq ?_
  refine AWP.region (l := [0, 1, 2, 3]) rfl ?_
  refine AOps.cons rfl rfl (AOp.move (.int .i64 i) rfl s4 ?_)
  refine AOps.cons rfl rfl (AOp.move (.sl a.length (a.flatMap eV)) rfl s5 ?_)
  refine AOps.cons rfl rfl (AOp.len (m := a.length) rfl rfl (.inr (.inl ⟨_, rfl⟩)) u_22 ?_)
  refine AOps.cons rfl rfl (AOp.bin (.bool (decide (i < (a.length : Int)))) rfl rfl rfl rfl ?_)
  refine AOps.nil ?_
  change AWP _ _ _ _ _ _
  by_cases b8 : i < (a.length : Int)
  ·
   refine AWP.condT rfl (decide_eq_true b8) ?_
   refine AWP.skip ?_
   change AWP _ _ _ _ _ _
   refine AWP.seq ?_
   refine AWP.block ?_
   refine AWP.seq ?_
   have hp := hr _ (at_mem (l := a) hi0 (by omega))
   have hlb : a.length = b.length := by rw [h]
   refine AWP.region_quiet mixed (by kernel_rfl) 9 [] rfl (by kernel_rfl) (Mono H2) (Mono.refl _) ?_
   refine QE.op rfl rfl (.inl ⟨rfl, fun f' H' hf hM => AOp.move (.sl a.length (a.flatMap eV)) rfl ((hf 0 rfl).trans s5) ⟨rfl, hM⟩⟩) ?_
   refine QE.op rfl rfl (.inl ⟨rfl, fun f' H' hf hM => AOp.move (.int .i64 i) rfl ((hf 5 rfl).trans s4) ⟨rfl, hM⟩⟩) ?_
   refine QE.op rfl rfl (.inl ⟨rfl, fun f' H' hf hM => AOp.indexAddrS rfl ((hf 17 rfl).trans rfl) ((hf 18 rfl).trans rfl) sl_22 (by omega) (by omega) ⟨rfl, hM⟩⟩) ?_
   refine QE.op rfl rfl (.inl ⟨rfl, fun f' H' hf hM => AOp.loadF (.agg [.int .i64 ((at_ a i).X), .int .i64 ((at_ a i).Y), .int .i64 ((at_ a i).Z)]) rfl ((hf 19 rfl).trans rfl) ty_42 (ldM eV_len (by omega) (by omega)) ⟨rfl, hM⟩⟩) ?_
   refine QE.op rfl rfl (.inl ⟨rfl, fun f' H' hf hM => AOp.move (.sl b.length (b.flatMap eV)) rfl ((hf 1 rfl).trans s6) ⟨rfl, hM⟩⟩) ?_
   refine QE.op rfl rfl (.inl ⟨rfl, fun f' H' hf hM => AOp.move (.int .i64 i) rfl ((hf 5 rfl).trans s4) ⟨rfl, hM⟩⟩) ?_
   refine QE.op rfl rfl (.inl ⟨rfl, fun f' H' hf hM => AOp.indexAddrS rfl ((hf 21 rfl).trans rfl) ((hf 22 rfl).trans rfl) sl_22 (by omega) (by omega) ⟨rfl, hM⟩⟩) ?_
   refine QE.op rfl rfl (.inl ⟨rfl, fun f' H' hf hM => AOp.loadF (.agg [.int .i64 ((at_ b i).X), .int .i64 ((at_ b i).Y), .int .i64 ((at_ b i).Z)]) rfl ((hf 23 rfl).trans rfl) ty_42 (ldM eV_len (by omega) (by omega)) ⟨rfl, hM⟩⟩) ?_
   refine QE.op rfl rfl (.inl ⟨rfl, fun f' H' hf hM => AOp.neAggD rfl ((hf 20 rfl).trans rfl) ((hf 24 rfl).trans rfl) teq42 (kokV (v := (at_ a i)) (by unfold inV at hp; exact ⟨by unfold inR; omega, by unfold inR; omega, by unfold inR; omega⟩)) (kokV (v := (at_ b i)) (by rw [← h]; unfold inV at hp; exact ⟨by unfold inR; omega, by unfold inR; omega, by unfold inR; omega⟩)) (eV_iff (at_ a i) (at_ b i)) ⟨rfl, hM⟩⟩) ?_
   refine QE.done fun H9 m10 => ?_
   have m11 := m7.trans m10
   refine AOps.nil ?_
   change AWP _ _ _ _ _ _
   refine AWP.condF rfl (nb (decide_eq_true ((by rw [h])))) ?_
   refine AWP.skip ?_
   change AWP _ _ _ _ _ _
   refine AWP.region (l := [0, 1, 2]) rfl ?_
   refine AOps.cons rfl rfl (AOp.move (.int .i64 i) rfl s4 ?_)
   refine AOps.cons rfl rfl (AOp.bin (.int .i64 (i + 1)) rfl rfl rfl (iadd (by omega)) ?_)
   refine AOps.cons rfl rfl (AOp.assign (.int .i64 (i + 1)) rfl rfl ?_)
   refine AOps.nil ?_
   exact ⟨_, by omega, i + 1, rfl, rfl, s5, s6, m11, by omega, by omega⟩
  ·
   refine AWP.condF rfl (decide_eq_false b8) ?_
   refine AWP.exit ?_
   change AWP _ _ _ _ _ _
   refine AWP.seq ?_
   refine AWP.region (l := [0]) rfl ?_
   refine AOps.cons rfl rfl (AOp.assign (.bool true) rfl rfl ?_)
   refine AOps.nil ?_
   change AWP _ _ _ _ _ _
   refine AWP.ret ?_
   refine ⟨_, _, Ghost.refl, .inr rfl, _, Res.one rfl rfl, ?_, m7⟩
   exact rfl
theorem c_SubTurned (vs : List VT) (fs : List (List Int)) (cr : List CrT) (hvl : vs.length ≤ 1048576) (hfl : fs.length ≤ 1048576) (hfs : ∀ l ∈ fs, l.length ≤ 1048576) (hcl : cr.length ≤ 1048576) (hcS : ∀ c ∈ cr, c.S ≤ 9223372036854775807)  : PC Try.prog 6 [.agg [.sl vs.length (vs.flatMap eV), .sl fs.length (fs.map eF), .sl cr.length (cr.flatMap eCr)]] (.bool true) := by
 intro H0
 refine ACalls.of_body' (n := 109) rfl rfl rfl rfl ?_
 have m0 := Mono.refl H0
 refine AWP.seq ?_
 refine AWP.region (l := [0, 1]) rfl ?_
 refine AOps.cons rfl rfl (AOp.box (.agg [.sl vs.length (vs.flatMap eV), .sl fs.length (fs.map eF), .sl cr.length (cr.flatMap eCr)]) rfl rfl rfl ?_)
 intro i1 H2 n3 h4 k5
 have z6 := Mono.free m0 n3
 have m7 := Mono.new m0 n3 k5
 refine AOps.cons rfl rfl (AOp.assign (.bool false) rfl rfl ?_)
 refine AOps.nil ?_
 change AWP _ _ _ _ _ _
 refine AWP.seq ?_
 refine AWP.seq ?_
 refine AWP.frzP 1 h4 z6 rfl m7 fun H8 m9 k10 => ?_
 refine AWP.region (l := [0, 1]) rfl ?_
 refine AOps.cons rfl rfl (AOp.pcall («as» := []) rfl rfl (rfl) tf_13 (c_alive) ?_)
 intro H11 m12
 have m13 := m9.trans m12
 refine AOps.cons rfl rfl (AOp.not rfl rfl ?_)
 refine AOps.nil ?_
 change AWP _ _ _ _ _ _
 refine AWP.condF rfl rfl ?_
 refine AWP.skip ?_
 change AWP _ _ _ _ _ _
 refine AWP.seq ?_
 refine AWP.seq ?_
 refine AWP.region (l := [0, 1]) rfl ?_
 refine AOps.cons rfl rfl (AOp.loadF (.agg [.sl vs.length (vs.flatMap eV), .sl fs.length (fs.map eF), .sl cr.length (cr.flatMap eCr)]) rfl rfl ty_26 rfl ?_)
 refine AOps.cons rfl rfl (AOp.pcall («as» := [.agg [.sl vs.length (vs.flatMap eV), .sl fs.length (fs.map eF), .sl cr.length (cr.flatMap eCr)]]) rfl rfl (rfl) tf_14 (c_Great _ _ _ (by omega) (by omega) (by assumption) (by omega)) ?_)
 intro H14 m15
 have m16 := m13.trans m15
 refine AOps.nil ?_
 change AWP _ _ _ _ _ _
 by_cases b17 : greatP vs fs cr
 ·
  refine AWP.condT rfl (decide_eq_true b17) ?_
  refine AWP.seq ?_
  refine AWP.region (l := [0]) rfl ?_
  refine AOps.cons rfl rfl (AOp.assign (.bool true) rfl rfl ?_)
  refine AOps.nil ?_
  change AWP _ _ _ _ _ _
  refine AWP.ret ?_
  refine ⟨_, _, Ghost.refl, .inr rfl, _, Res.one rfl rfl, ?_, m16⟩
  exact rfl
 ·
  refine AWP.condF rfl (decide_eq_false b17) ?_
  refine AWP.skip ?_
  change AWP _ _ _ _ _ _
  refine AWP.seq ?_
  obtain ⟨s1, s2, s3, s4, s5⟩ := great_small b17
  have sm : SmallC vs fs cr := ⟨s1, s2, s3, s4, s5⟩
  have mC := sm.mid hcS
  have mB := mC.back
  have TF := turnF (vs := vs) (fs := fs) (cr := cr)
  refine AWP.region (l := [0, 1, 2, 3]) rfl ?_
  refine AOps.cons rfl rfl (AOp.loadF (.agg [.sl vs.length (vs.flatMap eV), .sl fs.length (fs.map eF), .sl cr.length (cr.flatMap eCr)]) rfl rfl ty_26 rfl ?_)
  refine AOps.cons rfl rfl (AOp.xcall («as» := [.agg [.sl vs.length (vs.flatMap eV), .sl fs.length (fs.map eF), .sl cr.length (cr.flatMap eCr)]]) rfl rfl (rfl) tf_22 (c_CopyCageG vs fs cr (by omega) (by omega) (by assumption) (by omega)) ?_)
  rintro _ H19 ⟨v18, L20, hL21, o22, oM23, sM24, rfl, m25⟩
  have o26 := Own.base o22 m16
  have o27 := MO.base oM23 m16
  have m28 := m16.trans m25
  refine AOps.cons rfl rfl (AOp.alloc rfl tz_26 ?_)
  intro i29 H30 n31 h32 k33
  have z34 := Mono.free m28 n31
  have o35 := Own.keep o26 k33 (Own.notnew o26 n31)
  have no36 := Own.notnew o26 n31
  have o37 := MO.keep o27 k33 (MO.notnew o27 n31)
  have no38 := MO.notnew o27 n31
  have m39 := Mono.new m28 n31 k33
  refine AOps.cons rfl rfl (AOp.store' (cells' := [.sl vs.length (vs.flatMap eV), v18, .sl cr.length (cr.flatMap eCr)]) (.agg [.sl vs.length (vs.flatMap eV), v18, .sl cr.length (cr.flatMap eCr)]) rfl rfl ts_26 h32 (by simp only [AV.cells, List.all_cons, List.all_nil, Own.one_ o35]; rfl) rfl rfl rfl ?_)
  intro H40 h41 k42
  have o44 := Own.keep o35 k42 no36
  have o45 := MO.keep o37 k42 no38
  have m46 := Mono.set m39 z34 k42
  refine AOps.nil ?_
  change AWP _ _ _ _ _ _
  refine AWP.seq ?_
  refine AWP.seq ?_
  refine AWP.region (l := [0]) rfl ?_
  refine AOps.cons rfl rfl (AOp.assign (.int .i64 0) rfl rfl ?_)
  refine AOps.nil ?_
  change AWP _ _ _ _ _ _
  refine AWP.block ?_
  refine AWP.loop (fun q47 fq Hq => ∃ (i : Int) (L : List ME) (w3_1 : AV), q47 = ((fs.length : Int) - i).toNat ∧ fq 4 = .int .i64 i ∧ fq 1 = .fptr [.sl vs.length (vs.flatMap eV), .sl fs.length (fs.map eF), .sl cr.length (cr.flatMap eCr)] 0 ∧ fq 2 = .bool false ∧ fq 3 = .ptr i29 0 0 ∧ Own H0 Hq 1 w3_1 (gvals L fs.length).length ((gvals L fs.length).map eA) ∧ NotId w3_1 i29 ∧ MO H0 Hq L ∧ NotIdM L i29 ∧ SepM L w3_1 ∧ Hq i29 = some (.row 0 ([.sl vs.length (vs.flatMap eV), w3_1, .sl cr.length (cr.flatMap eCr)])) ∧ Mono H0 Hq ∧ (0 ≤ i) ∧ (i ≤ (fs.length : Int)) ∧ (∀ x : Int, 0 ≤ x → x < fs.length → (getM L x).2 = if x < i then (at_ fs x).reverse else at_ fs x)) (k := ((fs.length : Int) - 0).toNat) ?_ ?_
  ·
   exact ⟨0, L20, v18, rfl, rfl, rfl, rfl, rfl, o44, no36, o45, no38, sM24, h41, m46, by omega, by omega, by exact fun x x0 x1 => by rw [if_neg (by omega)]; exact hL21 x x0 x1⟩
  ·
   rintro _ f49 H48 ⟨i, L, w3_1, rfl, s50, s51, s52, s53, o54, no55, o56, no57, sp58, h59, m60, hi0, hi1, hG⟩
   refine AWP.seq ?_
   refine AWP.seq ?_
   refine AWP.region (l := [0, 1, 2, 3, 4]) rfl ?_
   refine AOps.cons rfl rfl (AOp.move (.int .i64 i) rfl s50 ?_)
   refine AOps.cons rfl rfl (AOp.fieldAddrF rfl s51 fl_26_1 ?_)
   refine AOps.cons rfl rfl (AOp.loadF (.sl fs.length (fs.map eF)) rfl rfl ty_23 rfl ?_)
   refine AOps.cons rfl rfl (AOp.len (m := fs.length) rfl rfl (.inr (.inl ⟨_, rfl⟩)) u_23 ?_)
   refine AOps.cons rfl rfl (AOp.bin (.bool (decide (i < (fs.length : Int)))) rfl rfl rfl rfl ?_)
   refine AOps.nil ?_
   change AWP _ _ _ _ _ _
   by_cases b61 : i < (fs.length : Int)
   ·
    refine AWP.condT rfl (decide_eq_true b61) ?_
    refine AWP.skip ?_
    change AWP _ _ _ _ _ _
    refine AWP.seq ?_
    refine AWP.block ?_
    refine AWP.seq ?_
    refine AWP.region (l := [0, 1, 2, 3, 4, 5, 6]) rfl ?_
    refine AOps.cons rfl rfl (AOp.fieldAddrF rfl s51 fl_26_1 ?_)
    refine AOps.cons rfl rfl (AOp.loadF (.sl fs.length (fs.map eF)) rfl rfl ty_23 rfl ?_)
    refine AOps.cons rfl rfl (AOp.move (.int .i64 i) rfl s50 ?_)
    refine AOps.cons rfl rfl (AOp.indexAddrS rfl rfl rfl sl_23 (by omega) (by omega) ?_)
    refine AOps.cons rfl rfl (AOp.loadF (.sl (at_ fs i).length ((at_ fs i).map eI)) rfl rfl ty_38 (ld1 (by omega) (by omega)) ?_)
    refine AOps.cons rfl rfl (AOp.len (m := (at_ fs i).length) rfl rfl (.inr (.inl ⟨_, rfl⟩)) u_38 ?_)
    refine AOps.cons rfl rfl (AOp.assign (.int .i64 (((at_ fs i).length) : Int)) rfl rfl ?_)
    refine AOps.nil ?_
    change AWP _ _ _ _ _ _
    refine AWP.seq ?_
    have RF0 := revF_0 hG hi0 (by omega)
    have hfl5 := s5 _ (at_mem (l := fs) hi0 (by omega))
    refine AWP.region (l := [0]) rfl ?_
    refine AOps.cons rfl rfl (AOp.assign (.int .i64 0) rfl rfl ?_)
    refine AOps.nil ?_
    change AWP _ _ _ _ _ _
    refine AWP.block ?_
    refine AWP.loop (fun q62 fq Hq => ∃ (k : Int) (M : List ME) (w3_1 : AV), q62 = (((at_ fs i).length : Int) - k).toNat ∧ fq 6 = .int .i64 k ∧ fq 4 = .int .i64 i ∧ fq 1 = .fptr [.sl vs.length (vs.flatMap eV), .sl fs.length (fs.map eF), .sl cr.length (cr.flatMap eCr)] 0 ∧ fq 2 = .bool false ∧ fq 3 = .ptr i29 0 0 ∧ fq 5 = .int .i64 (((at_ fs i).length) : Int) ∧ Own H0 Hq 1 w3_1 (gvals M fs.length).length ((gvals M fs.length).map eA) ∧ NotId w3_1 i29 ∧ MO H0 Hq M ∧ NotIdM M i29 ∧ SepM M w3_1 ∧ Hq i29 = some (.row 0 ([.sl vs.length (vs.flatMap eV), w3_1, .sl cr.length (cr.flatMap eCr)])) ∧ Mono H0 Hq ∧ (0 ≤ k) ∧ (k ≤ ((at_ fs i).length : Int)) ∧ (RevF fs L M i k)) (k := (((at_ fs i).length : Int) - 0).toNat) ?_ ?_
    ·
     exact ⟨0, L, w3_1, rfl, rfl, s50, s51, s52, s53, rfl, o54, no55, o56, no57, sp58, h59, m60, by omega, by omega, by exact RF0⟩
    ·
     rintro _ f64 H63 ⟨k, M, w3_1, rfl, s65, s66, s67, s68, s69, s70, o71, no72, o73, no74, sp75, h76, m77, hk0, hk1, RF⟩
     refine AWP.seq ?_
     refine AWP.seq ?_
     refine AWP.region (l := [0, 1, 2]) rfl ?_
     refine AOps.cons rfl rfl (AOp.move (.int .i64 k) rfl s65 ?_)
     refine AOps.cons rfl rfl (AOp.move (.int .i64 (((at_ fs i).length) : Int)) rfl s70 ?_)
     refine AOps.cons rfl rfl (AOp.bin (.bool (decide (k < (((at_ fs i).length) : Int)))) rfl rfl rfl rfl ?_)
     refine AOps.nil ?_
     change AWP _ _ _ _ _ _
     by_cases b78 : k < (((at_ fs i).length) : Int)
     ·
      refine AWP.condT rfl (decide_eq_true b78) ?_
      refine AWP.skip ?_
      change AWP _ _ _ _ _ _
      refine AWP.seq ?_
      refine AWP.block ?_
      have hml : (getM M i).2.length = (at_ fs i).length := by rw [RF.i]; exact revK_len
      refine AWP.region_quiet mixed (by kernel_rfl) 18 [18] rfl (by kernel_rfl) (Mono H63) (Mono.refl _) ?_
      refine QE.op rfl rfl (.inl ⟨rfl, fun f' H' hf hM => AOp.fieldAddr rfl ((hf 3 rfl).trans s69) fl_26_1 ⟨rfl, hM⟩ (hid := ⟨_, (hM _ _ h76)⟩)⟩) ?_
      refine QE.op rfl rfl (.inl ⟨rfl, fun f' H' hf hM => AOp.load (w3_1) rfl ((hf 36 rfl).trans rfl) ty_23 (hM _ _ h76) rfl ⟨rfl, hM⟩⟩) ?_
      refine QE.op rfl rfl (.inl ⟨rfl, fun f' H' hf hM => AOp.move (.int .i64 i) rfl ((hf 4 rfl).trans s66) ⟨rfl, hM⟩⟩) ?_
      obtain ⟨i79, ver80, e81, h82, _, _⟩ := Own.pos o71 (by first | omega | (rw [gvals_len]; omega))
      refine QE.op rfl rfl (.inl ⟨rfl, fun f' H' hf hM => AOp.indexAddrO rfl (Eq.trans ((hf 37 rfl).trans rfl) e81) ((hf 38 rfl).trans rfl) sl_23 (by first | omega | (rw [gvals_len]; omega)) (by first | omega | (rw [gvals_len]; omega)) (hM _ _ h82) ⟨rfl, hM⟩⟩) ?_
      obtain ⟨w83, hw84⟩ : ∃ w, w = (getM M i).1 := ⟨_, rfl⟩
      obtain ⟨oA85, oB86, oC87⟩ := MO.take o73 i
      rw [← hw84] at oA85 oC87
      have no88 := NotIdM.get no74 i
      rw [← hw84] at no88
      have no89 := NotIdM.rest no74 i
      have sp90 := SepM.get sp75 i
      rw [← hw84] at sp90
      have sp91 := SepM.rest sp75 i
      refine QE.op rfl rfl (.inl ⟨rfl, fun f' H' hf hM => AOp.load (w83) rfl ((hf 39 rfl).trans rfl) ty_38 (hM _ _ h82) (by rw [hw84]; exact gld (by omega) (by omega)) ⟨rfl, hM⟩⟩) ?_
      refine QE.op rfl rfl (.inl ⟨rfl, fun f' H' hf hM => AOp.move (.int .i64 k) rfl ((hf 6 rfl).trans s65) ⟨rfl, hM⟩⟩) ?_
      refine QE.op rfl rfl (.inl ⟨rfl, fun f' H' hf hM => AOp.fieldAddrF rfl ((hf 1 rfl).trans s67) fl_26_1 ⟨rfl, hM⟩⟩) ?_
      refine QE.op rfl rfl (.inl ⟨rfl, fun f' H' hf hM => AOp.loadF (.sl fs.length (fs.map eF)) rfl ((hf 42 rfl).trans rfl) ty_23 rfl ⟨rfl, hM⟩⟩) ?_
      refine QE.op rfl rfl (.inl ⟨rfl, fun f' H' hf hM => AOp.move (.int .i64 i) rfl ((hf 4 rfl).trans s66) ⟨rfl, hM⟩⟩) ?_
      refine QE.op rfl rfl (.inl ⟨rfl, fun f' H' hf hM => AOp.indexAddrS rfl ((hf 43 rfl).trans rfl) ((hf 44 rfl).trans rfl) sl_23 (by omega) (by omega) ⟨rfl, hM⟩⟩) ?_
      refine QE.op rfl rfl (.inl ⟨rfl, fun f' H' hf hM => AOp.loadF (.sl (at_ fs i).length ((at_ fs i).map eI)) rfl ((hf 45 rfl).trans rfl) ty_38 (ld1 (by omega) (by omega)) ⟨rfl, hM⟩⟩) ?_
      refine QE.op rfl rfl (.inl ⟨rfl, fun f' H' hf hM => AOp.move (.int .i64 (((at_ fs i).length) : Int)) rfl ((hf 5 rfl).trans s70) ⟨rfl, hM⟩⟩) ?_
      refine QE.op rfl rfl (.inl ⟨rfl, fun f' H' hf hM => AOp.bin (.int .i64 ((((at_ fs i).length) : Int) - 1)) rfl ((hf 47 rfl).trans rfl) rfl (isub (by omega)) ⟨rfl, hM⟩⟩) ?_
      refine QE.op rfl rfl (.inl ⟨rfl, fun f' H' hf hM => AOp.move (.int .i64 k) rfl ((hf 6 rfl).trans s65) ⟨rfl, hM⟩⟩) ?_
      refine QE.op rfl rfl (.inl ⟨rfl, fun f' H' hf hM => AOp.bin (.int .i64 ((((at_ fs i).length) : Int) - 1 - k)) rfl ((hf 48 rfl).trans rfl) ((hf 49 rfl).trans rfl) (isub (by omega)) ⟨rfl, hM⟩⟩) ?_
      refine QE.op rfl rfl (.inl ⟨rfl, fun f' H' hf hM => AOp.indexAddrS rfl ((hf 46 rfl).trans rfl) ((hf 50 rfl).trans rfl) sl_38 (by omega) (by omega) ⟨rfl, hM⟩⟩) ?_
      refine QE.op rfl rfl (.inl ⟨rfl, fun f' H' hf hM => AOp.loadF (.int .i64 (at_ (at_ fs i) ((((at_ fs i).length) : Int) - 1 - k))) rfl ((hf 51 rfl).trans rfl) ty_3 (ld1 (by omega) (by omega)) ⟨rfl, hM⟩⟩) ?_
      obtain ⟨i92, ver93, e94, h95, _, _⟩ := Own.pos oA85 (by omega)
      refine QE.op rfl rfl (.inl ⟨rfl, fun f' H' hf hM => AOp.indexAddrO rfl (Eq.trans ((hf 40 rfl).trans rfl) e94) ((hf 41 rfl).trans rfl) sl_38 (by omega) (by omega) (hM _ _ h95) ⟨rfl, hM⟩⟩) ?_
      refine QE.done fun H96 m97 => ?_
      have h98 := m97 _ _ h76
      have o99 := Own.mono o71 m97
      have o100 := MO.mono oB86 m97
      have o101 := Own.mono oA85 m97
      have m102 := m77.trans m97
      refine AOps.cons rfl rfl (AOp.store' (cells' := (((getM M i).2).set k.toNat (at_ (at_ fs i) ((((at_ fs i).length) : Int) - 1 - k))).map eI) (.int .i64 (at_ (at_ fs i) ((((at_ fs i).length) : Int) - 1 - k))) rfl rfl ts_3 (Own.at_ e94 o101).1 rfl rfl (blelen (by rw [List.length_map]) (by omega)) (wr_set1 (by omega) (by omega)) ?_)
      intro H103 h104 k105
      have h106 := (k105 _ (NotId.ne no88 e94)).trans h98
      have o107 := Own.store e94 o101 h104 (len' := ((((getM M i).2).set k.toNat (at_ (at_ fs i) ((((at_ fs i).length) : Int) - 1 - k)))).length) (by rw [List.length_set]) (by rw [List.length_map, Nat.mul_one, List.length_set])
      have m108 := Mono.set m102 (Own.at_ e94 o101).2.1 k105
      have o109 := Own.stay o99 (Sep.symm sp90) (fun i hi _ => k105 i (NotId.ne hi e94))
      have o110 := MO.stay o100 oC87 (fun i hi _ => k105 i (NotId.ne hi e94))
      refine AOps.nil ?_
      change AWP _ _ _ _ _ _
      have o111 := o110
      have sp112 := oC87
      have o113 := MO.put (L := M) o111 o107 sp112
      have no114 := NotIdM.put (xs := ((((getM M i).2).set k.toNat (at_ (at_ fs i) ((((at_ fs i).length) : Int) - 1 - k))))) no89 no88
      have sp115 := SepM.put_ (xs := ((((getM M i).2).set k.toNat (at_ (at_ fs i) ((((at_ fs i).length) : Int) - 1 - k))))) sp91 sp90
      have hg116 := gvals_same (n := fs.length) (xs := ((((getM M i).2).set k.toNat (at_ (at_ fs i) ((((at_ fs i).length) : Int) - 1 - k))))) hw84
      have o117 := Own.re o109 (congrArg List.length hg116) (congrArg (fun l : List AV => l.map eA) hg116)
      skip
      refine AWP.region (l := [0, 1, 2]) rfl ?_
      refine AOps.cons rfl rfl (AOp.move (.int .i64 k) rfl s65 ?_)
      refine AOps.cons rfl rfl (AOp.bin (.int .i64 (k + 1)) rfl rfl rfl (iadd (by omega)) ?_)
      refine AOps.cons rfl rfl (AOp.assign (.int .i64 (k + 1)) rfl rfl ?_)
      refine AOps.nil ?_
      exact ⟨_, by omega, k + 1, (putM M i w83 ((((getM M i).2).set k.toNat (at_ (at_ fs i) ((((at_ fs i).length) : Int) - 1 - k))))), w3_1, rfl, rfl, s66, s67, s68, s69, s70, o117, no72, o113, no114, sp115, h106, m108, by omega, by omega, by exact RF.next hk0 (by omega) rfl⟩
     ·
      refine AWP.condF rfl (decide_eq_false b78) ?_
      refine AWP.exit ?_
      change AWP _ _ _ _ _ _
      refine AWP.region (l := [0, 1, 2]) rfl ?_
      refine AOps.cons rfl rfl (AOp.move (.int .i64 i) rfl s66 ?_)
      refine AOps.cons rfl rfl (AOp.bin (.int .i64 (i + 1)) rfl rfl rfl (iadd (by omega)) ?_)
      refine AOps.cons rfl rfl (AOp.assign (.int .i64 (i + 1)) rfl rfl ?_)
      refine AOps.nil ?_
      exact ⟨_, by omega, i + 1, M, w3_1, rfl, rfl, s67, s68, s69, o71, no72, o73, no74, sp75, h76, m77, by omega, by omega, by exact RF.done hG (by omega)⟩
   ·
    refine AWP.condF rfl (decide_eq_false b61) ?_
    refine AWP.exit ?_
    change AWP _ _ _ _ _ _
    refine AWP.seq ?_
    refine AWP.region (l := [0, 1, 2, 3, 4, 5, 6, 7]) rfl ?_
    refine AOps.cons rfl rfl (AOp.loadF (.agg [.sl vs.length (vs.flatMap eV), .sl fs.length (fs.map eF), .sl cr.length (cr.flatMap eCr)]) rfl s51 ty_26 rfl ?_)
    refine AOps.cons rfl rfl (AOp.pcall («as» := [.agg [.sl vs.length (vs.flatMap eV), .sl fs.length (fs.map eF), .sl cr.length (cr.flatMap eCr)]]) rfl rfl (rfl) tf_15 (c_Level _ _ _ mC.v mC.f mC.fs mC.s mC.cl mC.c) ?_)
    intro H118 m119
    have h120 := m119 _ _ h59
    have o121 := Own.mono o54 m119
    have o122 := MO.mono o56 m119
    have m123 := m60.trans m119
    refine AOps.cons rfl rfl (AOp.move (.tup [.agg [.sl ((levelR vs fs cr).1.Verts).length (((levelR vs fs cr).1.Verts).flatMap eV), .sl ((levelR vs fs cr).1.Faces).length (((levelR vs fs cr).1.Faces).map eF), .sl ((levelR vs fs cr).1.Creases).length (((levelR vs fs cr).1.Creases).flatMap eCr)], .int .i64 ((levelR vs fs cr).2)]) rfl rfl ?_)
    refine AOps.cons rfl rfl (AOp.extract (.agg [.sl ((levelR vs fs cr).1.Verts).length (((levelR vs fs cr).1.Verts).flatMap eV), .sl ((levelR vs fs cr).1.Faces).length (((levelR vs fs cr).1.Faces).map eF), .sl ((levelR vs fs cr).1.Creases).length (((levelR vs fs cr).1.Creases).flatMap eCr)]) rfl rfl rfl ?_)
    refine AOps.cons rfl rfl (AOp.extract (.int .i64 ((levelR vs fs cr).2)) rfl rfl rfl ?_)
    refine AOps.cons rfl rfl (AOp.alloc rfl tz_26 ?_)
    intro i124 H125 n126 h127 k128
    have e129 := ne_new h120 n126
    have z130 := Mono.free m123 n126
    have h131 := keep k128 (ne_new h120 n126) h120
    have o132 := Own.keep o121 k128 (Own.notnew o121 n126)
    have no133 := Own.notnew o121 n126
    have o134 := MO.keep o122 k128 (MO.notnew o122 n126)
    have no135 := MO.notnew o122 n126
    have m136 := Mono.new m123 n126 k128
    refine AOps.cons rfl rfl (AOp.store' (cells' := [.sl ((levelR vs fs cr).1.Verts).length (((levelR vs fs cr).1.Verts).flatMap eV), .sl ((levelR vs fs cr).1.Faces).length (((levelR vs fs cr).1.Faces).map eF), .sl ((levelR vs fs cr).1.Creases).length (((levelR vs fs cr).1.Creases).flatMap eCr)]) (.agg [.sl ((levelR vs fs cr).1.Verts).length (((levelR vs fs cr).1.Verts).flatMap eV), .sl ((levelR vs fs cr).1.Faces).length (((levelR vs fs cr).1.Faces).map eF), .sl ((levelR vs fs cr).1.Creases).length (((levelR vs fs cr).1.Creases).flatMap eCr)]) rfl rfl ts_26 h127 rfl rfl rfl rfl ?_)
    intro H137 h138 k139
    have h140 := keep k139 e129 h131
    have o142 := Own.keep o132 k139 no133
    have o143 := MO.keep o134 k139 no135
    have m144 := Mono.set m136 z130 k139
    refine AOps.cons rfl rfl (AOp.assign (.int .i64 ((levelR vs fs cr).2)) rfl rfl ?_)
    refine AOps.nil ?_
    change AWP _ _ _ _ _ _
    refine AWP.seq ?_
    refine AWP.frzP 7 h138 z130 rfl m144 fun H145 m146 k147 => ?_
    have h148 := (k147 _ e129).trans h140
    have o149 := Own.keep o142 k147 no133
    have o150 := MO.keep o143 k147 no135
    refine AWP.frzGroup (L := L) (N := fs.length) o150 (Own.re o149 (gvals_len _ _) rfl) sp58 m146 fun H151 o152 m153 k154 => ?_
    have h155 := (k154 _ no55 no57).trans h148
    have hgf := gF_back hG (show i = (fs.length : Int) by omega)
    have o156 := Own.re (k := (backS fs).length) (cs := (backS fs).map eF) o152 (back_len _).symm (by rw [hgf])
    refine AWP.frzCell 1 o156 h155 z34 rfl no55 m153 fun H157 h158 m159 k160 => ?_
    have h161 : H157 i29 = some (.row 0 ([.sl vs.length (vs.flatMap eV), .sl (backS fs).length ((backS fs).map eF), .sl cr.length (cr.flatMap eCr)])) := h158
    skip
    refine AWP.region (l := [0, 1, 2, 3, 4, 5, 6, 7]) rfl ?_
    refine AOps.cons rfl rfl (AOp.load (.agg [.sl vs.length (vs.flatMap eV), .sl (backS fs).length ((backS fs).map eF), .sl cr.length (cr.flatMap eCr)]) rfl s53 ty_26 h161 rfl ?_)
    refine AOps.cons rfl rfl (AOp.pcall («as» := [.agg [.sl vs.length (vs.flatMap eV), .sl (backS fs).length ((backS fs).map eF), .sl cr.length (cr.flatMap eCr)]]) rfl rfl (rfl) tf_15 (c_Level _ _ _ mB.v mB.f mB.fs mB.s mB.cl mB.c) ?_)
    intro H162 m163
    have h164 := m163 _ _ h161
    have m165 := m159.trans m163
    refine AOps.cons rfl rfl (AOp.move (.tup [.agg [.sl ((levelR vs (backS fs) cr).1.Verts).length (((levelR vs (backS fs) cr).1.Verts).flatMap eV), .sl ((levelR vs (backS fs) cr).1.Faces).length (((levelR vs (backS fs) cr).1.Faces).map eF), .sl ((levelR vs (backS fs) cr).1.Creases).length (((levelR vs (backS fs) cr).1.Creases).flatMap eCr)], .int .i64 ((levelR vs (backS fs) cr).2)]) rfl rfl ?_)
    refine AOps.cons rfl rfl (AOp.extract (.agg [.sl ((levelR vs (backS fs) cr).1.Verts).length (((levelR vs (backS fs) cr).1.Verts).flatMap eV), .sl ((levelR vs (backS fs) cr).1.Faces).length (((levelR vs (backS fs) cr).1.Faces).map eF), .sl ((levelR vs (backS fs) cr).1.Creases).length (((levelR vs (backS fs) cr).1.Creases).flatMap eCr)]) rfl rfl rfl ?_)
    refine AOps.cons rfl rfl (AOp.extract (.int .i64 ((levelR vs (backS fs) cr).2)) rfl rfl rfl ?_)
    refine AOps.cons rfl rfl (AOp.alloc rfl tz_26 ?_)
    intro i166 H167 n168 h169 k170
    have e171 := ne_new h164 n168
    have z172 := Mono.free m165 n168
    have h173 := keep k170 (ne_new h164 n168) h164
    have m174 := Mono.new m165 n168 k170
    refine AOps.cons rfl rfl (AOp.store' (cells' := [.sl ((levelR vs (backS fs) cr).1.Verts).length (((levelR vs (backS fs) cr).1.Verts).flatMap eV), .sl ((levelR vs (backS fs) cr).1.Faces).length (((levelR vs (backS fs) cr).1.Faces).map eF), .sl ((levelR vs (backS fs) cr).1.Creases).length (((levelR vs (backS fs) cr).1.Creases).flatMap eCr)]) (.agg [.sl ((levelR vs (backS fs) cr).1.Verts).length (((levelR vs (backS fs) cr).1.Verts).flatMap eV), .sl ((levelR vs (backS fs) cr).1.Faces).length (((levelR vs (backS fs) cr).1.Faces).map eF), .sl ((levelR vs (backS fs) cr).1.Creases).length (((levelR vs (backS fs) cr).1.Creases).flatMap eCr)]) rfl rfl ts_26 h169 rfl rfl rfl rfl ?_)
    intro H175 h176 k177
    have h178 := keep k177 e171 h173
    have m180 := Mono.set m174 z172 k177
    refine AOps.cons rfl rfl (AOp.assign (.int .i64 ((levelR vs (backS fs) cr).2)) rfl rfl ?_)
    refine AOps.nil ?_
    change AWP _ _ _ _ _ _
    refine AWP.seq ?_
    refine AWP.seq ?_
    refine AWP.frzP 3 h178 z34 s53 m180 fun H181 m182 k183 => ?_
    have h184 := (k183 _ (Ne.symm e171)).trans h176
    refine AWP.frzP 9 h184 z172 rfl m182 fun H185 m186 k187 => ?_
    have hlv := level_vle (cr := cr) (by omega : vs.length ≤ 1000) (by omega : fs.length ≤ 1000) (by omega : (sides fs).length ≤ 50000)
    have hcr := lev_crs mC
    have hfle := lev_fle mC
    have hce : (levelR vs fs cr).1.Creases.length = (levelR vs (backS fs) cr).1.Creases.length := by rw [TF.c]
    have hfe := TF.f
    refine AWP.region (l := [0, 1, 2, 3, 4, 5, 6, 7, 8, 9, 10, 11, 12, 13, 14, 15, 16, 17, 18, 19]) rfl ?_
    refine AOps.cons rfl rfl (AOp.move (.int .i64 ((levelR vs fs cr).2)) rfl rfl ?_)
    refine AOps.cons rfl rfl (AOp.move (.int .i64 ((levelR vs (backS fs) cr).2)) rfl rfl ?_)
    refine AOps.cons rfl rfl (AOp.bin (.bool (!decide ((levelR vs fs cr).2 = (levelR vs (backS fs) cr).2))) rfl rfl rfl ine ?_)
    refine AOps.cons rfl rfl (AOp.move (.bool (!decide ((levelR vs fs cr).2 = (levelR vs (backS fs) cr).2))) rfl rfl ?_)
    refine AOps.yes rfl rfl rfl rfl rfl rfl rfl (nb (decide_eq_true (TF.e))) (AOp.fieldAddrF rfl rfl fl_26_0 ?_)
    refine AOps.yes rfl rfl rfl rfl rfl rfl rfl (nb (decide_eq_true (TF.e))) (AOp.loadF (.sl ((levelR vs fs cr).1.Verts).length (((levelR vs fs cr).1.Verts).flatMap eV)) rfl rfl ty_22 rfl ?_)
    refine AOps.yes rfl rfl rfl rfl rfl rfl rfl (nb (decide_eq_true (TF.e))) (AOp.fieldAddrF rfl rfl fl_26_0 ?_)
    refine AOps.yes rfl rfl rfl rfl rfl rfl rfl (nb (decide_eq_true (TF.e))) (AOp.loadF (.sl ((levelR vs (backS fs) cr).1.Verts).length (((levelR vs (backS fs) cr).1.Verts).flatMap eV)) rfl rfl ty_22 rfl ?_)
    refine AOps.yes rfl rfl rfl rfl rfl rfl rfl (nb (decide_eq_true (TF.e))) (AOp.pcall («as» := [.sl ((levelR vs fs cr).1.Verts).length (((levelR vs fs cr).1.Verts).flatMap eV), .sl ((levelR vs (backS fs) cr).1.Verts).length (((levelR vs (backS fs) cr).1.Verts).flatMap eV)]) rfl rfl (rfl) tf_23 (c_SameVs _ _ TF.v (by omega) (lev_all mC)) ?_)
    intro H188 m189
    have m190 := m186.trans m189
    refine AOps.yes rfl rfl rfl rfl rfl rfl rfl (nb (decide_eq_true (TF.e))) (AOp.not rfl rfl ?_)
    refine AOps.cons rfl rfl (AOp.pickF (.bool (!true)) rfl rfl (nb (decide_eq_true (TF.e))) rfl ?_)
    refine AOps.cons rfl rfl (AOp.move (.bool (!true)) rfl rfl ?_)
    refine AOps.yes rfl rfl rfl rfl rfl rfl rfl rfl (AOp.fieldAddrF rfl rfl fl_26_2 ?_)
    refine AOps.yes rfl rfl rfl rfl rfl rfl rfl rfl (AOp.loadF (.sl ((levelR vs fs cr).1.Creases).length (((levelR vs fs cr).1.Creases).flatMap eCr)) rfl rfl ty_24 rfl ?_)
    refine AOps.yes rfl rfl rfl rfl rfl rfl rfl rfl (AOp.len (m := ((levelR vs fs cr).1.Creases).length) rfl rfl (.inr (.inl ⟨_, rfl⟩)) u_24 ?_)
    refine AOps.yes rfl rfl rfl rfl rfl rfl rfl rfl (AOp.fieldAddrF rfl rfl fl_26_2 ?_)
    refine AOps.yes rfl rfl rfl rfl rfl rfl rfl rfl (AOp.loadF (.sl ((levelR vs (backS fs) cr).1.Creases).length (((levelR vs (backS fs) cr).1.Creases).flatMap eCr)) rfl rfl ty_24 rfl ?_)
    refine AOps.yes rfl rfl rfl rfl rfl rfl rfl rfl (AOp.len (m := ((levelR vs (backS fs) cr).1.Creases).length) rfl rfl (.inr (.inl ⟨_, rfl⟩)) u_24 ?_)
    refine AOps.yes rfl rfl rfl rfl rfl rfl rfl rfl (AOp.bin (.bool (!decide (((((levelR vs fs cr).1.Creases).length) : Int) = ((((levelR vs (backS fs) cr).1.Creases).length) : Int)))) rfl rfl rfl ine ?_)
    refine AOps.cons rfl rfl (AOp.pickF (.bool (!decide (((((levelR vs fs cr).1.Creases).length) : Int) = ((((levelR vs (backS fs) cr).1.Creases).length) : Int)))) rfl rfl rfl rfl ?_)
    refine AOps.nil ?_
    change AWP _ _ _ _ _ _
    refine AWP.condF rfl (nb (decide_eq_true ((by omega)))) ?_
    refine AWP.skip ?_
    change AWP _ _ _ _ _ _
    refine AWP.seq ?_
    refine AWP.seq ?_
    refine AWP.region (l := [0]) rfl ?_
    refine AOps.cons rfl rfl (AOp.assign (.int .i64 0) rfl rfl ?_)
    refine AOps.nil ?_
    change AWP _ _ _ _ _ _
    refine AWP.block ?_
    refine AWP.loop (fun q191 fq Hq => ∃ (j : Int), q191 = ((((levelR vs fs cr).1.Creases.length : Int) : Int) - j).toNat ∧ fq 11 = .int .i64 j ∧ fq 7 = .fptr [.sl ((levelR vs fs cr).1.Verts).length (((levelR vs fs cr).1.Verts).flatMap eV), .sl ((levelR vs fs cr).1.Faces).length (((levelR vs fs cr).1.Faces).map eF), .sl ((levelR vs fs cr).1.Creases).length (((levelR vs fs cr).1.Creases).flatMap eCr)] 0 ∧ fq 9 = .fptr [.sl ((levelR vs (backS fs) cr).1.Verts).length (((levelR vs (backS fs) cr).1.Verts).flatMap eV), .sl ((levelR vs (backS fs) cr).1.Faces).length (((levelR vs (backS fs) cr).1.Faces).map eF), .sl ((levelR vs (backS fs) cr).1.Creases).length (((levelR vs (backS fs) cr).1.Creases).flatMap eCr)] 0 ∧ Mono H0 Hq ∧ (0 ≤ j) ∧ (j ≤ ((levelR vs fs cr).1.Creases.length : Int))) (k := ((((levelR vs fs cr).1.Creases.length : Int) : Int) - 0).toNat) ?_ ?_
    ·
     exact ⟨0, rfl, rfl, rfl, rfl, m190, by omega, by omega⟩
    ·
     rintro _ f193 H192 ⟨j, rfl, s194, s195, s196, m197, hj0, hj1⟩
     refine AWP.seq ?_
     refine AWP.seq ?_
     refine AWP.region (l := [0, 1, 2, 3, 4]) rfl ?_
     refine AOps.cons rfl rfl (AOp.move (.int .i64 j) rfl s194 ?_)
     refine AOps.cons rfl rfl (AOp.fieldAddrF rfl s195 fl_26_2 ?_)
     refine AOps.cons rfl rfl (AOp.loadF (.sl ((levelR vs fs cr).1.Creases).length (((levelR vs fs cr).1.Creases).flatMap eCr)) rfl rfl ty_24 rfl ?_)
     refine AOps.cons rfl rfl (AOp.len (m := ((levelR vs fs cr).1.Creases).length) rfl rfl (.inr (.inl ⟨_, rfl⟩)) u_24 ?_)
     refine AOps.cons rfl rfl (AOp.bin (.bool (decide (j < ((((levelR vs fs cr).1.Creases).length) : Int)))) rfl rfl rfl rfl ?_)
     refine AOps.nil ?_
     change AWP _ _ _ _ _ _
     by_cases b198 : j < ((((levelR vs fs cr).1.Creases).length) : Int)
     ·
      refine AWP.condT rfl (decide_eq_true b198) ?_
      refine AWP.skip ?_
      change AWP _ _ _ _ _ _
      refine AWP.seq ?_
      refine AWP.block ?_
      refine AWP.seq ?_
      refine AWP.region_quiet mixed (by kernel_rfl) 11 [] rfl (by kernel_rfl) (Mono H192) (Mono.refl _) ?_
      refine QE.op rfl rfl (.inl ⟨rfl, fun f' H' hf hM => AOp.fieldAddrF rfl ((hf 7 rfl).trans s195) fl_26_2 ⟨rfl, hM⟩⟩) ?_
      refine QE.op rfl rfl (.inl ⟨rfl, fun f' H' hf hM => AOp.loadF (.sl ((levelR vs fs cr).1.Creases).length (((levelR vs fs cr).1.Creases).flatMap eCr)) rfl ((hf 91 rfl).trans rfl) ty_24 rfl ⟨rfl, hM⟩⟩) ?_
      refine QE.op rfl rfl (.inl ⟨rfl, fun f' H' hf hM => AOp.move (.int .i64 j) rfl ((hf 11 rfl).trans s194) ⟨rfl, hM⟩⟩) ?_
      refine QE.op rfl rfl (.inl ⟨rfl, fun f' H' hf hM => AOp.indexAddrS rfl ((hf 92 rfl).trans rfl) ((hf 93 rfl).trans rfl) sl_24 (by omega) (by omega) ⟨rfl, hM⟩⟩) ?_
      refine QE.op rfl rfl (.inl ⟨rfl, fun f' H' hf hM => AOp.loadF (.agg [.int .i64 ((at_ ((levelR vs fs cr).1.Creases) j).A), .int .i64 ((at_ ((levelR vs fs cr).1.Creases) j).B), .int .i64 ((at_ ((levelR vs fs cr).1.Creases) j).S)]) rfl ((hf 94 rfl).trans rfl) ty_53 (ldM eCr_len (by omega) (by omega)) ⟨rfl, hM⟩⟩) ?_
      refine QE.op rfl rfl (.inl ⟨rfl, fun f' H' hf hM => AOp.fieldAddrF rfl ((hf 9 rfl).trans s196) fl_26_2 ⟨rfl, hM⟩⟩) ?_
      refine QE.op rfl rfl (.inl ⟨rfl, fun f' H' hf hM => AOp.loadF (.sl ((levelR vs (backS fs) cr).1.Creases).length (((levelR vs (backS fs) cr).1.Creases).flatMap eCr)) rfl ((hf 96 rfl).trans rfl) ty_24 rfl ⟨rfl, hM⟩⟩) ?_
      refine QE.op rfl rfl (.inl ⟨rfl, fun f' H' hf hM => AOp.move (.int .i64 j) rfl ((hf 11 rfl).trans s194) ⟨rfl, hM⟩⟩) ?_
      refine QE.op rfl rfl (.inl ⟨rfl, fun f' H' hf hM => AOp.indexAddrS rfl ((hf 97 rfl).trans rfl) ((hf 98 rfl).trans rfl) sl_24 (by omega) (by omega) ⟨rfl, hM⟩⟩) ?_
      refine QE.op rfl rfl (.inl ⟨rfl, fun f' H' hf hM => AOp.loadF (.agg [.int .i64 ((at_ ((levelR vs (backS fs) cr).1.Creases) j).A), .int .i64 ((at_ ((levelR vs (backS fs) cr).1.Creases) j).B), .int .i64 ((at_ ((levelR vs (backS fs) cr).1.Creases) j).S)]) rfl ((hf 99 rfl).trans rfl) ty_53 (ldM eCr_len (by omega) (by omega)) ⟨rfl, hM⟩⟩) ?_
      refine QE.op rfl rfl (.inl ⟨rfl, fun f' H' hf hM => AOp.neAggD rfl ((hf 95 rfl).trans rfl) ((hf 100 rfl).trans rfl) teq53 (kokC (v := (at_ ((levelR vs fs cr).1.Creases) j)) (hcr.2 _ (at_mem hj0 (by omega)))) (kokC (v := (at_ ((levelR vs (backS fs) cr).1.Creases) j)) (by rw [← TF.c]; exact hcr.2 _ (at_mem hj0 (by omega)))) (eCr_iff (at_ ((levelR vs fs cr).1.Creases) j) (at_ ((levelR vs (backS fs) cr).1.Creases) j)) ⟨rfl, hM⟩⟩) ?_
      refine QE.done fun H199 m200 => ?_
      have m201 := m197.trans m200
      refine AOps.nil ?_
      change AWP _ _ _ _ _ _
      refine AWP.condF rfl (nb (decide_eq_true ((by rw [TF.c])))) ?_
      refine AWP.skip ?_
      change AWP _ _ _ _ _ _
      refine AWP.region (l := [0, 1, 2]) rfl ?_
      refine AOps.cons rfl rfl (AOp.move (.int .i64 j) rfl s194 ?_)
      refine AOps.cons rfl rfl (AOp.bin (.int .i64 (j + 1)) rfl rfl rfl (iadd (by omega)) ?_)
      refine AOps.cons rfl rfl (AOp.assign (.int .i64 (j + 1)) rfl rfl ?_)
      refine AOps.nil ?_
      exact ⟨_, by omega, j + 1, rfl, rfl, s195, s196, m201, by omega, by omega⟩
     ·
      refine AWP.condF rfl (decide_eq_false b198) ?_
      refine AWP.exit ?_
      change AWP _ _ _ _ _ _
      refine AWP.seq ?_
      refine AWP.region (l := [0, 1, 2, 3, 4, 5, 6, 7]) rfl ?_
      refine AOps.cons rfl rfl (AOp.fieldAddrF rfl s195 fl_26_1 ?_)
      refine AOps.cons rfl rfl (AOp.loadF (.sl ((levelR vs fs cr).1.Faces).length (((levelR vs fs cr).1.Faces).map eF)) rfl rfl ty_23 rfl ?_)
      refine AOps.cons rfl rfl (AOp.len (m := ((levelR vs fs cr).1.Faces).length) rfl rfl (.inr (.inl ⟨_, rfl⟩)) u_23 ?_)
      refine AOps.cons rfl rfl (AOp.fieldAddrF rfl s196 fl_26_1 ?_)
      refine AOps.cons rfl rfl (AOp.loadF (.sl ((levelR vs (backS fs) cr).1.Faces).length (((levelR vs (backS fs) cr).1.Faces).map eF)) rfl rfl ty_23 rfl ?_)
      refine AOps.cons rfl rfl (AOp.len (m := ((levelR vs (backS fs) cr).1.Faces).length) rfl rfl (.inr (.inl ⟨_, rfl⟩)) u_23 ?_)
      refine AOps.cons rfl rfl (AOp.bin (.bool (decide (((((levelR vs fs cr).1.Faces).length) : Int) = ((((levelR vs (backS fs) cr).1.Faces).length) : Int)))) rfl rfl rfl ieq ?_)
      refine AOps.cons rfl rfl (AOp.assign (.bool (decide (((((levelR vs fs cr).1.Faces).length) : Int) = ((((levelR vs (backS fs) cr).1.Faces).length) : Int)))) rfl rfl ?_)
      refine AOps.nil ?_
      change AWP _ _ _ _ _ _
      refine AWP.ret ?_
      refine ⟨_, _, Ghost.refl, .inr rfl, _, Res.one rfl rfl, ?_, m197⟩
      exact (congrArg AV.bool (show (decide (((((levelR vs fs cr).1.Faces).length) : Int) = ((((levelR vs (backS fs) cr).1.Faces).length) : Int)) : Bool) = true from by first | rfl | exact decide_eq_true (by omega)))
end Go.Proofs.U
