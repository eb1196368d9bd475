/- A part of the proof that a law answers true for every input of its row: own work, by an AI agent. -/
import Derived.Test.YtfeafldgohceaaaB02
import Derived.Test.YtfeafldgohceaaaB01
import Derived.KernelRfl
set_option linter.unusedSimpArgs false
set_option linter.unusedVariables false
set_option linter.defProp false
namespace Go.Proofs.U
open Go Go.AH Go.Proofs.T
set_option maxRecDepth 4000
set_option linter.unusedSimpArgs false
set_option linter.unusedVariables false
theorem c_other {H0 : Heap} {fid : Nat} (vs : List VT) (fs : List (List Int)) (cr : List CrT) (t : Tp) (sh : List Int) {x7 x8 : AV} (i v : Int) (hi : 0 ≤ i ∧ i < t.ed.length) (hA : 0 ≤ (at_ t.ed i).A ∧ (at_ t.ed i).A < vs.length) (hB : 0 ≤ (at_ t.ed i).B ∧ (at_ t.ed i).B < vs.length) (hw : v = (at_ t.ed i).A ∨ v = (at_ t.ed i).B) (hvl : vs.length ≤ 1048576) (hr : H0 fid = some (.row 0 [.sl vs.length (vs.flatMap eV), .sl fs.length (fs.map eF), .sl cr.length (cr.flatMap eCr), .sl t.ed.length (t.ed.flatMap eE), .sl t.fan.length (t.fan.map eF), .sl t.rnd.length (t.rnd.map eBo), .sl sh.length (sh.map eI), x7, x8])) : ACalls Try.prog 56 [.ptr fid 0 0, .int .i64 i, .int .i64 v] H0 fun r H' => r = (.agg [.int .i64 ((othV vs (at_ t.ed i) v).X), .int .i64 ((othV vs (at_ t.ed i) v).Y), .int .i64 ((othV vs (at_ t.ed i) v).Z)]) ∧ Mono H0 H' := by
 refine ACalls.of_body' (n := 30) rfl rfl rfl rfl ?_
 have m0 := Mono.refl H0
 refine AWP.seq ?_
 refine AWP.region (l := [0]) rfl ?_
 refine AOps.cons rfl rfl (AOp.alloc rfl tz_42 ?_)
 intro i1 H2 n3 h4 k5
 have e6 := ne_new hr n3
 have z7 := Mono.free m0 n3
 have h8 := keep k5 (ne_new hr n3) hr
 have m9 := Mono.new m0 n3 k5
 refine AOps.nil ?_
 change AWP _ _ _ _ _ _
 refine AWP.seq ?_
 refine AWP.region (l := [0, 1, 2, 3, 4, 5, 6, 7, 8, 9]) rfl ?_
 refine AOps.cons rfl rfl (AOp.move (.ptr fid 0 0) rfl rfl ?_)
 refine AOps.cons rfl rfl (AOp.nilCheck (.ptr fid 0 0) rfl rfl rfl ?_)
 refine AOps.cons rfl rfl (AOp.fieldAddr rfl rfl fl_79_1 ?_ (hid := ⟨_, h8⟩))
 refine AOps.cons rfl rfl (AOp.fieldAddr rfl rfl fl_35_0 ?_ (hid := ⟨_, h8⟩))
 refine AOps.cons rfl rfl (AOp.load (.sl t.ed.length (t.ed.flatMap eE)) rfl rfl ty_32 h8 rfl ?_)
 refine AOps.cons rfl rfl (AOp.move (.int .i64 i) rfl rfl ?_)
 refine AOps.cons rfl rfl (AOp.indexAddrS rfl rfl rfl sl_32 (by omega) (by omega) ?_)
 refine AOps.cons rfl rfl (AOp.loadF (.agg [.int .i64 ((at_ t.ed i).A), .int .i64 ((at_ t.ed i).B), .int .i64 ((at_ t.ed i).F), .int .i64 ((at_ t.ed i).G)]) rfl rfl ty_47 (ldM eE_len (by omega) (by omega)) ?_)
 refine AOps.cons rfl rfl (AOp.alloc rfl tz_47 ?_)
 intro i10 H11 n12 h13 k14
 have e15 := ne_new h8 n12
 have e16 := ne_new h4 n12
 have z17 := Mono.free m9 n12
 have h18 := keep k14 (ne_new h8 n12) h8
 have h19 := keep k14 (ne_new h4 n12) h4
 have m20 := Mono.new m9 n12 k14
 refine AOps.cons rfl rfl (AOp.store' (cells' := [.int .i64 ((at_ t.ed i).A), .int .i64 ((at_ t.ed i).B), .int .i64 ((at_ t.ed i).F), .int .i64 ((at_ t.ed i).G)]) (.agg [.int .i64 ((at_ t.ed i).A), .int .i64 ((at_ t.ed i).B), .int .i64 ((at_ t.ed i).F), .int .i64 ((at_ t.ed i).G)]) rfl rfl ts_47 h13 rfl rfl rfl rfl ?_)
 intro H21 h22 k23
 have h24 := keep k23 e15 h18
 have h25 := keep k23 e16 h19
 have m27 := Mono.set m20 z17 k23
 refine AOps.nil ?_
 change AWP _ _ _ _ _ _
 refine AWP.seq ?_
 refine AWP.frzP 7 h22 z17 rfl m27 fun H28 m29 k30 => ?_
 have h31 := (k30 _ e15).trans h24
 have h32 := (k30 _ e16).trans h25
 refine AWP.region_quiet mixed (by kernel_rfl) 14 [14] rfl (by kernel_rfl) (Mono H28) (Mono.refl _) ?_
 refine QE.op rfl rfl (.inl ⟨rfl, fun f' H' hf hM => AOp.move (.ptr fid 0 0) rfl ((hf 0 rfl).trans rfl) ⟨rfl, hM⟩⟩) ?_
 refine QE.op rfl rfl (.inl ⟨rfl, fun f' H' hf hM => AOp.nilCheck (.ptr fid 0 0) rfl ((hf 16 rfl).trans rfl) rfl ⟨rfl, hM⟩⟩) ?_
 refine QE.op rfl rfl (.inl ⟨rfl, fun f' H' hf hM => AOp.fieldAddr rfl ((hf 17 rfl).trans rfl) fl_79_0 ⟨rfl, hM⟩ (hid := ⟨_, (hM _ _ h31)⟩)⟩) ?_
 refine QE.op rfl rfl (.inl ⟨rfl, fun f' H' hf hM => AOp.fieldAddr rfl ((hf 18 rfl).trans rfl) fl_26_0 ⟨rfl, hM⟩ (hid := ⟨_, (hM _ _ h31)⟩)⟩) ?_
 refine QE.op rfl rfl (.inl ⟨rfl, fun f' H' hf hM => AOp.load (.sl vs.length (vs.flatMap eV)) rfl ((hf 19 rfl).trans rfl) ty_22 (hM _ _ h31) rfl ⟨rfl, hM⟩⟩) ?_
 refine QE.op rfl rfl (.inl ⟨rfl, fun f' H' hf hM => AOp.fieldAddrF rfl ((hf 7 rfl).trans rfl) fl_47_0 ⟨rfl, hM⟩⟩) ?_
 refine QE.op rfl rfl (.inl ⟨rfl, fun f' H' hf hM => AOp.loadF (.int .i64 ((at_ t.ed i).A)) rfl ((hf 21 rfl).trans rfl) ty_3 rfl ⟨rfl, hM⟩⟩) ?_
 refine QE.op rfl rfl (.inl ⟨rfl, fun f' H' hf hM => AOp.fieldAddrF rfl ((hf 7 rfl).trans rfl) fl_47_1 ⟨rfl, hM⟩⟩) ?_
 refine QE.op rfl rfl (.inl ⟨rfl, fun f' H' hf hM => AOp.loadF (.int .i64 ((at_ t.ed i).B)) rfl ((hf 23 rfl).trans rfl) ty_3 rfl ⟨rfl, hM⟩⟩) ?_
 refine QE.op rfl rfl (.inl ⟨rfl, fun f' H' hf hM => AOp.bin (.int .i64 ((at_ t.ed i).A + ((at_ t.ed i).B))) rfl ((hf 22 rfl).trans rfl) ((hf 24 rfl).trans rfl) (iadd (by omega)) ⟨rfl, hM⟩⟩) ?_
 refine QE.op rfl rfl (.inl ⟨rfl, fun f' H' hf hM => AOp.move (.int .i64 v) rfl ((hf 2 rfl).trans rfl) ⟨rfl, hM⟩⟩) ?_
 refine QE.op rfl rfl (.inl ⟨rfl, fun f' H' hf hM => AOp.bin (.int .i64 ((at_ t.ed i).A + ((at_ t.ed i).B) - v)) rfl ((hf 25 rfl).trans rfl) ((hf 26 rfl).trans rfl) (isub (by omega)) ⟨rfl, hM⟩⟩) ?_
 refine QE.op rfl rfl (.inl ⟨rfl, fun f' H' hf hM => AOp.indexAddrS rfl ((hf 20 rfl).trans rfl) ((hf 27 rfl).trans rfl) sl_22 (by omega) (by omega) ⟨rfl, hM⟩⟩) ?_
 refine QE.op rfl rfl (.inl ⟨rfl, fun f' H' hf hM => AOp.loadF (.agg [.int .i64 ((at_ vs ((at_ t.ed i).A + ((at_ t.ed i).B) - v)).X), .int .i64 ((at_ vs ((at_ t.ed i).A + ((at_ t.ed i).B) - v)).Y), .int .i64 ((at_ vs ((at_ t.ed i).A + ((at_ t.ed i).B) - v)).Z)]) rfl ((hf 28 rfl).trans rfl) ty_42 (ldM eV_len (by omega) (by omega)) ⟨rfl, hM⟩⟩) ?_
 refine QE.done fun H33 m34 => ?_
 have h35 := m34 _ _ h31
 have h36 := m34 _ _ h32
 have m37 := m29.trans m34
 refine AOps.cons rfl rfl (AOp.store' (cells' := [.int .i64 ((at_ vs ((at_ t.ed i).A + ((at_ t.ed i).B) - v)).X), .int .i64 ((at_ vs ((at_ t.ed i).A + ((at_ t.ed i).B) - v)).Y), .int .i64 ((at_ vs ((at_ t.ed i).A + ((at_ t.ed i).B) - v)).Z)]) (.agg [.int .i64 ((at_ vs ((at_ t.ed i).A + ((at_ t.ed i).B) - v)).X), .int .i64 ((at_ vs ((at_ t.ed i).A + ((at_ t.ed i).B) - v)).Y), .int .i64 ((at_ vs ((at_ t.ed i).A + ((at_ t.ed i).B) - v)).Z)]) rfl rfl ts_42 h36 rfl rfl rfl rfl ?_)
 intro H38 h39 k40
 have h41 := keep k40 e6 h35
 have m43 := Mono.set m37 z7 k40
 refine AOps.nil ?_
 change AWP _ _ _ _ _ _
 refine AWP.ret ?_
 refine ⟨_, _, Ghost.refl, .inr rfl, _, Res.list1 rfl (.cell (v := .agg [.int .i64 ((at_ vs ((at_ t.ed i).A + ((at_ t.ed i).B) - v)).X), .int .i64 ((at_ vs ((at_ t.ed i).A + ((at_ t.ed i).B) - v)).Y), .int .i64 ((at_ vs ((at_ t.ed i).A + ((at_ t.ed i).B) - v)).Z)]) rfl ty_42 h39 rfl (.nil)), ?_, m43⟩
 exact (congrArg AV.agg (lc (congrArg (AV.int .i64) (show ((at_ vs ((at_ t.ed i).A + ((at_ t.ed i).B) - v)).X : Int) = (othV vs (at_ t.ed i) v).X from by rfl)) (lc (congrArg (AV.int .i64) (show ((at_ vs ((at_ t.ed i).A + ((at_ t.ed i).B) - v)).Y : Int) = (othV vs (at_ t.ed i) v).Y from by rfl)) (lc (congrArg (AV.int .i64) (show ((at_ vs ((at_ t.ed i).A + ((at_ t.ed i).B) - v)).Z : Int) = (othV vs (at_ t.ed i) v).Z from by rfl)) rfl))))
theorem c_face {H0 : Heap} {fid : Nat} (vs : List VT) (fs : List (List Int)) (cr : List CrT) (t : Tp) (sh : List Int) {x7 x8 : AV} (f : List Int) (hf : ∀ k ∈ f, 0 ≤ k ∧ k < (vs.length : Int)) (hfl : 1 ≤ f.length ∧ f.length ≤ 100000) (hvl : vs.length ≤ 1048576) (hv : ∀ v ∈ vs, inV 65536 v)  (hr : H0 fid = some (.row 0 [.sl vs.length (vs.flatMap eV), .sl fs.length (fs.map eF), .sl cr.length (cr.flatMap eCr), .sl t.ed.length (t.ed.flatMap eE), .sl t.fan.length (t.fan.map eF), .sl t.rnd.length (t.rnd.map eBo), .sl sh.length (sh.map eI), x7, x8])) : ACalls Try.prog 35 [.ptr fid 0 0, .sl f.length (f.map eI)] H0 fun r H' => r = (.agg [.int .i64 ((faceP vs f).X), .int .i64 ((faceP vs f).Y), .int .i64 ((faceP vs f).Z)]) ∧ Mono H0 H' := by
 refine ACalls.of_body' (n := 28) rfl rfl rfl rfl ?_
 have m0 := Mono.refl H0
 refine AWP.seq ?_
 refine AWP.region (l := [0]) rfl ?_
 refine AOps.cons rfl rfl (AOp.alloc rfl tz_42 ?_)
 intro i1 H2 n3 h4 k5
 have e6 := ne_new hr n3
 have z7 := Mono.free m0 n3
 have h8 := keep k5 (ne_new hr n3) hr
 have m9 := Mono.new m0 n3 k5
 refine AOps.nil ?_
 change AWP _ _ _ _ _ _
 refine AWP.seq ?_
 refine AWP.region (l := [0]) rfl ?_
 refine AOps.cons rfl rfl (AOp.alloc rfl tz_108 ?_)
 intro i10 H11 n12 h13 k14
 have e15 := ne_new h8 n12
 have e16 := ne_new h4 n12
 have z17 := Mono.free m9 n12
 have h18 := keep k14 (ne_new h8 n12) h8
 have h19 := keep k14 (ne_new h4 n12) h4
 have m20 := Mono.new m9 n12 k14
 refine AOps.nil ?_
 change AWP _ _ _ _ _ _
 refine AWP.seq ?_
 refine AWP.seq ?_
 refine AWP.region (l := [0, 1, 2]) rfl ?_
 refine AOps.cons rfl rfl (AOp.move (.sl f.length (f.map eI)) rfl rfl ?_)
 refine AOps.cons rfl rfl (AOp.len (m := f.length) rfl rfl (.inr (.inl ⟨_, rfl⟩)) u_38 ?_)
 refine AOps.cons rfl rfl (AOp.move (.int .i64 0) rfl rfl ?_)
 refine AOps.nil ?_
 change AWP _ _ _ _ _ _
 refine AWP.block ?_
 refine AWP.loop (fun q21 fq Hq => ∃ (i : Int), q21 = (((f.length : Int) : Int) - i).toNat ∧ fq 10 = .int .i64 i ∧ fq 0 = .ptr fid 0 0 ∧ fq 1 = .sl f.length (f.map eI) ∧ fq 4 = .ptr i1 0 0 ∧ fq 5 = .ptr i10 0 0 ∧ fq 8 = .sl f.length (f.map eI) ∧ fq 9 = .int .i64 (f.length : Int) ∧ Hq fid = some (.row 0 ([.sl vs.length (vs.flatMap eV), .sl fs.length (fs.map eF), .sl cr.length (cr.flatMap eCr), .sl t.ed.length (t.ed.flatMap eE), .sl t.fan.length (t.fan.map eF), .sl t.rnd.length (t.rnd.map eBo), .sl sh.length (sh.map eI), x7, x8])) ∧ Hq i1 = some (.row 0 ([.int .i64 0, .int .i64 0, .int .i64 0])) ∧ Hq i10 = some (.row 0 ([.int .i64 ((sumL ((f.take i.toNat).map fun k => at_ vs k)).X), .int .i64 ((sumL ((f.take i.toNat).map fun k => at_ vs k)).Y), .int .i64 ((sumL ((f.take i.toNat).map fun k => at_ vs k)).Z)])) ∧ Mono H0 Hq ∧ (0 ≤ i) ∧ (i ≤ (f.length : Int)) ∧ (inV (65536 * i) (sumL ((f.take i.toNat).map fun k => at_ vs k)))) (k := (((f.length : Int) : Int) - 0).toNat) ?_ ?_
 ·
  exact ⟨0, rfl, rfl, rfl, rfl, rfl, rfl, rfl, rfl, h18, h19, (h13.trans (congrArg (fun c => some (AB.row 0 c)) (show ([.int .i64 0, .int .i64 0, .int .i64 0] : List AV) = [.int .i64 ((sumL ((f.take (0 : Int).toNat).map fun k => at_ vs k)).X), .int .i64 ((sumL ((f.take (0 : Int).toNat).map fun k => at_ vs k)).Y), .int .i64 ((sumL ((f.take (0 : Int).toNat).map fun k => at_ vs k)).Z)] from by first | rfl | (rw [sum_step hi0 (by omega)])))), m20, by omega, by omega, by exact z_in (by omega)⟩
 ·
  rintro _ f23 H22 ⟨i, rfl, s24, s25, s26, s27, s28, s29, s30, h31, h32, h33, m34, hi0, hi1, hin⟩
  refine AWP.seq ?_
  refine AWP.region (l := [0]) rfl ?_
  refine AOps.cons rfl rfl (AOp.bin (.bool (decide (i < (f.length : Int)))) rfl s24 s30 rfl ?_)
  refine AOps.nil ?_
  change AWP _ _ _ _ _ _
  refine AWP.seq ?_
  by_cases b35 : i < (f.length : Int)
  ·
   refine AWP.condT rfl (decide_eq_true b35) ?_
   refine AWP.skip ?_
   change AWP _ _ _ _ _ _
   refine AWP.seq ?_
   refine AWP.block ?_
   refine AWP.seq ?_
   refine AWP.region (l := [0, 1, 2]) rfl ?_
   refine AOps.cons rfl rfl (AOp.indexAddrS rfl s29 s24 sl_38 (by omega) (by omega) ?_)
   refine AOps.cons rfl rfl (AOp.loadF (.int .i64 (at_ f i)) rfl rfl ty_3 (ld1 (by omega) (by omega)) ?_)
   refine AOps.cons rfl rfl (AOp.assign (.int .i64 (at_ f i)) rfl rfl ?_)
   refine AOps.nil ?_
   change AWP _ _ _ _ _ _
   have hk := hf _ (at_mem hi0 (by omega : i < f.length))
   have hvk := hv _ (at_mem hk.1 hk.2)
   refine AWP.region (l := [0, 1, 2, 3, 4, 5, 6, 7, 8, 9]) rfl ?_
   refine AOps.cons rfl rfl (AOp.move (.ptr fid 0 0) rfl s25 ?_)
   refine AOps.cons rfl rfl (AOp.nilCheck (.ptr fid 0 0) rfl rfl rfl ?_)
   refine AOps.cons rfl rfl (AOp.fieldAddr rfl rfl fl_79_0 ?_ (hid := ⟨_, h31⟩))
   refine AOps.cons rfl rfl (AOp.fieldAddr rfl rfl fl_26_0 ?_ (hid := ⟨_, h31⟩))
   refine AOps.cons rfl rfl (AOp.load (.sl vs.length (vs.flatMap eV)) rfl rfl ty_22 h31 rfl ?_)
   refine AOps.cons rfl rfl (AOp.move (.int .i64 (at_ f i)) rfl rfl ?_)
   refine AOps.cons rfl rfl (AOp.indexAddrS rfl rfl rfl sl_22 (by omega) (by omega) ?_)
   refine AOps.cons rfl rfl (AOp.loadF (.agg [.int .i64 ((at_ vs (at_ f i)).X), .int .i64 ((at_ vs (at_ f i)).Y), .int .i64 ((at_ vs (at_ f i)).Z)]) rfl rfl ty_42 (ldM eV_len (by omega) (by omega)) ?_)
   refine AOps.cons rfl rfl (AOp.buildSlice (cells := [.int .i64 ((at_ vs (at_ f i)).X), .int .i64 ((at_ vs (at_ f i)).Y), .int .i64 ((at_ vs (at_ f i)).Z)]) rfl u_22 ts_42 tz_42 rfl rfl rfl ?_)
   intro i36 H37 n38 h39 k40
   have e41 := ne_new h31 n38
   have e42 := ne_new h32 n38
   have e43 := ne_new h33 n38
   have z44 := Mono.free m34 n38
   have h45 := keep k40 (ne_new h31 n38) h31
   have h46 := keep k40 (ne_new h32 n38) h32
   have h47 := keep k40 (ne_new h33 n38) h33
   have m48 := Mono.new m34 n38 k40
   obtain ⟨v49, e50⟩ : ∃ v : AV, v = .slm i36 0 3 0 1 := ⟨_, rfl⟩
   have o51 : Own H0 H37 3 v49 1 [.int .i64 ((at_ vs (at_ f i)).X), .int .i64 ((at_ vs (at_ f i)).Y), .int .i64 ((at_ vs (at_ f i)).Z)] := .inr ⟨_, _, e50, h39, z44, rfl⟩
   have no52 : NotId v49 fid := by rw [e50]; exact NotId.slm e41
   have no53 : NotId v49 i1 := by rw [e50]; exact NotId.slm e42
   have no54 : NotId v49 i10 := by rw [e50]; exact NotId.slm e43
   refine AOps.cons rfl rfl ?_
   refine AOp.frz 22 (o51) e50.symm m48 fun H55 m56 k57 => ?_
   have h58 := (k57 _ no52).trans h45
   have h59 := (k57 _ no53).trans h46
   have h60 := (k57 _ no54).trans h47
   refine AOp.xcall («as» := [.ptr i10 0 0, .int .i64 1, .sl ([(at_ vs (at_ f i))] : List VT).length (([(at_ vs (at_ f i))] : List VT).flatMap eV)]) rfl rfl (lapp (lcons s28 (lcons rfl (lcons rfl rfl))) rfl) tf_54 (c_add (sumL ((f.take i.toNat).map fun k => at_ vs k)) 1 ([(at_ vs (at_ f i))] : List VT) (by simp) (inV_le hin (by omega)) (one_in hvk) h60) ?_
   rintro _ H61 ⟨rfl, m62, h63⟩
   have h64 := m62 _ _ (hide_get e15 h58)
   have h65 := m62 _ _ (hide_get e16 h59)
   have m66 := Mono.hide_ m56 z17 m62
   refine AOps.nil ?_
   change AWP _ _ _ _ _ _
   refine AWP.region (l := [0, 1]) rfl ?_
   refine AOps.cons rfl rfl (AOp.bin (.int .i64 (i + 1)) rfl s24 rfl (iadd (by omega)) ?_)
   refine AOps.cons rfl rfl (AOp.move (.int .i64 (i + 1)) rfl rfl ?_)
   refine AOps.nil ?_
   exact ⟨_, by omega, i + 1, rfl, rfl, s25, s26, s27, s28, s29, s30, h64, h65, (h63.trans (congrArg (fun c => some (AB.row 0 c)) (show ([.int .i64 ((addL (sumL ((f.take i.toNat).map fun k => at_ vs k)) 1 ([(at_ vs (at_ f i))] : List VT)).X), .int .i64 ((addL (sumL ((f.take i.toNat).map fun k => at_ vs k)) 1 ([(at_ vs (at_ f i))] : List VT)).Y), .int .i64 ((addL (sumL ((f.take i.toNat).map fun k => at_ vs k)) 1 ([(at_ vs (at_ f i))] : List VT)).Z)] : List AV) = [.int .i64 ((sumL ((f.take (i + 1).toNat).map fun k => at_ vs k)).X), .int .i64 ((sumL ((f.take (i + 1).toNat).map fun k => at_ vs k)).Y), .int .i64 ((sumL ((f.take (i + 1).toNat).map fun k => at_ vs k)).Z)] from by first | rfl | (rw [sum_step hi0 (by omega)])))), m66, by omega, by omega, by exact sum_inS hi0 (by omega) hin hvk⟩
  ·
   refine AWP.condF rfl (decide_eq_false b35) ?_
   refine AWP.exit ?_
   change AWP _ _ _ _ _ _
   refine AWP.seq ?_
   refine AWP.region (l := [0, 1, 2, 3]) rfl ?_
   refine AOps.cons rfl rfl (AOp.move (.sl f.length (f.map eI)) rfl s26 ?_)
   refine AOps.cons rfl rfl (AOp.len (m := f.length) rfl rfl (.inr (.inl ⟨_, rfl⟩)) u_38 ?_)
   refine AOps.cons rfl rfl (AOp.pcallH («as» := [.ptr i10 0 0, .int .i64 (f.length : Int)]) rfl rfl (lapp (lcons s28 (lcons rfl rfl)) rfl) tf_55 (c_of (sumL ((f.take i.toNat).map fun k => at_ vs k)) (f.length : Int) (inV_le hin (by omega)) (by omega) h33) ?_)
   intro H67 m68
   have h69 := m68 _ _ h31
   have h70 := m68 _ _ h32
   have h71 := m68 _ _ h33
   have m72 := m34.trans m68
   refine AOps.cons rfl rfl (AOp.store' (cells' := [.int .i64 ((ofV (sumL ((f.take i.toNat).map fun k => at_ vs k)) (f.length : Int)).X), .int .i64 ((ofV (sumL ((f.take i.toNat).map fun k => at_ vs k)) (f.length : Int)).Y), .int .i64 ((ofV (sumL ((f.take i.toNat).map fun k => at_ vs k)) (f.length : Int)).Z)]) (.agg [.int .i64 ((ofV (sumL ((f.take i.toNat).map fun k => at_ vs k)) (f.length : Int)).X), .int .i64 ((ofV (sumL ((f.take i.toNat).map fun k => at_ vs k)) (f.length : Int)).Y), .int .i64 ((ofV (sumL ((f.take i.toNat).map fun k => at_ vs k)) (f.length : Int)).Z)]) s27 rfl ts_42 h70 rfl rfl rfl rfl ?_)
   intro H73 h74 k75
   have h76 := keep k75 e6 h69
   have h78 := keep k75 (Ne.symm e16) h71
   have m79 := Mono.set m72 z7 k75
   refine AOps.nil ?_
   change AWP _ _ _ _ _ _
   refine AWP.ret ?_
   refine ⟨_, _, Ghost.refl, .inr rfl, _, Res.list1 rfl (.cell (v := .agg [.int .i64 ((ofV (sumL ((f.take i.toNat).map fun k => at_ vs k)) (f.length : Int)).X), .int .i64 ((ofV (sumL ((f.take i.toNat).map fun k => at_ vs k)) (f.length : Int)).Y), .int .i64 ((ofV (sumL ((f.take i.toNat).map fun k => at_ vs k)) (f.length : Int)).Z)]) s27 ty_42 h74 rfl (.nil)), ?_, m79⟩
   exact (congrArg AV.agg (lc (congrArg (AV.int .i64) (show ((ofV (sumL ((f.take i.toNat).map fun k => at_ vs k)) (f.length : Int)).X : Int) = (faceP vs f).X from by unfold faceP; rw [take_all (by omega)])) (lc (congrArg (AV.int .i64) (show ((ofV (sumL ((f.take i.toNat).map fun k => at_ vs k)) (f.length : Int)).Y : Int) = (faceP vs f).Y from by unfold faceP; rw [take_all (by omega)])) (lc (congrArg (AV.int .i64) (show ((ofV (sumL ((f.take i.toNat).map fun k => at_ vs k)) (f.length : Int)).Z : Int) = (faceP vs f).Z from by unfold faceP; rw [take_all (by omega)])) rfl))))
theorem c_edge {H0 : Heap} {fid : Nat} (vs : List VT) (fs : List (List Int)) (cr : List CrT) (t : Tp) (sh : List Int) {x7 : AV} (fc : List VT) (i : Int) (hi : 0 ≤ i ∧ i < t.ed.length) (hA : 0 ≤ (at_ t.ed i).A ∧ (at_ t.ed i).A < vs.length) (hB : 0 ≤ (at_ t.ed i).B ∧ (at_ t.ed i).B < vs.length) (hsl : sh.length = t.ed.length) (hFG : at_ sh i = 0 → (0 ≤ (at_ t.ed i).F ∧ (at_ t.ed i).F < fc.length) ∧ 0 ≤ (at_ t.ed i).G ∧ (at_ t.ed i).G < fc.length) (hfc : ∀ v ∈ fc, inV 65536 v) (hvl : vs.length ≤ 1048576) (hv : ∀ v ∈ vs, inV 65536 v)  (hr : H0 fid = some (.row 0 [.sl vs.length (vs.flatMap eV), .sl fs.length (fs.map eF), .sl cr.length (cr.flatMap eCr), .sl t.ed.length (t.ed.flatMap eE), .sl t.fan.length (t.fan.map eF), .sl t.rnd.length (t.rnd.map eBo), .sl sh.length (sh.map eI), x7, .sl fc.length (fc.flatMap eV)])) : ACalls Try.prog 37 [.ptr fid 0 0, .int .i64 i] H0 fun r H' => r = (.agg [.int .i64 ((edgeP vs fc (at_ t.ed i) (at_ sh i)).X), .int .i64 ((edgeP vs fc (at_ t.ed i) (at_ sh i)).Y), .int .i64 ((edgeP vs fc (at_ t.ed i) (at_ sh i)).Z)]) ∧ Mono H0 H' := by
 have hvA := hv _ (at_mem hA.1 hA.2)
 have hvB := hv _ (at_mem hB.1 hB.2)
 refine ACalls.of_body' (n := 63) rfl rfl rfl rfl ?_
 have m0 := Mono.refl H0
 refine AWP.seq ?_
 refine AWP.region (l := [0]) rfl ?_
 refine AOps.cons rfl rfl (AOp.alloc rfl tz_42 ?_)
 intro i1 H2 n3 h4 k5
 have e6 := ne_new hr n3
 have z7 := Mono.free m0 n3
 have h8 := keep k5 (ne_new hr n3) hr
 have m9 := Mono.new m0 n3 k5
 refine AOps.nil ?_
 change AWP _ _ _ _ _ _
 refine AWP.seq ?_
 refine AWP.region (l := [0, 1, 2, 3, 4, 5, 6, 7, 8, 9]) rfl ?_
 refine AOps.cons rfl rfl (AOp.move (.ptr fid 0 0) rfl rfl ?_)
 refine AOps.cons rfl rfl (AOp.nilCheck (.ptr fid 0 0) rfl rfl rfl ?_)
 refine AOps.cons rfl rfl (AOp.fieldAddr rfl rfl fl_79_1 ?_ (hid := ⟨_, h8⟩))
 refine AOps.cons rfl rfl (AOp.fieldAddr rfl rfl fl_35_0 ?_ (hid := ⟨_, h8⟩))
 refine AOps.cons rfl rfl (AOp.load (.sl t.ed.length (t.ed.flatMap eE)) rfl rfl ty_32 h8 rfl ?_)
 refine AOps.cons rfl rfl (AOp.move (.int .i64 i) rfl rfl ?_)
 refine AOps.cons rfl rfl (AOp.indexAddrS rfl rfl rfl sl_32 (by omega) (by omega) ?_)
 refine AOps.cons rfl rfl (AOp.loadF (.agg [.int .i64 ((at_ t.ed i).A), .int .i64 ((at_ t.ed i).B), .int .i64 ((at_ t.ed i).F), .int .i64 ((at_ t.ed i).G)]) rfl rfl ty_47 (ldM eE_len (by omega) (by omega)) ?_)
 refine AOps.cons rfl rfl (AOp.alloc rfl tz_47 ?_)
 intro i10 H11 n12 h13 k14
 have e15 := ne_new h8 n12
 have e16 := ne_new h4 n12
 have z17 := Mono.free m9 n12
 have h18 := keep k14 (ne_new h8 n12) h8
 have h19 := keep k14 (ne_new h4 n12) h4
 have m20 := Mono.new m9 n12 k14
 refine AOps.cons rfl rfl (AOp.store' (cells' := [.int .i64 ((at_ t.ed i).A), .int .i64 ((at_ t.ed i).B), .int .i64 ((at_ t.ed i).F), .int .i64 ((at_ t.ed i).G)]) (.agg [.int .i64 ((at_ t.ed i).A), .int .i64 ((at_ t.ed i).B), .int .i64 ((at_ t.ed i).F), .int .i64 ((at_ t.ed i).G)]) rfl rfl ts_47 h13 rfl rfl rfl rfl ?_)
 intro H21 h22 k23
 have h24 := keep k23 e15 h18
 have h25 := keep k23 e16 h19
 have m27 := Mono.set m20 z17 k23
 refine AOps.nil ?_
 change AWP _ _ _ _ _ _
 refine AWP.seq ?_
 refine AWP.frzP 5 h22 z17 rfl m27 fun H28 m29 k30 => ?_
 have h31 := (k30 _ e15).trans h24
 have h32 := (k30 _ e16).trans h25
 refine AWP.region (l := [0]) rfl ?_
 refine AOps.cons rfl rfl (AOp.alloc rfl tz_108 ?_)
 intro i33 H34 n35 h36 k37
 have e38 := ne_new h31 n35
 have e39 := ne_new h32 n35
 have z40 := Mono.free m29 n35
 have h41 := keep k37 (ne_new h31 n35) h31
 have h42 := keep k37 (ne_new h32 n35) h32
 have m43 := Mono.new m29 n35 k37
 refine AOps.nil ?_
 change AWP _ _ _ _ _ _
 refine AWP.seq ?_
 refine AWP.region_quiet mixed (by kernel_rfl) 18 [18, 19] rfl (by kernel_rfl) (Mono H34) (Mono.refl _) ?_
 refine QE.op rfl rfl (.inl ⟨rfl, fun f' H' hf hM => AOp.move (.ptr fid 0 0) rfl ((hf 0 rfl).trans rfl) ⟨rfl, hM⟩⟩) ?_
 refine QE.op rfl rfl (.inl ⟨rfl, fun f' H' hf hM => AOp.nilCheck (.ptr fid 0 0) rfl ((hf 15 rfl).trans rfl) rfl ⟨rfl, hM⟩⟩) ?_
 refine QE.op rfl rfl (.inl ⟨rfl, fun f' H' hf hM => AOp.fieldAddr rfl ((hf 16 rfl).trans rfl) fl_79_0 ⟨rfl, hM⟩ (hid := ⟨_, (hM _ _ h41)⟩)⟩) ?_
 refine QE.op rfl rfl (.inl ⟨rfl, fun f' H' hf hM => AOp.fieldAddr rfl ((hf 17 rfl).trans rfl) fl_26_0 ⟨rfl, hM⟩ (hid := ⟨_, (hM _ _ h41)⟩)⟩) ?_
 refine QE.op rfl rfl (.inl ⟨rfl, fun f' H' hf hM => AOp.load (.sl vs.length (vs.flatMap eV)) rfl ((hf 18 rfl).trans rfl) ty_22 (hM _ _ h41) rfl ⟨rfl, hM⟩⟩) ?_
 refine QE.op rfl rfl (.inl ⟨rfl, fun f' H' hf hM => AOp.fieldAddrF rfl ((hf 5 rfl).trans rfl) fl_47_0 ⟨rfl, hM⟩⟩) ?_
 refine QE.op rfl rfl (.inl ⟨rfl, fun f' H' hf hM => AOp.loadF (.int .i64 ((at_ t.ed i).A)) rfl ((hf 20 rfl).trans rfl) ty_3 rfl ⟨rfl, hM⟩⟩) ?_
 refine QE.op rfl rfl (.inl ⟨rfl, fun f' H' hf hM => AOp.indexAddrS rfl ((hf 19 rfl).trans rfl) ((hf 21 rfl).trans rfl) sl_22 (by omega) (by omega) ⟨rfl, hM⟩⟩) ?_
 refine QE.op rfl rfl (.inl ⟨rfl, fun f' H' hf hM => AOp.loadF (.agg [.int .i64 ((at_ vs ((at_ t.ed i).A)).X), .int .i64 ((at_ vs ((at_ t.ed i).A)).Y), .int .i64 ((at_ vs ((at_ t.ed i).A)).Z)]) rfl ((hf 22 rfl).trans rfl) ty_42 (ldM eV_len (by omega) (by omega)) ⟨rfl, hM⟩⟩) ?_
 refine QE.op rfl rfl (.inl ⟨rfl, fun f' H' hf hM => AOp.move (.ptr fid 0 0) rfl ((hf 0 rfl).trans rfl) ⟨rfl, hM⟩⟩) ?_
 refine QE.op rfl rfl (.inl ⟨rfl, fun f' H' hf hM => AOp.nilCheck (.ptr fid 0 0) rfl ((hf 24 rfl).trans rfl) rfl ⟨rfl, hM⟩⟩) ?_
 refine QE.op rfl rfl (.inl ⟨rfl, fun f' H' hf hM => AOp.fieldAddr rfl ((hf 25 rfl).trans rfl) fl_79_0 ⟨rfl, hM⟩ (hid := ⟨_, (hM _ _ h41)⟩)⟩) ?_
 refine QE.op rfl rfl (.inl ⟨rfl, fun f' H' hf hM => AOp.fieldAddr rfl ((hf 26 rfl).trans rfl) fl_26_0 ⟨rfl, hM⟩ (hid := ⟨_, (hM _ _ h41)⟩)⟩) ?_
 refine QE.op rfl rfl (.inl ⟨rfl, fun f' H' hf hM => AOp.load (.sl vs.length (vs.flatMap eV)) rfl ((hf 27 rfl).trans rfl) ty_22 (hM _ _ h41) rfl ⟨rfl, hM⟩⟩) ?_
 refine QE.op rfl rfl (.inl ⟨rfl, fun f' H' hf hM => AOp.fieldAddrF rfl ((hf 5 rfl).trans rfl) fl_47_1 ⟨rfl, hM⟩⟩) ?_
 refine QE.op rfl rfl (.inl ⟨rfl, fun f' H' hf hM => AOp.loadF (.int .i64 ((at_ t.ed i).B)) rfl ((hf 29 rfl).trans rfl) ty_3 rfl ⟨rfl, hM⟩⟩) ?_
 refine QE.op rfl rfl (.inl ⟨rfl, fun f' H' hf hM => AOp.indexAddrS rfl ((hf 28 rfl).trans rfl) ((hf 30 rfl).trans rfl) sl_22 (by omega) (by omega) ⟨rfl, hM⟩⟩) ?_
 refine QE.op rfl rfl (.inl ⟨rfl, fun f' H' hf hM => AOp.loadF (.agg [.int .i64 ((at_ vs ((at_ t.ed i).B)).X), .int .i64 ((at_ vs ((at_ t.ed i).B)).Y), .int .i64 ((at_ vs ((at_ t.ed i).B)).Z)]) rfl ((hf 31 rfl).trans rfl) ty_42 (ldM eV_len (by omega) (by omega)) ⟨rfl, hM⟩⟩) ?_
 refine QE.done fun H44 m45 => ?_
 have h46 := m45 _ _ h41
 have h47 := m45 _ _ h42
 have h48 := m45 _ _ h36
 have m49 := m43.trans m45
 refine AOps.cons rfl rfl (AOp.buildSlice (cells := [.int .i64 ((at_ vs ((at_ t.ed i).A)).X), .int .i64 ((at_ vs ((at_ t.ed i).A)).Y), .int .i64 ((at_ vs ((at_ t.ed i).A)).Z), .int .i64 ((at_ vs ((at_ t.ed i).B)).X), .int .i64 ((at_ vs ((at_ t.ed i).B)).Y), .int .i64 ((at_ vs ((at_ t.ed i).B)).Z)]) rfl u_22 ts_42 tz_42 rfl rfl rfl ?_)
 intro i50 H51 n52 h53 k54
 have e55 := ne_new h46 n52
 have e56 := ne_new h47 n52
 have e57 := ne_new h48 n52
 have z58 := Mono.free m49 n52
 have h59 := keep k54 (ne_new h46 n52) h46
 have h60 := keep k54 (ne_new h47 n52) h47
 have h61 := keep k54 (ne_new h48 n52) h48
 have m62 := Mono.new m49 n52 k54
 obtain ⟨v63, e64⟩ : ∃ v : AV, v = .slm i50 0 3 0 2 := ⟨_, rfl⟩
 have o65 : Own H0 H51 3 v63 2 [.int .i64 ((at_ vs ((at_ t.ed i).A)).X), .int .i64 ((at_ vs ((at_ t.ed i).A)).Y), .int .i64 ((at_ vs ((at_ t.ed i).A)).Z), .int .i64 ((at_ vs ((at_ t.ed i).B)).X), .int .i64 ((at_ vs ((at_ t.ed i).B)).Y), .int .i64 ((at_ vs ((at_ t.ed i).B)).Z)] := .inr ⟨_, _, e64, h53, z58, rfl⟩
 have no66 : NotId v63 fid := by rw [e64]; exact NotId.slm e55
 have no67 : NotId v63 i1 := by rw [e64]; exact NotId.slm e56
 have no68 : NotId v63 i33 := by rw [e64]; exact NotId.slm e57
 refine AOps.cons rfl rfl ?_
 refine AOp.frz 33 (o65) e64.symm m62 fun H69 m70 k71 => ?_
 have h72 := (k71 _ no66).trans h59
 have h73 := (k71 _ no67).trans h60
 have h74 := (k71 _ no68).trans h61
 refine AOp.xcall («as» := [.ptr i33 0 0, .int .i64 1, .sl ([(at_ vs ((at_ t.ed i).A)), (at_ vs ((at_ t.ed i).B))] : List VT).length (([(at_ vs ((at_ t.ed i).A)), (at_ vs ((at_ t.ed i).B))] : List VT).flatMap eV)]) rfl rfl (rfl) tf_54 (c_add (VT.mk 0 0 0) 1 ([(at_ vs ((at_ t.ed i).A)), (at_ vs ((at_ t.ed i).B))] : List VT) (by simp) (z_in (by decide)) (two_in hvA hvB) h74) ?_
 rintro _ H75 ⟨rfl, m76, h77⟩
 have h78 := m76 _ _ (hide_get e38 h72)
 have h79 := m76 _ _ (hide_get e39 h73)
 have m80 := Mono.hide_ m70 z40 m76
 refine AOps.nil ?_
 change AWP _ _ _ _ _ _
 refine AWP.seq ?_
 refine AWP.seq ?_
 refine AWP.region (l := [0, 1, 2, 3, 4, 5, 6, 7]) rfl ?_
 refine AOps.cons rfl rfl (AOp.move (.ptr fid 0 0) rfl rfl ?_)
 refine AOps.cons rfl rfl (AOp.nilCheck (.ptr fid 0 0) rfl rfl rfl ?_)
 refine AOps.cons rfl rfl (AOp.fieldAddr rfl rfl fl_79_2 ?_ (hid := ⟨_, h78⟩))
 refine AOps.cons rfl rfl (AOp.load (.sl sh.length (sh.map eI)) rfl rfl ty_38 h78 rfl ?_)
 refine AOps.cons rfl rfl (AOp.move (.int .i64 i) rfl rfl ?_)
 refine AOps.cons rfl rfl (AOp.indexAddrS rfl rfl rfl sl_38 (by omega) (by omega) ?_)
 refine AOps.cons rfl rfl (AOp.loadF (.int .i64 (at_ sh i)) rfl rfl ty_3 (ld1 (by omega) (by omega)) ?_)
 refine AOps.cons rfl rfl (AOp.bin (.bool (!decide (at_ sh i = 0))) rfl rfl rfl ine ?_)
 refine AOps.nil ?_
 change AWP _ _ _ _ _ _
 by_cases b81 : at_ sh i = 0
 ·
  refine AWP.condF rfl (nb (decide_eq_true b81)) ?_
  refine AWP.skip ?_
  change AWP _ _ _ _ _ _
  refine AWP.seq ?_
  have hg := hFG b81
  have hvF := hfc _ (at_mem hg.1.1 hg.1.2)
  have hvG := hfc _ (at_mem hg.2.1 hg.2.2)
  have h2i := two_sum (z_in (m := 0) (by decide)) hvA hvB
  refine AWP.region_quiet mixed (by kernel_rfl) 16 [16, 17] rfl (by kernel_rfl) (Mono H75) (Mono.refl _) ?_
  refine QE.op rfl rfl (.inl ⟨rfl, fun f' H' hf hM => AOp.move (.ptr fid 0 0) rfl ((hf 0 rfl).trans rfl) ⟨rfl, hM⟩⟩) ?_
  refine QE.op rfl rfl (.inl ⟨rfl, fun f' H' hf hM => AOp.nilCheck (.ptr fid 0 0) rfl ((hf 44 rfl).trans rfl) rfl ⟨rfl, hM⟩⟩) ?_
  refine QE.op rfl rfl (.inl ⟨rfl, fun f' H' hf hM => AOp.fieldAddr rfl ((hf 45 rfl).trans rfl) fl_79_4 ⟨rfl, hM⟩ (hid := ⟨_, (hM _ _ h78)⟩)⟩) ?_
  refine QE.op rfl rfl (.inl ⟨rfl, fun f' H' hf hM => AOp.load (.sl fc.length (fc.flatMap eV)) rfl ((hf 46 rfl).trans rfl) ty_22 (hM _ _ h78) rfl ⟨rfl, hM⟩⟩) ?_
  refine QE.op rfl rfl (.inl ⟨rfl, fun f' H' hf hM => AOp.fieldAddrF rfl ((hf 5 rfl).trans rfl) fl_47_2 ⟨rfl, hM⟩⟩) ?_
  refine QE.op rfl rfl (.inl ⟨rfl, fun f' H' hf hM => AOp.loadF (.int .i64 ((at_ t.ed i).F)) rfl ((hf 48 rfl).trans rfl) ty_3 rfl ⟨rfl, hM⟩⟩) ?_
  refine QE.op rfl rfl (.inl ⟨rfl, fun f' H' hf hM => AOp.indexAddrS rfl ((hf 47 rfl).trans rfl) ((hf 49 rfl).trans rfl) sl_22 (by omega) (by omega) ⟨rfl, hM⟩⟩) ?_
  refine QE.op rfl rfl (.inl ⟨rfl, fun f' H' hf hM => AOp.loadF (.agg [.int .i64 ((at_ fc ((at_ t.ed i).F)).X), .int .i64 ((at_ fc ((at_ t.ed i).F)).Y), .int .i64 ((at_ fc ((at_ t.ed i).F)).Z)]) rfl ((hf 50 rfl).trans rfl) ty_42 (ldM eV_len (by omega) (by omega)) ⟨rfl, hM⟩⟩) ?_
  refine QE.op rfl rfl (.inl ⟨rfl, fun f' H' hf hM => AOp.move (.ptr fid 0 0) rfl ((hf 0 rfl).trans rfl) ⟨rfl, hM⟩⟩) ?_
  refine QE.op rfl rfl (.inl ⟨rfl, fun f' H' hf hM => AOp.nilCheck (.ptr fid 0 0) rfl ((hf 52 rfl).trans rfl) rfl ⟨rfl, hM⟩⟩) ?_
  refine QE.op rfl rfl (.inl ⟨rfl, fun f' H' hf hM => AOp.fieldAddr rfl ((hf 53 rfl).trans rfl) fl_79_4 ⟨rfl, hM⟩ (hid := ⟨_, (hM _ _ h78)⟩)⟩) ?_
  refine QE.op rfl rfl (.inl ⟨rfl, fun f' H' hf hM => AOp.load (.sl fc.length (fc.flatMap eV)) rfl ((hf 54 rfl).trans rfl) ty_22 (hM _ _ h78) rfl ⟨rfl, hM⟩⟩) ?_
  refine QE.op rfl rfl (.inl ⟨rfl, fun f' H' hf hM => AOp.fieldAddrF rfl ((hf 5 rfl).trans rfl) fl_47_3 ⟨rfl, hM⟩⟩) ?_
  refine QE.op rfl rfl (.inl ⟨rfl, fun f' H' hf hM => AOp.loadF (.int .i64 ((at_ t.ed i).G)) rfl ((hf 56 rfl).trans rfl) ty_3 rfl ⟨rfl, hM⟩⟩) ?_
  refine QE.op rfl rfl (.inl ⟨rfl, fun f' H' hf hM => AOp.indexAddrS rfl ((hf 55 rfl).trans rfl) ((hf 57 rfl).trans rfl) sl_22 (by omega) (by omega) ⟨rfl, hM⟩⟩) ?_
  refine QE.op rfl rfl (.inl ⟨rfl, fun f' H' hf hM => AOp.loadF (.agg [.int .i64 ((at_ fc ((at_ t.ed i).G)).X), .int .i64 ((at_ fc ((at_ t.ed i).G)).Y), .int .i64 ((at_ fc ((at_ t.ed i).G)).Z)]) rfl ((hf 58 rfl).trans rfl) ty_42 (ldM eV_len (by omega) (by omega)) ⟨rfl, hM⟩⟩) ?_
  refine QE.done fun H82 m83 => ?_
  have h84 := m83 _ _ h78
  have h85 := m83 _ _ h79
  have h86 := m83 _ _ h77
  have m87 := m80.trans m83
  refine AOps.cons rfl rfl (AOp.buildSlice (cells := [.int .i64 ((at_ fc ((at_ t.ed i).F)).X), .int .i64 ((at_ fc ((at_ t.ed i).F)).Y), .int .i64 ((at_ fc ((at_ t.ed i).F)).Z), .int .i64 ((at_ fc ((at_ t.ed i).G)).X), .int .i64 ((at_ fc ((at_ t.ed i).G)).Y), .int .i64 ((at_ fc ((at_ t.ed i).G)).Z)]) rfl u_22 ts_42 tz_42 rfl rfl rfl ?_)
  intro i88 H89 n90 h91 k92
  have e93 := ne_new h84 n90
  have e94 := ne_new h85 n90
  have e95 := ne_new h86 n90
  have z96 := Mono.free m87 n90
  have h97 := keep k92 (ne_new h84 n90) h84
  have h98 := keep k92 (ne_new h85 n90) h85
  have h99 := keep k92 (ne_new h86 n90) h86
  have m100 := Mono.new m87 n90 k92
  obtain ⟨v101, e102⟩ : ∃ v : AV, v = .slm i88 0 3 0 2 := ⟨_, rfl⟩
  have o103 : Own H0 H89 3 v101 2 [.int .i64 ((at_ fc ((at_ t.ed i).F)).X), .int .i64 ((at_ fc ((at_ t.ed i).F)).Y), .int .i64 ((at_ fc ((at_ t.ed i).F)).Z), .int .i64 ((at_ fc ((at_ t.ed i).G)).X), .int .i64 ((at_ fc ((at_ t.ed i).G)).Y), .int .i64 ((at_ fc ((at_ t.ed i).G)).Z)] := .inr ⟨_, _, e102, h91, z96, rfl⟩
  have no104 : NotId v101 fid := by rw [e102]; exact NotId.slm e93
  have no105 : NotId v101 i1 := by rw [e102]; exact NotId.slm e94
  have no106 : NotId v101 i33 := by rw [e102]; exact NotId.slm e95
  refine AOps.cons rfl rfl ?_
  refine AOp.frz 60 (o103) e102.symm m100 fun H107 m108 k109 => ?_
  have h110 := (k109 _ no104).trans h97
  have h111 := (k109 _ no105).trans h98
  have h112 := (k109 _ no106).trans h99
  refine AOp.xcall («as» := [.ptr i33 0 0, .int .i64 1, .sl ([(at_ fc ((at_ t.ed i).F)), (at_ fc ((at_ t.ed i).G))] : List VT).length (([(at_ fc ((at_ t.ed i).F)), (at_ fc ((at_ t.ed i).G))] : List VT).flatMap eV)]) rfl rfl (rfl) tf_54 (c_add (addL (VT.mk 0 0 0) 1 ([(at_ vs ((at_ t.ed i).A)), (at_ vs ((at_ t.ed i).B))] : List VT)) 1 ([(at_ fc ((at_ t.ed i).F)), (at_ fc ((at_ t.ed i).G))] : List VT) (by simp) (inV_le h2i (by decide)) (two_in hvF hvG) h112) ?_
  rintro _ H113 ⟨rfl, m114, h115⟩
  have h116 := m114 _ _ (hide_get e38 h110)
  have h117 := m114 _ _ (hide_get e39 h111)
  have m118 := Mono.hide_ m108 z40 m114
  refine AOps.nil ?_
  change AWP _ _ _ _ _ _
  refine AWP.seq ?_
  refine AWP.region (l := [0, 1]) rfl ?_
  refine AOps.cons rfl rfl (AOp.pcallH («as» := [.ptr i33 0 0, .int .i64 4]) rfl rfl (rfl) tf_55 (c_of (addL (addL (VT.mk 0 0 0) 1 ([(at_ vs ((at_ t.ed i).A)), (at_ vs ((at_ t.ed i).B))] : List VT)) 1 ([(at_ fc ((at_ t.ed i).F)), (at_ fc ((at_ t.ed i).G))] : List VT)) 4 (inV_le (two_sum h2i hvF hvG) (by decide)) (by decide) h115) ?_)
  intro H119 m120
  have h121 := m120 _ _ h116
  have h122 := m120 _ _ h117
  have h123 := m120 _ _ h115
  have m124 := m118.trans m120
  refine AOps.cons rfl rfl (AOp.store' (cells' := [.int .i64 ((ofV (addL (addL (VT.mk 0 0 0) 1 ([(at_ vs ((at_ t.ed i).A)), (at_ vs ((at_ t.ed i).B))] : List VT)) 1 ([(at_ fc ((at_ t.ed i).F)), (at_ fc ((at_ t.ed i).G))] : List VT)) 4).X), .int .i64 ((ofV (addL (addL (VT.mk 0 0 0) 1 ([(at_ vs ((at_ t.ed i).A)), (at_ vs ((at_ t.ed i).B))] : List VT)) 1 ([(at_ fc ((at_ t.ed i).F)), (at_ fc ((at_ t.ed i).G))] : List VT)) 4).Y), .int .i64 ((ofV (addL (addL (VT.mk 0 0 0) 1 ([(at_ vs ((at_ t.ed i).A)), (at_ vs ((at_ t.ed i).B))] : List VT)) 1 ([(at_ fc ((at_ t.ed i).F)), (at_ fc ((at_ t.ed i).G))] : List VT)) 4).Z)]) (.agg [.int .i64 ((ofV (addL (addL (VT.mk 0 0 0) 1 ([(at_ vs ((at_ t.ed i).A)), (at_ vs ((at_ t.ed i).B))] : List VT)) 1 ([(at_ fc ((at_ t.ed i).F)), (at_ fc ((at_ t.ed i).G))] : List VT)) 4).X), .int .i64 ((ofV (addL (addL (VT.mk 0 0 0) 1 ([(at_ vs ((at_ t.ed i).A)), (at_ vs ((at_ t.ed i).B))] : List VT)) 1 ([(at_ fc ((at_ t.ed i).F)), (at_ fc ((at_ t.ed i).G))] : List VT)) 4).Y), .int .i64 ((ofV (addL (addL (VT.mk 0 0 0) 1 ([(at_ vs ((at_ t.ed i).A)), (at_ vs ((at_ t.ed i).B))] : List VT)) 1 ([(at_ fc ((at_ t.ed i).F)), (at_ fc ((at_ t.ed i).G))] : List VT)) 4).Z)]) rfl rfl ts_42 h122 rfl rfl rfl rfl ?_)
  intro H125 h126 k127
  have h128 := keep k127 e6 h121
  have h130 := keep k127 (Ne.symm e39) h123
  have m131 := Mono.set m124 z7 k127
  refine AOps.nil ?_
  change AWP _ _ _ _ _ _
  refine AWP.ret ?_
  refine ⟨_, _, Ghost.refl, .inr rfl, _, Res.list1 rfl (.cell (v := .agg [.int .i64 ((ofV (addL (addL (VT.mk 0 0 0) 1 ([(at_ vs ((at_ t.ed i).A)), (at_ vs ((at_ t.ed i).B))] : List VT)) 1 ([(at_ fc ((at_ t.ed i).F)), (at_ fc ((at_ t.ed i).G))] : List VT)) 4).X), .int .i64 ((ofV (addL (addL (VT.mk 0 0 0) 1 ([(at_ vs ((at_ t.ed i).A)), (at_ vs ((at_ t.ed i).B))] : List VT)) 1 ([(at_ fc ((at_ t.ed i).F)), (at_ fc ((at_ t.ed i).G))] : List VT)) 4).Y), .int .i64 ((ofV (addL (addL (VT.mk 0 0 0) 1 ([(at_ vs ((at_ t.ed i).A)), (at_ vs ((at_ t.ed i).B))] : List VT)) 1 ([(at_ fc ((at_ t.ed i).F)), (at_ fc ((at_ t.ed i).G))] : List VT)) 4).Z)]) rfl ty_42 h126 rfl (.nil)), ?_, m131⟩
  exact (congrArg AV.agg (lc (congrArg (AV.int .i64) (show ((ofV (addL (addL (VT.mk 0 0 0) 1 ([(at_ vs ((at_ t.ed i).A)), (at_ vs ((at_ t.ed i).B))] : List VT)) 1 ([(at_ fc ((at_ t.ed i).F)), (at_ fc ((at_ t.ed i).G))] : List VT)) 4).X : Int) = (edgeP vs fc (at_ t.ed i) (at_ sh i)).X from by rw [edge_T b81])) (lc (congrArg (AV.int .i64) (show ((ofV (addL (addL (VT.mk 0 0 0) 1 ([(at_ vs ((at_ t.ed i).A)), (at_ vs ((at_ t.ed i).B))] : List VT)) 1 ([(at_ fc ((at_ t.ed i).F)), (at_ fc ((at_ t.ed i).G))] : List VT)) 4).Y : Int) = (edgeP vs fc (at_ t.ed i) (at_ sh i)).Y from by rw [edge_T b81])) (lc (congrArg (AV.int .i64) (show ((ofV (addL (addL (VT.mk 0 0 0) 1 ([(at_ vs ((at_ t.ed i).A)), (at_ vs ((at_ t.ed i).B))] : List VT)) 1 ([(at_ fc ((at_ t.ed i).F)), (at_ fc ((at_ t.ed i).G))] : List VT)) 4).Z : Int) = (edgeP vs fc (at_ t.ed i) (at_ sh i)).Z from by rw [edge_T b81])) rfl))))
 ·
  refine AWP.condT rfl (nb (decide_eq_false b81)) ?_
  refine AWP.seq ?_
  refine AWP.region (l := [0, 1]) rfl ?_
  refine AOps.cons rfl rfl (AOp.pcallH («as» := [.ptr i33 0 0, .int .i64 2]) rfl rfl (rfl) tf_55 (c_of (addL (VT.mk 0 0 0) 1 ([(at_ vs ((at_ t.ed i).A)), (at_ vs ((at_ t.ed i).B))] : List VT)) 2 (inV_le (two_sum (z_in (m := 0) (by decide)) hvA hvB) (by decide)) (by decide) h77) ?_)
  intro H132 m133
  have h134 := m133 _ _ h78
  have h135 := m133 _ _ h79
  have h136 := m133 _ _ h77
  have m137 := m80.trans m133
  refine AOps.cons rfl rfl (AOp.store' (cells' := [.int .i64 ((ofV (addL (VT.mk 0 0 0) 1 ([(at_ vs ((at_ t.ed i).A)), (at_ vs ((at_ t.ed i).B))] : List VT)) 2).X), .int .i64 ((ofV (addL (VT.mk 0 0 0) 1 ([(at_ vs ((at_ t.ed i).A)), (at_ vs ((at_ t.ed i).B))] : List VT)) 2).Y), .int .i64 ((ofV (addL (VT.mk 0 0 0) 1 ([(at_ vs ((at_ t.ed i).A)), (at_ vs ((at_ t.ed i).B))] : List VT)) 2).Z)]) (.agg [.int .i64 ((ofV (addL (VT.mk 0 0 0) 1 ([(at_ vs ((at_ t.ed i).A)), (at_ vs ((at_ t.ed i).B))] : List VT)) 2).X), .int .i64 ((ofV (addL (VT.mk 0 0 0) 1 ([(at_ vs ((at_ t.ed i).A)), (at_ vs ((at_ t.ed i).B))] : List VT)) 2).Y), .int .i64 ((ofV (addL (VT.mk 0 0 0) 1 ([(at_ vs ((at_ t.ed i).A)), (at_ vs ((at_ t.ed i).B))] : List VT)) 2).Z)]) rfl rfl ts_42 h135 rfl rfl rfl rfl ?_)
  intro H138 h139 k140
  have h141 := keep k140 e6 h134
  have h143 := keep k140 (Ne.symm e39) h136
  have m144 := Mono.set m137 z7 k140
  refine AOps.nil ?_
  change AWP _ _ _ _ _ _
  refine AWP.ret ?_
  refine ⟨_, _, Ghost.refl, .inr rfl, _, Res.list1 rfl (.cell (v := .agg [.int .i64 ((ofV (addL (VT.mk 0 0 0) 1 ([(at_ vs ((at_ t.ed i).A)), (at_ vs ((at_ t.ed i).B))] : List VT)) 2).X), .int .i64 ((ofV (addL (VT.mk 0 0 0) 1 ([(at_ vs ((at_ t.ed i).A)), (at_ vs ((at_ t.ed i).B))] : List VT)) 2).Y), .int .i64 ((ofV (addL (VT.mk 0 0 0) 1 ([(at_ vs ((at_ t.ed i).A)), (at_ vs ((at_ t.ed i).B))] : List VT)) 2).Z)]) rfl ty_42 h139 rfl (.nil)), ?_, m144⟩
  exact (congrArg AV.agg (lc (congrArg (AV.int .i64) (show ((ofV (addL (VT.mk 0 0 0) 1 ([(at_ vs ((at_ t.ed i).A)), (at_ vs ((at_ t.ed i).B))] : List VT)) 2).X : Int) = (edgeP vs fc (at_ t.ed i) (at_ sh i)).X from by rw [edge_F b81])) (lc (congrArg (AV.int .i64) (show ((ofV (addL (VT.mk 0 0 0) 1 ([(at_ vs ((at_ t.ed i).A)), (at_ vs ((at_ t.ed i).B))] : List VT)) 2).Y : Int) = (edgeP vs fc (at_ t.ed i) (at_ sh i)).Y from by rw [edge_F b81])) (lc (congrArg (AV.int .i64) (show ((ofV (addL (VT.mk 0 0 0) 1 ([(at_ vs ((at_ t.ed i).A)), (at_ vs ((at_ t.ed i).B))] : List VT)) 2).Z : Int) = (edgeP vs fc (at_ t.ed i) (at_ sh i)).Z from by rw [edge_F b81])) rfl))))
end Go.Proofs.U
namespace Go.Proofs.U
open Go Go.AH Go.Proofs.T
set_option maxRecDepth 4000
def othL (vs : List VT) (ed : List Ed) (v : Int) (es : List Int) : VT := sumL (es.map fun e => othV vs (at_ ed e) v)
def hardF (sh : List Int) (es : List Int) : List Int := es.filter fun e => decide (¬ at_ sh e = 0)
theorem othL_app (vs : List VT) (ed : List Ed) (v : Int) (a b : List Int) : othL vs ed v (a ++ b) = addV (othL vs ed v a) (othL vs ed v b) := by unfold othL; rw [List.map_append, sumL_app]
theorem othL_one (vs : List VT) (ed : List Ed) (v e : Int) : othL vs ed v [e] = othV vs (at_ ed e) v := by unfold othL; rw [List.map_singleton, sumL_one]
section
variable {vs : List VT} {ed : List Ed} {sh es : List Int} {v i : Int}
theorem oth_step (h0 : 0 ≤ i) (h1 : i < es.length) : addL (othL vs ed v (es.take i.toNat)) 1 [othV vs (at_ ed (at_ es i)) v] = othL vs ed v (es.take (i + 1).toNat) := by
  rw [addL_1, take_step h0 h1, othL_app, othL_one]
theorem hard_T (h0 : 0 ≤ i) (h1 : i < es.length) (h : ¬ at_ sh (at_ es i) = 0) : hardF sh (es.take (i + 1).toNat) = hardF sh (es.take i.toNat) ++ [at_ es i] := by
  rw [take_step h0 h1]; unfold hardF; rw [List.filter_append]; congr 1; simp [h]
theorem hard_F (h0 : 0 ≤ i) (h1 : i < es.length) (h : at_ sh (at_ es i) = 0) : hardF sh (es.take (i + 1).toNat) = hardF sh (es.take i.toNat) := by
  rw [take_step h0 h1]; unfold hardF; rw [List.filter_append]; simp [h]
theorem hoth_T (h0 : 0 ≤ i) (h1 : i < es.length) (h : ¬ at_ sh (at_ es i) = 0) : addL (othL vs ed v (hardF sh (es.take i.toNat))) 1 [othV vs (at_ ed (at_ es i)) v] = othL vs ed v (hardF sh (es.take (i + 1).toNat)) := by
  rw [hard_T h0 h1 h, addL_1, othL_app, othL_one]
theorem oth_in (h0 : 0 ≤ i) (h1 : i < es.length) (h : inV (65536 * i) (othL vs ed v (es.take i.toNat))) (hx : inV 65536 (othV vs (at_ ed (at_ es i)) v)) : inV (65536 * (i + 1)) (othL vs ed v (es.take (i + 1).toNat)) := by
  rw [← oth_step h0 h1, addL_1]; refine inV_le (inV_add h hx) ?_; rw [Int.mul_add]; omega
theorem hoth_inT (h0 : 0 ≤ i) (h1 : i < es.length) (g : ¬ at_ sh (at_ es i) = 0) (h : inV (65536 * i) (othL vs ed v (hardF sh (es.take i.toNat)))) (hx : inV 65536 (othV vs (at_ ed (at_ es i)) v)) : inV (65536 * (i + 1)) (othL vs ed v (hardF sh (es.take (i + 1).toNat))) := by
  rw [← hoth_T h0 h1 g, addL_1]; refine inV_le (inV_add h hx) ?_; rw [Int.mul_add]; omega
theorem hoth_inF (h0 : 0 ≤ i) (h1 : i < es.length) (g : at_ sh (at_ es i) = 0) (h : inV (65536 * i) (othL vs ed v (hardF sh (es.take i.toNat)))) : inV (65536 * (i + 1)) (othL vs ed v (hardF sh (es.take (i + 1).toNat))) := by
  rw [hard_F h0 h1 g]; exact inV_le h (by omega)
theorem hlen_T (h0 : 0 ≤ i) (h1 : i < es.length) (h : ¬ at_ sh (at_ es i) = 0) : ((hardF sh (es.take i.toNat)).length : Int) + 1 = ((hardF sh (es.take (i + 1).toNat)).length : Int) := by
  rw [hard_T h0 h1 h, List.length_append]; rfl
theorem hlen_F (h0 : 0 ≤ i) (h1 : i < es.length) (h : at_ sh (at_ es i) = 0) : ((hardF sh (es.take i.toNat)).length : Int) = ((hardF sh (es.take (i + 1).toNat)).length : Int) := by
  rw [hard_F h0 h1 h]
end
theorem hardF_le (sh es : List Int) : (hardF sh es).length ≤ es.length := List.length_filter_le _ _
theorem fan_step {s : VT} {vs : List VT} {l : List Int} {i : Int} (h0 : 0 ≤ i) (h1 : i < l.length) : addL (addV s (sumL ((l.take i.toNat).map fun k => at_ vs k))) 1 [at_ vs (at_ l i)] = addV s (sumL ((l.take (i + 1).toNat).map fun k => at_ vs k)) := by
  rw [← sum_step h0 h1, addL_1, addL_1, addV_assoc]
/-- A vertex's point: its edges, their sharpness, its faces' points. -/
def vertP (vs fc : List VT) (ed : List Ed) (sh : List Int) (fan es : List Int) (v : Int) : VT :=
  if ((hardF sh es).length : Int) > 2 then at_ vs v
  else if ((hardF sh es).length : Int) = 2 then ofV (addV (othL vs ed v (hardF sh es)) (scaleV (at_ vs v) 6)) 8
  else ofV (addV (addV (othL vs ed v es) (scaleV (at_ vs v) ((fan.length : Int) * ((fan.length : Int) - 2)))) (sumL (fan.map fun k => at_ fc k))) ((fan.length : Int) * (fan.length : Int))
section
variable {vs fc : List VT} {ed : List Ed} {sh fan es : List Int} {v i : Int}
theorem vert_3 (ha : es.take i.toNat = es) (h : ((hardF sh (es.take i.toNat)).length : Int) > 2) : vertP vs fc ed sh fan es v = at_ vs v := by
  rw [ha] at h; unfold vertP; rw [if_pos h]
theorem vert_2 (ha : es.take i.toNat = es) (h : ¬ ((hardF sh (es.take i.toNat)).length : Int) > 2) (g : ((hardF sh (es.take i.toNat)).length : Int) = 2) : ofV (addL (othL vs ed v (hardF sh (es.take i.toNat))) 6 [at_ vs v]) 8 = vertP vs fc ed sh fan es v := by
  rw [ha] at h g ⊢; unfold vertP; rw [if_neg h, if_pos g]; rfl
theorem vert_0 {j : Int} (hj : (fan.length : Int) ≤ j) (ha : es.take i.toNat = es) (h : ¬ ((hardF sh (es.take i.toNat)).length : Int) > 2) (g : ¬ ((hardF sh (es.take i.toNat)).length : Int) = 2) : ofV (addV (addV (othL vs ed v es) (scaleV (at_ vs v) ((fan.length : Int) * ((fan.length : Int) - 2)))) (sumL ((fan.take j.toNat).map fun k => at_ fc k))) ((fan.length : Int) * (fan.length : Int)) = vertP vs fc ed sh fan es v := by
  rw [ha] at h g; unfold vertP; rw [if_neg h, if_neg g, take_all hj]
theorem fan_0 {k : Int} {x : VT} {l : List Int} (ha : es.take i.toNat = es) : addL (othL vs ed v (es.take i.toNat)) k [x] = addV (addV (othL vs ed v es) (scaleV x k)) (sumL ((l.take (0 : Int).toNat).map fun k => at_ fc k)) := by
  rw [ha, addL_one]; exact (addV_zero _).symm
end
theorem nn_rng {n : Int} (h : 1 ≤ n ∧ n ≤ 1000) : (-1048576 ≤ n * (n - 2) ∧ n * (n - 2) ≤ 1048576) ∧ 1 ≤ n * n ∧ n * n ≤ 1048576 := by
  have h1 := mul_rng (x := n) (k := n - 2) (a := 1000) (c := 1000) (by omega) (by omega)
  have h2 := mul_rng (x := n) (k := n) (a := 1000) (c := 1000) (by omega) (by omega)
  have h3 : 0 < n * n := Int.mul_pos (by omega) (by omega)
  omega
theorem inV_fan {s : VT} {C : Int} {vs : List VT} {l : List Int} {i : Int} (hs : inV C s) (h : inV (65536 * i) (sumL ((l.take i.toNat).map fun k => at_ vs k))) : inV (C + 65536 * i) (addV s (sumL ((l.take i.toNat).map fun k => at_ vs k))) := inV_add hs h
end Go.Proofs.U
namespace Go.Proofs.U
open Go Go.AH Go.Proofs.T
set_option maxRecDepth 4000
set_option linter.unusedSimpArgs false
set_option linter.unusedVariables false
set_option maxHeartbeats 2000000
theorem c_vertex {H0 : Heap} {fid : Nat} (vs : List VT) (fs : List (List Int)) (cr : List CrT) (t : Tp) (sh : List Int) (eg : List (List Int)) (fc : List VT) (v : Int) (hvr : 0 ≤ v ∧ v < vs.length) (hAB : ∀ e ∈ t.ed, (0 ≤ e.A ∧ e.A < (vs.length : Int)) ∧ 0 ≤ e.B ∧ e.B < (vs.length : Int)) (hel : t.ed.length ≤ 1048576) (hsl : sh.length = t.ed.length) (hgl : v < eg.length) (hgv : (at_ eg v).length ≤ 100000) (heg : ∀ e ∈ at_ eg v, (0 ≤ e ∧ e < (t.ed.length : Int)) ∧ (v = (at_ t.ed e).A ∨ v = (at_ t.ed e).B)) (hfl : v < t.fan.length) (hfn : 1 ≤ (at_ t.fan v).length ∧ (at_ t.fan v).length ≤ 1000) (hff : ∀ f ∈ at_ t.fan v, 0 ≤ f ∧ f < (fc.length : Int)) (hfc : ∀ v ∈ fc, inV 65536 v) (hvl : vs.length ≤ 1048576) (hv : ∀ v ∈ vs, inV 65536 v)  (hr : H0 fid = some (.row 0 [.sl vs.length (vs.flatMap eV), .sl fs.length (fs.map eF), .sl cr.length (cr.flatMap eCr), .sl t.ed.length (t.ed.flatMap eE), .sl t.fan.length (t.fan.map eF), .sl t.rnd.length (t.rnd.map eBo), .sl sh.length (sh.map eI), .sl eg.length (eg.map eF), .sl fc.length (fc.flatMap eV)])) : ACalls Try.prog 36 [.ptr fid 0 0, .int .i64 v] H0 fun r H' => r = (.agg [.int .i64 ((vertP vs fc t.ed sh (at_ t.fan v) (at_ eg v) v).X), .int .i64 ((vertP vs fc t.ed sh (at_ t.fan v) (at_ eg v) v).Y), .int .i64 ((vertP vs fc t.ed sh (at_ t.fan v) (at_ eg v) v).Z)]) ∧ Mono H0 H' := by
 have hvv := hv _ (at_mem hvr.1 hvr.2)
 have hnr := nn_rng (n := ((at_ t.fan v).length : Int)) (by omega)
 refine ACalls.of_body' (n := 123) rfl rfl rfl rfl ?_
 have m0 := Mono.refl H0
 refine AWP.seq ?_
 refine AWP.region (l := [0]) rfl ?_
 refine AOps.cons rfl rfl (AOp.alloc rfl tz_42 ?_)
 intro i1 H2 n3 h4 k5
 have e6 := ne_new hr n3
 have z7 := Mono.free m0 n3
 have h8 := keep k5 (ne_new hr n3) hr
 have m9 := Mono.new m0 n3 k5
 refine AOps.nil ?_
 change AWP _ _ _ _ _ _
 refine AWP.seq ?_
 refine AWP.region (l := [0, 1]) rfl ?_
 refine AOps.cons rfl rfl (AOp.alloc rfl tz_108 ?_)
 intro i10 H11 n12 h13 k14
 have e15 := ne_new h8 n12
 have e16 := ne_new h4 n12
 have z17 := Mono.free m9 n12
 have h18 := keep k14 (ne_new h8 n12) h8
 have h19 := keep k14 (ne_new h4 n12) h4
 have m20 := Mono.new m9 n12 k14
 refine AOps.cons rfl rfl (AOp.alloc rfl tz_108 ?_)
 intro i21 H22 n23 h24 k25
 have e26 := ne_new h18 n23
 have e27 := ne_new h19 n23
 have e28 := ne_new h13 n23
 have z29 := Mono.free m20 n23
 have h30 := keep k25 (ne_new h18 n23) h18
 have h31 := keep k25 (ne_new h19 n23) h19
 have h32 := keep k25 (ne_new h13 n23) h13
 have m33 := Mono.new m20 n23 k25
 refine AOps.nil ?_
 change AWP _ _ _ _ _ _
 refine AWP.seq ?_
 refine AWP.region (l := [0]) rfl ?_
 refine AOps.cons rfl rfl (AOp.assign (.int .i64 0) rfl rfl ?_)
 refine AOps.nil ?_
 change AWP _ _ _ _ _ _
 refine AWP.seq ?_
 refine AWP.seq ?_
 refine AWP.region (l := [0, 1, 2, 3, 4, 5, 6, 7, 8]) rfl ?_
 refine AOps.cons rfl rfl (AOp.move (.ptr fid 0 0) rfl rfl ?_)
 refine AOps.cons rfl rfl (AOp.nilCheck (.ptr fid 0 0) rfl rfl rfl ?_)
 refine AOps.cons rfl rfl (AOp.fieldAddr rfl rfl fl_79_3 ?_ (hid := ⟨_, h30⟩))
 refine AOps.cons rfl rfl (AOp.load (.sl eg.length (eg.map eF)) rfl rfl ty_23 h30 rfl ?_)
 refine AOps.cons rfl rfl (AOp.move (.int .i64 v) rfl rfl ?_)
 refine AOps.cons rfl rfl (AOp.indexAddrS rfl rfl rfl sl_23 (by omega) (by omega) ?_)
 refine AOps.cons rfl rfl (AOp.loadF (.sl (at_ eg v).length ((at_ eg v).map eI)) rfl rfl ty_38 (ld1 (by omega) (by omega)) ?_)
 refine AOps.cons rfl rfl (AOp.len (m := (at_ eg v).length) rfl rfl (.inr (.inl ⟨_, rfl⟩)) u_38 ?_)
 refine AOps.cons rfl rfl (AOp.move (.int .i64 0) rfl rfl ?_)
 refine AOps.nil ?_
 change AWP _ _ _ _ _ _
 refine AWP.block ?_
 refine AWP.loop (fun q34 fq Hq => ∃ (i : Int), q34 = ((((at_ eg v).length : Int) : Int) - i).toNat ∧ fq 21 = .int .i64 i ∧ fq 7 = .int .i64 ((hardF sh ((at_ eg v).take i.toNat)).length : Int) ∧ fq 0 = .ptr fid 0 0 ∧ fq 1 = .int .i64 v ∧ fq 4 = .ptr i1 0 0 ∧ fq 5 = .ptr i10 0 0 ∧ fq 6 = .ptr i21 0 0 ∧ fq 19 = .sl (at_ eg v).length ((at_ eg v).map eI) ∧ fq 20 = .int .i64 (((at_ eg v).length) : Int) ∧ Hq fid = some (.row 0 ([.sl vs.length (vs.flatMap eV), .sl fs.length (fs.map eF), .sl cr.length (cr.flatMap eCr), .sl t.ed.length (t.ed.flatMap eE), .sl t.fan.length (t.fan.map eF), .sl t.rnd.length (t.rnd.map eBo), .sl sh.length (sh.map eI), .sl eg.length (eg.map eF), .sl fc.length (fc.flatMap eV)])) ∧ Hq i1 = some (.row 0 ([.int .i64 0, .int .i64 0, .int .i64 0])) ∧ Hq i10 = some (.row 0 ([.int .i64 ((othL vs t.ed v ((at_ eg v).take i.toNat)).X), .int .i64 ((othL vs t.ed v ((at_ eg v).take i.toNat)).Y), .int .i64 ((othL vs t.ed v ((at_ eg v).take i.toNat)).Z)])) ∧ Hq i21 = some (.row 0 ([.int .i64 ((othL vs t.ed v (hardF sh ((at_ eg v).take i.toNat))).X), .int .i64 ((othL vs t.ed v (hardF sh ((at_ eg v).take i.toNat))).Y), .int .i64 ((othL vs t.ed v (hardF sh ((at_ eg v).take i.toNat))).Z)])) ∧ Mono H0 Hq ∧ (0 ≤ i) ∧ (i ≤ ((at_ eg v).length : Int)) ∧ (inV (65536 * i) (othL vs t.ed v ((at_ eg v).take i.toNat))) ∧ (inV (65536 * i) (othL vs t.ed v (hardF sh ((at_ eg v).take i.toNat))))) (k := ((((at_ eg v).length : Int) : Int) - 0).toNat) ?_ ?_
 ·
  exact ⟨0, rfl, rfl, (congrArg (AV.int .i64) (show (0 : Int) = ((hardF sh ((at_ eg v).take (0 : Int).toNat)).length : Int) from by rfl)), rfl, rfl, rfl, rfl, rfl, rfl, rfl, h30, h31, (h32.trans (congrArg (fun c => some (AB.row 0 c)) (show ([.int .i64 0, .int .i64 0, .int .i64 0] : List AV) = [.int .i64 ((othL vs t.ed v ((at_ eg v).take (0 : Int).toNat)).X), .int .i64 ((othL vs t.ed v ((at_ eg v).take (0 : Int).toNat)).Y), .int .i64 ((othL vs t.ed v ((at_ eg v).take (0 : Int).toNat)).Z)] from by first | rfl | (rw [oth_step hi0 (by omega)]) | (rw [fan_step hj0 (by omega)]) | (rw [fan_0 (fc := fc) (l := (at_ t.fan v)) hall])))), (h24.trans (congrArg (fun c => some (AB.row 0 c)) (show ([.int .i64 0, .int .i64 0, .int .i64 0] : List AV) = [.int .i64 ((othL vs t.ed v (hardF sh ((at_ eg v).take (0 : Int).toNat))).X), .int .i64 ((othL vs t.ed v (hardF sh ((at_ eg v).take (0 : Int).toNat))).Y), .int .i64 ((othL vs t.ed v (hardF sh ((at_ eg v).take (0 : Int).toNat))).Z)] from by rfl))), m33, by omega, by omega, by exact z_in (by omega), by exact z_in (by omega)⟩
 ·
  rintro _ f36 H35 ⟨i, rfl, s37, s38, s39, s40, s41, s42, s43, s44, s45, h46, h47, h48, h49, m50, hi0, hi1, hin5, hin6⟩
  refine AWP.seq ?_
  refine AWP.region (l := [0]) rfl ?_
  refine AOps.cons rfl rfl (AOp.bin (.bool (decide (i < (((at_ eg v).length) : Int)))) rfl s37 s45 rfl ?_)
  refine AOps.nil ?_
  change AWP _ _ _ _ _ _
  refine AWP.seq ?_
  by_cases b51 : i < (((at_ eg v).length) : Int)
  ·
   refine AWP.condT rfl (decide_eq_true b51) ?_
   refine AWP.skip ?_
   change AWP _ _ _ _ _ _
   refine AWP.seq ?_
   refine AWP.block ?_
   refine AWP.seq ?_
   refine AWP.region (l := [0, 1, 2]) rfl ?_
   refine AOps.cons rfl rfl (AOp.indexAddrS rfl s44 s37 sl_38 (by omega) (by omega) ?_)
   refine AOps.cons rfl rfl (AOp.loadF (.int .i64 (at_ (at_ eg v) i)) rfl rfl ty_3 (ld1 (by omega) (by omega)) ?_)
   refine AOps.cons rfl rfl (AOp.assign (.int .i64 (at_ (at_ eg v) i)) rfl rfl ?_)
   refine AOps.nil ?_
   change AWP _ _ _ _ _ _
   refine AWP.seq ?_
   obtain ⟨he, hev⟩ := heg _ (at_mem hi0 (by omega : i < (at_ eg v).length))
   obtain ⟨heA, heB⟩ := hAB _ (at_mem he.1 he.2)
   have hoi : inV 65536 (othV vs (at_ t.ed (at_ (at_ eg v) i)) v) := hv _ (at_mem (by omega) (by omega))
   refine AWP.region (l := [0, 1, 2, 3, 4, 5]) rfl ?_
   refine AOps.cons rfl rfl (AOp.move (.ptr fid 0 0) rfl s39 ?_)
   refine AOps.cons rfl rfl (AOp.move (.int .i64 (at_ (at_ eg v) i)) rfl rfl ?_)
   refine AOps.cons rfl rfl (AOp.move (.int .i64 v) rfl s40 ?_)
   refine AOps.cons rfl rfl (AOp.pcallH («as» := [.ptr fid 0 0, .int .i64 (at_ (at_ eg v) i), .int .i64 v]) rfl rfl (rfl) tf_56 (c_other vs fs cr t sh (at_ (at_ eg v) i) v he heA heB hev hvl h46) ?_)
   intro H52 m53
   have h54 := m53 _ _ h46
   have h55 := m53 _ _ h47
   have h56 := m53 _ _ h48
   have h57 := m53 _ _ h49
   have m58 := m50.trans m53
   refine AOps.cons rfl rfl (AOp.buildSlice (cells := [.int .i64 ((othV vs (at_ t.ed (at_ (at_ eg v) i)) v).X), .int .i64 ((othV vs (at_ t.ed (at_ (at_ eg v) i)) v).Y), .int .i64 ((othV vs (at_ t.ed (at_ (at_ eg v) i)) v).Z)]) rfl u_22 ts_42 tz_42 rfl rfl rfl ?_)
   intro i59 H60 n61 h62 k63
   have e64 := ne_new h54 n61
   have e65 := ne_new h55 n61
   have e66 := ne_new h56 n61
   have e67 := ne_new h57 n61
   have z68 := Mono.free m58 n61
   have h69 := keep k63 (ne_new h54 n61) h54
   have h70 := keep k63 (ne_new h55 n61) h55
   have h71 := keep k63 (ne_new h56 n61) h56
   have h72 := keep k63 (ne_new h57 n61) h57
   have m73 := Mono.new m58 n61 k63
   obtain ⟨v74, e75⟩ : ∃ v : AV, v = .slm i59 0 3 0 1 := ⟨_, rfl⟩
   have o76 : Own H0 H60 3 v74 1 [.int .i64 ((othV vs (at_ t.ed (at_ (at_ eg v) i)) v).X), .int .i64 ((othV vs (at_ t.ed (at_ (at_ eg v) i)) v).Y), .int .i64 ((othV vs (at_ t.ed (at_ (at_ eg v) i)) v).Z)] := .inr ⟨_, _, e75, h62, z68, rfl⟩
   have no77 : NotId v74 fid := by rw [e75]; exact NotId.slm e64
   have no78 : NotId v74 i1 := by rw [e75]; exact NotId.slm e65
   have no79 : NotId v74 i10 := by rw [e75]; exact NotId.slm e66
   have no80 : NotId v74 i21 := by rw [e75]; exact NotId.slm e67
   refine AOps.cons rfl rfl ?_
   refine AOp.frz 29 (o76) e75.symm m73 fun H81 m82 k83 => ?_
   have h84 := (k83 _ no77).trans h69
   have h85 := (k83 _ no78).trans h70
   have h86 := (k83 _ no79).trans h71
   have h87 := (k83 _ no80).trans h72
   refine AOp.xcall («as» := [.ptr i10 0 0, .int .i64 1, .sl ([(othV vs (at_ t.ed (at_ (at_ eg v) i)) v)] : List VT).length (([(othV vs (at_ t.ed (at_ (at_ eg v) i)) v)] : List VT).flatMap eV)]) rfl rfl (lapp (lcons s42 (lcons rfl (lcons rfl rfl))) rfl) tf_54 (c_add (othL vs t.ed v ((at_ eg v).take i.toNat)) 1 ([(othV vs (at_ t.ed (at_ (at_ eg v) i)) v)] : List VT) (by simp) (inV_le hin5 (by omega)) (one_in hoi) h86) ?_
   rintro _ H88 ⟨rfl, m89, h90⟩
   have h91 := m89 _ _ (hide_get e15 h84)
   have h92 := m89 _ _ (hide_get e16 h85)
   have h93 := m89 _ _ (hide_get (Ne.symm e28) h87)
   have m94 := Mono.hide_ m82 z17 m89
   refine AOps.nil ?_
   change AWP _ _ _ _ _ _
   refine AWP.seq ?_
   refine AWP.region (l := [0, 1, 2, 3, 4, 5, 6, 7]) rfl ?_
   refine AOps.cons rfl rfl (AOp.move (.ptr fid 0 0) rfl s39 ?_)
   refine AOps.cons rfl rfl (AOp.nilCheck (.ptr fid 0 0) rfl rfl rfl ?_)
   refine AOps.cons rfl rfl (AOp.fieldAddr rfl rfl fl_79_2 ?_ (hid := ⟨_, h91⟩))
   refine AOps.cons rfl rfl (AOp.load (.sl sh.length (sh.map eI)) rfl rfl ty_38 h91 rfl ?_)
   refine AOps.cons rfl rfl (AOp.move (.int .i64 (at_ (at_ eg v) i)) rfl rfl ?_)
   refine AOps.cons rfl rfl (AOp.indexAddrS rfl rfl rfl sl_38 (by omega) (by omega) ?_)
   refine AOps.cons rfl rfl (AOp.loadF (.int .i64 (at_ sh (at_ (at_ eg v) i))) rfl rfl ty_3 (ld1 (by omega) (by omega)) ?_)
   refine AOps.cons rfl rfl (AOp.bin (.bool (!decide (at_ sh (at_ (at_ eg v) i) = 0))) rfl rfl rfl ine ?_)
   refine AOps.nil ?_
   change AWP _ _ _ _ _ _
   by_cases b95 : at_ sh (at_ (at_ eg v) i) = 0
   ·
    refine AWP.condF rfl (nb (decide_eq_true b95)) ?_
    refine AWP.skip ?_
    change AWP _ _ _ _ _ _
    refine AWP.region (l := [0, 1]) rfl ?_
    refine AOps.cons rfl rfl (AOp.bin (.int .i64 (i + 1)) rfl s37 rfl (iadd (by omega)) ?_)
    refine AOps.cons rfl rfl (AOp.move (.int .i64 (i + 1)) rfl rfl ?_)
    refine AOps.nil ?_
    exact ⟨_, by omega, i + 1, rfl, rfl, (s38.trans (congrArg (AV.int .i64) (show (((hardF sh ((at_ eg v).take i.toNat)).length : Int) : Int) = ((hardF sh ((at_ eg v).take (i + 1).toNat)).length : Int) from by exact hlen_F hi0 (by omega) b95))), s39, s40, s41, s42, s43, s44, s45, h91, h92, (h90.trans (congrArg (fun c => some (AB.row 0 c)) (show ([.int .i64 ((addL (othL vs t.ed v ((at_ eg v).take i.toNat)) 1 ([(othV vs (at_ t.ed (at_ (at_ eg v) i)) v)] : List VT)).X), .int .i64 ((addL (othL vs t.ed v ((at_ eg v).take i.toNat)) 1 ([(othV vs (at_ t.ed (at_ (at_ eg v) i)) v)] : List VT)).Y), .int .i64 ((addL (othL vs t.ed v ((at_ eg v).take i.toNat)) 1 ([(othV vs (at_ t.ed (at_ (at_ eg v) i)) v)] : List VT)).Z)] : List AV) = [.int .i64 ((othL vs t.ed v ((at_ eg v).take (i + 1).toNat)).X), .int .i64 ((othL vs t.ed v ((at_ eg v).take (i + 1).toNat)).Y), .int .i64 ((othL vs t.ed v ((at_ eg v).take (i + 1).toNat)).Z)] from by first | rfl | (rw [oth_step hi0 (by omega)]) | (rw [fan_step hj0 (by omega)]) | (rw [fan_0 (fc := fc) (l := (at_ t.fan v)) hall])))), (h93.trans (congrArg (fun c => some (AB.row 0 c)) (show ([.int .i64 ((othL vs t.ed v (hardF sh ((at_ eg v).take i.toNat))).X), .int .i64 ((othL vs t.ed v (hardF sh ((at_ eg v).take i.toNat))).Y), .int .i64 ((othL vs t.ed v (hardF sh ((at_ eg v).take i.toNat))).Z)] : List AV) = [.int .i64 ((othL vs t.ed v (hardF sh ((at_ eg v).take (i + 1).toNat))).X), .int .i64 ((othL vs t.ed v (hardF sh ((at_ eg v).take (i + 1).toNat))).Y), .int .i64 ((othL vs t.ed v (hardF sh ((at_ eg v).take (i + 1).toNat))).Z)] from by first | rfl | (rw [hoth_T hi0 (by omega) b95]) | (rw [hard_F hi0 (by omega) b95])))), m94, by omega, by omega, by exact oth_in hi0 (by omega) hin5 hoi, by exact hoth_inF hi0 (by omega) b95 hin6⟩
   ·
    refine AWP.condT rfl (nb (decide_eq_false b95)) ?_
    refine AWP.seq ?_
    refine AWP.region (l := [0, 1, 2, 3, 4, 5]) rfl ?_
    refine AOps.cons rfl rfl (AOp.move (.ptr fid 0 0) rfl s39 ?_)
    refine AOps.cons rfl rfl (AOp.move (.int .i64 (at_ (at_ eg v) i)) rfl rfl ?_)
    refine AOps.cons rfl rfl (AOp.move (.int .i64 v) rfl s40 ?_)
    refine AOps.cons rfl rfl (AOp.pcallH («as» := [.ptr fid 0 0, .int .i64 (at_ (at_ eg v) i), .int .i64 v]) rfl rfl (rfl) tf_56 (c_other vs fs cr t sh (at_ (at_ eg v) i) v he heA heB hev hvl h91) ?_)
    intro H96 m97
    have h98 := m97 _ _ h91
    have h99 := m97 _ _ h92
    have h100 := m97 _ _ h93
    have h101 := m97 _ _ h90
    have m102 := m94.trans m97
    refine AOps.cons rfl rfl (AOp.buildSlice (cells := [.int .i64 ((othV vs (at_ t.ed (at_ (at_ eg v) i)) v).X), .int .i64 ((othV vs (at_ t.ed (at_ (at_ eg v) i)) v).Y), .int .i64 ((othV vs (at_ t.ed (at_ (at_ eg v) i)) v).Z)]) rfl u_22 ts_42 tz_42 rfl rfl rfl ?_)
    intro i103 H104 n105 h106 k107
    have e108 := ne_new h98 n105
    have e109 := ne_new h99 n105
    have e110 := ne_new h100 n105
    have e111 := ne_new h101 n105
    have z112 := Mono.free m102 n105
    have h113 := keep k107 (ne_new h98 n105) h98
    have h114 := keep k107 (ne_new h99 n105) h99
    have h115 := keep k107 (ne_new h100 n105) h100
    have h116 := keep k107 (ne_new h101 n105) h101
    have m117 := Mono.new m102 n105 k107
    obtain ⟨v118, e119⟩ : ∃ v : AV, v = .slm i103 0 3 0 1 := ⟨_, rfl⟩
    have o120 : Own H0 H104 3 v118 1 [.int .i64 ((othV vs (at_ t.ed (at_ (at_ eg v) i)) v).X), .int .i64 ((othV vs (at_ t.ed (at_ (at_ eg v) i)) v).Y), .int .i64 ((othV vs (at_ t.ed (at_ (at_ eg v) i)) v).Z)] := .inr ⟨_, _, e119, h106, z112, rfl⟩
    have no121 : NotId v118 fid := by rw [e119]; exact NotId.slm e108
    have no122 : NotId v118 i1 := by rw [e119]; exact NotId.slm e109
    have no123 : NotId v118 i21 := by rw [e119]; exact NotId.slm e110
    have no124 : NotId v118 i10 := by rw [e119]; exact NotId.slm e111
    refine AOps.cons rfl rfl ?_
    refine AOp.frz 43 (o120) e119.symm m117 fun H125 m126 k127 => ?_
    have h128 := (k127 _ no121).trans h113
    have h129 := (k127 _ no122).trans h114
    have h130 := (k127 _ no123).trans h115
    have h131 := (k127 _ no124).trans h116
    refine AOp.xcall («as» := [.ptr i21 0 0, .int .i64 1, .sl ([(othV vs (at_ t.ed (at_ (at_ eg v) i)) v)] : List VT).length (([(othV vs (at_ t.ed (at_ (at_ eg v) i)) v)] : List VT).flatMap eV)]) rfl rfl (lapp (lcons s43 (lcons rfl (lcons rfl rfl))) rfl) tf_54 (c_add (othL vs t.ed v (hardF sh ((at_ eg v).take i.toNat))) 1 ([(othV vs (at_ t.ed (at_ (at_ eg v) i)) v)] : List VT) (by simp) (inV_le hin6 (by omega)) (one_in hoi) h130) ?_
    rintro _ H132 ⟨rfl, m133, h134⟩
    have h135 := m133 _ _ (hide_get e26 h128)
    have h136 := m133 _ _ (hide_get e27 h129)
    have h137 := m133 _ _ (hide_get e28 h131)
    have m138 := Mono.hide_ m126 z29 m133
    refine AOps.nil ?_
    change AWP _ _ _ _ _ _
    have hle9 := hardF_le sh ((at_ eg v).take i.toNat)
    have hlt9 : ((at_ eg v).take i.toNat).length ≤ 100000 := by rw [List.length_take]; omega
    refine AWP.region (l := [0, 1, 2]) rfl ?_
    refine AOps.cons rfl rfl (AOp.move (.int .i64 ((hardF sh ((at_ eg v).take i.toNat)).length : Int)) rfl s38 ?_)
    refine AOps.cons rfl rfl (AOp.bin (.int .i64 (((hardF sh ((at_ eg v).take i.toNat)).length : Int) + 1)) rfl rfl rfl (iadd (by omega)) ?_)
    refine AOps.cons rfl rfl (AOp.assign (.int .i64 (((hardF sh ((at_ eg v).take i.toNat)).length : Int) + 1)) rfl rfl ?_)
    refine AOps.nil ?_
    change AWP _ _ _ _ _ _
    refine AWP.region (l := [0, 1]) rfl ?_
    refine AOps.cons rfl rfl (AOp.bin (.int .i64 (i + 1)) rfl s37 rfl (iadd (by omega)) ?_)
    refine AOps.cons rfl rfl (AOp.move (.int .i64 (i + 1)) rfl rfl ?_)
    refine AOps.nil ?_
    exact ⟨_, by omega, i + 1, rfl, rfl, (congrArg (AV.int .i64) (show (((hardF sh ((at_ eg v).take i.toNat)).length : Int) + 1 : Int) = ((hardF sh ((at_ eg v).take (i + 1).toNat)).length : Int) from by exact hlen_T hi0 (by omega) b95)), s39, s40, s41, s42, s43, s44, s45, h135, h136, (h137.trans (congrArg (fun c => some (AB.row 0 c)) (show ([.int .i64 ((addL (othL vs t.ed v ((at_ eg v).take i.toNat)) 1 ([(othV vs (at_ t.ed (at_ (at_ eg v) i)) v)] : List VT)).X), .int .i64 ((addL (othL vs t.ed v ((at_ eg v).take i.toNat)) 1 ([(othV vs (at_ t.ed (at_ (at_ eg v) i)) v)] : List VT)).Y), .int .i64 ((addL (othL vs t.ed v ((at_ eg v).take i.toNat)) 1 ([(othV vs (at_ t.ed (at_ (at_ eg v) i)) v)] : List VT)).Z)] : List AV) = [.int .i64 ((othL vs t.ed v ((at_ eg v).take (i + 1).toNat)).X), .int .i64 ((othL vs t.ed v ((at_ eg v).take (i + 1).toNat)).Y), .int .i64 ((othL vs t.ed v ((at_ eg v).take (i + 1).toNat)).Z)] from by first | rfl | (rw [oth_step hi0 (by omega)]) | (rw [fan_step hj0 (by omega)]) | (rw [fan_0 (fc := fc) (l := (at_ t.fan v)) hall])))), (h134.trans (congrArg (fun c => some (AB.row 0 c)) (show ([.int .i64 ((addL (othL vs t.ed v (hardF sh ((at_ eg v).take i.toNat))) 1 ([(othV vs (at_ t.ed (at_ (at_ eg v) i)) v)] : List VT)).X), .int .i64 ((addL (othL vs t.ed v (hardF sh ((at_ eg v).take i.toNat))) 1 ([(othV vs (at_ t.ed (at_ (at_ eg v) i)) v)] : List VT)).Y), .int .i64 ((addL (othL vs t.ed v (hardF sh ((at_ eg v).take i.toNat))) 1 ([(othV vs (at_ t.ed (at_ (at_ eg v) i)) v)] : List VT)).Z)] : List AV) = [.int .i64 ((othL vs t.ed v (hardF sh ((at_ eg v).take (i + 1).toNat))).X), .int .i64 ((othL vs t.ed v (hardF sh ((at_ eg v).take (i + 1).toNat))).Y), .int .i64 ((othL vs t.ed v (hardF sh ((at_ eg v).take (i + 1).toNat))).Z)] from by first | rfl | (rw [hoth_T hi0 (by omega) b95]) | (rw [hard_F hi0 (by omega) b95])))), m138, by omega, by omega, by exact oth_in hi0 (by omega) hin5 hoi, by exact hoth_inT hi0 (by omega) b95 hin6 hoi⟩
  ·
   refine AWP.condF rfl (decide_eq_false b51) ?_
   refine AWP.exit ?_
   change AWP _ _ _ _ _ _
   refine AWP.seq ?_
   refine AWP.block ?_
   refine AWP.seq ?_
   have hall := take_all (l := (at_ eg v)) (i := i) (by omega)
   have hle := hardF_le sh ((at_ eg v).take i.toNat)
   refine AWP.region (l := [0, 1, 2]) rfl ?_
   refine AOps.cons rfl rfl (AOp.move (.int .i64 ((hardF sh ((at_ eg v).take i.toNat)).length : Int)) rfl s38 ?_)
   refine AOps.cons rfl rfl (AOp.bin (.bool (decide (((hardF sh ((at_ eg v).take i.toNat)).length : Int) > 2))) rfl rfl rfl rfl ?_)
   refine AOps.cons rfl rfl (AOp.assign (.bool (decide (((hardF sh ((at_ eg v).take i.toNat)).length : Int) > 2))) rfl rfl ?_)
   refine AOps.nil ?_
   change AWP _ _ _ _ _ _
   by_cases b139 : ((hardF sh ((at_ eg v).take i.toNat)).length : Int) > 2
   ·
    refine AWP.condT rfl (decide_eq_true b139) ?_
    refine AWP.seq ?_
    refine AWP.region (l := [0, 1, 2, 3, 4, 5, 6, 7, 8]) rfl ?_
    refine AOps.cons rfl rfl (AOp.move (.ptr fid 0 0) rfl s39 ?_)
    refine AOps.cons rfl rfl (AOp.nilCheck (.ptr fid 0 0) rfl rfl rfl ?_)
    refine AOps.cons rfl rfl (AOp.fieldAddr rfl rfl fl_79_0 ?_ (hid := ⟨_, h46⟩))
    refine AOps.cons rfl rfl (AOp.fieldAddr rfl rfl fl_26_0 ?_ (hid := ⟨_, h46⟩))
    refine AOps.cons rfl rfl (AOp.load (.sl vs.length (vs.flatMap eV)) rfl rfl ty_22 h46 rfl ?_)
    refine AOps.cons rfl rfl (AOp.move (.int .i64 v) rfl s40 ?_)
    refine AOps.cons rfl rfl (AOp.indexAddrS rfl rfl rfl sl_22 (by omega) (by omega) ?_)
    refine AOps.cons rfl rfl (AOp.loadF (.agg [.int .i64 ((at_ vs v).X), .int .i64 ((at_ vs v).Y), .int .i64 ((at_ vs v).Z)]) rfl rfl ty_42 (ldM eV_len (by omega) (by omega)) ?_)
    refine AOps.cons rfl rfl (AOp.store' (cells' := [.int .i64 ((at_ vs v).X), .int .i64 ((at_ vs v).Y), .int .i64 ((at_ vs v).Z)]) (.agg [.int .i64 ((at_ vs v).X), .int .i64 ((at_ vs v).Y), .int .i64 ((at_ vs v).Z)]) s41 rfl ts_42 h47 rfl rfl rfl rfl ?_)
    intro H140 h141 k142
    have h143 := keep k142 e6 h46
    have h145 := keep k142 (Ne.symm e16) h48
    have h146 := keep k142 (Ne.symm e27) h49
    have m147 := Mono.set m50 z7 k142
    refine AOps.nil ?_
    change AWP _ _ _ _ _ _
    refine AWP.ret ?_
    refine ⟨_, _, Ghost.refl, .inr rfl, _, Res.list1 rfl (.cell (v := .agg [.int .i64 ((at_ vs v).X), .int .i64 ((at_ vs v).Y), .int .i64 ((at_ vs v).Z)]) s41 ty_42 h141 rfl (.nil)), ?_, m147⟩
    exact (congrArg AV.agg (lc (congrArg (AV.int .i64) (show ((at_ vs v).X : Int) = (vertP vs fc t.ed sh (at_ t.fan v) (at_ eg v) v).X from by rw [vert_3 hall b139])) (lc (congrArg (AV.int .i64) (show ((at_ vs v).Y : Int) = (vertP vs fc t.ed sh (at_ t.fan v) (at_ eg v) v).Y from by rw [vert_3 hall b139])) (lc (congrArg (AV.int .i64) (show ((at_ vs v).Z : Int) = (vertP vs fc t.ed sh (at_ t.fan v) (at_ eg v) v).Z from by rw [vert_3 hall b139])) rfl))))
   ·
    refine AWP.condF rfl (decide_eq_false b139) ?_
    refine AWP.seq ?_
    refine AWP.region (l := [0, 1, 2]) rfl ?_
    refine AOps.cons rfl rfl (AOp.move (.int .i64 ((hardF sh ((at_ eg v).take i.toNat)).length : Int)) rfl s38 ?_)
    refine AOps.cons rfl rfl (AOp.bin (.bool (decide (((hardF sh ((at_ eg v).take i.toNat)).length : Int) = 2))) rfl rfl rfl ieq ?_)
    refine AOps.cons rfl rfl (AOp.assign (.bool (decide (((hardF sh ((at_ eg v).take i.toNat)).length : Int) = 2))) rfl rfl ?_)
    refine AOps.nil ?_
    change AWP _ _ _ _ _ _
    by_cases b148 : ((hardF sh ((at_ eg v).take i.toNat)).length : Int) = 2
    ·
     refine AWP.condT rfl (decide_eq_true b148) ?_
     refine AWP.seq ?_
     refine AWP.region (l := [0, 1, 2, 3, 4, 5, 6, 7, 8, 9]) rfl ?_
     refine AOps.cons rfl rfl (AOp.move (.ptr fid 0 0) rfl s39 ?_)
     refine AOps.cons rfl rfl (AOp.nilCheck (.ptr fid 0 0) rfl rfl rfl ?_)
     refine AOps.cons rfl rfl (AOp.fieldAddr rfl rfl fl_79_0 ?_ (hid := ⟨_, h46⟩))
     refine AOps.cons rfl rfl (AOp.fieldAddr rfl rfl fl_26_0 ?_ (hid := ⟨_, h46⟩))
     refine AOps.cons rfl rfl (AOp.load (.sl vs.length (vs.flatMap eV)) rfl rfl ty_22 h46 rfl ?_)
     refine AOps.cons rfl rfl (AOp.move (.int .i64 v) rfl s40 ?_)
     refine AOps.cons rfl rfl (AOp.indexAddrS rfl rfl rfl sl_22 (by omega) (by omega) ?_)
     refine AOps.cons rfl rfl (AOp.loadF (.agg [.int .i64 ((at_ vs v).X), .int .i64 ((at_ vs v).Y), .int .i64 ((at_ vs v).Z)]) rfl rfl ty_42 (ldM eV_len (by omega) (by omega)) ?_)
     refine AOps.cons rfl rfl (AOp.buildSlice (cells := [.int .i64 ((at_ vs v).X), .int .i64 ((at_ vs v).Y), .int .i64 ((at_ vs v).Z)]) rfl u_22 ts_42 tz_42 rfl rfl rfl ?_)
     intro i149 H150 n151 h152 k153
     have e154 := ne_new h46 n151
     have e155 := ne_new h47 n151
     have e156 := ne_new h48 n151
     have e157 := ne_new h49 n151
     have z158 := Mono.free m50 n151
     have h159 := keep k153 (ne_new h46 n151) h46
     have h160 := keep k153 (ne_new h47 n151) h47
     have h161 := keep k153 (ne_new h48 n151) h48
     have h162 := keep k153 (ne_new h49 n151) h49
     have m163 := Mono.new m50 n151 k153
     obtain ⟨v164, e165⟩ : ∃ v : AV, v = .slm i149 0 3 0 1 := ⟨_, rfl⟩
     have o166 : Own H0 H150 3 v164 1 [.int .i64 ((at_ vs v).X), .int .i64 ((at_ vs v).Y), .int .i64 ((at_ vs v).Z)] := .inr ⟨_, _, e165, h152, z158, rfl⟩
     have no167 : NotId v164 fid := by rw [e165]; exact NotId.slm e154
     have no168 : NotId v164 i1 := by rw [e165]; exact NotId.slm e155
     have no169 : NotId v164 i10 := by rw [e165]; exact NotId.slm e156
     have no170 : NotId v164 i21 := by rw [e165]; exact NotId.slm e157
     refine AOps.cons rfl rfl ?_
     refine AOp.frz 70 (o166) e165.symm m163 fun H171 m172 k173 => ?_
     have h174 := (k173 _ no167).trans h159
     have h175 := (k173 _ no168).trans h160
     have h176 := (k173 _ no169).trans h161
     have h177 := (k173 _ no170).trans h162
     refine AOp.xcall («as» := [.ptr i21 0 0, .int .i64 6, .sl ([(at_ vs v)] : List VT).length (([(at_ vs v)] : List VT).flatMap eV)]) rfl rfl (lapp (lcons s43 (lcons rfl (lcons rfl rfl))) rfl) tf_54 (c_add (othL vs t.ed v (hardF sh ((at_ eg v).take i.toNat))) 6 ([(at_ vs v)] : List VT) (by simp) (inV_le hin6 (by omega)) (one_inK hvv (by decide)) h177) ?_
     rintro _ H178 ⟨rfl, m179, h180⟩
     have h181 := m179 _ _ (hide_get e26 h174)
     have h182 := m179 _ _ (hide_get e27 h175)
     have h183 := m179 _ _ (hide_get e28 h176)
     have m184 := Mono.hide_ m172 z29 m179
     refine AOps.nil ?_
     change AWP _ _ _ _ _ _
     refine AWP.seq ?_
     refine AWP.region (l := [0, 1]) rfl ?_
     refine AOps.cons rfl rfl (AOp.pcallH («as» := [.ptr i21 0 0, .int .i64 8]) rfl rfl (lapp (lcons s43 (lcons rfl rfl)) rfl) tf_55 (c_of (addL (othL vs t.ed v (hardF sh ((at_ eg v).take i.toNat))) 6 ([(at_ vs v)] : List VT)) 8 (inV_le (inV_add hin6 (inV_scale hvv (c := 6) (by decide))) (by omega)) (by decide) h180) ?_)
     intro H185 m186
     have h187 := m186 _ _ h181
     have h188 := m186 _ _ h182
     have h189 := m186 _ _ h183
     have h190 := m186 _ _ h180
     have m191 := m184.trans m186
     refine AOps.cons rfl rfl (AOp.store' (cells' := [.int .i64 ((ofV (addL (othL vs t.ed v (hardF sh ((at_ eg v).take i.toNat))) 6 ([(at_ vs v)] : List VT)) 8).X), .int .i64 ((ofV (addL (othL vs t.ed v (hardF sh ((at_ eg v).take i.toNat))) 6 ([(at_ vs v)] : List VT)) 8).Y), .int .i64 ((ofV (addL (othL vs t.ed v (hardF sh ((at_ eg v).take i.toNat))) 6 ([(at_ vs v)] : List VT)) 8).Z)]) (.agg [.int .i64 ((ofV (addL (othL vs t.ed v (hardF sh ((at_ eg v).take i.toNat))) 6 ([(at_ vs v)] : List VT)) 8).X), .int .i64 ((ofV (addL (othL vs t.ed v (hardF sh ((at_ eg v).take i.toNat))) 6 ([(at_ vs v)] : List VT)) 8).Y), .int .i64 ((ofV (addL (othL vs t.ed v (hardF sh ((at_ eg v).take i.toNat))) 6 ([(at_ vs v)] : List VT)) 8).Z)]) s41 rfl ts_42 h188 rfl rfl rfl rfl ?_)
     intro H192 h193 k194
     have h195 := keep k194 e6 h187
     have h197 := keep k194 (Ne.symm e16) h189
     have h198 := keep k194 (Ne.symm e27) h190
     have m199 := Mono.set m191 z7 k194
     refine AOps.nil ?_
     change AWP _ _ _ _ _ _
     refine AWP.ret ?_
     refine ⟨_, _, Ghost.refl, .inr rfl, _, Res.list1 rfl (.cell (v := .agg [.int .i64 ((ofV (addL (othL vs t.ed v (hardF sh ((at_ eg v).take i.toNat))) 6 ([(at_ vs v)] : List VT)) 8).X), .int .i64 ((ofV (addL (othL vs t.ed v (hardF sh ((at_ eg v).take i.toNat))) 6 ([(at_ vs v)] : List VT)) 8).Y), .int .i64 ((ofV (addL (othL vs t.ed v (hardF sh ((at_ eg v).take i.toNat))) 6 ([(at_ vs v)] : List VT)) 8).Z)]) s41 ty_42 h193 rfl (.nil)), ?_, m199⟩
     exact (congrArg AV.agg (lc (congrArg (AV.int .i64) (show ((ofV (addL (othL vs t.ed v (hardF sh ((at_ eg v).take i.toNat))) 6 ([(at_ vs v)] : List VT)) 8).X : Int) = (vertP vs fc t.ed sh (at_ t.fan v) (at_ eg v) v).X from by rw [vert_2 hall b139 b148])) (lc (congrArg (AV.int .i64) (show ((ofV (addL (othL vs t.ed v (hardF sh ((at_ eg v).take i.toNat))) 6 ([(at_ vs v)] : List VT)) 8).Y : Int) = (vertP vs fc t.ed sh (at_ t.fan v) (at_ eg v) v).Y from by rw [vert_2 hall b139 b148])) (lc (congrArg (AV.int .i64) (show ((ofV (addL (othL vs t.ed v (hardF sh ((at_ eg v).take i.toNat))) 6 ([(at_ vs v)] : List VT)) 8).Z : Int) = (vertP vs fc t.ed sh (at_ t.fan v) (at_ eg v) v).Z from by rw [vert_2 hall b139 b148])) rfl))))
    ·
     refine AWP.condF rfl (decide_eq_false b148) ?_
     refine AWP.skip ?_
     change AWP _ _ _ _ _ _
     refine AWP.seq ?_
     refine AWP.region (l := [0, 1, 2, 3, 4, 5, 6, 7, 8, 9]) rfl ?_
     refine AOps.cons rfl rfl (AOp.move (.ptr fid 0 0) rfl s39 ?_)
     refine AOps.cons rfl rfl (AOp.nilCheck (.ptr fid 0 0) rfl rfl rfl ?_)
     refine AOps.cons rfl rfl (AOp.fieldAddr rfl rfl fl_79_1 ?_ (hid := ⟨_, h46⟩))
     refine AOps.cons rfl rfl (AOp.fieldAddr rfl rfl fl_35_1 ?_ (hid := ⟨_, h46⟩))
     refine AOps.cons rfl rfl (AOp.load (.sl t.fan.length (t.fan.map eF)) rfl rfl ty_23 h46 rfl ?_)
     refine AOps.cons rfl rfl (AOp.move (.int .i64 v) rfl s40 ?_)
     refine AOps.cons rfl rfl (AOp.indexAddrS rfl rfl rfl sl_23 (by omega) (by omega) ?_)
     refine AOps.cons rfl rfl (AOp.loadF (.sl (at_ t.fan v).length ((at_ t.fan v).map eI)) rfl rfl ty_38 (ld1 (by omega) (by omega)) ?_)
     refine AOps.cons rfl rfl (AOp.len (m := (at_ t.fan v).length) rfl rfl (.inr (.inl ⟨_, rfl⟩)) u_38 ?_)
     refine AOps.cons rfl rfl (AOp.assign (.int .i64 (((at_ t.fan v).length) : Int)) rfl rfl ?_)
     refine AOps.nil ?_
     change AWP _ _ _ _ _ _
     refine AWP.seq ?_
     refine AWP.region (l := [0, 1, 2, 3, 4, 5, 6, 7, 8, 9, 10, 11, 12, 13]) rfl ?_
     refine AOps.cons rfl rfl (AOp.move (.int .i64 (((at_ t.fan v).length) : Int)) rfl rfl ?_)
     refine AOps.cons rfl rfl (AOp.move (.int .i64 (((at_ t.fan v).length) : Int)) rfl rfl ?_)
     refine AOps.cons rfl rfl (AOp.bin (.int .i64 ((((at_ t.fan v).length) : Int) - 2)) rfl rfl rfl (isub (by omega)) ?_)
     refine AOps.cons rfl rfl (AOp.bin (.int .i64 ((((at_ t.fan v).length) : Int) * ((((at_ t.fan v).length) : Int) - 2))) rfl rfl rfl (imul (by omega)) ?_)
     refine AOps.cons rfl rfl (AOp.move (.ptr fid 0 0) rfl s39 ?_)
     refine AOps.cons rfl rfl (AOp.nilCheck (.ptr fid 0 0) rfl rfl rfl ?_)
     refine AOps.cons rfl rfl (AOp.fieldAddr rfl rfl fl_79_0 ?_ (hid := ⟨_, h46⟩))
     refine AOps.cons rfl rfl (AOp.fieldAddr rfl rfl fl_26_0 ?_ (hid := ⟨_, h46⟩))
     refine AOps.cons rfl rfl (AOp.load (.sl vs.length (vs.flatMap eV)) rfl rfl ty_22 h46 rfl ?_)
     refine AOps.cons rfl rfl (AOp.move (.int .i64 v) rfl s40 ?_)
     refine AOps.cons rfl rfl (AOp.indexAddrS rfl rfl rfl sl_22 (by omega) (by omega) ?_)
     refine AOps.cons rfl rfl (AOp.loadF (.agg [.int .i64 ((at_ vs v).X), .int .i64 ((at_ vs v).Y), .int .i64 ((at_ vs v).Z)]) rfl rfl ty_42 (ldM eV_len (by omega) (by omega)) ?_)
     refine AOps.cons rfl rfl (AOp.buildSlice (cells := [.int .i64 ((at_ vs v).X), .int .i64 ((at_ vs v).Y), .int .i64 ((at_ vs v).Z)]) rfl u_22 ts_42 tz_42 rfl rfl rfl ?_)
     intro i200 H201 n202 h203 k204
     have e205 := ne_new h46 n202
     have e206 := ne_new h47 n202
     have e207 := ne_new h48 n202
     have e208 := ne_new h49 n202
     have z209 := Mono.free m50 n202
     have h210 := keep k204 (ne_new h46 n202) h46
     have h211 := keep k204 (ne_new h47 n202) h47
     have h212 := keep k204 (ne_new h48 n202) h48
     have h213 := keep k204 (ne_new h49 n202) h49
     have m214 := Mono.new m50 n202 k204
     obtain ⟨v215, e216⟩ : ∃ v : AV, v = .slm i200 0 3 0 1 := ⟨_, rfl⟩
     have o217 : Own H0 H201 3 v215 1 [.int .i64 ((at_ vs v).X), .int .i64 ((at_ vs v).Y), .int .i64 ((at_ vs v).Z)] := .inr ⟨_, _, e216, h203, z209, rfl⟩
     have no218 : NotId v215 fid := by rw [e216]; exact NotId.slm e205
     have no219 : NotId v215 i1 := by rw [e216]; exact NotId.slm e206
     have no220 : NotId v215 i10 := by rw [e216]; exact NotId.slm e207
     have no221 : NotId v215 i21 := by rw [e216]; exact NotId.slm e208
     refine AOps.cons rfl rfl ?_
     refine AOp.frz 94 (o217) e216.symm m214 fun H222 m223 k224 => ?_
     have h225 := (k224 _ no218).trans h210
     have h226 := (k224 _ no219).trans h211
     have h227 := (k224 _ no220).trans h212
     have h228 := (k224 _ no221).trans h213
     refine AOp.xcall («as» := [.ptr i10 0 0, .int .i64 ((((at_ t.fan v).length) : Int) * ((((at_ t.fan v).length) : Int) - 2)), .sl ([(at_ vs v)] : List VT).length (([(at_ vs v)] : List VT).flatMap eV)]) rfl rfl (lapp (lcons s42 (lcons rfl (lcons rfl rfl))) rfl) tf_54 (c_add (othL vs t.ed v ((at_ eg v).take i.toNat)) ((((at_ t.fan v).length) : Int) * ((((at_ t.fan v).length) : Int) - 2)) ([(at_ vs v)] : List VT) (by simp) (inV_le hin5 (by omega)) (one_inK hvv hnr.1) h227) ?_
     rintro _ H229 ⟨rfl, m230, h231⟩
     have h232 := m230 _ _ (hide_get e15 h225)
     have h233 := m230 _ _ (hide_get e16 h226)
     have h234 := m230 _ _ (hide_get (Ne.symm e28) h228)
     have m235 := Mono.hide_ m223 z17 m230
     refine AOps.nil ?_
     change AWP _ _ _ _ _ _
     refine AWP.seq ?_
     refine AWP.seq ?_
     have hBs : inV (6553600000 + 68719476736) (addV (othL vs t.ed v (at_ eg v)) (scaleV (at_ vs v) (((at_ t.fan v).length : Int) * (((at_ t.fan v).length : Int) - 2)))) := inV_add (by rw [← hall]; exact inV_le hin5 (by omega)) (inV_le (inV_scale hvv hnr.1) (by decide))
     refine AWP.region (l := [0, 1, 2, 3, 4, 5, 6, 7, 8, 9]) rfl ?_
     refine AOps.cons rfl rfl (AOp.move (.ptr fid 0 0) rfl s39 ?_)
     refine AOps.cons rfl rfl (AOp.nilCheck (.ptr fid 0 0) rfl rfl rfl ?_)
     refine AOps.cons rfl rfl (AOp.fieldAddr rfl rfl fl_79_1 ?_ (hid := ⟨_, h232⟩))
     refine AOps.cons rfl rfl (AOp.fieldAddr rfl rfl fl_35_1 ?_ (hid := ⟨_, h232⟩))
     refine AOps.cons rfl rfl (AOp.load (.sl t.fan.length (t.fan.map eF)) rfl rfl ty_23 h232 rfl ?_)
     refine AOps.cons rfl rfl (AOp.move (.int .i64 v) rfl s40 ?_)
     refine AOps.cons rfl rfl (AOp.indexAddrS rfl rfl rfl sl_23 (by omega) (by omega) ?_)
     refine AOps.cons rfl rfl (AOp.loadF (.sl (at_ t.fan v).length ((at_ t.fan v).map eI)) rfl rfl ty_38 (ld1 (by omega) (by omega)) ?_)
     refine AOps.cons rfl rfl (AOp.len (m := (at_ t.fan v).length) rfl rfl (.inr (.inl ⟨_, rfl⟩)) u_38 ?_)
     refine AOps.cons rfl rfl (AOp.move (.int .i64 0) rfl rfl ?_)
     refine AOps.nil ?_
     change AWP _ _ _ _ _ _
     refine AWP.block ?_
     refine AWP.loop (fun q236 fq Hq => ∃ (j : Int), q236 = ((((at_ t.fan v).length : Int) : Int) - j).toNat ∧ fq 105 = .int .i64 j ∧ fq 0 = .ptr fid 0 0 ∧ fq 4 = .ptr i1 0 0 ∧ fq 5 = .ptr i10 0 0 ∧ fq 10 = .int .i64 (((at_ t.fan v).length) : Int) ∧ fq 103 = .sl (at_ t.fan v).length ((at_ t.fan v).map eI) ∧ fq 104 = .int .i64 (((at_ t.fan v).length) : Int) ∧ Hq fid = some (.row 0 ([.sl vs.length (vs.flatMap eV), .sl fs.length (fs.map eF), .sl cr.length (cr.flatMap eCr), .sl t.ed.length (t.ed.flatMap eE), .sl t.fan.length (t.fan.map eF), .sl t.rnd.length (t.rnd.map eBo), .sl sh.length (sh.map eI), .sl eg.length (eg.map eF), .sl fc.length (fc.flatMap eV)])) ∧ Hq i1 = some (.row 0 ([.int .i64 0, .int .i64 0, .int .i64 0])) ∧ Hq i21 = some (.row 0 ([.int .i64 ((othL vs t.ed v (hardF sh ((at_ eg v).take i.toNat))).X), .int .i64 ((othL vs t.ed v (hardF sh ((at_ eg v).take i.toNat))).Y), .int .i64 ((othL vs t.ed v (hardF sh ((at_ eg v).take i.toNat))).Z)])) ∧ Hq i10 = some (.row 0 ([.int .i64 ((addV (addV (othL vs t.ed v (at_ eg v)) (scaleV (at_ vs v) (((at_ t.fan v).length : Int) * (((at_ t.fan v).length : Int) - 2)))) (sumL (((at_ t.fan v).take j.toNat).map fun k => at_ fc k))).X), .int .i64 ((addV (addV (othL vs t.ed v (at_ eg v)) (scaleV (at_ vs v) (((at_ t.fan v).length : Int) * (((at_ t.fan v).length : Int) - 2)))) (sumL (((at_ t.fan v).take j.toNat).map fun k => at_ fc k))).Y), .int .i64 ((addV (addV (othL vs t.ed v (at_ eg v)) (scaleV (at_ vs v) (((at_ t.fan v).length : Int) * (((at_ t.fan v).length : Int) - 2)))) (sumL (((at_ t.fan v).take j.toNat).map fun k => at_ fc k))).Z)])) ∧ Mono H0 Hq ∧ (0 ≤ j) ∧ (j ≤ ((at_ t.fan v).length : Int)) ∧ (inV (65536 * j) (sumL (((at_ t.fan v).take j.toNat).map fun k => at_ fc k)))) (k := ((((at_ t.fan v).length : Int) : Int) - 0).toNat) ?_ ?_
     ·
      exact ⟨0, rfl, rfl, s39, s41, s42, rfl, rfl, rfl, h232, h233, h234, (h231.trans (congrArg (fun c => some (AB.row 0 c)) (show ([.int .i64 ((addL (othL vs t.ed v ((at_ eg v).take i.toNat)) ((((at_ t.fan v).length) : Int) * ((((at_ t.fan v).length) : Int) - 2)) ([(at_ vs v)] : List VT)).X), .int .i64 ((addL (othL vs t.ed v ((at_ eg v).take i.toNat)) ((((at_ t.fan v).length) : Int) * ((((at_ t.fan v).length) : Int) - 2)) ([(at_ vs v)] : List VT)).Y), .int .i64 ((addL (othL vs t.ed v ((at_ eg v).take i.toNat)) ((((at_ t.fan v).length) : Int) * ((((at_ t.fan v).length) : Int) - 2)) ([(at_ vs v)] : List VT)).Z)] : List AV) = [.int .i64 ((addV (addV (othL vs t.ed v (at_ eg v)) (scaleV (at_ vs v) (((at_ t.fan v).length : Int) * (((at_ t.fan v).length : Int) - 2)))) (sumL (((at_ t.fan v).take (0 : Int).toNat).map fun k => at_ fc k))).X), .int .i64 ((addV (addV (othL vs t.ed v (at_ eg v)) (scaleV (at_ vs v) (((at_ t.fan v).length : Int) * (((at_ t.fan v).length : Int) - 2)))) (sumL (((at_ t.fan v).take (0 : Int).toNat).map fun k => at_ fc k))).Y), .int .i64 ((addV (addV (othL vs t.ed v (at_ eg v)) (scaleV (at_ vs v) (((at_ t.fan v).length : Int) * (((at_ t.fan v).length : Int) - 2)))) (sumL (((at_ t.fan v).take (0 : Int).toNat).map fun k => at_ fc k))).Z)] from by first | rfl | (rw [oth_step hi0 (by omega)]) | (rw [fan_step hj0 (by omega)]) | (rw [fan_0 (fc := fc) (l := (at_ t.fan v)) hall])))), m235, by omega, by omega, by exact z_in (by omega)⟩
     ·
      rintro _ f238 H237 ⟨j, rfl, s239, s240, s241, s242, s243, s244, s245, h246, h247, h248, h249, m250, hj0, hj1, hin7⟩
      refine AWP.seq ?_
      refine AWP.region (l := [0]) rfl ?_
      refine AOps.cons rfl rfl (AOp.bin (.bool (decide (j < (((at_ t.fan v).length) : Int)))) rfl s239 s245 rfl ?_)
      refine AOps.nil ?_
      change AWP _ _ _ _ _ _
      refine AWP.seq ?_
      by_cases b251 : j < (((at_ t.fan v).length) : Int)
      ·
       refine AWP.condT rfl (decide_eq_true b251) ?_
       refine AWP.skip ?_
       change AWP _ _ _ _ _ _
       refine AWP.seq ?_
       refine AWP.block ?_
       refine AWP.seq ?_
       refine AWP.region (l := [0, 1, 2]) rfl ?_
       refine AOps.cons rfl rfl (AOp.indexAddrS rfl s244 s239 sl_38 (by omega) (by omega) ?_)
       refine AOps.cons rfl rfl (AOp.loadF (.int .i64 (at_ (at_ t.fan v) j)) rfl rfl ty_3 (ld1 (by omega) (by omega)) ?_)
       refine AOps.cons rfl rfl (AOp.assign (.int .i64 (at_ (at_ t.fan v) j)) rfl rfl ?_)
       refine AOps.nil ?_
       change AWP _ _ _ _ _ _
       have hfr := hff _ (at_mem hj0 (by omega : j < (at_ t.fan v).length))
       have hfk := hfc _ (at_mem hfr.1 hfr.2)
       refine AWP.region (l := [0, 1, 2, 3, 4, 5, 6, 7, 8]) rfl ?_
       refine AOps.cons rfl rfl (AOp.move (.ptr fid 0 0) rfl s240 ?_)
       refine AOps.cons rfl rfl (AOp.nilCheck (.ptr fid 0 0) rfl rfl rfl ?_)
       refine AOps.cons rfl rfl (AOp.fieldAddr rfl rfl fl_79_4 ?_ (hid := ⟨_, h246⟩))
       refine AOps.cons rfl rfl (AOp.load (.sl fc.length (fc.flatMap eV)) rfl rfl ty_22 h246 rfl ?_)
       refine AOps.cons rfl rfl (AOp.move (.int .i64 (at_ (at_ t.fan v) j)) rfl rfl ?_)
       refine AOps.cons rfl rfl (AOp.indexAddrS rfl rfl rfl sl_22 (by omega) (by omega) ?_)
       refine AOps.cons rfl rfl (AOp.loadF (.agg [.int .i64 ((at_ fc (at_ (at_ t.fan v) j)).X), .int .i64 ((at_ fc (at_ (at_ t.fan v) j)).Y), .int .i64 ((at_ fc (at_ (at_ t.fan v) j)).Z)]) rfl rfl ty_42 (ldM eV_len (by omega) (by omega)) ?_)
       refine AOps.cons rfl rfl (AOp.buildSlice (cells := [.int .i64 ((at_ fc (at_ (at_ t.fan v) j)).X), .int .i64 ((at_ fc (at_ (at_ t.fan v) j)).Y), .int .i64 ((at_ fc (at_ (at_ t.fan v) j)).Z)]) rfl u_22 ts_42 tz_42 rfl rfl rfl ?_)
       intro i252 H253 n254 h255 k256
       have e257 := ne_new h246 n254
       have e258 := ne_new h247 n254
       have e259 := ne_new h248 n254
       have e260 := ne_new h249 n254
       have z261 := Mono.free m250 n254
       have h262 := keep k256 (ne_new h246 n254) h246
       have h263 := keep k256 (ne_new h247 n254) h247
       have h264 := keep k256 (ne_new h248 n254) h248
       have h265 := keep k256 (ne_new h249 n254) h249
       have m266 := Mono.new m250 n254 k256
       obtain ⟨v267, e268⟩ : ∃ v : AV, v = .slm i252 0 3 0 1 := ⟨_, rfl⟩
       have o269 : Own H0 H253 3 v267 1 [.int .i64 ((at_ fc (at_ (at_ t.fan v) j)).X), .int .i64 ((at_ fc (at_ (at_ t.fan v) j)).Y), .int .i64 ((at_ fc (at_ (at_ t.fan v) j)).Z)] := .inr ⟨_, _, e268, h255, z261, rfl⟩
       have no270 : NotId v267 fid := by rw [e268]; exact NotId.slm e257
       have no271 : NotId v267 i1 := by rw [e268]; exact NotId.slm e258
       have no272 : NotId v267 i21 := by rw [e268]; exact NotId.slm e259
       have no273 : NotId v267 i10 := by rw [e268]; exact NotId.slm e260
       refine AOps.cons rfl rfl ?_
       refine AOp.frz 116 (o269) e268.symm m266 fun H274 m275 k276 => ?_
       have h277 := (k276 _ no270).trans h262
       have h278 := (k276 _ no271).trans h263
       have h279 := (k276 _ no272).trans h264
       have h280 := (k276 _ no273).trans h265
       refine AOp.xcall («as» := [.ptr i10 0 0, .int .i64 1, .sl ([(at_ fc (at_ (at_ t.fan v) j))] : List VT).length (([(at_ fc (at_ (at_ t.fan v) j))] : List VT).flatMap eV)]) rfl rfl (lapp (lcons s242 (lcons rfl (lcons rfl rfl))) rfl) tf_54 (c_add (addV (addV (othL vs t.ed v (at_ eg v)) (scaleV (at_ vs v) (((at_ t.fan v).length : Int) * (((at_ t.fan v).length : Int) - 2)))) (sumL (((at_ t.fan v).take j.toNat).map fun k => at_ fc k))) 1 ([(at_ fc (at_ (at_ t.fan v) j))] : List VT) (by simp) (inV_le (inV_fan hBs hin7) (by omega)) (one_in hfk) h280) ?_
       rintro _ H281 ⟨rfl, m282, h283⟩
       have h284 := m282 _ _ (hide_get e15 h277)
       have h285 := m282 _ _ (hide_get e16 h278)
       have h286 := m282 _ _ (hide_get (Ne.symm e28) h279)
       have m287 := Mono.hide_ m275 z17 m282
       refine AOps.nil ?_
       change AWP _ _ _ _ _ _
       refine AWP.region (l := [0, 1]) rfl ?_
       refine AOps.cons rfl rfl (AOp.bin (.int .i64 (j + 1)) rfl s239 rfl (iadd (by omega)) ?_)
       refine AOps.cons rfl rfl (AOp.move (.int .i64 (j + 1)) rfl rfl ?_)
       refine AOps.nil ?_
       exact ⟨_, by omega, j + 1, rfl, rfl, s240, s241, s242, s243, s244, s245, h284, h285, h286, (h283.trans (congrArg (fun c => some (AB.row 0 c)) (show ([.int .i64 ((addL (addV (addV (othL vs t.ed v (at_ eg v)) (scaleV (at_ vs v) (((at_ t.fan v).length : Int) * (((at_ t.fan v).length : Int) - 2)))) (sumL (((at_ t.fan v).take j.toNat).map fun k => at_ fc k))) 1 ([(at_ fc (at_ (at_ t.fan v) j))] : List VT)).X), .int .i64 ((addL (addV (addV (othL vs t.ed v (at_ eg v)) (scaleV (at_ vs v) (((at_ t.fan v).length : Int) * (((at_ t.fan v).length : Int) - 2)))) (sumL (((at_ t.fan v).take j.toNat).map fun k => at_ fc k))) 1 ([(at_ fc (at_ (at_ t.fan v) j))] : List VT)).Y), .int .i64 ((addL (addV (addV (othL vs t.ed v (at_ eg v)) (scaleV (at_ vs v) (((at_ t.fan v).length : Int) * (((at_ t.fan v).length : Int) - 2)))) (sumL (((at_ t.fan v).take j.toNat).map fun k => at_ fc k))) 1 ([(at_ fc (at_ (at_ t.fan v) j))] : List VT)).Z)] : List AV) = [.int .i64 ((addV (addV (othL vs t.ed v (at_ eg v)) (scaleV (at_ vs v) (((at_ t.fan v).length : Int) * (((at_ t.fan v).length : Int) - 2)))) (sumL (((at_ t.fan v).take (j + 1).toNat).map fun k => at_ fc k))).X), .int .i64 ((addV (addV (othL vs t.ed v (at_ eg v)) (scaleV (at_ vs v) (((at_ t.fan v).length : Int) * (((at_ t.fan v).length : Int) - 2)))) (sumL (((at_ t.fan v).take (j + 1).toNat).map fun k => at_ fc k))).Y), .int .i64 ((addV (addV (othL vs t.ed v (at_ eg v)) (scaleV (at_ vs v) (((at_ t.fan v).length : Int) * (((at_ t.fan v).length : Int) - 2)))) (sumL (((at_ t.fan v).take (j + 1).toNat).map fun k => at_ fc k))).Z)] from by first | rfl | (rw [oth_step hi0 (by omega)]) | (rw [fan_step hj0 (by omega)]) | (rw [fan_0 (fc := fc) (l := (at_ t.fan v)) hall])))), m287, by omega, by omega, by exact sum_inS hj0 (by omega) hin7 hfk⟩
      ·
       refine AWP.condF rfl (decide_eq_false b251) ?_
       refine AWP.exit ?_
       change AWP _ _ _ _ _ _
       refine AWP.seq ?_
       refine AWP.region (l := [0, 1, 2, 3, 4]) rfl ?_
       refine AOps.cons rfl rfl (AOp.move (.int .i64 (((at_ t.fan v).length) : Int)) rfl s243 ?_)
       refine AOps.cons rfl rfl (AOp.move (.int .i64 (((at_ t.fan v).length) : Int)) rfl s243 ?_)
       refine AOps.cons rfl rfl (AOp.bin (.int .i64 ((((at_ t.fan v).length) : Int) * (((at_ t.fan v).length) : Int))) rfl rfl rfl (imul (by omega)) ?_)
       refine AOps.cons rfl rfl (AOp.pcallH («as» := [.ptr i10 0 0, .int .i64 ((((at_ t.fan v).length) : Int) * (((at_ t.fan v).length) : Int))]) rfl rfl (lapp (lcons s242 (lcons rfl rfl)) rfl) tf_55 (c_of (addV (addV (othL vs t.ed v (at_ eg v)) (scaleV (at_ vs v) (((at_ t.fan v).length : Int) * (((at_ t.fan v).length : Int) - 2)))) (sumL (((at_ t.fan v).take j.toNat).map fun k => at_ fc k))) ((((at_ t.fan v).length) : Int) * (((at_ t.fan v).length) : Int)) (inV_le (inV_fan hBs hin7) (by omega)) (by omega) h249) ?_)
       intro H288 m289
       have h290 := m289 _ _ h246
       have h291 := m289 _ _ h247
       have h292 := m289 _ _ h248
       have h293 := m289 _ _ h249
       have m294 := m250.trans m289
       refine AOps.cons rfl rfl (AOp.store' (cells' := [.int .i64 ((ofV (addV (addV (othL vs t.ed v (at_ eg v)) (scaleV (at_ vs v) (((at_ t.fan v).length : Int) * (((at_ t.fan v).length : Int) - 2)))) (sumL (((at_ t.fan v).take j.toNat).map fun k => at_ fc k))) ((((at_ t.fan v).length) : Int) * (((at_ t.fan v).length) : Int))).X), .int .i64 ((ofV (addV (addV (othL vs t.ed v (at_ eg v)) (scaleV (at_ vs v) (((at_ t.fan v).length : Int) * (((at_ t.fan v).length : Int) - 2)))) (sumL (((at_ t.fan v).take j.toNat).map fun k => at_ fc k))) ((((at_ t.fan v).length) : Int) * (((at_ t.fan v).length) : Int))).Y), .int .i64 ((ofV (addV (addV (othL vs t.ed v (at_ eg v)) (scaleV (at_ vs v) (((at_ t.fan v).length : Int) * (((at_ t.fan v).length : Int) - 2)))) (sumL (((at_ t.fan v).take j.toNat).map fun k => at_ fc k))) ((((at_ t.fan v).length) : Int) * (((at_ t.fan v).length) : Int))).Z)]) (.agg [.int .i64 ((ofV (addV (addV (othL vs t.ed v (at_ eg v)) (scaleV (at_ vs v) (((at_ t.fan v).length : Int) * (((at_ t.fan v).length : Int) - 2)))) (sumL (((at_ t.fan v).take j.toNat).map fun k => at_ fc k))) ((((at_ t.fan v).length) : Int) * (((at_ t.fan v).length) : Int))).X), .int .i64 ((ofV (addV (addV (othL vs t.ed v (at_ eg v)) (scaleV (at_ vs v) (((at_ t.fan v).length : Int) * (((at_ t.fan v).length : Int) - 2)))) (sumL (((at_ t.fan v).take j.toNat).map fun k => at_ fc k))) ((((at_ t.fan v).length) : Int) * (((at_ t.fan v).length) : Int))).Y), .int .i64 ((ofV (addV (addV (othL vs t.ed v (at_ eg v)) (scaleV (at_ vs v) (((at_ t.fan v).length : Int) * (((at_ t.fan v).length : Int) - 2)))) (sumL (((at_ t.fan v).take j.toNat).map fun k => at_ fc k))) ((((at_ t.fan v).length) : Int) * (((at_ t.fan v).length) : Int))).Z)]) s241 rfl ts_42 h291 rfl rfl rfl rfl ?_)
       intro H295 h296 k297
       have h298 := keep k297 e6 h290
       have h300 := keep k297 (Ne.symm e27) h292
       have h301 := keep k297 (Ne.symm e16) h293
       have m302 := Mono.set m294 z7 k297
       refine AOps.nil ?_
       change AWP _ _ _ _ _ _
       refine AWP.ret ?_
       refine ⟨_, _, Ghost.refl, .inr rfl, _, Res.list1 rfl (.cell (v := .agg [.int .i64 ((ofV (addV (addV (othL vs t.ed v (at_ eg v)) (scaleV (at_ vs v) (((at_ t.fan v).length : Int) * (((at_ t.fan v).length : Int) - 2)))) (sumL (((at_ t.fan v).take j.toNat).map fun k => at_ fc k))) ((((at_ t.fan v).length) : Int) * (((at_ t.fan v).length) : Int))).X), .int .i64 ((ofV (addV (addV (othL vs t.ed v (at_ eg v)) (scaleV (at_ vs v) (((at_ t.fan v).length : Int) * (((at_ t.fan v).length : Int) - 2)))) (sumL (((at_ t.fan v).take j.toNat).map fun k => at_ fc k))) ((((at_ t.fan v).length) : Int) * (((at_ t.fan v).length) : Int))).Y), .int .i64 ((ofV (addV (addV (othL vs t.ed v (at_ eg v)) (scaleV (at_ vs v) (((at_ t.fan v).length : Int) * (((at_ t.fan v).length : Int) - 2)))) (sumL (((at_ t.fan v).take j.toNat).map fun k => at_ fc k))) ((((at_ t.fan v).length) : Int) * (((at_ t.fan v).length) : Int))).Z)]) s241 ty_42 h296 rfl (.nil)), ?_, m302⟩
       exact (congrArg AV.agg (lc (congrArg (AV.int .i64) (show ((ofV (addV (addV (othL vs t.ed v (at_ eg v)) (scaleV (at_ vs v) (((at_ t.fan v).length : Int) * (((at_ t.fan v).length : Int) - 2)))) (sumL (((at_ t.fan v).take j.toNat).map fun k => at_ fc k))) ((((at_ t.fan v).length) : Int) * (((at_ t.fan v).length) : Int))).X : Int) = (vertP vs fc t.ed sh (at_ t.fan v) (at_ eg v) v).X from by rw [vert_0 (by omega) hall b139 b148])) (lc (congrArg (AV.int .i64) (show ((ofV (addV (addV (othL vs t.ed v (at_ eg v)) (scaleV (at_ vs v) (((at_ t.fan v).length : Int) * (((at_ t.fan v).length : Int) - 2)))) (sumL (((at_ t.fan v).take j.toNat).map fun k => at_ fc k))) ((((at_ t.fan v).length) : Int) * (((at_ t.fan v).length) : Int))).Y : Int) = (vertP vs fc t.ed sh (at_ t.fan v) (at_ eg v) v).Y from by rw [vert_0 (by omega) hall b139 b148])) (lc (congrArg (AV.int .i64) (show ((ofV (addV (addV (othL vs t.ed v (at_ eg v)) (scaleV (at_ vs v) (((at_ t.fan v).length : Int) * (((at_ t.fan v).length : Int) - 2)))) (sumL (((at_ t.fan v).take j.toNat).map fun k => at_ fc k))) ((((at_ t.fan v).length) : Int) * (((at_ t.fan v).length) : Int))).Z : Int) = (vertP vs fc t.ed sh (at_ t.fan v) (at_ eg v) v).Z from by rw [vert_0 (by omega) hall b139 b148])) rfl))))
end Go.Proofs.U
namespace Go.Proofs.T
open Go Go.AH
set_option maxRecDepth 4000
set_option linter.unusedSimpArgs false
set_option linter.unusedVariables false
theorem c24 {H0 : Heap} {sid mid : Nat} (fs : List (List Int)) (hfs : fs.length ≤ 1048576) (hfss : ∀ l ∈ fs, l.length ≤ 1048576) (n : Int) (hn : n ≤ 1000) (hg : goodS n fs) (hsl : (sides fs).length ≤ 4000000000) (hs : H0 sid = some (.row 0 [.sl fs.length (fs.map eF), .map mid])) (hsm : H0 mid = some (.map ((sides fs).map eS))) : ACalls Try.prog 41 [.ptr sid 0 0] H0 fun r H' => r = (.sl (eOut fs n n).length ((eOut fs n n).flatMap eE)) ∧ Mono H0 H' := by
  have hK := good_keys hg
  have hKR := good_KR hn hg
  refine ACalls.of_body' (n := 71) rfl rfl rfl rfl ?_
  have m0 := Mono.refl H0
  refine AWP.seq ?_
  refine AWP.region (l := [0, 1]) rfl ?_
  refine AOps.cons rfl rfl (AOp.box (.ptr sid 0 0) rfl rfl rfl ?_)
  intro i1 H2 n3 h4 k5
  have e6 := ne_new hs n3
  have e7 := ne_new hsm n3
  have z8 := Mono.free m0 n3
  have h9 := keep k5 (ne_new hs n3) hs
  have h10 := keep k5 (ne_new hsm n3) hsm
  have m11 := Mono.new m0 n3 k5
  refine AOps.cons rfl rfl (AOp.assign (.snil) rfl rfl ?_)
  refine AOps.nil ?_
  change AWP _ _ _ _ _ _
  refine AWP.seq ?_
  refine AWP.region (l := [0]) rfl ?_
  refine AOps.cons rfl rfl (AOp.assign (.snil) rfl rfl ?_)
  refine AOps.nil ?_
  change AWP _ _ _ _ _ _
  refine AWP.seq ?_
  refine AWP.region (l := [0, 1]) rfl ?_
  refine AOps.cons rfl rfl (AOp.makeFunc (cs := [.ptr i1 0 0]) rfl rfl ?_)
  refine AOps.cons rfl rfl (AOp.assign (.fn 59 [.ptr i1 0 0]) rfl rfl ?_)
  refine AOps.nil ?_
  change AWP _ _ _ _ _ _
  refine AWP.seq ?_
  refine AWP.seq ?_
  refine AWP.region (l := [0, 1, 2, 3, 4]) rfl ?_
  refine AOps.cons rfl rfl (AOp.load (.ptr sid 0 0) rfl rfl ty_84 h4 rfl ?_)
  refine AOps.cons rfl rfl (AOp.nilCheck (.ptr sid 0 0) rfl rfl rfl ?_)
  refine AOps.cons rfl rfl (AOp.fieldAddr rfl rfl fl_87_1 ?_ (hid := ⟨_, h9⟩))
  refine AOps.cons rfl rfl (AOp.load (.map mid) rfl rfl ty_85 h9 rfl ?_)
  refine AOps.cons rfl rfl (AOp.range rfl rfl h10 u_85 ?_)
  intro i12 H13 n14 h15 k16
  have e17 := ne_new h9 n14
  have e18 := ne_new h10 n14
  have e19 := ne_new h4 n14
  have z20 := Mono.free m11 n14
  have h21 := keep k16 (ne_new h9 n14) h9
  have h22 := keep k16 (ne_new h10 n14) h10
  have h23 := keep k16 (ne_new h4 n14) h4
  have m24 := Mono.new m11 n14 k16
  refine AOps.nil ?_
  change AWP _ _ _ _ _ _
  refine AWP.block ?_
  refine AWP.loop (fun q25 fq Hq => ∃ (seen : List Nat) (w3 : AV), q25 = (sides fs).length - seen.length ∧ fq 1 = .ptr i1 0 0 ∧ fq 2 = .snil ∧ fq 4 = .fn 59 [.ptr i1 0 0] ∧ fq 15 = .it i12 ∧ fq 3 = w3 ∧ Own H0 Hq 4 w3 (seen.flatMap (edgeJ fs)).length ((seen.flatMap (edgeJ fs)).flatMap eE) ∧ NotId w3 sid ∧ NotId w3 mid ∧ NotId w3 i1 ∧ NotId w3 i12 ∧ Hq sid = some (.row 0 ([.sl fs.length (fs.map eF), .map mid])) ∧ Hq mid = some (.map ((sides fs).map eS)) ∧ Hq i1 = some (.row 0 ([.ptr sid 0 0])) ∧ Hq i12 = some (.iter (.map mid ((sides fs).map eS).length seen)) ∧ Mono H0 Hq ∧ (seen.Nodup) ∧ (∀ j ∈ seen, j < (sides fs).length)) (k := (sides fs).length - ([] : List Nat).length) ?_ ?_
  ·
    exact ⟨([] : List Nat), .snil, rfl, rfl, rfl, rfl, rfl, rfl, Own.nil _ _ _, (NotId.nil _), (NotId.nil _), (NotId.nil _), (NotId.nil _), h21, h22, h23, h15, m24, by exact .nil, by intro j h; cases h⟩
  ·
    rintro _ f27 H26 ⟨seen, w3, rfl, s28, s29, s30, s31, s32, o33, no34, no35, no36, no37, h38, h39, h40, h41, m42, hnd, hlt⟩
    refine AWP.seq ?_
    refine AWP.region (l := [0, 1]) rfl ?_
    refine AOps.cons rfl rfl (AOp.next rfl s31 h41 h39 ?_ ?_)
    ·
      intro hall50
      refine AOps.cons rfl rfl (AOp.extract (.bool false) rfl rfl rfl ?_)
      refine AOps.nil ?_
      change AWP _ _ _ _ _ _
      refine AWP.seq ?_
      refine AWP.condF rfl rfl ?_
      refine AWP.exit ?_
      change AWP _ _ _ _ _ _
      refine AWP.seq ?_
      have hall : ∀ j, j < (sides fs).length → j ∈ seen := fun j hj => hall50 j (by simpa using hj)
      refine AWP.region (l := [0, 1]) rfl ?_
      refine AOps.cons rfl rfl (AOp.move (w3) rfl s32 ?_)
      refine AOps.cons rfl rfl (AOp.xcall («as» := [w3, .fn 61 []]) rfl rfl (rfl) tf_60 (c36 (l := (seen.flatMap (edgeJ fs))) o33 m42 (by have := seen_len fs seen; have := seen_le hnd hlt; omega)) ?_)
      rintro _ H51 ⟨rfl, m52, k53, l54, o55, p56, srt57⟩
      have h58 := (k53 _ no34).trans h38
      have h59 := (k53 _ no35).trans h39
      have h60 := (k53 _ no36).trans h40
      have h61 := (k53 _ no37).trans h41
      refine AOps.nil ?_
      change AWP _ _ _ _ _ _
      refine AWP.seq ?_
      refine AWP.region (l := [0, 1]) rfl ?_
      refine AOps.cons rfl rfl (AOp.move (w3) rfl s32 ?_)
      refine AOps.cons rfl rfl (AOp.assign (w3) rfl rfl ?_)
      refine AOps.nil ?_
      change AWP _ _ _ _ _ _
      refine AWP.ret ?_
      refine Fin.frz 2 o55 rfl m52 fun H62 m63 k64 => ?_
      have h65 := (k64 _ no34).trans h58
      have h66 := (k64 _ no35).trans h59
      have h67 := (k64 _ no36).trans h60
      have h68 := (k64 _ no37).trans h61
      refine ⟨_, _, Ghost.refl, .inr rfl, _, Res.one rfl rfl, ?_, m63⟩
      exact (congrArg (fun l : List Ed => AV.sl l.length (l.flatMap eE)) (show (l54 : List Ed) = eOut fs n n from by exact edges_eq hg hnd hlt hall p56 srt57))
    ·
      intro j43 en44 H45 he46 hnot47 h48 k49
      have h69 := keep k49 e17 h38
      have h70 := keep k49 e18 h39
      have h71 := keep k49 e19 h40
      have o73 := Own.keep o33 k49 no37
      have m74 := Mono.set m42 z20 k49
      obtain ⟨sj75, hsj76, rfl⟩ := eS_get he46
      have hin := hKR _ (List.mem_of_getElem? hsj76)
      have hjl := (List.getElem?_eq_some_iff.1 hsj76).1
      refine AOps.cons rfl rfl (AOp.extract (.bool true) rfl rfl rfl ?_)
      refine AOps.nil ?_
      change AWP _ _ _ _ _ _
      refine AWP.seq ?_
      refine AWP.condT rfl rfl ?_
      refine AWP.skip ?_
      change AWP _ _ _ _ _ _
      refine AWP.block ?_
      refine AWP.seq ?_
      refine AWP.region (l := [0, 1, 2, 3]) rfl ?_
      refine AOps.cons rfl rfl (AOp.entry rfl s31 h48 h70 he46 ?_)
      refine AOps.cons rfl rfl (AOp.extract (.agg [.int .i64 sj75.1.1, .int .i64 sj75.1.2]) rfl rfl rfl ?_)
      refine AOps.cons rfl rfl (AOp.alloc rfl tz_115 ?_)
      intro i77 H78 n79 h80 k81
      have e82 := ne_new h69 n79
      have e83 := ne_new h70 n79
      have e84 := ne_new h71 n79
      have e85 := ne_new h48 n79
      have z86 := Mono.free m74 n79
      have h87 := keep k81 (ne_new h69 n79) h69
      have h88 := keep k81 (ne_new h70 n79) h70
      have h89 := keep k81 (ne_new h71 n79) h71
      have h90 := keep k81 (ne_new h48 n79) h48
      have o91 := Own.keep o73 k81 (Own.notnew o73 n79)
      have no92 := Own.notnew o73 n79
      have m93 := Mono.new m74 n79 k81
      refine AOps.cons rfl rfl (AOp.store' (cells' := [.int .i64 sj75.1.1, .int .i64 sj75.1.2]) (.agg [.int .i64 sj75.1.1, .int .i64 sj75.1.2]) rfl rfl ts_115 h80 rfl rfl rfl rfl ?_)
      intro H94 h95 k96
      have h97 := keep k96 e82 h87
      have h98 := keep k96 e83 h88
      have h99 := keep k96 e84 h89
      have h100 := keep k96 e85 h90
      have o102 := Own.keep o91 k96 no92
      have m103 := Mono.set m93 z86 k96
      refine AOps.nil ?_
      change AWP _ _ _ _ _ _
      refine AWP.seq ?_
      refine AWP.region_quiet mixed (by kernel_rfl) 15 [] rfl (by kernel_rfl) (Mono H94) (Mono.refl _) ?_
      refine QE.op rfl rfl (.inl ⟨rfl, fun f' H' hf hM => AOp.load (.ptr sid 0 0) rfl ((hf 1 rfl).trans s28) ty_84 (hM _ _ h99) rfl ⟨rfl, hM⟩⟩) ?_
      refine QE.op rfl rfl (.inl ⟨rfl, fun f' H' hf hM => AOp.nilCheck (.ptr sid 0 0) rfl ((hf 21 rfl).trans rfl) rfl ⟨rfl, hM⟩⟩) ?_
      refine QE.op rfl rfl (.inl ⟨rfl, fun f' H' hf hM => AOp.fieldAddr rfl ((hf 22 rfl).trans rfl) fl_87_1 ⟨rfl, hM⟩ (hid := ⟨_, (hM _ _ h97)⟩)⟩) ?_
      refine QE.op rfl rfl (.inl ⟨rfl, fun f' H' hf hM => AOp.load (.map mid) rfl ((hf 23 rfl).trans rfl) ty_85 (hM _ _ h97) rfl ⟨rfl, hM⟩⟩) ?_
      refine QE.op rfl rfl (.inl ⟨rfl, fun f' H' hf hM => AOp.fieldAddr rfl ((hf 5 rfl).trans rfl) fl_115_1 ⟨rfl, hM⟩ (hid := ⟨_, (hM _ _ h95)⟩)⟩) ?_
      refine QE.op rfl rfl (.inl ⟨rfl, fun f' H' hf hM => AOp.load (.int .i64 sj75.1.2) rfl ((hf 25 rfl).trans rfl) ty_3 (hM _ _ h95) rfl ⟨rfl, hM⟩⟩) ?_
      refine QE.op rfl rfl (.inl ⟨rfl, fun f' H' hf hM => AOp.fieldAddr rfl ((hf 5 rfl).trans rfl) fl_115_0 ⟨rfl, hM⟩ (hid := ⟨_, (hM _ _ h95)⟩)⟩) ?_
      refine QE.op rfl rfl (.inl ⟨rfl, fun f' H' hf hM => AOp.load (.int .i64 sj75.1.1) rfl ((hf 27 rfl).trans rfl) ty_3 (hM _ _ h95) rfl ⟨rfl, hM⟩⟩) ?_
      refine QE.op rfl rfl (.inl ⟨rfl, fun f' H' hf hM => AOp.build (cells := [.int .i64 sj75.1.2, .int .i64 sj75.1.1]) rfl tz_115 pl_115 (lconsP ((hf 26 rfl).trans rfl) (lconsP ((hf 28 rfl).trans rfl) rfl)) rfl ⟨rfl, hM⟩⟩) ?_
      refine QE.op rfl rfl (.inl ⟨rfl, fun f' H' hf hM => AOp.lookupOk' rfl ((hf 24 rfl).trans rfl) (hM _ _ h98) ((hf 29 rfl).trans rfl) (kok63 hin.2 hin.1) (kes hKR) tm52 tzv_3 (look_sides hK (sj75.1.2) (sj75.1.1)) ⟨rfl, hM⟩⟩) ?_
      refine QE.op rfl rfl (.inl ⟨rfl, fun f' H' hf hM => AOp.move (.tup [.int .i64 (gotA fs sj75.1.2 sj75.1.1), .bool (decide (0 ≤ alongS fs sj75.1.2 sj75.1.1))]) rfl ((hf 30 rfl).trans rfl) ⟨rfl, hM⟩⟩) ?_
      refine QE.op rfl rfl (.inl ⟨rfl, fun f' H' hf hM => AOp.extract (.int .i64 (gotA fs sj75.1.2 sj75.1.1)) rfl ((hf 20 rfl).trans rfl) rfl ⟨rfl, hM⟩⟩) ?_
      refine QE.op rfl rfl (.inl ⟨rfl, fun f' H' hf hM => AOp.extract (.bool (decide (0 ≤ alongS fs sj75.1.2 sj75.1.1))) rfl ((hf 20 rfl).trans rfl) rfl ⟨rfl, hM⟩⟩) ?_
      refine QE.op rfl rfl (.inl ⟨rfl, fun f' H' hf hM => AOp.assign (.int .i64 (gotA fs sj75.1.2 sj75.1.1)) rfl ((hf 31 rfl).trans rfl) ⟨rfl, hM⟩⟩) ?_
      refine QE.op rfl rfl (.inl ⟨rfl, fun f' H' hf hM => AOp.assign (.bool (decide (0 ≤ alongS fs sj75.1.2 sj75.1.1))) rfl ((hf 32 rfl).trans rfl) ⟨rfl, hM⟩⟩) ?_
      refine QE.done fun H104 m105 => ?_
      have h106 := m105 _ _ h97
      have h107 := m105 _ _ h98
      have h108 := m105 _ _ h99
      have h109 := m105 _ _ h100
      have h110 := m105 _ _ h95
      have o111 := Own.mono o102 m105
      have m112 := m103.trans m105
      refine AOps.nil ?_
      change AWP _ _ _ _ _ _
      refine AWP.seq ?_
      refine AWP.region (l := [0, 1, 2, 3, 4, 5, 6, 7, 8]) rfl ?_
      refine AOps.cons rfl rfl (AOp.fieldAddr rfl rfl fl_115_0 ?_ (hid := ⟨_, h110⟩))
      refine AOps.cons rfl rfl (AOp.load (.int .i64 sj75.1.1) rfl rfl ty_3 h110 rfl ?_)
      refine AOps.cons rfl rfl (AOp.fieldAddr rfl rfl fl_115_1 ?_ (hid := ⟨_, h110⟩))
      refine AOps.cons rfl rfl (AOp.load (.int .i64 sj75.1.2) rfl rfl ty_3 h110 rfl ?_)
      refine AOps.cons rfl rfl (AOp.bin (.bool (decide (sj75.1.1 < sj75.1.2))) rfl rfl rfl rfl ?_)
      refine AOps.cons rfl rfl (AOp.move (.bool (decide (sj75.1.1 < sj75.1.2))) rfl rfl ?_)
      by_cases b113 : sj75.1.1 < sj75.1.2
      ·
        refine AOps.no rfl rfl rfl rfl rfl rfl rfl (ble_of (decide_eq_true b113) (by decide)) ?_
        refine AOps.no rfl rfl rfl rfl rfl rfl rfl (ble_of (decide_eq_true b113) (by decide)) ?_
        refine AOps.cons rfl rfl (AOp.pickT (.bool true) rfl rfl (decide_eq_true b113) rfl ?_)
        refine AOps.nil ?_
        change AWP _ _ _ _ _ _
        refine AWP.condT rfl rfl ?_
        refine AWP.seq ?_
        refine AWP.region_quiet mixed (by kernel_rfl) 12 [] rfl (by kernel_rfl) (Mono H104) (Mono.refl _) ?_
        refine QE.op rfl rfl (.inl ⟨rfl, fun f' H' hf hM => AOp.fieldAddr rfl ((hf 5 rfl).trans rfl) fl_115_0 ⟨rfl, hM⟩ (hid := ⟨_, (hM _ _ h110)⟩)⟩) ?_
        refine QE.op rfl rfl (.inl ⟨rfl, fun f' H' hf hM => AOp.load (.int .i64 sj75.1.1) rfl ((hf 42 rfl).trans rfl) ty_3 (hM _ _ h110) rfl ⟨rfl, hM⟩⟩) ?_
        refine QE.op rfl rfl (.inl ⟨rfl, fun f' H' hf hM => AOp.fieldAddr rfl ((hf 5 rfl).trans rfl) fl_115_1 ⟨rfl, hM⟩ (hid := ⟨_, (hM _ _ h110)⟩)⟩) ?_
        refine QE.op rfl rfl (.inl ⟨rfl, fun f' H' hf hM => AOp.load (.int .i64 sj75.1.2) rfl ((hf 44 rfl).trans rfl) ty_3 (hM _ _ h110) rfl ⟨rfl, hM⟩⟩) ?_
        refine QE.op rfl rfl (.inl ⟨rfl, fun f' H' hf hM => AOp.min2 rfl ((hf 43 rfl).trans rfl) ((hf 45 rfl).trans rfl) ⟨rfl, hM⟩⟩) ?_
        refine QE.op rfl rfl (.inl ⟨rfl, fun f' H' hf hM => AOp.fieldAddr rfl ((hf 5 rfl).trans rfl) fl_115_0 ⟨rfl, hM⟩ (hid := ⟨_, (hM _ _ h110)⟩)⟩) ?_
        refine QE.op rfl rfl (.inl ⟨rfl, fun f' H' hf hM => AOp.load (.int .i64 sj75.1.1) rfl ((hf 47 rfl).trans rfl) ty_3 (hM _ _ h110) rfl ⟨rfl, hM⟩⟩) ?_
        refine QE.op rfl rfl (.inl ⟨rfl, fun f' H' hf hM => AOp.fieldAddr rfl ((hf 5 rfl).trans rfl) fl_115_1 ⟨rfl, hM⟩ (hid := ⟨_, (hM _ _ h110)⟩)⟩) ?_
        refine QE.op rfl rfl (.inl ⟨rfl, fun f' H' hf hM => AOp.load (.int .i64 sj75.1.2) rfl ((hf 49 rfl).trans rfl) ty_3 (hM _ _ h110) rfl ⟨rfl, hM⟩⟩) ?_
        refine QE.op rfl rfl (.inl ⟨rfl, fun f' H' hf hM => AOp.max2 rfl ((hf 48 rfl).trans rfl) ((hf 50 rfl).trans rfl) ⟨rfl, hM⟩⟩) ?_
        refine QE.op rfl rfl (.inl ⟨rfl, fun f' H' hf hM => AOp.assign (.int .i64 (min sj75.1.1 sj75.1.2)) rfl ((hf 46 rfl).trans rfl) ⟨rfl, hM⟩⟩) ?_
        refine QE.op rfl rfl (.inl ⟨rfl, fun f' H' hf hM => AOp.assign (.int .i64 (max sj75.1.1 sj75.1.2)) rfl ((hf 51 rfl).trans rfl) ⟨rfl, hM⟩⟩) ?_
        refine QE.done fun H114 m115 => ?_
        have h116 := m115 _ _ h106
        have h117 := m115 _ _ h107
        have h118 := m115 _ _ h108
        have h119 := m115 _ _ h109
        have h120 := m115 _ _ h110
        have o121 := Own.mono o111 m115
        have m122 := m112.trans m115
        refine AOps.nil ?_
        change AWP _ _ _ _ _ _
        have hin2 := hin
        unfold inR at hin2
        have hsl2 := seen_len fs seen
        have hsl3 := seen_le hnd hlt
        refine AWP.region (l := [0, 1, 2, 3, 4, 5, 6, 7, 8, 9, 10, 11, 12, 13, 14, 15, 16]) rfl ?_
        refine AOps.cons rfl rfl (AOp.move (w3) rfl s32 ?_)
        refine AOps.cons rfl rfl (AOp.move (.int .i64 (min sj75.1.1 sj75.1.2)) rfl rfl ?_)
        refine AOps.cons rfl rfl (AOp.move (.int .i64 (max sj75.1.1 sj75.1.2)) rfl rfl ?_)
        refine AOps.cons rfl rfl (AOp.move (.fn 59 [.ptr i1 0 0]) rfl s30 ?_)
        refine AOps.cons rfl rfl (AOp.move (.int .i64 (min sj75.1.1 sj75.1.2)) rfl rfl ?_)
        refine AOps.cons rfl rfl (AOp.move (.int .i64 (max sj75.1.1 sj75.1.2)) rfl rfl ?_)
        refine AOps.cons rfl rfl (AOp.build (cells := [.int .i64 (min sj75.1.1 sj75.1.2), .int .i64 (max sj75.1.1 sj75.1.2)]) rfl tz_115 pl_115 rfl rfl ?_)
        refine AOps.cons rfl rfl (AOp.pcallH («as» := [.agg [.int .i64 (min sj75.1.1 sj75.1.2), .int .i64 (max sj75.1.1 sj75.1.2)], .ptr i1 0 0]) rfl rfl (rfl) tf_59 (c35 _ (by assumption) (by assumption) (min sj75.1.1 sj75.1.2, max sj75.1.1 sj75.1.2) ⟨by unfold inR; omega, by unfold inR; omega⟩ hK hKR h118 h116 h117) ?_)
        intro H123 m124
        have h125 := m124 _ _ h116
        have h126 := m124 _ _ h117
        have h127 := m124 _ _ h118
        have h128 := m124 _ _ h119
        have h129 := m124 _ _ h120
        have o130 := Own.mono o121 m124
        have m131 := m122.trans m124
        refine AOps.cons rfl rfl (AOp.move (.fn 59 [.ptr i1 0 0]) rfl s30 ?_)
        refine AOps.cons rfl rfl (AOp.move (.int .i64 (max sj75.1.1 sj75.1.2)) rfl rfl ?_)
        refine AOps.cons rfl rfl (AOp.move (.int .i64 (min sj75.1.1 sj75.1.2)) rfl rfl ?_)
        refine AOps.cons rfl rfl (AOp.build (cells := [.int .i64 (max sj75.1.1 sj75.1.2), .int .i64 (min sj75.1.1 sj75.1.2)]) rfl tz_115 pl_115 rfl rfl ?_)
        refine AOps.cons rfl rfl (AOp.pcallH («as» := [.agg [.int .i64 (max sj75.1.1 sj75.1.2), .int .i64 (min sj75.1.1 sj75.1.2)], .ptr i1 0 0]) rfl rfl (rfl) tf_59 (c35 _ (by assumption) (by assumption) (max sj75.1.1 sj75.1.2, min sj75.1.1 sj75.1.2) ⟨by unfold inR; omega, by unfold inR; omega⟩ hK hKR h127 h125 h126) ?_)
        intro H132 m133
        have h134 := m133 _ _ h125
        have h135 := m133 _ _ h126
        have h136 := m133 _ _ h127
        have h137 := m133 _ _ h128
        have h138 := m133 _ _ h129
        have o139 := Own.mono o130 m133
        have m140 := m131.trans m133
        refine AOps.cons rfl rfl (AOp.build (cells := [.int .i64 (min sj75.1.1 sj75.1.2), .int .i64 (max sj75.1.1 sj75.1.2), .int .i64 (alongS fs (min sj75.1.1 sj75.1.2) (max sj75.1.1 sj75.1.2)), .int .i64 (alongS fs (max sj75.1.1 sj75.1.2) (min sj75.1.1 sj75.1.2))]) rfl tz_47 pl_47 rfl rfl ?_)
        refine AOps.cons rfl rfl (AOp.buildSlice (cells := [.int .i64 (min sj75.1.1 sj75.1.2), .int .i64 (max sj75.1.1 sj75.1.2), .int .i64 (alongS fs (min sj75.1.1 sj75.1.2) (max sj75.1.1 sj75.1.2)), .int .i64 (alongS fs (max sj75.1.1 sj75.1.2) (min sj75.1.1 sj75.1.2))]) rfl u_32 ts_47 tz_47 rfl rfl rfl ?_)
        intro i141 H142 n143 h144 k145
        have e146 := ne_new h134 n143
        have e147 := ne_new h135 n143
        have e148 := ne_new h136 n143
        have e149 := ne_new h137 n143
        have e150 := ne_new h138 n143
        have z151 := Mono.free m140 n143
        have h152 := keep k145 (ne_new h134 n143) h134
        have h153 := keep k145 (ne_new h135 n143) h135
        have h154 := keep k145 (ne_new h136 n143) h136
        have h155 := keep k145 (ne_new h137 n143) h137
        have h156 := keep k145 (ne_new h138 n143) h138
        have o157 := Own.keep o139 k145 (Own.notnew o139 n143)
        have no158 := Own.notnew o139 n143
        have m159 := Mono.new m140 n143 k145
        refine AOps.cons rfl rfl (AOp.append_own (es := 4) (m := 1) (len := ((seen.flatMap (edgeJ fs)).length)) (old := (seen.flatMap (edgeJ fs)).flatMap eE) (cells := [.int .i64 (min sj75.1.1 sj75.1.2), .int .i64 (max sj75.1.1 sj75.1.2), .int .i64 (alongS fs (min sj75.1.1 sj75.1.2) (max sj75.1.1 sj75.1.2)), .int .i64 (alongS fs (max sj75.1.1 sj75.1.2) (min sj75.1.1 sj75.1.2))]) rfl u_32 ts_47 tzn_47 tb_47 (by decide) ni_32 rfl o157 m159 rfl (.slm h144 rfl) (one_of rfl) (by decide) (by first | omega | (simp; omega)) ?_)
        intro v160 H161 o162 m163 k164 j165
        have o166 := Own.snocM (xs := ((seen.flatMap (edgeJ fs)) : List Ed)) (y := (Ed.mk (min sj75.1.1 sj75.1.2) (max sj75.1.1 sj75.1.2) (alongS fs (min sj75.1.1 sj75.1.2) (max sj75.1.1 sj75.1.2)) (alongS fs (max sj75.1.1 sj75.1.2) (min sj75.1.1 sj75.1.2)))) (e := eE) (by simp) o162
        have h167 := (k164 _ no34 (by rw [h152]; simp)).trans h152
        have no168 := j165 _ no34 (by rw [h152]; simp)
        have h169 := (k164 _ no35 (by rw [h153]; simp)).trans h153
        have no170 := j165 _ no35 (by rw [h153]; simp)
        have h171 := (k164 _ no36 (by rw [h154]; simp)).trans h154
        have no172 := j165 _ no36 (by rw [h154]; simp)
        have h173 := (k164 _ no37 (by rw [h155]; simp)).trans h155
        have no174 := j165 _ no37 (by rw [h155]; simp)
        have h175 := (k164 _ no92 (by rw [h156]; simp)).trans h156
        have no176 := j165 _ no92 (by rw [h156]; simp)
        refine AOps.cons rfl rfl (AOp.assign (v160) rfl rfl ?_)
        refine AOps.nil ?_
        exact ⟨_, by have := seen_lt hnd hlt hnot47 hjl; simp only [List.length_append, List.length_cons, List.length_nil]; omega, (seen ++ [j43]), v160, rfl, s28, s29, s30, s31, rfl, (have hx : (((seen.flatMap (edgeJ fs)) ++ [(Ed.mk (min sj75.1.1 sj75.1.2) (max sj75.1.1 sj75.1.2) (alongS fs (min sj75.1.1 sj75.1.2) (max sj75.1.1 sj75.1.2)) (alongS fs (max sj75.1.1 sj75.1.2) (min sj75.1.1 sj75.1.2)))]) : List Ed) = (seen ++ [j43]).flatMap (edgeJ fs) := (by rw [seen_T hsj76 (.inl b113)]); Own.re o166 (congrArg List.length hx) (congrArg (fun l : List Ed => l.flatMap eE) hx)), no168, no170, no172, no174, h167, h169, h171, h173, m163, by exact nd_snoc hnd hnot47, by exact lt_snoc hlt hjl⟩
      ·
        refine AOps.yes rfl rfl rfl rfl rfl rfl rfl (decide_eq_false b113) (AOp.move (.bool (decide (0 ≤ alongS fs sj75.1.2 sj75.1.1))) rfl rfl ?_)
        refine AOps.yes rfl rfl rfl rfl rfl rfl rfl (decide_eq_false b113) (AOp.not rfl rfl ?_)
        refine AOps.cons rfl rfl (AOp.pickF (.bool (!(decide (0 ≤ alongS fs sj75.1.2 sj75.1.1)))) rfl rfl (decide_eq_false b113) rfl ?_)
        refine AOps.nil ?_
        change AWP _ _ _ _ _ _
        by_cases b177 : 0 ≤ alongS fs sj75.1.2 sj75.1.1
        ·
          refine AWP.condF rfl (nb (decide_eq_true b177)) ?_
          refine AWP.skip ?_
          exact ⟨_, by have := seen_lt hnd hlt hnot47 hjl; simp only [List.length_append, List.length_cons, List.length_nil]; omega, (seen ++ [j43]), w3, rfl, s28, s29, s30, s31, s32, (have hx : ((seen.flatMap (edgeJ fs)) : List Ed) = (seen ++ [j43]).flatMap (edgeJ fs) := (by rw [seen_F hsj76 (fun h => h.elim b113 (fun g => g b177))]); Own.re o111 (congrArg List.length hx) (congrArg (fun l : List Ed => l.flatMap eE) hx)), no34, no35, no36, no37, h106, h107, h108, h109, m112, by exact nd_snoc hnd hnot47, by exact lt_snoc hlt hjl⟩
        ·
          refine AWP.condT rfl (nb (decide_eq_false b177)) ?_
          refine AWP.seq ?_
          refine AWP.region_quiet mixed (by kernel_rfl) 12 [] rfl (by kernel_rfl) (Mono H104) (Mono.refl _) ?_
          refine QE.op rfl rfl (.inl ⟨rfl, fun f' H' hf hM => AOp.fieldAddr rfl ((hf 5 rfl).trans rfl) fl_115_0 ⟨rfl, hM⟩ (hid := ⟨_, (hM _ _ h110)⟩)⟩) ?_
          refine QE.op rfl rfl (.inl ⟨rfl, fun f' H' hf hM => AOp.load (.int .i64 sj75.1.1) rfl ((hf 42 rfl).trans rfl) ty_3 (hM _ _ h110) rfl ⟨rfl, hM⟩⟩) ?_
          refine QE.op rfl rfl (.inl ⟨rfl, fun f' H' hf hM => AOp.fieldAddr rfl ((hf 5 rfl).trans rfl) fl_115_1 ⟨rfl, hM⟩ (hid := ⟨_, (hM _ _ h110)⟩)⟩) ?_
          refine QE.op rfl rfl (.inl ⟨rfl, fun f' H' hf hM => AOp.load (.int .i64 sj75.1.2) rfl ((hf 44 rfl).trans rfl) ty_3 (hM _ _ h110) rfl ⟨rfl, hM⟩⟩) ?_
          refine QE.op rfl rfl (.inl ⟨rfl, fun f' H' hf hM => AOp.min2 rfl ((hf 43 rfl).trans rfl) ((hf 45 rfl).trans rfl) ⟨rfl, hM⟩⟩) ?_
          refine QE.op rfl rfl (.inl ⟨rfl, fun f' H' hf hM => AOp.fieldAddr rfl ((hf 5 rfl).trans rfl) fl_115_0 ⟨rfl, hM⟩ (hid := ⟨_, (hM _ _ h110)⟩)⟩) ?_
          refine QE.op rfl rfl (.inl ⟨rfl, fun f' H' hf hM => AOp.load (.int .i64 sj75.1.1) rfl ((hf 47 rfl).trans rfl) ty_3 (hM _ _ h110) rfl ⟨rfl, hM⟩⟩) ?_
          refine QE.op rfl rfl (.inl ⟨rfl, fun f' H' hf hM => AOp.fieldAddr rfl ((hf 5 rfl).trans rfl) fl_115_1 ⟨rfl, hM⟩ (hid := ⟨_, (hM _ _ h110)⟩)⟩) ?_
          refine QE.op rfl rfl (.inl ⟨rfl, fun f' H' hf hM => AOp.load (.int .i64 sj75.1.2) rfl ((hf 49 rfl).trans rfl) ty_3 (hM _ _ h110) rfl ⟨rfl, hM⟩⟩) ?_
          refine QE.op rfl rfl (.inl ⟨rfl, fun f' H' hf hM => AOp.max2 rfl ((hf 48 rfl).trans rfl) ((hf 50 rfl).trans rfl) ⟨rfl, hM⟩⟩) ?_
          refine QE.op rfl rfl (.inl ⟨rfl, fun f' H' hf hM => AOp.assign (.int .i64 (min sj75.1.1 sj75.1.2)) rfl ((hf 46 rfl).trans rfl) ⟨rfl, hM⟩⟩) ?_
          refine QE.op rfl rfl (.inl ⟨rfl, fun f' H' hf hM => AOp.assign (.int .i64 (max sj75.1.1 sj75.1.2)) rfl ((hf 51 rfl).trans rfl) ⟨rfl, hM⟩⟩) ?_
          refine QE.done fun H178 m179 => ?_
          have h180 := m179 _ _ h106
          have h181 := m179 _ _ h107
          have h182 := m179 _ _ h108
          have h183 := m179 _ _ h109
          have h184 := m179 _ _ h110
          have o185 := Own.mono o111 m179
          have m186 := m112.trans m179
          refine AOps.nil ?_
          change AWP _ _ _ _ _ _
          have hin2 := hin
          unfold inR at hin2
          have hsl2 := seen_len fs seen
          have hsl3 := seen_le hnd hlt
          refine AWP.region (l := [0, 1, 2, 3, 4, 5, 6, 7, 8, 9, 10, 11, 12, 13, 14, 15, 16]) rfl ?_
          refine AOps.cons rfl rfl (AOp.move (w3) rfl s32 ?_)
          refine AOps.cons rfl rfl (AOp.move (.int .i64 (min sj75.1.1 sj75.1.2)) rfl rfl ?_)
          refine AOps.cons rfl rfl (AOp.move (.int .i64 (max sj75.1.1 sj75.1.2)) rfl rfl ?_)
          refine AOps.cons rfl rfl (AOp.move (.fn 59 [.ptr i1 0 0]) rfl s30 ?_)
          refine AOps.cons rfl rfl (AOp.move (.int .i64 (min sj75.1.1 sj75.1.2)) rfl rfl ?_)
          refine AOps.cons rfl rfl (AOp.move (.int .i64 (max sj75.1.1 sj75.1.2)) rfl rfl ?_)
          refine AOps.cons rfl rfl (AOp.build (cells := [.int .i64 (min sj75.1.1 sj75.1.2), .int .i64 (max sj75.1.1 sj75.1.2)]) rfl tz_115 pl_115 rfl rfl ?_)
          refine AOps.cons rfl rfl (AOp.pcallH («as» := [.agg [.int .i64 (min sj75.1.1 sj75.1.2), .int .i64 (max sj75.1.1 sj75.1.2)], .ptr i1 0 0]) rfl rfl (rfl) tf_59 (c35 _ (by assumption) (by assumption) (min sj75.1.1 sj75.1.2, max sj75.1.1 sj75.1.2) ⟨by unfold inR; omega, by unfold inR; omega⟩ hK hKR h182 h180 h181) ?_)
          intro H187 m188
          have h189 := m188 _ _ h180
          have h190 := m188 _ _ h181
          have h191 := m188 _ _ h182
          have h192 := m188 _ _ h183
          have h193 := m188 _ _ h184
          have o194 := Own.mono o185 m188
          have m195 := m186.trans m188
          refine AOps.cons rfl rfl (AOp.move (.fn 59 [.ptr i1 0 0]) rfl s30 ?_)
          refine AOps.cons rfl rfl (AOp.move (.int .i64 (max sj75.1.1 sj75.1.2)) rfl rfl ?_)
          refine AOps.cons rfl rfl (AOp.move (.int .i64 (min sj75.1.1 sj75.1.2)) rfl rfl ?_)
          refine AOps.cons rfl rfl (AOp.build (cells := [.int .i64 (max sj75.1.1 sj75.1.2), .int .i64 (min sj75.1.1 sj75.1.2)]) rfl tz_115 pl_115 rfl rfl ?_)
          refine AOps.cons rfl rfl (AOp.pcallH («as» := [.agg [.int .i64 (max sj75.1.1 sj75.1.2), .int .i64 (min sj75.1.1 sj75.1.2)], .ptr i1 0 0]) rfl rfl (rfl) tf_59 (c35 _ (by assumption) (by assumption) (max sj75.1.1 sj75.1.2, min sj75.1.1 sj75.1.2) ⟨by unfold inR; omega, by unfold inR; omega⟩ hK hKR h191 h189 h190) ?_)
          intro H196 m197
          have h198 := m197 _ _ h189
          have h199 := m197 _ _ h190
          have h200 := m197 _ _ h191
          have h201 := m197 _ _ h192
          have h202 := m197 _ _ h193
          have o203 := Own.mono o194 m197
          have m204 := m195.trans m197
          refine AOps.cons rfl rfl (AOp.build (cells := [.int .i64 (min sj75.1.1 sj75.1.2), .int .i64 (max sj75.1.1 sj75.1.2), .int .i64 (alongS fs (min sj75.1.1 sj75.1.2) (max sj75.1.1 sj75.1.2)), .int .i64 (alongS fs (max sj75.1.1 sj75.1.2) (min sj75.1.1 sj75.1.2))]) rfl tz_47 pl_47 rfl rfl ?_)
          refine AOps.cons rfl rfl (AOp.buildSlice (cells := [.int .i64 (min sj75.1.1 sj75.1.2), .int .i64 (max sj75.1.1 sj75.1.2), .int .i64 (alongS fs (min sj75.1.1 sj75.1.2) (max sj75.1.1 sj75.1.2)), .int .i64 (alongS fs (max sj75.1.1 sj75.1.2) (min sj75.1.1 sj75.1.2))]) rfl u_32 ts_47 tz_47 rfl rfl rfl ?_)
          intro i205 H206 n207 h208 k209
          have e210 := ne_new h198 n207
          have e211 := ne_new h199 n207
          have e212 := ne_new h200 n207
          have e213 := ne_new h201 n207
          have e214 := ne_new h202 n207
          have z215 := Mono.free m204 n207
          have h216 := keep k209 (ne_new h198 n207) h198
          have h217 := keep k209 (ne_new h199 n207) h199
          have h218 := keep k209 (ne_new h200 n207) h200
          have h219 := keep k209 (ne_new h201 n207) h201
          have h220 := keep k209 (ne_new h202 n207) h202
          have o221 := Own.keep o203 k209 (Own.notnew o203 n207)
          have no222 := Own.notnew o203 n207
          have m223 := Mono.new m204 n207 k209
          refine AOps.cons rfl rfl (AOp.append_own (es := 4) (m := 1) (len := ((seen.flatMap (edgeJ fs)).length)) (old := (seen.flatMap (edgeJ fs)).flatMap eE) (cells := [.int .i64 (min sj75.1.1 sj75.1.2), .int .i64 (max sj75.1.1 sj75.1.2), .int .i64 (alongS fs (min sj75.1.1 sj75.1.2) (max sj75.1.1 sj75.1.2)), .int .i64 (alongS fs (max sj75.1.1 sj75.1.2) (min sj75.1.1 sj75.1.2))]) rfl u_32 ts_47 tzn_47 tb_47 (by decide) ni_32 rfl o221 m223 rfl (.slm h208 rfl) (one_of rfl) (by decide) (by first | omega | (simp; omega)) ?_)
          intro v224 H225 o226 m227 k228 j229
          have o230 := Own.snocM (xs := ((seen.flatMap (edgeJ fs)) : List Ed)) (y := (Ed.mk (min sj75.1.1 sj75.1.2) (max sj75.1.1 sj75.1.2) (alongS fs (min sj75.1.1 sj75.1.2) (max sj75.1.1 sj75.1.2)) (alongS fs (max sj75.1.1 sj75.1.2) (min sj75.1.1 sj75.1.2)))) (e := eE) (by simp) o226
          have h231 := (k228 _ no34 (by rw [h216]; simp)).trans h216
          have no232 := j229 _ no34 (by rw [h216]; simp)
          have h233 := (k228 _ no35 (by rw [h217]; simp)).trans h217
          have no234 := j229 _ no35 (by rw [h217]; simp)
          have h235 := (k228 _ no36 (by rw [h218]; simp)).trans h218
          have no236 := j229 _ no36 (by rw [h218]; simp)
          have h237 := (k228 _ no37 (by rw [h219]; simp)).trans h219
          have no238 := j229 _ no37 (by rw [h219]; simp)
          have h239 := (k228 _ no92 (by rw [h220]; simp)).trans h220
          have no240 := j229 _ no92 (by rw [h220]; simp)
          refine AOps.cons rfl rfl (AOp.assign (v224) rfl rfl ?_)
          refine AOps.nil ?_
          exact ⟨_, by have := seen_lt hnd hlt hnot47 hjl; simp only [List.length_append, List.length_cons, List.length_nil]; omega, (seen ++ [j43]), v224, rfl, s28, s29, s30, s31, rfl, (have hx : (((seen.flatMap (edgeJ fs)) ++ [(Ed.mk (min sj75.1.1 sj75.1.2) (max sj75.1.1 sj75.1.2) (alongS fs (min sj75.1.1 sj75.1.2) (max sj75.1.1 sj75.1.2)) (alongS fs (max sj75.1.1 sj75.1.2) (min sj75.1.1 sj75.1.2)))]) : List Ed) = (seen ++ [j43]).flatMap (edgeJ fs) := (by rw [seen_T hsj76 (.inr b177)]); Own.re o230 (congrArg List.length hx) (congrArg (fun l : List Ed => l.flatMap eE) hx)), no232, no234, no236, no238, h231, h233, h235, h237, m227, by exact nd_snoc hnd hnot47, by exact lt_snoc hlt hjl⟩
end Go.Proofs.T
namespace Go.Proofs.T
open Go Go.AH
set_option maxRecDepth 4000
set_option linter.unusedSimpArgs false
set_option linter.unusedVariables false
theorem c12 (fs : List (List Int)) (hfs : fs.length ≤ 1048576) (hfss : ∀ l ∈ fs, l.length ≤ 1048576) (n : Int) (hn : n ≤ 1000) (hsl : (sides fs).length ≤ 4000000000) : PC Try.prog 16 [.int .i64 n, .sl fs.length (fs.map eF)] (.tup [.agg [.sl ((buildT n fs).ed).length (((buildT n fs).ed).flatMap eE), .sl ((buildT n fs).fan).length (((buildT n fs).fan).map eF), .sl ((buildT n fs).rnd).length (((buildT n fs).rnd).map eBo)], .int .i64 (buildE n fs)]) := by
  intro H0
  refine ACalls.of_body' (n := 94) rfl rfl rfl rfl ?_
  have m0 := Mono.refl H0
  refine AWP.seq ?_
  refine AWP.region (l := [0, 1]) rfl ?_
  refine AOps.cons rfl rfl (AOp.alloc rfl tz_35 ?_)
  intro i1 H2 n3 h4 k5
  have z6 := Mono.free m0 n3
  have m7 := Mono.new m0 n3 k5
  refine AOps.cons rfl rfl (AOp.assign (.int .i64 0) rfl rfl ?_)
  refine AOps.nil ?_
  change AWP _ _ _ _ _ _
  refine AWP.seq ?_
  refine AWP.region (l := [0, 1, 2, 3, 4]) rfl ?_
  refine AOps.cons rfl rfl (AOp.move (.sl fs.length (fs.map eF)) rfl rfl ?_)
  refine AOps.cons rfl rfl (AOp.makeMap rfl ?_)
  intro i8 H9 n10 h11 k12
  have e13 := ne_new h4 n10
  have z14 := Mono.free m7 n10
  have h15 := keep k12 (ne_new h4 n10) h4
  have m16 := Mono.new m7 n10 k12
  refine AOps.cons rfl rfl (AOp.build (cells := [.sl fs.length (fs.map eF), .map i8]) rfl tz_87 pl_87 rfl rfl ?_)
  refine AOps.cons rfl rfl (AOp.box (.agg [.sl fs.length (fs.map eF), .map i8]) rfl rfl rfl ?_)
  intro i17 H18 n19 h20 k21
  have e22 := ne_new h15 n19
  have e23 := ne_new h11 n19
  have z24 := Mono.free m16 n19
  have h25 := keep k21 (ne_new h15 n19) h15
  have h26 := keep k21 (ne_new h11 n19) h11
  have m27 := Mono.new m16 n19 k21
  refine AOps.cons rfl rfl (AOp.assign (.ptr i17 0 0) rfl rfl ?_)
  refine AOps.nil ?_
  change AWP _ _ _ _ _ _
  refine AWP.seq ?_
  refine AWP.region (l := [0, 1]) rfl ?_
  refine AOps.cons rfl rfl (AOp.makeMap rfl ?_)
  intro i28 H29 n30 h31 k32
  have e33 := ne_new h25 n30
  have e34 := ne_new h26 n30
  have e35 := ne_new h20 n30
  have z36 := Mono.free m27 n30
  have h37 := keep k32 (ne_new h25 n30) h25
  have h38 := keep k32 (ne_new h26 n30) h26
  have h39 := keep k32 (ne_new h20 n30) h20
  have m40 := Mono.new m27 n30 k32
  refine AOps.cons rfl rfl (AOp.assign (.map i28) rfl rfl ?_)
  refine AOps.nil ?_
  change AWP _ _ _ _ _ _
  refine AWP.seq ?_
  refine AWP.seq ?_
  have oM : MO H0 H29 [] := MO.nil _ _
  refine AWP.region (l := [0, 1, 2]) rfl ?_
  refine AOps.cons rfl rfl (AOp.move (.sl fs.length (fs.map eF)) rfl rfl ?_)
  refine AOps.cons rfl rfl (AOp.len (m := fs.length) rfl rfl (.inr (.inl ⟨_, rfl⟩)) u_23 ?_)
  refine AOps.cons rfl rfl (AOp.move (.int .i64 0) rfl rfl ?_)
  refine AOps.nil ?_
  change AWP _ _ _ _ _ _
  refine AWP.block ?_
  refine AWP.loop (fun q41 fq Hq => ∃ (f : Int) (L : List ME), q41 = (((fs.length : Int) : Int) - f).toNat ∧ fq 24 = .int .i64 f ∧ fq 0 = .int .i64 n ∧ fq 4 = .ptr i1 0 0 ∧ fq 6 = .ptr i17 0 0 ∧ fq 7 = .map i28 ∧ fq 22 = .sl fs.length (fs.map eF) ∧ fq 23 = .int .i64 (fs.length : Int) ∧ MO H0 Hq L ∧ NotIdM L i1 ∧ NotIdM L i8 ∧ NotIdM L i17 ∧ NotIdM L i28 ∧ Hq i1 = some (.row 0 ([.snil, .snil, .snil])) ∧ Hq i8 = some (.map ((psides fs f 0).map eS)) ∧ Hq i17 = some (.row 0 ([.sl fs.length (fs.map eF), .map i8])) ∧ Hq i28 = some (.map (L.map eM)) ∧ Mono H0 Hq ∧ (0 ≤ f) ∧ (f ≤ (fs.length : Int)) ∧ (∀ g : Int, 0 ≤ g → g < f → addF n fs g) ∧ (Tells L fun x => mineU fs x f) ∧ ((L.map (·.1)).Nodup) ∧ (∀ e ∈ L, 0 ≤ e.1 ∧ e.1 < n)) (k := (((fs.length : Int) : Int) - 0).toNat) ?_ ?_
  ·
    exact ⟨0, ([] : List ME), rfl, rfl, rfl, rfl, rfl, rfl, rfl, rfl, oM, (NotIdM.nil _), (NotIdM.nil _), (NotIdM.nil _), (NotIdM.nil _), h37, h38, h39, h31, m40, by omega, by omega, by intro g; omega, by exact tells_nil fs, by exact .nil, by intro e h; cases h⟩
  ·
    rintro _ f43 H42 ⟨f, L, rfl, s44, s45, s46, s47, s48, s49, s50, o51, no52, no53, no54, no55, h56, h57, h58, h59, m60, hf0, hf1, hadd, htell, hkeys, hrng⟩
    refine AWP.seq ?_
    refine AWP.region (l := [0]) rfl ?_
    refine AOps.cons rfl rfl (AOp.bin (.bool (decide (f < (fs.length : Int)))) rfl s44 s50 rfl ?_)
    refine AOps.nil ?_
    change AWP _ _ _ _ _ _
    refine AWP.seq ?_
    by_cases b61 : f < (fs.length : Int)
    ·
      refine AWP.condT rfl (decide_eq_true b61) ?_
      refine AWP.skip ?_
      change AWP _ _ _ _ _ _
      refine AWP.seq ?_
      refine AWP.block ?_
      refine AWP.seq ?_
      refine AWP.region (l := [0, 1, 2, 3, 4]) rfl ?_
      refine AOps.cons rfl rfl (AOp.move (.int .i64 f) rfl s44 ?_)
      refine AOps.cons rfl rfl (AOp.indexAddrS rfl s49 s44 sl_23 (by omega) (by omega) ?_)
      refine AOps.cons rfl rfl (AOp.loadF (.sl (at_ fs f).length ((at_ fs f).map eI)) rfl rfl ty_38 (ld1 (by omega) (by omega)) ?_)
      refine AOps.cons rfl rfl (AOp.assign (.int .i64 f) rfl rfl ?_)
      refine AOps.cons rfl rfl (AOp.assign (.sl (at_ fs f).length ((at_ fs f).map eI)) rfl rfl ?_)
      refine AOps.nil ?_
      change AWP _ _ _ _ _ _
      refine AWP.seq ?_
      refine AWP.seq ?_
      refine AWP.region (l := [0, 1, 2, 3, 4]) rfl ?_
      refine AOps.cons rfl rfl (AOp.move (.ptr i17 0 0) rfl s47 ?_)
      refine AOps.cons rfl rfl (AOp.move (.int .i64 f) rfl rfl ?_)
      refine AOps.cons rfl rfl (AOp.move (.int .i64 n) rfl s45 ?_)
      refine AOps.cons rfl rfl (AOp.xcall («as» := [.ptr i17 0 0, .int .i64 f, .int .i64 n]) rfl rfl (rfl) tf_40 (c23 _ (by assumption) (by assumption) n f hn (by omega) hadd (Ne.symm e23) h58 h57) ?_)
      rintro rr H62 ⟨m63, L64, h65, hrr⟩
      rcases hrr with ⟨rfl, ha66, rfl⟩ | ⟨rfl, ha66⟩
      ·
        have h67 := m63 _ _ (hide_get e13 h56)
        have h68 := m63 _ _ (hide_get (Ne.symm e23) h58)
        have h69 := m63 _ _ (hide_get (Ne.symm e34) h59)
        have o70 := MO.hide_ o51 no53 m63
        have m71 := Mono.hide_ m60 z14 m63
        refine AOps.cons rfl rfl (AOp.not rfl rfl ?_)
        refine AOps.nil ?_
        change AWP _ _ _ _ _ _
        refine AWP.condF rfl rfl ?_
        refine AWP.skip ?_
        change AWP _ _ _ _ _ _
        refine AWP.seq ?_
        have hai := ha66
        have hap : Apart (at_ fs f) := hai.2.2.1
        have hq : (at_ fs f).length ≤ 1048576 := hfss _ (at_mem (by omega) (by omega))
        refine AWP.region (l := [0, 1, 2]) rfl ?_
        refine AOps.cons rfl rfl (AOp.move (.sl (at_ fs f).length ((at_ fs f).map eI)) rfl rfl ?_)
        refine AOps.cons rfl rfl (AOp.len (m := (at_ fs f).length) rfl rfl (.inr (.inl ⟨_, rfl⟩)) u_38 ?_)
        refine AOps.cons rfl rfl (AOp.move (.int .i64 0) rfl rfl ?_)
        refine AOps.nil ?_
        change AWP _ _ _ _ _ _
        refine AWP.block ?_
        refine AWP.loop (fun q72 fq Hq => ∃ (i : Int) (K : List ME), q72 = ((((at_ fs f).length : Int) : Int) - i).toNat ∧ fq 37 = .int .i64 i ∧ fq 24 = .int .i64 f ∧ fq 0 = .int .i64 n ∧ fq 4 = .ptr i1 0 0 ∧ fq 6 = .ptr i17 0 0 ∧ fq 7 = .map i28 ∧ fq 22 = .sl fs.length (fs.map eF) ∧ fq 23 = .int .i64 (fs.length : Int) ∧ fq 8 = .int .i64 f ∧ fq 35 = .sl (at_ fs f).length ((at_ fs f).map eI) ∧ fq 36 = .int .i64 (((at_ fs f).length) : Int) ∧ MO H0 Hq K ∧ NotIdM K i1 ∧ NotIdM K i17 ∧ NotIdM K i28 ∧ NotIdM K i8 ∧ Hq i1 = some (.row 0 ([.snil, .snil, .snil])) ∧ Hq i17 = some (.row 0 ([.sl fs.length (fs.map eF), .map i8])) ∧ Hq i28 = some (.map (K.map eM)) ∧ Hq i8 = some (.map ((psides fs (f + 1) 0).map eS)) ∧ Mono H0 Hq ∧ (0 ≤ i) ∧ (i ≤ ((at_ fs f).length : Int)) ∧ (Tells K (contM fs f i)) ∧ ((K.map (·.1)).Nodup) ∧ (∀ e ∈ K, 0 ≤ e.1 ∧ e.1 < n)) (k := ((((at_ fs f).length : Int) : Int) - 0).toNat) ?_ ?_
        ·
          exact ⟨0, L, rfl, rfl, s44, s45, s46, s47, s48, s49, s50, rfl, rfl, rfl, o70, no52, no54, no55, no53, h67, h68, h69, h65, m71, by omega, by omega, by exact Tells.same htell (fun y => cont_0 fs f y), by exact hkeys, by exact hrng⟩
        ·
          rintro _ f74 H73 ⟨i, K, rfl, s75, s76, s77, s78, s79, s80, s81, s82, s83, s84, s85, o86, no87, no88, no89, no90, h91, h92, h93, h94, m95, hi0, hi1, htk, hkeysK, hrngK⟩
          refine AWP.seq ?_
          refine AWP.region (l := [0]) rfl ?_
          refine AOps.cons rfl rfl (AOp.bin (.bool (decide (i < (((at_ fs f).length) : Int)))) rfl s75 s85 rfl ?_)
          refine AOps.nil ?_
          change AWP _ _ _ _ _ _
          refine AWP.seq ?_
          by_cases b96 : i < (((at_ fs f).length) : Int)
          ·
            refine AWP.condT rfl (decide_eq_true b96) ?_
            refine AWP.skip ?_
            change AWP _ _ _ _ _ _
            refine AWP.seq ?_
            refine AWP.block ?_
            refine AWP.seq ?_
            refine AWP.region (l := [0, 1, 2]) rfl ?_
            refine AOps.cons rfl rfl (AOp.indexAddrS rfl s84 s75 sl_38 (by omega) (by omega) ?_)
            refine AOps.cons rfl rfl (AOp.loadF (.int .i64 (at_ (at_ fs f) i)) rfl rfl ty_3 (ld1 (by omega) (by omega)) ?_)
            refine AOps.cons rfl rfl (AOp.assign (.int .i64 (at_ (at_ fs f) i)) rfl rfl ?_)
            refine AOps.nil ?_
            change AWP _ _ _ _ _ _
            have hxr := hai.2.1 i hi0 (by omega)
            have hrng := hrngK
            have hgl : ((getM K (at_ (at_ fs f) i)).2).length ≤ 1048577 := by rw [htk.get]; exact cont_len hf0 (by omega)
            refine AWP.region (l := [0, 1, 2, 3, 4, 5, 6, 7, 8]) rfl ?_
            refine AOps.cons rfl rfl (AOp.move (.map i28) rfl s80 ?_)
            refine AOps.cons rfl rfl (AOp.move (.int .i64 (at_ (at_ fs f) i)) rfl rfl ?_)
            refine AOps.cons rfl rfl (AOp.move (.map i28) rfl s80 ?_)
            refine AOps.cons rfl rfl (AOp.move (.int .i64 (at_ (at_ fs f) i)) rfl rfl ?_)
            obtain ⟨w97, hw98⟩ : ∃ w, w = (getM K (at_ (at_ fs f) i)).1 := ⟨_, rfl⟩
            obtain ⟨oA99, oB100, oC101⟩ := MO.take o86 (at_ (at_ fs f) i)
            rw [← hw98] at oA99 oC101
            have no102 := NotIdM.get no87 (at_ (at_ fs f) i)
            rw [← hw98] at no102
            have no103 := NotIdM.rest no87 (at_ (at_ fs f) i)
            have no104 := NotIdM.get no88 (at_ (at_ fs f) i)
            rw [← hw98] at no104
            have no105 := NotIdM.rest no88 (at_ (at_ fs f) i)
            have no106 := NotIdM.get no89 (at_ (at_ fs f) i)
            rw [← hw98] at no106
            have no107 := NotIdM.rest no89 (at_ (at_ fs f) i)
            have no108 := NotIdM.get no90 (at_ (at_ fs f) i)
            rw [← hw98] at no108
            have no109 := NotIdM.rest no90 (at_ (at_ fs f) i)
            refine AOps.cons rfl rfl (AOp.lookup' rfl rfl h93 rfl (kok3 ⟨by omega, by omega⟩) (kesM hrng hn) tm55 tzv_38 ((mgetM K (at_ (at_ fs f) i)).trans hw98.symm) ?_)
            refine AOps.cons rfl rfl (AOp.move (.int .i64 f) rfl s83 ?_)
            refine AOps.cons rfl rfl (AOp.buildSlice (cells := [.int .i64 f]) rfl u_38 ts_3 tz_3 rfl rfl rfl ?_)
            intro i110 H111 n112 h113 k114
            have e115 := ne_new h91 n112
            have e116 := ne_new h92 n112
            have e117 := ne_new h93 n112
            have e118 := ne_new h94 n112
            have z119 := Mono.free m95 n112
            have h120 := keep k114 (ne_new h91 n112) h91
            have h121 := keep k114 (ne_new h92 n112) h92
            have h122 := keep k114 (ne_new h93 n112) h93
            have h123 := keep k114 (ne_new h94 n112) h94
            have o124 := MO.keep oB100 k114 (MO.notnew oB100 n112)
            have no125 := MO.notnew oB100 n112
            have o126 := Own.keep oA99 k114 (Own.notnew oA99 n112)
            have no127 := Own.notnew oA99 n112
            have m128 := Mono.new m95 n112 k114
            refine AOps.cons rfl rfl (AOp.append_own (es := 1) (m := 1) (len := (((getM K (at_ (at_ fs f) i)).2).length)) (old := ((getM K (at_ (at_ fs f) i)).2).map eI) (cells := [.int .i64 f]) rfl u_38 ts_3 tzn_3 tb_3 (by decide) ni_38 rfl o126 m128 rfl (.slm h113 rfl) (one_of rfl) (by decide) (by first | omega | (simp; omega)) ?_)
            intro v129 H130 o131 m132 k133 j134
            have o135 := Own.snoc1 (xs := (((getM K (at_ (at_ fs f) i)).2) : List Int)) (y := f) (e := eI) (by simp) o131
            have h136 := (k133 _ no102 (by rw [h120]; simp)).trans h120
            have no137 := j134 _ no102 (by rw [h120]; simp)
            have h138 := (k133 _ no104 (by rw [h121]; simp)).trans h121
            have no139 := j134 _ no104 (by rw [h121]; simp)
            have h140 := (k133 _ no106 (by rw [h122]; simp)).trans h122
            have no141 := j134 _ no106 (by rw [h122]; simp)
            have h142 := (k133 _ no108 (by rw [h123]; simp)).trans h123
            have no143 := j134 _ no108 (by rw [h123]; simp)
            have sp145 := MO.sep o124 oC101 j134
            have o144 := MO.stay o124 oC101 k133
            refine AOps.cons rfl rfl (AOp.mapUpdate2 (es' := (putM K (at_ (at_ fs f) i) v129 (((getM K (at_ (at_ fs f) i)).2) ++ [f])).map eM) rfl h140 rfl (kok3 ⟨by omega, by omega⟩) (kesM hrng hn) tm55 rfl (mputM K (at_ (at_ fs f) i) v129 _) ?_)
            intro H146 h147 k148
            have h149 := keep k148 e33 h136
            have h150 := keep k148 e35 h138
            have h152 := keep k148 e34 h142
            have o153 := MO.keep o144 k148 no107
            have o154 := Own.keep o135 k148 no141
            have m155 := Mono.set m132 z36 k148
            have o156 := MO.put (L := K) o153 o154 sp145
            have no157 : NotIdM (putM K (at_ (at_ fs f) i) v129 (((getM K (at_ (at_ fs f) i)).2) ++ [f])) i1 := NotIdM.put no103 no137
            have no158 : NotIdM (putM K (at_ (at_ fs f) i) v129 (((getM K (at_ (at_ fs f) i)).2) ++ [f])) i17 := NotIdM.put no105 no139
            have no159 : NotIdM (putM K (at_ (at_ fs f) i) v129 (((getM K (at_ (at_ fs f) i)).2) ++ [f])) i8 := NotIdM.put no109 no143
            have no160 : NotIdM (putM K (at_ (at_ fs f) i) v129 (((getM K (at_ (at_ fs f) i)).2) ++ [f])) i28 := NotIdM.put no107 no141
            refine AOps.nil ?_
            change AWP _ _ _ _ _ _
            refine AWP.region (l := [0, 1]) rfl ?_
            refine AOps.cons rfl rfl (AOp.bin (.int .i64 (i + 1)) rfl s75 rfl (iadd (by omega)) ?_)
            refine AOps.cons rfl rfl (AOp.move (.int .i64 (i + 1)) rfl rfl ?_)
            refine AOps.nil ?_
            exact ⟨_, by omega, i + 1, (putM K (at_ (at_ fs f) i) v129 (((getM K (at_ (at_ fs f) i)).2) ++ [f])), rfl, rfl, s76, s77, s78, s79, s80, s81, s82, s83, s84, s85, o156, no157, no158, no160, no159, h149, h150, h147, h152, m155, by omega, by omega, by exact Tells.put htk (by rw [cont_hit hap hi0 (by omega), htk.get]) (by simp) (fun y hy => cont_miss hi0 (by omega) hy), by exact putM_keys hkeysK, by exact putM_rng hrngK (hai.2.1 i hi0 (by omega))⟩
          ·
            refine AWP.condF rfl (decide_eq_false b96) ?_
            refine AWP.exit ?_
            change AWP _ _ _ _ _ _
            refine AWP.region (l := [0, 1]) rfl ?_
            refine AOps.cons rfl rfl (AOp.bin (.int .i64 (f + 1)) rfl s76 rfl (iadd (by omega)) ?_)
            refine AOps.cons rfl rfl (AOp.move (.int .i64 (f + 1)) rfl rfl ?_)
            refine AOps.nil ?_
            exact ⟨_, by omega, f + 1, K, rfl, rfl, s77, s78, s79, s80, s81, s82, o86, no87, no90, no88, no89, h91, h94, h92, h93, m95, by omega, by omega, by exact fa_step hadd ha66, by exact Tells.same htk (fun y => (cont_end hf0 (by omega)).symm), by exact hkeysK, by exact hrngK⟩
      ·
        have h161 := m63 _ _ (hide_get e13 h56)
        have h162 := m63 _ _ (hide_get (Ne.symm e23) h58)
        have h163 := m63 _ _ (hide_get (Ne.symm e34) h59)
        have o164 := MO.hide_ o51 no53 m63
        have m165 := Mono.hide_ m60 z14 m63
        refine AOps.cons rfl rfl (AOp.not rfl rfl ?_)
        refine AOps.nil ?_
        change AWP _ _ _ _ _ _
        refine AWP.condT rfl rfl ?_
        refine AWP.seq ?_
        refine AWP.region (l := [0, 1, 2]) rfl ?_
        refine AOps.cons rfl rfl (AOp.build (cells := [.snil, .snil, .snil]) rfl tz_35 pl_35 rfl rfl ?_)
        refine AOps.cons rfl rfl (AOp.store' (cells' := [.snil, .snil, .snil]) (.agg [.snil, .snil, .snil]) s46 rfl ts_35 h161 rfl rfl rfl rfl ?_)
        intro H166 h167 k168
        have h170 := keep k168 (Ne.symm e22) h162
        have h171 := keep k168 (Ne.symm e33) h163
        have h172 := keep k168 (Ne.symm e13) h65
        have o173 := MO.keep o164 k168 no52
        have m174 := Mono.set m165 z6 k168
        refine AOps.cons rfl rfl (AOp.assign (.int .i64 14) rfl rfl ?_)
        refine AOps.nil ?_
        change AWP _ _ _ _ _ _
        refine AWP.ret ?_
        refine Fin.frzCell 0 (Own.nil H0 H166 1) h167 z6 rfl (NotId.nil _) m174 fun H175 h176 m177 k178 => ?_
        have h179 := (k178 _ (Ne.symm e22) (NotId.nil _)).trans h170
        have h180 := (k178 _ (Ne.symm e33) (NotId.nil _)).trans h171
        have h181 := (k178 _ (Ne.symm e13) (NotId.nil _)).trans h172
        have o182 := MO.stay2 o173 (SepM.nilR _) no52 k178
        have h183 : H175 i1 = some (.row 0 ([.sl 0 ([]), .snil, .snil])) := h176
        refine Fin.frzCell 1 (Own.nil H0 H175 1) h183 z6 rfl (NotId.nil _) m177 fun H184 h185 m186 k187 => ?_
        have h188 := (k187 _ (Ne.symm e22) (NotId.nil _)).trans h179
        have h189 := (k187 _ (Ne.symm e33) (NotId.nil _)).trans h180
        have h190 := (k187 _ (Ne.symm e13) (NotId.nil _)).trans h181
        have o191 := MO.stay2 o182 (SepM.nilR _) no52 k187
        have h192 : H184 i1 = some (.row 0 ([.sl 0 ([]), .sl 0 ([]), .snil])) := h185
        refine Fin.frzCell 2 (Own.nil H0 H184 1) h192 z6 rfl (NotId.nil _) m186 fun H193 h194 m195 k196 => ?_
        have h197 := (k196 _ (Ne.symm e22) (NotId.nil _)).trans h188
        have h198 := (k196 _ (Ne.symm e33) (NotId.nil _)).trans h189
        have h199 := (k196 _ (Ne.symm e13) (NotId.nil _)).trans h190
        have o200 := MO.stay2 o191 (SepM.nilR _) no52 k196
        have h201 : H193 i1 = some (.row 0 ([.sl 0 ([]), .sl 0 ([]), .sl 0 ([])])) := h194
        refine ⟨_, _, Ghost.refl, .inr rfl, _, Res.list rfl rfl (.cell (v := .agg [.sl 0 ([]), .sl 0 ([]), .sl 0 ([])]) s46 ty_35 h201 rfl (.tmp rfl (.nil))), ?_, m195⟩
        exact congrArg AV.tup (lc (congrArg AV.agg (lc (congrArg (fun l : List Ed => AV.sl l.length (l.flatMap eE)) (show ([] : List Ed) = (buildT n fs).ed from by rw [(build_no (fun h => ha66 (good_add.1 h.2.1 f hf0 (by omega)))).1])) (lc (congrArg (fun l : List (List Int) => AV.sl l.length (l.map eF)) (show ([] : List (List Int)) = (buildT n fs).fan from by rw [(build_no (fun h => ha66 (good_add.1 h.2.1 f hf0 (by omega)))).1])) (lc (congrArg (fun l : List Bool => AV.sl l.length (l.map eBo)) (show ([] : List Bool) = (buildT n fs).rnd from by rw [(build_no (fun h => ha66 (good_add.1 h.2.1 f hf0 (by omega)))).1])) rfl)))) (lc (congrArg (AV.int .i64) (show (14 : Int) = buildE n fs from by rw [(build_no (fun h => ha66 (good_add.1 h.2.1 f hf0 (by omega)))).2])) rfl))
    ·
      refine AWP.condF rfl (decide_eq_false b61) ?_
      refine AWP.exit ?_
      change AWP _ _ _ _ _ _
      refine AWP.seq ?_
      refine AWP.seq ?_
      refine AWP.region (l := [0, 1, 2, 3, 4, 5, 6, 7]) rfl ?_
      refine AOps.cons rfl rfl (AOp.move (.int .i64 n) rfl s45 ?_)
      refine AOps.cons rfl rfl (AOp.bin (.bool (decide (n < 0))) rfl rfl rfl rfl ?_)
      refine AOps.cons rfl rfl (AOp.move (.bool (decide (n < 0))) rfl rfl ?_)
      by_cases b202 : n < 0
      ·
        refine AOps.no rfl rfl rfl rfl rfl rfl rfl (ble_of (decide_eq_true b202) (by decide)) ?_
        refine AOps.no rfl rfl rfl rfl rfl rfl rfl (ble_of (decide_eq_true b202) (by decide)) ?_
        refine AOps.no rfl rfl rfl rfl rfl rfl rfl (ble_of (decide_eq_true b202) (by decide)) ?_
        refine AOps.no rfl rfl rfl rfl rfl rfl rfl (ble_of (decide_eq_true b202) (by decide)) ?_
        refine AOps.cons rfl rfl (AOp.pickT (.bool true) rfl rfl (decide_eq_true b202) rfl ?_)
        refine AOps.nil ?_
        change AWP _ _ _ _ _ _
        refine AWP.condT rfl rfl ?_
        refine AWP.seq ?_
        have hfe : f = fs.length := by omega
        skip
        refine AWP.region (l := [0, 1, 2]) rfl ?_
        refine AOps.cons rfl rfl (AOp.build (cells := [.snil, .snil, .snil]) rfl tz_35 pl_35 rfl rfl ?_)
        refine AOps.cons rfl rfl (AOp.store' (cells' := [.snil, .snil, .snil]) (.agg [.snil, .snil, .snil]) s46 rfl ts_35 h56 rfl rfl rfl rfl ?_)
        intro H203 h204 k205
        have h207 := keep k205 (Ne.symm e13) h57
        have h208 := keep k205 (Ne.symm e22) h58
        have h209 := keep k205 (Ne.symm e33) h59
        have o210 := MO.keep o51 k205 no52
        have m211 := Mono.set m60 z6 k205
        refine AOps.cons rfl rfl (AOp.assign (.int .i64 14) rfl rfl ?_)
        refine AOps.nil ?_
        change AWP _ _ _ _ _ _
        refine AWP.ret ?_
        refine Fin.frzCell 0 (Own.nil H0 H203 1) h204 z6 rfl (NotId.nil _) m211 fun H212 h213 m214 k215 => ?_
        have h216 := (k215 _ (Ne.symm e13) (NotId.nil _)).trans h207
        have h217 := (k215 _ (Ne.symm e22) (NotId.nil _)).trans h208
        have h218 := (k215 _ (Ne.symm e33) (NotId.nil _)).trans h209
        have o219 := MO.stay2 o210 (SepM.nilR _) no52 k215
        have h220 : H212 i1 = some (.row 0 ([.sl 0 ([]), .snil, .snil])) := h213
        refine Fin.frzCell 1 (Own.nil H0 H212 1) h220 z6 rfl (NotId.nil _) m214 fun H221 h222 m223 k224 => ?_
        have h225 := (k224 _ (Ne.symm e13) (NotId.nil _)).trans h216
        have h226 := (k224 _ (Ne.symm e22) (NotId.nil _)).trans h217
        have h227 := (k224 _ (Ne.symm e33) (NotId.nil _)).trans h218
        have o228 := MO.stay2 o219 (SepM.nilR _) no52 k224
        have h229 : H221 i1 = some (.row 0 ([.sl 0 ([]), .sl 0 ([]), .snil])) := h222
        refine Fin.frzCell 2 (Own.nil H0 H221 1) h229 z6 rfl (NotId.nil _) m223 fun H230 h231 m232 k233 => ?_
        have h234 := (k233 _ (Ne.symm e13) (NotId.nil _)).trans h225
        have h235 := (k233 _ (Ne.symm e22) (NotId.nil _)).trans h226
        have h236 := (k233 _ (Ne.symm e33) (NotId.nil _)).trans h227
        have o237 := MO.stay2 o228 (SepM.nilR _) no52 k233
        have h238 : H230 i1 = some (.row 0 ([.sl 0 ([]), .sl 0 ([]), .sl 0 ([])])) := h231
        refine ⟨_, _, Ghost.refl, .inr rfl, _, Res.list rfl rfl (.cell (v := .agg [.sl 0 ([]), .sl 0 ([]), .sl 0 ([])]) s46 ty_35 h238 rfl (.tmp rfl (.nil))), ?_, m232⟩
        exact congrArg AV.tup (lc (congrArg AV.agg (lc (congrArg (fun l : List Ed => AV.sl l.length (l.flatMap eE)) (show ([] : List Ed) = (buildT n fs).ed from by rw [(build_no (fun h => absurd h.1 (by omega))).1])) (lc (congrArg (fun l : List (List Int) => AV.sl l.length (l.map eF)) (show ([] : List (List Int)) = (buildT n fs).fan from by rw [(build_no (fun h => absurd h.1 (by omega))).1])) (lc (congrArg (fun l : List Bool => AV.sl l.length (l.map eBo)) (show ([] : List Bool) = (buildT n fs).rnd from by rw [(build_no (fun h => absurd h.1 (by omega))).1])) rfl)))) (lc (congrArg (AV.int .i64) (show (14 : Int) = buildE n fs from by rw [(build_no (fun h => absurd h.1 (by omega))).2])) rfl))
      ·
        refine AOps.yes rfl rfl rfl rfl rfl rfl rfl (decide_eq_false b202) (AOp.move (.map i28) rfl s48 ?_)
        refine AOps.yes rfl rfl rfl rfl rfl rfl rfl (decide_eq_false b202) (AOp.lenMap rfl rfl h59 u_88 ?_)
        refine AOps.yes rfl rfl rfl rfl rfl rfl rfl (decide_eq_false b202) (AOp.move (.int .i64 n) rfl s45 ?_)
        refine AOps.yes rfl rfl rfl rfl rfl rfl rfl (decide_eq_false b202) (AOp.bin (.bool (!decide ((((L.map eM).length) : Int) = n))) rfl rfl rfl ine ?_)
        refine AOps.cons rfl rfl (AOp.pickF (.bool (!decide ((((L.map eM).length) : Int) = n))) rfl rfl (decide_eq_false b202) rfl ?_)
        refine AOps.nil ?_
        change AWP _ _ _ _ _ _
        by_cases b239 : (((L.map eM).length) : Int) = n
        ·
          refine AWP.condF rfl (nb (decide_eq_true b239)) ?_
          refine AWP.skip ?_
          change AWP _ _ _ _ _ _
          refine AWP.seq ?_
          rw [psides_0, take_all (by omega)] at h57
          have hfe : f = fs.length := by omega
          have hg : goodS n fs := good_add.2 (fun g h0 h1 => hadd g h0 (by omega))
          rw [hfe] at htell
          refine AWP.region (l := [0, 1, 2, 3, 4]) rfl ?_
          refine AOps.cons rfl rfl (AOp.move (.ptr i17 0 0) rfl s47 ?_)
          refine AOps.cons rfl rfl (AOp.pcallH («as» := [.ptr i17 0 0]) rfl rfl (rfl) tf_41 (c24 _ (by assumption) (by assumption) _ (by omega) (by assumption) (by assumption) h58 h57) ?_)
          intro H240 m241
          have h242 := m241 _ _ h56
          have h243 := m241 _ _ h57
          have h244 := m241 _ _ h58
          have h245 := m241 _ _ h59
          have o246 := MO.mono o51 m241
          have m247 := m60.trans m241
          refine AOps.cons rfl rfl (AOp.build (cells := [.sl (eOut fs n n).length ((eOut fs n n).flatMap eE), .snil, .snil]) rfl tz_35 pl_35 rfl rfl ?_)
          refine AOps.cons rfl rfl (AOp.alloc rfl tz_35 ?_)
          intro i248 H249 n250 h251 k252
          have e253 := ne_new h242 n250
          have e254 := ne_new h243 n250
          have e255 := ne_new h244 n250
          have e256 := ne_new h245 n250
          have z257 := Mono.free m247 n250
          have h258 := keep k252 (ne_new h242 n250) h242
          have h259 := keep k252 (ne_new h243 n250) h243
          have h260 := keep k252 (ne_new h244 n250) h244
          have h261 := keep k252 (ne_new h245 n250) h245
          have o262 := MO.keep o246 k252 (MO.notnew o246 n250)
          have no263 := MO.notnew o246 n250
          have m264 := Mono.new m247 n250 k252
          refine AOps.cons rfl rfl (AOp.store' (cells' := [.sl (eOut fs n n).length ((eOut fs n n).flatMap eE), .snil, .snil]) (.agg [.sl (eOut fs n n).length ((eOut fs n n).flatMap eE), .snil, .snil]) rfl rfl ts_35 h251 rfl rfl rfl rfl ?_)
          intro H265 h266 k267
          have h268 := keep k267 e253 h258
          have h269 := keep k267 e254 h259
          have h270 := keep k267 e255 h260
          have h271 := keep k267 e256 h261
          have o273 := MO.keep o262 k267 no263
          have m274 := Mono.set m264 z257 k267
          refine AOps.nil ?_
          change AWP _ _ _ _ _ _
          refine AWP.seq ?_
          refine AWP.seq ?_
          refine AWP.region (l := [0, 1]) rfl ?_
          refine AOps.cons rfl rfl (AOp.move (.int .i64 n) rfl s45 ?_)
          refine AOps.cons rfl rfl (AOp.move (.int .i64 0) rfl rfl ?_)
          refine AOps.nil ?_
          change AWP _ _ _ _ _ _
          refine AWP.block ?_
          refine AWP.loop (fun q275 fq Hq => ∃ (c : Int) (w12_1 : AV) (w12_2 : AV), q275 = (n - c).toNat ∧ fq 64 = .int .i64 c ∧ fq 4 = .ptr i1 0 0 ∧ fq 6 = .ptr i17 0 0 ∧ fq 7 = .map i28 ∧ fq 12 = .ptr i248 0 0 ∧ fq 63 = .int .i64 n ∧ Own H0 Hq 1 w12_1 (fansU fs c).length ((fansU fs c).map eF) ∧ Own H0 Hq 1 w12_2 (rndU fs c).length ((rndU fs c).map eBo) ∧ NotId w12_1 i1 ∧ NotId w12_1 i8 ∧ NotId w12_1 i17 ∧ NotId w12_1 i28 ∧ NotId w12_1 i248 ∧ NotId w12_2 i1 ∧ NotId w12_2 i8 ∧ NotId w12_2 i17 ∧ NotId w12_2 i28 ∧ NotId w12_2 i248 ∧ Sep w12_1 w12_2 ∧ MO H0 Hq (L.filter (fun e => decide (c ≤ e.1))) ∧ NotIdM (L.filter (fun e => decide (c ≤ e.1))) i1 ∧ NotIdM (L.filter (fun e => decide (c ≤ e.1))) i8 ∧ NotIdM (L.filter (fun e => decide (c ≤ e.1))) i17 ∧ NotIdM (L.filter (fun e => decide (c ≤ e.1))) i28 ∧ NotIdM (L.filter (fun e => decide (c ≤ e.1))) i248 ∧ SepM (L.filter (fun e => decide (c ≤ e.1))) w12_1 ∧ SepM (L.filter (fun e => decide (c ≤ e.1))) w12_2 ∧ Hq i1 = some (.row 0 ([.snil, .snil, .snil])) ∧ Hq i8 = some (.map ((sides fs).map eS)) ∧ Hq i17 = some (.row 0 ([.sl fs.length (fs.map eF), .map i8])) ∧ Hq i28 = some (.map (L.map eM)) ∧ Hq i248 = some (.row 0 ([.sl (eOut fs n n).length ((eOut fs n n).flatMap eE), w12_1, w12_2])) ∧ Mono H0 Hq ∧ (0 ≤ c) ∧ (c ≤ n) ∧ (∀ j : Int, 0 ≤ j → j < c → fanOK fs j = true)) (k := (n - 0).toNat) ?_ ?_
          ·
            exact ⟨0, .snil, .snil, rfl, rfl, s46, s47, s48, rfl, rfl, Own.nil _ _ _, Own.nil _ _ _, (NotId.nil _), (NotId.nil _), (NotId.nil _), (NotId.nil _), (NotId.nil _), (NotId.nil _), (NotId.nil _), (NotId.nil _), (NotId.nil _), (NotId.nil _), (Sep.nilL _), ((filter_start (fun e he => (hrng e he).1)) ▸ o273), ((filter_start (fun e he => (hrng e he).1)) ▸ no52), ((filter_start (fun e he => (hrng e he).1)) ▸ no53), ((filter_start (fun e he => (hrng e he).1)) ▸ no54), ((filter_start (fun e he => (hrng e he).1)) ▸ no55), ((filter_start (fun e he => (hrng e he).1)) ▸ no263), ((filter_start (fun e he => (hrng e he).1)) ▸ (SepM.nilR _)), ((filter_start (fun e he => (hrng e he).1)) ▸ (SepM.nilR _)), h268, h269, h270, h271, h266, m274, by omega, by omega, by intro j; omega⟩
          ·
            rintro _ f277 H276 ⟨c, w12_1, w12_2, rfl, s278, s279, s280, s281, s282, s283, o284, o285, no286, no287, no288, no289, no290, no291, no292, no293, no294, no295, sp296, o297, no298, no299, no300, no301, no302, sp303, sp304, h305, h306, h307, h308, h309, m310, hc0, hc1, hf⟩
            refine AWP.seq ?_
            refine AWP.region (l := [0]) rfl ?_
            refine AOps.cons rfl rfl (AOp.bin (.bool (decide (c < n))) rfl s278 s283 rfl ?_)
            refine AOps.nil ?_
            change AWP _ _ _ _ _ _
            refine AWP.seq ?_
            by_cases b311 : c < n
            ·
              refine AWP.condT rfl (decide_eq_true b311) ?_
              refine AWP.skip ?_
              change AWP _ _ _ _ _ _
              refine AWP.seq ?_
              refine AWP.block ?_
              refine AWP.seq ?_
              refine AWP.region (l := [0, 1]) rfl ?_
              refine AOps.cons rfl rfl (AOp.move (.int .i64 c) rfl s278 ?_)
              refine AOps.cons rfl rfl (AOp.assign (.int .i64 c) rfl rfl ?_)
              refine AOps.nil ?_
              change AWP _ _ _ _ _ _
              refine AWP.seq ?_
              refine AWP.region (l := [0, 1, 2, 3, 4, 5, 6, 7, 8, 9, 10, 11, 12]) rfl ?_
              refine AOps.cons rfl rfl (AOp.move (.ptr i17 0 0) rfl s280 ?_)
              refine AOps.cons rfl rfl (AOp.move (.int .i64 c) rfl rfl ?_)
              refine AOps.cons rfl rfl (AOp.move (.map i28) rfl s281 ?_)
              refine AOps.cons rfl rfl (AOp.move (.int .i64 c) rfl rfl ?_)
              obtain ⟨w312, hw313⟩ : ∃ w, w = (getM L c).1 := ⟨_, rfl⟩
              obtain ⟨oA314, oB315, oC316⟩ := MO.take_at o297 (htell.get c)
              rw [← hw313] at oA314 oC316
              have no317 := NotIdM.get no298 c
              rw [getM_filter, ← hw313] at no317
              have no318 := NotIdM.rest no298 c
              have no319 := NotIdM.get no299 c
              rw [getM_filter, ← hw313] at no319
              have no320 := NotIdM.rest no299 c
              have no321 := NotIdM.get no300 c
              rw [getM_filter, ← hw313] at no321
              have no322 := NotIdM.rest no300 c
              have no323 := NotIdM.get no301 c
              rw [getM_filter, ← hw313] at no323
              have no324 := NotIdM.rest no301 c
              have no325 := NotIdM.get no302 c
              rw [getM_filter, ← hw313] at no325
              have no326 := NotIdM.rest no302 c
              have sp327 := SepM.get sp303 c
              rw [getM_filter, ← hw313] at sp327
              have sp328 := SepM.rest sp303 c
              have sp329 := SepM.get sp304 c
              rw [getM_filter, ← hw313] at sp329
              have sp330 := SepM.rest sp304 c
              refine AOps.cons rfl rfl (AOp.lookup' rfl rfl h308 rfl (kok3 ⟨by omega, by omega⟩) (kesM hrng hn) tm55 tzv_38 ((mgetM L c).trans hw313.symm) ?_)
              refine AOps.cons rfl rfl ?_
              refine AOp.frz 72 oA314 rfl m310 fun H331 m332 k333 => ?_
              have h334 := (k333 _ no317).trans h305
              have h335 := (k333 _ no319).trans h306
              have h336 := (k333 _ no321).trans h307
              have h337 := (k333 _ no323).trans h308
              have h338 := (k333 _ no325).trans h309
              have o339 := Own.stay o284 (Sep.symm sp327) (fun i hi _ => k333 i hi)
              have o340 := Own.stay o285 (Sep.symm sp329) (fun i hi _ => k333 i hi)
              have o341 := MO.stay oB315 oC316 (fun i hi _ => k333 i hi)
              refine AOp.pcallH («as» := [.ptr i17 0 0, .int .i64 c, .sl (mineU fs c fs.length).length ((mineU fs c fs.length).map eI)]) rfl rfl (rfl) tf_42 (c25 _ (by assumption) (by assumption) _ _ (by omega) (by omega) (by assumption) h336 h335) ?_
              intro H342 m343
              have h344 := m343 _ _ h334
              have h345 := m343 _ _ h335
              have h346 := m343 _ _ h336
              have h347 := m343 _ _ h337
              have h348 := m343 _ _ h338
              have o349 := Own.mono o339 m343
              have o350 := Own.mono o340 m343
              have o351 := MO.mono o341 m343
              have m352 := m332.trans m343
              refine AOps.cons rfl rfl (AOp.move (.tup [.sl (fanL fs c).length ((fanL fs c).map eI), .bool (fanR fs c), .bool (fanOK fs c)]) rfl rfl ?_)
              refine AOps.cons rfl rfl (AOp.extract (.sl (fanL fs c).length ((fanL fs c).map eI)) rfl rfl rfl ?_)
              refine AOps.cons rfl rfl (AOp.extract (.bool (fanR fs c)) rfl rfl rfl ?_)
              refine AOps.cons rfl rfl (AOp.extract (.bool (fanOK fs c)) rfl rfl rfl ?_)
              refine AOps.cons rfl rfl (AOp.assign (.sl (fanL fs c).length ((fanL fs c).map eI)) rfl rfl ?_)
              refine AOps.cons rfl rfl (AOp.assign (.bool (fanR fs c)) rfl rfl ?_)
              refine AOps.cons rfl rfl (AOp.assign (.bool (fanOK fs c)) rfl rfl ?_)
              refine AOps.nil ?_
              change AWP _ _ _ _ _ _
              refine AWP.seq ?_
              refine AWP.seq ?_
              refine AWP.region (l := [0, 1]) rfl ?_
              refine AOps.cons rfl rfl (AOp.move (.bool (fanOK fs c)) rfl rfl ?_)
              refine AOps.cons rfl rfl (AOp.not rfl rfl ?_)
              refine AOps.nil ?_
              change AWP _ _ _ _ _ _
              rcases Bool.eq_false_or_eq_true (fanOK fs c) with b353 | b353
              ·
                refine AWP.condF rfl (nb b353) ?_
                refine AWP.skip ?_
                change AWP _ _ _ _ _ _
                refine AWP.seq ?_
                have hl3 : (fansU fs c).length ≤ 1000 := by simp [fansU]; omega
                have hl4 : (rndU fs c).length ≤ 1000 := by simp [rndU]; omega
                refine AWP.region (l := [0, 1, 2, 3, 4, 5, 6]) rfl ?_
                refine AOps.cons rfl rfl (AOp.fieldAddr rfl s282 fl_35_1 ?_ (hid := ⟨_, h348⟩))
                refine AOps.cons rfl rfl (AOp.load (w12_1) rfl rfl ty_23 h348 rfl ?_)
                refine AOps.cons rfl rfl (AOp.move (.sl (fanL fs c).length ((fanL fs c).map eI)) rfl rfl ?_)
                refine AOps.cons rfl rfl (AOp.buildSlice (cells := [.sl (fanL fs c).length ((fanL fs c).map eI)]) rfl u_23 ts_38 tz_38 rfl rfl rfl ?_)
                intro i354 H355 n356 h357 k358
                have e359 := ne_new h344 n356
                have e360 := ne_new h345 n356
                have e361 := ne_new h346 n356
                have e362 := ne_new h347 n356
                have e363 := ne_new h348 n356
                have z364 := Mono.free m352 n356
                have h365 := keep k358 (ne_new h344 n356) h344
                have h366 := keep k358 (ne_new h345 n356) h345
                have h367 := keep k358 (ne_new h346 n356) h346
                have h368 := keep k358 (ne_new h347 n356) h347
                have h369 := keep k358 (ne_new h348 n356) h348
                have o370 := Own.keep o349 k358 (Own.notnew o349 n356)
                have no371 := Own.notnew o349 n356
                have o372 := Own.keep o350 k358 (Own.notnew o350 n356)
                have no373 := Own.notnew o350 n356
                have o374 := MO.keep o351 k358 (MO.notnew o351 n356)
                have no375 := MO.notnew o351 n356
                have m376 := Mono.new m352 n356 k358
                refine AOps.cons rfl rfl (AOp.append_own (es := 1) (m := 1) (len := ((fansU fs c).length)) (old := (fansU fs c).map eF) (cells := [.sl (fanL fs c).length ((fanL fs c).map eI)]) rfl u_23 ts_38 tzn_38 tb_38 (by decide) ni_23 rfl o370 m376 rfl (.slm h357 rfl) (one_of rfl) (by decide) (by first | omega | (simp; omega)) ?_)
                intro v377 H378 o379 m380 k381 j382
                have o383 := Own.snoc1 (xs := ((fansU fs c) : List (List Int))) (y := fanL fs c) (e := eF) (by simp) o379
                have h384 := (k381 _ no286 (by rw [h365]; simp)).trans h365
                have no385 := j382 _ no286 (by rw [h365]; simp)
                have h386 := (k381 _ no287 (by rw [h366]; simp)).trans h366
                have no387 := j382 _ no287 (by rw [h366]; simp)
                have h388 := (k381 _ no288 (by rw [h367]; simp)).trans h367
                have no389 := j382 _ no288 (by rw [h367]; simp)
                have h390 := (k381 _ no289 (by rw [h368]; simp)).trans h368
                have no391 := j382 _ no289 (by rw [h368]; simp)
                have h392 := (k381 _ no290 (by rw [h369]; simp)).trans h369
                have no393 := j382 _ no290 (by rw [h369]; simp)
                have sp395 := Own.sep o372 (Sep.symm sp296) j382
                have o394 := Own.stay o372 (Sep.symm sp296) k381
                have sp397 := MO.sep o374 sp328 j382
                have o396 := MO.stay o374 sp328 k381
                refine AOps.cons rfl rfl (AOp.fieldAddr rfl s282 fl_35_1 ?_ (hid := ⟨_, h392⟩))
                refine AOps.cons rfl rfl (AOp.storeO (cells' := [.sl (eOut fs n n).length ((eOut fs n n).flatMap eE), v377, w12_2]) rfl rfl o383 ts_23 h392 rfl rfl ?_)
                intro H398 h399 k400
                have h401 := keep k400 e253 h384
                have h402 := keep k400 e254 h386
                have h403 := keep k400 e255 h388
                have h404 := keep k400 e256 h390
                have o406 := Own.keep o394 k400 no295
                have o407 := MO.keep o396 k400 no326
                have o408 := Own.keep o383 k400 no393
                have m409 := Mono.set m380 z257 k400
                refine AOps.nil ?_
                change AWP _ _ _ _ _ _
                refine AWP.region (l := [0, 1, 2, 3, 4, 5, 6]) rfl ?_
                refine AOps.cons rfl rfl (AOp.fieldAddr rfl s282 fl_35_2 ?_ (hid := ⟨_, h399⟩))
                refine AOps.cons rfl rfl (AOp.load (w12_2) rfl rfl ty_33 h399 rfl ?_)
                refine AOps.cons rfl rfl (AOp.move (.bool (fanR fs c)) rfl rfl ?_)
                refine AOps.cons rfl rfl (AOp.buildSlice (cells := [.bool (fanR fs c)]) rfl u_33 ts_4 tz_4 rfl rfl rfl ?_)
                intro i410 H411 n412 h413 k414
                have e415 := ne_new h401 n412
                have e416 := ne_new h402 n412
                have e417 := ne_new h403 n412
                have e418 := ne_new h404 n412
                have e419 := ne_new h399 n412
                have z420 := Mono.free m409 n412
                have h421 := keep k414 (ne_new h401 n412) h401
                have h422 := keep k414 (ne_new h402 n412) h402
                have h423 := keep k414 (ne_new h403 n412) h403
                have h424 := keep k414 (ne_new h404 n412) h404
                have h425 := keep k414 (ne_new h399 n412) h399
                have o426 := Own.keep o406 k414 (Own.notnew o406 n412)
                have no427 := Own.notnew o406 n412
                have o428 := MO.keep o407 k414 (MO.notnew o407 n412)
                have no429 := MO.notnew o407 n412
                have o430 := Own.keep o408 k414 (Own.notnew o408 n412)
                have no431 := Own.notnew o408 n412
                have m432 := Mono.new m409 n412 k414
                refine AOps.cons rfl rfl (AOp.append_own (es := 1) (m := 1) (len := ((rndU fs c).length)) (old := (rndU fs c).map eBo) (cells := [.bool (fanR fs c)]) rfl u_33 ts_4 tzn_4 tb_4 (by decide) ni_33 rfl o426 m432 rfl (.slm h413 rfl) (one_of rfl) (by decide) (by first | omega | (simp; omega)) ?_)
                intro v433 H434 o435 m436 k437 j438
                have o439 := Own.snoc1 (xs := ((rndU fs c) : List Bool)) (y := fanR fs c) (e := eBo) (by simp) o435
                have h440 := (k437 _ no291 (by rw [h421]; simp)).trans h421
                have no441 := j438 _ no291 (by rw [h421]; simp)
                have h442 := (k437 _ no292 (by rw [h422]; simp)).trans h422
                have no443 := j438 _ no292 (by rw [h422]; simp)
                have h444 := (k437 _ no293 (by rw [h423]; simp)).trans h423
                have no445 := j438 _ no293 (by rw [h423]; simp)
                have h446 := (k437 _ no294 (by rw [h424]; simp)).trans h424
                have no447 := j438 _ no294 (by rw [h424]; simp)
                have h448 := (k437 _ no295 (by rw [h425]; simp)).trans h425
                have no449 := j438 _ no295 (by rw [h425]; simp)
                have sp451 := MO.sep o428 sp330 j438
                have o450 := MO.stay o428 sp330 k437
                have sp453 := Own.sep o430 (Sep.symm sp395) j438
                have o452 := Own.stay o430 (Sep.symm sp395) k437
                refine AOps.cons rfl rfl (AOp.fieldAddr rfl s282 fl_35_2 ?_ (hid := ⟨_, h448⟩))
                refine AOps.cons rfl rfl (AOp.storeO (cells' := [.sl (eOut fs n n).length ((eOut fs n n).flatMap eE), v377, v433]) rfl rfl o439 ts_33 h448 rfl rfl ?_)
                intro H454 h455 k456
                have h457 := keep k456 e253 h440
                have h458 := keep k456 e254 h442
                have h459 := keep k456 e255 h444
                have h460 := keep k456 e256 h446
                have o462 := MO.keep o450 k456 no326
                have o463 := Own.keep o452 k456 no393
                have o464 := Own.keep o439 k456 no449
                have m465 := Mono.set m436 z257 k456
                refine AOps.nil ?_
                change AWP _ _ _ _ _ _
                refine AWP.region (l := [0, 1]) rfl ?_
                refine AOps.cons rfl rfl (AOp.bin (.int .i64 (c + 1)) rfl s278 rfl (iadd (by omega)) ?_)
                refine AOps.cons rfl rfl (AOp.move (.int .i64 (c + 1)) rfl rfl ?_)
                refine AOps.nil ?_
                exact ⟨_, by omega, c + 1, v377, v433, rfl, rfl, s279, s280, s281, s282, s283, (have hx : (((fansU fs c) ++ [fanL fs c]) : List (List Int)) = fansU fs (c + 1) := (by rw [fansU_step hc0]); Own.re o463 (congrArg List.length hx) (congrArg (fun l : List (List Int) => l.map eF) hx)), (have hx : (((rndU fs c) ++ [fanR fs c]) : List Bool) = rndU fs (c + 1) := (by rw [rndU_step hc0]); Own.re o464 (congrArg List.length hx) (congrArg (fun l : List Bool => l.map eBo) hx)), no385, no387, no389, no391, no393, no441, no443, no445, no447, no449, sp453, (filter_step ▸ o462), (filter_step ▸ no318), (filter_step ▸ no320), (filter_step ▸ no322), (filter_step ▸ no324), (filter_step ▸ no326), (filter_step ▸ sp397), (filter_step ▸ sp451), h457, h458, h459, h460, h455, m465, by omega, by omega, by exact fa_step hf b353⟩
              ·
                refine AWP.condT rfl (nb b353) ?_
                refine AWP.seq ?_
                refine AWP.region (l := [0, 1, 2]) rfl ?_
                refine AOps.cons rfl rfl (AOp.build (cells := [.snil, .snil, .snil]) rfl tz_35 pl_35 rfl rfl ?_)
                refine AOps.cons rfl rfl (AOp.store' (cells' := [.snil, .snil, .snil]) (.agg [.snil, .snil, .snil]) s279 rfl ts_35 h344 rfl rfl rfl rfl ?_)
                intro H466 h467 k468
                have h470 := keep k468 (Ne.symm e13) h345
                have h471 := keep k468 (Ne.symm e22) h346
                have h472 := keep k468 (Ne.symm e33) h347
                have h473 := keep k468 (Ne.symm e253) h348
                have o474 := Own.keep o349 k468 no286
                have o475 := Own.keep o350 k468 no291
                have o476 := MO.keep o351 k468 no318
                have m477 := Mono.set m352 z6 k468
                refine AOps.cons rfl rfl (AOp.assign (.int .i64 14) rfl rfl ?_)
                refine AOps.nil ?_
                change AWP _ _ _ _ _ _
                refine AWP.ret ?_
                refine Fin.frzCell 0 (Own.nil H0 H466 1) h467 z6 rfl (NotId.nil _) m477 fun H478 h479 m480 k481 => ?_
                have h482 := (k481 _ (Ne.symm e13) (NotId.nil _)).trans h470
                have h483 := (k481 _ (Ne.symm e22) (NotId.nil _)).trans h471
                have h484 := (k481 _ (Ne.symm e33) (NotId.nil _)).trans h472
                have h485 := (k481 _ (Ne.symm e253) (NotId.nil _)).trans h473
                have o486 := Own.stay2 o474 (Sep.nilR _) no286 k481
                have o487 := Own.stay2 o475 (Sep.nilR _) no291 k481
                have o488 := MO.stay2 o476 (SepM.nilR _) no318 k481
                have h489 : H478 i1 = some (.row 0 ([.sl 0 ([]), .snil, .snil])) := h479
                refine Fin.frzCell 1 (Own.nil H0 H478 1) h489 z6 rfl (NotId.nil _) m480 fun H490 h491 m492 k493 => ?_
                have h494 := (k493 _ (Ne.symm e13) (NotId.nil _)).trans h482
                have h495 := (k493 _ (Ne.symm e22) (NotId.nil _)).trans h483
                have h496 := (k493 _ (Ne.symm e33) (NotId.nil _)).trans h484
                have h497 := (k493 _ (Ne.symm e253) (NotId.nil _)).trans h485
                have o498 := Own.stay2 o486 (Sep.nilR _) no286 k493
                have o499 := Own.stay2 o487 (Sep.nilR _) no291 k493
                have o500 := MO.stay2 o488 (SepM.nilR _) no318 k493
                have h501 : H490 i1 = some (.row 0 ([.sl 0 ([]), .sl 0 ([]), .snil])) := h491
                refine Fin.frzCell 2 (Own.nil H0 H490 1) h501 z6 rfl (NotId.nil _) m492 fun H502 h503 m504 k505 => ?_
                have h506 := (k505 _ (Ne.symm e13) (NotId.nil _)).trans h494
                have h507 := (k505 _ (Ne.symm e22) (NotId.nil _)).trans h495
                have h508 := (k505 _ (Ne.symm e33) (NotId.nil _)).trans h496
                have h509 := (k505 _ (Ne.symm e253) (NotId.nil _)).trans h497
                have o510 := Own.stay2 o498 (Sep.nilR _) no286 k505
                have o511 := Own.stay2 o499 (Sep.nilR _) no291 k505
                have o512 := MO.stay2 o500 (SepM.nilR _) no318 k505
                have h513 : H502 i1 = some (.row 0 ([.sl 0 ([]), .sl 0 ([]), .sl 0 ([])])) := h503
                refine ⟨_, _, Ghost.refl, .inr rfl, _, Res.list rfl rfl (.cell (v := .agg [.sl 0 ([]), .sl 0 ([]), .sl 0 ([])]) s279 ty_35 h513 rfl (.tmp rfl (.nil))), ?_, m504⟩
                exact congrArg AV.tup (lc (congrArg AV.agg (lc (congrArg (fun l : List Ed => AV.sl l.length (l.flatMap eE)) (show ([] : List Ed) = (buildT n fs).ed from by rw [(build_no (fun h => absurd (h.2.2 c hc0 (by omega)) (by simp [b353]))).1])) (lc (congrArg (fun l : List (List Int) => AV.sl l.length (l.map eF)) (show ([] : List (List Int)) = (buildT n fs).fan from by rw [(build_no (fun h => absurd (h.2.2 c hc0 (by omega)) (by simp [b353]))).1])) (lc (congrArg (fun l : List Bool => AV.sl l.length (l.map eBo)) (show ([] : List Bool) = (buildT n fs).rnd from by rw [(build_no (fun h => absurd (h.2.2 c hc0 (by omega)) (by simp [b353]))).1])) rfl)))) (lc (congrArg (AV.int .i64) (show (14 : Int) = buildE n fs from by rw [(build_no (fun h => absurd (h.2.2 c hc0 (by omega)) (by simp [b353]))).2])) rfl))
            ·
              refine AWP.condF rfl (decide_eq_false b311) ?_
              refine AWP.exit ?_
              change AWP _ _ _ _ _ _
              refine AWP.seq ?_
              have hcn : c = n := by omega
              have hok : okS n fs := ⟨by omega, hg, fun j h1 h2 => hf j h1 (by omega)⟩
              refine AWP.region (l := [0, 1, 2]) rfl ?_
              refine AOps.cons rfl rfl (AOp.load (.agg [.sl (eOut fs n n).length ((eOut fs n n).flatMap eE), w12_1, w12_2]) rfl s282 ty_35 h309 rfl ?_)
              refine AOps.cons rfl rfl (AOp.store' (cells' := [.sl (eOut fs n n).length ((eOut fs n n).flatMap eE), w12_1, w12_2]) (.agg [.sl (eOut fs n n).length ((eOut fs n n).flatMap eE), w12_1, w12_2]) s279 rfl ts_35 h305 (by simp only [AV.cells, List.all_cons, List.all_nil, Own.one_ o284, Own.one_ o285]; rfl) rfl rfl rfl ?_)
              intro H514 h515 k516
              have h518 := keep k516 (Ne.symm e13) h306
              have h519 := keep k516 (Ne.symm e22) h307
              have h520 := keep k516 (Ne.symm e33) h308
              have h521 := keep k516 (Ne.symm e253) h309
              have o522 := Own.keep o284 k516 no286
              have o523 := Own.keep o285 k516 no291
              have o524 := MO.keep o297 k516 no298
              have m525 := Mono.set m310 z6 k516
              refine AOps.cons rfl rfl (AOp.assign (.int .i64 0) rfl rfl ?_)
              refine AOps.nil ?_
              change AWP _ _ _ _ _ _
              refine AWP.ret ?_
              refine Fin.frzCell 1 o522 h515 z6 rfl no286 m525 fun H526 h527 m528 k529 => ?_
              have h530 := (k529 _ (Ne.symm e13) no287).trans h518
              have h531 := (k529 _ (Ne.symm e22) no288).trans h519
              have h532 := (k529 _ (Ne.symm e33) no289).trans h520
              have h533 := (k529 _ (Ne.symm e253) no290).trans h521
              have o534 := Own.stay2 o523 (Sep.symm sp296) no291 k529
              have o535 := MO.stay2 o524 sp303 no298 k529
              have h536 : H526 i1 = some (.row 0 ([.sl (eOut fs n n).length ((eOut fs n n).flatMap eE), .sl (fansU fs c).length ((fansU fs c).map eF), w12_2])) := h527
              refine Fin.frzCell 2 o534 h536 z6 rfl no291 m528 fun H537 h538 m539 k540 => ?_
              have h541 := (k540 _ (Ne.symm e13) no292).trans h530
              have h542 := (k540 _ (Ne.symm e22) no293).trans h531
              have h543 := (k540 _ (Ne.symm e33) no294).trans h532
              have h544 := (k540 _ (Ne.symm e253) no295).trans h533
              have o545 := MO.stay2 o535 sp304 no298 k540
              have h546 : H537 i1 = some (.row 0 ([.sl (eOut fs n n).length ((eOut fs n n).flatMap eE), .sl (fansU fs c).length ((fansU fs c).map eF), .sl (rndU fs c).length ((rndU fs c).map eBo)])) := h538
              refine ⟨_, _, Ghost.refl, .inr rfl, _, Res.list rfl rfl (.cell (v := .agg [.sl (eOut fs n n).length ((eOut fs n n).flatMap eE), .sl (fansU fs c).length ((fansU fs c).map eF), .sl (rndU fs c).length ((rndU fs c).map eBo)]) s279 ty_35 h546 rfl (.tmp rfl (.nil))), ?_, m539⟩
              exact congrArg AV.tup (lc (congrArg AV.agg (lc (congrArg (fun l : List Ed => AV.sl l.length (l.flatMap eE)) (show (eOut fs n n : List Ed) = (buildT n fs).ed from by simp only [(build_ok hok).1, hcn])) (lc (congrArg (fun l : List (List Int) => AV.sl l.length (l.map eF)) (show ((fansU fs c) : List (List Int)) = (buildT n fs).fan from by simp only [(build_ok hok).1, hcn])) (lc (congrArg (fun l : List Bool => AV.sl l.length (l.map eBo)) (show ((rndU fs c) : List Bool) = (buildT n fs).rnd from by simp only [(build_ok hok).1, hcn])) rfl)))) (lc (congrArg (AV.int .i64) (show (0 : Int) = buildE n fs from by simp only [(build_ok hok).2, hcn])) rfl))
        ·
          refine AWP.condT rfl (nb (decide_eq_false b239)) ?_
          refine AWP.seq ?_
          have hfe : f = fs.length := by omega
          have hcnt : ¬ (∀ x : Int, 0 ≤ x → x < n → ∃ e ∈ L, e.1 = x) := fun h => by have := (keys_count hkeys hrng (by omega)).2 h; simp only [List.length_map] at *; omega
          refine AWP.region (l := [0, 1, 2]) rfl ?_
          refine AOps.cons rfl rfl (AOp.build (cells := [.snil, .snil, .snil]) rfl tz_35 pl_35 rfl rfl ?_)
          refine AOps.cons rfl rfl (AOp.store' (cells' := [.snil, .snil, .snil]) (.agg [.snil, .snil, .snil]) s46 rfl ts_35 h56 rfl rfl rfl rfl ?_)
          intro H547 h548 k549
          have h551 := keep k549 (Ne.symm e13) h57
          have h552 := keep k549 (Ne.symm e22) h58
          have h553 := keep k549 (Ne.symm e33) h59
          have o554 := MO.keep o51 k549 no52
          have m555 := Mono.set m60 z6 k549
          refine AOps.cons rfl rfl (AOp.assign (.int .i64 14) rfl rfl ?_)
          refine AOps.nil ?_
          change AWP _ _ _ _ _ _
          refine AWP.ret ?_
          refine Fin.frzCell 0 (Own.nil H0 H547 1) h548 z6 rfl (NotId.nil _) m555 fun H556 h557 m558 k559 => ?_
          have h560 := (k559 _ (Ne.symm e13) (NotId.nil _)).trans h551
          have h561 := (k559 _ (Ne.symm e22) (NotId.nil _)).trans h552
          have h562 := (k559 _ (Ne.symm e33) (NotId.nil _)).trans h553
          have o563 := MO.stay2 o554 (SepM.nilR _) no52 k559
          have h564 : H556 i1 = some (.row 0 ([.sl 0 ([]), .snil, .snil])) := h557
          refine Fin.frzCell 1 (Own.nil H0 H556 1) h564 z6 rfl (NotId.nil _) m558 fun H565 h566 m567 k568 => ?_
          have h569 := (k568 _ (Ne.symm e13) (NotId.nil _)).trans h560
          have h570 := (k568 _ (Ne.symm e22) (NotId.nil _)).trans h561
          have h571 := (k568 _ (Ne.symm e33) (NotId.nil _)).trans h562
          have o572 := MO.stay2 o563 (SepM.nilR _) no52 k568
          have h573 : H565 i1 = some (.row 0 ([.sl 0 ([]), .sl 0 ([]), .snil])) := h566
          refine Fin.frzCell 2 (Own.nil H0 H565 1) h573 z6 rfl (NotId.nil _) m567 fun H574 h575 m576 k577 => ?_
          have h578 := (k577 _ (Ne.symm e13) (NotId.nil _)).trans h569
          have h579 := (k577 _ (Ne.symm e22) (NotId.nil _)).trans h570
          have h580 := (k577 _ (Ne.symm e33) (NotId.nil _)).trans h571
          have o581 := MO.stay2 o572 (SepM.nilR _) no52 k577
          have h582 : H574 i1 = some (.row 0 ([.sl 0 ([]), .sl 0 ([]), .sl 0 ([])])) := h575
          refine ⟨_, _, Ghost.refl, .inr rfl, _, Res.list rfl rfl (.cell (v := .agg [.sl 0 ([]), .sl 0 ([]), .sl 0 ([])]) s46 ty_35 h582 rfl (.tmp rfl (.nil))), ?_, m576⟩
          exact congrArg AV.tup (lc (congrArg AV.agg (lc (congrArg (fun l : List Ed => AV.sl l.length (l.flatMap eE)) (show ([] : List Ed) = (buildT n fs).ed from by rw [(build_no (fun h => hcnt (ok_full h (by rw [← hfe]; exact htell)))).1])) (lc (congrArg (fun l : List (List Int) => AV.sl l.length (l.map eF)) (show ([] : List (List Int)) = (buildT n fs).fan from by rw [(build_no (fun h => hcnt (ok_full h (by rw [← hfe]; exact htell)))).1])) (lc (congrArg (fun l : List Bool => AV.sl l.length (l.map eBo)) (show ([] : List Bool) = (buildT n fs).rnd from by rw [(build_no (fun h => hcnt (ok_full h (by rw [← hfe]; exact htell)))).1])) rfl)))) (lc (congrArg (AV.int .i64) (show (14 : Int) = buildE n fs from by rw [(build_no (fun h => hcnt (ok_full h (by rw [← hfe]; exact htell)))).2])) rfl))
end Go.Proofs.T
namespace Go.Proofs.U
open Go Go.AH Go.Proofs.T
set_option maxRecDepth 4000
theorem find_lt {t : Tp} {a b : Int} : 0 ≤ optI (findS t a b) ∧ optI (findS t a b) ≤ t.ed.length := by
  unfold findS
  cases h : t.ed.findIdx? (fun e => decide (e.A = min a b ∧ e.B = max a b)) with
  | none => simp [optI]
  | some k =>
    rw [List.findIdx?_eq_some_iff_getElem] at h
    obtain ⟨h1, _⟩ := h
    simp only [optI]; omega
theorem find_in {t : Tp} {a b : Int} (h : (findS t a b).isSome = true) : 0 ≤ optI (findS t a b) ∧ optI (findS t a b) < t.ed.length := by
  unfold findS at *
  cases h' : t.ed.findIdx? (fun e => decide (e.A = min a b ∧ e.B = max a b)) with
  | none => rw [h'] at h; cases h
  | some k =>
    rw [List.findIdx?_eq_some_iff_getElem] at h'
    obtain ⟨h1, _⟩ := h'
    simp only [optI]; omega
/-! ### Creases -/
def lessS (s : Int) : Int := if s = 255 then s else s - 1
def creaseP (n : Int) (t : Tp) (sh : List Int) (i : Int) : List CrT :=
  if edgedS t i = true ∨ lessS (at_ sh i) < 1 then [] else [⟨(at_ t.ed i).A, n + i, lessS (at_ sh i)⟩, ⟨(at_ t.ed i).B, n + i, lessS (at_ sh i)⟩]
/-! ### Parts -/
def partF (n : Int) (t : Tp) (k : Int) (f : List Int) (i : Int) : List Int :=
  [at_ f i, n + optI (findS t (at_ f i) (at_ f ((i + 1) % (f.length : Int)))), n + (t.ed.length : Int) + k, n + optI (findS t (at_ f i) (at_ f ((i + (f.length : Int) - 1) % (f.length : Int))))]
def partsU (n : Int) (t : Tp) (k : Int) (f : List Int) (i : Int) : List (List Int) := (List.range i.toNat).map fun (j : Nat) => partF n t k f (j : Int)
theorem partsU_step {n : Int} {t : Tp} {k : Int} {f : List Int} {i : Int} (h : 0 ≤ i) : partsU n t k f i ++ [partF n t k f i] = partsU n t k f (i + 1) := by
  have e : (i + 1).toNat = i.toNat + 1 := by omega
  have e2 : ((i.toNat : Nat) : Int) = i := by omega
  unfold partsU; rw [e, List.range_succ, List.map_append, List.map_singleton, e2]
theorem partsU_len {n : Int} {t : Tp} {k : Int} {f : List Int} {i : Int} : (partsU n t k f i).length = i.toNat := by simp [partsU]
/-! ### Sharpness -/
def sh0 (t : Tp) (i : Int) : List Int := (List.range t.ed.length).map fun (j : Nat) => if (j : Int) < i ∧ edgedS t (j : Int) = true then 255 else 0
theorem sh0_len (t : Tp) (i : Int) : (sh0 t i).length = t.ed.length := by simp [sh0]
theorem sh0_get (t : Tp) (i : Int) (j : Nat) : (sh0 t i)[j]? = if j < t.ed.length then some (if (j : Int) < i ∧ edgedS t (j : Int) = true then 255 else 0) else none := by
  by_cases h : j < t.ed.length
  · rw [if_pos h]; simp [sh0, h]
  · rw [if_neg h]; simp [sh0, h]
theorem sh0_0 (t : Tp) : List.replicate t.ed.length (0 : Int) = sh0 t 0 := by
  refine List.ext_getElem? fun j => ?_
  rw [sh0_get, List.getElem?_replicate]
  split
  · rw [if_neg (by omega)]
  · rfl
theorem sh0_T {t : Tp} {i : Int} (h0 : 0 ≤ i) (h1 : i < t.ed.length) (h : edgedS t i = true) : (sh0 t i).set i.toNat 255 = sh0 t (i + 1) := by
  refine List.ext_getElem? fun j => ?_
  rw [List.getElem?_set, sh0_get, sh0_get, sh0_len]
  by_cases hj : i.toNat = j
  · subst hj
    have e2 : ((i.toNat : Nat) : Int) = i := by omega
    rw [if_pos rfl, if_pos (by omega), if_pos (by omega), if_pos ⟨by omega, by rw [e2]; exact h⟩]
  · rw [if_neg hj]
    have : ((j : Int) < i + 1 ∧ edgedS t (j : Int) = true) ↔ ((j : Int) < i ∧ edgedS t (j : Int) = true) := ⟨fun g => ⟨by omega, g.2⟩, fun g => ⟨by omega, g.2⟩⟩
    simp only [this]
theorem sh0_F {t : Tp} {i : Int} (h0 : 0 ≤ i) (h : edgedS t i = false) : sh0 t i = sh0 t (i + 1) := by
  unfold sh0
  refine List.map_congr_left fun j _ => ?_
  by_cases e : (j : Int) = i
  · rw [if_neg (by rw [e, h]; simp), if_neg (by rw [e, h]; simp)]
  · have : ((j : Int) < i + 1 ∧ edgedS t (j : Int) = true) ↔ ((j : Int) < i ∧ edgedS t (j : Int) = true) := ⟨fun g => ⟨by omega, g.2⟩, fun g => ⟨by omega, g.2⟩⟩
    simp only [this]
def shF (t : Tp) : List CrT → List Int → Option (List Int)
  | [], out => some out
  | x :: xs, out => if (findS t x.A x.B).isSome = true then shF t xs (out.set (optI (findS t x.A x.B)).toNat (max (at_ out (optI (findS t x.A x.B))) x.S)) else none
theorem shF_app (t : Tp) : ∀ (a b : List CrT) (out : List Int), shF t (a ++ b) out = (shF t a out).bind (shF t b)
  | [], b, out => rfl
  | x :: xs, b, out => by
    simp only [List.cons_append, shF]
    split
    · exact shF_app t xs b _
    · rfl
theorem shF_step {t : Tp} {cr : List CrT} {a b : List Int} {i : Int} (h0 : 0 ≤ i) (h1 : i < cr.length) (h : shF t (cr.take i.toNat) a = some b) (hs : (findS t (at_ cr i).A (at_ cr i).B).isSome = true) : shF t (cr.take (i + 1).toNat) a = some (b.set (optI (findS t (at_ cr i).A (at_ cr i).B)).toNat (max (at_ b (optI (findS t (at_ cr i).A (at_ cr i).B))) (at_ cr i).S)) := by
  rw [take_step h0 h1, shF_app, h]
  simp only [Option.bind_some, shF]; rw [if_pos hs]
theorem shF_stop {t : Tp} {cr : List CrT} {a b : List Int} {i : Int} (h0 : 0 ≤ i) (h1 : i < cr.length) (h : shF t (cr.take i.toNat) a = some b) (hs : (findS t (at_ cr i).A (at_ cr i).B).isSome = false) : shF t cr a = none := by
  have e : cr = cr.take (i + 1).toNat ++ cr.drop (i + 1).toNat := (List.take_append_drop _ _).symm
  rw [e, shF_app, take_step h0 h1, shF_app, h]
  simp only [Option.bind_some, shF]; rw [if_neg (by rw [hs]; simp)]; rfl
/-- Each edge's sharpness, or an error. -/
def sharpR (t : Tp) (cr : List CrT) : List Int × Int := match shF t cr (sh0 t t.ed.length) with
  | some l => (l, 0)
  | none => ([], 14)
theorem sharp_ok {t : Tp} {cr : List CrT} {b : List Int} {i : Int} (h1 : (cr.length : Int) ≤ i) (h : shF t (cr.take i.toNat) (sh0 t t.ed.length) = some b) : sharpR t cr = (b, 0) := by
  rw [take_all h1] at h; unfold sharpR; rw [h]
theorem sharp_no {t : Tp} {cr : List CrT} {b : List Int} {i : Int} (h0 : 0 ≤ i) (h1 : i < cr.length) (h : shF t (cr.take i.toNat) (sh0 t t.ed.length) = some b) (hs : (findS t (at_ cr i).A (at_ cr i).B).isSome = false) : sharpR t cr = ([], 14) := by
  unfold sharpR; rw [shF_stop h0 h1 h hs]
end Go.Proofs.U
