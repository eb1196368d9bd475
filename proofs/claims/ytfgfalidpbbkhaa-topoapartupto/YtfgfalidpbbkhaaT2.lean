/- A part of the proof that a law of the edges and fans of faces answers true for every input of its bulk: own work, by an AI agent. -/
import Derived.Test.YtfgfalidpbbkhaaTTy
import Derived.Test.YtfgfalidpbbkhaaTSpec5
import Derived.Test.YtfgfalidpbbkhaaTKey
import Derived.KernelRfl
import Derived.Test.YtfgfalidpbbkhaaT1
namespace Go.Proofs.T
open Go Go.AH
set_option maxRecDepth 4000
set_option linter.unusedSimpArgs false
set_option linter.unusedVariables false
theorem c30 (e : Ed) (w : Int × Int) : PC Try.prog 30 [.agg [.int .i64 e.A, .int .i64 e.B, .int .i64 e.F, .int .i64 e.G], .agg [.int .i64 w.1, .int .i64 w.2]] (.int .i64 (cE e w)) := by
  intro H0
  refine ACalls.of_body' (n := 17) rfl rfl rfl rfl ?_
  have m0 := Mono.refl H0
  refine AWP.seq ?_
  refine AWP.region (l := [0, 1, 2]) rfl ?_
  refine AOps.cons rfl rfl (AOp.box (.agg [.int .i64 e.A, .int .i64 e.B, .int .i64 e.F, .int .i64 e.G]) rfl rfl rfl ?_)
  intro i1 H2 n3 h4 k5
  have z6 := Mono.free m0 n3
  have m7 := Mono.new m0 n3 k5
  refine AOps.cons rfl rfl (AOp.box (.agg [.int .i64 w.1, .int .i64 w.2]) rfl rfl rfl ?_)
  intro i8 H9 n10 h11 k12
  have e13 := ne_new h4 n10
  have z14 := Mono.free m7 n10
  have h15 := keep k12 (ne_new h4 n10) h4
  have m16 := Mono.new m7 n10 k12
  refine AOps.cons rfl rfl (AOp.assign (.int .i64 0) rfl rfl ?_)
  refine AOps.nil ?_
  change AWP _ _ _ _ _ _
  refine AWP.seq ?_
  refine AWP.region_quiet mixed (by kernel_rfl) 10 [10, 11, 12] rfl (by kernel_rfl) (Mono H9) (Mono.refl _) ?_
  refine QE.op rfl rfl (.inl ⟨rfl, fun f' H' hf hM => AOp.fieldAddr rfl ((hf 2 rfl).trans rfl) fl_37_0 ⟨rfl, hM⟩ (hid := ⟨_, (hM _ _ h15)⟩)⟩) ?_
  refine QE.op rfl rfl (.inl ⟨rfl, fun f' H' hf hM => AOp.load (.int .i64 e.A) rfl ((hf 5 rfl).trans rfl) ty_3 (hM _ _ h15) rfl ⟨rfl, hM⟩⟩) ?_
  refine QE.op rfl rfl (.inl ⟨rfl, fun f' H' hf hM => AOp.fieldAddr rfl ((hf 3 rfl).trans rfl) fl_63_0 ⟨rfl, hM⟩ (hid := ⟨_, (hM _ _ h11)⟩)⟩) ?_
  refine QE.op rfl rfl (.inl ⟨rfl, fun f' H' hf hM => AOp.load (.int .i64 w.1) rfl ((hf 7 rfl).trans rfl) ty_3 (hM _ _ h11) rfl ⟨rfl, hM⟩⟩) ?_
  refine QE.op rfl rfl (.inl ⟨rfl, fun f' H' hf hM => AOp.pcall («as» := [.int .i64 e.A, .int .i64 w.1]) rfl rfl (lapp (lcons ((hf 6 rfl).trans rfl) (lcons ((hf 8 rfl).trans rfl) rfl)) rfl) tf_32 (c32 _ _) fun H2 m2 => ⟨rfl, hM.trans m2⟩⟩) ?_
  refine QE.op rfl rfl (.inl ⟨rfl, fun f' H' hf hM => AOp.fieldAddr rfl ((hf 2 rfl).trans rfl) fl_37_1 ⟨rfl, hM⟩ (hid := ⟨_, (hM _ _ h15)⟩)⟩) ?_
  refine QE.op rfl rfl (.inl ⟨rfl, fun f' H' hf hM => AOp.load (.int .i64 e.B) rfl ((hf 10 rfl).trans rfl) ty_3 (hM _ _ h15) rfl ⟨rfl, hM⟩⟩) ?_
  refine QE.op rfl rfl (.inl ⟨rfl, fun f' H' hf hM => AOp.fieldAddr rfl ((hf 3 rfl).trans rfl) fl_63_1 ⟨rfl, hM⟩ (hid := ⟨_, (hM _ _ h11)⟩)⟩) ?_
  refine QE.op rfl rfl (.inl ⟨rfl, fun f' H' hf hM => AOp.load (.int .i64 w.2) rfl ((hf 12 rfl).trans rfl) ty_3 (hM _ _ h11) rfl ⟨rfl, hM⟩⟩) ?_
  refine QE.op rfl rfl (.inl ⟨rfl, fun f' H' hf hM => AOp.pcall («as» := [.int .i64 e.B, .int .i64 w.2]) rfl rfl (lapp (lcons ((hf 11 rfl).trans rfl) (lcons ((hf 13 rfl).trans rfl) rfl)) rfl) tf_32 (c32 _ _) fun H2 m2 => ⟨rfl, hM.trans m2⟩⟩) ?_
  refine QE.done fun H17 m18 => ?_
  have h19 := m18 _ _ h15
  have h20 := m18 _ _ h11
  have m21 := m16.trans m18
  refine AOps.cons rfl rfl (AOp.buildSlice (cells := [.int .i64 (cmpI e.A w.1), .int .i64 (cmpI e.B w.2)]) rfl u_35 ts_3 tz_3 rfl rfl rfl ?_)
  intro i22 H23 n24 h25 k26
  have e27 := ne_new h19 n24
  have e28 := ne_new h20 n24
  have z29 := Mono.free m21 n24
  have h30 := keep k26 (ne_new h19 n24) h19
  have h31 := keep k26 (ne_new h20 n24) h20
  have m32 := Mono.new m21 n24 k26
  obtain ⟨v33, e34⟩ : ∃ v : AV, v = .slm i22 0 1 0 2 := ⟨_, rfl⟩
  have o35 : Own H0 H23 1 v33 2 [.int .i64 (cmpI e.A w.1), .int .i64 (cmpI e.B w.2)] := .inr ⟨_, _, e34, h25, z29, rfl⟩
  have no36 : NotId v33 i1 := by rw [e34]; exact NotId.slm e27
  have no37 : NotId v33 i8 := by rw [e34]; exact NotId.slm e28
  refine AOps.cons rfl rfl ?_
  refine AOp.frz 15 (o35) e34.symm m32 fun H38 m39 k40 => ?_
  have h41 := (k40 _ no36).trans h30
  have h42 := (k40 _ no37).trans h31
  refine AOp.pcall («as» := [.sl ([cmpI e.A w.1, cmpI e.B w.2] : List Int).length (([cmpI e.A w.1, cmpI e.B w.2] : List Int).map eI)]) rfl rfl (rfl) tf_31 (c31 ([cmpI e.A w.1, cmpI e.B w.2] : List Int) (by simp)) ?_
  intro H43 m44
  have h45 := m44 _ _ h41
  have h46 := m44 _ _ h42
  have m47 := m39.trans m44
  refine AOps.cons rfl rfl (AOp.assign (.int .i64 (orI ([cmpI e.A w.1, cmpI e.B w.2] : List Int))) rfl rfl ?_)
  refine AOps.nil ?_
  change AWP _ _ _ _ _ _
  refine AWP.ret ?_
  refine ⟨_, _, Ghost.refl, .inr rfl, _, Res.one rfl rfl, ?_, m47⟩
  exact (congrArg (AV.int .i64) (show (orI ([cmpI e.A w.1, cmpI e.B w.2] : List Int) : Int) = cE e w from by rfl))

theorem c37 (e g : Ed) : PC Try.prog 37 [.agg [.int .i64 e.A, .int .i64 e.B, .int .i64 e.F, .int .i64 e.G], .agg [.int .i64 g.A, .int .i64 g.B, .int .i64 g.F, .int .i64 g.G]] (.int .i64 (cE e (g.A, g.B))) := by
  intro H0
  refine ACalls.of_body' (n := 17) rfl rfl rfl rfl ?_
  have m0 := Mono.refl H0
  refine AWP.seq ?_
  refine AWP.region (l := [0, 1, 2]) rfl ?_
  refine AOps.cons rfl rfl (AOp.box (.agg [.int .i64 e.A, .int .i64 e.B, .int .i64 e.F, .int .i64 e.G]) rfl rfl rfl ?_)
  intro i1 H2 n3 h4 k5
  have z6 := Mono.free m0 n3
  have m7 := Mono.new m0 n3 k5
  refine AOps.cons rfl rfl (AOp.box (.agg [.int .i64 g.A, .int .i64 g.B, .int .i64 g.F, .int .i64 g.G]) rfl rfl rfl ?_)
  intro i8 H9 n10 h11 k12
  have e13 := ne_new h4 n10
  have z14 := Mono.free m7 n10
  have h15 := keep k12 (ne_new h4 n10) h4
  have m16 := Mono.new m7 n10 k12
  refine AOps.cons rfl rfl (AOp.assign (.int .i64 0) rfl rfl ?_)
  refine AOps.nil ?_
  change AWP _ _ _ _ _ _
  refine AWP.seq ?_
  refine AWP.region_quiet mixed (by kernel_rfl) 10 [10, 11, 12] rfl (by kernel_rfl) (Mono H9) (Mono.refl _) ?_
  refine QE.op rfl rfl (.inl ⟨rfl, fun f' H' hf hM => AOp.fieldAddr rfl ((hf 2 rfl).trans rfl) fl_37_0 ⟨rfl, hM⟩ (hid := ⟨_, (hM _ _ h15)⟩)⟩) ?_
  refine QE.op rfl rfl (.inl ⟨rfl, fun f' H' hf hM => AOp.load (.int .i64 e.A) rfl ((hf 5 rfl).trans rfl) ty_3 (hM _ _ h15) rfl ⟨rfl, hM⟩⟩) ?_
  refine QE.op rfl rfl (.inl ⟨rfl, fun f' H' hf hM => AOp.fieldAddr rfl ((hf 3 rfl).trans rfl) fl_37_0 ⟨rfl, hM⟩ (hid := ⟨_, (hM _ _ h11)⟩)⟩) ?_
  refine QE.op rfl rfl (.inl ⟨rfl, fun f' H' hf hM => AOp.load (.int .i64 g.A) rfl ((hf 7 rfl).trans rfl) ty_3 (hM _ _ h11) rfl ⟨rfl, hM⟩⟩) ?_
  refine QE.op rfl rfl (.inl ⟨rfl, fun f' H' hf hM => AOp.pcall («as» := [.int .i64 e.A, .int .i64 g.A]) rfl rfl (lapp (lcons ((hf 6 rfl).trans rfl) (lcons ((hf 8 rfl).trans rfl) rfl)) rfl) tf_32 (c32 _ _) fun H2 m2 => ⟨rfl, hM.trans m2⟩⟩) ?_
  refine QE.op rfl rfl (.inl ⟨rfl, fun f' H' hf hM => AOp.fieldAddr rfl ((hf 2 rfl).trans rfl) fl_37_1 ⟨rfl, hM⟩ (hid := ⟨_, (hM _ _ h15)⟩)⟩) ?_
  refine QE.op rfl rfl (.inl ⟨rfl, fun f' H' hf hM => AOp.load (.int .i64 e.B) rfl ((hf 10 rfl).trans rfl) ty_3 (hM _ _ h15) rfl ⟨rfl, hM⟩⟩) ?_
  refine QE.op rfl rfl (.inl ⟨rfl, fun f' H' hf hM => AOp.fieldAddr rfl ((hf 3 rfl).trans rfl) fl_37_1 ⟨rfl, hM⟩ (hid := ⟨_, (hM _ _ h11)⟩)⟩) ?_
  refine QE.op rfl rfl (.inl ⟨rfl, fun f' H' hf hM => AOp.load (.int .i64 g.B) rfl ((hf 12 rfl).trans rfl) ty_3 (hM _ _ h11) rfl ⟨rfl, hM⟩⟩) ?_
  refine QE.op rfl rfl (.inl ⟨rfl, fun f' H' hf hM => AOp.pcall («as» := [.int .i64 e.B, .int .i64 g.B]) rfl rfl (lapp (lcons ((hf 11 rfl).trans rfl) (lcons ((hf 13 rfl).trans rfl) rfl)) rfl) tf_32 (c32 _ _) fun H2 m2 => ⟨rfl, hM.trans m2⟩⟩) ?_
  refine QE.done fun H17 m18 => ?_
  have h19 := m18 _ _ h15
  have h20 := m18 _ _ h11
  have m21 := m16.trans m18
  refine AOps.cons rfl rfl (AOp.buildSlice (cells := [.int .i64 (cmpI e.A g.A), .int .i64 (cmpI e.B g.B)]) rfl u_35 ts_3 tz_3 rfl rfl rfl ?_)
  intro i22 H23 n24 h25 k26
  have e27 := ne_new h19 n24
  have e28 := ne_new h20 n24
  have z29 := Mono.free m21 n24
  have h30 := keep k26 (ne_new h19 n24) h19
  have h31 := keep k26 (ne_new h20 n24) h20
  have m32 := Mono.new m21 n24 k26
  obtain ⟨v33, e34⟩ : ∃ v : AV, v = .slm i22 0 1 0 2 := ⟨_, rfl⟩
  have o35 : Own H0 H23 1 v33 2 [.int .i64 (cmpI e.A g.A), .int .i64 (cmpI e.B g.B)] := .inr ⟨_, _, e34, h25, z29, rfl⟩
  have no36 : NotId v33 i1 := by rw [e34]; exact NotId.slm e27
  have no37 : NotId v33 i8 := by rw [e34]; exact NotId.slm e28
  refine AOps.cons rfl rfl ?_
  refine AOp.frz 15 (o35) e34.symm m32 fun H38 m39 k40 => ?_
  have h41 := (k40 _ no36).trans h30
  have h42 := (k40 _ no37).trans h31
  refine AOp.pcall («as» := [.sl ([cmpI e.A g.A, cmpI e.B g.B] : List Int).length (([cmpI e.A g.A, cmpI e.B g.B] : List Int).map eI)]) rfl rfl (rfl) tf_31 (c31 ([cmpI e.A g.A, cmpI e.B g.B] : List Int) (by simp)) ?_
  intro H43 m44
  have h45 := m44 _ _ h41
  have h46 := m44 _ _ h42
  have m47 := m39.trans m44
  refine AOps.cons rfl rfl (AOp.assign (.int .i64 (orI ([cmpI e.A g.A, cmpI e.B g.B] : List Int))) rfl rfl ?_)
  refine AOps.nil ?_
  change AWP _ _ _ _ _ _
  refine AWP.ret ?_
  refine ⟨_, _, Ghost.refl, .inr rfl, _, Res.one rfl rfl, ?_, m47⟩
  exact (congrArg (AV.int .i64) (show (orI ([cmpI e.A g.A, cmpI e.B g.B] : List Int) : Int) = cE e (g.A, g.B) from by rfl))

theorem c29 (l : List Ed) (w : Int × Int) (hl : l.length ≤ 1048576) (hs : SortedE l) : PC Try.prog 29 [.sl l.length (l.flatMap eE), .agg [.int .i64 w.1, .int .i64 w.2], .fn 30 []] (.tup [.int .i64 (lowS l w), .bool (isAt l w)]) := by
  intro H0
  refine ACalls.of_body' (n := 49) rfl rfl rfl rfl ?_
  have m0 := Mono.refl H0
  refine AWP.seq ?_
  refine AWP.region (l := [0, 1, 2]) rfl ?_
  refine AOps.cons rfl rfl (AOp.box (.agg [.int .i64 w.1, .int .i64 w.2]) rfl rfl rfl ?_)
  intro i1 H2 n3 h4 k5
  have z6 := Mono.free m0 n3
  have m7 := Mono.new m0 n3 k5
  refine AOps.cons rfl rfl (AOp.assign (.int .i64 0) rfl rfl ?_)
  refine AOps.cons rfl rfl (AOp.assign (.bool false) rfl rfl ?_)
  refine AOps.nil ?_
  change AWP _ _ _ _ _ _
  refine AWP.seq ?_
  refine AWP.region (l := [0, 1, 2]) rfl ?_
  refine AOps.cons rfl rfl (AOp.move (.sl l.length (l.flatMap eE)) rfl rfl ?_)
  refine AOps.cons rfl rfl (AOp.len (m := l.length) rfl rfl (.inr (.inl ⟨_, rfl⟩)) u_26 ?_)
  refine AOps.cons rfl rfl (AOp.assign (.int .i64 (l.length : Int)) rfl rfl ?_)
  refine AOps.nil ?_
  change AWP _ _ _ _ _ _
  refine AWP.seq ?_
  refine AWP.region (l := [0, 1, 2]) rfl ?_
  refine AOps.cons rfl rfl (AOp.move (.int .i64 (l.length : Int)) rfl rfl ?_)
  refine AOps.cons rfl rfl (AOp.assign (.int .i64 0) rfl rfl ?_)
  refine AOps.cons rfl rfl (AOp.assign (.int .i64 (l.length : Int)) rfl rfl ?_)
  refine AOps.nil ?_
  change AWP _ _ _ _ _ _
  refine AWP.seq ?_
  refine AWP.block ?_
  refine AWP.loop (fun q8 fq Hq => ∃ (i : Int) (j : Int), q8 = (j - i).toNat ∧ fq 9 = .int .i64 i ∧ fq 10 = .int .i64 j ∧ fq 0 = .sl l.length (l.flatMap eE) ∧ fq 2 = .fn 30 [] ∧ fq 4 = .ptr i1 0 0 ∧ fq 6 = .int .i64 0 ∧ fq 7 = .bool false ∧ fq 8 = .int .i64 (l.length : Int) ∧ Hq i1 = some (.row 0 ([.int .i64 w.1, .int .i64 w.2])) ∧ Mono H0 Hq ∧ (0 ≤ i) ∧ (i ≤ j) ∧ (j ≤ l.length) ∧ (∀ k : Int, 0 ≤ k → k < i → cE (at_ l k) w < 0) ∧ (∀ k : Int, j ≤ k → k < l.length → ¬ cE (at_ l k) w < 0)) (k := ((l.length : Int) - 0).toNat) ?_ ?_
  ·
    exact ⟨0, (l.length : Int), rfl, rfl, rfl, rfl, rfl, rfl, rfl, rfl, rfl, h4, m7, by omega, by omega, by omega, by intro k; omega, by intro k; omega⟩
  ·
    rintro _ f10 H9 ⟨i, j, rfl, s11, s12, s13, s14, s15, s16, s17, s18, h19, m20, hi0, hij, hj, hlo, hhi⟩
    refine AWP.seq ?_
    refine AWP.seq ?_
    refine AWP.region (l := [0, 1, 2]) rfl ?_
    refine AOps.cons rfl rfl (AOp.move (.int .i64 i) rfl s11 ?_)
    refine AOps.cons rfl rfl (AOp.move (.int .i64 j) rfl s12 ?_)
    refine AOps.cons rfl rfl (AOp.bin (.bool (decide (i < j))) rfl rfl rfl rfl ?_)
    refine AOps.nil ?_
    change AWP _ _ _ _ _ _
    by_cases b21 : i < j
    ·
      refine AWP.condT rfl (decide_eq_true b21) ?_
      refine AWP.skip ?_
      change AWP _ _ _ _ _ _
      refine AWP.block ?_
      refine AWP.seq ?_
      refine AWP.region (l := [0, 1, 2, 3, 4, 5, 6]) rfl ?_
      refine AOps.cons rfl rfl (AOp.move (.int .i64 i) rfl s11 ?_)
      refine AOps.cons rfl rfl (AOp.move (.int .i64 j) rfl s12 ?_)
      refine AOps.cons rfl rfl (AOp.bin (.int .i64 (i + j)) rfl rfl rfl (iadd (by omega)) ?_)
      refine AOps.cons rfl rfl (AOp.convIntP rfl rfl u_3 u_76 (IntWalk.u64_in _ (by omega)) ?_)
      refine AOps.cons rfl rfl (AOp.shr1 rfl rfl rfl rfl ?_)
      refine AOps.cons rfl rfl (AOp.convIntP rfl rfl u_76 u_3 (IntWalk.i64_in _ (by omega)) ?_)
      refine AOps.cons rfl rfl (AOp.assign (.int .i64 ((i + j) / 2)) rfl rfl ?_)
      refine AOps.nil ?_
      change AWP _ _ _ _ _ _
      refine AWP.seq ?_
      refine AWP.region_quiet mixed (by kernel_rfl) 8 [] rfl (by kernel_rfl) (Mono H9) (Mono.refl _) ?_
      refine QE.op rfl rfl (.inl ⟨rfl, fun f' H' hf hM => AOp.move (.fn 30 []) rfl ((hf 2 rfl).trans s14) ⟨rfl, hM⟩⟩) ?_
      refine QE.op rfl rfl (.inl ⟨rfl, fun f' H' hf hM => AOp.move (.sl l.length (l.flatMap eE)) rfl ((hf 0 rfl).trans s13) ⟨rfl, hM⟩⟩) ?_
      refine QE.op rfl rfl (.inl ⟨rfl, fun f' H' hf hM => AOp.move (.int .i64 ((i + j) / 2)) rfl ((hf 11 rfl).trans rfl) ⟨rfl, hM⟩⟩) ?_
      refine QE.op rfl rfl (.inl ⟨rfl, fun f' H' hf hM => AOp.indexAddrS rfl ((hf 25 rfl).trans rfl) ((hf 26 rfl).trans rfl) sl_26 (by omega) (by omega) ⟨rfl, hM⟩⟩) ?_
      refine QE.op rfl rfl (.inl ⟨rfl, fun f' H' hf hM => AOp.loadF (.agg [.int .i64 ((at_ l ((i + j) / 2)).A), .int .i64 ((at_ l ((i + j) / 2)).B), .int .i64 ((at_ l ((i + j) / 2)).F), .int .i64 ((at_ l ((i + j) / 2)).G)]) rfl ((hf 27 rfl).trans rfl) ty_37 (ldM eE_len (by omega) (by omega)) ⟨rfl, hM⟩⟩) ?_
      refine QE.op rfl rfl (.inl ⟨rfl, fun f' H' hf hM => AOp.load (.agg [.int .i64 w.1, .int .i64 w.2]) rfl ((hf 4 rfl).trans s15) ty_63 (hM _ _ h19) rfl ⟨rfl, hM⟩⟩) ?_
      refine QE.op rfl rfl (.inl ⟨rfl, fun f' H' hf hM => AOp.pcall («as» := [.agg [.int .i64 ((at_ l ((i + j) / 2)).A), .int .i64 ((at_ l ((i + j) / 2)).B), .int .i64 ((at_ l ((i + j) / 2)).F), .int .i64 ((at_ l ((i + j) / 2)).G)], .agg [.int .i64 w.1, .int .i64 w.2]]) rfl ((hf 24 rfl).trans rfl) (lapp (lcons ((hf 28 rfl).trans rfl) (lcons ((hf 29 rfl).trans rfl) rfl)) rfl) tf_30 (c30 _ _) fun H2 m2 => ⟨rfl, hM.trans m2⟩⟩) ?_
      refine QE.op rfl rfl (.inl ⟨rfl, fun f' H' hf hM => AOp.bin (.bool (decide (cE (at_ l ((i + j) / 2)) w < 0))) rfl ((hf 30 rfl).trans rfl) rfl rfl ⟨rfl, hM⟩⟩) ?_
      refine QE.done fun H22 m23 => ?_
      have h24 := m23 _ _ h19
      have m25 := m20.trans m23
      refine AOps.nil ?_
      change AWP _ _ _ _ _ _
      by_cases b26 : cE (at_ l ((i + j) / 2)) w < 0
      ·
        refine AWP.condT rfl (decide_eq_true b26) ?_
        refine AWP.region (l := [0, 1, 2]) rfl ?_
        refine AOps.cons rfl rfl (AOp.move (.int .i64 ((i + j) / 2)) rfl rfl ?_)
        refine AOps.cons rfl rfl (AOp.bin (.int .i64 ((i + j) / 2 + 1)) rfl rfl rfl (iadd (by omega)) ?_)
        refine AOps.cons rfl rfl (AOp.assign (.int .i64 ((i + j) / 2 + 1)) rfl rfl ?_)
        refine AOps.nil ?_
        exact ⟨_, by omega, (i + j) / 2 + 1, j, rfl, rfl, s12, s13, s14, s15, s16, s17, s18, h24, m25, by omega, by omega, by omega, by exact fun k h1 h2 => sorted_neg hs h1 (by omega) (by omega) b26, by exact hhi⟩
      ·
        refine AWP.condF rfl (decide_eq_false b26) ?_
        refine AWP.region (l := [0, 1]) rfl ?_
        refine AOps.cons rfl rfl (AOp.move (.int .i64 ((i + j) / 2)) rfl rfl ?_)
        refine AOps.cons rfl rfl (AOp.assign (.int .i64 ((i + j) / 2)) rfl rfl ?_)
        refine AOps.nil ?_
        exact ⟨_, by omega, i, (i + j) / 2, rfl, s11, rfl, s13, s14, s15, s16, s17, s18, h24, m25, by omega, by omega, by omega, by exact hlo, by exact fun k h1 h2 => sorted_nn hs (by omega) h1 h2 b26⟩
    ·
      refine AWP.condF rfl (decide_eq_false b21) ?_
      refine AWP.exit ?_
      change AWP _ _ _ _ _ _
      refine AWP.seq ?_
      refine AWP.region_quiet mixed (by kernel_rfl) 16 [] rfl (by kernel_rfl) (Mono H9) (Mono.refl _) ?_
      refine QE.op rfl rfl (.inl ⟨rfl, fun f' H' hf hM => AOp.move (.int .i64 i) rfl ((hf 9 rfl).trans s11) ⟨rfl, hM⟩⟩) ?_
      refine QE.op rfl rfl (.inl ⟨rfl, fun f' H' hf hM => AOp.move (.int .i64 i) rfl ((hf 9 rfl).trans s11) ⟨rfl, hM⟩⟩) ?_
      refine QE.op rfl rfl (.inl ⟨rfl, fun f' H' hf hM => AOp.move (.int .i64 (l.length : Int)) rfl ((hf 8 rfl).trans s18) ⟨rfl, hM⟩⟩) ?_
      refine QE.op rfl rfl (.inl ⟨rfl, fun f' H' hf hM => AOp.bin (.bool (decide (i < (l.length : Int)))) rfl ((hf 36 rfl).trans rfl) ((hf 37 rfl).trans rfl) rfl ⟨rfl, hM⟩⟩) ?_
      refine QE.op rfl rfl (.inl ⟨rfl, fun f' H' hf hM => AOp.move (.bool (decide (i < (l.length : Int)))) rfl ((hf 38 rfl).trans rfl) ⟨rfl, hM⟩⟩) ?_
      by_cases b27 : i < (l.length : Int)
      ·
        refine QE.op rfl rfl (QOp.yes rfl rfl rfl rfl (decide_eq_true b27) fun f' H' hf hM => AOp.move (.fn 30 []) rfl ((hf 2 rfl).trans s14) ⟨rfl, hM⟩) ?_
        refine QE.op rfl rfl (QOp.yes rfl rfl rfl rfl (decide_eq_true b27) fun f' H' hf hM => AOp.move (.sl l.length (l.flatMap eE)) rfl ((hf 0 rfl).trans s13) ⟨rfl, hM⟩) ?_
        refine QE.op rfl rfl (QOp.yes rfl rfl rfl rfl (decide_eq_true b27) fun f' H' hf hM => AOp.move (.int .i64 i) rfl ((hf 9 rfl).trans s11) ⟨rfl, hM⟩) ?_
        refine QE.op rfl rfl (QOp.yes rfl rfl rfl rfl (decide_eq_true b27) fun f' H' hf hM => AOp.indexAddrS rfl ((hf 41 rfl).trans rfl) ((hf 42 rfl).trans rfl) sl_26 (by omega) (by omega) ⟨rfl, hM⟩) ?_
        refine QE.op rfl rfl (QOp.yes rfl rfl rfl rfl (decide_eq_true b27) fun f' H' hf hM => AOp.loadF (.agg [.int .i64 ((at_ l i).A), .int .i64 ((at_ l i).B), .int .i64 ((at_ l i).F), .int .i64 ((at_ l i).G)]) rfl ((hf 43 rfl).trans rfl) ty_37 (ldM eE_len (by omega) (by omega)) ⟨rfl, hM⟩) ?_
        refine QE.op rfl rfl (QOp.yes rfl rfl rfl rfl (decide_eq_true b27) fun f' H' hf hM => AOp.load (.agg [.int .i64 w.1, .int .i64 w.2]) rfl ((hf 4 rfl).trans s15) ty_63 (hM _ _ h19) rfl ⟨rfl, hM⟩) ?_
        refine QE.op rfl rfl (QOp.yes rfl rfl rfl rfl (decide_eq_true b27) fun f' H' hf hM => AOp.pcall («as» := [.agg [.int .i64 ((at_ l i).A), .int .i64 ((at_ l i).B), .int .i64 ((at_ l i).F), .int .i64 ((at_ l i).G)], .agg [.int .i64 w.1, .int .i64 w.2]]) rfl ((hf 40 rfl).trans rfl) (lapp (lcons ((hf 44 rfl).trans rfl) (lcons ((hf 45 rfl).trans rfl) rfl)) rfl) tf_30 (c30 _ _) fun H2 m2 => ⟨rfl, hM.trans m2⟩) ?_
        refine QE.op rfl rfl (QOp.yes rfl rfl rfl rfl (decide_eq_true b27) fun f' H' hf hM => AOp.bin (.bool (decide (cE (at_ l i) w = 0))) rfl ((hf 46 rfl).trans rfl) rfl ieq ⟨rfl, hM⟩) ?_
        refine QE.op rfl rfl (.inl ⟨rfl, fun f' H' hf hM => AOp.pickT (.bool (decide (cE (at_ l i) w = 0))) rfl ((hf 39 rfl).trans rfl) (decide_eq_true b27) ((hf 47 rfl).trans rfl) ⟨rfl, hM⟩⟩) ?_
        refine QE.op rfl rfl (.inl ⟨rfl, fun f' H' hf hM => AOp.assign (.int .i64 i) rfl ((hf 35 rfl).trans rfl) ⟨rfl, hM⟩⟩) ?_
        refine QE.op rfl rfl (.inl ⟨rfl, fun f' H' hf hM => AOp.assign (.bool (decide (cE (at_ l i) w = 0))) rfl ((hf 48 rfl).trans rfl) ⟨rfl, hM⟩⟩) ?_
        refine QE.done fun H28 m29 => ?_
        have h30 := m29 _ _ h19
        have m31 := m20.trans m29
        refine AOps.nil ?_
        change AWP _ _ _ _ _ _
        refine AWP.ret ?_
        refine ⟨_, _, Ghost.refl, .inr rfl, _, Res.two rfl rfl rfl, ?_, m31⟩
        exact congrArg AV.tup (lc (congrArg (AV.int .i64) (show (i : Int) = lowS l w from by exact (low_of hi0 (by omega) hlo (fun h => hhi i (by omega) h)))) (lc (congrArg AV.bool (show (decide (cE (at_ l i) w = 0) : Bool) = isAt l w from by unfold isAt; rw [← (low_of hi0 (by omega) hlo (fun h => hhi i (by omega) h))]; first | exact decide_eq_decide.2 (by omega) | exact (decide_eq_false (by omega)).symm)) rfl))
      ·
        refine QE.op rfl rfl (QOp.no rfl rfl rfl rfl (ble_of (decide_eq_false b27) (by decide)) rfl) ?_
        refine QE.op rfl rfl (QOp.no rfl rfl rfl rfl (ble_of (decide_eq_false b27) (by decide)) rfl) ?_
        refine QE.op rfl rfl (QOp.no rfl rfl rfl rfl (ble_of (decide_eq_false b27) (by decide)) rfl) ?_
        refine QE.op rfl rfl (QOp.no rfl rfl rfl rfl (ble_of (decide_eq_false b27) (by decide)) rfl) ?_
        refine QE.op rfl rfl (QOp.no rfl rfl rfl rfl (ble_of (decide_eq_false b27) (by decide)) rfl) ?_
        refine QE.op rfl rfl (QOp.no rfl rfl rfl rfl (ble_of (decide_eq_false b27) (by decide)) rfl) ?_
        refine QE.op rfl rfl (QOp.no rfl rfl rfl rfl (ble_of (decide_eq_false b27) (by decide)) rfl) ?_
        refine QE.op rfl rfl (QOp.no rfl rfl rfl rfl (ble_of (decide_eq_false b27) (by decide)) rfl) ?_
        refine QE.op rfl rfl (.inl ⟨rfl, fun f' H' hf hM => AOp.pickF (.bool false) rfl ((hf 39 rfl).trans rfl) (decide_eq_false b27) rfl ⟨rfl, hM⟩⟩) ?_
        refine QE.op rfl rfl (.inl ⟨rfl, fun f' H' hf hM => AOp.assign (.int .i64 i) rfl ((hf 35 rfl).trans rfl) ⟨rfl, hM⟩⟩) ?_
        refine QE.op rfl rfl (.inl ⟨rfl, fun f' H' hf hM => AOp.assign (.bool false) rfl ((hf 48 rfl).trans rfl) ⟨rfl, hM⟩⟩) ?_
        refine QE.done fun H32 m33 => ?_
        have h34 := m33 _ _ h19
        have m35 := m20.trans m33
        refine AOps.nil ?_
        change AWP _ _ _ _ _ _
        refine AWP.ret ?_
        refine ⟨_, _, Ghost.refl, .inr rfl, _, Res.two rfl rfl rfl, ?_, m35⟩
        exact congrArg AV.tup (lc (congrArg (AV.int .i64) (show (i : Int) = lowS l w from by exact (low_of hi0 (by omega) hlo (fun h => hhi i (by omega) h)))) (lc (congrArg AV.bool (show (false : Bool) = isAt l w from by unfold isAt; rw [← (low_of hi0 (by omega) hlo (fun h => hhi i (by omega) h))]; first | exact decide_eq_decide.2 (by omega) | exact (decide_eq_false (by omega)).symm)) rfl))

theorem c19 (t : Tp) (a b : Int) (ht : t.ed.length ≤ 1048576) (hs : SortedE t.ed) : PC Try.prog 19 [.agg [.sl t.ed.length (t.ed.flatMap eE), .sl t.fan.length (t.fan.map eF), .sl t.rnd.length (t.rnd.map eBo)], .int .i64 a, .int .i64 b] (.tup [.int .i64 (optI (findS t a b)), .bool ((findS t a b).isSome)]) := by
  intro H0
  refine ACalls.of_body' (n := 28) rfl rfl rfl rfl ?_
  have m0 := Mono.refl H0
  refine AWP.seq ?_
  refine AWP.region (l := [0, 1, 2]) rfl ?_
  refine AOps.cons rfl rfl (AOp.box (.agg [.sl t.ed.length (t.ed.flatMap eE), .sl t.fan.length (t.fan.map eF), .sl t.rnd.length (t.rnd.map eBo)]) rfl rfl rfl ?_)
  intro i1 H2 n3 h4 k5
  have z6 := Mono.free m0 n3
  have m7 := Mono.new m0 n3 k5
  refine AOps.cons rfl rfl (AOp.assign (.int .i64 0) rfl rfl ?_)
  refine AOps.cons rfl rfl (AOp.assign (.bool false) rfl rfl ?_)
  refine AOps.nil ?_
  change AWP _ _ _ _ _ _
  refine AWP.seq ?_
  refine AWP.region (l := [0, 1, 2, 3, 4, 5, 6, 7, 8]) rfl ?_
  refine AOps.cons rfl rfl (AOp.move (.int .i64 a) rfl rfl ?_)
  refine AOps.cons rfl rfl (AOp.move (.int .i64 b) rfl rfl ?_)
  refine AOps.cons rfl rfl (AOp.min2 rfl rfl rfl ?_)
  refine AOps.cons rfl rfl (AOp.move (.int .i64 a) rfl rfl ?_)
  refine AOps.cons rfl rfl (AOp.move (.int .i64 b) rfl rfl ?_)
  refine AOps.cons rfl rfl (AOp.max2 rfl rfl rfl ?_)
  refine AOps.cons rfl rfl (AOp.build (cells := [.int .i64 (min a b), .int .i64 (max a b)]) rfl tz_63 pl_63 rfl rfl ?_)
  refine AOps.cons rfl rfl (AOp.alloc rfl tz_63 ?_)
  intro i8 H9 n10 h11 k12
  have e13 := ne_new h4 n10
  have z14 := Mono.free m7 n10
  have h15 := keep k12 (ne_new h4 n10) h4
  have m16 := Mono.new m7 n10 k12
  refine AOps.cons rfl rfl (AOp.store' (cells' := [.int .i64 (min a b), .int .i64 (max a b)]) (.agg [.int .i64 (min a b), .int .i64 (max a b)]) rfl rfl ts_63 h11 rfl rfl rfl rfl ?_)
  intro H17 h18 k19
  have h20 := keep k19 e13 h15
  have m22 := Mono.set m16 z14 k19
  refine AOps.nil ?_
  change AWP _ _ _ _ _ _
  refine AWP.seq ?_
  refine AWP.region (l := [0, 1, 2, 3, 4, 5, 6, 7, 8]) rfl ?_
  refine AOps.cons rfl rfl (AOp.fieldAddr rfl rfl fl_29_0 ?_ (hid := ⟨_, h20⟩))
  refine AOps.cons rfl rfl (AOp.load (.sl t.ed.length (t.ed.flatMap eE)) rfl rfl ty_26 h20 rfl ?_)
  refine AOps.cons rfl rfl (AOp.load (.agg [.int .i64 (min a b), .int .i64 (max a b)]) rfl rfl ty_63 h18 rfl ?_)
  refine AOps.cons rfl rfl (AOp.pcall («as» := [.sl t.ed.length (t.ed.flatMap eE), .agg [.int .i64 (min a b), .int .i64 (max a b)], .fn 30 []]) rfl rfl (rfl) tf_29 (c29 _ (min a b, max a b) (by omega) (by assumption)) ?_)
  intro H23 m24
  have h25 := m24 _ _ h20
  have h26 := m24 _ _ h18
  have m27 := m22.trans m24
  refine AOps.cons rfl rfl (AOp.move (.tup [.int .i64 (lowS t.ed (min a b, max a b)), .bool (isAt t.ed (min a b, max a b))]) rfl rfl ?_)
  refine AOps.cons rfl rfl (AOp.extract (.int .i64 (lowS t.ed (min a b, max a b))) rfl rfl rfl ?_)
  refine AOps.cons rfl rfl (AOp.extract (.bool (isAt t.ed (min a b, max a b))) rfl rfl rfl ?_)
  refine AOps.cons rfl rfl (AOp.assign (.int .i64 (lowS t.ed (min a b, max a b))) rfl rfl ?_)
  refine AOps.cons rfl rfl (AOp.assign (.bool (isAt t.ed (min a b, max a b))) rfl rfl ?_)
  refine AOps.nil ?_
  change AWP _ _ _ _ _ _
  refine AWP.seq ?_
  refine AWP.seq ?_
  refine AWP.region (l := [0, 1]) rfl ?_
  refine AOps.cons rfl rfl (AOp.move (.bool (isAt t.ed (min a b, max a b))) rfl rfl ?_)
  refine AOps.cons rfl rfl (AOp.not rfl rfl ?_)
  refine AOps.nil ?_
  change AWP _ _ _ _ _ _
  rcases Bool.eq_false_or_eq_true (isAt t.ed (min a b, max a b)) with b28 | b28
  ·
    refine AWP.condF rfl (nb b28) ?_
    refine AWP.skip ?_
    change AWP _ _ _ _ _ _
    refine AWP.seq ?_
    refine AWP.region (l := [0, 1, 2]) rfl ?_
    refine AOps.cons rfl rfl (AOp.move (.int .i64 (lowS t.ed (min a b, max a b))) rfl rfl ?_)
    refine AOps.cons rfl rfl (AOp.assign (.int .i64 (lowS t.ed (min a b, max a b))) rfl rfl ?_)
    refine AOps.cons rfl rfl (AOp.assign (.bool true) rfl rfl ?_)
    refine AOps.nil ?_
    change AWP _ _ _ _ _ _
    refine AWP.ret ?_
    refine ⟨_, _, Ghost.refl, .inr rfl, _, Res.two rfl rfl rfl, ?_, m27⟩
    exact congrArg AV.tup (lc (congrArg (AV.int .i64) (show (lowS t.ed (min a b, max a b) : Int) = optI (findS t a b) from by exact (low_find hs a b).2 b28)) (lc (congrArg AV.bool (show (true : Bool) = (findS t a b).isSome from by exact ((low_find hs a b).1.symm.trans b28).symm)) rfl))
  ·
    refine AWP.condT rfl (nb b28) ?_
    refine AWP.seq ?_
    refine AWP.region (l := [0, 1]) rfl ?_
    refine AOps.cons rfl rfl (AOp.assign (.int .i64 0) rfl rfl ?_)
    refine AOps.cons rfl rfl (AOp.assign (.bool false) rfl rfl ?_)
    refine AOps.nil ?_
    change AWP _ _ _ _ _ _
    refine AWP.ret ?_
    refine ⟨_, _, Ghost.refl, .inr rfl, _, Res.two rfl rfl rfl, ?_, m27⟩
    exact congrArg AV.tup (lc (congrArg (AV.int .i64) (show (0 : Int) = optI (findS t a b) from by rw [fs_none ((low_find hs a b).1.symm.trans b28)]; rfl)) (lc (congrArg AV.bool (show (false : Bool) = (findS t a b).isSome from by exact ((low_find hs a b).1.symm.trans b28).symm)) rfl))

theorem c26 (v : Int) (fs : List (List Int)) (hfs : fs.length ≤ 1048576) (hfss : ∀ l ∈ fs, l.length ≤ 1048576) : PC Try.prog 26 [.int .i64 v, .sl fs.length (fs.map eF)] (.bool (decide (goodS v fs))) := by
  intro H0
  refine ACalls.of_body' (n := 92) rfl rfl rfl rfl ?_
  have m0 := Mono.refl H0
  refine AWP.seq ?_
  refine AWP.region (l := [0]) rfl ?_
  refine AOps.cons rfl rfl (AOp.assign (.bool false) rfl rfl ?_)
  refine AOps.nil ?_
  change AWP _ _ _ _ _ _
  refine AWP.seq ?_
  refine AWP.seq ?_
  refine AWP.region (l := [0]) rfl ?_
  refine AOps.cons rfl rfl (AOp.assign (.int .i64 0) rfl rfl ?_)
  refine AOps.nil ?_
  change AWP _ _ _ _ _ _
  refine AWP.block ?_
  refine AWP.loop (fun q1 fq Hq => ∃ (f : Int), q1 = (((fs.length : Int) : Int) - f).toNat ∧ fq 5 = .int .i64 f ∧ fq 0 = .int .i64 v ∧ fq 1 = .sl fs.length (fs.map eF) ∧ Mono H0 Hq ∧ (0 ≤ f) ∧ (f ≤ (fs.length : Int)) ∧ (∀ g : Int, 0 ≤ g → g < f → goodF v fs (at_ fs g))) (k := (((fs.length : Int) : Int) - 0).toNat) ?_ ?_
  ·
    exact ⟨0, rfl, rfl, rfl, rfl, m0, by omega, by omega, by intro j; omega⟩
  ·
    rintro _ f3 H2 ⟨f, rfl, s4, s5, s6, m7, hf0, hf1, pre⟩
    refine AWP.seq ?_
    refine AWP.seq ?_
    refine AWP.region (l := [0, 1, 2, 3]) rfl ?_
    refine AOps.cons rfl rfl (AOp.move (.int .i64 f) rfl s4 ?_)
    refine AOps.cons rfl rfl (AOp.move (.sl fs.length (fs.map eF)) rfl s6 ?_)
    refine AOps.cons rfl rfl (AOp.len (m := fs.length) rfl rfl (.inr (.inl ⟨_, rfl⟩)) u_22 ?_)
    refine AOps.cons rfl rfl (AOp.bin (.bool (decide (f < (fs.length : Int)))) rfl rfl rfl rfl ?_)
    refine AOps.nil ?_
    change AWP _ _ _ _ _ _
    by_cases b8 : f < (fs.length : Int)
    ·
      refine AWP.condT rfl (decide_eq_true b8) ?_
      refine AWP.skip ?_
      change AWP _ _ _ _ _ _
      refine AWP.seq ?_
      refine AWP.block ?_
      refine AWP.seq ?_
      have hq : (at_ fs f).length ≤ 1048576 := hfss _ (at_mem (by omega) (by omega))
      refine AWP.region (l := [0, 1, 2, 3, 4, 5]) rfl ?_
      refine AOps.cons rfl rfl (AOp.move (.sl fs.length (fs.map eF)) rfl s6 ?_)
      refine AOps.cons rfl rfl (AOp.move (.int .i64 f) rfl s4 ?_)
      refine AOps.cons rfl rfl (AOp.indexAddrS rfl rfl rfl sl_22 (by omega) (by omega) ?_)
      refine AOps.cons rfl rfl (AOp.loadF (.sl (at_ fs f).length ((at_ fs f).map eI)) rfl rfl ty_35 (ld1 (by omega) (by omega)) ?_)
      refine AOps.cons rfl rfl (AOp.len (m := (at_ fs f).length) rfl rfl (.inr (.inl ⟨_, rfl⟩)) u_35 ?_)
      refine AOps.cons rfl rfl (AOp.assign (.int .i64 (((at_ fs f).length) : Int)) rfl rfl ?_)
      refine AOps.nil ?_
      change AWP _ _ _ _ _ _
      refine AWP.seq ?_
      refine AWP.seq ?_
      refine AWP.region (l := [0, 1]) rfl ?_
      refine AOps.cons rfl rfl (AOp.move (.int .i64 (((at_ fs f).length) : Int)) rfl rfl ?_)
      refine AOps.cons rfl rfl (AOp.bin (.bool (decide ((((at_ fs f).length) : Int) < 3))) rfl rfl rfl rfl ?_)
      refine AOps.nil ?_
      change AWP _ _ _ _ _ _
      by_cases b9 : (((at_ fs f).length) : Int) < 3
      ·
        refine AWP.condT rfl (decide_eq_true b9) ?_
        refine AWP.seq ?_
        refine AWP.region (l := [0]) rfl ?_
        refine AOps.cons rfl rfl (AOp.assign (.bool false) rfl rfl ?_)
        refine AOps.nil ?_
        change AWP _ _ _ _ _ _
        refine AWP.ret ?_
        refine ⟨_, _, Ghost.refl, .inr rfl, _, Res.one rfl rfl, ?_, m7⟩
        exact (congrArg AV.bool (rfl.trans (decide_eq_false (show ¬ (goodS v fs) from by intro h; have hg := h f hf0 (by omega); have h2 := hg.1; omega)).symm))
      ·
        refine AWP.condF rfl (decide_eq_false b9) ?_
        refine AWP.skip ?_
        change AWP _ _ _ _ _ _
        refine AWP.seq ?_
        refine AWP.seq ?_
        refine AWP.region (l := [0]) rfl ?_
        refine AOps.cons rfl rfl (AOp.assign (.int .i64 0) rfl rfl ?_)
        refine AOps.nil ?_
        change AWP _ _ _ _ _ _
        refine AWP.block ?_
        refine AWP.loop (fun q10 fq Hq => ∃ (i : Int), q10 = ((((at_ fs f).length : Int) : Int) - i).toNat ∧ fq 7 = .int .i64 i ∧ fq 5 = .int .i64 f ∧ fq 0 = .int .i64 v ∧ fq 1 = .sl fs.length (fs.map eF) ∧ fq 6 = .int .i64 (((at_ fs f).length) : Int) ∧ Mono H0 Hq ∧ (0 ≤ i) ∧ (i ≤ ((at_ fs f).length : Int)) ∧ (∀ j : Int, 0 ≤ j → j < i → 0 ≤ at_ (at_ fs f) j ∧ at_ (at_ fs f) j < v) ∧ (∀ j k : Int, 0 ≤ k → k < j → j < i → at_ (at_ fs f) j ≠ at_ (at_ fs f) k)) (k := ((((at_ fs f).length : Int) : Int) - 0).toNat) ?_ ?_
        ·
          exact ⟨0, rfl, rfl, s4, s5, s6, rfl, m7, by omega, by omega, by intro j; omega, by intro j; omega⟩
        ·
          rintro _ f12 H11 ⟨i, rfl, s13, s14, s15, s16, s17, m18, hi0, hi1, preA, preB⟩
          refine AWP.seq ?_
          refine AWP.seq ?_
          refine AWP.region (l := [0, 1, 2]) rfl ?_
          refine AOps.cons rfl rfl (AOp.move (.int .i64 i) rfl s13 ?_)
          refine AOps.cons rfl rfl (AOp.move (.int .i64 (((at_ fs f).length) : Int)) rfl s17 ?_)
          refine AOps.cons rfl rfl (AOp.bin (.bool (decide (i < (((at_ fs f).length) : Int)))) rfl rfl rfl rfl ?_)
          refine AOps.nil ?_
          change AWP _ _ _ _ _ _
          by_cases b19 : i < (((at_ fs f).length) : Int)
          ·
            refine AWP.condT rfl (decide_eq_true b19) ?_
            refine AWP.skip ?_
            change AWP _ _ _ _ _ _
            refine AWP.seq ?_
            refine AWP.block ?_
            refine AWP.seq ?_
            refine AWP.seq ?_
            refine AWP.region (l := [0, 1, 2, 3, 4, 5, 6, 7, 8, 9, 10, 11, 12, 13, 14, 15, 16, 17, 18]) rfl ?_
            refine AOps.cons rfl rfl (AOp.move (.sl fs.length (fs.map eF)) rfl s16 ?_)
            refine AOps.cons rfl rfl (AOp.move (.int .i64 f) rfl s14 ?_)
            refine AOps.cons rfl rfl (AOp.indexAddrS rfl rfl rfl sl_22 (by omega) (by omega) ?_)
            refine AOps.cons rfl rfl (AOp.loadF (.sl (at_ fs f).length ((at_ fs f).map eI)) rfl rfl ty_35 (ld1 (by omega) (by omega)) ?_)
            refine AOps.cons rfl rfl (AOp.move (.int .i64 i) rfl s13 ?_)
            refine AOps.cons rfl rfl (AOp.indexAddrS rfl rfl rfl sl_35 (by omega) (by omega) ?_)
            refine AOps.cons rfl rfl (AOp.loadF (.int .i64 (at_ (at_ fs f) i)) rfl rfl ty_3 (ld1 (by omega) (by omega)) ?_)
            refine AOps.cons rfl rfl (AOp.bin (.bool (decide (at_ (at_ fs f) i < 0))) rfl rfl rfl rfl ?_)
            refine AOps.cons rfl rfl (AOp.move (.bool (decide (at_ (at_ fs f) i < 0))) rfl rfl ?_)
            by_cases b20 : at_ (at_ fs f) i < 0
            ·
              refine AOps.no rfl rfl rfl rfl rfl rfl rfl (ble_of (decide_eq_true b20) (by decide)) ?_
              refine AOps.no rfl rfl rfl rfl rfl rfl rfl (ble_of (decide_eq_true b20) (by decide)) ?_
              refine AOps.no rfl rfl rfl rfl rfl rfl rfl (ble_of (decide_eq_true b20) (by decide)) ?_
              refine AOps.no rfl rfl rfl rfl rfl rfl rfl (ble_of (decide_eq_true b20) (by decide)) ?_
              refine AOps.no rfl rfl rfl rfl rfl rfl rfl (ble_of (decide_eq_true b20) (by decide)) ?_
              refine AOps.no rfl rfl rfl rfl rfl rfl rfl (ble_of (decide_eq_true b20) (by decide)) ?_
              refine AOps.no rfl rfl rfl rfl rfl rfl rfl (ble_of (decide_eq_true b20) (by decide)) ?_
              refine AOps.no rfl rfl rfl rfl rfl rfl rfl (ble_of (decide_eq_true b20) (by decide)) ?_
              refine AOps.no rfl rfl rfl rfl rfl rfl rfl (ble_of (decide_eq_true b20) (by decide)) ?_
              refine AOps.cons rfl rfl (AOp.pickT (.bool true) rfl rfl (decide_eq_true b20) rfl ?_)
              refine AOps.nil ?_
              change AWP _ _ _ _ _ _
              refine AWP.condT rfl rfl ?_
              refine AWP.seq ?_
              refine AWP.region (l := [0]) rfl ?_
              refine AOps.cons rfl rfl (AOp.assign (.bool false) rfl rfl ?_)
              refine AOps.nil ?_
              change AWP _ _ _ _ _ _
              refine AWP.ret ?_
              refine ⟨_, _, Ghost.refl, .inr rfl, _, Res.one rfl rfl, ?_, m18⟩
              exact (congrArg AV.bool (rfl.trans (decide_eq_false (show ¬ (goodS v fs) from by intro h; have hg := h f hf0 (by omega); have h2 := hg.2.1 i hi0 (by omega); omega)).symm))
            ·
              refine AOps.yes rfl rfl rfl rfl rfl rfl rfl (decide_eq_false b20) (AOp.move (.sl fs.length (fs.map eF)) rfl s16 ?_)
              refine AOps.yes rfl rfl rfl rfl rfl rfl rfl (decide_eq_false b20) (AOp.move (.int .i64 f) rfl s14 ?_)
              refine AOps.yes rfl rfl rfl rfl rfl rfl rfl (decide_eq_false b20) (AOp.indexAddrS rfl rfl rfl sl_22 (by omega) (by omega) ?_)
              refine AOps.yes rfl rfl rfl rfl rfl rfl rfl (decide_eq_false b20) (AOp.loadF (.sl (at_ fs f).length ((at_ fs f).map eI)) rfl rfl ty_35 (ld1 (by omega) (by omega)) ?_)
              refine AOps.yes rfl rfl rfl rfl rfl rfl rfl (decide_eq_false b20) (AOp.move (.int .i64 i) rfl s13 ?_)
              refine AOps.yes rfl rfl rfl rfl rfl rfl rfl (decide_eq_false b20) (AOp.indexAddrS rfl rfl rfl sl_35 (by omega) (by omega) ?_)
              refine AOps.yes rfl rfl rfl rfl rfl rfl rfl (decide_eq_false b20) (AOp.loadF (.int .i64 (at_ (at_ fs f) i)) rfl rfl ty_3 (ld1 (by omega) (by omega)) ?_)
              refine AOps.yes rfl rfl rfl rfl rfl rfl rfl (decide_eq_false b20) (AOp.move (.int .i64 v) rfl s15 ?_)
              refine AOps.yes rfl rfl rfl rfl rfl rfl rfl (decide_eq_false b20) (AOp.bin (.bool (decide (at_ (at_ fs f) i ≥ v))) rfl rfl rfl rfl ?_)
              refine AOps.cons rfl rfl (AOp.pickF (.bool (decide (at_ (at_ fs f) i ≥ v))) rfl rfl (decide_eq_false b20) rfl ?_)
              refine AOps.nil ?_
              change AWP _ _ _ _ _ _
              by_cases b21 : at_ (at_ fs f) i ≥ v
              ·
                refine AWP.condT rfl (decide_eq_true b21) ?_
                refine AWP.seq ?_
                refine AWP.region (l := [0]) rfl ?_
                refine AOps.cons rfl rfl (AOp.assign (.bool false) rfl rfl ?_)
                refine AOps.nil ?_
                change AWP _ _ _ _ _ _
                refine AWP.ret ?_
                refine ⟨_, _, Ghost.refl, .inr rfl, _, Res.one rfl rfl, ?_, m18⟩
                exact (congrArg AV.bool (rfl.trans (decide_eq_false (show ¬ (goodS v fs) from by intro h; have hg := h f hf0 (by omega); have h2 := hg.2.1 i hi0 (by omega); omega)).symm))
              ·
                refine AWP.condF rfl (decide_eq_false b21) ?_
                refine AWP.skip ?_
                change AWP _ _ _ _ _ _
                refine AWP.seq ?_
                refine AWP.region (l := [0]) rfl ?_
                refine AOps.cons rfl rfl (AOp.assign (.int .i64 0) rfl rfl ?_)
                refine AOps.nil ?_
                change AWP _ _ _ _ _ _
                refine AWP.block ?_
                refine AWP.loop (fun q22 fq Hq => ∃ (k : Int), q22 = ((i : Int) - k).toNat ∧ fq 8 = .int .i64 k ∧ fq 7 = .int .i64 i ∧ fq 5 = .int .i64 f ∧ fq 0 = .int .i64 v ∧ fq 1 = .sl fs.length (fs.map eF) ∧ fq 6 = .int .i64 (((at_ fs f).length) : Int) ∧ Mono H0 Hq ∧ (0 ≤ k) ∧ (k ≤ i) ∧ (∀ m : Int, 0 ≤ m → m < k → at_ (at_ fs f) i ≠ at_ (at_ fs f) m)) (k := ((i : Int) - 0).toNat) ?_ ?_
                ·
                  exact ⟨0, rfl, rfl, s13, s14, s15, s16, s17, m18, by omega, by omega, by intro j; omega⟩
                ·
                  rintro _ f24 H23 ⟨k, rfl, s25, s26, s27, s28, s29, s30, m31, hk0, hk1, preK⟩
                  refine AWP.seq ?_
                  refine AWP.seq ?_
                  refine AWP.region (l := [0, 1, 2]) rfl ?_
                  refine AOps.cons rfl rfl (AOp.move (.int .i64 k) rfl s25 ?_)
                  refine AOps.cons rfl rfl (AOp.move (.int .i64 i) rfl s26 ?_)
                  refine AOps.cons rfl rfl (AOp.bin (.bool (decide (k < i))) rfl rfl rfl rfl ?_)
                  refine AOps.nil ?_
                  change AWP _ _ _ _ _ _
                  by_cases b32 : k < i
                  ·
                    refine AWP.condT rfl (decide_eq_true b32) ?_
                    refine AWP.skip ?_
                    change AWP _ _ _ _ _ _
                    refine AWP.seq ?_
                    refine AWP.block ?_
                    refine AWP.seq ?_
                    refine AWP.region_quiet mixed (by kernel_rfl) 15 [] rfl (by kernel_rfl) (Mono H23) (Mono.refl _) ?_
                    refine QE.op rfl rfl (.inl ⟨rfl, fun f' H' hf hM => AOp.move (.sl fs.length (fs.map eF)) rfl ((hf 1 rfl).trans s29) ⟨rfl, hM⟩⟩) ?_
                    refine QE.op rfl rfl (.inl ⟨rfl, fun f' H' hf hM => AOp.move (.int .i64 f) rfl ((hf 5 rfl).trans s27) ⟨rfl, hM⟩⟩) ?_
                    refine QE.op rfl rfl (.inl ⟨rfl, fun f' H' hf hM => AOp.indexAddrS rfl ((hf 52 rfl).trans rfl) ((hf 53 rfl).trans rfl) sl_22 (by omega) (by omega) ⟨rfl, hM⟩⟩) ?_
                    refine QE.op rfl rfl (.inl ⟨rfl, fun f' H' hf hM => AOp.loadF (.sl (at_ fs f).length ((at_ fs f).map eI)) rfl ((hf 54 rfl).trans rfl) ty_35 (ld1 (by omega) (by omega)) ⟨rfl, hM⟩⟩) ?_
                    refine QE.op rfl rfl (.inl ⟨rfl, fun f' H' hf hM => AOp.move (.int .i64 i) rfl ((hf 7 rfl).trans s26) ⟨rfl, hM⟩⟩) ?_
                    refine QE.op rfl rfl (.inl ⟨rfl, fun f' H' hf hM => AOp.indexAddrS rfl ((hf 55 rfl).trans rfl) ((hf 56 rfl).trans rfl) sl_35 (by omega) (by omega) ⟨rfl, hM⟩⟩) ?_
                    refine QE.op rfl rfl (.inl ⟨rfl, fun f' H' hf hM => AOp.loadF (.int .i64 (at_ (at_ fs f) i)) rfl ((hf 57 rfl).trans rfl) ty_3 (ld1 (by omega) (by omega)) ⟨rfl, hM⟩⟩) ?_
                    refine QE.op rfl rfl (.inl ⟨rfl, fun f' H' hf hM => AOp.move (.sl fs.length (fs.map eF)) rfl ((hf 1 rfl).trans s29) ⟨rfl, hM⟩⟩) ?_
                    refine QE.op rfl rfl (.inl ⟨rfl, fun f' H' hf hM => AOp.move (.int .i64 f) rfl ((hf 5 rfl).trans s27) ⟨rfl, hM⟩⟩) ?_
                    refine QE.op rfl rfl (.inl ⟨rfl, fun f' H' hf hM => AOp.indexAddrS rfl ((hf 59 rfl).trans rfl) ((hf 60 rfl).trans rfl) sl_22 (by omega) (by omega) ⟨rfl, hM⟩⟩) ?_
                    refine QE.op rfl rfl (.inl ⟨rfl, fun f' H' hf hM => AOp.loadF (.sl (at_ fs f).length ((at_ fs f).map eI)) rfl ((hf 61 rfl).trans rfl) ty_35 (ld1 (by omega) (by omega)) ⟨rfl, hM⟩⟩) ?_
                    refine QE.op rfl rfl (.inl ⟨rfl, fun f' H' hf hM => AOp.move (.int .i64 k) rfl ((hf 8 rfl).trans s25) ⟨rfl, hM⟩⟩) ?_
                    refine QE.op rfl rfl (.inl ⟨rfl, fun f' H' hf hM => AOp.indexAddrS rfl ((hf 62 rfl).trans rfl) ((hf 63 rfl).trans rfl) sl_35 (by omega) (by omega) ⟨rfl, hM⟩⟩) ?_
                    refine QE.op rfl rfl (.inl ⟨rfl, fun f' H' hf hM => AOp.loadF (.int .i64 (at_ (at_ fs f) k)) rfl ((hf 64 rfl).trans rfl) ty_3 (ld1 (by omega) (by omega)) ⟨rfl, hM⟩⟩) ?_
                    refine QE.op rfl rfl (.inl ⟨rfl, fun f' H' hf hM => AOp.bin (.bool (decide (at_ (at_ fs f) i = at_ (at_ fs f) k))) rfl ((hf 58 rfl).trans rfl) ((hf 65 rfl).trans rfl) ieq ⟨rfl, hM⟩⟩) ?_
                    refine QE.done fun H33 m34 => ?_
                    have m35 := m31.trans m34
                    refine AOps.nil ?_
                    change AWP _ _ _ _ _ _
                    by_cases b36 : at_ (at_ fs f) i = at_ (at_ fs f) k
                    ·
                      refine AWP.condT rfl (decide_eq_true b36) ?_
                      refine AWP.seq ?_
                      refine AWP.region (l := [0]) rfl ?_
                      refine AOps.cons rfl rfl (AOp.assign (.bool false) rfl rfl ?_)
                      refine AOps.nil ?_
                      change AWP _ _ _ _ _ _
                      refine AWP.ret ?_
                      refine ⟨_, _, Ghost.refl, .inr rfl, _, Res.one rfl rfl, ?_, m35⟩
                      exact (congrArg AV.bool (rfl.trans (decide_eq_false (show ¬ (goodS v fs) from by intro h; have hg := h f hf0 (by omega); exact hg.2.2.1 i k hk0 (by omega) (by omega) b36)).symm))
                    ·
                      refine AWP.condF rfl (decide_eq_false b36) ?_
                      refine AWP.skip ?_
                      change AWP _ _ _ _ _ _
                      refine AWP.region (l := [0, 1, 2]) rfl ?_
                      refine AOps.cons rfl rfl (AOp.move (.int .i64 k) rfl s25 ?_)
                      refine AOps.cons rfl rfl (AOp.bin (.int .i64 (k + 1)) rfl rfl rfl (iadd (by omega)) ?_)
                      refine AOps.cons rfl rfl (AOp.assign (.int .i64 (k + 1)) rfl rfl ?_)
                      refine AOps.nil ?_
                      exact ⟨_, by omega, k + 1, rfl, rfl, s26, s27, s28, s29, s30, m35, by omega, by omega, by exact fa_step preK b36⟩
                  ·
                    refine AWP.condF rfl (decide_eq_false b32) ?_
                    refine AWP.exit ?_
                    change AWP _ _ _ _ _ _
                    refine AWP.region (l := [0, 1, 2]) rfl ?_
                    refine AOps.cons rfl rfl (AOp.move (.int .i64 i) rfl s26 ?_)
                    refine AOps.cons rfl rfl (AOp.bin (.int .i64 (i + 1)) rfl rfl rfl (iadd (by omega)) ?_)
                    refine AOps.cons rfl rfl (AOp.assign (.int .i64 (i + 1)) rfl rfl ?_)
                    refine AOps.nil ?_
                    exact ⟨_, by omega, i + 1, rfl, rfl, s27, s28, s29, s30, m31, by omega, by omega, by exact fa_step preA (by omega), by exact fun j k h1 h2 h3 => by by_cases e : j = i; exact e ▸ preK k h1 (by omega); exact preB j k h1 h2 (by omega)⟩
          ·
            refine AWP.condF rfl (decide_eq_false b19) ?_
            refine AWP.exit ?_
            change AWP _ _ _ _ _ _
            refine AWP.seq ?_
            refine AWP.region (l := [0]) rfl ?_
            refine AOps.cons rfl rfl (AOp.assign (.int .i64 0) rfl rfl ?_)
            refine AOps.nil ?_
            change AWP _ _ _ _ _ _
            refine AWP.block ?_
            refine AWP.loop (fun q37 fq Hq => ∃ (p : Int), q37 = ((((at_ fs f).length : Int) : Int) - p).toNat ∧ fq 9 = .int .i64 p ∧ fq 5 = .int .i64 f ∧ fq 0 = .int .i64 v ∧ fq 1 = .sl fs.length (fs.map eF) ∧ fq 6 = .int .i64 (((at_ fs f).length) : Int) ∧ Mono H0 Hq ∧ (0 ≤ p) ∧ (p ≤ ((at_ fs f).length : Int)) ∧ (∀ i : Int, 0 ≤ i → i < p → 0 ≤ alongS fs (at_ (at_ fs f) i) (at_ (at_ fs f) ((i + 1) % (at_ fs f).length)))) (k := ((((at_ fs f).length : Int) : Int) - 0).toNat) ?_ ?_
            ·
              exact ⟨0, rfl, rfl, s14, s15, s16, s17, m18, by omega, by omega, by intro j; omega⟩
            ·
              rintro _ f39 H38 ⟨p, rfl, s40, s41, s42, s43, s44, m45, hp0, hp1, preC⟩
              refine AWP.seq ?_
              refine AWP.seq ?_
              refine AWP.region (l := [0, 1, 2]) rfl ?_
              refine AOps.cons rfl rfl (AOp.move (.int .i64 p) rfl s40 ?_)
              refine AOps.cons rfl rfl (AOp.move (.int .i64 (((at_ fs f).length) : Int)) rfl s44 ?_)
              refine AOps.cons rfl rfl (AOp.bin (.bool (decide (p < (((at_ fs f).length) : Int)))) rfl rfl rfl rfl ?_)
              refine AOps.nil ?_
              change AWP _ _ _ _ _ _
              by_cases b46 : p < (((at_ fs f).length) : Int)
              ·
                refine AWP.condT rfl (decide_eq_true b46) ?_
                refine AWP.skip ?_
                change AWP _ _ _ _ _ _
                refine AWP.seq ?_
                refine AWP.block ?_
                refine AWP.seq ?_
                refine AWP.region_quiet mixed (by kernel_rfl) 20 [] rfl (by kernel_rfl) (Mono H38) (Mono.refl _) ?_
                refine QE.op rfl rfl (.inl ⟨rfl, fun f' H' hf hM => AOp.move (.sl fs.length (fs.map eF)) rfl ((hf 1 rfl).trans s43) ⟨rfl, hM⟩⟩) ?_
                refine QE.op rfl rfl (.inl ⟨rfl, fun f' H' hf hM => AOp.move (.sl fs.length (fs.map eF)) rfl ((hf 1 rfl).trans s43) ⟨rfl, hM⟩⟩) ?_
                refine QE.op rfl rfl (.inl ⟨rfl, fun f' H' hf hM => AOp.move (.int .i64 f) rfl ((hf 5 rfl).trans s41) ⟨rfl, hM⟩⟩) ?_
                refine QE.op rfl rfl (.inl ⟨rfl, fun f' H' hf hM => AOp.indexAddrS rfl ((hf 73 rfl).trans rfl) ((hf 74 rfl).trans rfl) sl_22 (by omega) (by omega) ⟨rfl, hM⟩⟩) ?_
                refine QE.op rfl rfl (.inl ⟨rfl, fun f' H' hf hM => AOp.loadF (.sl (at_ fs f).length ((at_ fs f).map eI)) rfl ((hf 75 rfl).trans rfl) ty_35 (ld1 (by omega) (by omega)) ⟨rfl, hM⟩⟩) ?_
                refine QE.op rfl rfl (.inl ⟨rfl, fun f' H' hf hM => AOp.move (.int .i64 p) rfl ((hf 9 rfl).trans s40) ⟨rfl, hM⟩⟩) ?_
                refine QE.op rfl rfl (.inl ⟨rfl, fun f' H' hf hM => AOp.indexAddrS rfl ((hf 76 rfl).trans rfl) ((hf 77 rfl).trans rfl) sl_35 (by omega) (by omega) ⟨rfl, hM⟩⟩) ?_
                refine QE.op rfl rfl (.inl ⟨rfl, fun f' H' hf hM => AOp.loadF (.int .i64 (at_ (at_ fs f) p)) rfl ((hf 78 rfl).trans rfl) ty_3 (ld1 (by omega) (by omega)) ⟨rfl, hM⟩⟩) ?_
                refine QE.op rfl rfl (.inl ⟨rfl, fun f' H' hf hM => AOp.move (.sl fs.length (fs.map eF)) rfl ((hf 1 rfl).trans s43) ⟨rfl, hM⟩⟩) ?_
                refine QE.op rfl rfl (.inl ⟨rfl, fun f' H' hf hM => AOp.move (.int .i64 f) rfl ((hf 5 rfl).trans s41) ⟨rfl, hM⟩⟩) ?_
                refine QE.op rfl rfl (.inl ⟨rfl, fun f' H' hf hM => AOp.indexAddrS rfl ((hf 80 rfl).trans rfl) ((hf 81 rfl).trans rfl) sl_22 (by omega) (by omega) ⟨rfl, hM⟩⟩) ?_
                refine QE.op rfl rfl (.inl ⟨rfl, fun f' H' hf hM => AOp.loadF (.sl (at_ fs f).length ((at_ fs f).map eI)) rfl ((hf 82 rfl).trans rfl) ty_35 (ld1 (by omega) (by omega)) ⟨rfl, hM⟩⟩) ?_
                refine QE.op rfl rfl (.inl ⟨rfl, fun f' H' hf hM => AOp.move (.int .i64 p) rfl ((hf 9 rfl).trans s40) ⟨rfl, hM⟩⟩) ?_
                refine QE.op rfl rfl (.inl ⟨rfl, fun f' H' hf hM => AOp.bin (.int .i64 (p + 1)) rfl ((hf 84 rfl).trans rfl) rfl (iadd (by omega)) ⟨rfl, hM⟩⟩) ?_
                refine QE.op rfl rfl (.inl ⟨rfl, fun f' H' hf hM => AOp.move (.int .i64 (((at_ fs f).length) : Int)) rfl ((hf 6 rfl).trans s44) ⟨rfl, hM⟩⟩) ?_
                have r47 := mod_in (x := p + 1) (y := (((at_ fs f).length) : Int)) (by omega)
                refine QE.op rfl rfl (.inl ⟨rfl, fun f' H' hf hM => AOp.remP rfl ((hf 85 rfl).trans rfl) ((hf 86 rfl).trans rfl) (by omega) (by omega) ⟨rfl, hM⟩⟩) ?_
                refine QE.op rfl rfl (.inl ⟨rfl, fun f' H' hf hM => AOp.indexAddrS rfl ((hf 83 rfl).trans rfl) ((hf 87 rfl).trans rfl) sl_35 (by omega) (by omega) ⟨rfl, hM⟩⟩) ?_
                refine QE.op rfl rfl (.inl ⟨rfl, fun f' H' hf hM => AOp.loadF (.int .i64 (at_ (at_ fs f) ((p + 1) % (((at_ fs f).length) : Int)))) rfl ((hf 88 rfl).trans rfl) ty_3 (ld1 (by omega) (by omega)) ⟨rfl, hM⟩⟩) ?_
                refine QE.op rfl rfl (.inl ⟨rfl, fun f' H' hf hM => AOp.pcall («as» := [.sl fs.length (fs.map eF), .int .i64 (at_ (at_ fs f) p), .int .i64 (at_ (at_ fs f) ((p + 1) % (((at_ fs f).length) : Int)))]) rfl rfl (lapp (lcons ((hf 72 rfl).trans rfl) (lcons ((hf 79 rfl).trans rfl) (lcons ((hf 89 rfl).trans rfl) rfl))) rfl) tf_27 (c27 _ (by assumption) (by assumption) _ _) fun H2 m2 => ⟨rfl, hM.trans m2⟩⟩) ?_
                refine QE.op rfl rfl (.inl ⟨rfl, fun f' H' hf hM => AOp.bin (.bool (decide (alongS fs (at_ (at_ fs f) p) (at_ (at_ fs f) ((p + 1) % (((at_ fs f).length) : Int))) < 0))) rfl ((hf 90 rfl).trans rfl) rfl rfl ⟨rfl, hM⟩⟩) ?_
                refine QE.done fun H48 m49 => ?_
                have m50 := m45.trans m49
                refine AOps.nil ?_
                change AWP _ _ _ _ _ _
                by_cases b51 : alongS fs (at_ (at_ fs f) p) (at_ (at_ fs f) ((p + 1) % (((at_ fs f).length) : Int))) < 0
                ·
                  refine AWP.condT rfl (decide_eq_true b51) ?_
                  refine AWP.seq ?_
                  refine AWP.region (l := [0]) rfl ?_
                  refine AOps.cons rfl rfl (AOp.assign (.bool false) rfl rfl ?_)
                  refine AOps.nil ?_
                  change AWP _ _ _ _ _ _
                  refine AWP.ret ?_
                  refine ⟨_, _, Ghost.refl, .inr rfl, _, Res.one rfl rfl, ?_, m50⟩
                  exact (congrArg AV.bool (rfl.trans (decide_eq_false (show ¬ (goodS v fs) from by intro h; have hg := h f hf0 (by omega); have h2 := hg.2.2.2 p hp0 (by omega); omega)).symm))
                ·
                  refine AWP.condF rfl (decide_eq_false b51) ?_
                  refine AWP.skip ?_
                  change AWP _ _ _ _ _ _
                  refine AWP.region (l := [0, 1, 2]) rfl ?_
                  refine AOps.cons rfl rfl (AOp.move (.int .i64 p) rfl s40 ?_)
                  refine AOps.cons rfl rfl (AOp.bin (.int .i64 (p + 1)) rfl rfl rfl (iadd (by omega)) ?_)
                  refine AOps.cons rfl rfl (AOp.assign (.int .i64 (p + 1)) rfl rfl ?_)
                  refine AOps.nil ?_
                  exact ⟨_, by omega, p + 1, rfl, rfl, s41, s42, s43, s44, m50, by omega, by omega, by exact fa_step preC (by omega)⟩
              ·
                refine AWP.condF rfl (decide_eq_false b46) ?_
                refine AWP.exit ?_
                change AWP _ _ _ _ _ _
                refine AWP.region (l := [0, 1, 2]) rfl ?_
                refine AOps.cons rfl rfl (AOp.move (.int .i64 f) rfl s41 ?_)
                refine AOps.cons rfl rfl (AOp.bin (.int .i64 (f + 1)) rfl rfl rfl (iadd (by omega)) ?_)
                refine AOps.cons rfl rfl (AOp.assign (.int .i64 (f + 1)) rfl rfl ?_)
                refine AOps.nil ?_
                exact ⟨_, by omega, f + 1, rfl, rfl, s42, s43, m45, by omega, by omega, by exact fa_step pre ⟨by omega, fun i h1 h2 => preA i h1 (by omega), fun i k h1 h2 h3 => preB i k h1 h2 (by omega), fun i h1 h2 => preC i h1 (by omega)⟩⟩
    ·
      refine AWP.condF rfl (decide_eq_false b8) ?_
      refine AWP.exit ?_
      change AWP _ _ _ _ _ _
      refine AWP.seq ?_
      refine AWP.region (l := [0]) rfl ?_
      refine AOps.cons rfl rfl (AOp.assign (.bool true) rfl rfl ?_)
      refine AOps.nil ?_
      change AWP _ _ _ _ _ _
      refine AWP.ret ?_
      refine ⟨_, _, Ghost.refl, .inr rfl, _, Res.one rfl rfl, ?_, m7⟩
      exact (congrArg AV.bool (rfl.trans (decide_eq_true (show goodS v fs from by exact fun g h1 h2 => pre g h1 (by omega))).symm))

theorem c14 (t : Tp) (ht : t.ed.length ≤ 1048576) (ht2 : t.fan.length ≤ 1048576) (ht3 : t.rnd.length ≤ 1048576) (ht4 : ∀ l ∈ t.fan, l.length ≤ 1048576) (hr : ∀ e ∈ t.ed, EOK e) : PC Try.prog 14 [.agg [.sl t.ed.length (t.ed.flatMap eE), .sl t.fan.length (t.fan.map eF), .sl t.rnd.length (t.rnd.map eBo)], .agg [.sl t.ed.length (t.ed.flatMap eE), .sl t.fan.length (t.fan.map eF), .sl t.rnd.length (t.rnd.map eBo)]] (.bool true) := by
  intro H0
  refine ACalls.of_body' (n := 118) rfl rfl rfl rfl ?_
  have m0 := Mono.refl H0
  refine AWP.seq ?_
  refine AWP.region (l := [0, 1, 2]) rfl ?_
  refine AOps.cons rfl rfl (AOp.box (.agg [.sl t.ed.length (t.ed.flatMap eE), .sl t.fan.length (t.fan.map eF), .sl t.rnd.length (t.rnd.map eBo)]) rfl rfl rfl ?_)
  intro i1 H2 n3 h4 k5
  have z6 := Mono.free m0 n3
  have m7 := Mono.new m0 n3 k5
  refine AOps.cons rfl rfl (AOp.box (.agg [.sl t.ed.length (t.ed.flatMap eE), .sl t.fan.length (t.fan.map eF), .sl t.rnd.length (t.rnd.map eBo)]) rfl rfl rfl ?_)
  intro i8 H9 n10 h11 k12
  have e13 := ne_new h4 n10
  have z14 := Mono.free m7 n10
  have h15 := keep k12 (ne_new h4 n10) h4
  have m16 := Mono.new m7 n10 k12
  refine AOps.cons rfl rfl (AOp.assign (.bool false) rfl rfl ?_)
  refine AOps.nil ?_
  change AWP _ _ _ _ _ _
  refine AWP.seq ?_
  refine AWP.seq ?_
  refine AWP.region (l := [0, 1, 2, 3, 4, 5, 6, 7, 8, 9, 10, 11, 12, 13, 14, 15, 16, 17, 18, 19, 20, 21, 22, 23, 24]) rfl ?_
  refine AOps.cons rfl rfl (AOp.fieldAddr rfl rfl fl_29_0 ?_ (hid := ⟨_, h15⟩))
  refine AOps.cons rfl rfl (AOp.load (.sl t.ed.length (t.ed.flatMap eE)) rfl rfl ty_26 h15 rfl ?_)
  refine AOps.cons rfl rfl (AOp.len (m := t.ed.length) rfl rfl (.inr (.inl ⟨_, rfl⟩)) u_26 ?_)
  refine AOps.cons rfl rfl (AOp.fieldAddr rfl rfl fl_29_0 ?_ (hid := ⟨_, h11⟩))
  refine AOps.cons rfl rfl (AOp.load (.sl t.ed.length (t.ed.flatMap eE)) rfl rfl ty_26 h11 rfl ?_)
  refine AOps.cons rfl rfl (AOp.len (m := t.ed.length) rfl rfl (.inr (.inl ⟨_, rfl⟩)) u_26 ?_)
  refine AOps.cons rfl rfl (AOp.bin (.bool (!decide ((t.ed.length : Int) = (t.ed.length : Int)))) rfl rfl rfl ine ?_)
  refine AOps.cons rfl rfl (AOp.move (.bool (!decide ((t.ed.length : Int) = (t.ed.length : Int)))) rfl rfl ?_)
  refine AOps.yes rfl rfl rfl rfl rfl rfl rfl (nb (decide_eq_true rfl)) (AOp.fieldAddr rfl rfl fl_29_1 ?_ (hid := ⟨_, h15⟩))
  refine AOps.yes rfl rfl rfl rfl rfl rfl rfl (nb (decide_eq_true rfl)) (AOp.load (.sl t.fan.length (t.fan.map eF)) rfl rfl ty_22 h15 rfl ?_)
  refine AOps.yes rfl rfl rfl rfl rfl rfl rfl (nb (decide_eq_true rfl)) (AOp.len (m := t.fan.length) rfl rfl (.inr (.inl ⟨_, rfl⟩)) u_22 ?_)
  refine AOps.yes rfl rfl rfl rfl rfl rfl rfl (nb (decide_eq_true rfl)) (AOp.fieldAddr rfl rfl fl_29_1 ?_ (hid := ⟨_, h11⟩))
  refine AOps.yes rfl rfl rfl rfl rfl rfl rfl (nb (decide_eq_true rfl)) (AOp.load (.sl t.fan.length (t.fan.map eF)) rfl rfl ty_22 h11 rfl ?_)
  refine AOps.yes rfl rfl rfl rfl rfl rfl rfl (nb (decide_eq_true rfl)) (AOp.len (m := t.fan.length) rfl rfl (.inr (.inl ⟨_, rfl⟩)) u_22 ?_)
  refine AOps.yes rfl rfl rfl rfl rfl rfl rfl (nb (decide_eq_true rfl)) (AOp.bin (.bool (!decide ((t.fan.length : Int) = (t.fan.length : Int)))) rfl rfl rfl ine ?_)
  refine AOps.cons rfl rfl (AOp.pickF (.bool (!decide ((t.fan.length : Int) = (t.fan.length : Int)))) rfl rfl (nb (decide_eq_true rfl)) rfl ?_)
  refine AOps.cons rfl rfl (AOp.move (.bool (!decide ((t.fan.length : Int) = (t.fan.length : Int)))) rfl rfl ?_)
  refine AOps.yes rfl rfl rfl rfl rfl rfl rfl (nb (decide_eq_true rfl)) (AOp.fieldAddr rfl rfl fl_29_2 ?_ (hid := ⟨_, h15⟩))
  refine AOps.yes rfl rfl rfl rfl rfl rfl rfl (nb (decide_eq_true rfl)) (AOp.load (.sl t.rnd.length (t.rnd.map eBo)) rfl rfl ty_27 h15 rfl ?_)
  refine AOps.yes rfl rfl rfl rfl rfl rfl rfl (nb (decide_eq_true rfl)) (AOp.len (m := t.rnd.length) rfl rfl (.inr (.inl ⟨_, rfl⟩)) u_27 ?_)
  refine AOps.yes rfl rfl rfl rfl rfl rfl rfl (nb (decide_eq_true rfl)) (AOp.fieldAddr rfl rfl fl_29_2 ?_ (hid := ⟨_, h11⟩))
  refine AOps.yes rfl rfl rfl rfl rfl rfl rfl (nb (decide_eq_true rfl)) (AOp.load (.sl t.rnd.length (t.rnd.map eBo)) rfl rfl ty_27 h11 rfl ?_)
  refine AOps.yes rfl rfl rfl rfl rfl rfl rfl (nb (decide_eq_true rfl)) (AOp.len (m := t.rnd.length) rfl rfl (.inr (.inl ⟨_, rfl⟩)) u_27 ?_)
  refine AOps.yes rfl rfl rfl rfl rfl rfl rfl (nb (decide_eq_true rfl)) (AOp.bin (.bool (!decide ((t.rnd.length : Int) = (t.rnd.length : Int)))) rfl rfl rfl ine ?_)
  refine AOps.cons rfl rfl (AOp.pickF (.bool (!decide ((t.rnd.length : Int) = (t.rnd.length : Int)))) rfl rfl (nb (decide_eq_true rfl)) rfl ?_)
  refine AOps.nil ?_
  change AWP _ _ _ _ _ _
  refine AWP.condF rfl (nb (decide_eq_true rfl)) ?_
  refine AWP.skip ?_
  change AWP _ _ _ _ _ _
  refine AWP.seq ?_
  refine AWP.seq ?_
  refine AWP.region (l := [0]) rfl ?_
  refine AOps.cons rfl rfl (AOp.assign (.int .i64 0) rfl rfl ?_)
  refine AOps.nil ?_
  change AWP _ _ _ _ _ _
  refine AWP.block ?_
  refine AWP.loop (fun q17 fq Hq => ∃ (i : Int), q17 = (((t.ed.length : Int) : Int) - i).toNat ∧ fq 5 = .int .i64 i ∧ fq 2 = .ptr i1 0 0 ∧ fq 3 = .ptr i8 0 0 ∧ Hq i1 = some (.row 0 ([.sl t.ed.length (t.ed.flatMap eE), .sl t.fan.length (t.fan.map eF), .sl t.rnd.length (t.rnd.map eBo)])) ∧ Hq i8 = some (.row 0 ([.sl t.ed.length (t.ed.flatMap eE), .sl t.fan.length (t.fan.map eF), .sl t.rnd.length (t.rnd.map eBo)])) ∧ Mono H0 Hq ∧ (0 ≤ i) ∧ (i ≤ (t.ed.length : Int))) (k := (((t.ed.length : Int) : Int) - 0).toNat) ?_ ?_
  ·
    exact ⟨0, rfl, rfl, rfl, rfl, h15, h11, m16, by omega, by omega⟩
  ·
    rintro _ f19 H18 ⟨i, rfl, s20, s21, s22, h23, h24, m25, hi0, hi1⟩
    refine AWP.seq ?_
    refine AWP.seq ?_
    refine AWP.region (l := [0, 1, 2, 3, 4]) rfl ?_
    refine AOps.cons rfl rfl (AOp.move (.int .i64 i) rfl s20 ?_)
    refine AOps.cons rfl rfl (AOp.fieldAddr rfl s21 fl_29_0 ?_ (hid := ⟨_, h23⟩))
    refine AOps.cons rfl rfl (AOp.load (.sl t.ed.length (t.ed.flatMap eE)) rfl rfl ty_26 h23 rfl ?_)
    refine AOps.cons rfl rfl (AOp.len (m := t.ed.length) rfl rfl (.inr (.inl ⟨_, rfl⟩)) u_26 ?_)
    refine AOps.cons rfl rfl (AOp.bin (.bool (decide (i < (t.ed.length : Int)))) rfl rfl rfl rfl ?_)
    refine AOps.nil ?_
    change AWP _ _ _ _ _ _
    by_cases b26 : i < (t.ed.length : Int)
    ·
      refine AWP.condT rfl (decide_eq_true b26) ?_
      refine AWP.skip ?_
      change AWP _ _ _ _ _ _
      refine AWP.seq ?_
      refine AWP.block ?_
      refine AWP.seq ?_
      refine AWP.region_quiet mixed (by kernel_rfl) 11 [] rfl (by kernel_rfl) (Mono H18) (Mono.refl _) ?_
      refine QE.op rfl rfl (.inl ⟨rfl, fun f' H' hf hM => AOp.fieldAddr rfl ((hf 2 rfl).trans s21) fl_29_0 ⟨rfl, hM⟩ (hid := ⟨_, (hM _ _ h23)⟩)⟩) ?_
      refine QE.op rfl rfl (.inl ⟨rfl, fun f' H' hf hM => AOp.load (.sl t.ed.length (t.ed.flatMap eE)) rfl ((hf 40 rfl).trans rfl) ty_26 (hM _ _ h23) rfl ⟨rfl, hM⟩⟩) ?_
      refine QE.op rfl rfl (.inl ⟨rfl, fun f' H' hf hM => AOp.move (.int .i64 i) rfl ((hf 5 rfl).trans s20) ⟨rfl, hM⟩⟩) ?_
      refine QE.op rfl rfl (.inl ⟨rfl, fun f' H' hf hM => AOp.indexAddrS rfl ((hf 41 rfl).trans rfl) ((hf 42 rfl).trans rfl) sl_26 (by omega) (by omega) ⟨rfl, hM⟩⟩) ?_
      refine QE.op rfl rfl (.inl ⟨rfl, fun f' H' hf hM => AOp.loadF (.agg [.int .i64 ((at_ t.ed i).A), .int .i64 ((at_ t.ed i).B), .int .i64 ((at_ t.ed i).F), .int .i64 ((at_ t.ed i).G)]) rfl ((hf 43 rfl).trans rfl) ty_37 (ldM eE_len (by omega) (by omega)) ⟨rfl, hM⟩⟩) ?_
      refine QE.op rfl rfl (.inl ⟨rfl, fun f' H' hf hM => AOp.fieldAddr rfl ((hf 3 rfl).trans s22) fl_29_0 ⟨rfl, hM⟩ (hid := ⟨_, (hM _ _ h24)⟩)⟩) ?_
      refine QE.op rfl rfl (.inl ⟨rfl, fun f' H' hf hM => AOp.load (.sl t.ed.length (t.ed.flatMap eE)) rfl ((hf 45 rfl).trans rfl) ty_26 (hM _ _ h24) rfl ⟨rfl, hM⟩⟩) ?_
      refine QE.op rfl rfl (.inl ⟨rfl, fun f' H' hf hM => AOp.move (.int .i64 i) rfl ((hf 5 rfl).trans s20) ⟨rfl, hM⟩⟩) ?_
      refine QE.op rfl rfl (.inl ⟨rfl, fun f' H' hf hM => AOp.indexAddrS rfl ((hf 46 rfl).trans rfl) ((hf 47 rfl).trans rfl) sl_26 (by omega) (by omega) ⟨rfl, hM⟩⟩) ?_
      refine QE.op rfl rfl (.inl ⟨rfl, fun f' H' hf hM => AOp.loadF (.agg [.int .i64 ((at_ t.ed i).A), .int .i64 ((at_ t.ed i).B), .int .i64 ((at_ t.ed i).F), .int .i64 ((at_ t.ed i).G)]) rfl ((hf 48 rfl).trans rfl) ty_37 (ldM eE_len (by omega) (by omega)) ⟨rfl, hM⟩⟩) ?_
      refine QE.op rfl rfl (.inl ⟨rfl, fun f' H' hf hM => AOp.neAggD rfl ((hf 44 rfl).trans rfl) ((hf 49 rfl).trans rfl) teq37 (kok37 (hr _ (at_mem (by omega) (by omega)))) (kok37 (hr _ (at_mem (by omega) (by omega)))) (eE_iff (at_ t.ed i) (at_ t.ed i)) ⟨rfl, hM⟩⟩) ?_
      refine QE.done fun H27 m28 => ?_
      have h29 := m28 _ _ h23
      have h30 := m28 _ _ h24
      have m31 := m25.trans m28
      refine AOps.nil ?_
      change AWP _ _ _ _ _ _
      refine AWP.condF rfl (nb (decide_eq_true rfl)) ?_
      refine AWP.skip ?_
      change AWP _ _ _ _ _ _
      refine AWP.region (l := [0, 1, 2]) rfl ?_
      refine AOps.cons rfl rfl (AOp.move (.int .i64 i) rfl s20 ?_)
      refine AOps.cons rfl rfl (AOp.bin (.int .i64 (i + 1)) rfl rfl rfl (iadd (by omega)) ?_)
      refine AOps.cons rfl rfl (AOp.assign (.int .i64 (i + 1)) rfl rfl ?_)
      refine AOps.nil ?_
      exact ⟨_, by omega, i + 1, rfl, rfl, s21, s22, h29, h30, m31, by omega, by omega⟩
    ·
      refine AWP.condF rfl (decide_eq_false b26) ?_
      refine AWP.exit ?_
      change AWP _ _ _ _ _ _
      refine AWP.seq ?_
      refine AWP.seq ?_
      refine AWP.region (l := [0]) rfl ?_
      refine AOps.cons rfl rfl (AOp.assign (.int .i64 0) rfl rfl ?_)
      refine AOps.nil ?_
      change AWP _ _ _ _ _ _
      refine AWP.block ?_
      refine AWP.loop (fun q32 fq Hq => ∃ (j : Int), q32 = (((t.fan.length : Int) : Int) - j).toNat ∧ fq 6 = .int .i64 j ∧ fq 2 = .ptr i1 0 0 ∧ fq 3 = .ptr i8 0 0 ∧ Hq i1 = some (.row 0 ([.sl t.ed.length (t.ed.flatMap eE), .sl t.fan.length (t.fan.map eF), .sl t.rnd.length (t.rnd.map eBo)])) ∧ Hq i8 = some (.row 0 ([.sl t.ed.length (t.ed.flatMap eE), .sl t.fan.length (t.fan.map eF), .sl t.rnd.length (t.rnd.map eBo)])) ∧ Mono H0 Hq ∧ (0 ≤ j) ∧ (j ≤ (t.fan.length : Int))) (k := (((t.fan.length : Int) : Int) - 0).toNat) ?_ ?_
      ·
        exact ⟨0, rfl, rfl, s21, s22, h23, h24, m25, by omega, by omega⟩
      ·
        rintro _ f34 H33 ⟨j, rfl, s35, s36, s37, h38, h39, m40, hj0, hj1⟩
        refine AWP.seq ?_
        refine AWP.seq ?_
        refine AWP.region (l := [0, 1, 2, 3, 4]) rfl ?_
        refine AOps.cons rfl rfl (AOp.move (.int .i64 j) rfl s35 ?_)
        refine AOps.cons rfl rfl (AOp.fieldAddr rfl s36 fl_29_1 ?_ (hid := ⟨_, h38⟩))
        refine AOps.cons rfl rfl (AOp.load (.sl t.fan.length (t.fan.map eF)) rfl rfl ty_22 h38 rfl ?_)
        refine AOps.cons rfl rfl (AOp.len (m := t.fan.length) rfl rfl (.inr (.inl ⟨_, rfl⟩)) u_22 ?_)
        refine AOps.cons rfl rfl (AOp.bin (.bool (decide (j < (t.fan.length : Int)))) rfl rfl rfl rfl ?_)
        refine AOps.nil ?_
        change AWP _ _ _ _ _ _
        by_cases b41 : j < (t.fan.length : Int)
        ·
          refine AWP.condT rfl (decide_eq_true b41) ?_
          refine AWP.skip ?_
          change AWP _ _ _ _ _ _
          refine AWP.seq ?_
          refine AWP.block ?_
          refine AWP.seq ?_
          refine AWP.seq ?_
          have hq : (at_ t.fan j).length ≤ 1048576 := ht4 _ (at_mem (by omega) (by omega))
          refine AWP.region_quiet mixed (by kernel_rfl) 33 [] rfl (by kernel_rfl) (Mono H33) (Mono.refl _) ?_
          refine QE.op rfl rfl (.inl ⟨rfl, fun f' H' hf hM => AOp.fieldAddr rfl ((hf 2 rfl).trans s36) fl_29_1 ⟨rfl, hM⟩ (hid := ⟨_, (hM _ _ h38)⟩)⟩) ?_
          refine QE.op rfl rfl (.inl ⟨rfl, fun f' H' hf hM => AOp.load (.sl t.fan.length (t.fan.map eF)) rfl ((hf 58 rfl).trans rfl) ty_22 (hM _ _ h38) rfl ⟨rfl, hM⟩⟩) ?_
          refine QE.op rfl rfl (.inl ⟨rfl, fun f' H' hf hM => AOp.move (.int .i64 j) rfl ((hf 6 rfl).trans s35) ⟨rfl, hM⟩⟩) ?_
          refine QE.op rfl rfl (.inl ⟨rfl, fun f' H' hf hM => AOp.indexAddrS rfl ((hf 59 rfl).trans rfl) ((hf 60 rfl).trans rfl) sl_22 (by omega) (by omega) ⟨rfl, hM⟩⟩) ?_
          refine QE.op rfl rfl (.inl ⟨rfl, fun f' H' hf hM => AOp.loadF (.sl (at_ t.fan j).length ((at_ t.fan j).map eI)) rfl ((hf 61 rfl).trans rfl) ty_35 (ld1 (by omega) (by omega)) ⟨rfl, hM⟩⟩) ?_
          refine QE.op rfl rfl (.inl ⟨rfl, fun f' H' hf hM => AOp.len (m := (at_ t.fan j).length) rfl ((hf 62 rfl).trans rfl) (.inr (.inl ⟨_, rfl⟩)) u_35 ⟨rfl, hM⟩⟩) ?_
          refine QE.op rfl rfl (.inl ⟨rfl, fun f' H' hf hM => AOp.fieldAddr rfl ((hf 3 rfl).trans s37) fl_29_1 ⟨rfl, hM⟩ (hid := ⟨_, (hM _ _ h39)⟩)⟩) ?_
          refine QE.op rfl rfl (.inl ⟨rfl, fun f' H' hf hM => AOp.load (.sl t.fan.length (t.fan.map eF)) rfl ((hf 64 rfl).trans rfl) ty_22 (hM _ _ h39) rfl ⟨rfl, hM⟩⟩) ?_
          refine QE.op rfl rfl (.inl ⟨rfl, fun f' H' hf hM => AOp.move (.int .i64 j) rfl ((hf 6 rfl).trans s35) ⟨rfl, hM⟩⟩) ?_
          refine QE.op rfl rfl (.inl ⟨rfl, fun f' H' hf hM => AOp.indexAddrS rfl ((hf 65 rfl).trans rfl) ((hf 66 rfl).trans rfl) sl_22 (by omega) (by omega) ⟨rfl, hM⟩⟩) ?_
          refine QE.op rfl rfl (.inl ⟨rfl, fun f' H' hf hM => AOp.loadF (.sl (at_ t.fan j).length ((at_ t.fan j).map eI)) rfl ((hf 67 rfl).trans rfl) ty_35 (ld1 (by omega) (by omega)) ⟨rfl, hM⟩⟩) ?_
          refine QE.op rfl rfl (.inl ⟨rfl, fun f' H' hf hM => AOp.len (m := (at_ t.fan j).length) rfl ((hf 68 rfl).trans rfl) (.inr (.inl ⟨_, rfl⟩)) u_35 ⟨rfl, hM⟩⟩) ?_
          refine QE.op rfl rfl (.inl ⟨rfl, fun f' H' hf hM => AOp.bin (.bool (!decide ((((at_ t.fan j).length) : Int) = (((at_ t.fan j).length) : Int)))) rfl ((hf 63 rfl).trans rfl) ((hf 69 rfl).trans rfl) ine ⟨rfl, hM⟩⟩) ?_
          refine QE.op rfl rfl (.inl ⟨rfl, fun f' H' hf hM => AOp.move (.bool (!decide ((((at_ t.fan j).length) : Int) = (((at_ t.fan j).length) : Int)))) rfl ((hf 70 rfl).trans rfl) ⟨rfl, hM⟩⟩) ?_
          refine QE.op rfl rfl (QOp.yes rfl rfl rfl rfl (nb (decide_eq_true rfl)) fun f' H' hf hM => AOp.move (.int .i64 j) rfl ((hf 6 rfl).trans s35) ⟨rfl, hM⟩) ?_
          refine QE.op rfl rfl (QOp.yes rfl rfl rfl rfl (nb (decide_eq_true rfl)) fun f' H' hf hM => AOp.fieldAddr rfl ((hf 2 rfl).trans s36) fl_29_2 ⟨rfl, hM⟩ (hid := ⟨_, (hM _ _ h38)⟩)) ?_
          refine QE.op rfl rfl (QOp.yes rfl rfl rfl rfl (nb (decide_eq_true rfl)) fun f' H' hf hM => AOp.load (.sl t.rnd.length (t.rnd.map eBo)) rfl ((hf 73 rfl).trans rfl) ty_27 (hM _ _ h38) rfl ⟨rfl, hM⟩) ?_
          refine QE.op rfl rfl (QOp.yes rfl rfl rfl rfl (nb (decide_eq_true rfl)) fun f' H' hf hM => AOp.len (m := t.rnd.length) rfl ((hf 74 rfl).trans rfl) (.inr (.inl ⟨_, rfl⟩)) u_27 ⟨rfl, hM⟩) ?_
          refine QE.op rfl rfl (QOp.yes rfl rfl rfl rfl (nb (decide_eq_true rfl)) fun f' H' hf hM => AOp.bin (.bool (decide (j < (t.rnd.length : Int)))) rfl ((hf 72 rfl).trans rfl) ((hf 75 rfl).trans rfl) rfl ⟨rfl, hM⟩) ?_
          refine QE.op rfl rfl (QOp.yes rfl rfl rfl rfl (nb (decide_eq_true rfl)) fun f' H' hf hM => AOp.move (.bool (decide (j < (t.rnd.length : Int)))) rfl ((hf 76 rfl).trans rfl) ⟨rfl, hM⟩) ?_
          by_cases b42 : j < (t.rnd.length : Int)
          ·
            refine QE.op rfl rfl (QOp.yes rfl rfl rfl rfl (decide_eq_true b42) fun f' H' hf hM => AOp.fieldAddr rfl ((hf 2 rfl).trans s36) fl_29_2 ⟨rfl, hM⟩ (hid := ⟨_, (hM _ _ h38)⟩)) ?_
            refine QE.op rfl rfl (QOp.yes rfl rfl rfl rfl (decide_eq_true b42) fun f' H' hf hM => AOp.load (.sl t.rnd.length (t.rnd.map eBo)) rfl ((hf 78 rfl).trans rfl) ty_27 (hM _ _ h38) rfl ⟨rfl, hM⟩) ?_
            refine QE.op rfl rfl (QOp.yes rfl rfl rfl rfl (decide_eq_true b42) fun f' H' hf hM => AOp.move (.int .i64 j) rfl ((hf 6 rfl).trans s35) ⟨rfl, hM⟩) ?_
            refine QE.op rfl rfl (QOp.yes rfl rfl rfl rfl (decide_eq_true b42) fun f' H' hf hM => AOp.indexAddrS rfl ((hf 79 rfl).trans rfl) ((hf 80 rfl).trans rfl) sl_27 (by omega) (by omega) ⟨rfl, hM⟩) ?_
            refine QE.op rfl rfl (QOp.yes rfl rfl rfl rfl (decide_eq_true b42) fun f' H' hf hM => AOp.loadF (.bool (at_ t.rnd j)) rfl ((hf 81 rfl).trans rfl) ty_4 (ld1 (by omega) (by omega)) ⟨rfl, hM⟩) ?_
            refine QE.op rfl rfl (QOp.yes rfl rfl rfl rfl (decide_eq_true b42) fun f' H' hf hM => AOp.fieldAddr rfl ((hf 3 rfl).trans s37) fl_29_2 ⟨rfl, hM⟩ (hid := ⟨_, (hM _ _ h39)⟩)) ?_
            refine QE.op rfl rfl (QOp.yes rfl rfl rfl rfl (decide_eq_true b42) fun f' H' hf hM => AOp.load (.sl t.rnd.length (t.rnd.map eBo)) rfl ((hf 83 rfl).trans rfl) ty_27 (hM _ _ h39) rfl ⟨rfl, hM⟩) ?_
            refine QE.op rfl rfl (QOp.yes rfl rfl rfl rfl (decide_eq_true b42) fun f' H' hf hM => AOp.move (.int .i64 j) rfl ((hf 6 rfl).trans s35) ⟨rfl, hM⟩) ?_
            refine QE.op rfl rfl (QOp.yes rfl rfl rfl rfl (decide_eq_true b42) fun f' H' hf hM => AOp.indexAddrS rfl ((hf 84 rfl).trans rfl) ((hf 85 rfl).trans rfl) sl_27 (by omega) (by omega) ⟨rfl, hM⟩) ?_
            refine QE.op rfl rfl (QOp.yes rfl rfl rfl rfl (decide_eq_true b42) fun f' H' hf hM => AOp.loadF (.bool (at_ t.rnd j)) rfl ((hf 86 rfl).trans rfl) ty_4 (ld1 (by omega) (by omega)) ⟨rfl, hM⟩) ?_
            refine QE.op rfl rfl (QOp.yes rfl rfl rfl rfl (decide_eq_true b42) fun f' H' hf hM => AOp.bne rfl ((hf 82 rfl).trans rfl) ((hf 87 rfl).trans rfl) u_4 ⟨rfl, hM⟩) ?_
            refine QE.op rfl rfl (QOp.yes rfl rfl rfl rfl (nb (decide_eq_true rfl)) fun f' H' hf hM => AOp.pickT (.bool ((at_ t.rnd j) != (at_ t.rnd j))) rfl ((hf 77 rfl).trans rfl) (decide_eq_true b42) ((hf 88 rfl).trans rfl) ⟨rfl, hM⟩) ?_
            refine QE.op rfl rfl (.inl ⟨rfl, fun f' H' hf hM => AOp.pickF (.bool ((at_ t.rnd j) != (at_ t.rnd j))) rfl ((hf 71 rfl).trans rfl) (nb (decide_eq_true rfl)) ((hf 89 rfl).trans rfl) ⟨rfl, hM⟩⟩) ?_
            refine QE.done fun H43 m44 => ?_
            have h45 := m44 _ _ h38
            have h46 := m44 _ _ h39
            have m47 := m40.trans m44
            refine AOps.nil ?_
            change AWP _ _ _ _ _ _
            refine AWP.condF rfl (bne_self_eq_false _) ?_
            refine AWP.skip ?_
            change AWP _ _ _ _ _ _
            refine AWP.seq ?_
            refine AWP.region (l := [0]) rfl ?_
            refine AOps.cons rfl rfl (AOp.assign (.int .i64 0) rfl rfl ?_)
            refine AOps.nil ?_
            change AWP _ _ _ _ _ _
            refine AWP.block ?_
            refine AWP.loop (fun q48 fq Hq => ∃ (k : Int), q48 = ((((at_ t.fan j).length : Int) : Int) - k).toNat ∧ fq 7 = .int .i64 k ∧ fq 6 = .int .i64 j ∧ fq 2 = .ptr i1 0 0 ∧ fq 3 = .ptr i8 0 0 ∧ Hq i1 = some (.row 0 ([.sl t.ed.length (t.ed.flatMap eE), .sl t.fan.length (t.fan.map eF), .sl t.rnd.length (t.rnd.map eBo)])) ∧ Hq i8 = some (.row 0 ([.sl t.ed.length (t.ed.flatMap eE), .sl t.fan.length (t.fan.map eF), .sl t.rnd.length (t.rnd.map eBo)])) ∧ Mono H0 Hq ∧ (0 ≤ k) ∧ (k ≤ ((at_ t.fan j).length : Int))) (k := ((((at_ t.fan j).length : Int) : Int) - 0).toNat) ?_ ?_
            ·
              exact ⟨0, rfl, rfl, s35, s36, s37, h45, h46, m47, by omega, by omega⟩
            ·
              rintro _ f50 H49 ⟨k, rfl, s51, s52, s53, s54, h55, h56, m57, hk0, hk1⟩
              refine AWP.seq ?_
              refine AWP.seq ?_
              refine AWP.region (l := [0, 1, 2, 3, 4, 5, 6, 7]) rfl ?_
              refine AOps.cons rfl rfl (AOp.move (.int .i64 k) rfl s51 ?_)
              refine AOps.cons rfl rfl (AOp.fieldAddr rfl s53 fl_29_1 ?_ (hid := ⟨_, h55⟩))
              refine AOps.cons rfl rfl (AOp.load (.sl t.fan.length (t.fan.map eF)) rfl rfl ty_22 h55 rfl ?_)
              refine AOps.cons rfl rfl (AOp.move (.int .i64 j) rfl s52 ?_)
              refine AOps.cons rfl rfl (AOp.indexAddrS rfl rfl rfl sl_22 (by omega) (by omega) ?_)
              refine AOps.cons rfl rfl (AOp.loadF (.sl (at_ t.fan j).length ((at_ t.fan j).map eI)) rfl rfl ty_35 (ld1 (by omega) (by omega)) ?_)
              refine AOps.cons rfl rfl (AOp.len (m := (at_ t.fan j).length) rfl rfl (.inr (.inl ⟨_, rfl⟩)) u_35 ?_)
              refine AOps.cons rfl rfl (AOp.bin (.bool (decide (k < (((at_ t.fan j).length) : Int)))) rfl rfl rfl rfl ?_)
              refine AOps.nil ?_
              change AWP _ _ _ _ _ _
              by_cases b58 : k < (((at_ t.fan j).length) : Int)
              ·
                refine AWP.condT rfl (decide_eq_true b58) ?_
                refine AWP.skip ?_
                change AWP _ _ _ _ _ _
                refine AWP.seq ?_
                refine AWP.block ?_
                refine AWP.seq ?_
                refine AWP.region_quiet mixed (by kernel_rfl) 17 [] rfl (by kernel_rfl) (Mono H49) (Mono.refl _) ?_
                refine QE.op rfl rfl (.inl ⟨rfl, fun f' H' hf hM => AOp.fieldAddr rfl ((hf 2 rfl).trans s53) fl_29_1 ⟨rfl, hM⟩ (hid := ⟨_, (hM _ _ h55)⟩)⟩) ?_
                refine QE.op rfl rfl (.inl ⟨rfl, fun f' H' hf hM => AOp.load (.sl t.fan.length (t.fan.map eF)) rfl ((hf 101 rfl).trans rfl) ty_22 (hM _ _ h55) rfl ⟨rfl, hM⟩⟩) ?_
                refine QE.op rfl rfl (.inl ⟨rfl, fun f' H' hf hM => AOp.move (.int .i64 j) rfl ((hf 6 rfl).trans s52) ⟨rfl, hM⟩⟩) ?_
                refine QE.op rfl rfl (.inl ⟨rfl, fun f' H' hf hM => AOp.indexAddrS rfl ((hf 102 rfl).trans rfl) ((hf 103 rfl).trans rfl) sl_22 (by omega) (by omega) ⟨rfl, hM⟩⟩) ?_
                refine QE.op rfl rfl (.inl ⟨rfl, fun f' H' hf hM => AOp.loadF (.sl (at_ t.fan j).length ((at_ t.fan j).map eI)) rfl ((hf 104 rfl).trans rfl) ty_35 (ld1 (by omega) (by omega)) ⟨rfl, hM⟩⟩) ?_
                refine QE.op rfl rfl (.inl ⟨rfl, fun f' H' hf hM => AOp.move (.int .i64 k) rfl ((hf 7 rfl).trans s51) ⟨rfl, hM⟩⟩) ?_
                refine QE.op rfl rfl (.inl ⟨rfl, fun f' H' hf hM => AOp.indexAddrS rfl ((hf 105 rfl).trans rfl) ((hf 106 rfl).trans rfl) sl_35 (by omega) (by omega) ⟨rfl, hM⟩⟩) ?_
                refine QE.op rfl rfl (.inl ⟨rfl, fun f' H' hf hM => AOp.loadF (.int .i64 (at_ (at_ t.fan j) k)) rfl ((hf 107 rfl).trans rfl) ty_3 (ld1 (by omega) (by omega)) ⟨rfl, hM⟩⟩) ?_
                refine QE.op rfl rfl (.inl ⟨rfl, fun f' H' hf hM => AOp.fieldAddr rfl ((hf 3 rfl).trans s54) fl_29_1 ⟨rfl, hM⟩ (hid := ⟨_, (hM _ _ h56)⟩)⟩) ?_
                refine QE.op rfl rfl (.inl ⟨rfl, fun f' H' hf hM => AOp.load (.sl t.fan.length (t.fan.map eF)) rfl ((hf 109 rfl).trans rfl) ty_22 (hM _ _ h56) rfl ⟨rfl, hM⟩⟩) ?_
                refine QE.op rfl rfl (.inl ⟨rfl, fun f' H' hf hM => AOp.move (.int .i64 j) rfl ((hf 6 rfl).trans s52) ⟨rfl, hM⟩⟩) ?_
                refine QE.op rfl rfl (.inl ⟨rfl, fun f' H' hf hM => AOp.indexAddrS rfl ((hf 110 rfl).trans rfl) ((hf 111 rfl).trans rfl) sl_22 (by omega) (by omega) ⟨rfl, hM⟩⟩) ?_
                refine QE.op rfl rfl (.inl ⟨rfl, fun f' H' hf hM => AOp.loadF (.sl (at_ t.fan j).length ((at_ t.fan j).map eI)) rfl ((hf 112 rfl).trans rfl) ty_35 (ld1 (by omega) (by omega)) ⟨rfl, hM⟩⟩) ?_
                refine QE.op rfl rfl (.inl ⟨rfl, fun f' H' hf hM => AOp.move (.int .i64 k) rfl ((hf 7 rfl).trans s51) ⟨rfl, hM⟩⟩) ?_
                refine QE.op rfl rfl (.inl ⟨rfl, fun f' H' hf hM => AOp.indexAddrS rfl ((hf 113 rfl).trans rfl) ((hf 114 rfl).trans rfl) sl_35 (by omega) (by omega) ⟨rfl, hM⟩⟩) ?_
                refine QE.op rfl rfl (.inl ⟨rfl, fun f' H' hf hM => AOp.loadF (.int .i64 (at_ (at_ t.fan j) k)) rfl ((hf 115 rfl).trans rfl) ty_3 (ld1 (by omega) (by omega)) ⟨rfl, hM⟩⟩) ?_
                refine QE.op rfl rfl (.inl ⟨rfl, fun f' H' hf hM => AOp.bin (.bool (!decide (at_ (at_ t.fan j) k = at_ (at_ t.fan j) k))) rfl ((hf 108 rfl).trans rfl) ((hf 116 rfl).trans rfl) ine ⟨rfl, hM⟩⟩) ?_
                refine QE.done fun H59 m60 => ?_
                have h61 := m60 _ _ h55
                have h62 := m60 _ _ h56
                have m63 := m57.trans m60
                refine AOps.nil ?_
                change AWP _ _ _ _ _ _
                refine AWP.condF rfl (nb (decide_eq_true rfl)) ?_
                refine AWP.skip ?_
                change AWP _ _ _ _ _ _
                refine AWP.region (l := [0, 1, 2]) rfl ?_
                refine AOps.cons rfl rfl (AOp.move (.int .i64 k) rfl s51 ?_)
                refine AOps.cons rfl rfl (AOp.bin (.int .i64 (k + 1)) rfl rfl rfl (iadd (by omega)) ?_)
                refine AOps.cons rfl rfl (AOp.assign (.int .i64 (k + 1)) rfl rfl ?_)
                refine AOps.nil ?_
                exact ⟨_, by omega, k + 1, rfl, rfl, s52, s53, s54, h61, h62, m63, by omega, by omega⟩
              ·
                refine AWP.condF rfl (decide_eq_false b58) ?_
                refine AWP.exit ?_
                change AWP _ _ _ _ _ _
                refine AWP.region (l := [0, 1, 2]) rfl ?_
                refine AOps.cons rfl rfl (AOp.move (.int .i64 j) rfl s52 ?_)
                refine AOps.cons rfl rfl (AOp.bin (.int .i64 (j + 1)) rfl rfl rfl (iadd (by omega)) ?_)
                refine AOps.cons rfl rfl (AOp.assign (.int .i64 (j + 1)) rfl rfl ?_)
                refine AOps.nil ?_
                exact ⟨_, by omega, j + 1, rfl, rfl, s53, s54, h55, h56, m57, by omega, by omega⟩
          ·
            refine QE.op rfl rfl (QOp.no rfl rfl rfl rfl (ble_of (decide_eq_false b42) (by decide)) rfl) ?_
            refine QE.op rfl rfl (QOp.no rfl rfl rfl rfl (ble_of (decide_eq_false b42) (by decide)) rfl) ?_
            refine QE.op rfl rfl (QOp.no rfl rfl rfl rfl (ble_of (decide_eq_false b42) (by decide)) rfl) ?_
            refine QE.op rfl rfl (QOp.no rfl rfl rfl rfl (ble_of (decide_eq_false b42) (by decide)) rfl) ?_
            refine QE.op rfl rfl (QOp.no rfl rfl rfl rfl (ble_of (decide_eq_false b42) (by decide)) rfl) ?_
            refine QE.op rfl rfl (QOp.no rfl rfl rfl rfl (ble_of (decide_eq_false b42) (by decide)) rfl) ?_
            refine QE.op rfl rfl (QOp.no rfl rfl rfl rfl (ble_of (decide_eq_false b42) (by decide)) rfl) ?_
            refine QE.op rfl rfl (QOp.no rfl rfl rfl rfl (ble_of (decide_eq_false b42) (by decide)) rfl) ?_
            refine QE.op rfl rfl (QOp.no rfl rfl rfl rfl (ble_of (decide_eq_false b42) (by decide)) rfl) ?_
            refine QE.op rfl rfl (QOp.no rfl rfl rfl rfl (ble_of (decide_eq_false b42) (by decide)) rfl) ?_
            refine QE.op rfl rfl (QOp.no rfl rfl rfl rfl (ble_of (decide_eq_false b42) (by decide)) rfl) ?_
            refine QE.op rfl rfl (QOp.yes rfl rfl rfl rfl (nb (decide_eq_true rfl)) fun f' H' hf hM => AOp.pickF (.bool false) rfl ((hf 77 rfl).trans rfl) (decide_eq_false b42) rfl ⟨rfl, hM⟩) ?_
            refine QE.op rfl rfl (.inl ⟨rfl, fun f' H' hf hM => AOp.pickF (.bool false) rfl ((hf 71 rfl).trans rfl) (nb (decide_eq_true rfl)) ((hf 89 rfl).trans rfl) ⟨rfl, hM⟩⟩) ?_
            refine QE.done fun H64 m65 => ?_
            have h66 := m65 _ _ h38
            have h67 := m65 _ _ h39
            have m68 := m40.trans m65
            refine AOps.nil ?_
            change AWP _ _ _ _ _ _
            refine AWP.condF rfl rfl ?_
            refine AWP.skip ?_
            change AWP _ _ _ _ _ _
            refine AWP.seq ?_
            refine AWP.region (l := [0]) rfl ?_
            refine AOps.cons rfl rfl (AOp.assign (.int .i64 0) rfl rfl ?_)
            refine AOps.nil ?_
            change AWP _ _ _ _ _ _
            refine AWP.block ?_
            refine AWP.loop (fun q69 fq Hq => ∃ (k : Int), q69 = ((((at_ t.fan j).length : Int) : Int) - k).toNat ∧ fq 7 = .int .i64 k ∧ fq 6 = .int .i64 j ∧ fq 2 = .ptr i1 0 0 ∧ fq 3 = .ptr i8 0 0 ∧ Hq i1 = some (.row 0 ([.sl t.ed.length (t.ed.flatMap eE), .sl t.fan.length (t.fan.map eF), .sl t.rnd.length (t.rnd.map eBo)])) ∧ Hq i8 = some (.row 0 ([.sl t.ed.length (t.ed.flatMap eE), .sl t.fan.length (t.fan.map eF), .sl t.rnd.length (t.rnd.map eBo)])) ∧ Mono H0 Hq ∧ (0 ≤ k) ∧ (k ≤ ((at_ t.fan j).length : Int))) (k := ((((at_ t.fan j).length : Int) : Int) - 0).toNat) ?_ ?_
            ·
              exact ⟨0, rfl, rfl, s35, s36, s37, h66, h67, m68, by omega, by omega⟩
            ·
              rintro _ f71 H70 ⟨k, rfl, s72, s73, s74, s75, h76, h77, m78, hk0, hk1⟩
              refine AWP.seq ?_
              refine AWP.seq ?_
              refine AWP.region (l := [0, 1, 2, 3, 4, 5, 6, 7]) rfl ?_
              refine AOps.cons rfl rfl (AOp.move (.int .i64 k) rfl s72 ?_)
              refine AOps.cons rfl rfl (AOp.fieldAddr rfl s74 fl_29_1 ?_ (hid := ⟨_, h76⟩))
              refine AOps.cons rfl rfl (AOp.load (.sl t.fan.length (t.fan.map eF)) rfl rfl ty_22 h76 rfl ?_)
              refine AOps.cons rfl rfl (AOp.move (.int .i64 j) rfl s73 ?_)
              refine AOps.cons rfl rfl (AOp.indexAddrS rfl rfl rfl sl_22 (by omega) (by omega) ?_)
              refine AOps.cons rfl rfl (AOp.loadF (.sl (at_ t.fan j).length ((at_ t.fan j).map eI)) rfl rfl ty_35 (ld1 (by omega) (by omega)) ?_)
              refine AOps.cons rfl rfl (AOp.len (m := (at_ t.fan j).length) rfl rfl (.inr (.inl ⟨_, rfl⟩)) u_35 ?_)
              refine AOps.cons rfl rfl (AOp.bin (.bool (decide (k < (((at_ t.fan j).length) : Int)))) rfl rfl rfl rfl ?_)
              refine AOps.nil ?_
              change AWP _ _ _ _ _ _
              by_cases b79 : k < (((at_ t.fan j).length) : Int)
              ·
                refine AWP.condT rfl (decide_eq_true b79) ?_
                refine AWP.skip ?_
                change AWP _ _ _ _ _ _
                refine AWP.seq ?_
                refine AWP.block ?_
                refine AWP.seq ?_
                refine AWP.region_quiet mixed (by kernel_rfl) 17 [] rfl (by kernel_rfl) (Mono H70) (Mono.refl _) ?_
                refine QE.op rfl rfl (.inl ⟨rfl, fun f' H' hf hM => AOp.fieldAddr rfl ((hf 2 rfl).trans s74) fl_29_1 ⟨rfl, hM⟩ (hid := ⟨_, (hM _ _ h76)⟩)⟩) ?_
                refine QE.op rfl rfl (.inl ⟨rfl, fun f' H' hf hM => AOp.load (.sl t.fan.length (t.fan.map eF)) rfl ((hf 101 rfl).trans rfl) ty_22 (hM _ _ h76) rfl ⟨rfl, hM⟩⟩) ?_
                refine QE.op rfl rfl (.inl ⟨rfl, fun f' H' hf hM => AOp.move (.int .i64 j) rfl ((hf 6 rfl).trans s73) ⟨rfl, hM⟩⟩) ?_
                refine QE.op rfl rfl (.inl ⟨rfl, fun f' H' hf hM => AOp.indexAddrS rfl ((hf 102 rfl).trans rfl) ((hf 103 rfl).trans rfl) sl_22 (by omega) (by omega) ⟨rfl, hM⟩⟩) ?_
                refine QE.op rfl rfl (.inl ⟨rfl, fun f' H' hf hM => AOp.loadF (.sl (at_ t.fan j).length ((at_ t.fan j).map eI)) rfl ((hf 104 rfl).trans rfl) ty_35 (ld1 (by omega) (by omega)) ⟨rfl, hM⟩⟩) ?_
                refine QE.op rfl rfl (.inl ⟨rfl, fun f' H' hf hM => AOp.move (.int .i64 k) rfl ((hf 7 rfl).trans s72) ⟨rfl, hM⟩⟩) ?_
                refine QE.op rfl rfl (.inl ⟨rfl, fun f' H' hf hM => AOp.indexAddrS rfl ((hf 105 rfl).trans rfl) ((hf 106 rfl).trans rfl) sl_35 (by omega) (by omega) ⟨rfl, hM⟩⟩) ?_
                refine QE.op rfl rfl (.inl ⟨rfl, fun f' H' hf hM => AOp.loadF (.int .i64 (at_ (at_ t.fan j) k)) rfl ((hf 107 rfl).trans rfl) ty_3 (ld1 (by omega) (by omega)) ⟨rfl, hM⟩⟩) ?_
                refine QE.op rfl rfl (.inl ⟨rfl, fun f' H' hf hM => AOp.fieldAddr rfl ((hf 3 rfl).trans s75) fl_29_1 ⟨rfl, hM⟩ (hid := ⟨_, (hM _ _ h77)⟩)⟩) ?_
                refine QE.op rfl rfl (.inl ⟨rfl, fun f' H' hf hM => AOp.load (.sl t.fan.length (t.fan.map eF)) rfl ((hf 109 rfl).trans rfl) ty_22 (hM _ _ h77) rfl ⟨rfl, hM⟩⟩) ?_
                refine QE.op rfl rfl (.inl ⟨rfl, fun f' H' hf hM => AOp.move (.int .i64 j) rfl ((hf 6 rfl).trans s73) ⟨rfl, hM⟩⟩) ?_
                refine QE.op rfl rfl (.inl ⟨rfl, fun f' H' hf hM => AOp.indexAddrS rfl ((hf 110 rfl).trans rfl) ((hf 111 rfl).trans rfl) sl_22 (by omega) (by omega) ⟨rfl, hM⟩⟩) ?_
                refine QE.op rfl rfl (.inl ⟨rfl, fun f' H' hf hM => AOp.loadF (.sl (at_ t.fan j).length ((at_ t.fan j).map eI)) rfl ((hf 112 rfl).trans rfl) ty_35 (ld1 (by omega) (by omega)) ⟨rfl, hM⟩⟩) ?_
                refine QE.op rfl rfl (.inl ⟨rfl, fun f' H' hf hM => AOp.move (.int .i64 k) rfl ((hf 7 rfl).trans s72) ⟨rfl, hM⟩⟩) ?_
                refine QE.op rfl rfl (.inl ⟨rfl, fun f' H' hf hM => AOp.indexAddrS rfl ((hf 113 rfl).trans rfl) ((hf 114 rfl).trans rfl) sl_35 (by omega) (by omega) ⟨rfl, hM⟩⟩) ?_
                refine QE.op rfl rfl (.inl ⟨rfl, fun f' H' hf hM => AOp.loadF (.int .i64 (at_ (at_ t.fan j) k)) rfl ((hf 115 rfl).trans rfl) ty_3 (ld1 (by omega) (by omega)) ⟨rfl, hM⟩⟩) ?_
                refine QE.op rfl rfl (.inl ⟨rfl, fun f' H' hf hM => AOp.bin (.bool (!decide (at_ (at_ t.fan j) k = at_ (at_ t.fan j) k))) rfl ((hf 108 rfl).trans rfl) ((hf 116 rfl).trans rfl) ine ⟨rfl, hM⟩⟩) ?_
                refine QE.done fun H80 m81 => ?_
                have h82 := m81 _ _ h76
                have h83 := m81 _ _ h77
                have m84 := m78.trans m81
                refine AOps.nil ?_
                change AWP _ _ _ _ _ _
                refine AWP.condF rfl (nb (decide_eq_true rfl)) ?_
                refine AWP.skip ?_
                change AWP _ _ _ _ _ _
                refine AWP.region (l := [0, 1, 2]) rfl ?_
                refine AOps.cons rfl rfl (AOp.move (.int .i64 k) rfl s72 ?_)
                refine AOps.cons rfl rfl (AOp.bin (.int .i64 (k + 1)) rfl rfl rfl (iadd (by omega)) ?_)
                refine AOps.cons rfl rfl (AOp.assign (.int .i64 (k + 1)) rfl rfl ?_)
                refine AOps.nil ?_
                exact ⟨_, by omega, k + 1, rfl, rfl, s73, s74, s75, h82, h83, m84, by omega, by omega⟩
              ·
                refine AWP.condF rfl (decide_eq_false b79) ?_
                refine AWP.exit ?_
                change AWP _ _ _ _ _ _
                refine AWP.region (l := [0, 1, 2]) rfl ?_
                refine AOps.cons rfl rfl (AOp.move (.int .i64 j) rfl s73 ?_)
                refine AOps.cons rfl rfl (AOp.bin (.int .i64 (j + 1)) rfl rfl rfl (iadd (by omega)) ?_)
                refine AOps.cons rfl rfl (AOp.assign (.int .i64 (j + 1)) rfl rfl ?_)
                refine AOps.nil ?_
                exact ⟨_, by omega, j + 1, rfl, rfl, s74, s75, h76, h77, m78, by omega, by omega⟩
        ·
          refine AWP.condF rfl (decide_eq_false b41) ?_
          refine AWP.exit ?_
          change AWP _ _ _ _ _ _
          refine AWP.seq ?_
          refine AWP.region (l := [0]) rfl ?_
          refine AOps.cons rfl rfl (AOp.assign (.bool true) rfl rfl ?_)
          refine AOps.nil ?_
          change AWP _ _ _ _ _ _
          refine AWP.ret ?_
          refine ⟨_, _, Ghost.refl, .inr rfl, _, Res.one rfl rfl, ?_, m40⟩
          exact rfl
end Go.Proofs.T
