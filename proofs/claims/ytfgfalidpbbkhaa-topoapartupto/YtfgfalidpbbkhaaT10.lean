/- A part of the proof that a law of the edges and fans of faces answers true for every input of its bulk: own work, by an AI agent. -/
import Derived.Test.YtfgfalidpbbkhaaTTy
import Derived.Test.YtfgfalidpbbkhaaTSpec5
import Derived.Test.YtfgfalidpbbkhaaTKey
import Derived.KernelRfl
import Derived.Test.YtfgfalidpbbkhaaTApart
namespace Go.Proofs.T
open Go Go.AH
set_option maxRecDepth 4000
set_option linter.unusedSimpArgs false
set_option linter.unusedVariables false
theorem c11o {H0 : Heap} (fs : List (List Int)) (hfs : fs.length ≤ 1048576) (hfss : ∀ l ∈ fs, l.length ≤ 1048576) : ACalls Try.prog 11 [.sl fs.length (fs.map eF)] H0 fun r H' => Own H0 H' 1 r (fs).length ((fs).map eF) ∧ Mono H0 H' := by
  refine ACalls.of_body' (n := 21) rfl rfl rfl rfl ?_
  have m0 := Mono.refl H0
  refine AWP.seq ?_
  refine AWP.region (l := [0]) rfl ?_
  refine AOps.cons rfl rfl (AOp.assign (.snil) rfl rfl ?_)
  refine AOps.nil ?_
  change AWP _ _ _ _ _ _
  refine AWP.seq ?_
  refine AWP.region (l := [0, 1]) rfl ?_
  refine AOps.cons rfl rfl (AOp.buildSlice (cells := []) rfl u_22 ts_35 tz_35 rfl rfl rfl ?_)
  intro i1 H2 n3 h4 k5
  have z6 := Mono.free m0 n3
  have m7 := Mono.new m0 n3 k5
  obtain ⟨v8, e9⟩ : ∃ v : AV, v = .slm i1 0 1 0 0 := ⟨_, rfl⟩
  have o10 : Own H0 H2 1 v8 0 [] := .inr ⟨_, _, e9, h4, z6, rfl⟩
  refine AOps.cons rfl rfl (AOp.assign (v8) rfl e9.symm ?_)
  refine AOps.nil ?_
  change AWP _ _ _ _ _ _
  refine AWP.seq ?_
  refine AWP.seq ?_
  refine AWP.region (l := [0]) rfl ?_
  refine AOps.cons rfl rfl (AOp.assign (.int .i64 0) rfl rfl ?_)
  refine AOps.nil ?_
  change AWP _ _ _ _ _ _
  refine AWP.block ?_
  refine AWP.loop (fun q11 fq Hq => ∃ (i : Int) (w3 : AV), q11 = (((fs.length : Int) : Int) - i).toNat ∧ fq 4 = .int .i64 i ∧ fq 0 = .sl fs.length (fs.map eF) ∧ fq 2 = .snil ∧ fq 3 = w3 ∧ Own H0 Hq 1 w3 (fs.take i.toNat).length ((fs.take i.toNat).map eF) ∧ Mono H0 Hq ∧ (0 ≤ i) ∧ (i ≤ (fs.length : Int))) (k := (((fs.length : Int) : Int) - 0).toNat) ?_ ?_
  ·
    exact ⟨0, v8, rfl, rfl, rfl, rfl, rfl, (have hx : ([] : List (List Int)) = fs.take (0 : Int).toNat := (by first | rfl | simp); Own.re o10 (congrArg List.length hx) (congrArg (fun l : List (List Int) => l.map eF) hx)), m7, by omega, by omega⟩
  ·
    rintro _ f13 H12 ⟨i, w3, rfl, s14, s15, s16, s17, o18, m19, hi0, hi1⟩
    refine AWP.seq ?_
    refine AWP.seq ?_
    refine AWP.region (l := [0, 1, 2, 3]) rfl ?_
    refine AOps.cons rfl rfl (AOp.move (.int .i64 i) rfl s14 ?_)
    refine AOps.cons rfl rfl (AOp.move (.sl fs.length (fs.map eF)) rfl s15 ?_)
    refine AOps.cons rfl rfl (AOp.len (m := fs.length) rfl rfl (.inr (.inl ⟨_, rfl⟩)) u_22 ?_)
    refine AOps.cons rfl rfl (AOp.bin (.bool (decide (i < (fs.length : Int)))) rfl rfl rfl rfl ?_)
    refine AOps.nil ?_
    change AWP _ _ _ _ _ _
    by_cases b20 : i < (fs.length : Int)
    ·
      refine AWP.condT rfl (decide_eq_true b20) ?_
      refine AWP.skip ?_
      change AWP _ _ _ _ _ _
      refine AWP.seq ?_
      refine AWP.block ?_
      have hq : (at_ fs i).length ≤ 1048576 := hfss _ (at_mem (by omega) (by omega))
      refine AWP.region (l := [0, 1, 2, 3, 4, 5, 6, 7, 8]) rfl ?_
      refine AOps.cons rfl rfl (AOp.move (w3) rfl s17 ?_)
      refine AOps.cons rfl rfl (AOp.move (.sl fs.length (fs.map eF)) rfl s15 ?_)
      refine AOps.cons rfl rfl (AOp.move (.int .i64 i) rfl s14 ?_)
      refine AOps.cons rfl rfl (AOp.indexAddrS rfl rfl rfl sl_22 (by omega) (by omega) ?_)
      refine AOps.cons rfl rfl (AOp.loadF (.sl (at_ fs i).length ((at_ fs i).map eI)) rfl rfl ty_35 (ld1 (by omega) (by omega)) ?_)
      refine AOps.cons rfl rfl (AOp.pcall («as» := [.sl (at_ fs i).length ((at_ fs i).map eI)]) rfl rfl (rfl) tf_22 (c22 _ (by omega)) ?_)
      intro H21 m22
      have o23 := Own.mono o18 m22
      have m24 := m19.trans m22
      refine AOps.cons rfl rfl (AOp.buildSlice (cells := [.sl (at_ fs i).length ((at_ fs i).map eI)]) rfl u_22 ts_35 tz_35 rfl rfl rfl ?_)
      intro i25 H26 n27 h28 k29
      have z30 := Mono.free m24 n27
      have o31 := Own.keep o23 k29 (Own.notnew o23 n27)
      have no32 := Own.notnew o23 n27
      have m33 := Mono.new m24 n27 k29
      refine AOps.cons rfl rfl (AOp.append_own (es := 1) (m := 1) (len := ((fs.take i.toNat).length)) (old := (fs.take i.toNat).map eF) (cells := [.sl (at_ fs i).length ((at_ fs i).map eI)]) rfl u_22 ts_35 tzn_35 tb_35 (by decide) ni_22 rfl o31 m33 rfl (.slm h28 rfl) (one_of rfl) (by decide) (by first | omega | (simp; omega)) ?_)
      intro v34 H35 o36 m37 k38 j39
      have o40 := Own.snoc1 (xs := ((fs.take i.toNat) : List (List Int))) (y := at_ fs i) (e := eF) (by simp) o36
      refine AOps.cons rfl rfl (AOp.assign (v34) rfl rfl ?_)
      refine AOps.nil ?_
      change AWP _ _ _ _ _ _
      refine AWP.region (l := [0, 1, 2]) rfl ?_
      refine AOps.cons rfl rfl (AOp.move (.int .i64 i) rfl s14 ?_)
      refine AOps.cons rfl rfl (AOp.bin (.int .i64 (i + 1)) rfl rfl rfl (iadd (by omega)) ?_)
      refine AOps.cons rfl rfl (AOp.assign (.int .i64 (i + 1)) rfl rfl ?_)
      refine AOps.nil ?_
      exact ⟨_, by omega, i + 1, v34, rfl, rfl, s15, s16, rfl, (have hx : (((fs.take i.toNat) ++ [at_ fs i]) : List (List Int)) = fs.take (i + 1).toNat := (by rw [take_step hi0 (by omega)]); Own.re o40 (congrArg List.length hx) (congrArg (fun l : List (List Int) => l.map eF) hx)), m37, by omega, by omega⟩
    ·
      refine AWP.condF rfl (decide_eq_false b20) ?_
      refine AWP.exit ?_
      change AWP _ _ _ _ _ _
      refine AWP.seq ?_
      refine AWP.region (l := [0, 1]) rfl ?_
      refine AOps.cons rfl rfl (AOp.move (w3) rfl s17 ?_)
      refine AOps.cons rfl rfl (AOp.assign (w3) rfl rfl ?_)
      refine AOps.nil ?_
      change AWP _ _ _ _ _ _
      refine AWP.ret ?_
      refine ⟨_, _, Ghost.refl, .inr rfl, _, Res.one rfl rfl, ?_, m19⟩
      have hx : ((fs.take i.toNat) : List (List Int)) = fs := (by exact take_all (by omega))
      exact Own.re o18 (congrArg List.length hx) (congrArg (fun l : List (List Int) => l.map eF) hx)

theorem c5 (v : Int) (fs : List (List Int)) (hfs : fs.length ≤ 1048576) (hfss : ∀ l ∈ fs, l.length ≤ 1048576) (m : Int) (gs : List (List Int)) (hgs : gs.length ≤ 1048576) (hgss : ∀ l ∈ gs, l.length ≤ 1048576) : PC Try.prog 5 [.int .i64 v, .sl fs.length (fs.map eF), .int .i64 m, .sl gs.length (gs.map eF)] (.bool true) := by
  intro H0
  refine ACalls.of_body' (n := 186) rfl rfl rfl rfl ?_
  have m0 := Mono.refl H0
  refine AWP.seq ?_
  refine AWP.region (l := [0]) rfl ?_
  refine AOps.cons rfl rfl (AOp.assign (.bool false) rfl rfl ?_)
  refine AOps.nil ?_
  change AWP _ _ _ _ _ _
  refine AWP.seq ?_
  refine AWP.seq ?_
  refine AWP.region (l := [0, 1]) rfl ?_
  refine AOps.cons rfl rfl (AOp.pcall («as» := []) rfl rfl (rfl) tf_9 (c9) ?_)
  intro H1 m2
  have m3 := m0.trans m2
  refine AOps.cons rfl rfl (AOp.not rfl rfl ?_)
  refine AOps.nil ?_
  change AWP _ _ _ _ _ _
  refine AWP.condF rfl rfl ?_
  refine AWP.skip ?_
  change AWP _ _ _ _ _ _
  refine AWP.seq ?_
  refine AWP.seq ?_
  refine AWP.region (l := [0, 1, 2, 3, 4, 5, 6, 7, 8, 9, 10, 11, 12, 13, 14, 15]) rfl ?_
  refine AOps.cons rfl rfl (AOp.move (.int .i64 v) rfl rfl ?_)
  refine AOps.cons rfl rfl (AOp.move (.sl fs.length (fs.map eF)) rfl rfl ?_)
  refine AOps.cons rfl rfl (AOp.pcall («as» := [.int .i64 v, .sl fs.length (fs.map eF)]) rfl rfl (rfl) tf_10 (c10 _ _ (by assumption) (by assumption)) ?_)
  intro H4 m5
  have m6 := m3.trans m5
  refine AOps.cons rfl rfl (AOp.move (.bool (decide (greatS v fs))) rfl rfl ?_)
  by_cases b7 : greatS v fs
  ·
    refine AOps.no rfl rfl rfl rfl rfl rfl rfl (ble_of (decide_eq_true b7) (by decide)) ?_
    refine AOps.no rfl rfl rfl rfl rfl rfl rfl (ble_of (decide_eq_true b7) (by decide)) ?_
    refine AOps.no rfl rfl rfl rfl rfl rfl rfl (ble_of (decide_eq_true b7) (by decide)) ?_
    refine AOps.cons rfl rfl (AOp.pickT (.bool true) rfl rfl (decide_eq_true b7) rfl ?_)
    refine AOps.cons rfl rfl (AOp.move (.bool true) rfl rfl ?_)
    refine AOps.no rfl rfl rfl rfl rfl rfl rfl (ble_of rfl (by decide)) ?_
    refine AOps.no rfl rfl rfl rfl rfl rfl rfl (ble_of rfl (by decide)) ?_
    refine AOps.cons rfl rfl (AOp.pickT (.bool true) rfl rfl rfl rfl ?_)
    refine AOps.cons rfl rfl (AOp.move (.bool true) rfl rfl ?_)
    refine AOps.no rfl rfl rfl rfl rfl rfl rfl (ble_of rfl (by decide)) ?_
    refine AOps.no rfl rfl rfl rfl rfl rfl rfl (ble_of rfl (by decide)) ?_
    refine AOps.cons rfl rfl (AOp.pickT (.bool true) rfl rfl rfl rfl ?_)
    refine AOps.nil ?_
    change AWP _ _ _ _ _ _
    refine AWP.condT rfl rfl ?_
    refine AWP.seq ?_
    refine AWP.region (l := [0]) rfl ?_
    refine AOps.cons rfl rfl (AOp.assign (.bool true) rfl rfl ?_)
    refine AOps.nil ?_
    change AWP _ _ _ _ _ _
    refine AWP.ret ?_
    refine ⟨_, _, Ghost.refl, .inr rfl, _, Res.one rfl rfl, ?_, m6⟩
    exact rfl
  ·
    refine AOps.yes rfl rfl rfl rfl rfl rfl rfl (decide_eq_false b7) (AOp.move (.int .i64 m) rfl rfl ?_)
    refine AOps.yes rfl rfl rfl rfl rfl rfl rfl (decide_eq_false b7) (AOp.move (.sl gs.length (gs.map eF)) rfl rfl ?_)
    refine AOps.yes rfl rfl rfl rfl rfl rfl rfl (decide_eq_false b7) (AOp.pcall («as» := [.int .i64 m, .sl gs.length (gs.map eF)]) rfl rfl (rfl) tf_10 (c10 _ _ (by assumption) (by assumption)) ?_)
    intro H8 m9
    have m10 := m6.trans m9
    refine AOps.cons rfl rfl (AOp.pickF (.bool (decide (greatS m gs))) rfl rfl (decide_eq_false b7) rfl ?_)
    refine AOps.cons rfl rfl (AOp.move (.bool (decide (greatS m gs))) rfl rfl ?_)
    by_cases b11 : greatS m gs
    ·
      refine AOps.no rfl rfl rfl rfl rfl rfl rfl (ble_of (decide_eq_true b11) (by decide)) ?_
      refine AOps.no rfl rfl rfl rfl rfl rfl rfl (ble_of (decide_eq_true b11) (by decide)) ?_
      refine AOps.cons rfl rfl (AOp.pickT (.bool true) rfl rfl (decide_eq_true b11) rfl ?_)
      refine AOps.cons rfl rfl (AOp.move (.bool true) rfl rfl ?_)
      refine AOps.no rfl rfl rfl rfl rfl rfl rfl (ble_of rfl (by decide)) ?_
      refine AOps.no rfl rfl rfl rfl rfl rfl rfl (ble_of rfl (by decide)) ?_
      refine AOps.cons rfl rfl (AOp.pickT (.bool true) rfl rfl rfl rfl ?_)
      refine AOps.nil ?_
      change AWP _ _ _ _ _ _
      refine AWP.condT rfl rfl ?_
      refine AWP.seq ?_
      refine AWP.region (l := [0]) rfl ?_
      refine AOps.cons rfl rfl (AOp.assign (.bool true) rfl rfl ?_)
      refine AOps.nil ?_
      change AWP _ _ _ _ _ _
      refine AWP.ret ?_
      refine ⟨_, _, Ghost.refl, .inr rfl, _, Res.one rfl rfl, ?_, m10⟩
      exact rfl
    ·
      refine AOps.yes rfl rfl rfl rfl rfl rfl rfl (decide_eq_false b11) (AOp.move (.int .i64 v) rfl rfl ?_)
      refine AOps.yes rfl rfl rfl rfl rfl rfl rfl (decide_eq_false b11) (AOp.bin (.bool (decide (v < 0))) rfl rfl rfl rfl ?_)
      refine AOps.cons rfl rfl (AOp.pickF (.bool (decide (v < 0))) rfl rfl (decide_eq_false b11) rfl ?_)
      refine AOps.cons rfl rfl (AOp.move (.bool (decide (v < 0))) rfl rfl ?_)
      by_cases b12 : v < 0
      ·
        refine AOps.no rfl rfl rfl rfl rfl rfl rfl (ble_of (decide_eq_true b12) (by decide)) ?_
        refine AOps.no rfl rfl rfl rfl rfl rfl rfl (ble_of (decide_eq_true b12) (by decide)) ?_
        refine AOps.cons rfl rfl (AOp.pickT (.bool true) rfl rfl (decide_eq_true b12) rfl ?_)
        refine AOps.nil ?_
        change AWP _ _ _ _ _ _
        refine AWP.condT rfl rfl ?_
        refine AWP.seq ?_
        refine AWP.region (l := [0]) rfl ?_
        refine AOps.cons rfl rfl (AOp.assign (.bool true) rfl rfl ?_)
        refine AOps.nil ?_
        change AWP _ _ _ _ _ _
        refine AWP.ret ?_
        refine ⟨_, _, Ghost.refl, .inr rfl, _, Res.one rfl rfl, ?_, m10⟩
        exact rfl
      ·
        refine AOps.yes rfl rfl rfl rfl rfl rfl rfl (decide_eq_false b12) (AOp.move (.int .i64 m) rfl rfl ?_)
        refine AOps.yes rfl rfl rfl rfl rfl rfl rfl (decide_eq_false b12) (AOp.bin (.bool (decide (m < 0))) rfl rfl rfl rfl ?_)
        refine AOps.cons rfl rfl (AOp.pickF (.bool (decide (m < 0))) rfl rfl (decide_eq_false b12) rfl ?_)
        refine AOps.nil ?_
        change AWP _ _ _ _ _ _
        by_cases b13 : m < 0
        ·
          refine AWP.condT rfl (decide_eq_true b13) ?_
          refine AWP.seq ?_
          refine AWP.region (l := [0]) rfl ?_
          refine AOps.cons rfl rfl (AOp.assign (.bool true) rfl rfl ?_)
          refine AOps.nil ?_
          change AWP _ _ _ _ _ _
          refine AWP.ret ?_
          refine ⟨_, _, Ghost.refl, .inr rfl, _, Res.one rfl rfl, ?_, m10⟩
          exact rfl
        ·
          refine AWP.condF rfl (decide_eq_false b13) ?_
          refine AWP.skip ?_
          change AWP _ _ _ _ _ _
          refine AWP.seq ?_
          have hgn := great_no b7
          have hgn2 := great_no b11
          have hs1 := build_small b7
          have hs2 := build_small b11
          have hsl : (sides fs).length ≤ 4000000000 := by omega
          have hsl2 : (sides gs).length ≤ 4000000000 := by omega
          have ht1 := hs1.ed
          have hu1 := hs2.ed
          have ht2 := hs1.fan
          have hu2 := hs2.fan
          have ht3 := hs1.rnd
          have hu3 := hs2.rnd
          skip
          refine AWP.region (l := [0, 1, 2, 3, 4, 5, 6, 7, 8]) rfl ?_
          refine AOps.cons rfl rfl (AOp.move (.int .i64 v) rfl rfl ?_)
          refine AOps.cons rfl rfl (AOp.move (.sl fs.length (fs.map eF)) rfl rfl ?_)
          refine AOps.cons rfl rfl (AOp.pcall («as» := [.int .i64 v, .sl fs.length (fs.map eF)]) rfl rfl (rfl) tf_12 (c12 _ (by assumption) (by assumption) _ (by omega) (by assumption)) ?_)
          intro H14 m15
          have m16 := m10.trans m15
          refine AOps.cons rfl rfl (AOp.move (.tup [.agg [.sl ((buildT v fs).ed).length (((buildT v fs).ed).flatMap eE), .sl ((buildT v fs).fan).length (((buildT v fs).fan).map eF), .sl ((buildT v fs).rnd).length (((buildT v fs).rnd).map eBo)], .int .i64 (buildE v fs)]) rfl rfl ?_)
          refine AOps.cons rfl rfl (AOp.extract (.agg [.sl ((buildT v fs).ed).length (((buildT v fs).ed).flatMap eE), .sl ((buildT v fs).fan).length (((buildT v fs).fan).map eF), .sl ((buildT v fs).rnd).length (((buildT v fs).rnd).map eBo)]) rfl rfl rfl ?_)
          refine AOps.cons rfl rfl (AOp.extract (.int .i64 (buildE v fs)) rfl rfl rfl ?_)
          refine AOps.cons rfl rfl (AOp.alloc rfl tz_29 ?_)
          intro i17 H18 n19 h20 k21
          have z22 := Mono.free m16 n19
          have m23 := Mono.new m16 n19 k21
          refine AOps.cons rfl rfl (AOp.store' (cells' := [.sl ((buildT v fs).ed).length (((buildT v fs).ed).flatMap eE), .sl ((buildT v fs).fan).length (((buildT v fs).fan).map eF), .sl ((buildT v fs).rnd).length (((buildT v fs).rnd).map eBo)]) (.agg [.sl ((buildT v fs).ed).length (((buildT v fs).ed).flatMap eE), .sl ((buildT v fs).fan).length (((buildT v fs).fan).map eF), .sl ((buildT v fs).rnd).length (((buildT v fs).rnd).map eBo)]) rfl rfl ts_29 h20 rfl rfl rfl rfl ?_)
          intro H24 h25 k26
          have m28 := Mono.set m23 z22 k26
          refine AOps.cons rfl rfl (AOp.assign (.int .i64 (buildE v fs)) rfl rfl ?_)
          refine AOps.nil ?_
          change AWP _ _ _ _ _ _
          refine AWP.seq ?_
          refine AWP.region (l := [0, 1, 2, 3, 4, 5, 6, 7, 8]) rfl ?_
          refine AOps.cons rfl rfl (AOp.move (.int .i64 m) rfl rfl ?_)
          refine AOps.cons rfl rfl (AOp.move (.sl gs.length (gs.map eF)) rfl rfl ?_)
          refine AOps.cons rfl rfl (AOp.pcall («as» := [.int .i64 m, .sl gs.length (gs.map eF)]) rfl rfl (rfl) tf_12 (c12 _ (by assumption) (by assumption) _ (by omega) (by assumption)) ?_)
          intro H29 m30
          have h31 := m30 _ _ h25
          have m32 := m28.trans m30
          refine AOps.cons rfl rfl (AOp.move (.tup [.agg [.sl ((buildT m gs).ed).length (((buildT m gs).ed).flatMap eE), .sl ((buildT m gs).fan).length (((buildT m gs).fan).map eF), .sl ((buildT m gs).rnd).length (((buildT m gs).rnd).map eBo)], .int .i64 (buildE m gs)]) rfl rfl ?_)
          refine AOps.cons rfl rfl (AOp.extract (.agg [.sl ((buildT m gs).ed).length (((buildT m gs).ed).flatMap eE), .sl ((buildT m gs).fan).length (((buildT m gs).fan).map eF), .sl ((buildT m gs).rnd).length (((buildT m gs).rnd).map eBo)]) rfl rfl rfl ?_)
          refine AOps.cons rfl rfl (AOp.extract (.int .i64 (buildE m gs)) rfl rfl rfl ?_)
          refine AOps.cons rfl rfl (AOp.alloc rfl tz_29 ?_)
          intro i33 H34 n35 h36 k37
          have e38 := ne_new h31 n35
          have z39 := Mono.free m32 n35
          have h40 := keep k37 (ne_new h31 n35) h31
          have m41 := Mono.new m32 n35 k37
          refine AOps.cons rfl rfl (AOp.store' (cells' := [.sl ((buildT m gs).ed).length (((buildT m gs).ed).flatMap eE), .sl ((buildT m gs).fan).length (((buildT m gs).fan).map eF), .sl ((buildT m gs).rnd).length (((buildT m gs).rnd).map eBo)]) (.agg [.sl ((buildT m gs).ed).length (((buildT m gs).ed).flatMap eE), .sl ((buildT m gs).fan).length (((buildT m gs).fan).map eF), .sl ((buildT m gs).rnd).length (((buildT m gs).rnd).map eBo)]) rfl rfl ts_29 h36 rfl rfl rfl rfl ?_)
          intro H42 h43 k44
          have h45 := keep k44 e38 h40
          have m47 := Mono.set m41 z39 k44
          refine AOps.cons rfl rfl (AOp.assign (.int .i64 (buildE m gs)) rfl rfl ?_)
          refine AOps.nil ?_
          change AWP _ _ _ _ _ _
          refine AWP.seq ?_
          refine AWP.seq ?_
          refine AWP.region (l := [0, 1, 2, 3, 4, 5]) rfl ?_
          refine AOps.cons rfl rfl (AOp.move (.int .i64 (buildE v fs)) rfl rfl ?_)
          refine AOps.cons rfl rfl (AOp.bin (.bool (!decide (buildE v fs = 0))) rfl rfl rfl ine ?_)
          refine AOps.cons rfl rfl (AOp.move (.bool (!decide (buildE v fs = 0))) rfl rfl ?_)
          by_cases b48 : buildE v fs = 0
          ·
            refine AOps.yes rfl rfl rfl rfl rfl rfl rfl (nb (decide_eq_true b48)) (AOp.move (.int .i64 (buildE m gs)) rfl rfl ?_)
            refine AOps.yes rfl rfl rfl rfl rfl rfl rfl (nb (decide_eq_true b48)) (AOp.bin (.bool (!decide (buildE m gs = 0))) rfl rfl rfl ine ?_)
            refine AOps.cons rfl rfl (AOp.pickF (.bool (!decide (buildE m gs = 0))) rfl rfl (nb (decide_eq_true b48)) rfl ?_)
            refine AOps.nil ?_
            change AWP _ _ _ _ _ _
            by_cases b49 : buildE m gs = 0
            ·
              refine AWP.condF rfl (nb (decide_eq_true b49)) ?_
              refine AWP.skip ?_
              change AWP _ _ _ _ _ _
              refine AWP.seq ?_
              have hoa : okS v fs := buildE_ok (by omega)
              have hob : okS m gs := buildE_ok (by omega)
              have AL := apart_law hoa hob
              have hqa := AL.fl
              have hqb := AL.fl1
              have hqc := AL.rl
              have hqd := AL.rl2
              have hqe := AL.fl2
              have hqf := AL.len
              refine AWP.region (l := [0, 1, 2]) rfl ?_
              refine AOps.cons rfl rfl (AOp.move (.sl fs.length (fs.map eF)) rfl rfl ?_)
              refine AOps.cons rfl rfl (AOp.xcall («as» := [.sl fs.length (fs.map eF)]) rfl rfl (rfl) tf_11 (c11o _ (by omega) (by assumption)) ?_)
              rintro v50 H51 ⟨o52, m53⟩
              have no54 : NotId v50 i17 := Own.free o52 h45
              have no55 : NotId v50 i33 := Own.free o52 h43
              have o56 := Own.base o52 m47
              have h57 := m53 _ _ h45
              have h58 := m53 _ _ h43
              have m59 := m47.trans m53
              refine AOps.cons rfl rfl (AOp.assign (v50) rfl rfl ?_)
              refine AOps.nil ?_
              change AWP _ _ _ _ _ _
              refine AWP.seq ?_
              refine AWP.seq ?_
              refine AWP.region (l := [0]) rfl ?_
              refine AOps.cons rfl rfl (AOp.assign (.int .i64 0) rfl rfl ?_)
              refine AOps.nil ?_
              change AWP _ _ _ _ _ _
              refine AWP.block ?_
              refine AWP.loop (fun q60 fq Hq => ∃ (k : Int) (w13 : AV), q60 = (((gs.length : Int) : Int) - k).toNat ∧ fq 14 = .int .i64 k ∧ fq 0 = .int .i64 v ∧ fq 2 = .int .i64 m ∧ fq 3 = .sl gs.length (gs.map eF) ∧ fq 8 = .bool false ∧ fq 9 = .ptr i17 0 0 ∧ fq 11 = .ptr i33 0 0 ∧ fq 13 = w13 ∧ Own H0 Hq 1 w13 (joinS v fs (gs.take k.toNat)).length ((joinS v fs (gs.take k.toNat)).map eF) ∧ NotId w13 i17 ∧ NotId w13 i33 ∧ Hq i17 = some (.row 0 ([.sl ((buildT v fs).ed).length (((buildT v fs).ed).flatMap eE), .sl ((buildT v fs).fan).length (((buildT v fs).fan).map eF), .sl ((buildT v fs).rnd).length (((buildT v fs).rnd).map eBo)])) ∧ Hq i33 = some (.row 0 ([.sl ((buildT m gs).ed).length (((buildT m gs).ed).flatMap eE), .sl ((buildT m gs).fan).length (((buildT m gs).fan).map eF), .sl ((buildT m gs).rnd).length (((buildT m gs).rnd).map eBo)])) ∧ Mono H0 Hq ∧ (0 ≤ k) ∧ (k ≤ (gs.length : Int))) (k := (((gs.length : Int) : Int) - 0).toNat) ?_ ?_
              ·
                exact ⟨0, v50, rfl, rfl, rfl, rfl, rfl, rfl, rfl, rfl, rfl, (have hx : ((fs) : List (List Int)) = joinS v fs (gs.take (0 : Int).toNat) := (by simp [joinS]); Own.re o56 (congrArg List.length hx) (congrArg (fun l : List (List Int) => l.map eF) hx)), no54, no55, h57, h58, m59, by omega, by omega⟩
              ·
                rintro _ f62 H61 ⟨k, w13, rfl, s63, s64, s65, s66, s67, s68, s69, s70, o71, no72, no73, h74, h75, m76, hk0, hk1⟩
                refine AWP.seq ?_
                refine AWP.seq ?_
                refine AWP.region (l := [0, 1, 2, 3]) rfl ?_
                refine AOps.cons rfl rfl (AOp.move (.int .i64 k) rfl s63 ?_)
                refine AOps.cons rfl rfl (AOp.move (.sl gs.length (gs.map eF)) rfl s66 ?_)
                refine AOps.cons rfl rfl (AOp.len (m := gs.length) rfl rfl (.inr (.inl ⟨_, rfl⟩)) u_22 ?_)
                refine AOps.cons rfl rfl (AOp.bin (.bool (decide (k < (gs.length : Int)))) rfl rfl rfl rfl ?_)
                refine AOps.nil ?_
                change AWP _ _ _ _ _ _
                by_cases b77 : k < (gs.length : Int)
                ·
                  refine AWP.condT rfl (decide_eq_true b77) ?_
                  refine AWP.skip ?_
                  change AWP _ _ _ _ _ _
                  refine AWP.seq ?_
                  refine AWP.block ?_
                  refine AWP.seq ?_
                  have hq : (at_ gs k).length ≤ 1048576 := hgss _ (at_mem (by omega) (by omega))
                  refine AWP.region (l := [0, 1]) rfl ?_
                  refine AOps.cons rfl rfl (AOp.buildSlice (cells := []) rfl u_35 ts_3 tz_3 rfl rfl rfl ?_)
                  intro i78 H79 n80 h81 k82
                  have e83 := ne_new h74 n80
                  have e84 := ne_new h75 n80
                  have z85 := Mono.free m76 n80
                  have h86 := keep k82 (ne_new h74 n80) h74
                  have h87 := keep k82 (ne_new h75 n80) h75
                  have o88 := Own.keep o71 k82 (Own.notnew o71 n80)
                  have no89 := Own.notnew o71 n80
                  have m90 := Mono.new m76 n80 k82
                  obtain ⟨v91, e92⟩ : ∃ v : AV, v = .slm i78 0 1 0 0 := ⟨_, rfl⟩
                  have o93 : Own H0 H79 1 v91 0 [] := .inr ⟨_, _, e92, h81, z85, rfl⟩
                  have no94 : NotId v91 i17 := by rw [e92]; exact NotId.slm e83
                  have no95 : NotId v91 i33 := by rw [e92]; exact NotId.slm e84
                  have sp96 : Sep v91 w13 := by rw [e92]; exact Sep.ofNotId no89
                  refine AOps.cons rfl rfl (AOp.assign (v91) rfl e92.symm ?_)
                  refine AOps.nil ?_
                  change AWP _ _ _ _ _ _
                  refine AWP.seq ?_
                  refine AWP.seq ?_
                  refine AWP.region (l := [0]) rfl ?_
                  refine AOps.cons rfl rfl (AOp.assign (.int .i64 0) rfl rfl ?_)
                  refine AOps.nil ?_
                  change AWP _ _ _ _ _ _
                  refine AWP.block ?_
                  refine AWP.loop (fun q97 fq Hq => ∃ (i : Int) (w15 : AV), q97 = ((((at_ gs k).length : Int) : Int) - i).toNat ∧ fq 16 = .int .i64 i ∧ fq 14 = .int .i64 k ∧ fq 0 = .int .i64 v ∧ fq 2 = .int .i64 m ∧ fq 3 = .sl gs.length (gs.map eF) ∧ fq 8 = .bool false ∧ fq 9 = .ptr i17 0 0 ∧ fq 11 = .ptr i33 0 0 ∧ fq 13 = w13 ∧ fq 15 = w15 ∧ Own H0 Hq 1 w15 (shF v ((at_ gs k).take i.toNat)).length ((shF v ((at_ gs k).take i.toNat)).map eI) ∧ Own H0 Hq 1 w13 ((joinS v fs (gs.take k.toNat)).length) ((joinS v fs (gs.take k.toNat)).map eF) ∧ NotId w15 i17 ∧ NotId w15 i33 ∧ NotId w13 i17 ∧ NotId w13 i33 ∧ Sep w15 w13 ∧ Hq i17 = some (.row 0 ([.sl ((buildT v fs).ed).length (((buildT v fs).ed).flatMap eE), .sl ((buildT v fs).fan).length (((buildT v fs).fan).map eF), .sl ((buildT v fs).rnd).length (((buildT v fs).rnd).map eBo)])) ∧ Hq i33 = some (.row 0 ([.sl ((buildT m gs).ed).length (((buildT m gs).ed).flatMap eE), .sl ((buildT m gs).fan).length (((buildT m gs).fan).map eF), .sl ((buildT m gs).rnd).length (((buildT m gs).rnd).map eBo)])) ∧ Mono H0 Hq ∧ (0 ≤ i) ∧ (i ≤ ((at_ gs k).length : Int))) (k := ((((at_ gs k).length : Int) : Int) - 0).toNat) ?_ ?_
                  ·
                    exact ⟨0, v91, rfl, rfl, s63, s64, s65, s66, s67, s68, s69, s70, rfl, (have hx : ([] : List Int) = shF v ((at_ gs k).take (0 : Int).toNat) := (by rfl); Own.re o93 (congrArg List.length hx) (congrArg (fun l : List Int => l.map eI) hx)), o88, no94, no95, no72, no73, sp96, h86, h87, m90, by omega, by omega⟩
                  ·
                    rintro _ f99 H98 ⟨i, w15, rfl, s100, s101, s102, s103, s104, s105, s106, s107, s108, s109, o110, o111, no112, no113, no114, no115, sp116, h117, h118, m119, hi0, hi1⟩
                    refine AWP.seq ?_
                    refine AWP.seq ?_
                    refine AWP.region (l := [0, 1, 2, 3, 4, 5, 6]) rfl ?_
                    refine AOps.cons rfl rfl (AOp.move (.int .i64 i) rfl s100 ?_)
                    refine AOps.cons rfl rfl (AOp.move (.sl gs.length (gs.map eF)) rfl s104 ?_)
                    refine AOps.cons rfl rfl (AOp.move (.int .i64 k) rfl s101 ?_)
                    refine AOps.cons rfl rfl (AOp.indexAddrS rfl rfl rfl sl_22 (by omega) (by omega) ?_)
                    refine AOps.cons rfl rfl (AOp.loadF (.sl (at_ gs k).length ((at_ gs k).map eI)) rfl rfl ty_35 (ld1 (by omega) (by omega)) ?_)
                    refine AOps.cons rfl rfl (AOp.len (m := (at_ gs k).length) rfl rfl (.inr (.inl ⟨_, rfl⟩)) u_35 ?_)
                    refine AOps.cons rfl rfl (AOp.bin (.bool (decide (i < (((at_ gs k).length) : Int)))) rfl rfl rfl rfl ?_)
                    refine AOps.nil ?_
                    change AWP _ _ _ _ _ _
                    by_cases b120 : i < (((at_ gs k).length) : Int)
                    ·
                      refine AWP.condT rfl (decide_eq_true b120) ?_
                      refine AWP.skip ?_
                      change AWP _ _ _ _ _ _
                      refine AWP.seq ?_
                      refine AWP.block ?_
                      have hsf : (shF v ((at_ gs k).take i.toNat)).length ≤ (at_ gs k).length := by simp [shF]; omega
                      have hen := good_nn hob.2.1 hk0 (by omega) _ (at_mem hi0 (by omega))
                      refine AWP.region (l := [0, 1, 2, 3, 4, 5, 6, 7, 8, 9, 10, 11, 12]) rfl ?_
                      refine AOps.cons rfl rfl (AOp.move (w15) rfl s109 ?_)
                      refine AOps.cons rfl rfl (AOp.move (.sl gs.length (gs.map eF)) rfl s104 ?_)
                      refine AOps.cons rfl rfl (AOp.move (.int .i64 k) rfl s101 ?_)
                      refine AOps.cons rfl rfl (AOp.indexAddrS rfl rfl rfl sl_22 (by omega) (by omega) ?_)
                      refine AOps.cons rfl rfl (AOp.loadF (.sl (at_ gs k).length ((at_ gs k).map eI)) rfl rfl ty_35 (ld1 (by omega) (by omega)) ?_)
                      refine AOps.cons rfl rfl (AOp.move (.int .i64 i) rfl s100 ?_)
                      refine AOps.cons rfl rfl (AOp.indexAddrS rfl rfl rfl sl_35 (by omega) (by omega) ?_)
                      refine AOps.cons rfl rfl (AOp.loadF (.int .i64 (at_ (at_ gs k) i)) rfl rfl ty_3 (ld1 (by omega) (by omega)) ?_)
                      refine AOps.cons rfl rfl (AOp.move (.int .i64 v) rfl s102 ?_)
                      refine AOps.cons rfl rfl (AOp.bin (.int .i64 (at_ (at_ gs k) i + v)) rfl rfl rfl (iadd (by omega)) ?_)
                      refine AOps.cons rfl rfl (AOp.buildSlice (cells := [.int .i64 (at_ (at_ gs k) i + v)]) rfl u_35 ts_3 tz_3 rfl rfl rfl ?_)
                      intro i121 H122 n123 h124 k125
                      have e126 := ne_new h117 n123
                      have e127 := ne_new h118 n123
                      have z128 := Mono.free m119 n123
                      have h129 := keep k125 (ne_new h117 n123) h117
                      have h130 := keep k125 (ne_new h118 n123) h118
                      have o131 := Own.keep o110 k125 (Own.notnew o110 n123)
                      have no132 := Own.notnew o110 n123
                      have o133 := Own.keep o111 k125 (Own.notnew o111 n123)
                      have no134 := Own.notnew o111 n123
                      have m135 := Mono.new m119 n123 k125
                      refine AOps.cons rfl rfl (AOp.append_own (es := 1) (m := 1) (len := ((shF v ((at_ gs k).take i.toNat)).length)) (old := (shF v ((at_ gs k).take i.toNat)).map eI) (cells := [.int .i64 (at_ (at_ gs k) i + v)]) rfl u_35 ts_3 tzn_3 tb_3 (by decide) ni_35 rfl o131 m135 rfl (.slm h124 rfl) (one_of rfl) (by decide) (by first | omega | (simp; omega)) ?_)
                      intro v136 H137 o138 m139 k140 j141
                      have o142 := Own.snoc1 (xs := ((shF v ((at_ gs k).take i.toNat)) : List Int)) (y := at_ (at_ gs k) i + v) (e := eI) (by simp) o138
                      have h143 := (k140 _ no112 (by rw [h129]; simp)).trans h129
                      have no144 := j141 _ no112 (by rw [h129]; simp)
                      have h145 := (k140 _ no113 (by rw [h130]; simp)).trans h130
                      have no146 := j141 _ no113 (by rw [h130]; simp)
                      have sp148 := Own.sep o133 (Sep.symm sp116) j141
                      have o147 := Own.stay o133 (Sep.symm sp116) k140
                      refine AOps.cons rfl rfl (AOp.assign (v136) rfl rfl ?_)
                      refine AOps.nil ?_
                      change AWP _ _ _ _ _ _
                      refine AWP.region (l := [0, 1, 2]) rfl ?_
                      refine AOps.cons rfl rfl (AOp.move (.int .i64 i) rfl s100 ?_)
                      refine AOps.cons rfl rfl (AOp.bin (.int .i64 (i + 1)) rfl rfl rfl (iadd (by omega)) ?_)
                      refine AOps.cons rfl rfl (AOp.assign (.int .i64 (i + 1)) rfl rfl ?_)
                      refine AOps.nil ?_
                      exact ⟨_, by omega, i + 1, v136, rfl, rfl, s101, s102, s103, s104, s105, s106, s107, s108, rfl, (have hx : (((shF v ((at_ gs k).take i.toNat)) ++ [at_ (at_ gs k) i + v]) : List Int) = shF v ((at_ gs k).take (i + 1).toNat) := (by rw [take_step hi0 (by omega)]; simp [shF]); Own.re o142 (congrArg List.length hx) (congrArg (fun l : List Int => l.map eI) hx)), o147, no144, no146, no114, no115, (Sep.symm sp148), h143, h145, m139, by omega, by omega⟩
                    ·
                      refine AWP.condF rfl (decide_eq_false b120) ?_
                      refine AWP.exit ?_
                      change AWP _ _ _ _ _ _
                      have hbf : (joinS v fs (gs.take k.toNat)).length ≤ fs.length + gs.length := by rw [join_len, List.length_take]; omega
                      refine AWP.region (l := [0, 1, 2, 3, 4]) rfl ?_
                      refine AOps.cons rfl rfl (AOp.move (w13) rfl s108 ?_)
                      refine AOps.cons rfl rfl (AOp.move (w15) rfl s109 ?_)
                      refine AOps.cons rfl rfl ?_
                      refine AOp.frz 88 o110 rfl m119 fun H149 m150 k151 => ?_
                      have h152 := (k151 _ no112).trans h117
                      have h153 := (k151 _ no113).trans h118
                      have o154 := Own.stay o111 (Sep.symm sp116) (fun i hi _ => k151 i hi)
                      refine AOp.buildSlice (cells := [.sl (shF v ((at_ gs k).take i.toNat)).length ((shF v ((at_ gs k).take i.toNat)).map eI)]) rfl u_22 ts_35 tz_35 rfl rfl rfl ?_
                      intro i155 H156 n157 h158 k159
                      have e160 := ne_new h152 n157
                      have e161 := ne_new h153 n157
                      have z162 := Mono.free m150 n157
                      have h163 := keep k159 (ne_new h152 n157) h152
                      have h164 := keep k159 (ne_new h153 n157) h153
                      have o165 := Own.keep o154 k159 (Own.notnew o154 n157)
                      have no166 := Own.notnew o154 n157
                      have m167 := Mono.new m150 n157 k159
                      refine AOps.cons rfl rfl (AOp.append_own (es := 1) (m := 1) (len := ((joinS v fs (gs.take k.toNat)).length)) (old := (joinS v fs (gs.take k.toNat)).map eF) (cells := [.sl (shF v ((at_ gs k).take i.toNat)).length ((shF v ((at_ gs k).take i.toNat)).map eI)]) rfl u_22 ts_35 tzn_35 tb_35 (by decide) ni_22 rfl o165 m167 rfl (.slm h158 rfl) (one_of rfl) (by decide) (by first | omega | (simp; omega)) ?_)
                      intro v168 H169 o170 m171 k172 j173
                      have o174 := Own.snoc1 (xs := ((joinS v fs (gs.take k.toNat)) : List (List Int))) (y := (shF v ((at_ gs k).take i.toNat))) (e := eF) (by simp) o170
                      have h175 := (k172 _ no114 (by rw [h163]; simp)).trans h163
                      have no176 := j173 _ no114 (by rw [h163]; simp)
                      have h177 := (k172 _ no115 (by rw [h164]; simp)).trans h164
                      have no178 := j173 _ no115 (by rw [h164]; simp)
                      refine AOps.cons rfl rfl (AOp.assign (v168) rfl rfl ?_)
                      refine AOps.nil ?_
                      change AWP _ _ _ _ _ _
                      refine AWP.region (l := [0, 1, 2]) rfl ?_
                      refine AOps.cons rfl rfl (AOp.move (.int .i64 k) rfl s101 ?_)
                      refine AOps.cons rfl rfl (AOp.bin (.int .i64 (k + 1)) rfl rfl rfl (iadd (by omega)) ?_)
                      refine AOps.cons rfl rfl (AOp.assign (.int .i64 (k + 1)) rfl rfl ?_)
                      refine AOps.nil ?_
                      exact ⟨_, by omega, k + 1, v168, rfl, rfl, s102, s103, s104, s105, s106, s107, rfl, (have hx : (((joinS v fs (gs.take k.toNat)) ++ [(shF v ((at_ gs k).take i.toNat))]) : List (List Int)) = joinS v fs (gs.take (k + 1).toNat) := (by rw [take_all (l := at_ gs k) (i := i) (by omega), take_step hk0 (by omega)]; simp [joinS]); Own.re o174 (congrArg List.length hx) (congrArg (fun l : List (List Int) => l.map eF) hx)), no176, no178, h175, h177, m171, by omega, by omega⟩
                ·
                  refine AWP.condF rfl (decide_eq_false b77) ?_
                  refine AWP.exit ?_
                  change AWP _ _ _ _ _ _
                  refine AWP.seq ?_
                  have hx179 : (joinS v fs (gs.take k.toNat)) = joinS v fs gs := by rw [take_all (by omega)]
                  have o180 := Own.re o71 (congrArg List.length hx179) (congrArg (fun l : List (List Int) => l.map eF) hx179)
                  skip
                  have hb1 : (joinS v fs gs).length ≤ 1048576 := by rw [join_len]; omega
                  have hb2 : ∀ l ∈ joinS v fs gs, l.length ≤ 1048576 := join_lens hfss hgss
                  have hb3 : (sides (joinS v fs gs)).length ≤ 4000000000 := by rw [sides_join, List.length_append, List.length_map]; omega
                  have hvm : v + m ≤ 1000 := by omega
                  refine AWP.region (l := [0, 1, 2, 3, 4, 5, 6, 7, 8, 9, 10]) rfl ?_
                  refine AOps.cons rfl rfl (AOp.move (.int .i64 v) rfl s64 ?_)
                  refine AOps.cons rfl rfl (AOp.move (.int .i64 m) rfl s65 ?_)
                  refine AOps.cons rfl rfl (AOp.bin (.int .i64 (v + m)) rfl rfl rfl (iadd (by omega)) ?_)
                  refine AOps.cons rfl rfl (AOp.move (w13) rfl s70 ?_)
                  refine AOps.cons rfl rfl ?_
                  refine AOp.frz 95 o180 rfl m76 fun H181 m182 k183 => ?_
                  have h184 := (k183 _ no72).trans h74
                  have h185 := (k183 _ no73).trans h75
                  refine AOp.pcall («as» := [.int .i64 (v + m), .sl (joinS v fs gs).length ((joinS v fs gs).map eF)]) rfl rfl (rfl) tf_12 (c12 _ (by assumption) (by assumption) _ (by omega) (by assumption)) ?_
                  intro H186 m187
                  have h188 := m187 _ _ h184
                  have h189 := m187 _ _ h185
                  have m190 := m182.trans m187
                  refine AOps.cons rfl rfl (AOp.move (.tup [.agg [.sl ((buildT (v + m) (joinS v fs gs)).ed).length (((buildT (v + m) (joinS v fs gs)).ed).flatMap eE), .sl ((buildT (v + m) (joinS v fs gs)).fan).length (((buildT (v + m) (joinS v fs gs)).fan).map eF), .sl ((buildT (v + m) (joinS v fs gs)).rnd).length (((buildT (v + m) (joinS v fs gs)).rnd).map eBo)], .int .i64 (buildE (v + m) (joinS v fs gs))]) rfl rfl ?_)
                  refine AOps.cons rfl rfl (AOp.extract (.agg [.sl ((buildT (v + m) (joinS v fs gs)).ed).length (((buildT (v + m) (joinS v fs gs)).ed).flatMap eE), .sl ((buildT (v + m) (joinS v fs gs)).fan).length (((buildT (v + m) (joinS v fs gs)).fan).map eF), .sl ((buildT (v + m) (joinS v fs gs)).rnd).length (((buildT (v + m) (joinS v fs gs)).rnd).map eBo)]) rfl rfl rfl ?_)
                  refine AOps.cons rfl rfl (AOp.extract (.int .i64 (buildE (v + m) (joinS v fs gs))) rfl rfl rfl ?_)
                  refine AOps.cons rfl rfl (AOp.alloc rfl tz_29 ?_)
                  intro i191 H192 n193 h194 k195
                  have e196 := ne_new h188 n193
                  have e197 := ne_new h189 n193
                  have z198 := Mono.free m190 n193
                  have h199 := keep k195 (ne_new h188 n193) h188
                  have h200 := keep k195 (ne_new h189 n193) h189
                  have m201 := Mono.new m190 n193 k195
                  refine AOps.cons rfl rfl (AOp.store' (cells' := [.sl ((buildT (v + m) (joinS v fs gs)).ed).length (((buildT (v + m) (joinS v fs gs)).ed).flatMap eE), .sl ((buildT (v + m) (joinS v fs gs)).fan).length (((buildT (v + m) (joinS v fs gs)).fan).map eF), .sl ((buildT (v + m) (joinS v fs gs)).rnd).length (((buildT (v + m) (joinS v fs gs)).rnd).map eBo)]) (.agg [.sl ((buildT (v + m) (joinS v fs gs)).ed).length (((buildT (v + m) (joinS v fs gs)).ed).flatMap eE), .sl ((buildT (v + m) (joinS v fs gs)).fan).length (((buildT (v + m) (joinS v fs gs)).fan).map eF), .sl ((buildT (v + m) (joinS v fs gs)).rnd).length (((buildT (v + m) (joinS v fs gs)).rnd).map eBo)]) rfl rfl ts_29 h194 rfl rfl rfl rfl ?_)
                  intro H202 h203 k204
                  have h205 := keep k204 e196 h199
                  have h206 := keep k204 e197 h200
                  have m208 := Mono.set m201 z198 k204
                  refine AOps.cons rfl rfl (AOp.assign (.int .i64 (buildE (v + m) (joinS v fs gs))) rfl rfl ?_)
                  refine AOps.nil ?_
                  change AWP _ _ _ _ _ _
                  refine AWP.seq ?_
                  refine AWP.seq ?_
                  refine AWP.region (l := [0, 1, 2, 3, 4, 5, 6, 7, 8, 9, 10, 11, 12, 13, 14, 15, 16, 17, 18, 19, 20, 21, 22, 23, 24, 25, 26, 27]) rfl ?_
                  refine AOps.cons rfl rfl (AOp.move (.int .i64 (buildE (v + m) (joinS v fs gs))) rfl rfl ?_)
                  refine AOps.cons rfl rfl (AOp.bin (.bool (!decide (buildE (v + m) (joinS v fs gs) = 0))) rfl rfl rfl ine ?_)
                  refine AOps.cons rfl rfl (AOp.move (.bool (!decide (buildE (v + m) (joinS v fs gs) = 0))) rfl rfl ?_)
                  refine AOps.yes rfl rfl rfl rfl rfl rfl rfl (nb (decide_eq_true (AL.e))) (AOp.fieldAddr rfl rfl fl_29_0 ?_ (hid := ⟨_, h203⟩))
                  refine AOps.yes rfl rfl rfl rfl rfl rfl rfl (nb (decide_eq_true (AL.e))) (AOp.load (.sl ((buildT (v + m) (joinS v fs gs)).ed).length (((buildT (v + m) (joinS v fs gs)).ed).flatMap eE)) rfl rfl ty_26 h203 rfl ?_)
                  refine AOps.yes rfl rfl rfl rfl rfl rfl rfl (nb (decide_eq_true (AL.e))) (AOp.len (m := ((buildT (v + m) (joinS v fs gs)).ed).length) rfl rfl (.inr (.inl ⟨_, rfl⟩)) u_26 ?_)
                  refine AOps.yes rfl rfl rfl rfl rfl rfl rfl (nb (decide_eq_true (AL.e))) (AOp.fieldAddr rfl s68 fl_29_0 ?_ (hid := ⟨_, h205⟩))
                  refine AOps.yes rfl rfl rfl rfl rfl rfl rfl (nb (decide_eq_true (AL.e))) (AOp.load (.sl ((buildT v fs).ed).length (((buildT v fs).ed).flatMap eE)) rfl rfl ty_26 h205 rfl ?_)
                  refine AOps.yes rfl rfl rfl rfl rfl rfl rfl (nb (decide_eq_true (AL.e))) (AOp.len (m := ((buildT v fs).ed).length) rfl rfl (.inr (.inl ⟨_, rfl⟩)) u_26 ?_)
                  refine AOps.yes rfl rfl rfl rfl rfl rfl rfl (nb (decide_eq_true (AL.e))) (AOp.fieldAddr rfl s69 fl_29_0 ?_ (hid := ⟨_, h206⟩))
                  refine AOps.yes rfl rfl rfl rfl rfl rfl rfl (nb (decide_eq_true (AL.e))) (AOp.load (.sl ((buildT m gs).ed).length (((buildT m gs).ed).flatMap eE)) rfl rfl ty_26 h206 rfl ?_)
                  refine AOps.yes rfl rfl rfl rfl rfl rfl rfl (nb (decide_eq_true (AL.e))) (AOp.len (m := ((buildT m gs).ed).length) rfl rfl (.inr (.inl ⟨_, rfl⟩)) u_26 ?_)
                  refine AOps.yes rfl rfl rfl rfl rfl rfl rfl (nb (decide_eq_true (AL.e))) (AOp.bin (.int .i64 (((((buildT v fs).ed).length) : Int) + ((((buildT m gs).ed).length) : Int))) rfl rfl rfl (iadd (by omega)) ?_)
                  refine AOps.yes rfl rfl rfl rfl rfl rfl rfl (nb (decide_eq_true (AL.e))) (AOp.bin (.bool (!decide (((((buildT (v + m) (joinS v fs gs)).ed).length) : Int) = ((((buildT v fs).ed).length) : Int) + ((((buildT m gs).ed).length) : Int)))) rfl rfl rfl ine ?_)
                  refine AOps.cons rfl rfl (AOp.pickF (.bool (!decide (((((buildT (v + m) (joinS v fs gs)).ed).length) : Int) = ((((buildT v fs).ed).length) : Int) + ((((buildT m gs).ed).length) : Int)))) rfl rfl (nb (decide_eq_true (AL.e))) rfl ?_)
                  refine AOps.cons rfl rfl (AOp.move (.bool (!decide (((((buildT (v + m) (joinS v fs gs)).ed).length) : Int) = ((((buildT v fs).ed).length) : Int) + ((((buildT m gs).ed).length) : Int)))) rfl rfl ?_)
                  refine AOps.yes rfl rfl rfl rfl rfl rfl rfl (nb (decide_eq_true ((by rw [hqf]; simp)))) (AOp.fieldAddr rfl rfl fl_29_1 ?_ (hid := ⟨_, h203⟩))
                  refine AOps.yes rfl rfl rfl rfl rfl rfl rfl (nb (decide_eq_true ((by rw [hqf]; simp)))) (AOp.load (.sl ((buildT (v + m) (joinS v fs gs)).fan).length (((buildT (v + m) (joinS v fs gs)).fan).map eF)) rfl rfl ty_22 h203 rfl ?_)
                  refine AOps.yes rfl rfl rfl rfl rfl rfl rfl (nb (decide_eq_true ((by rw [hqf]; simp)))) (AOp.len (m := ((buildT (v + m) (joinS v fs gs)).fan).length) rfl rfl (.inr (.inl ⟨_, rfl⟩)) u_22 ?_)
                  refine AOps.yes rfl rfl rfl rfl rfl rfl rfl (nb (decide_eq_true ((by rw [hqf]; simp)))) (AOp.fieldAddr rfl s68 fl_29_1 ?_ (hid := ⟨_, h205⟩))
                  refine AOps.yes rfl rfl rfl rfl rfl rfl rfl (nb (decide_eq_true ((by rw [hqf]; simp)))) (AOp.load (.sl ((buildT v fs).fan).length (((buildT v fs).fan).map eF)) rfl rfl ty_22 h205 rfl ?_)
                  refine AOps.yes rfl rfl rfl rfl rfl rfl rfl (nb (decide_eq_true ((by rw [hqf]; simp)))) (AOp.len (m := ((buildT v fs).fan).length) rfl rfl (.inr (.inl ⟨_, rfl⟩)) u_22 ?_)
                  refine AOps.yes rfl rfl rfl rfl rfl rfl rfl (nb (decide_eq_true ((by rw [hqf]; simp)))) (AOp.fieldAddr rfl s69 fl_29_1 ?_ (hid := ⟨_, h206⟩))
                  refine AOps.yes rfl rfl rfl rfl rfl rfl rfl (nb (decide_eq_true ((by rw [hqf]; simp)))) (AOp.load (.sl ((buildT m gs).fan).length (((buildT m gs).fan).map eF)) rfl rfl ty_22 h206 rfl ?_)
                  refine AOps.yes rfl rfl rfl rfl rfl rfl rfl (nb (decide_eq_true ((by rw [hqf]; simp)))) (AOp.len (m := ((buildT m gs).fan).length) rfl rfl (.inr (.inl ⟨_, rfl⟩)) u_22 ?_)
                  refine AOps.yes rfl rfl rfl rfl rfl rfl rfl (nb (decide_eq_true ((by rw [hqf]; simp)))) (AOp.bin (.int .i64 (((((buildT v fs).fan).length) : Int) + ((((buildT m gs).fan).length) : Int))) rfl rfl rfl (iadd (by omega)) ?_)
                  refine AOps.yes rfl rfl rfl rfl rfl rfl rfl (nb (decide_eq_true ((by rw [hqf]; simp)))) (AOp.bin (.bool (!decide (((((buildT (v + m) (joinS v fs gs)).fan).length) : Int) = ((((buildT v fs).fan).length) : Int) + ((((buildT m gs).fan).length) : Int)))) rfl rfl rfl ine ?_)
                  refine AOps.cons rfl rfl (AOp.pickF (.bool (!decide (((((buildT (v + m) (joinS v fs gs)).fan).length) : Int) = ((((buildT v fs).fan).length) : Int) + ((((buildT m gs).fan).length) : Int)))) rfl rfl (nb (decide_eq_true ((by rw [hqf]; simp)))) rfl ?_)
                  refine AOps.nil ?_
                  change AWP _ _ _ _ _ _
                  refine AWP.condF rfl (nb (decide_eq_true (hqa))) ?_
                  refine AWP.skip ?_
                  change AWP _ _ _ _ _ _
                  refine AWP.seq ?_
                  refine AWP.seq ?_
                  refine AWP.region (l := [0]) rfl ?_
                  refine AOps.cons rfl rfl (AOp.assign (.int .i64 0) rfl rfl ?_)
                  refine AOps.nil ?_
                  change AWP _ _ _ _ _ _
                  refine AWP.block ?_
                  refine AWP.loop (fun q209 fq Hq => ∃ (i : Int), q209 = (((((buildT v fs).ed).length : Int) : Int) - i).toNat ∧ fq 19 = .int .i64 i ∧ fq 9 = .ptr i17 0 0 ∧ fq 11 = .ptr i33 0 0 ∧ fq 17 = .ptr i191 0 0 ∧ Hq i17 = some (.row 0 ([.sl ((buildT v fs).ed).length (((buildT v fs).ed).flatMap eE), .sl ((buildT v fs).fan).length (((buildT v fs).fan).map eF), .sl ((buildT v fs).rnd).length (((buildT v fs).rnd).map eBo)])) ∧ Hq i33 = some (.row 0 ([.sl ((buildT m gs).ed).length (((buildT m gs).ed).flatMap eE), .sl ((buildT m gs).fan).length (((buildT m gs).fan).map eF), .sl ((buildT m gs).rnd).length (((buildT m gs).rnd).map eBo)])) ∧ Hq i191 = some (.row 0 ([.sl ((buildT (v + m) (joinS v fs gs)).ed).length (((buildT (v + m) (joinS v fs gs)).ed).flatMap eE), .sl ((buildT (v + m) (joinS v fs gs)).fan).length (((buildT (v + m) (joinS v fs gs)).fan).map eF), .sl ((buildT (v + m) (joinS v fs gs)).rnd).length (((buildT (v + m) (joinS v fs gs)).rnd).map eBo)])) ∧ Mono H0 Hq ∧ (0 ≤ i) ∧ (i ≤ (((buildT v fs).ed).length : Int))) (k := (((((buildT v fs).ed).length : Int) : Int) - 0).toNat) ?_ ?_
                  ·
                    exact ⟨0, rfl, rfl, s68, s69, rfl, h205, h206, h203, m208, by omega, by omega⟩
                  ·
                    rintro _ f211 H210 ⟨i, rfl, s212, s213, s214, s215, h216, h217, h218, m219, hi0, hi1⟩
                    refine AWP.seq ?_
                    refine AWP.seq ?_
                    refine AWP.region (l := [0, 1, 2, 3, 4]) rfl ?_
                    refine AOps.cons rfl rfl (AOp.move (.int .i64 i) rfl s212 ?_)
                    refine AOps.cons rfl rfl (AOp.fieldAddr rfl s213 fl_29_0 ?_ (hid := ⟨_, h216⟩))
                    refine AOps.cons rfl rfl (AOp.load (.sl ((buildT v fs).ed).length (((buildT v fs).ed).flatMap eE)) rfl rfl ty_26 h216 rfl ?_)
                    refine AOps.cons rfl rfl (AOp.len (m := ((buildT v fs).ed).length) rfl rfl (.inr (.inl ⟨_, rfl⟩)) u_26 ?_)
                    refine AOps.cons rfl rfl (AOp.bin (.bool (decide (i < ((((buildT v fs).ed).length) : Int)))) rfl rfl rfl rfl ?_)
                    refine AOps.nil ?_
                    change AWP _ _ _ _ _ _
                    by_cases b220 : i < ((((buildT v fs).ed).length) : Int)
                    ·
                      refine AWP.condT rfl (decide_eq_true b220) ?_
                      refine AWP.skip ?_
                      change AWP _ _ _ _ _ _
                      refine AWP.seq ?_
                      refine AWP.block ?_
                      refine AWP.seq ?_
                      have hed := AL.ed i hi0 (by omega)
                      refine AWP.region_quiet mixed (by kernel_rfl) 11 [] rfl (by kernel_rfl) (Mono H210) (Mono.refl _) ?_
                      refine QE.op rfl rfl (.inl ⟨rfl, fun f' H' hf hM => AOp.fieldAddr rfl ((hf 17 rfl).trans s215) fl_29_0 ⟨rfl, hM⟩ (hid := ⟨_, (hM _ _ h218)⟩)⟩) ?_
                      refine QE.op rfl rfl (.inl ⟨rfl, fun f' H' hf hM => AOp.load (.sl ((buildT (v + m) (joinS v fs gs)).ed).length (((buildT (v + m) (joinS v fs gs)).ed).flatMap eE)) rfl ((hf 134 rfl).trans rfl) ty_26 (hM _ _ h218) rfl ⟨rfl, hM⟩⟩) ?_
                      refine QE.op rfl rfl (.inl ⟨rfl, fun f' H' hf hM => AOp.move (.int .i64 i) rfl ((hf 19 rfl).trans s212) ⟨rfl, hM⟩⟩) ?_
                      refine QE.op rfl rfl (.inl ⟨rfl, fun f' H' hf hM => AOp.indexAddrS rfl ((hf 135 rfl).trans rfl) ((hf 136 rfl).trans rfl) sl_26 (by omega) (by omega) ⟨rfl, hM⟩⟩) ?_
                      refine QE.op rfl rfl (.inl ⟨rfl, fun f' H' hf hM => AOp.loadF (.agg [.int .i64 ((at_ ((buildT (v + m) (joinS v fs gs)).ed) i).A), .int .i64 ((at_ ((buildT (v + m) (joinS v fs gs)).ed) i).B), .int .i64 ((at_ ((buildT (v + m) (joinS v fs gs)).ed) i).F), .int .i64 ((at_ ((buildT (v + m) (joinS v fs gs)).ed) i).G)]) rfl ((hf 137 rfl).trans rfl) ty_37 (ldM eE_len (by omega) (by omega)) ⟨rfl, hM⟩⟩) ?_
                      refine QE.op rfl rfl (.inl ⟨rfl, fun f' H' hf hM => AOp.fieldAddr rfl ((hf 9 rfl).trans s213) fl_29_0 ⟨rfl, hM⟩ (hid := ⟨_, (hM _ _ h216)⟩)⟩) ?_
                      refine QE.op rfl rfl (.inl ⟨rfl, fun f' H' hf hM => AOp.load (.sl ((buildT v fs).ed).length (((buildT v fs).ed).flatMap eE)) rfl ((hf 139 rfl).trans rfl) ty_26 (hM _ _ h216) rfl ⟨rfl, hM⟩⟩) ?_
                      refine QE.op rfl rfl (.inl ⟨rfl, fun f' H' hf hM => AOp.move (.int .i64 i) rfl ((hf 19 rfl).trans s212) ⟨rfl, hM⟩⟩) ?_
                      refine QE.op rfl rfl (.inl ⟨rfl, fun f' H' hf hM => AOp.indexAddrS rfl ((hf 140 rfl).trans rfl) ((hf 141 rfl).trans rfl) sl_26 (by omega) (by omega) ⟨rfl, hM⟩⟩) ?_
                      refine QE.op rfl rfl (.inl ⟨rfl, fun f' H' hf hM => AOp.loadF (.agg [.int .i64 ((at_ ((buildT v fs).ed) i).A), .int .i64 ((at_ ((buildT v fs).ed) i).B), .int .i64 ((at_ ((buildT v fs).ed) i).F), .int .i64 ((at_ ((buildT v fs).ed) i).G)]) rfl ((hf 142 rfl).trans rfl) ty_37 (ldM eE_len (by omega) (by omega)) ⟨rfl, hM⟩⟩) ?_
                      refine QE.op rfl rfl (.inl ⟨rfl, fun f' H' hf hM => AOp.neAggD rfl ((hf 138 rfl).trans rfl) ((hf 143 rfl).trans rfl) teq37 (kok37 (e := (at_ ((buildT (v + m) (joinS v fs gs)).ed) i)) (by rw [AL.ed i hi0 (by omega)]; exact hs1.ok _ (at_mem (by omega) (by omega)))) (kok37 (e := (at_ ((buildT v fs).ed) i)) (hs1.ok _ (at_mem (by omega) (by omega)))) (eE_iff (at_ ((buildT (v + m) (joinS v fs gs)).ed) i) (at_ ((buildT v fs).ed) i)) ⟨rfl, hM⟩⟩) ?_
                      refine QE.done fun H221 m222 => ?_
                      have h223 := m222 _ _ h216
                      have h224 := m222 _ _ h217
                      have h225 := m222 _ _ h218
                      have m226 := m219.trans m222
                      refine AOps.nil ?_
                      change AWP _ _ _ _ _ _
                      refine AWP.condF rfl (nb (decide_eq_true (hed))) ?_
                      refine AWP.skip ?_
                      change AWP _ _ _ _ _ _
                      refine AWP.region (l := [0, 1, 2]) rfl ?_
                      refine AOps.cons rfl rfl (AOp.move (.int .i64 i) rfl s212 ?_)
                      refine AOps.cons rfl rfl (AOp.bin (.int .i64 (i + 1)) rfl rfl rfl (iadd (by omega)) ?_)
                      refine AOps.cons rfl rfl (AOp.assign (.int .i64 (i + 1)) rfl rfl ?_)
                      refine AOps.nil ?_
                      exact ⟨_, by omega, i + 1, rfl, rfl, s213, s214, s215, h223, h224, h225, m226, by omega, by omega⟩
                    ·
                      refine AWP.condF rfl (decide_eq_false b220) ?_
                      refine AWP.exit ?_
                      change AWP _ _ _ _ _ _
                      refine AWP.seq ?_
                      refine AWP.seq ?_
                      refine AWP.region (l := [0]) rfl ?_
                      refine AOps.cons rfl rfl (AOp.assign (.int .i64 0) rfl rfl ?_)
                      refine AOps.nil ?_
                      change AWP _ _ _ _ _ _
                      refine AWP.block ?_
                      refine AWP.loop (fun q227 fq Hq => ∃ (j : Int), q227 = (((((buildT m gs).fan).length : Int) : Int) - j).toNat ∧ fq 20 = .int .i64 j ∧ fq 9 = .ptr i17 0 0 ∧ fq 11 = .ptr i33 0 0 ∧ fq 17 = .ptr i191 0 0 ∧ Hq i17 = some (.row 0 ([.sl ((buildT v fs).ed).length (((buildT v fs).ed).flatMap eE), .sl ((buildT v fs).fan).length (((buildT v fs).fan).map eF), .sl ((buildT v fs).rnd).length (((buildT v fs).rnd).map eBo)])) ∧ Hq i33 = some (.row 0 ([.sl ((buildT m gs).ed).length (((buildT m gs).ed).flatMap eE), .sl ((buildT m gs).fan).length (((buildT m gs).fan).map eF), .sl ((buildT m gs).rnd).length (((buildT m gs).rnd).map eBo)])) ∧ Hq i191 = some (.row 0 ([.sl ((buildT (v + m) (joinS v fs gs)).ed).length (((buildT (v + m) (joinS v fs gs)).ed).flatMap eE), .sl ((buildT (v + m) (joinS v fs gs)).fan).length (((buildT (v + m) (joinS v fs gs)).fan).map eF), .sl ((buildT (v + m) (joinS v fs gs)).rnd).length (((buildT (v + m) (joinS v fs gs)).rnd).map eBo)])) ∧ Mono H0 Hq ∧ (0 ≤ j) ∧ (j ≤ (((buildT m gs).fan).length : Int))) (k := (((((buildT m gs).fan).length : Int) : Int) - 0).toNat) ?_ ?_
                      ·
                        exact ⟨0, rfl, rfl, s213, s214, s215, h216, h217, h218, m219, by omega, by omega⟩
                      ·
                        rintro _ f229 H228 ⟨j, rfl, s230, s231, s232, s233, h234, h235, h236, m237, hj0, hj1⟩
                        refine AWP.seq ?_
                        refine AWP.seq ?_
                        refine AWP.region (l := [0, 1, 2, 3, 4]) rfl ?_
                        refine AOps.cons rfl rfl (AOp.move (.int .i64 j) rfl s230 ?_)
                        refine AOps.cons rfl rfl (AOp.fieldAddr rfl s232 fl_29_1 ?_ (hid := ⟨_, h235⟩))
                        refine AOps.cons rfl rfl (AOp.load (.sl ((buildT m gs).fan).length (((buildT m gs).fan).map eF)) rfl rfl ty_22 h235 rfl ?_)
                        refine AOps.cons rfl rfl (AOp.len (m := ((buildT m gs).fan).length) rfl rfl (.inr (.inl ⟨_, rfl⟩)) u_22 ?_)
                        refine AOps.cons rfl rfl (AOp.bin (.bool (decide (j < ((((buildT m gs).fan).length) : Int)))) rfl rfl rfl rfl ?_)
                        refine AOps.nil ?_
                        change AWP _ _ _ _ _ _
                        by_cases b238 : j < ((((buildT m gs).fan).length) : Int)
                        ·
                          refine AWP.condT rfl (decide_eq_true b238) ?_
                          refine AWP.skip ?_
                          change AWP _ _ _ _ _ _
                          refine AWP.seq ?_
                          refine AWP.block ?_
                          refine AWP.seq ?_
                          have hfa := AL.fan j hj0 (by omega)
                          have hrn := AL.rnd j hj0 (by omega)
                          refine AWP.region_quiet mixed (by kernel_rfl) 34 [] rfl (by kernel_rfl) (Mono H228) (Mono.refl _) ?_
                          refine QE.op rfl rfl (.inl ⟨rfl, fun f' H' hf hM => AOp.fieldAddr rfl ((hf 17 rfl).trans s233) fl_29_1 ⟨rfl, hM⟩ (hid := ⟨_, (hM _ _ h236)⟩)⟩) ?_
                          refine QE.op rfl rfl (.inl ⟨rfl, fun f' H' hf hM => AOp.load (.sl ((buildT (v + m) (joinS v fs gs)).fan).length (((buildT (v + m) (joinS v fs gs)).fan).map eF)) rfl ((hf 152 rfl).trans rfl) ty_22 (hM _ _ h236) rfl ⟨rfl, hM⟩⟩) ?_
                          refine QE.op rfl rfl (.inl ⟨rfl, fun f' H' hf hM => AOp.fieldAddr rfl ((hf 9 rfl).trans s231) fl_29_1 ⟨rfl, hM⟩ (hid := ⟨_, (hM _ _ h234)⟩)⟩) ?_
                          refine QE.op rfl rfl (.inl ⟨rfl, fun f' H' hf hM => AOp.load (.sl ((buildT v fs).fan).length (((buildT v fs).fan).map eF)) rfl ((hf 154 rfl).trans rfl) ty_22 (hM _ _ h234) rfl ⟨rfl, hM⟩⟩) ?_
                          refine QE.op rfl rfl (.inl ⟨rfl, fun f' H' hf hM => AOp.len (m := ((buildT v fs).fan).length) rfl ((hf 155 rfl).trans rfl) (.inr (.inl ⟨_, rfl⟩)) u_22 ⟨rfl, hM⟩⟩) ?_
                          refine QE.op rfl rfl (.inl ⟨rfl, fun f' H' hf hM => AOp.move (.int .i64 j) rfl ((hf 20 rfl).trans s230) ⟨rfl, hM⟩⟩) ?_
                          refine QE.op rfl rfl (.inl ⟨rfl, fun f' H' hf hM => AOp.bin (.int .i64 (((((buildT v fs).fan).length) : Int) + j)) rfl ((hf 156 rfl).trans rfl) ((hf 157 rfl).trans rfl) (iadd (by omega)) ⟨rfl, hM⟩⟩) ?_
                          refine QE.op rfl rfl (.inl ⟨rfl, fun f' H' hf hM => AOp.indexAddrS rfl ((hf 153 rfl).trans rfl) ((hf 158 rfl).trans rfl) sl_22 (by omega) (by omega) ⟨rfl, hM⟩⟩) ?_
                          refine QE.op rfl rfl (.inl ⟨rfl, fun f' H' hf hM => AOp.loadF (.sl (at_ ((buildT (v + m) (joinS v fs gs)).fan) (((((buildT v fs).fan).length) : Int) + j)).length ((at_ ((buildT (v + m) (joinS v fs gs)).fan) (((((buildT v fs).fan).length) : Int) + j)).map eI)) rfl ((hf 159 rfl).trans rfl) ty_35 (ld1 (by omega) (by omega)) ⟨rfl, hM⟩⟩) ?_
                          refine QE.op rfl rfl (.inl ⟨rfl, fun f' H' hf hM => AOp.len (m := (at_ ((buildT (v + m) (joinS v fs gs)).fan) (((((buildT v fs).fan).length) : Int) + j)).length) rfl ((hf 160 rfl).trans rfl) (.inr (.inl ⟨_, rfl⟩)) u_35 ⟨rfl, hM⟩⟩) ?_
                          refine QE.op rfl rfl (.inl ⟨rfl, fun f' H' hf hM => AOp.fieldAddr rfl ((hf 11 rfl).trans s232) fl_29_1 ⟨rfl, hM⟩ (hid := ⟨_, (hM _ _ h235)⟩)⟩) ?_
                          refine QE.op rfl rfl (.inl ⟨rfl, fun f' H' hf hM => AOp.load (.sl ((buildT m gs).fan).length (((buildT m gs).fan).map eF)) rfl ((hf 162 rfl).trans rfl) ty_22 (hM _ _ h235) rfl ⟨rfl, hM⟩⟩) ?_
                          refine QE.op rfl rfl (.inl ⟨rfl, fun f' H' hf hM => AOp.move (.int .i64 j) rfl ((hf 20 rfl).trans s230) ⟨rfl, hM⟩⟩) ?_
                          refine QE.op rfl rfl (.inl ⟨rfl, fun f' H' hf hM => AOp.indexAddrS rfl ((hf 163 rfl).trans rfl) ((hf 164 rfl).trans rfl) sl_22 (by omega) (by omega) ⟨rfl, hM⟩⟩) ?_
                          refine QE.op rfl rfl (.inl ⟨rfl, fun f' H' hf hM => AOp.loadF (.sl (at_ ((buildT m gs).fan) j).length ((at_ ((buildT m gs).fan) j).map eI)) rfl ((hf 165 rfl).trans rfl) ty_35 (ld1 (by omega) (by omega)) ⟨rfl, hM⟩⟩) ?_
                          refine QE.op rfl rfl (.inl ⟨rfl, fun f' H' hf hM => AOp.len (m := (at_ ((buildT m gs).fan) j).length) rfl ((hf 166 rfl).trans rfl) (.inr (.inl ⟨_, rfl⟩)) u_35 ⟨rfl, hM⟩⟩) ?_
                          refine QE.op rfl rfl (.inl ⟨rfl, fun f' H' hf hM => AOp.bin (.bool (!decide ((((at_ ((buildT (v + m) (joinS v fs gs)).fan) (((((buildT v fs).fan).length) : Int) + j)).length) : Int) = (((at_ ((buildT m gs).fan) j).length) : Int)))) rfl ((hf 161 rfl).trans rfl) ((hf 167 rfl).trans rfl) ine ⟨rfl, hM⟩⟩) ?_
                          refine QE.op rfl rfl (.inl ⟨rfl, fun f' H' hf hM => AOp.move (.bool (!decide ((((at_ ((buildT (v + m) (joinS v fs gs)).fan) (((((buildT v fs).fan).length) : Int) + j)).length) : Int) = (((at_ ((buildT m gs).fan) j).length) : Int)))) rfl ((hf 168 rfl).trans rfl) ⟨rfl, hM⟩⟩) ?_
                          refine QE.op rfl rfl (QOp.yes rfl rfl rfl rfl (nb (decide_eq_true ((congrArg Nat.cast hfa)))) fun f' H' hf hM => AOp.fieldAddr rfl ((hf 17 rfl).trans s233) fl_29_2 ⟨rfl, hM⟩ (hid := ⟨_, (hM _ _ h236)⟩)) ?_
                          refine QE.op rfl rfl (QOp.yes rfl rfl rfl rfl (nb (decide_eq_true ((congrArg Nat.cast hfa)))) fun f' H' hf hM => AOp.load (.sl ((buildT (v + m) (joinS v fs gs)).rnd).length (((buildT (v + m) (joinS v fs gs)).rnd).map eBo)) rfl ((hf 170 rfl).trans rfl) ty_27 (hM _ _ h236) rfl ⟨rfl, hM⟩) ?_
                          refine QE.op rfl rfl (QOp.yes rfl rfl rfl rfl (nb (decide_eq_true ((congrArg Nat.cast hfa)))) fun f' H' hf hM => AOp.fieldAddr rfl ((hf 9 rfl).trans s231) fl_29_1 ⟨rfl, hM⟩ (hid := ⟨_, (hM _ _ h234)⟩)) ?_
                          refine QE.op rfl rfl (QOp.yes rfl rfl rfl rfl (nb (decide_eq_true ((congrArg Nat.cast hfa)))) fun f' H' hf hM => AOp.load (.sl ((buildT v fs).fan).length (((buildT v fs).fan).map eF)) rfl ((hf 172 rfl).trans rfl) ty_22 (hM _ _ h234) rfl ⟨rfl, hM⟩) ?_
                          refine QE.op rfl rfl (QOp.yes rfl rfl rfl rfl (nb (decide_eq_true ((congrArg Nat.cast hfa)))) fun f' H' hf hM => AOp.len (m := ((buildT v fs).fan).length) rfl ((hf 173 rfl).trans rfl) (.inr (.inl ⟨_, rfl⟩)) u_22 ⟨rfl, hM⟩) ?_
                          refine QE.op rfl rfl (QOp.yes rfl rfl rfl rfl (nb (decide_eq_true ((congrArg Nat.cast hfa)))) fun f' H' hf hM => AOp.move (.int .i64 j) rfl ((hf 20 rfl).trans s230) ⟨rfl, hM⟩) ?_
                          refine QE.op rfl rfl (QOp.yes rfl rfl rfl rfl (nb (decide_eq_true ((congrArg Nat.cast hfa)))) fun f' H' hf hM => AOp.bin (.int .i64 (((((buildT v fs).fan).length) : Int) + j)) rfl ((hf 174 rfl).trans rfl) ((hf 175 rfl).trans rfl) (iadd (by omega)) ⟨rfl, hM⟩) ?_
                          refine QE.op rfl rfl (QOp.yes rfl rfl rfl rfl (nb (decide_eq_true ((congrArg Nat.cast hfa)))) fun f' H' hf hM => AOp.indexAddrS rfl ((hf 171 rfl).trans rfl) ((hf 176 rfl).trans rfl) sl_27 (by omega) (by omega) ⟨rfl, hM⟩) ?_
                          refine QE.op rfl rfl (QOp.yes rfl rfl rfl rfl (nb (decide_eq_true ((congrArg Nat.cast hfa)))) fun f' H' hf hM => AOp.loadF (.bool (at_ ((buildT (v + m) (joinS v fs gs)).rnd) (((((buildT v fs).fan).length) : Int) + j))) rfl ((hf 177 rfl).trans rfl) ty_4 (ld1 (by omega) (by omega)) ⟨rfl, hM⟩) ?_
                          refine QE.op rfl rfl (QOp.yes rfl rfl rfl rfl (nb (decide_eq_true ((congrArg Nat.cast hfa)))) fun f' H' hf hM => AOp.fieldAddr rfl ((hf 11 rfl).trans s232) fl_29_2 ⟨rfl, hM⟩ (hid := ⟨_, (hM _ _ h235)⟩)) ?_
                          refine QE.op rfl rfl (QOp.yes rfl rfl rfl rfl (nb (decide_eq_true ((congrArg Nat.cast hfa)))) fun f' H' hf hM => AOp.load (.sl ((buildT m gs).rnd).length (((buildT m gs).rnd).map eBo)) rfl ((hf 179 rfl).trans rfl) ty_27 (hM _ _ h235) rfl ⟨rfl, hM⟩) ?_
                          refine QE.op rfl rfl (QOp.yes rfl rfl rfl rfl (nb (decide_eq_true ((congrArg Nat.cast hfa)))) fun f' H' hf hM => AOp.move (.int .i64 j) rfl ((hf 20 rfl).trans s230) ⟨rfl, hM⟩) ?_
                          refine QE.op rfl rfl (QOp.yes rfl rfl rfl rfl (nb (decide_eq_true ((congrArg Nat.cast hfa)))) fun f' H' hf hM => AOp.indexAddrS rfl ((hf 180 rfl).trans rfl) ((hf 181 rfl).trans rfl) sl_27 (by omega) (by omega) ⟨rfl, hM⟩) ?_
                          refine QE.op rfl rfl (QOp.yes rfl rfl rfl rfl (nb (decide_eq_true ((congrArg Nat.cast hfa)))) fun f' H' hf hM => AOp.loadF (.bool (at_ ((buildT m gs).rnd) j)) rfl ((hf 182 rfl).trans rfl) ty_4 (ld1 (by omega) (by omega)) ⟨rfl, hM⟩) ?_
                          refine QE.op rfl rfl (QOp.yes rfl rfl rfl rfl (nb (decide_eq_true ((congrArg Nat.cast hfa)))) fun f' H' hf hM => AOp.bne rfl ((hf 178 rfl).trans rfl) ((hf 183 rfl).trans rfl) u_4 ⟨rfl, hM⟩) ?_
                          refine QE.op rfl rfl (.inl ⟨rfl, fun f' H' hf hM => AOp.pickF (.bool ((at_ ((buildT (v + m) (joinS v fs gs)).rnd) (((((buildT v fs).fan).length) : Int) + j)) != (at_ ((buildT m gs).rnd) j))) rfl ((hf 169 rfl).trans rfl) (nb (decide_eq_true ((congrArg Nat.cast hfa)))) ((hf 184 rfl).trans rfl) ⟨rfl, hM⟩⟩) ?_
                          refine QE.done fun H239 m240 => ?_
                          have h241 := m240 _ _ h234
                          have h242 := m240 _ _ h235
                          have h243 := m240 _ _ h236
                          have m244 := m237.trans m240
                          refine AOps.nil ?_
                          change AWP _ _ _ _ _ _
                          refine AWP.condF rfl ((by rw [hrn]; exact bne_self_eq_false _)) ?_
                          refine AWP.skip ?_
                          change AWP _ _ _ _ _ _
                          refine AWP.region (l := [0, 1, 2]) rfl ?_
                          refine AOps.cons rfl rfl (AOp.move (.int .i64 j) rfl s230 ?_)
                          refine AOps.cons rfl rfl (AOp.bin (.int .i64 (j + 1)) rfl rfl rfl (iadd (by omega)) ?_)
                          refine AOps.cons rfl rfl (AOp.assign (.int .i64 (j + 1)) rfl rfl ?_)
                          refine AOps.nil ?_
                          exact ⟨_, by omega, j + 1, rfl, rfl, s231, s232, s233, h241, h242, h243, m244, by omega, by omega⟩
                        ·
                          refine AWP.condF rfl (decide_eq_false b238) ?_
                          refine AWP.exit ?_
                          change AWP _ _ _ _ _ _
                          refine AWP.seq ?_
                          refine AWP.region (l := [0]) rfl ?_
                          refine AOps.cons rfl rfl (AOp.assign (.bool true) rfl rfl ?_)
                          refine AOps.nil ?_
                          change AWP _ _ _ _ _ _
                          refine AWP.ret ?_
                          refine ⟨_, _, Ghost.refl, .inr rfl, _, Res.one rfl rfl, ?_, m237⟩
                          exact rfl
            ·
              refine AWP.condT rfl (nb (decide_eq_false b49)) ?_
              refine AWP.seq ?_
              refine AWP.region (l := [0]) rfl ?_
              refine AOps.cons rfl rfl (AOp.assign (.bool true) rfl rfl ?_)
              refine AOps.nil ?_
              change AWP _ _ _ _ _ _
              refine AWP.ret ?_
              refine ⟨_, _, Ghost.refl, .inr rfl, _, Res.one rfl rfl, ?_, m47⟩
              exact rfl
          ·
            refine AOps.no rfl rfl rfl rfl rfl rfl rfl (ble_of (nb (decide_eq_false b48)) (by decide)) ?_
            refine AOps.no rfl rfl rfl rfl rfl rfl rfl (ble_of (nb (decide_eq_false b48)) (by decide)) ?_
            refine AOps.cons rfl rfl (AOp.pickT (.bool true) rfl rfl (nb (decide_eq_false b48)) rfl ?_)
            refine AOps.nil ?_
            change AWP _ _ _ _ _ _
            refine AWP.condT rfl rfl ?_
            refine AWP.seq ?_
            refine AWP.region (l := [0]) rfl ?_
            refine AOps.cons rfl rfl (AOp.assign (.bool true) rfl rfl ?_)
            refine AOps.nil ?_
            change AWP _ _ _ _ _ _
            refine AWP.ret ?_
            refine ⟨_, _, Ghost.refl, .inr rfl, _, Res.one rfl rfl, ?_, m47⟩
            exact rfl
end Go.Proofs.T
