/- A part of the proof that a law of the edges and fans of faces answers true for every input of its bulk: own work, by an AI agent. -/
import Derived.Test.YtfgfalidpbbkhaaTTy
import Derived.Test.YtfgfalidpbbkhaaTSpec5
import Derived.Test.YtfgfalidpbbkhaaTKey
import Derived.KernelRfl
import Derived.Test.YtfgfalidpbbkhaaTTurn
namespace Go.Proofs.T
open Go Go.AH
set_option maxRecDepth 4000
set_option linter.unusedSimpArgs false
set_option linter.unusedVariables false
theorem c8 (v : Int) (fs : List (List Int)) (hfs : fs.length ≤ 1048576) (hfss : ∀ l ∈ fs, l.length ≤ 1048576) : PC Try.prog 8 [.int .i64 v, .sl fs.length (fs.map eF)] (.bool true) := by
  intro H0
  refine ACalls.of_body' (n := 164) rfl rfl rfl rfl ?_
  have m0 := Mono.refl H0
  refine AWP.seq ?_
  refine AWP.region (l := [0]) rfl ?_
  refine AOps.cons rfl rfl (AOp.assign (.bool false) rfl rfl ?_)
  refine AOps.nil ?_
  change AWP _ _ _ _ _ _
  refine AWP.seq ?_
  refine AWP.seq ?_
  refine AWP.region (l := [0, 1]) rfl ?_
  refine AOps.cons rfl rfl (AOp.pcall («as» := []) rfl rfl (rfl) tf_9 (c9) ?_)
  intro H1 m2
  have m3 := m0.trans m2
  refine AOps.cons rfl rfl (AOp.not rfl rfl ?_)
  refine AOps.nil ?_
  change AWP _ _ _ _ _ _
  refine AWP.condF rfl rfl ?_
  refine AWP.skip ?_
  change AWP _ _ _ _ _ _
  refine AWP.seq ?_
  refine AWP.seq ?_
  refine AWP.region (l := [0, 1, 2]) rfl ?_
  refine AOps.cons rfl rfl (AOp.move (.int .i64 v) rfl rfl ?_)
  refine AOps.cons rfl rfl (AOp.move (.sl fs.length (fs.map eF)) rfl rfl ?_)
  refine AOps.cons rfl rfl (AOp.pcall («as» := [.int .i64 v, .sl fs.length (fs.map eF)]) rfl rfl (rfl) tf_10 (c10 _ _ (by assumption) (by assumption)) ?_)
  intro H4 m5
  have m6 := m3.trans m5
  refine AOps.nil ?_
  change AWP _ _ _ _ _ _
  by_cases b7 : greatS v fs
  ·
    refine AWP.condT rfl (decide_eq_true b7) ?_
    refine AWP.seq ?_
    refine AWP.region (l := [0]) rfl ?_
    refine AOps.cons rfl rfl (AOp.assign (.bool true) rfl rfl ?_)
    refine AOps.nil ?_
    change AWP _ _ _ _ _ _
    refine AWP.ret ?_
    refine ⟨_, _, Ghost.refl, .inr rfl, _, Res.one rfl rfl, ?_, m6⟩
    exact rfl
  ·
    refine AWP.condF rfl (decide_eq_false b7) ?_
    refine AWP.skip ?_
    change AWP _ _ _ _ _ _
    refine AWP.seq ?_
    have hgn := great_no b7
    have hsm := build_small b7
    have hsl : (sides fs).length ≤ 4000000000 := by omega
    have ht1 := hsm.ed
    have ht2 := hsm.fan
    have ht3 := hsm.rnd
    have ht4 := hsm.fans
    have ht5 := hsm.ok
    have ht6 := hsm.sorted
    refine AWP.region (l := [0, 1, 2, 3, 4, 5, 6, 7, 8]) rfl ?_
    refine AOps.cons rfl rfl (AOp.move (.int .i64 v) rfl rfl ?_)
    refine AOps.cons rfl rfl (AOp.move (.sl fs.length (fs.map eF)) rfl rfl ?_)
    refine AOps.cons rfl rfl (AOp.pcall («as» := [.int .i64 v, .sl fs.length (fs.map eF)]) rfl rfl (rfl) tf_12 (c12 _ (by assumption) (by assumption) _ (by omega) (by assumption)) ?_)
    intro H8 m9
    have m10 := m6.trans m9
    refine AOps.cons rfl rfl (AOp.move (.tup [.agg [.sl ((buildT v fs).ed).length (((buildT v fs).ed).flatMap eE), .sl ((buildT v fs).fan).length (((buildT v fs).fan).map eF), .sl ((buildT v fs).rnd).length (((buildT v fs).rnd).map eBo)], .int .i64 (buildE v fs)]) rfl rfl ?_)
    refine AOps.cons rfl rfl (AOp.extract (.agg [.sl ((buildT v fs).ed).length (((buildT v fs).ed).flatMap eE), .sl ((buildT v fs).fan).length (((buildT v fs).fan).map eF), .sl ((buildT v fs).rnd).length (((buildT v fs).rnd).map eBo)]) rfl rfl rfl ?_)
    refine AOps.cons rfl rfl (AOp.extract (.int .i64 (buildE v fs)) rfl rfl rfl ?_)
    refine AOps.cons rfl rfl (AOp.alloc rfl tz_29 ?_)
    intro i11 H12 n13 h14 k15
    have z16 := Mono.free m10 n13
    have m17 := Mono.new m10 n13 k15
    refine AOps.cons rfl rfl (AOp.store' (cells' := [.sl ((buildT v fs).ed).length (((buildT v fs).ed).flatMap eE), .sl ((buildT v fs).fan).length (((buildT v fs).fan).map eF), .sl ((buildT v fs).rnd).length (((buildT v fs).rnd).map eBo)]) (.agg [.sl ((buildT v fs).ed).length (((buildT v fs).ed).flatMap eE), .sl ((buildT v fs).fan).length (((buildT v fs).fan).map eF), .sl ((buildT v fs).rnd).length (((buildT v fs).rnd).map eBo)]) rfl rfl ts_29 h14 rfl rfl rfl rfl ?_)
    intro H18 h19 k20
    have m22 := Mono.set m17 z16 k20
    refine AOps.cons rfl rfl (AOp.assign (.int .i64 (buildE v fs)) rfl rfl ?_)
    refine AOps.nil ?_
    change AWP _ _ _ _ _ _
    refine AWP.seq ?_
    refine AWP.seq ?_
    refine AWP.region (l := [0, 1]) rfl ?_
    refine AOps.cons rfl rfl (AOp.move (.int .i64 (buildE v fs)) rfl rfl ?_)
    refine AOps.cons rfl rfl (AOp.bin (.bool (!decide (buildE v fs = 0))) rfl rfl rfl ine ?_)
    refine AOps.nil ?_
    change AWP _ _ _ _ _ _
    by_cases b23 : buildE v fs = 0
    ·
      refine AWP.condF rfl (nb (decide_eq_true b23)) ?_
      refine AWP.skip ?_
      change AWP _ _ _ _ _ _
      refine AWP.seq ?_
      have hok : okS v fs := buildE_ok (by omega)
      refine AWP.region (l := [0]) rfl ?_
      refine AOps.cons rfl rfl (AOp.assign (.int .i64 0) rfl rfl ?_)
      refine AOps.nil ?_
      change AWP _ _ _ _ _ _
      refine AWP.seq ?_
      refine AWP.seq ?_
      refine AWP.region (l := [0]) rfl ?_
      refine AOps.cons rfl rfl (AOp.assign (.int .i64 0) rfl rfl ?_)
      refine AOps.nil ?_
      change AWP _ _ _ _ _ _
      refine AWP.block ?_
      refine AWP.loop (fun q24 fq Hq => ∃ (f : Int), q24 = (((fs.length : Int) : Int) - f).toNat ∧ fq 8 = .int .i64 f ∧ fq 7 = .int .i64 (sumL (fs.take f.toNat)) ∧ fq 0 = .int .i64 v ∧ fq 1 = .sl fs.length (fs.map eF) ∧ fq 5 = .ptr i11 0 0 ∧ Hq i11 = some (.row 0 ([.sl ((buildT v fs).ed).length (((buildT v fs).ed).flatMap eE), .sl ((buildT v fs).fan).length (((buildT v fs).fan).map eF), .sl ((buildT v fs).rnd).length (((buildT v fs).rnd).map eBo)])) ∧ Mono H0 Hq ∧ (0 ≤ f) ∧ (f ≤ (fs.length : Int))) (k := (((fs.length : Int) : Int) - 0).toNat) ?_ ?_
      ·
        exact ⟨0, rfl, rfl, (congrArg (AV.int .i64) (show (0 : Int) = sumL (fs.take (0 : Int).toNat) from by rfl)), rfl, rfl, rfl, h19, m22, by omega, by omega⟩
      ·
        rintro _ f26 H25 ⟨f, rfl, s27, s28, s29, s30, s31, h32, m33, hf0, hf1⟩
        refine AWP.seq ?_
        refine AWP.seq ?_
        refine AWP.region (l := [0, 1, 2, 3]) rfl ?_
        refine AOps.cons rfl rfl (AOp.move (.int .i64 f) rfl s27 ?_)
        refine AOps.cons rfl rfl (AOp.move (.sl fs.length (fs.map eF)) rfl s30 ?_)
        refine AOps.cons rfl rfl (AOp.len (m := fs.length) rfl rfl (.inr (.inl ⟨_, rfl⟩)) u_22 ?_)
        refine AOps.cons rfl rfl (AOp.bin (.bool (decide (f < (fs.length : Int)))) rfl rfl rfl rfl ?_)
        refine AOps.nil ?_
        change AWP _ _ _ _ _ _
        by_cases b34 : f < (fs.length : Int)
        ·
          refine AWP.condT rfl (decide_eq_true b34) ?_
          refine AWP.skip ?_
          change AWP _ _ _ _ _ _
          refine AWP.seq ?_
          refine AWP.block ?_
          refine AWP.seq ?_
          have hsl1 := sum_le (fs := fs) f
          have hq : (at_ fs f).length ≤ 1048576 := hfss _ (at_mem (by omega) (by omega))
          refine AWP.region (l := [0, 1, 2, 3, 4, 5, 6, 7]) rfl ?_
          refine AOps.cons rfl rfl (AOp.move (.int .i64 (sumL (fs.take f.toNat))) rfl s28 ?_)
          refine AOps.cons rfl rfl (AOp.move (.sl fs.length (fs.map eF)) rfl s30 ?_)
          refine AOps.cons rfl rfl (AOp.move (.int .i64 f) rfl s27 ?_)
          refine AOps.cons rfl rfl (AOp.indexAddrS rfl rfl rfl sl_22 (by omega) (by omega) ?_)
          refine AOps.cons rfl rfl (AOp.loadF (.sl (at_ fs f).length ((at_ fs f).map eI)) rfl rfl ty_35 (ld1 (by omega) (by omega)) ?_)
          refine AOps.cons rfl rfl (AOp.len (m := (at_ fs f).length) rfl rfl (.inr (.inl ⟨_, rfl⟩)) u_35 ?_)
          refine AOps.cons rfl rfl (AOp.bin (.int .i64 (sumL (fs.take f.toNat) + (((at_ fs f).length) : Int))) rfl rfl rfl (iadd (by omega)) ?_)
          refine AOps.cons rfl rfl (AOp.assign (.int .i64 (sumL (fs.take f.toNat) + (((at_ fs f).length) : Int))) rfl rfl ?_)
          refine AOps.nil ?_
          change AWP _ _ _ _ _ _
          refine AWP.seq ?_
          refine AWP.region (l := [0]) rfl ?_
          refine AOps.cons rfl rfl (AOp.assign (.int .i64 0) rfl rfl ?_)
          refine AOps.nil ?_
          change AWP _ _ _ _ _ _
          refine AWP.block ?_
          refine AWP.loop (fun q35 fq Hq => ∃ (i : Int), q35 = ((((at_ fs f).length : Int) : Int) - i).toNat ∧ fq 9 = .int .i64 i ∧ fq 8 = .int .i64 f ∧ fq 7 = .int .i64 (sumL (fs.take f.toNat) + (((at_ fs f).length) : Int)) ∧ fq 0 = .int .i64 v ∧ fq 1 = .sl fs.length (fs.map eF) ∧ fq 5 = .ptr i11 0 0 ∧ Hq i11 = some (.row 0 ([.sl ((buildT v fs).ed).length (((buildT v fs).ed).flatMap eE), .sl ((buildT v fs).fan).length (((buildT v fs).fan).map eF), .sl ((buildT v fs).rnd).length (((buildT v fs).rnd).map eBo)])) ∧ Mono H0 Hq ∧ (0 ≤ i) ∧ (i ≤ ((at_ fs f).length : Int))) (k := ((((at_ fs f).length : Int) : Int) - 0).toNat) ?_ ?_
          ·
            exact ⟨0, rfl, rfl, s27, rfl, s29, s30, s31, h32, m33, by omega, by omega⟩
          ·
            rintro _ f37 H36 ⟨i, rfl, s38, s39, s40, s41, s42, s43, h44, m45, hi0, hi1⟩
            refine AWP.seq ?_
            refine AWP.seq ?_
            refine AWP.region (l := [0, 1, 2, 3, 4, 5, 6]) rfl ?_
            refine AOps.cons rfl rfl (AOp.move (.int .i64 i) rfl s38 ?_)
            refine AOps.cons rfl rfl (AOp.move (.sl fs.length (fs.map eF)) rfl s42 ?_)
            refine AOps.cons rfl rfl (AOp.move (.int .i64 f) rfl s39 ?_)
            refine AOps.cons rfl rfl (AOp.indexAddrS rfl rfl rfl sl_22 (by omega) (by omega) ?_)
            refine AOps.cons rfl rfl (AOp.loadF (.sl (at_ fs f).length ((at_ fs f).map eI)) rfl rfl ty_35 (ld1 (by omega) (by omega)) ?_)
            refine AOps.cons rfl rfl (AOp.len (m := (at_ fs f).length) rfl rfl (.inr (.inl ⟨_, rfl⟩)) u_35 ?_)
            refine AOps.cons rfl rfl (AOp.bin (.bool (decide (i < (((at_ fs f).length) : Int)))) rfl rfl rfl rfl ?_)
            refine AOps.nil ?_
            change AWP _ _ _ _ _ _
            by_cases b46 : i < (((at_ fs f).length) : Int)
            ·
              refine AWP.condT rfl (decide_eq_true b46) ?_
              refine AWP.skip ?_
              change AWP _ _ _ _ _ _
              refine AWP.seq ?_
              refine AWP.block ?_
              refine AWP.seq ?_
              refine AWP.region (l := [0, 1, 2, 3, 4, 5, 6, 7]) rfl ?_
              refine AOps.cons rfl rfl (AOp.move (.sl fs.length (fs.map eF)) rfl s42 ?_)
              refine AOps.cons rfl rfl (AOp.move (.int .i64 f) rfl s39 ?_)
              refine AOps.cons rfl rfl (AOp.indexAddrS rfl rfl rfl sl_22 (by omega) (by omega) ?_)
              refine AOps.cons rfl rfl (AOp.loadF (.sl (at_ fs f).length ((at_ fs f).map eI)) rfl rfl ty_35 (ld1 (by omega) (by omega)) ?_)
              refine AOps.cons rfl rfl (AOp.move (.int .i64 i) rfl s38 ?_)
              refine AOps.cons rfl rfl (AOp.indexAddrS rfl rfl rfl sl_35 (by omega) (by omega) ?_)
              refine AOps.cons rfl rfl (AOp.loadF (.int .i64 (at_ (at_ fs f) i)) rfl rfl ty_3 (ld1 (by omega) (by omega)) ?_)
              refine AOps.cons rfl rfl (AOp.assign (.int .i64 (at_ (at_ fs f) i)) rfl rfl ?_)
              refine AOps.nil ?_
              change AWP _ _ _ _ _ _
              refine AWP.seq ?_
              refine AWP.region_quiet mixed (by kernel_rfl) 15 [] rfl (by kernel_rfl) (Mono H36) (Mono.refl _) ?_
              refine QE.op rfl rfl (.inl ⟨rfl, fun f' H' hf hM => AOp.move (.sl fs.length (fs.map eF)) rfl ((hf 1 rfl).trans s42) ⟨rfl, hM⟩⟩) ?_
              refine QE.op rfl rfl (.inl ⟨rfl, fun f' H' hf hM => AOp.move (.int .i64 f) rfl ((hf 8 rfl).trans s39) ⟨rfl, hM⟩⟩) ?_
              refine QE.op rfl rfl (.inl ⟨rfl, fun f' H' hf hM => AOp.indexAddrS rfl ((hf 64 rfl).trans rfl) ((hf 65 rfl).trans rfl) sl_22 (by omega) (by omega) ⟨rfl, hM⟩⟩) ?_
              refine QE.op rfl rfl (.inl ⟨rfl, fun f' H' hf hM => AOp.loadF (.sl (at_ fs f).length ((at_ fs f).map eI)) rfl ((hf 66 rfl).trans rfl) ty_35 (ld1 (by omega) (by omega)) ⟨rfl, hM⟩⟩) ?_
              refine QE.op rfl rfl (.inl ⟨rfl, fun f' H' hf hM => AOp.move (.int .i64 i) rfl ((hf 9 rfl).trans s38) ⟨rfl, hM⟩⟩) ?_
              refine QE.op rfl rfl (.inl ⟨rfl, fun f' H' hf hM => AOp.bin (.int .i64 (i + 1)) rfl ((hf 68 rfl).trans rfl) rfl (iadd (by omega)) ⟨rfl, hM⟩⟩) ?_
              refine QE.op rfl rfl (.inl ⟨rfl, fun f' H' hf hM => AOp.move (.sl fs.length (fs.map eF)) rfl ((hf 1 rfl).trans s42) ⟨rfl, hM⟩⟩) ?_
              refine QE.op rfl rfl (.inl ⟨rfl, fun f' H' hf hM => AOp.move (.int .i64 f) rfl ((hf 8 rfl).trans s39) ⟨rfl, hM⟩⟩) ?_
              refine QE.op rfl rfl (.inl ⟨rfl, fun f' H' hf hM => AOp.indexAddrS rfl ((hf 70 rfl).trans rfl) ((hf 71 rfl).trans rfl) sl_22 (by omega) (by omega) ⟨rfl, hM⟩⟩) ?_
              refine QE.op rfl rfl (.inl ⟨rfl, fun f' H' hf hM => AOp.loadF (.sl (at_ fs f).length ((at_ fs f).map eI)) rfl ((hf 72 rfl).trans rfl) ty_35 (ld1 (by omega) (by omega)) ⟨rfl, hM⟩⟩) ?_
              refine QE.op rfl rfl (.inl ⟨rfl, fun f' H' hf hM => AOp.len (m := (at_ fs f).length) rfl ((hf 73 rfl).trans rfl) (.inr (.inl ⟨_, rfl⟩)) u_35 ⟨rfl, hM⟩⟩) ?_
              have r47 := mod_in (x := i + 1) (y := (((at_ fs f).length) : Int)) (by omega)
              refine QE.op rfl rfl (.inl ⟨rfl, fun f' H' hf hM => AOp.remP rfl ((hf 69 rfl).trans rfl) ((hf 74 rfl).trans rfl) (by omega) (by omega) ⟨rfl, hM⟩⟩) ?_
              refine QE.op rfl rfl (.inl ⟨rfl, fun f' H' hf hM => AOp.indexAddrS rfl ((hf 67 rfl).trans rfl) ((hf 75 rfl).trans rfl) sl_35 (by omega) (by omega) ⟨rfl, hM⟩⟩) ?_
              refine QE.op rfl rfl (.inl ⟨rfl, fun f' H' hf hM => AOp.loadF (.int .i64 (at_ (at_ fs f) ((i + 1) % (((at_ fs f).length) : Int)))) rfl ((hf 76 rfl).trans rfl) ty_3 (ld1 (by omega) (by omega)) ⟨rfl, hM⟩⟩) ?_
              refine QE.op rfl rfl (.inl ⟨rfl, fun f' H' hf hM => AOp.assign (.int .i64 (at_ (at_ fs f) ((i + 1) % (((at_ fs f).length) : Int)))) rfl ((hf 77 rfl).trans rfl) ⟨rfl, hM⟩⟩) ?_
              refine QE.done fun H48 m49 => ?_
              have h50 := m49 _ _ h44
              have m51 := m45.trans m49
              refine AOps.nil ?_
              change AWP _ _ _ _ _ _
              refine AWP.seq ?_
              obtain ⟨hz1, hz2, hz3, hz4, hz5⟩ := find_law hok hf0 (by omega) hi0 (by omega)
              refine AWP.region (l := [0, 1, 2, 3, 4, 5, 6, 7, 8]) rfl ?_
              refine AOps.cons rfl rfl (AOp.load (.agg [.sl ((buildT v fs).ed).length (((buildT v fs).ed).flatMap eE), .sl ((buildT v fs).fan).length (((buildT v fs).fan).map eF), .sl ((buildT v fs).rnd).length (((buildT v fs).rnd).map eBo)]) rfl s43 ty_29 h50 rfl ?_)
              refine AOps.cons rfl rfl (AOp.move (.int .i64 (at_ (at_ fs f) i)) rfl rfl ?_)
              refine AOps.cons rfl rfl (AOp.move (.int .i64 (at_ (at_ fs f) ((i + 1) % (((at_ fs f).length) : Int)))) rfl rfl ?_)
              refine AOps.cons rfl rfl (AOp.pcall («as» := [.agg [.sl ((buildT v fs).ed).length (((buildT v fs).ed).flatMap eE), .sl ((buildT v fs).fan).length (((buildT v fs).fan).map eF), .sl ((buildT v fs).rnd).length (((buildT v fs).rnd).map eBo)], .int .i64 (at_ (at_ fs f) i), .int .i64 (at_ (at_ fs f) ((i + 1) % (((at_ fs f).length) : Int)))]) rfl rfl (rfl) tf_19 (c19 _ _ _ (by omega) (by assumption)) ?_)
              intro H52 m53
              have h54 := m53 _ _ h50
              have m55 := m51.trans m53
              refine AOps.cons rfl rfl (AOp.move (.tup [.int .i64 (optI (findS (buildT v fs) (at_ (at_ fs f) i) (at_ (at_ fs f) ((i + 1) % (((at_ fs f).length) : Int))))), .bool ((findS (buildT v fs) (at_ (at_ fs f) i) (at_ (at_ fs f) ((i + 1) % (((at_ fs f).length) : Int)))).isSome)]) rfl rfl ?_)
              refine AOps.cons rfl rfl (AOp.extract (.int .i64 (optI (findS (buildT v fs) (at_ (at_ fs f) i) (at_ (at_ fs f) ((i + 1) % (((at_ fs f).length) : Int)))))) rfl rfl rfl ?_)
              refine AOps.cons rfl rfl (AOp.extract (.bool ((findS (buildT v fs) (at_ (at_ fs f) i) (at_ (at_ fs f) ((i + 1) % (((at_ fs f).length) : Int)))).isSome)) rfl rfl rfl ?_)
              refine AOps.cons rfl rfl (AOp.assign (.int .i64 (optI (findS (buildT v fs) (at_ (at_ fs f) i) (at_ (at_ fs f) ((i + 1) % (((at_ fs f).length) : Int)))))) rfl rfl ?_)
              refine AOps.cons rfl rfl (AOp.assign (.bool ((findS (buildT v fs) (at_ (at_ fs f) i) (at_ (at_ fs f) ((i + 1) % (((at_ fs f).length) : Int)))).isSome)) rfl rfl ?_)
              refine AOps.nil ?_
              change AWP _ _ _ _ _ _
              refine AWP.seq ?_
              refine AWP.region (l := [0, 1, 2, 3, 4, 5, 6, 7, 8, 9, 10, 11, 12, 13, 14, 15, 16, 17, 18, 19, 20, 21, 22, 23, 24, 25, 26, 27, 28, 29, 30, 31]) rfl ?_
              refine AOps.cons rfl rfl (AOp.move (.bool ((findS (buildT v fs) (at_ (at_ fs f) i) (at_ (at_ fs f) ((i + 1) % (((at_ fs f).length) : Int)))).isSome)) rfl rfl ?_)
              refine AOps.cons rfl rfl (AOp.not rfl rfl ?_)
              refine AOps.cons rfl rfl (AOp.move (.bool (!((findS (buildT v fs) (at_ (at_ fs f) i) (at_ (at_ fs f) ((i + 1) % (((at_ fs f).length) : Int)))).isSome))) rfl rfl ?_)
              refine AOps.yes rfl rfl rfl rfl rfl rfl rfl (nb (hz1)) (AOp.move (.int .i64 (at_ (at_ fs f) i)) rfl rfl ?_)
              refine AOps.yes rfl rfl rfl rfl rfl rfl rfl (nb (hz1)) (AOp.move (.int .i64 (at_ (at_ fs f) ((i + 1) % (((at_ fs f).length) : Int)))) rfl rfl ?_)
              refine AOps.yes rfl rfl rfl rfl rfl rfl rfl (nb (hz1)) (AOp.bin (.bool (decide (at_ (at_ fs f) i < at_ (at_ fs f) ((i + 1) % (((at_ fs f).length) : Int))))) rfl rfl rfl rfl ?_)
              refine AOps.yes rfl rfl rfl rfl rfl rfl rfl (nb (hz1)) (AOp.move (.bool (decide (at_ (at_ fs f) i < at_ (at_ fs f) ((i + 1) % (((at_ fs f).length) : Int))))) rfl rfl ?_)
              by_cases b56 : at_ (at_ fs f) i < at_ (at_ fs f) ((i + 1) % (((at_ fs f).length) : Int))
              ·
                refine AOps.yes rfl rfl rfl rfl rfl rfl rfl (decide_eq_true b56) (AOp.fieldAddr rfl s43 fl_29_0 ?_ (hid := ⟨_, h54⟩))
                refine AOps.yes rfl rfl rfl rfl rfl rfl rfl (decide_eq_true b56) (AOp.load (.sl ((buildT v fs).ed).length (((buildT v fs).ed).flatMap eE)) rfl rfl ty_26 h54 rfl ?_)
                refine AOps.yes rfl rfl rfl rfl rfl rfl rfl (decide_eq_true b56) (AOp.move (.int .i64 (optI (findS (buildT v fs) (at_ (at_ fs f) i) (at_ (at_ fs f) ((i + 1) % (((at_ fs f).length) : Int)))))) rfl rfl ?_)
                refine AOps.yes rfl rfl rfl rfl rfl rfl rfl (decide_eq_true b56) (AOp.indexAddrS rfl rfl rfl sl_26 (by omega) (by omega) ?_)
                refine AOps.yes rfl rfl rfl rfl rfl rfl rfl (decide_eq_true b56) (AOp.fieldAddrF rfl rfl fl_37_2 ?_)
                refine AOps.yes rfl rfl rfl rfl rfl rfl rfl (decide_eq_true b56) (AOp.loadF (.int .i64 ((at_ ((buildT v fs).ed) (optI (findS (buildT v fs) (at_ (at_ fs f) i) (at_ (at_ fs f) ((i + 1) % (((at_ fs f).length) : Int)))))).F)) rfl rfl ty_3 (ldF eE_len (by omega) (by omega) rfl (by decide)) ?_)
                refine AOps.yes rfl rfl rfl rfl rfl rfl rfl (decide_eq_true b56) (AOp.move (.int .i64 f) rfl s39 ?_)
                refine AOps.yes rfl rfl rfl rfl rfl rfl rfl (decide_eq_true b56) (AOp.bin (.bool (!decide ((at_ ((buildT v fs).ed) (optI (findS (buildT v fs) (at_ (at_ fs f) i) (at_ (at_ fs f) ((i + 1) % (((at_ fs f).length) : Int)))))).F = f))) rfl rfl rfl ine ?_)
                refine AOps.yes rfl rfl rfl rfl rfl rfl rfl (nb (hz1)) (AOp.pickT (.bool (!decide ((at_ ((buildT v fs).ed) (optI (findS (buildT v fs) (at_ (at_ fs f) i) (at_ (at_ fs f) ((i + 1) % (((at_ fs f).length) : Int)))))).F = f))) rfl rfl (decide_eq_true b56) rfl ?_)
                refine AOps.cons rfl rfl (AOp.pickF (.bool (!decide ((at_ ((buildT v fs).ed) (optI (findS (buildT v fs) (at_ (at_ fs f) i) (at_ (at_ fs f) ((i + 1) % (((at_ fs f).length) : Int)))))).F = f))) rfl rfl (nb (hz1)) rfl ?_)
                refine AOps.cons rfl rfl (AOp.move (.bool (!decide ((at_ ((buildT v fs).ed) (optI (findS (buildT v fs) (at_ (at_ fs f) i) (at_ (at_ fs f) ((i + 1) % (((at_ fs f).length) : Int)))))).F = f))) rfl rfl ?_)
                refine AOps.yes rfl rfl rfl rfl rfl rfl rfl (nb (decide_eq_true ((hz4 (by omega))))) (AOp.move (.int .i64 (at_ (at_ fs f) i)) rfl rfl ?_)
                refine AOps.yes rfl rfl rfl rfl rfl rfl rfl (nb (decide_eq_true ((hz4 (by omega))))) (AOp.move (.int .i64 (at_ (at_ fs f) ((i + 1) % (((at_ fs f).length) : Int)))) rfl rfl ?_)
                refine AOps.yes rfl rfl rfl rfl rfl rfl rfl (nb (decide_eq_true ((hz4 (by omega))))) (AOp.bin (.bool (decide (at_ (at_ fs f) i > at_ (at_ fs f) ((i + 1) % (((at_ fs f).length) : Int))))) rfl rfl rfl rfl ?_)
                refine AOps.yes rfl rfl rfl rfl rfl rfl rfl (nb (decide_eq_true ((hz4 (by omega))))) (AOp.move (.bool (decide (at_ (at_ fs f) i > at_ (at_ fs f) ((i + 1) % (((at_ fs f).length) : Int))))) rfl rfl ?_)
                by_cases b57 : at_ (at_ fs f) i > at_ (at_ fs f) ((i + 1) % (((at_ fs f).length) : Int))
                ·
                  refine AOps.yes rfl rfl rfl rfl rfl rfl rfl (decide_eq_true b57) (AOp.fieldAddr rfl s43 fl_29_0 ?_ (hid := ⟨_, h54⟩))
                  refine AOps.yes rfl rfl rfl rfl rfl rfl rfl (decide_eq_true b57) (AOp.load (.sl ((buildT v fs).ed).length (((buildT v fs).ed).flatMap eE)) rfl rfl ty_26 h54 rfl ?_)
                  refine AOps.yes rfl rfl rfl rfl rfl rfl rfl (decide_eq_true b57) (AOp.move (.int .i64 (optI (findS (buildT v fs) (at_ (at_ fs f) i) (at_ (at_ fs f) ((i + 1) % (((at_ fs f).length) : Int)))))) rfl rfl ?_)
                  refine AOps.yes rfl rfl rfl rfl rfl rfl rfl (decide_eq_true b57) (AOp.indexAddrS rfl rfl rfl sl_26 (by omega) (by omega) ?_)
                  refine AOps.yes rfl rfl rfl rfl rfl rfl rfl (decide_eq_true b57) (AOp.fieldAddrF rfl rfl fl_37_3 ?_)
                  refine AOps.yes rfl rfl rfl rfl rfl rfl rfl (decide_eq_true b57) (AOp.loadF (.int .i64 ((at_ ((buildT v fs).ed) (optI (findS (buildT v fs) (at_ (at_ fs f) i) (at_ (at_ fs f) ((i + 1) % (((at_ fs f).length) : Int)))))).G)) rfl rfl ty_3 (ldF eE_len (by omega) (by omega) rfl (by decide)) ?_)
                  refine AOps.yes rfl rfl rfl rfl rfl rfl rfl (decide_eq_true b57) (AOp.move (.int .i64 f) rfl s39 ?_)
                  refine AOps.yes rfl rfl rfl rfl rfl rfl rfl (decide_eq_true b57) (AOp.bin (.bool (!decide ((at_ ((buildT v fs).ed) (optI (findS (buildT v fs) (at_ (at_ fs f) i) (at_ (at_ fs f) ((i + 1) % (((at_ fs f).length) : Int)))))).G = f))) rfl rfl rfl ine ?_)
                  refine AOps.yes rfl rfl rfl rfl rfl rfl rfl (nb (decide_eq_true ((hz4 (by omega))))) (AOp.pickT (.bool (!decide ((at_ ((buildT v fs).ed) (optI (findS (buildT v fs) (at_ (at_ fs f) i) (at_ (at_ fs f) ((i + 1) % (((at_ fs f).length) : Int)))))).G = f))) rfl rfl (decide_eq_true b57) rfl ?_)
                  refine AOps.cons rfl rfl (AOp.pickF (.bool (!decide ((at_ ((buildT v fs).ed) (optI (findS (buildT v fs) (at_ (at_ fs f) i) (at_ (at_ fs f) ((i + 1) % (((at_ fs f).length) : Int)))))).G = f))) rfl rfl (nb (decide_eq_true ((hz4 (by omega))))) rfl ?_)
                  refine AOps.nil ?_
                  change AWP _ _ _ _ _ _
                  refine AWP.condF rfl (nb (decide_eq_true ((hz5 (by omega))))) ?_
                  refine AWP.skip ?_
                  change AWP _ _ _ _ _ _
                  refine AWP.region (l := [0, 1, 2]) rfl ?_
                  refine AOps.cons rfl rfl (AOp.move (.int .i64 i) rfl s38 ?_)
                  refine AOps.cons rfl rfl (AOp.bin (.int .i64 (i + 1)) rfl rfl rfl (iadd (by omega)) ?_)
                  refine AOps.cons rfl rfl (AOp.assign (.int .i64 (i + 1)) rfl rfl ?_)
                  refine AOps.nil ?_
                  exact ⟨_, by omega, i + 1, rfl, rfl, s39, s40, s41, s42, s43, h54, m55, by omega, by omega⟩
                ·
                  refine AOps.no rfl rfl rfl rfl rfl rfl rfl (ble_of (decide_eq_false b57) (by decide)) ?_
                  refine AOps.no rfl rfl rfl rfl rfl rfl rfl (ble_of (decide_eq_false b57) (by decide)) ?_
                  refine AOps.no rfl rfl rfl rfl rfl rfl rfl (ble_of (decide_eq_false b57) (by decide)) ?_
                  refine AOps.no rfl rfl rfl rfl rfl rfl rfl (ble_of (decide_eq_false b57) (by decide)) ?_
                  refine AOps.no rfl rfl rfl rfl rfl rfl rfl (ble_of (decide_eq_false b57) (by decide)) ?_
                  refine AOps.no rfl rfl rfl rfl rfl rfl rfl (ble_of (decide_eq_false b57) (by decide)) ?_
                  refine AOps.no rfl rfl rfl rfl rfl rfl rfl (ble_of (decide_eq_false b57) (by decide)) ?_
                  refine AOps.no rfl rfl rfl rfl rfl rfl rfl (ble_of (decide_eq_false b57) (by decide)) ?_
                  refine AOps.yes rfl rfl rfl rfl rfl rfl rfl (nb (decide_eq_true ((hz4 (by omega))))) (AOp.pickF (.bool false) rfl rfl (decide_eq_false b57) rfl ?_)
                  refine AOps.cons rfl rfl (AOp.pickF (.bool false) rfl rfl (nb (decide_eq_true ((hz4 (by omega))))) rfl ?_)
                  refine AOps.nil ?_
                  change AWP _ _ _ _ _ _
                  refine AWP.condF rfl rfl ?_
                  refine AWP.skip ?_
                  change AWP _ _ _ _ _ _
                  refine AWP.region (l := [0, 1, 2]) rfl ?_
                  refine AOps.cons rfl rfl (AOp.move (.int .i64 i) rfl s38 ?_)
                  refine AOps.cons rfl rfl (AOp.bin (.int .i64 (i + 1)) rfl rfl rfl (iadd (by omega)) ?_)
                  refine AOps.cons rfl rfl (AOp.assign (.int .i64 (i + 1)) rfl rfl ?_)
                  refine AOps.nil ?_
                  exact ⟨_, by omega, i + 1, rfl, rfl, s39, s40, s41, s42, s43, h54, m55, by omega, by omega⟩
              ·
                refine AOps.no rfl rfl rfl rfl rfl rfl rfl (ble_of (decide_eq_false b56) (by decide)) ?_
                refine AOps.no rfl rfl rfl rfl rfl rfl rfl (ble_of (decide_eq_false b56) (by decide)) ?_
                refine AOps.no rfl rfl rfl rfl rfl rfl rfl (ble_of (decide_eq_false b56) (by decide)) ?_
                refine AOps.no rfl rfl rfl rfl rfl rfl rfl (ble_of (decide_eq_false b56) (by decide)) ?_
                refine AOps.no rfl rfl rfl rfl rfl rfl rfl (ble_of (decide_eq_false b56) (by decide)) ?_
                refine AOps.no rfl rfl rfl rfl rfl rfl rfl (ble_of (decide_eq_false b56) (by decide)) ?_
                refine AOps.no rfl rfl rfl rfl rfl rfl rfl (ble_of (decide_eq_false b56) (by decide)) ?_
                refine AOps.no rfl rfl rfl rfl rfl rfl rfl (ble_of (decide_eq_false b56) (by decide)) ?_
                refine AOps.yes rfl rfl rfl rfl rfl rfl rfl (nb (hz1)) (AOp.pickF (.bool false) rfl rfl (decide_eq_false b56) rfl ?_)
                refine AOps.cons rfl rfl (AOp.pickF (.bool false) rfl rfl (nb (hz1)) rfl ?_)
                refine AOps.cons rfl rfl (AOp.move (.bool false) rfl rfl ?_)
                refine AOps.yes rfl rfl rfl rfl rfl rfl rfl rfl (AOp.move (.int .i64 (at_ (at_ fs f) i)) rfl rfl ?_)
                refine AOps.yes rfl rfl rfl rfl rfl rfl rfl rfl (AOp.move (.int .i64 (at_ (at_ fs f) ((i + 1) % (((at_ fs f).length) : Int)))) rfl rfl ?_)
                refine AOps.yes rfl rfl rfl rfl rfl rfl rfl rfl (AOp.bin (.bool (decide (at_ (at_ fs f) i > at_ (at_ fs f) ((i + 1) % (((at_ fs f).length) : Int))))) rfl rfl rfl rfl ?_)
                refine AOps.yes rfl rfl rfl rfl rfl rfl rfl rfl (AOp.move (.bool (decide (at_ (at_ fs f) i > at_ (at_ fs f) ((i + 1) % (((at_ fs f).length) : Int))))) rfl rfl ?_)
                by_cases b58 : at_ (at_ fs f) i > at_ (at_ fs f) ((i + 1) % (((at_ fs f).length) : Int))
                ·
                  refine AOps.yes rfl rfl rfl rfl rfl rfl rfl (decide_eq_true b58) (AOp.fieldAddr rfl s43 fl_29_0 ?_ (hid := ⟨_, h54⟩))
                  refine AOps.yes rfl rfl rfl rfl rfl rfl rfl (decide_eq_true b58) (AOp.load (.sl ((buildT v fs).ed).length (((buildT v fs).ed).flatMap eE)) rfl rfl ty_26 h54 rfl ?_)
                  refine AOps.yes rfl rfl rfl rfl rfl rfl rfl (decide_eq_true b58) (AOp.move (.int .i64 (optI (findS (buildT v fs) (at_ (at_ fs f) i) (at_ (at_ fs f) ((i + 1) % (((at_ fs f).length) : Int)))))) rfl rfl ?_)
                  refine AOps.yes rfl rfl rfl rfl rfl rfl rfl (decide_eq_true b58) (AOp.indexAddrS rfl rfl rfl sl_26 (by omega) (by omega) ?_)
                  refine AOps.yes rfl rfl rfl rfl rfl rfl rfl (decide_eq_true b58) (AOp.fieldAddrF rfl rfl fl_37_3 ?_)
                  refine AOps.yes rfl rfl rfl rfl rfl rfl rfl (decide_eq_true b58) (AOp.loadF (.int .i64 ((at_ ((buildT v fs).ed) (optI (findS (buildT v fs) (at_ (at_ fs f) i) (at_ (at_ fs f) ((i + 1) % (((at_ fs f).length) : Int)))))).G)) rfl rfl ty_3 (ldF eE_len (by omega) (by omega) rfl (by decide)) ?_)
                  refine AOps.yes rfl rfl rfl rfl rfl rfl rfl (decide_eq_true b58) (AOp.move (.int .i64 f) rfl s39 ?_)
                  refine AOps.yes rfl rfl rfl rfl rfl rfl rfl (decide_eq_true b58) (AOp.bin (.bool (!decide ((at_ ((buildT v fs).ed) (optI (findS (buildT v fs) (at_ (at_ fs f) i) (at_ (at_ fs f) ((i + 1) % (((at_ fs f).length) : Int)))))).G = f))) rfl rfl rfl ine ?_)
                  refine AOps.yes rfl rfl rfl rfl rfl rfl rfl rfl (AOp.pickT (.bool (!decide ((at_ ((buildT v fs).ed) (optI (findS (buildT v fs) (at_ (at_ fs f) i) (at_ (at_ fs f) ((i + 1) % (((at_ fs f).length) : Int)))))).G = f))) rfl rfl (decide_eq_true b58) rfl ?_)
                  refine AOps.cons rfl rfl (AOp.pickF (.bool (!decide ((at_ ((buildT v fs).ed) (optI (findS (buildT v fs) (at_ (at_ fs f) i) (at_ (at_ fs f) ((i + 1) % (((at_ fs f).length) : Int)))))).G = f))) rfl rfl rfl rfl ?_)
                  refine AOps.nil ?_
                  change AWP _ _ _ _ _ _
                  refine AWP.condF rfl (nb (decide_eq_true ((hz5 (by omega))))) ?_
                  refine AWP.skip ?_
                  change AWP _ _ _ _ _ _
                  refine AWP.region (l := [0, 1, 2]) rfl ?_
                  refine AOps.cons rfl rfl (AOp.move (.int .i64 i) rfl s38 ?_)
                  refine AOps.cons rfl rfl (AOp.bin (.int .i64 (i + 1)) rfl rfl rfl (iadd (by omega)) ?_)
                  refine AOps.cons rfl rfl (AOp.assign (.int .i64 (i + 1)) rfl rfl ?_)
                  refine AOps.nil ?_
                  exact ⟨_, by omega, i + 1, rfl, rfl, s39, s40, s41, s42, s43, h54, m55, by omega, by omega⟩
                ·
                  refine AOps.no rfl rfl rfl rfl rfl rfl rfl (ble_of (decide_eq_false b58) (by decide)) ?_
                  refine AOps.no rfl rfl rfl rfl rfl rfl rfl (ble_of (decide_eq_false b58) (by decide)) ?_
                  refine AOps.no rfl rfl rfl rfl rfl rfl rfl (ble_of (decide_eq_false b58) (by decide)) ?_
                  refine AOps.no rfl rfl rfl rfl rfl rfl rfl (ble_of (decide_eq_false b58) (by decide)) ?_
                  refine AOps.no rfl rfl rfl rfl rfl rfl rfl (ble_of (decide_eq_false b58) (by decide)) ?_
                  refine AOps.no rfl rfl rfl rfl rfl rfl rfl (ble_of (decide_eq_false b58) (by decide)) ?_
                  refine AOps.no rfl rfl rfl rfl rfl rfl rfl (ble_of (decide_eq_false b58) (by decide)) ?_
                  refine AOps.no rfl rfl rfl rfl rfl rfl rfl (ble_of (decide_eq_false b58) (by decide)) ?_
                  refine AOps.yes rfl rfl rfl rfl rfl rfl rfl rfl (AOp.pickF (.bool false) rfl rfl (decide_eq_false b58) rfl ?_)
                  refine AOps.cons rfl rfl (AOp.pickF (.bool false) rfl rfl rfl rfl ?_)
                  refine AOps.nil ?_
                  change AWP _ _ _ _ _ _
                  refine AWP.condF rfl rfl ?_
                  refine AWP.skip ?_
                  change AWP _ _ _ _ _ _
                  refine AWP.region (l := [0, 1, 2]) rfl ?_
                  refine AOps.cons rfl rfl (AOp.move (.int .i64 i) rfl s38 ?_)
                  refine AOps.cons rfl rfl (AOp.bin (.int .i64 (i + 1)) rfl rfl rfl (iadd (by omega)) ?_)
                  refine AOps.cons rfl rfl (AOp.assign (.int .i64 (i + 1)) rfl rfl ?_)
                  refine AOps.nil ?_
                  exact ⟨_, by omega, i + 1, rfl, rfl, s39, s40, s41, s42, s43, h54, m55, by omega, by omega⟩
            ·
              refine AWP.condF rfl (decide_eq_false b46) ?_
              refine AWP.exit ?_
              change AWP _ _ _ _ _ _
              refine AWP.region (l := [0, 1, 2]) rfl ?_
              refine AOps.cons rfl rfl (AOp.move (.int .i64 f) rfl s39 ?_)
              refine AOps.cons rfl rfl (AOp.bin (.int .i64 (f + 1)) rfl rfl rfl (iadd (by omega)) ?_)
              refine AOps.cons rfl rfl (AOp.assign (.int .i64 (f + 1)) rfl rfl ?_)
              refine AOps.nil ?_
              exact ⟨_, by omega, f + 1, rfl, rfl, (s40.trans (congrArg (AV.int .i64) (show (sumL (fs.take f.toNat) + (((at_ fs f).length) : Int) : Int) = sumL (fs.take (f + 1).toNat) from by exact (sum_step hf0 (by omega)).symm))), s41, s42, s43, h44, m45, by omega, by omega⟩
        ·
          refine AWP.condF rfl (decide_eq_false b34) ?_
          refine AWP.exit ?_
          change AWP _ _ _ _ _ _
          refine AWP.seq ?_
          refine AWP.region (l := [0]) rfl ?_
          refine AOps.cons rfl rfl (AOp.assign (.int .i64 0) rfl rfl ?_)
          refine AOps.nil ?_
          change AWP _ _ _ _ _ _
          refine AWP.seq ?_
          refine AWP.seq ?_
          refine AWP.region (l := [0]) rfl ?_
          refine AOps.cons rfl rfl (AOp.assign (.int .i64 0) rfl rfl ?_)
          refine AOps.nil ?_
          change AWP _ _ _ _ _ _
          refine AWP.block ?_
          refine AWP.loop (fun q59 fq Hq => ∃ (j : Int), q59 = (((((buildT v fs).ed).length : Int) : Int) - j).toNat ∧ fq 15 = .int .i64 j ∧ fq 14 = .int .i64 (twoN (buildT v fs).ed j) ∧ fq 7 = .int .i64 (sumL (fs.take f.toNat)) ∧ fq 0 = .int .i64 v ∧ fq 5 = .ptr i11 0 0 ∧ Hq i11 = some (.row 0 ([.sl ((buildT v fs).ed).length (((buildT v fs).ed).flatMap eE), .sl ((buildT v fs).fan).length (((buildT v fs).fan).map eF), .sl ((buildT v fs).rnd).length (((buildT v fs).rnd).map eBo)])) ∧ Mono H0 Hq ∧ (0 ≤ j) ∧ (j ≤ (((buildT v fs).ed).length : Int))) (k := (((((buildT v fs).ed).length : Int) : Int) - 0).toNat) ?_ ?_
          ·
            exact ⟨0, rfl, rfl, (congrArg (AV.int .i64) (show (0 : Int) = twoN (buildT v fs).ed 0 from by exact (two_0 _).symm)), s28, s29, s31, h32, m33, by omega, by omega⟩
          ·
            rintro _ f61 H60 ⟨j, rfl, s62, s63, s64, s65, s66, h67, m68, hj0, hj1⟩
            refine AWP.seq ?_
            refine AWP.seq ?_
            refine AWP.region (l := [0, 1, 2, 3, 4]) rfl ?_
            refine AOps.cons rfl rfl (AOp.move (.int .i64 j) rfl s62 ?_)
            refine AOps.cons rfl rfl (AOp.fieldAddr rfl s66 fl_29_0 ?_ (hid := ⟨_, h67⟩))
            refine AOps.cons rfl rfl (AOp.load (.sl ((buildT v fs).ed).length (((buildT v fs).ed).flatMap eE)) rfl rfl ty_26 h67 rfl ?_)
            refine AOps.cons rfl rfl (AOp.len (m := ((buildT v fs).ed).length) rfl rfl (.inr (.inl ⟨_, rfl⟩)) u_26 ?_)
            refine AOps.cons rfl rfl (AOp.bin (.bool (decide (j < ((((buildT v fs).ed).length) : Int)))) rfl rfl rfl rfl ?_)
            refine AOps.nil ?_
            change AWP _ _ _ _ _ _
            by_cases b69 : j < ((((buildT v fs).ed).length) : Int)
            ·
              refine AWP.condT rfl (decide_eq_true b69) ?_
              refine AWP.skip ?_
              change AWP _ _ _ _ _ _
              refine AWP.seq ?_
              refine AWP.block ?_
              refine AWP.seq ?_
              have hcl := two_le (buildT v fs).ed j
              refine AWP.region (l := [0, 1, 2, 3]) rfl ?_
              refine AOps.cons rfl rfl (AOp.load (.agg [.sl ((buildT v fs).ed).length (((buildT v fs).ed).flatMap eE), .sl ((buildT v fs).fan).length (((buildT v fs).fan).map eF), .sl ((buildT v fs).rnd).length (((buildT v fs).rnd).map eBo)]) rfl s66 ty_29 h67 rfl ?_)
              refine AOps.cons rfl rfl (AOp.move (.int .i64 j) rfl s62 ?_)
              refine AOps.cons rfl rfl (AOp.pcall («as» := [.agg [.sl ((buildT v fs).ed).length (((buildT v fs).ed).flatMap eE), .sl ((buildT v fs).fan).length (((buildT v fs).fan).map eF), .sl ((buildT v fs).rnd).length (((buildT v fs).rnd).map eBo)], .int .i64 j]) rfl rfl (rfl) tf_18 (c18 _ _ (by omega)) ?_)
              intro H70 m71
              have h72 := m71 _ _ h67
              have m73 := m68.trans m71
              refine AOps.cons rfl rfl (AOp.not rfl rfl ?_)
              refine AOps.nil ?_
              change AWP _ _ _ _ _ _
              rcases Bool.eq_false_or_eq_true (edgedS (buildT v fs) j) with b74 | b74
              ·
                refine AWP.condF rfl (nb b74) ?_
                refine AWP.skip ?_
                change AWP _ _ _ _ _ _
                refine AWP.region (l := [0, 1, 2]) rfl ?_
                refine AOps.cons rfl rfl (AOp.move (.int .i64 j) rfl s62 ?_)
                refine AOps.cons rfl rfl (AOp.bin (.int .i64 (j + 1)) rfl rfl rfl (iadd (by omega)) ?_)
                refine AOps.cons rfl rfl (AOp.assign (.int .i64 (j + 1)) rfl rfl ?_)
                refine AOps.nil ?_
                exact ⟨_, by omega, j + 1, rfl, rfl, (s63.trans (congrArg (AV.int .i64) (show (twoN (buildT v fs).ed j : Int) = twoN (buildT v fs).ed (j + 1) from by exact (two_F hj0 (by omega) (edged_min hj0 (by omega) b74)).symm))), s64, s65, s66, h72, m73, by omega, by omega⟩
              ·
                refine AWP.condT rfl (nb b74) ?_
                refine AWP.region (l := [0, 1, 2]) rfl ?_
                refine AOps.cons rfl rfl (AOp.move (.int .i64 (twoN (buildT v fs).ed j)) rfl s63 ?_)
                refine AOps.cons rfl rfl (AOp.bin (.int .i64 (twoN (buildT v fs).ed j + 1)) rfl rfl rfl (iadd (by omega)) ?_)
                refine AOps.cons rfl rfl (AOp.assign (.int .i64 (twoN (buildT v fs).ed j + 1)) rfl rfl ?_)
                refine AOps.nil ?_
                change AWP _ _ _ _ _ _
                refine AWP.region (l := [0, 1, 2]) rfl ?_
                refine AOps.cons rfl rfl (AOp.move (.int .i64 j) rfl s62 ?_)
                refine AOps.cons rfl rfl (AOp.bin (.int .i64 (j + 1)) rfl rfl rfl (iadd (by omega)) ?_)
                refine AOps.cons rfl rfl (AOp.assign (.int .i64 (j + 1)) rfl rfl ?_)
                refine AOps.nil ?_
                exact ⟨_, by omega, j + 1, rfl, rfl, (congrArg (AV.int .i64) (show (twoN (buildT v fs).ed j + 1 : Int) = twoN (buildT v fs).ed (j + 1) from by exact (two_T hj0 (by omega) (edged_not hj0 (by omega) b74)).symm)), s64, s65, s66, h72, m73, by omega, by omega⟩
            ·
              refine AWP.condF rfl (decide_eq_false b69) ?_
              refine AWP.exit ?_
              change AWP _ _ _ _ _ _
              refine AWP.seq ?_
              refine AWP.region (l := [0]) rfl ?_
              refine AOps.cons rfl rfl (AOp.assign (.int .i64 0) rfl rfl ?_)
              refine AOps.nil ?_
              change AWP _ _ _ _ _ _
              refine AWP.seq ?_
              refine AWP.seq ?_
              refine AWP.region (l := [0]) rfl ?_
              refine AOps.cons rfl rfl (AOp.assign (.int .i64 0) rfl rfl ?_)
              refine AOps.nil ?_
              change AWP _ _ _ _ _ _
              refine AWP.block ?_
              refine AWP.loop (fun q75 fq Hq => ∃ (c : Int), q75 = (((((buildT v fs).fan).length : Int) : Int) - c).toNat ∧ fq 17 = .int .i64 c ∧ fq 16 = .int .i64 (sumL ((buildT v fs).fan.take c.toNat)) ∧ fq 14 = .int .i64 (twoN (buildT v fs).ed j) ∧ fq 7 = .int .i64 (sumL (fs.take f.toNat)) ∧ fq 0 = .int .i64 v ∧ fq 5 = .ptr i11 0 0 ∧ Hq i11 = some (.row 0 ([.sl ((buildT v fs).ed).length (((buildT v fs).ed).flatMap eE), .sl ((buildT v fs).fan).length (((buildT v fs).fan).map eF), .sl ((buildT v fs).rnd).length (((buildT v fs).rnd).map eBo)])) ∧ Mono H0 Hq ∧ (0 ≤ c) ∧ (c ≤ (((buildT v fs).fan).length : Int))) (k := (((((buildT v fs).fan).length : Int) : Int) - 0).toNat) ?_ ?_
              ·
                exact ⟨0, rfl, rfl, (congrArg (AV.int .i64) (show (0 : Int) = sumL ((buildT v fs).fan.take (0 : Int).toNat) from by rfl)), s63, s64, s65, s66, h67, m68, by omega, by omega⟩
              ·
                rintro _ f77 H76 ⟨c, rfl, s78, s79, s80, s81, s82, s83, h84, m85, hc0, hc1⟩
                refine AWP.seq ?_
                refine AWP.seq ?_
                refine AWP.region (l := [0, 1, 2, 3, 4]) rfl ?_
                refine AOps.cons rfl rfl (AOp.move (.int .i64 c) rfl s78 ?_)
                refine AOps.cons rfl rfl (AOp.fieldAddr rfl s83 fl_29_1 ?_ (hid := ⟨_, h84⟩))
                refine AOps.cons rfl rfl (AOp.load (.sl ((buildT v fs).fan).length (((buildT v fs).fan).map eF)) rfl rfl ty_22 h84 rfl ?_)
                refine AOps.cons rfl rfl (AOp.len (m := ((buildT v fs).fan).length) rfl rfl (.inr (.inl ⟨_, rfl⟩)) u_22 ?_)
                refine AOps.cons rfl rfl (AOp.bin (.bool (decide (c < ((((buildT v fs).fan).length) : Int)))) rfl rfl rfl rfl ?_)
                refine AOps.nil ?_
                change AWP _ _ _ _ _ _
                by_cases b86 : c < ((((buildT v fs).fan).length) : Int)
                ·
                  refine AWP.condT rfl (decide_eq_true b86) ?_
                  refine AWP.skip ?_
                  change AWP _ _ _ _ _ _
                  refine AWP.seq ?_
                  refine AWP.block ?_
                  have hsl3 := sum_le (fs := (buildT v fs).fan) c
                  have hsl4 := corners_law hok
                  rw [← sides_sum] at hsl4
                  have hq2 : (at_ (buildT v fs).fan c).length ≤ 1048576 := ht4 _ (at_mem (by omega) (by omega))
                  refine AWP.region (l := [0, 1, 2, 3, 4, 5, 6, 7, 8]) rfl ?_
                  refine AOps.cons rfl rfl (AOp.move (.int .i64 (sumL ((buildT v fs).fan.take c.toNat))) rfl s79 ?_)
                  refine AOps.cons rfl rfl (AOp.fieldAddr rfl s83 fl_29_1 ?_ (hid := ⟨_, h84⟩))
                  refine AOps.cons rfl rfl (AOp.load (.sl ((buildT v fs).fan).length (((buildT v fs).fan).map eF)) rfl rfl ty_22 h84 rfl ?_)
                  refine AOps.cons rfl rfl (AOp.move (.int .i64 c) rfl s78 ?_)
                  refine AOps.cons rfl rfl (AOp.indexAddrS rfl rfl rfl sl_22 (by omega) (by omega) ?_)
                  refine AOps.cons rfl rfl (AOp.loadF (.sl (at_ ((buildT v fs).fan) c).length ((at_ ((buildT v fs).fan) c).map eI)) rfl rfl ty_35 (ld1 (by omega) (by omega)) ?_)
                  refine AOps.cons rfl rfl (AOp.len (m := (at_ ((buildT v fs).fan) c).length) rfl rfl (.inr (.inl ⟨_, rfl⟩)) u_35 ?_)
                  refine AOps.cons rfl rfl (AOp.bin (.int .i64 (sumL ((buildT v fs).fan.take c.toNat) + (((at_ ((buildT v fs).fan) c).length) : Int))) rfl rfl rfl (iadd (by omega)) ?_)
                  refine AOps.cons rfl rfl (AOp.assign (.int .i64 (sumL ((buildT v fs).fan.take c.toNat) + (((at_ ((buildT v fs).fan) c).length) : Int))) rfl rfl ?_)
                  refine AOps.nil ?_
                  change AWP _ _ _ _ _ _
                  refine AWP.region (l := [0, 1, 2]) rfl ?_
                  refine AOps.cons rfl rfl (AOp.move (.int .i64 c) rfl s78 ?_)
                  refine AOps.cons rfl rfl (AOp.bin (.int .i64 (c + 1)) rfl rfl rfl (iadd (by omega)) ?_)
                  refine AOps.cons rfl rfl (AOp.assign (.int .i64 (c + 1)) rfl rfl ?_)
                  refine AOps.nil ?_
                  exact ⟨_, by omega, c + 1, rfl, rfl, (congrArg (AV.int .i64) (show (sumL ((buildT v fs).fan.take c.toNat) + (((at_ ((buildT v fs).fan) c).length) : Int) : Int) = sumL ((buildT v fs).fan.take (c + 1).toNat) from by exact (sum_step hc0 (by omega)).symm)), s80, s81, s82, s83, h84, m85, by omega, by omega⟩
                ·
                  refine AWP.condF rfl (decide_eq_false b86) ?_
                  refine AWP.exit ?_
                  change AWP _ _ _ _ _ _
                  refine AWP.seq ?_
                  have k1 := two_law hok
                  have k2 := corners_law hok
                  have k3 := fans_len hok
                  have hje : j = (buildT v fs).ed.length := by omega
                  have hce : c = (buildT v fs).fan.length := by omega
                  have hfe : f = fs.length := by omega
                  have k4 : sumL (fs.take f.toNat) = (sides fs).length := by rw [hfe, take_all (Int.le_refl _), sides_sum]
                  have k5 : sumL ((buildT v fs).fan.take c.toNat) = sumL (buildT v fs).fan := by rw [hce, take_all (Int.le_refl _)]
                  rw [← hje] at k1
                  refine AWP.region (l := [0, 1, 2, 3, 4, 5, 6, 7, 8, 9, 10, 11, 12, 13, 14, 15, 16, 17, 18, 19]) rfl ?_
                  refine AOps.cons rfl rfl (AOp.move (.int .i64 (twoN (buildT v fs).ed j)) rfl s80 ?_)
                  refine AOps.cons rfl rfl (AOp.move (.int .i64 (sumL (fs.take f.toNat))) rfl s81 ?_)
                  refine AOps.cons rfl rfl (AOp.fieldAddr rfl s83 fl_29_0 ?_ (hid := ⟨_, h84⟩))
                  refine AOps.cons rfl rfl (AOp.load (.sl ((buildT v fs).ed).length (((buildT v fs).ed).flatMap eE)) rfl rfl ty_26 h84 rfl ?_)
                  refine AOps.cons rfl rfl (AOp.len (m := ((buildT v fs).ed).length) rfl rfl (.inr (.inl ⟨_, rfl⟩)) u_26 ?_)
                  refine AOps.cons rfl rfl (AOp.bin (.int .i64 (sumL (fs.take f.toNat) - ((((buildT v fs).ed).length) : Int))) rfl rfl rfl (isub (by omega)) ?_)
                  refine AOps.cons rfl rfl (AOp.bin (.bool (decide (twoN (buildT v fs).ed j = sumL (fs.take f.toNat) - ((((buildT v fs).ed).length) : Int)))) rfl rfl rfl ieq ?_)
                  refine AOps.cons rfl rfl (AOp.move (.bool (decide (twoN (buildT v fs).ed j = sumL (fs.take f.toNat) - ((((buildT v fs).ed).length) : Int)))) rfl rfl ?_)
                  by_cases b87 : twoN (buildT v fs).ed j = sumL (fs.take f.toNat) - ((((buildT v fs).ed).length) : Int)
                  ·
                    refine AOps.yes rfl rfl rfl rfl rfl rfl rfl (decide_eq_true b87) (AOp.move (.int .i64 (sumL ((buildT v fs).fan.take c.toNat))) rfl s79 ?_)
                    refine AOps.yes rfl rfl rfl rfl rfl rfl rfl (decide_eq_true b87) (AOp.move (.int .i64 (sumL (fs.take f.toNat))) rfl s81 ?_)
                    refine AOps.yes rfl rfl rfl rfl rfl rfl rfl (decide_eq_true b87) (AOp.bin (.bool (decide (sumL ((buildT v fs).fan.take c.toNat) = sumL (fs.take f.toNat)))) rfl rfl rfl ieq ?_)
                    refine AOps.cons rfl rfl (AOp.pickT (.bool (decide (sumL ((buildT v fs).fan.take c.toNat) = sumL (fs.take f.toNat)))) rfl rfl (decide_eq_true b87) rfl ?_)
                    refine AOps.cons rfl rfl (AOp.move (.bool (decide (sumL ((buildT v fs).fan.take c.toNat) = sumL (fs.take f.toNat)))) rfl rfl ?_)
                    by_cases b88 : sumL ((buildT v fs).fan.take c.toNat) = sumL (fs.take f.toNat)
                    ·
                      refine AOps.yes rfl rfl rfl rfl rfl rfl rfl (decide_eq_true b88) (AOp.fieldAddr rfl s83 fl_29_1 ?_ (hid := ⟨_, h84⟩))
                      refine AOps.yes rfl rfl rfl rfl rfl rfl rfl (decide_eq_true b88) (AOp.load (.sl ((buildT v fs).fan).length (((buildT v fs).fan).map eF)) rfl rfl ty_22 h84 rfl ?_)
                      refine AOps.yes rfl rfl rfl rfl rfl rfl rfl (decide_eq_true b88) (AOp.len (m := ((buildT v fs).fan).length) rfl rfl (.inr (.inl ⟨_, rfl⟩)) u_22 ?_)
                      refine AOps.yes rfl rfl rfl rfl rfl rfl rfl (decide_eq_true b88) (AOp.move (.int .i64 v) rfl s82 ?_)
                      refine AOps.yes rfl rfl rfl rfl rfl rfl rfl (decide_eq_true b88) (AOp.bin (.bool (decide (((((buildT v fs).fan).length) : Int) = v))) rfl rfl rfl ieq ?_)
                      refine AOps.cons rfl rfl (AOp.pickT (.bool (decide (((((buildT v fs).fan).length) : Int) = v))) rfl rfl (decide_eq_true b88) rfl ?_)
                      refine AOps.cons rfl rfl (AOp.assign (.bool (decide (((((buildT v fs).fan).length) : Int) = v))) rfl rfl ?_)
                      refine AOps.nil ?_
                      change AWP _ _ _ _ _ _
                      refine AWP.ret ?_
                      refine ⟨_, _, Ghost.refl, .inr rfl, _, Res.one rfl rfl, ?_, m85⟩
                      exact (congrArg AV.bool (show (decide (((((buildT v fs).fan).length) : Int) = v) : Bool) = true from by first | rfl | (exact decide_eq_true (by omega)) | (exfalso; omega)))
                    ·
                      refine AOps.no rfl rfl rfl rfl rfl rfl rfl (ble_of (decide_eq_false b88) (by decide)) ?_
                      refine AOps.no rfl rfl rfl rfl rfl rfl rfl (ble_of (decide_eq_false b88) (by decide)) ?_
                      refine AOps.no rfl rfl rfl rfl rfl rfl rfl (ble_of (decide_eq_false b88) (by decide)) ?_
                      refine AOps.no rfl rfl rfl rfl rfl rfl rfl (ble_of (decide_eq_false b88) (by decide)) ?_
                      refine AOps.no rfl rfl rfl rfl rfl rfl rfl (ble_of (decide_eq_false b88) (by decide)) ?_
                      refine AOps.cons rfl rfl (AOp.pickF (.bool false) rfl rfl (decide_eq_false b88) rfl ?_)
                      refine AOps.cons rfl rfl (AOp.assign (.bool false) rfl rfl ?_)
                      refine AOps.nil ?_
                      change AWP _ _ _ _ _ _
                      refine AWP.ret ?_
                      refine ⟨_, _, Ghost.refl, .inr rfl, _, Res.one rfl rfl, ?_, m85⟩
                      exact (congrArg AV.bool (show (false : Bool) = true from by first | rfl | (exact decide_eq_true (by omega)) | (exfalso; omega)))
                  ·
                    refine AOps.no rfl rfl rfl rfl rfl rfl rfl (ble_of (decide_eq_false b87) (by decide)) ?_
                    refine AOps.no rfl rfl rfl rfl rfl rfl rfl (ble_of (decide_eq_false b87) (by decide)) ?_
                    refine AOps.no rfl rfl rfl rfl rfl rfl rfl (ble_of (decide_eq_false b87) (by decide)) ?_
                    refine AOps.cons rfl rfl (AOp.pickF (.bool false) rfl rfl (decide_eq_false b87) rfl ?_)
                    refine AOps.cons rfl rfl (AOp.move (.bool false) rfl rfl ?_)
                    refine AOps.no rfl rfl rfl rfl rfl rfl rfl (ble_of rfl (by decide)) ?_
                    refine AOps.no rfl rfl rfl rfl rfl rfl rfl (ble_of rfl (by decide)) ?_
                    refine AOps.no rfl rfl rfl rfl rfl rfl rfl (ble_of rfl (by decide)) ?_
                    refine AOps.no rfl rfl rfl rfl rfl rfl rfl (ble_of rfl (by decide)) ?_
                    refine AOps.no rfl rfl rfl rfl rfl rfl rfl (ble_of rfl (by decide)) ?_
                    refine AOps.cons rfl rfl (AOp.pickF (.bool false) rfl rfl rfl rfl ?_)
                    refine AOps.cons rfl rfl (AOp.assign (.bool false) rfl rfl ?_)
                    refine AOps.nil ?_
                    change AWP _ _ _ _ _ _
                    refine AWP.ret ?_
                    refine ⟨_, _, Ghost.refl, .inr rfl, _, Res.one rfl rfl, ?_, m85⟩
                    exact (congrArg AV.bool (show (false : Bool) = true from by first | rfl | (exact decide_eq_true (by omega)) | (exfalso; omega)))
    ·
      refine AWP.condT rfl (nb (decide_eq_false b23)) ?_
      refine AWP.seq ?_
      refine AWP.region (l := [0, 1, 2, 3, 4]) rfl ?_
      refine AOps.cons rfl rfl (AOp.fieldAddr rfl rfl fl_29_0 ?_ (hid := ⟨_, h19⟩))
      refine AOps.cons rfl rfl (AOp.load (.sl ((buildT v fs).ed).length (((buildT v fs).ed).flatMap eE)) rfl rfl ty_26 h19 rfl ?_)
      refine AOps.cons rfl rfl (AOp.len (m := ((buildT v fs).ed).length) rfl rfl (.inr (.inl ⟨_, rfl⟩)) u_26 ?_)
      refine AOps.cons rfl rfl (AOp.bin (.bool (decide (((((buildT v fs).ed).length) : Int) = 0))) rfl rfl rfl ieq ?_)
      refine AOps.cons rfl rfl (AOp.assign (.bool (decide (((((buildT v fs).ed).length) : Int) = 0))) rfl rfl ?_)
      refine AOps.nil ?_
      change AWP _ _ _ _ _ _
      refine AWP.ret ?_
      refine ⟨_, _, Ghost.refl, .inr rfl, _, Res.one rfl rfl, ?_, m22⟩
      exact (congrArg AV.bool (show (decide (((((buildT v fs).ed).length) : Int) = 0) : Bool) = true from by exact decide_eq_true (by rw [ed_none b23]; rfl)))

theorem c4 (v : Int) (fs : List (List Int)) (hfs : fs.length ≤ 1048576) (hfss : ∀ l ∈ fs, l.length ≤ 1048576) : PC Try.prog 4 [.int .i64 v, .sl fs.length (fs.map eF)] (.bool true) := by
  intro H0
  refine ACalls.of_body' (n := 108) rfl rfl rfl rfl ?_
  have m0 := Mono.refl H0
  refine AWP.seq ?_
  refine AWP.region (l := [0]) rfl ?_
  refine AOps.cons rfl rfl (AOp.assign (.bool false) rfl rfl ?_)
  refine AOps.nil ?_
  change AWP _ _ _ _ _ _
  refine AWP.seq ?_
  refine AWP.seq ?_
  refine AWP.region (l := [0, 1]) rfl ?_
  refine AOps.cons rfl rfl (AOp.pcall («as» := []) rfl rfl (rfl) tf_9 (c9) ?_)
  intro H1 m2
  have m3 := m0.trans m2
  refine AOps.cons rfl rfl (AOp.not rfl rfl ?_)
  refine AOps.nil ?_
  change AWP _ _ _ _ _ _
  refine AWP.condF rfl rfl ?_
  refine AWP.skip ?_
  change AWP _ _ _ _ _ _
  refine AWP.seq ?_
  refine AWP.seq ?_
  refine AWP.region (l := [0, 1, 2]) rfl ?_
  refine AOps.cons rfl rfl (AOp.move (.int .i64 v) rfl rfl ?_)
  refine AOps.cons rfl rfl (AOp.move (.sl fs.length (fs.map eF)) rfl rfl ?_)
  refine AOps.cons rfl rfl (AOp.pcall («as» := [.int .i64 v, .sl fs.length (fs.map eF)]) rfl rfl (rfl) tf_10 (c10 _ _ (by assumption) (by assumption)) ?_)
  intro H4 m5
  have m6 := m3.trans m5
  refine AOps.nil ?_
  change AWP _ _ _ _ _ _
  by_cases b7 : greatS v fs
  ·
    refine AWP.condT rfl (decide_eq_true b7) ?_
    refine AWP.seq ?_
    refine AWP.region (l := [0]) rfl ?_
    refine AOps.cons rfl rfl (AOp.assign (.bool true) rfl rfl ?_)
    refine AOps.nil ?_
    change AWP _ _ _ _ _ _
    refine AWP.ret ?_
    refine ⟨_, _, Ghost.refl, .inr rfl, _, Res.one rfl rfl, ?_, m6⟩
    exact rfl
  ·
    refine AWP.condF rfl (decide_eq_false b7) ?_
    refine AWP.skip ?_
    change AWP _ _ _ _ _ _
    refine AWP.seq ?_
    have hgn := great_no b7
    have hsm := build_small b7
    have hsl : (sides fs).length ≤ 4000000000 := by omega
    have ht1 := hsm.ed
    have ht2 := hsm.fan
    have ht3 := hsm.rnd
    have ht4 := hsm.fans
    have ht5 := hsm.ok
    have ht6 := hsm.sorted
    refine AWP.region (l := [0, 1]) rfl ?_
    refine AOps.cons rfl rfl (AOp.buildSlice (cells := []) rfl u_22 ts_35 tz_35 rfl rfl rfl ?_)
    intro i8 H9 n10 h11 k12
    have z13 := Mono.free m6 n10
    have m14 := Mono.new m6 n10 k12
    obtain ⟨v15, e16⟩ : ∃ v : AV, v = .slm i8 0 1 0 0 := ⟨_, rfl⟩
    have o17 : Own H0 H9 1 v15 0 [] := .inr ⟨_, _, e16, h11, z13, rfl⟩
    refine AOps.cons rfl rfl (AOp.assign (v15) rfl e16.symm ?_)
    refine AOps.nil ?_
    change AWP _ _ _ _ _ _
    refine AWP.seq ?_
    refine AWP.seq ?_
    refine AWP.region (l := [0]) rfl ?_
    refine AOps.cons rfl rfl (AOp.assign (.int .i64 0) rfl rfl ?_)
    refine AOps.nil ?_
    change AWP _ _ _ _ _ _
    refine AWP.block ?_
    refine AWP.loop (fun q18 fq Hq => ∃ (f : Int) (w5 : AV), q18 = (((fs.length : Int) : Int) - f).toNat ∧ fq 6 = .int .i64 f ∧ fq 0 = .int .i64 v ∧ fq 1 = .sl fs.length (fs.map eF) ∧ fq 4 = .bool false ∧ fq 5 = w5 ∧ Own H0 Hq 1 w5 (backS (fs.take f.toNat)).length ((backS (fs.take f.toNat)).map eF) ∧ Mono H0 Hq ∧ (0 ≤ f) ∧ (f ≤ (fs.length : Int))) (k := (((fs.length : Int) : Int) - 0).toNat) ?_ ?_
    ·
      exact ⟨0, v15, rfl, rfl, rfl, rfl, rfl, rfl, (have hx : ([] : List (List Int)) = backS (fs.take (0 : Int).toNat) := (by rfl); Own.re o17 (congrArg List.length hx) (congrArg (fun l : List (List Int) => l.map eF) hx)), m14, by omega, by omega⟩
    ·
      rintro _ f20 H19 ⟨f, w5, rfl, s21, s22, s23, s24, s25, o26, m27, hf0, hf1⟩
      refine AWP.seq ?_
      refine AWP.seq ?_
      refine AWP.region (l := [0, 1, 2, 3]) rfl ?_
      refine AOps.cons rfl rfl (AOp.move (.int .i64 f) rfl s21 ?_)
      refine AOps.cons rfl rfl (AOp.move (.sl fs.length (fs.map eF)) rfl s23 ?_)
      refine AOps.cons rfl rfl (AOp.len (m := fs.length) rfl rfl (.inr (.inl ⟨_, rfl⟩)) u_22 ?_)
      refine AOps.cons rfl rfl (AOp.bin (.bool (decide (f < (fs.length : Int)))) rfl rfl rfl rfl ?_)
      refine AOps.nil ?_
      change AWP _ _ _ _ _ _
      by_cases b28 : f < (fs.length : Int)
      ·
        refine AWP.condT rfl (decide_eq_true b28) ?_
        refine AWP.skip ?_
        change AWP _ _ _ _ _ _
        refine AWP.seq ?_
        refine AWP.block ?_
        refine AWP.seq ?_
        have hq : (at_ fs f).length ≤ 1048576 := hfss _ (at_mem (by omega) (by omega))
        refine AWP.region (l := [0, 1]) rfl ?_
        refine AOps.cons rfl rfl (AOp.buildSlice (cells := []) rfl u_35 ts_3 tz_3 rfl rfl rfl ?_)
        intro i29 H30 n31 h32 k33
        have z34 := Mono.free m27 n31
        have o35 := Own.keep o26 k33 (Own.notnew o26 n31)
        have no36 := Own.notnew o26 n31
        have m37 := Mono.new m27 n31 k33
        obtain ⟨v38, e39⟩ : ∃ v : AV, v = .slm i29 0 1 0 0 := ⟨_, rfl⟩
        have o40 : Own H0 H30 1 v38 0 [] := .inr ⟨_, _, e39, h32, z34, rfl⟩
        have sp41 : Sep v38 w5 := by rw [e39]; exact Sep.ofNotId no36
        refine AOps.cons rfl rfl (AOp.assign (v38) rfl e39.symm ?_)
        refine AOps.nil ?_
        change AWP _ _ _ _ _ _
        refine AWP.seq ?_
        refine AWP.seq ?_
        refine AWP.region (l := [0, 1, 2, 3, 4, 5, 6]) rfl ?_
        refine AOps.cons rfl rfl (AOp.move (.sl fs.length (fs.map eF)) rfl s23 ?_)
        refine AOps.cons rfl rfl (AOp.move (.int .i64 f) rfl s21 ?_)
        refine AOps.cons rfl rfl (AOp.indexAddrS rfl rfl rfl sl_22 (by omega) (by omega) ?_)
        refine AOps.cons rfl rfl (AOp.loadF (.sl (at_ fs f).length ((at_ fs f).map eI)) rfl rfl ty_35 (ld1 (by omega) (by omega)) ?_)
        refine AOps.cons rfl rfl (AOp.len (m := (at_ fs f).length) rfl rfl (.inr (.inl ⟨_, rfl⟩)) u_35 ?_)
        refine AOps.cons rfl rfl (AOp.bin (.int .i64 ((((at_ fs f).length) : Int) - 1)) rfl rfl rfl (isub (by omega)) ?_)
        refine AOps.cons rfl rfl (AOp.assign (.int .i64 ((((at_ fs f).length) : Int) - 1)) rfl rfl ?_)
        refine AOps.nil ?_
        change AWP _ _ _ _ _ _
        refine AWP.block ?_
        refine AWP.loop (fun q42 fq Hq => ∃ (i : Int) (w7 : AV), q42 = (i + 1).toNat ∧ fq 8 = .int .i64 i ∧ fq 6 = .int .i64 f ∧ fq 0 = .int .i64 v ∧ fq 1 = .sl fs.length (fs.map eF) ∧ fq 4 = .bool false ∧ fq 5 = w5 ∧ fq 7 = w7 ∧ Own H0 Hq 1 w7 (((at_ fs f).drop (i + 1).toNat).reverse).length ((((at_ fs f).drop (i + 1).toNat).reverse).map eI) ∧ Own H0 Hq 1 w5 ((backS (fs.take f.toNat)).length) ((backS (fs.take f.toNat)).map eF) ∧ Sep w7 w5 ∧ Mono H0 Hq ∧ (-1 ≤ i) ∧ (i < (at_ fs f).length)) (k := ((((at_ fs f).length : Int) - 1) + 1).toNat) ?_ ?_
        ·
          exact ⟨((at_ fs f).length : Int) - 1, v38, rfl, rfl, s21, s22, s23, s24, s25, rfl, (have hx : ([] : List Int) = ((at_ fs f).drop ((((at_ fs f).length : Int) - 1) + 1).toNat).reverse := (by exact rev_start); Own.re o40 (congrArg List.length hx) (congrArg (fun l : List Int => l.map eI) hx)), o35, sp41, m37, by omega, by omega⟩
        ·
          rintro _ f44 H43 ⟨i, w7, rfl, s45, s46, s47, s48, s49, s50, s51, o52, o53, sp54, m55, hi0, hi1⟩
          refine AWP.seq ?_
          refine AWP.seq ?_
          refine AWP.region (l := [0, 1]) rfl ?_
          refine AOps.cons rfl rfl (AOp.move (.int .i64 i) rfl s45 ?_)
          refine AOps.cons rfl rfl (AOp.bin (.bool (decide (i ≥ 0))) rfl rfl rfl rfl ?_)
          refine AOps.nil ?_
          change AWP _ _ _ _ _ _
          by_cases b56 : i ≥ 0
          ·
            refine AWP.condT rfl (decide_eq_true b56) ?_
            refine AWP.skip ?_
            change AWP _ _ _ _ _ _
            refine AWP.seq ?_
            refine AWP.block ?_
            refine AWP.region (l := [0, 1, 2, 3, 4, 5, 6, 7, 8, 9, 10]) rfl ?_
            refine AOps.cons rfl rfl (AOp.move (w7) rfl s51 ?_)
            refine AOps.cons rfl rfl (AOp.move (.sl fs.length (fs.map eF)) rfl s48 ?_)
            refine AOps.cons rfl rfl (AOp.move (.int .i64 f) rfl s46 ?_)
            refine AOps.cons rfl rfl (AOp.indexAddrS rfl rfl rfl sl_22 (by omega) (by omega) ?_)
            refine AOps.cons rfl rfl (AOp.loadF (.sl (at_ fs f).length ((at_ fs f).map eI)) rfl rfl ty_35 (ld1 (by omega) (by omega)) ?_)
            refine AOps.cons rfl rfl (AOp.move (.int .i64 i) rfl s45 ?_)
            refine AOps.cons rfl rfl (AOp.indexAddrS rfl rfl rfl sl_35 (by omega) (by omega) ?_)
            refine AOps.cons rfl rfl (AOp.loadF (.int .i64 (at_ (at_ fs f) i)) rfl rfl ty_3 (ld1 (by omega) (by omega)) ?_)
            refine AOps.cons rfl rfl (AOp.buildSlice (cells := [.int .i64 (at_ (at_ fs f) i)]) rfl u_35 ts_3 tz_3 rfl rfl rfl ?_)
            intro i57 H58 n59 h60 k61
            have z62 := Mono.free m55 n59
            have o63 := Own.keep o52 k61 (Own.notnew o52 n59)
            have no64 := Own.notnew o52 n59
            have o65 := Own.keep o53 k61 (Own.notnew o53 n59)
            have no66 := Own.notnew o53 n59
            have m67 := Mono.new m55 n59 k61
            refine AOps.cons rfl rfl (AOp.append_own (es := 1) (m := 1) (len := ((((at_ fs f).drop (i + 1).toNat).reverse).length)) (old := (((at_ fs f).drop (i + 1).toNat).reverse).map eI) (cells := [.int .i64 (at_ (at_ fs f) i)]) rfl u_35 ts_3 tzn_3 tb_3 (by decide) ni_35 rfl o63 m67 rfl (.slm h60 rfl) (one_of rfl) (by decide) (by first | omega | (simp; omega)) ?_)
            intro v68 H69 o70 m71 k72 j73
            have o74 := Own.snoc1 (xs := ((((at_ fs f).drop (i + 1).toNat).reverse) : List Int)) (y := at_ (at_ fs f) i) (e := eI) (by simp) o70
            have sp76 := Own.sep o65 (Sep.symm sp54) j73
            have o75 := Own.stay o65 (Sep.symm sp54) k72
            refine AOps.cons rfl rfl (AOp.assign (v68) rfl rfl ?_)
            refine AOps.nil ?_
            change AWP _ _ _ _ _ _
            refine AWP.region (l := [0, 1, 2]) rfl ?_
            refine AOps.cons rfl rfl (AOp.move (.int .i64 i) rfl s45 ?_)
            refine AOps.cons rfl rfl (AOp.bin (.int .i64 (i - 1)) rfl rfl rfl (isub (by omega)) ?_)
            refine AOps.cons rfl rfl (AOp.assign (.int .i64 (i - 1)) rfl rfl ?_)
            refine AOps.nil ?_
            exact ⟨_, by omega, i - 1, v68, rfl, rfl, s46, s47, s48, s49, s50, rfl, (have hx : (((((at_ fs f).drop (i + 1).toNat).reverse) ++ [at_ (at_ fs f) i]) : List Int) = ((at_ fs f).drop ((i - 1) + 1).toNat).reverse := (by rw [rev_step (by omega) (by omega)]); Own.re o74 (congrArg List.length hx) (congrArg (fun l : List Int => l.map eI) hx)), o75, (Sep.symm sp76), m71, by omega, by omega⟩
          ·
            refine AWP.condF rfl (decide_eq_false b56) ?_
            refine AWP.exit ?_
            change AWP _ _ _ _ _ _
            have hbf : (backS (fs.take f.toNat)).length ≤ fs.length := by simp [backS]; omega
            refine AWP.region (l := [0, 1, 2, 3, 4]) rfl ?_
            refine AOps.cons rfl rfl (AOp.move (w5) rfl s50 ?_)
            refine AOps.cons rfl rfl (AOp.move (w7) rfl s51 ?_)
            refine AOps.cons rfl rfl ?_
            refine AOp.frz 49 o52 rfl m55 fun H77 m78 k79 => ?_
            have o80 := Own.stay o53 (Sep.symm sp54) (fun i hi _ => k79 i hi)
            refine AOp.buildSlice (cells := [.sl (((at_ fs f).drop (i + 1).toNat).reverse).length ((((at_ fs f).drop (i + 1).toNat).reverse).map eI)]) rfl u_22 ts_35 tz_35 rfl rfl rfl ?_
            intro i81 H82 n83 h84 k85
            have z86 := Mono.free m78 n83
            have o87 := Own.keep o80 k85 (Own.notnew o80 n83)
            have no88 := Own.notnew o80 n83
            have m89 := Mono.new m78 n83 k85
            refine AOps.cons rfl rfl (AOp.append_own (es := 1) (m := 1) (len := ((backS (fs.take f.toNat)).length)) (old := (backS (fs.take f.toNat)).map eF) (cells := [.sl (((at_ fs f).drop (i + 1).toNat).reverse).length ((((at_ fs f).drop (i + 1).toNat).reverse).map eI)]) rfl u_22 ts_35 tzn_35 tb_35 (by decide) ni_22 rfl o87 m89 rfl (.slm h84 rfl) (one_of rfl) (by decide) (by first | omega | (simp; omega)) ?_)
            intro v90 H91 o92 m93 k94 j95
            have o96 := Own.snoc1 (xs := ((backS (fs.take f.toNat)) : List (List Int))) (y := (((at_ fs f).drop (i + 1).toNat).reverse)) (e := eF) (by simp) o92
            refine AOps.cons rfl rfl (AOp.assign (v90) rfl rfl ?_)
            refine AOps.nil ?_
            change AWP _ _ _ _ _ _
            refine AWP.region (l := [0, 1, 2]) rfl ?_
            refine AOps.cons rfl rfl (AOp.move (.int .i64 f) rfl s46 ?_)
            refine AOps.cons rfl rfl (AOp.bin (.int .i64 (f + 1)) rfl rfl rfl (iadd (by omega)) ?_)
            refine AOps.cons rfl rfl (AOp.assign (.int .i64 (f + 1)) rfl rfl ?_)
            refine AOps.nil ?_
            exact ⟨_, by omega, f + 1, v90, rfl, rfl, s47, s48, s49, rfl, (have hx : (((backS (fs.take f.toNat)) ++ [(((at_ fs f).drop (i + 1).toNat).reverse)]) : List (List Int)) = backS (fs.take (f + 1).toNat) := (by rw [take_step hf0 (by omega), rev_all (by omega)]; simp [backS]); Own.re o96 (congrArg List.length hx) (congrArg (fun l : List (List Int) => l.map eF) hx)), m93, by omega, by omega⟩
      ·
        refine AWP.condF rfl (decide_eq_false b28) ?_
        refine AWP.exit ?_
        change AWP _ _ _ _ _ _
        refine AWP.seq ?_
        refine AWP.region (l := [0, 1, 2, 3, 4, 5, 6, 7, 8]) rfl ?_
        refine AOps.cons rfl rfl (AOp.move (.int .i64 v) rfl s22 ?_)
        refine AOps.cons rfl rfl (AOp.move (.sl fs.length (fs.map eF)) rfl s23 ?_)
        refine AOps.cons rfl rfl (AOp.pcall («as» := [.int .i64 v, .sl fs.length (fs.map eF)]) rfl rfl (rfl) tf_12 (c12 _ (by assumption) (by assumption) _ (by omega) (by assumption)) ?_)
        intro H97 m98
        have o99 := Own.mono o26 m98
        have m100 := m27.trans m98
        refine AOps.cons rfl rfl (AOp.move (.tup [.agg [.sl ((buildT v fs).ed).length (((buildT v fs).ed).flatMap eE), .sl ((buildT v fs).fan).length (((buildT v fs).fan).map eF), .sl ((buildT v fs).rnd).length (((buildT v fs).rnd).map eBo)], .int .i64 (buildE v fs)]) rfl rfl ?_)
        refine AOps.cons rfl rfl (AOp.extract (.agg [.sl ((buildT v fs).ed).length (((buildT v fs).ed).flatMap eE), .sl ((buildT v fs).fan).length (((buildT v fs).fan).map eF), .sl ((buildT v fs).rnd).length (((buildT v fs).rnd).map eBo)]) rfl rfl rfl ?_)
        refine AOps.cons rfl rfl (AOp.extract (.int .i64 (buildE v fs)) rfl rfl rfl ?_)
        refine AOps.cons rfl rfl (AOp.alloc rfl tz_29 ?_)
        intro i101 H102 n103 h104 k105
        have z106 := Mono.free m100 n103
        have o107 := Own.keep o99 k105 (Own.notnew o99 n103)
        have no108 := Own.notnew o99 n103
        have m109 := Mono.new m100 n103 k105
        refine AOps.cons rfl rfl (AOp.store' (cells' := [.sl ((buildT v fs).ed).length (((buildT v fs).ed).flatMap eE), .sl ((buildT v fs).fan).length (((buildT v fs).fan).map eF), .sl ((buildT v fs).rnd).length (((buildT v fs).rnd).map eBo)]) (.agg [.sl ((buildT v fs).ed).length (((buildT v fs).ed).flatMap eE), .sl ((buildT v fs).fan).length (((buildT v fs).fan).map eF), .sl ((buildT v fs).rnd).length (((buildT v fs).rnd).map eBo)]) rfl rfl ts_29 h104 rfl rfl rfl rfl ?_)
        intro H110 h111 k112
        have o114 := Own.keep o107 k112 no108
        have m115 := Mono.set m109 z106 k112
        refine AOps.cons rfl rfl (AOp.assign (.int .i64 (buildE v fs)) rfl rfl ?_)
        refine AOps.nil ?_
        change AWP _ _ _ _ _ _
        refine AWP.seq ?_
        have hx116 : (backS (fs.take f.toNat)) = backS fs := by rw [take_all (by omega)]
        have o117 := Own.re o114 (congrArg List.length hx116) (congrArg (fun l : List (List Int) => l.map eF) hx116)
        skip
        have hb1 : (backS fs).length ≤ 1048576 := by rw [back_len]; exact hfs
        have hb2 : ∀ l ∈ backS fs, l.length ≤ 1048576 := fun l hl => by obtain ⟨m, hm, rfl⟩ := List.mem_map.1 hl; rw [List.length_reverse]; exact hfss m hm
        have hb3 : (sides (backS fs)).length ≤ 4000000000 := by rw [sides_back_len]; exact hsl
        refine AWP.region (l := [0, 1, 2, 3, 4, 5, 6, 7, 8]) rfl ?_
        refine AOps.cons rfl rfl (AOp.move (.int .i64 v) rfl s22 ?_)
        refine AOps.cons rfl rfl (AOp.move (w5) rfl s25 ?_)
        refine AOps.cons rfl rfl ?_
        refine AOp.frz 60 o117 rfl m115 fun H118 m119 k120 => ?_
        have h121 := (k120 _ no108).trans h111
        refine AOp.pcall («as» := [.int .i64 v, .sl (backS fs).length ((backS fs).map eF)]) rfl rfl (rfl) tf_12 (c12 _ (by assumption) (by assumption) _ (by omega) (by assumption)) ?_
        intro H122 m123
        have h124 := m123 _ _ h121
        have m125 := m119.trans m123
        refine AOps.cons rfl rfl (AOp.move (.tup [.agg [.sl ((buildT v (backS fs)).ed).length (((buildT v (backS fs)).ed).flatMap eE), .sl ((buildT v (backS fs)).fan).length (((buildT v (backS fs)).fan).map eF), .sl ((buildT v (backS fs)).rnd).length (((buildT v (backS fs)).rnd).map eBo)], .int .i64 (buildE v (backS fs))]) rfl rfl ?_)
        refine AOps.cons rfl rfl (AOp.extract (.agg [.sl ((buildT v (backS fs)).ed).length (((buildT v (backS fs)).ed).flatMap eE), .sl ((buildT v (backS fs)).fan).length (((buildT v (backS fs)).fan).map eF), .sl ((buildT v (backS fs)).rnd).length (((buildT v (backS fs)).rnd).map eBo)]) rfl rfl rfl ?_)
        refine AOps.cons rfl rfl (AOp.extract (.int .i64 (buildE v (backS fs))) rfl rfl rfl ?_)
        refine AOps.cons rfl rfl (AOp.alloc rfl tz_29 ?_)
        intro i126 H127 n128 h129 k130
        have e131 := ne_new h124 n128
        have z132 := Mono.free m125 n128
        have h133 := keep k130 (ne_new h124 n128) h124
        have m134 := Mono.new m125 n128 k130
        refine AOps.cons rfl rfl (AOp.store' (cells' := [.sl ((buildT v (backS fs)).ed).length (((buildT v (backS fs)).ed).flatMap eE), .sl ((buildT v (backS fs)).fan).length (((buildT v (backS fs)).fan).map eF), .sl ((buildT v (backS fs)).rnd).length (((buildT v (backS fs)).rnd).map eBo)]) (.agg [.sl ((buildT v (backS fs)).ed).length (((buildT v (backS fs)).ed).flatMap eE), .sl ((buildT v (backS fs)).fan).length (((buildT v (backS fs)).fan).map eF), .sl ((buildT v (backS fs)).rnd).length (((buildT v (backS fs)).rnd).map eBo)]) rfl rfl ts_29 h129 rfl rfl rfl rfl ?_)
        intro H135 h136 k137
        have h138 := keep k137 e131 h133
        have m140 := Mono.set m134 z132 k137
        refine AOps.cons rfl rfl (AOp.assign (.int .i64 (buildE v (backS fs))) rfl rfl ?_)
        refine AOps.nil ?_
        change AWP _ _ _ _ _ _
        refine AWP.seq ?_
        refine AWP.seq ?_
        have hbl : (buildT v (backS fs)).ed.length = (buildT v fs).ed.length := by rw [(turn_law v fs).2.1, List.length_map]
        have hrl : (buildT v (backS fs)).rnd = (buildT v fs).rnd := (turn_law v fs).2.2
        have hrl2 : (buildT v (backS fs)).rnd.length ≤ 1048576 := by rw [hrl]; exact ht3
        have hro := rounds_len (buildT v fs).rnd
        have hro2 := rounds_len (buildT v (backS fs)).rnd
        refine AWP.region (l := [0, 1, 2, 3, 4, 5, 6, 7, 8, 9, 10, 11]) rfl ?_
        refine AOps.cons rfl rfl (AOp.move (.int .i64 (buildE v fs)) rfl rfl ?_)
        refine AOps.cons rfl rfl (AOp.move (.int .i64 (buildE v (backS fs))) rfl rfl ?_)
        refine AOps.cons rfl rfl (AOp.bin (.bool (!decide (buildE v fs = buildE v (backS fs)))) rfl rfl rfl ine ?_)
        refine AOps.cons rfl rfl (AOp.move (.bool (!decide (buildE v fs = buildE v (backS fs)))) rfl rfl ?_)
        refine AOps.yes rfl rfl rfl rfl rfl rfl rfl (nb (decide_eq_true ((turn_law v fs).1.symm))) (AOp.fieldAddr rfl rfl fl_29_0 ?_ (hid := ⟨_, h138⟩))
        refine AOps.yes rfl rfl rfl rfl rfl rfl rfl (nb (decide_eq_true ((turn_law v fs).1.symm))) (AOp.load (.sl ((buildT v fs).ed).length (((buildT v fs).ed).flatMap eE)) rfl rfl ty_26 h138 rfl ?_)
        refine AOps.yes rfl rfl rfl rfl rfl rfl rfl (nb (decide_eq_true ((turn_law v fs).1.symm))) (AOp.len (m := ((buildT v fs).ed).length) rfl rfl (.inr (.inl ⟨_, rfl⟩)) u_26 ?_)
        refine AOps.yes rfl rfl rfl rfl rfl rfl rfl (nb (decide_eq_true ((turn_law v fs).1.symm))) (AOp.fieldAddr rfl rfl fl_29_0 ?_ (hid := ⟨_, h136⟩))
        refine AOps.yes rfl rfl rfl rfl rfl rfl rfl (nb (decide_eq_true ((turn_law v fs).1.symm))) (AOp.load (.sl ((buildT v (backS fs)).ed).length (((buildT v (backS fs)).ed).flatMap eE)) rfl rfl ty_26 h136 rfl ?_)
        refine AOps.yes rfl rfl rfl rfl rfl rfl rfl (nb (decide_eq_true ((turn_law v fs).1.symm))) (AOp.len (m := ((buildT v (backS fs)).ed).length) rfl rfl (.inr (.inl ⟨_, rfl⟩)) u_26 ?_)
        refine AOps.yes rfl rfl rfl rfl rfl rfl rfl (nb (decide_eq_true ((turn_law v fs).1.symm))) (AOp.bin (.bool (!decide (((((buildT v fs).ed).length) : Int) = ((((buildT v (backS fs)).ed).length) : Int)))) rfl rfl rfl ine ?_)
        refine AOps.cons rfl rfl (AOp.pickF (.bool (!decide (((((buildT v fs).ed).length) : Int) = ((((buildT v (backS fs)).ed).length) : Int)))) rfl rfl (nb (decide_eq_true ((turn_law v fs).1.symm))) rfl ?_)
        refine AOps.nil ?_
        change AWP _ _ _ _ _ _
        refine AWP.condF rfl (nb (decide_eq_true ((by rw [hbl])))) ?_
        refine AWP.skip ?_
        change AWP _ _ _ _ _ _
        refine AWP.seq ?_
        refine AWP.seq ?_
        refine AWP.region (l := [0]) rfl ?_
        refine AOps.cons rfl rfl (AOp.assign (.int .i64 0) rfl rfl ?_)
        refine AOps.nil ?_
        change AWP _ _ _ _ _ _
        refine AWP.block ?_
        refine AWP.loop (fun q141 fq Hq => ∃ (i : Int), q141 = (((((buildT v fs).ed).length : Int) : Int) - i).toNat ∧ fq 13 = .int .i64 i ∧ fq 9 = .ptr i101 0 0 ∧ fq 11 = .ptr i126 0 0 ∧ Hq i101 = some (.row 0 ([.sl ((buildT v fs).ed).length (((buildT v fs).ed).flatMap eE), .sl ((buildT v fs).fan).length (((buildT v fs).fan).map eF), .sl ((buildT v fs).rnd).length (((buildT v fs).rnd).map eBo)])) ∧ Hq i126 = some (.row 0 ([.sl ((buildT v (backS fs)).ed).length (((buildT v (backS fs)).ed).flatMap eE), .sl ((buildT v (backS fs)).fan).length (((buildT v (backS fs)).fan).map eF), .sl ((buildT v (backS fs)).rnd).length (((buildT v (backS fs)).rnd).map eBo)])) ∧ Mono H0 Hq ∧ (0 ≤ i) ∧ (i ≤ (((buildT v fs).ed).length : Int))) (k := (((((buildT v fs).ed).length : Int) : Int) - 0).toNat) ?_ ?_
        ·
          exact ⟨0, rfl, rfl, rfl, rfl, h138, h136, m140, by omega, by omega⟩
        ·
          rintro _ f143 H142 ⟨i, rfl, s144, s145, s146, h147, h148, m149, hi0, hi1⟩
          refine AWP.seq ?_
          refine AWP.seq ?_
          refine AWP.region (l := [0, 1, 2, 3, 4]) rfl ?_
          refine AOps.cons rfl rfl (AOp.move (.int .i64 i) rfl s144 ?_)
          refine AOps.cons rfl rfl (AOp.fieldAddr rfl s145 fl_29_0 ?_ (hid := ⟨_, h147⟩))
          refine AOps.cons rfl rfl (AOp.load (.sl ((buildT v fs).ed).length (((buildT v fs).ed).flatMap eE)) rfl rfl ty_26 h147 rfl ?_)
          refine AOps.cons rfl rfl (AOp.len (m := ((buildT v fs).ed).length) rfl rfl (.inr (.inl ⟨_, rfl⟩)) u_26 ?_)
          refine AOps.cons rfl rfl (AOp.bin (.bool (decide (i < ((((buildT v fs).ed).length) : Int)))) rfl rfl rfl rfl ?_)
          refine AOps.nil ?_
          change AWP _ _ _ _ _ _
          by_cases b150 : i < ((((buildT v fs).ed).length) : Int)
          ·
            refine AWP.condT rfl (decide_eq_true b150) ?_
            refine AWP.skip ?_
            change AWP _ _ _ _ _ _
            refine AWP.seq ?_
            refine AWP.block ?_
            refine AWP.seq ?_
            refine AWP.region (l := [0, 1, 2, 3, 4, 5, 6]) rfl ?_
            refine AOps.cons rfl rfl (AOp.fieldAddr rfl s145 fl_29_0 ?_ (hid := ⟨_, h147⟩))
            refine AOps.cons rfl rfl (AOp.load (.sl ((buildT v fs).ed).length (((buildT v fs).ed).flatMap eE)) rfl rfl ty_26 h147 rfl ?_)
            refine AOps.cons rfl rfl (AOp.move (.int .i64 i) rfl s144 ?_)
            refine AOps.cons rfl rfl (AOp.indexAddrS rfl rfl rfl sl_26 (by omega) (by omega) ?_)
            refine AOps.cons rfl rfl (AOp.loadF (.agg [.int .i64 ((at_ ((buildT v fs).ed) i).A), .int .i64 ((at_ ((buildT v fs).ed) i).B), .int .i64 ((at_ ((buildT v fs).ed) i).F), .int .i64 ((at_ ((buildT v fs).ed) i).G)]) rfl rfl ty_37 (ldM eE_len (by omega) (by omega)) ?_)
            refine AOps.cons rfl rfl (AOp.alloc rfl tz_37 ?_)
            intro i151 H152 n153 h154 k155
            have e156 := ne_new h147 n153
            have e157 := ne_new h148 n153
            have z158 := Mono.free m149 n153
            have h159 := keep k155 (ne_new h147 n153) h147
            have h160 := keep k155 (ne_new h148 n153) h148
            have m161 := Mono.new m149 n153 k155
            refine AOps.cons rfl rfl (AOp.store' (cells' := [.int .i64 ((at_ ((buildT v fs).ed) i).A), .int .i64 ((at_ ((buildT v fs).ed) i).B), .int .i64 ((at_ ((buildT v fs).ed) i).F), .int .i64 ((at_ ((buildT v fs).ed) i).G)]) (.agg [.int .i64 ((at_ ((buildT v fs).ed) i).A), .int .i64 ((at_ ((buildT v fs).ed) i).B), .int .i64 ((at_ ((buildT v fs).ed) i).F), .int .i64 ((at_ ((buildT v fs).ed) i).G)]) rfl rfl ts_37 h154 rfl rfl rfl rfl ?_)
            intro H162 h163 k164
            have h165 := keep k164 e156 h159
            have h166 := keep k164 e157 h160
            have m168 := Mono.set m161 z158 k164
            refine AOps.nil ?_
            change AWP _ _ _ _ _ _
            refine AWP.seq ?_
            refine AWP.region_quiet mixed (by kernel_rfl) 15 [] rfl (by kernel_rfl) (Mono H162) (Mono.refl _) ?_
            refine QE.op rfl rfl (.inl ⟨rfl, fun f' H' hf hM => AOp.fieldAddr rfl ((hf 11 rfl).trans s146) fl_29_0 ⟨rfl, hM⟩ (hid := ⟨_, (hM _ _ h166)⟩)⟩) ?_
            refine QE.op rfl rfl (.inl ⟨rfl, fun f' H' hf hM => AOp.load (.sl ((buildT v (backS fs)).ed).length (((buildT v (backS fs)).ed).flatMap eE)) rfl ((hf 88 rfl).trans rfl) ty_26 (hM _ _ h166) rfl ⟨rfl, hM⟩⟩) ?_
            refine QE.op rfl rfl (.inl ⟨rfl, fun f' H' hf hM => AOp.move (.int .i64 i) rfl ((hf 13 rfl).trans s144) ⟨rfl, hM⟩⟩) ?_
            refine QE.op rfl rfl (.inl ⟨rfl, fun f' H' hf hM => AOp.indexAddrS rfl ((hf 89 rfl).trans rfl) ((hf 90 rfl).trans rfl) sl_26 (by omega) (by omega) ⟨rfl, hM⟩⟩) ?_
            refine QE.op rfl rfl (.inl ⟨rfl, fun f' H' hf hM => AOp.loadF (.agg [.int .i64 ((at_ ((buildT v (backS fs)).ed) i).A), .int .i64 ((at_ ((buildT v (backS fs)).ed) i).B), .int .i64 ((at_ ((buildT v (backS fs)).ed) i).F), .int .i64 ((at_ ((buildT v (backS fs)).ed) i).G)]) rfl ((hf 91 rfl).trans rfl) ty_37 (ldM eE_len (by omega) (by omega)) ⟨rfl, hM⟩⟩) ?_
            refine QE.op rfl rfl (.inl ⟨rfl, fun f' H' hf hM => AOp.fieldAddr rfl ((hf 14 rfl).trans rfl) fl_37_0 ⟨rfl, hM⟩ (hid := ⟨_, (hM _ _ h163)⟩)⟩) ?_
            refine QE.op rfl rfl (.inl ⟨rfl, fun f' H' hf hM => AOp.load (.int .i64 ((at_ ((buildT v fs).ed) i).A)) rfl ((hf 93 rfl).trans rfl) ty_3 (hM _ _ h163) rfl ⟨rfl, hM⟩⟩) ?_
            refine QE.op rfl rfl (.inl ⟨rfl, fun f' H' hf hM => AOp.fieldAddr rfl ((hf 14 rfl).trans rfl) fl_37_1 ⟨rfl, hM⟩ (hid := ⟨_, (hM _ _ h163)⟩)⟩) ?_
            refine QE.op rfl rfl (.inl ⟨rfl, fun f' H' hf hM => AOp.load (.int .i64 ((at_ ((buildT v fs).ed) i).B)) rfl ((hf 95 rfl).trans rfl) ty_3 (hM _ _ h163) rfl ⟨rfl, hM⟩⟩) ?_
            refine QE.op rfl rfl (.inl ⟨rfl, fun f' H' hf hM => AOp.fieldAddr rfl ((hf 14 rfl).trans rfl) fl_37_3 ⟨rfl, hM⟩ (hid := ⟨_, (hM _ _ h163)⟩)⟩) ?_
            refine QE.op rfl rfl (.inl ⟨rfl, fun f' H' hf hM => AOp.load (.int .i64 ((at_ ((buildT v fs).ed) i).G)) rfl ((hf 97 rfl).trans rfl) ty_3 (hM _ _ h163) rfl ⟨rfl, hM⟩⟩) ?_
            refine QE.op rfl rfl (.inl ⟨rfl, fun f' H' hf hM => AOp.fieldAddr rfl ((hf 14 rfl).trans rfl) fl_37_2 ⟨rfl, hM⟩ (hid := ⟨_, (hM _ _ h163)⟩)⟩) ?_
            refine QE.op rfl rfl (.inl ⟨rfl, fun f' H' hf hM => AOp.load (.int .i64 ((at_ ((buildT v fs).ed) i).F)) rfl ((hf 99 rfl).trans rfl) ty_3 (hM _ _ h163) rfl ⟨rfl, hM⟩⟩) ?_
            refine QE.op rfl rfl (.inl ⟨rfl, fun f' H' hf hM => AOp.build (cells := [.int .i64 ((at_ ((buildT v fs).ed) i).A), .int .i64 ((at_ ((buildT v fs).ed) i).B), .int .i64 ((at_ ((buildT v fs).ed) i).G), .int .i64 ((at_ ((buildT v fs).ed) i).F)]) rfl tz_37 pl_37 (lconsP ((hf 94 rfl).trans rfl) (lconsP ((hf 96 rfl).trans rfl) (lconsP ((hf 98 rfl).trans rfl) (lconsP ((hf 100 rfl).trans rfl) rfl)))) rfl ⟨rfl, hM⟩⟩) ?_
            refine QE.op rfl rfl (.inl ⟨rfl, fun f' H' hf hM => AOp.neAggD rfl ((hf 92 rfl).trans rfl) ((hf 101 rfl).trans rfl) teq37 (kok37 (e := (at_ ((buildT v (backS fs)).ed) i)) (by rw [turn_at hi0 (by omega)]; exact ⟨(ht5 (at_ (buildT v fs).ed i) (at_mem (by omega) (by omega))).1, (ht5 (at_ (buildT v fs).ed i) (at_mem (by omega) (by omega))).2.1, (ht5 (at_ (buildT v fs).ed i) (at_mem (by omega) (by omega))).2.2.2, (ht5 (at_ (buildT v fs).ed i) (at_mem (by omega) (by omega))).2.2.1⟩)) (kok37 (e := (Ed.mk ((at_ ((buildT v fs).ed) i).A) ((at_ ((buildT v fs).ed) i).B) ((at_ ((buildT v fs).ed) i).G) ((at_ ((buildT v fs).ed) i).F))) ⟨(ht5 (at_ (buildT v fs).ed i) (at_mem (by omega) (by omega))).1, (ht5 (at_ (buildT v fs).ed i) (at_mem (by omega) (by omega))).2.1, (ht5 (at_ (buildT v fs).ed i) (at_mem (by omega) (by omega))).2.2.2, (ht5 (at_ (buildT v fs).ed i) (at_mem (by omega) (by omega))).2.2.1⟩) (eE_iff (at_ ((buildT v (backS fs)).ed) i) (Ed.mk ((at_ ((buildT v fs).ed) i).A) ((at_ ((buildT v fs).ed) i).B) ((at_ ((buildT v fs).ed) i).G) ((at_ ((buildT v fs).ed) i).F))) ⟨rfl, hM⟩⟩) ?_
            refine QE.done fun H169 m170 => ?_
            have h171 := m170 _ _ h165
            have h172 := m170 _ _ h166
            have h173 := m170 _ _ h163
            have m174 := m168.trans m170
            refine AOps.nil ?_
            change AWP _ _ _ _ _ _
            refine AWP.condF rfl (nb (decide_eq_true ((turn_at hi0 (by omega))))) ?_
            refine AWP.skip ?_
            change AWP _ _ _ _ _ _
            refine AWP.region (l := [0, 1, 2]) rfl ?_
            refine AOps.cons rfl rfl (AOp.move (.int .i64 i) rfl s144 ?_)
            refine AOps.cons rfl rfl (AOp.bin (.int .i64 (i + 1)) rfl rfl rfl (iadd (by omega)) ?_)
            refine AOps.cons rfl rfl (AOp.assign (.int .i64 (i + 1)) rfl rfl ?_)
            refine AOps.nil ?_
            exact ⟨_, by omega, i + 1, rfl, rfl, s145, s146, h171, h172, m174, by omega, by omega⟩
          ·
            refine AWP.condF rfl (decide_eq_false b150) ?_
            refine AWP.exit ?_
            change AWP _ _ _ _ _ _
            refine AWP.seq ?_
            refine AWP.region_quiet mixed (by kernel_rfl) 6 [] rfl (by kernel_rfl) (Mono H142) (Mono.refl _) ?_
            refine QE.op rfl rfl (.inl ⟨rfl, fun f' H' hf hM => AOp.load (.agg [.sl ((buildT v fs).ed).length (((buildT v fs).ed).flatMap eE), .sl ((buildT v fs).fan).length (((buildT v fs).fan).map eF), .sl ((buildT v fs).rnd).length (((buildT v fs).rnd).map eBo)]) rfl ((hf 9 rfl).trans s145) ty_29 (hM _ _ h147) rfl ⟨rfl, hM⟩⟩) ?_
            refine QE.op rfl rfl (.inl ⟨rfl, fun f' H' hf hM => AOp.pcall («as» := [.agg [.sl ((buildT v fs).ed).length (((buildT v fs).ed).flatMap eE), .sl ((buildT v fs).fan).length (((buildT v fs).fan).map eF), .sl ((buildT v fs).rnd).length (((buildT v fs).rnd).map eBo)]]) rfl rfl (lapp (lcons ((hf 103 rfl).trans rfl) rfl) rfl) tf_17 (c17 _ (by omega)) fun H2 m2 => ⟨rfl, hM.trans m2⟩⟩) ?_
            refine QE.op rfl rfl (.inl ⟨rfl, fun f' H' hf hM => AOp.load (.agg [.sl ((buildT v (backS fs)).ed).length (((buildT v (backS fs)).ed).flatMap eE), .sl ((buildT v (backS fs)).fan).length (((buildT v (backS fs)).fan).map eF), .sl ((buildT v (backS fs)).rnd).length (((buildT v (backS fs)).rnd).map eBo)]) rfl ((hf 11 rfl).trans s146) ty_29 (hM _ _ h148) rfl ⟨rfl, hM⟩⟩) ?_
            refine QE.op rfl rfl (.inl ⟨rfl, fun f' H' hf hM => AOp.pcall («as» := [.agg [.sl ((buildT v (backS fs)).ed).length (((buildT v (backS fs)).ed).flatMap eE), .sl ((buildT v (backS fs)).fan).length (((buildT v (backS fs)).fan).map eF), .sl ((buildT v (backS fs)).rnd).length (((buildT v (backS fs)).rnd).map eBo)]]) rfl rfl (lapp (lcons ((hf 105 rfl).trans rfl) rfl) rfl) tf_17 (c17 _ (by omega)) fun H2 m2 => ⟨rfl, hM.trans m2⟩⟩) ?_
            refine QE.op rfl rfl (.inl ⟨rfl, fun f' H' hf hM => AOp.pcall («as» := [.sl (roundsS (buildT v fs).rnd (buildT v fs).rnd.length).length ((roundsS (buildT v fs).rnd (buildT v fs).rnd.length).map eI), .sl (roundsS (buildT v (backS fs)).rnd (buildT v (backS fs)).rnd.length).length ((roundsS (buildT v (backS fs)).rnd (buildT v (backS fs)).rnd.length).map eI)]) rfl rfl (lapp (lcons ((hf 104 rfl).trans rfl) (lcons ((hf 106 rfl).trans rfl) rfl)) rfl) tf_16 (c16 _ (by omega) _ (by omega)) fun H2 m2 => ⟨rfl, hM.trans m2⟩⟩) ?_
            refine QE.op rfl rfl (.inl ⟨rfl, fun f' H' hf hM => AOp.assign (.bool (decide (roundsS (buildT v fs).rnd (buildT v fs).rnd.length = roundsS (buildT v (backS fs)).rnd (buildT v (backS fs)).rnd.length))) rfl ((hf 107 rfl).trans rfl) ⟨rfl, hM⟩⟩) ?_
            refine QE.done fun H175 m176 => ?_
            have h177 := m176 _ _ h147
            have h178 := m176 _ _ h148
            have m179 := m149.trans m176
            refine AOps.nil ?_
            change AWP _ _ _ _ _ _
            refine AWP.ret ?_
            refine ⟨_, _, Ghost.refl, .inr rfl, _, Res.one rfl rfl, ?_, m179⟩
            exact (congrArg AV.bool (show (decide (roundsS (buildT v fs).rnd (buildT v fs).rnd.length = roundsS (buildT v (backS fs)).rnd (buildT v (backS fs)).rnd.length) : Bool) = true from by first | rfl | (rw [hrl]; simp)))
end Go.Proofs.T
