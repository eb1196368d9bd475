/- A part of the proof that a law of the edges and fans of faces answers true for every input of its bulk: own work, by an AI agent. -/
import Derived.Test.YtfgfalidpbbkhaaTTy
import Derived.Test.YtfgfalidpbbkhaaTSpec5
import Derived.Test.YtfgfalidpbbkhaaTKey
import Derived.KernelRfl
import Derived.Test.YtfgfalidpbbkhaaTFew
namespace Go.Proofs.T
open Go Go.AH
set_option maxRecDepth 4000
set_option linter.unusedSimpArgs false
set_option linter.unusedVariables false
theorem c6 (FL : FewLaw) (v : Int) (fs : List (List Int)) (hfs : fs.length ≤ 1048576) (hfss : ∀ l ∈ fs, l.length ≤ 1048576) : PC Try.prog 6 [.int .i64 v, .sl fs.length (fs.map eF)] (.bool true) := by
  intro H0
  refine ACalls.of_body' (n := 81) rfl rfl rfl rfl ?_
  have m0 := Mono.refl H0
  refine AWP.seq ?_
  refine AWP.region (l := [0]) rfl ?_
  refine AOps.cons rfl rfl (AOp.assign (.bool false) rfl rfl ?_)
  refine AOps.nil ?_
  change AWP _ _ _ _ _ _
  refine AWP.seq ?_
  refine AWP.seq ?_
  refine AWP.region (l := [0, 1]) rfl ?_
  refine AOps.cons rfl rfl (AOp.pcall («as» := []) rfl rfl (rfl) tf_9 (c9) ?_)
  intro H1 m2
  have m3 := m0.trans m2
  refine AOps.cons rfl rfl (AOp.not rfl rfl ?_)
  refine AOps.nil ?_
  change AWP _ _ _ _ _ _
  refine AWP.condF rfl rfl ?_
  refine AWP.skip ?_
  change AWP _ _ _ _ _ _
  refine AWP.seq ?_
  refine AWP.seq ?_
  refine AWP.region (l := [0, 1, 2]) rfl ?_
  refine AOps.cons rfl rfl (AOp.move (.int .i64 v) rfl rfl ?_)
  refine AOps.cons rfl rfl (AOp.move (.sl fs.length (fs.map eF)) rfl rfl ?_)
  refine AOps.cons rfl rfl (AOp.pcall («as» := [.int .i64 v, .sl fs.length (fs.map eF)]) rfl rfl (rfl) tf_10 (c10 _ _ (by assumption) (by assumption)) ?_)
  intro H4 m5
  have m6 := m3.trans m5
  refine AOps.nil ?_
  change AWP _ _ _ _ _ _
  by_cases b7 : greatS v fs
  ·
    refine AWP.condT rfl (decide_eq_true b7) ?_
    refine AWP.seq ?_
    refine AWP.region (l := [0]) rfl ?_
    refine AOps.cons rfl rfl (AOp.assign (.bool true) rfl rfl ?_)
    refine AOps.nil ?_
    change AWP _ _ _ _ _ _
    refine AWP.ret ?_
    refine ⟨_, _, Ghost.refl, .inr rfl, _, Res.one rfl rfl, ?_, m6⟩
    exact rfl
  ·
    refine AWP.condF rfl (decide_eq_false b7) ?_
    refine AWP.skip ?_
    change AWP _ _ _ _ _ _
    refine AWP.seq ?_
    have hgn := great_no b7
    have hsm := build_small b7
    have hsl : (sides fs).length ≤ 4000000000 := by omega
    have ht1 := hsm.ed
    have ht2 := hsm.fan
    have ht3 := hsm.rnd
    have ht4 := hsm.fans
    have ht5 := hsm.ok
    have ht6 := hsm.sorted
    refine AWP.region (l := [0, 1, 2, 3, 4, 5, 6, 7, 8]) rfl ?_
    refine AOps.cons rfl rfl (AOp.move (.int .i64 v) rfl rfl ?_)
    refine AOps.cons rfl rfl (AOp.move (.sl fs.length (fs.map eF)) rfl rfl ?_)
    refine AOps.cons rfl rfl (AOp.pcall («as» := [.int .i64 v, .sl fs.length (fs.map eF)]) rfl rfl (rfl) tf_12 (c12 _ (by assumption) (by assumption) _ (by omega) (by assumption)) ?_)
    intro H8 m9
    have m10 := m6.trans m9
    refine AOps.cons rfl rfl (AOp.move (.tup [.agg [.sl ((buildT v fs).ed).length (((buildT v fs).ed).flatMap eE), .sl ((buildT v fs).fan).length (((buildT v fs).fan).map eF), .sl ((buildT v fs).rnd).length (((buildT v fs).rnd).map eBo)], .int .i64 (buildE v fs)]) rfl rfl ?_)
    refine AOps.cons rfl rfl (AOp.extract (.agg [.sl ((buildT v fs).ed).length (((buildT v fs).ed).flatMap eE), .sl ((buildT v fs).fan).length (((buildT v fs).fan).map eF), .sl ((buildT v fs).rnd).length (((buildT v fs).rnd).map eBo)]) rfl rfl rfl ?_)
    refine AOps.cons rfl rfl (AOp.extract (.int .i64 (buildE v fs)) rfl rfl rfl ?_)
    refine AOps.cons rfl rfl (AOp.alloc rfl tz_29 ?_)
    intro i11 H12 n13 h14 k15
    have z16 := Mono.free m10 n13
    have m17 := Mono.new m10 n13 k15
    refine AOps.cons rfl rfl (AOp.store' (cells' := [.sl ((buildT v fs).ed).length (((buildT v fs).ed).flatMap eE), .sl ((buildT v fs).fan).length (((buildT v fs).fan).map eF), .sl ((buildT v fs).rnd).length (((buildT v fs).rnd).map eBo)]) (.agg [.sl ((buildT v fs).ed).length (((buildT v fs).ed).flatMap eE), .sl ((buildT v fs).fan).length (((buildT v fs).fan).map eF), .sl ((buildT v fs).rnd).length (((buildT v fs).rnd).map eBo)]) rfl rfl ts_29 h14 rfl rfl rfl rfl ?_)
    intro H18 h19 k20
    have m22 := Mono.set m17 z16 k20
    refine AOps.cons rfl rfl (AOp.assign (.int .i64 (buildE v fs)) rfl rfl ?_)
    refine AOps.nil ?_
    change AWP _ _ _ _ _ _
    refine AWP.seq ?_
    refine AWP.seq ?_
    refine AWP.region (l := [0, 1]) rfl ?_
    refine AOps.cons rfl rfl (AOp.move (.int .i64 (buildE v fs)) rfl rfl ?_)
    refine AOps.cons rfl rfl (AOp.bin (.bool (!decide (buildE v fs = 0))) rfl rfl rfl ine ?_)
    refine AOps.nil ?_
    change AWP _ _ _ _ _ _
    by_cases b23 : buildE v fs = 0
    ·
      refine AWP.condF rfl (nb (decide_eq_true b23)) ?_
      refine AWP.skip ?_
      change AWP _ _ _ _ _ _
      refine AWP.seq ?_
      refine AWP.seq ?_
      have hok : okS v fs := buildE_ok (by omega)
      refine AWP.region (l := [0]) rfl ?_
      refine AOps.cons rfl rfl (AOp.assign (.int .i64 0) rfl rfl ?_)
      refine AOps.nil ?_
      change AWP _ _ _ _ _ _
      refine AWP.block ?_
      refine AWP.loop (fun q24 fq Hq => ∃ (c : Int), q24 = (v - c).toNat ∧ fq 7 = .int .i64 c ∧ fq 0 = .int .i64 v ∧ fq 5 = .ptr i11 0 0 ∧ Hq i11 = some (.row 0 ([.sl ((buildT v fs).ed).length (((buildT v fs).ed).flatMap eE), .sl ((buildT v fs).fan).length (((buildT v fs).fan).map eF), .sl ((buildT v fs).rnd).length (((buildT v fs).rnd).map eBo)])) ∧ Mono H0 Hq ∧ (0 ≤ c)) (k := (v - 0).toNat) ?_ ?_
      ·
        exact ⟨0, rfl, rfl, rfl, rfl, h19, m22, by omega⟩
      ·
        rintro _ f26 H25 ⟨c, rfl, s27, s28, s29, h30, m31, hc0⟩
        refine AWP.seq ?_
        refine AWP.seq ?_
        refine AWP.region (l := [0, 1, 2]) rfl ?_
        refine AOps.cons rfl rfl (AOp.move (.int .i64 c) rfl s27 ?_)
        refine AOps.cons rfl rfl (AOp.move (.int .i64 v) rfl s28 ?_)
        refine AOps.cons rfl rfl (AOp.bin (.bool (decide (c < v))) rfl rfl rfl rfl ?_)
        refine AOps.nil ?_
        change AWP _ _ _ _ _ _
        by_cases b32 : c < v
        ·
          refine AWP.condT rfl (decide_eq_true b32) ?_
          refine AWP.skip ?_
          change AWP _ _ _ _ _ _
          refine AWP.seq ?_
          refine AWP.block ?_
          refine AWP.seq ?_
          have hra := rnd_at hok hc0 (by omega)
          refine AWP.region (l := [0]) rfl ?_
          refine AOps.cons rfl rfl (AOp.assign (.int .i64 0) rfl rfl ?_)
          refine AOps.nil ?_
          change AWP _ _ _ _ _ _
          refine AWP.seq ?_
          refine AWP.seq ?_
          refine AWP.region (l := [0]) rfl ?_
          refine AOps.cons rfl rfl (AOp.assign (.int .i64 0) rfl rfl ?_)
          refine AOps.nil ?_
          change AWP _ _ _ _ _ _
          refine AWP.block ?_
          refine AWP.loop (fun q33 fq Hq => ∃ (j : Int), q33 = (((buildT v fs).ed.length : Int) - j).toNat ∧ fq 9 = .int .i64 j ∧ fq 8 = .int .i64 (cntJ j (buildT v fs).ed c) ∧ fq 7 = .int .i64 c ∧ fq 0 = .int .i64 v ∧ fq 5 = .ptr i11 0 0 ∧ Hq i11 = some (.row 0 ([.sl ((buildT v fs).ed).length (((buildT v fs).ed).flatMap eE), .sl ((buildT v fs).fan).length (((buildT v fs).fan).map eF), .sl ((buildT v fs).rnd).length (((buildT v fs).rnd).map eBo)])) ∧ Mono H0 Hq ∧ (0 ≤ j) ∧ (j ≤ (buildT v fs).ed.length)) (k := (((buildT v fs).ed.length : Int) - 0).toNat) ?_ ?_
          ·
            exact ⟨0, rfl, rfl, (congrArg (AV.int .i64) (show (0 : Int) = cntJ 0 (buildT v fs).ed c from by exact (cnt_0 _ _).symm)), s27, s28, s29, h30, m31, by omega, by omega⟩
          ·
            rintro _ f35 H34 ⟨j, rfl, s36, s37, s38, s39, s40, h41, m42, hj0, hj1⟩
            refine AWP.seq ?_
            refine AWP.seq ?_
            refine AWP.region (l := [0, 1, 2, 3, 4]) rfl ?_
            refine AOps.cons rfl rfl (AOp.move (.int .i64 j) rfl s36 ?_)
            refine AOps.cons rfl rfl (AOp.fieldAddr rfl s40 fl_29_0 ?_ (hid := ⟨_, h41⟩))
            refine AOps.cons rfl rfl (AOp.load (.sl ((buildT v fs).ed).length (((buildT v fs).ed).flatMap eE)) rfl rfl ty_26 h41 rfl ?_)
            refine AOps.cons rfl rfl (AOp.len (m := ((buildT v fs).ed).length) rfl rfl (.inr (.inl ⟨_, rfl⟩)) u_26 ?_)
            refine AOps.cons rfl rfl (AOp.bin (.bool (decide (j < ((((buildT v fs).ed).length) : Int)))) rfl rfl rfl rfl ?_)
            refine AOps.nil ?_
            change AWP _ _ _ _ _ _
            by_cases b43 : j < ((((buildT v fs).ed).length) : Int)
            ·
              refine AWP.condT rfl (decide_eq_true b43) ?_
              refine AWP.skip ?_
              change AWP _ _ _ _ _ _
              refine AWP.seq ?_
              refine AWP.block ?_
              refine AWP.seq ?_
              have hcl := cnt_le (buildT v fs).ed c j
              refine AWP.region (l := [0, 1, 2, 3, 4, 5, 6, 7, 8, 9, 10, 11, 12, 13, 14, 15, 16, 17, 18, 19, 20, 21, 22]) rfl ?_
              refine AOps.cons rfl rfl (AOp.fieldAddr rfl s40 fl_29_0 ?_ (hid := ⟨_, h41⟩))
              refine AOps.cons rfl rfl (AOp.load (.sl ((buildT v fs).ed).length (((buildT v fs).ed).flatMap eE)) rfl rfl ty_26 h41 rfl ?_)
              refine AOps.cons rfl rfl (AOp.move (.int .i64 j) rfl s36 ?_)
              refine AOps.cons rfl rfl (AOp.indexAddrS rfl rfl rfl sl_26 (by omega) (by omega) ?_)
              refine AOps.cons rfl rfl (AOp.fieldAddrF rfl rfl fl_37_0 ?_)
              refine AOps.cons rfl rfl (AOp.loadF (.int .i64 ((at_ ((buildT v fs).ed) j).A)) rfl rfl ty_3 (ldF eE_len (by omega) (by omega) rfl (by decide)) ?_)
              refine AOps.cons rfl rfl (AOp.move (.int .i64 c) rfl s38 ?_)
              refine AOps.cons rfl rfl (AOp.bin (.bool (decide ((at_ ((buildT v fs).ed) j).A = c))) rfl rfl rfl ieq ?_)
              refine AOps.cons rfl rfl (AOp.move (.bool (decide ((at_ ((buildT v fs).ed) j).A = c))) rfl rfl ?_)
              by_cases b44 : (at_ ((buildT v fs).ed) j).A = c
              ·
                refine AOps.no rfl rfl rfl rfl rfl rfl rfl (ble_of (decide_eq_true b44) (by decide)) ?_
                refine AOps.no rfl rfl rfl rfl rfl rfl rfl (ble_of (decide_eq_true b44) (by decide)) ?_
                refine AOps.no rfl rfl rfl rfl rfl rfl rfl (ble_of (decide_eq_true b44) (by decide)) ?_
                refine AOps.no rfl rfl rfl rfl rfl rfl rfl (ble_of (decide_eq_true b44) (by decide)) ?_
                refine AOps.no rfl rfl rfl rfl rfl rfl rfl (ble_of (decide_eq_true b44) (by decide)) ?_
                refine AOps.no rfl rfl rfl rfl rfl rfl rfl (ble_of (decide_eq_true b44) (by decide)) ?_
                refine AOps.no rfl rfl rfl rfl rfl rfl rfl (ble_of (decide_eq_true b44) (by decide)) ?_
                refine AOps.no rfl rfl rfl rfl rfl rfl rfl (ble_of (decide_eq_true b44) (by decide)) ?_
                refine AOps.cons rfl rfl (AOp.pickT (.bool true) rfl rfl (decide_eq_true b44) rfl ?_)
                refine AOps.cons rfl rfl (AOp.move (.bool true) rfl rfl ?_)
                refine AOps.yes rfl rfl rfl rfl rfl rfl rfl rfl (AOp.load (.agg [.sl ((buildT v fs).ed).length (((buildT v fs).ed).flatMap eE), .sl ((buildT v fs).fan).length (((buildT v fs).fan).map eF), .sl ((buildT v fs).rnd).length (((buildT v fs).rnd).map eBo)]) rfl s40 ty_29 h41 rfl ?_)
                refine AOps.yes rfl rfl rfl rfl rfl rfl rfl rfl (AOp.move (.int .i64 j) rfl s36 ?_)
                refine AOps.yes rfl rfl rfl rfl rfl rfl rfl rfl (AOp.pcall («as» := [.agg [.sl ((buildT v fs).ed).length (((buildT v fs).ed).flatMap eE), .sl ((buildT v fs).fan).length (((buildT v fs).fan).map eF), .sl ((buildT v fs).rnd).length (((buildT v fs).rnd).map eBo)], .int .i64 j]) rfl rfl (rfl) tf_18 (c18 _ _ (by omega)) ?_)
                intro H45 m46
                have h47 := m46 _ _ h41
                have m48 := m42.trans m46
                refine AOps.cons rfl rfl (AOp.pickT (.bool (edgedS (buildT v fs) j)) rfl rfl rfl rfl ?_)
                refine AOps.nil ?_
                change AWP _ _ _ _ _ _
                rcases Bool.eq_false_or_eq_true (edgedS (buildT v fs) j) with b49 | b49
                ·
                  refine AWP.condT rfl b49 ?_
                  refine AWP.region (l := [0, 1, 2]) rfl ?_
                  refine AOps.cons rfl rfl (AOp.move (.int .i64 (cntJ j (buildT v fs).ed c)) rfl s37 ?_)
                  refine AOps.cons rfl rfl (AOp.bin (.int .i64 (cntJ j (buildT v fs).ed c + 1)) rfl rfl rfl (iadd (by omega)) ?_)
                  refine AOps.cons rfl rfl (AOp.assign (.int .i64 (cntJ j (buildT v fs).ed c + 1)) rfl rfl ?_)
                  refine AOps.nil ?_
                  change AWP _ _ _ _ _ _
                  refine AWP.region (l := [0, 1, 2]) rfl ?_
                  refine AOps.cons rfl rfl (AOp.move (.int .i64 j) rfl s36 ?_)
                  refine AOps.cons rfl rfl (AOp.bin (.int .i64 (j + 1)) rfl rfl rfl (iadd (by omega)) ?_)
                  refine AOps.cons rfl rfl (AOp.assign (.int .i64 (j + 1)) rfl rfl ?_)
                  refine AOps.nil ?_
                  exact ⟨_, by omega, j + 1, rfl, rfl, (congrArg (AV.int .i64) (show (cntJ j (buildT v fs).ed c + 1 : Int) = cntJ (j + 1) (buildT v fs).ed c from by exact (cnt_T hj0 (by omega) ((edged_lone hj0 (by omega) (.inl b44)).trans b49)).symm)), s38, s39, s40, h47, m48, by omega, by omega⟩
                ·
                  refine AWP.condF rfl b49 ?_
                  refine AWP.skip ?_
                  change AWP _ _ _ _ _ _
                  refine AWP.region (l := [0, 1, 2]) rfl ?_
                  refine AOps.cons rfl rfl (AOp.move (.int .i64 j) rfl s36 ?_)
                  refine AOps.cons rfl rfl (AOp.bin (.int .i64 (j + 1)) rfl rfl rfl (iadd (by omega)) ?_)
                  refine AOps.cons rfl rfl (AOp.assign (.int .i64 (j + 1)) rfl rfl ?_)
                  refine AOps.nil ?_
                  exact ⟨_, by omega, j + 1, rfl, rfl, (s37.trans (congrArg (AV.int .i64) (show (cntJ j (buildT v fs).ed c : Int) = cntJ (j + 1) (buildT v fs).ed c from by exact (cnt_F hj0 (by omega) ((edged_lone hj0 (by omega) (.inl b44)).trans b49)).symm))), s38, s39, s40, h47, m48, by omega, by omega⟩
              ·
                refine AOps.yes rfl rfl rfl rfl rfl rfl rfl (decide_eq_false b44) (AOp.fieldAddr rfl s40 fl_29_0 ?_ (hid := ⟨_, h41⟩))
                refine AOps.yes rfl rfl rfl rfl rfl rfl rfl (decide_eq_false b44) (AOp.load (.sl ((buildT v fs).ed).length (((buildT v fs).ed).flatMap eE)) rfl rfl ty_26 h41 rfl ?_)
                refine AOps.yes rfl rfl rfl rfl rfl rfl rfl (decide_eq_false b44) (AOp.move (.int .i64 j) rfl s36 ?_)
                refine AOps.yes rfl rfl rfl rfl rfl rfl rfl (decide_eq_false b44) (AOp.indexAddrS rfl rfl rfl sl_26 (by omega) (by omega) ?_)
                refine AOps.yes rfl rfl rfl rfl rfl rfl rfl (decide_eq_false b44) (AOp.fieldAddrF rfl rfl fl_37_1 ?_)
                refine AOps.yes rfl rfl rfl rfl rfl rfl rfl (decide_eq_false b44) (AOp.loadF (.int .i64 ((at_ ((buildT v fs).ed) j).B)) rfl rfl ty_3 (ldF eE_len (by omega) (by omega) rfl (by decide)) ?_)
                refine AOps.yes rfl rfl rfl rfl rfl rfl rfl (decide_eq_false b44) (AOp.move (.int .i64 c) rfl s38 ?_)
                refine AOps.yes rfl rfl rfl rfl rfl rfl rfl (decide_eq_false b44) (AOp.bin (.bool (decide ((at_ ((buildT v fs).ed) j).B = c))) rfl rfl rfl ieq ?_)
                refine AOps.cons rfl rfl (AOp.pickF (.bool (decide ((at_ ((buildT v fs).ed) j).B = c))) rfl rfl (decide_eq_false b44) rfl ?_)
                refine AOps.cons rfl rfl (AOp.move (.bool (decide ((at_ ((buildT v fs).ed) j).B = c))) rfl rfl ?_)
                by_cases b50 : (at_ ((buildT v fs).ed) j).B = c
                ·
                  refine AOps.yes rfl rfl rfl rfl rfl rfl rfl (decide_eq_true b50) (AOp.load (.agg [.sl ((buildT v fs).ed).length (((buildT v fs).ed).flatMap eE), .sl ((buildT v fs).fan).length (((buildT v fs).fan).map eF), .sl ((buildT v fs).rnd).length (((buildT v fs).rnd).map eBo)]) rfl s40 ty_29 h41 rfl ?_)
                  refine AOps.yes rfl rfl rfl rfl rfl rfl rfl (decide_eq_true b50) (AOp.move (.int .i64 j) rfl s36 ?_)
                  refine AOps.yes rfl rfl rfl rfl rfl rfl rfl (decide_eq_true b50) (AOp.pcall («as» := [.agg [.sl ((buildT v fs).ed).length (((buildT v fs).ed).flatMap eE), .sl ((buildT v fs).fan).length (((buildT v fs).fan).map eF), .sl ((buildT v fs).rnd).length (((buildT v fs).rnd).map eBo)], .int .i64 j]) rfl rfl (rfl) tf_18 (c18 _ _ (by omega)) ?_)
                  intro H51 m52
                  have h53 := m52 _ _ h41
                  have m54 := m42.trans m52
                  refine AOps.cons rfl rfl (AOp.pickT (.bool (edgedS (buildT v fs) j)) rfl rfl (decide_eq_true b50) rfl ?_)
                  refine AOps.nil ?_
                  change AWP _ _ _ _ _ _
                  rcases Bool.eq_false_or_eq_true (edgedS (buildT v fs) j) with b55 | b55
                  ·
                    refine AWP.condT rfl b55 ?_
                    refine AWP.region (l := [0, 1, 2]) rfl ?_
                    refine AOps.cons rfl rfl (AOp.move (.int .i64 (cntJ j (buildT v fs).ed c)) rfl s37 ?_)
                    refine AOps.cons rfl rfl (AOp.bin (.int .i64 (cntJ j (buildT v fs).ed c + 1)) rfl rfl rfl (iadd (by omega)) ?_)
                    refine AOps.cons rfl rfl (AOp.assign (.int .i64 (cntJ j (buildT v fs).ed c + 1)) rfl rfl ?_)
                    refine AOps.nil ?_
                    change AWP _ _ _ _ _ _
                    refine AWP.region (l := [0, 1, 2]) rfl ?_
                    refine AOps.cons rfl rfl (AOp.move (.int .i64 j) rfl s36 ?_)
                    refine AOps.cons rfl rfl (AOp.bin (.int .i64 (j + 1)) rfl rfl rfl (iadd (by omega)) ?_)
                    refine AOps.cons rfl rfl (AOp.assign (.int .i64 (j + 1)) rfl rfl ?_)
                    refine AOps.nil ?_
                    exact ⟨_, by omega, j + 1, rfl, rfl, (congrArg (AV.int .i64) (show (cntJ j (buildT v fs).ed c + 1 : Int) = cntJ (j + 1) (buildT v fs).ed c from by exact (cnt_T hj0 (by omega) ((edged_lone hj0 (by omega) (.inr b50)).trans b55)).symm)), s38, s39, s40, h53, m54, by omega, by omega⟩
                  ·
                    refine AWP.condF rfl b55 ?_
                    refine AWP.skip ?_
                    change AWP _ _ _ _ _ _
                    refine AWP.region (l := [0, 1, 2]) rfl ?_
                    refine AOps.cons rfl rfl (AOp.move (.int .i64 j) rfl s36 ?_)
                    refine AOps.cons rfl rfl (AOp.bin (.int .i64 (j + 1)) rfl rfl rfl (iadd (by omega)) ?_)
                    refine AOps.cons rfl rfl (AOp.assign (.int .i64 (j + 1)) rfl rfl ?_)
                    refine AOps.nil ?_
                    exact ⟨_, by omega, j + 1, rfl, rfl, (s37.trans (congrArg (AV.int .i64) (show (cntJ j (buildT v fs).ed c : Int) = cntJ (j + 1) (buildT v fs).ed c from by exact (cnt_F hj0 (by omega) ((edged_lone hj0 (by omega) (.inr b50)).trans b55)).symm))), s38, s39, s40, h53, m54, by omega, by omega⟩
                ·
                  refine AOps.no rfl rfl rfl rfl rfl rfl rfl (ble_of (decide_eq_false b50) (by decide)) ?_
                  refine AOps.no rfl rfl rfl rfl rfl rfl rfl (ble_of (decide_eq_false b50) (by decide)) ?_
                  refine AOps.no rfl rfl rfl rfl rfl rfl rfl (ble_of (decide_eq_false b50) (by decide)) ?_
                  refine AOps.cons rfl rfl (AOp.pickF (.bool false) rfl rfl (decide_eq_false b50) rfl ?_)
                  refine AOps.nil ?_
                  change AWP _ _ _ _ _ _
                  refine AWP.condF rfl rfl ?_
                  refine AWP.skip ?_
                  change AWP _ _ _ _ _ _
                  refine AWP.region (l := [0, 1, 2]) rfl ?_
                  refine AOps.cons rfl rfl (AOp.move (.int .i64 j) rfl s36 ?_)
                  refine AOps.cons rfl rfl (AOp.bin (.int .i64 (j + 1)) rfl rfl rfl (iadd (by omega)) ?_)
                  refine AOps.cons rfl rfl (AOp.assign (.int .i64 (j + 1)) rfl rfl ?_)
                  refine AOps.nil ?_
                  exact ⟨_, by omega, j + 1, rfl, rfl, (s37.trans (congrArg (AV.int .i64) (show (cntJ j (buildT v fs).ed c : Int) = cntJ (j + 1) (buildT v fs).ed c from by exact (cnt_F hj0 (by omega) (lone_no (fun h => h.elim b44 b50))).symm))), s38, s39, s40, h41, m42, by omega, by omega⟩
            ·
              refine AWP.condF rfl (decide_eq_false b43) ?_
              refine AWP.exit ?_
              change AWP _ _ _ _ _ _
              refine AWP.seq ?_
              have hra2 := hra.2
              refine AWP.region (l := [0, 1, 2, 3, 4, 5, 6, 7, 8, 9, 10, 11, 12, 13, 14, 15, 16, 17, 18, 19, 20]) rfl ?_
              refine AOps.cons rfl rfl (AOp.fieldAddr rfl s40 fl_29_2 ?_ (hid := ⟨_, h41⟩))
              refine AOps.cons rfl rfl (AOp.load (.sl ((buildT v fs).rnd).length (((buildT v fs).rnd).map eBo)) rfl rfl ty_27 h41 rfl ?_)
              refine AOps.cons rfl rfl (AOp.move (.int .i64 c) rfl s38 ?_)
              refine AOps.cons rfl rfl (AOp.indexAddrS rfl rfl rfl sl_27 (by omega) (by omega) ?_)
              refine AOps.cons rfl rfl (AOp.loadF (.bool (at_ ((buildT v fs).rnd) c)) rfl rfl ty_4 (ld1 (by omega) (by omega)) ?_)
              refine AOps.cons rfl rfl (AOp.move (.bool (at_ ((buildT v fs).rnd) c)) rfl rfl ?_)
              rcases Bool.eq_false_or_eq_true (at_ ((buildT v fs).rnd) c) with b56 | b56
              ·
                refine AOps.yes rfl rfl rfl rfl rfl rfl rfl b56 (AOp.move (.int .i64 (cntJ j (buildT v fs).ed c)) rfl s37 ?_)
                refine AOps.yes rfl rfl rfl rfl rfl rfl rfl b56 (AOp.bin (.bool (!decide (cntJ j (buildT v fs).ed c = 0))) rfl rfl rfl ine ?_)
                refine AOps.cons rfl rfl (AOp.pickT (.bool (!decide (cntJ j (buildT v fs).ed c = 0))) rfl rfl b56 rfl ?_)
                refine AOps.cons rfl rfl (AOp.move (.bool (!decide (cntJ j (buildT v fs).ed c = 0))) rfl rfl ?_)
                by_cases b57 : cntJ j (buildT v fs).ed c = 0
                ·
                  refine AOps.yes rfl rfl rfl rfl rfl rfl rfl (nb (decide_eq_true b57)) (AOp.fieldAddr rfl s40 fl_29_2 ?_ (hid := ⟨_, h41⟩))
                  refine AOps.yes rfl rfl rfl rfl rfl rfl rfl (nb (decide_eq_true b57)) (AOp.load (.sl ((buildT v fs).rnd).length (((buildT v fs).rnd).map eBo)) rfl rfl ty_27 h41 rfl ?_)
                  refine AOps.yes rfl rfl rfl rfl rfl rfl rfl (nb (decide_eq_true b57)) (AOp.move (.int .i64 c) rfl s38 ?_)
                  refine AOps.yes rfl rfl rfl rfl rfl rfl rfl (nb (decide_eq_true b57)) (AOp.indexAddrS rfl rfl rfl sl_27 (by omega) (by omega) ?_)
                  refine AOps.yes rfl rfl rfl rfl rfl rfl rfl (nb (decide_eq_true b57)) (AOp.loadF (.bool (at_ ((buildT v fs).rnd) c)) rfl rfl ty_4 (ld1 (by omega) (by omega)) ?_)
                  refine AOps.yes rfl rfl rfl rfl rfl rfl rfl (nb (decide_eq_true b57)) (AOp.not rfl rfl ?_)
                  refine AOps.yes rfl rfl rfl rfl rfl rfl rfl (nb (decide_eq_true b57)) (AOp.move (.bool (!(at_ ((buildT v fs).rnd) c))) rfl rfl ?_)
                  refine AOps.no rfl rfl rfl rfl rfl rfl rfl (ble_of (nb b56) (by decide)) ?_
                  refine AOps.no rfl rfl rfl rfl rfl rfl rfl (ble_of (nb b56) (by decide)) ?_
                  refine AOps.yes rfl rfl rfl rfl rfl rfl rfl (nb (decide_eq_true b57)) (AOp.pickF (.bool false) rfl rfl (nb b56) rfl ?_)
                  refine AOps.cons rfl rfl (AOp.pickF (.bool false) rfl rfl (nb (decide_eq_true b57)) rfl ?_)
                  refine AOps.nil ?_
                  change AWP _ _ _ _ _ _
                  refine AWP.condF rfl rfl ?_
                  refine AWP.skip ?_
                  change AWP _ _ _ _ _ _
                  refine AWP.region (l := [0, 1, 2]) rfl ?_
                  refine AOps.cons rfl rfl (AOp.move (.int .i64 c) rfl s38 ?_)
                  refine AOps.cons rfl rfl (AOp.bin (.int .i64 (c + 1)) rfl rfl rfl (iadd (by omega)) ?_)
                  refine AOps.cons rfl rfl (AOp.assign (.int .i64 (c + 1)) rfl rfl ?_)
                  refine AOps.nil ?_
                  exact ⟨_, by omega, c + 1, rfl, rfl, s39, s40, h41, m42, by omega⟩
                ·
                  refine AOps.no rfl rfl rfl rfl rfl rfl rfl (ble_of (nb (decide_eq_false b57)) (by decide)) ?_
                  refine AOps.no rfl rfl rfl rfl rfl rfl rfl (ble_of (nb (decide_eq_false b57)) (by decide)) ?_
                  refine AOps.no rfl rfl rfl rfl rfl rfl rfl (ble_of (nb (decide_eq_false b57)) (by decide)) ?_
                  refine AOps.no rfl rfl rfl rfl rfl rfl rfl (ble_of (nb (decide_eq_false b57)) (by decide)) ?_
                  refine AOps.no rfl rfl rfl rfl rfl rfl rfl (ble_of (nb (decide_eq_false b57)) (by decide)) ?_
                  refine AOps.no rfl rfl rfl rfl rfl rfl rfl (ble_of (nb (decide_eq_false b57)) (by decide)) ?_
                  refine AOps.no rfl rfl rfl rfl rfl rfl rfl (ble_of (nb (decide_eq_false b57)) (by decide)) ?_
                  refine AOps.un rfl rfl rfl rfl rfl rfl rfl ?_
                  refine AOps.un rfl rfl rfl rfl rfl rfl rfl ?_
                  refine AOps.no rfl rfl rfl rfl rfl rfl rfl (ble_of (nb (decide_eq_false b57)) (by decide)) ?_
                  refine AOps.cons rfl rfl (AOp.pickT (.bool true) rfl rfl (nb (decide_eq_false b57)) rfl ?_)
                  refine AOps.nil ?_
                  change AWP _ _ _ _ _ _
                  refine AWP.condT rfl rfl ?_
                  refine AWP.seq ?_
                  refine AWP.region (l := [0]) rfl ?_
                  refine AOps.cons rfl rfl (AOp.assign (.bool false) rfl rfl ?_)
                  refine AOps.nil ?_
                  change AWP _ _ _ _ _ _
                  refine AWP.ret ?_
                  refine ⟨_, _, Ghost.refl, .inr rfl, _, Res.one rfl rfl, ?_, m42⟩
                  exact (congrArg AV.bool (show (false : Bool) = true from by exfalso; have hfl := FL hok hc0 (by omega); rw [← hra.1, b56] at hfl; simp only [if_true, if_false, Bool.false_eq_true] at hfl; have hje : j = (buildT v fs).ed.length := (by omega); rw [← hje] at hfl; omega))
              ·
                refine AOps.no rfl rfl rfl rfl rfl rfl rfl (ble_of b56 (by decide)) ?_
                refine AOps.no rfl rfl rfl rfl rfl rfl rfl (ble_of b56 (by decide)) ?_
                refine AOps.cons rfl rfl (AOp.pickF (.bool false) rfl rfl b56 rfl ?_)
                refine AOps.cons rfl rfl (AOp.move (.bool false) rfl rfl ?_)
                refine AOps.yes rfl rfl rfl rfl rfl rfl rfl rfl (AOp.fieldAddr rfl s40 fl_29_2 ?_ (hid := ⟨_, h41⟩))
                refine AOps.yes rfl rfl rfl rfl rfl rfl rfl rfl (AOp.load (.sl ((buildT v fs).rnd).length (((buildT v fs).rnd).map eBo)) rfl rfl ty_27 h41 rfl ?_)
                refine AOps.yes rfl rfl rfl rfl rfl rfl rfl rfl (AOp.move (.int .i64 c) rfl s38 ?_)
                refine AOps.yes rfl rfl rfl rfl rfl rfl rfl rfl (AOp.indexAddrS rfl rfl rfl sl_27 (by omega) (by omega) ?_)
                refine AOps.yes rfl rfl rfl rfl rfl rfl rfl rfl (AOp.loadF (.bool (at_ ((buildT v fs).rnd) c)) rfl rfl ty_4 (ld1 (by omega) (by omega)) ?_)
                refine AOps.yes rfl rfl rfl rfl rfl rfl rfl rfl (AOp.not rfl rfl ?_)
                refine AOps.yes rfl rfl rfl rfl rfl rfl rfl rfl (AOp.move (.bool (!(at_ ((buildT v fs).rnd) c))) rfl rfl ?_)
                refine AOps.yes rfl rfl rfl rfl rfl rfl rfl (nb b56) (AOp.move (.int .i64 (cntJ j (buildT v fs).ed c)) rfl s37 ?_)
                refine AOps.yes rfl rfl rfl rfl rfl rfl rfl (nb b56) (AOp.bin (.bool (!decide (cntJ j (buildT v fs).ed c = 2))) rfl rfl rfl ine ?_)
                refine AOps.yes rfl rfl rfl rfl rfl rfl rfl rfl (AOp.pickT (.bool (!decide (cntJ j (buildT v fs).ed c = 2))) rfl rfl (nb b56) rfl ?_)
                refine AOps.cons rfl rfl (AOp.pickF (.bool (!decide (cntJ j (buildT v fs).ed c = 2))) rfl rfl rfl rfl ?_)
                refine AOps.nil ?_
                change AWP _ _ _ _ _ _
                by_cases b58 : cntJ j (buildT v fs).ed c = 2
                ·
                  refine AWP.condF rfl (nb (decide_eq_true b58)) ?_
                  refine AWP.skip ?_
                  change AWP _ _ _ _ _ _
                  refine AWP.region (l := [0, 1, 2]) rfl ?_
                  refine AOps.cons rfl rfl (AOp.move (.int .i64 c) rfl s38 ?_)
                  refine AOps.cons rfl rfl (AOp.bin (.int .i64 (c + 1)) rfl rfl rfl (iadd (by omega)) ?_)
                  refine AOps.cons rfl rfl (AOp.assign (.int .i64 (c + 1)) rfl rfl ?_)
                  refine AOps.nil ?_
                  exact ⟨_, by omega, c + 1, rfl, rfl, s39, s40, h41, m42, by omega⟩
                ·
                  refine AWP.condT rfl (nb (decide_eq_false b58)) ?_
                  refine AWP.seq ?_
                  refine AWP.region (l := [0]) rfl ?_
                  refine AOps.cons rfl rfl (AOp.assign (.bool false) rfl rfl ?_)
                  refine AOps.nil ?_
                  change AWP _ _ _ _ _ _
                  refine AWP.ret ?_
                  refine ⟨_, _, Ghost.refl, .inr rfl, _, Res.one rfl rfl, ?_, m42⟩
                  exact (congrArg AV.bool (show (false : Bool) = true from by exfalso; have hfl := FL hok hc0 (by omega); rw [← hra.1, b56] at hfl; simp only [if_true, if_false, Bool.false_eq_true] at hfl; have hje : j = (buildT v fs).ed.length := (by omega); rw [← hje] at hfl; omega))
        ·
          refine AWP.condF rfl (decide_eq_false b32) ?_
          refine AWP.exit ?_
          change AWP _ _ _ _ _ _
          refine AWP.seq ?_
          refine AWP.region (l := [0]) rfl ?_
          refine AOps.cons rfl rfl (AOp.assign (.bool true) rfl rfl ?_)
          refine AOps.nil ?_
          change AWP _ _ _ _ _ _
          refine AWP.ret ?_
          refine ⟨_, _, Ghost.refl, .inr rfl, _, Res.one rfl rfl, ?_, m31⟩
          exact rfl
    ·
      refine AWP.condT rfl (nb (decide_eq_false b23)) ?_
      refine AWP.seq ?_
      refine AWP.region (l := [0]) rfl ?_
      refine AOps.cons rfl rfl (AOp.assign (.bool true) rfl rfl ?_)
      refine AOps.nil ?_
      change AWP _ _ _ _ _ _
      refine AWP.ret ?_
      refine ⟨_, _, Ghost.refl, .inr rfl, _, Res.one rfl rfl, ?_, m22⟩
      exact rfl
end Go.Proofs.T
