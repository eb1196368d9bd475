/- A part of the proof that a law answers true for every input of its row: own work, by an AI agent. -/
import Derived.Test.YtcpepibkopbhgaaB03
import Derived.Test.YtcpepibkopbhgaaB00
import Derived.Test.YtcpepibkopbhgaaB01
import Derived.OpenShut
import Derived.Deep.Slices
import Derived.Lib.LaidTab
import Derived.Deep.OwnRows
import Derived.WideKeyArgs
import Derived.Test.YtcpepibkopbhgaaRows
import Derived.WalkKit
import Derived.ProofKit
import Derived.JoinedCond
import Derived.Deep.DeepHandedRow
import Derived.Deep.Matrix
import Derived.KernelRfl
set_option linter.unusedSimpArgs false
set_option linter.unusedVariables false
set_option linter.defProp false
namespace Go.Proofs.B
open Go Go.AH
set_option maxRecDepth 4000
set_option linter.unusedSimpArgs false
set_option linter.unusedVariables false
theorem c_BvhAll (bx : List BoxT) (leaf : Int) : PC Try.prog 4 [.sl bx.length (bx.flatMap eBox), .int .i64 leaf] (.bool true) := by
 intro H0
 refine ACalls.of_body' (n := 200) rfl rfl rfl rfl ?_
 have m0 := Mono.refl H0
 refine AWP.seq ?_
 refine AWP.region (l := [0]) rfl ?_
 refine AOps.cons rfl rfl (AOp.assign (.bool false) rfl rfl ?_)
 refine AOps.nil ?_
 change AWP _ _ _ _ _ _
 refine AWP.seq ?_
 refine AWP.seq ?_
 refine AWP.region (l := [0, 1]) rfl ?_
 refine AOps.cons rfl rfl (AOp.pcall («as» := []) rfl rfl (rfl) tf_8 (c_alive) ?_)
 intro H1 m2
 have m3 := m0.trans m2
 refine AOps.cons rfl rfl (AOp.not rfl rfl ?_)
 refine AOps.nil ?_
 change AWP _ _ _ _ _ _
 refine AWP.condF rfl rfl ?_
 refine AWP.skip ?_
 change AWP _ _ _ _ _ _
 refine AWP.seq ?_
 refine AWP.seq ?_
 refine AWP.region (l := [0, 1, 2]) rfl ?_
 refine AOps.cons rfl rfl (AOp.move (.sl bx.length (bx.flatMap eBox)) rfl rfl ?_)
 refine AOps.cons rfl rfl (AOp.len (m := bx.length) rfl rfl (.inr (.inl ⟨_, rfl⟩)) u_22 ?_)
 refine AOps.cons rfl rfl (AOp.bin (.bool (decide ((bx.length : Int) > 300))) rfl rfl rfl rfl ?_)
 refine AOps.nil ?_
 change AWP _ _ _ _ _ _
 by_cases b4 : (bx.length : Int) > 300
 ·
  refine AWP.condT rfl (decide_eq_true b4) ?_
  refine AWP.seq ?_
  refine AWP.region (l := [0]) rfl ?_
  refine AOps.cons rfl rfl (AOp.assign (.bool true) rfl rfl ?_)
  refine AOps.nil ?_
  change AWP _ _ _ _ _ _
  refine AWP.ret ?_
  refine ⟨_, _, Ghost.refl, .inr rfl, _, Res.one rfl rfl, ?_, m3⟩
  exact rfl
 ·
  refine AWP.condF rfl (decide_eq_false b4) ?_
  refine AWP.skip ?_
  change AWP _ _ _ _ _ _
  refine AWP.seq ?_
  refine AWP.region (l := [0, 1, 2, 3, 4, 5, 6, 7, 8]) rfl ?_
  refine AOps.cons rfl rfl (AOp.move (.sl bx.length (bx.flatMap eBox)) rfl rfl ?_)
  refine AOps.cons rfl rfl (AOp.move (.int .i64 leaf) rfl rfl ?_)
  refine AOps.cons rfl rfl (AOp.pcall («as» := [.sl bx.length (bx.flatMap eBox), .int .i64 leaf]) rfl rfl (rfl) tf_9 (c_Build bx (by first | omega | assumption | (simp; done)) _) ?_)
  intro H5 m6
  have m7 := m3.trans m6
  refine AOps.cons rfl rfl (AOp.move (.tup [.agg [.sl ((buildR bx leaf).1.Nodes).length (((buildR bx leaf).1.Nodes).flatMap eNode), .sl ((buildR bx leaf).1.Items).length (((buildR bx leaf).1.Items).map eI)], .int .i64 ((buildR bx leaf).2)]) rfl rfl ?_)
  refine AOps.cons rfl rfl (AOp.extract (.agg [.sl ((buildR bx leaf).1.Nodes).length (((buildR bx leaf).1.Nodes).flatMap eNode), .sl ((buildR bx leaf).1.Items).length (((buildR bx leaf).1.Items).map eI)]) rfl rfl rfl ?_)
  refine AOps.cons rfl rfl (AOp.extract (.int .i64 ((buildR bx leaf).2)) rfl rfl rfl ?_)
  refine AOps.cons rfl rfl (AOp.alloc rfl tz_29 ?_)
  intro i8 H9 n10 h11 k12
  have z13 := Mono.free m7 n10
  have m14 := Mono.new m7 n10 k12
  refine AOps.cons rfl rfl (AOp.store' (cells' := [.sl ((buildR bx leaf).1.Nodes).length (((buildR bx leaf).1.Nodes).flatMap eNode), .sl ((buildR bx leaf).1.Items).length (((buildR bx leaf).1.Items).map eI)]) (.agg [.sl ((buildR bx leaf).1.Nodes).length (((buildR bx leaf).1.Nodes).flatMap eNode), .sl ((buildR bx leaf).1.Items).length (((buildR bx leaf).1.Items).map eI)]) rfl rfl ts_29 h11 rfl rfl rfl rfl ?_)
  intro H15 h16 k17
  have m19 := Mono.set m14 z13 k17
  refine AOps.cons rfl rfl (AOp.assign (.int .i64 ((buildR bx leaf).2)) rfl rfl ?_)
  refine AOps.nil ?_
  change AWP _ _ _ _ _ _
  refine AWP.seq ?_
  refine AWP.seq ?_
  refine AWP.frzP 5 h16 z13 rfl m19 fun H20 m21 k22 => ?_
  refine AWP.region (l := [0, 1]) rfl ?_
  refine AOps.cons rfl rfl (AOp.move (.int .i64 ((buildR bx leaf).2)) rfl rfl ?_)
  refine AOps.cons rfl rfl (AOp.bin (.bool (!decide ((buildR bx leaf).2 = 0))) rfl rfl rfl ine ?_)
  refine AOps.nil ?_
  change AWP _ _ _ _ _ _
  by_cases b23 : (buildR bx leaf).2 = 0
  ·
   refine AWP.condF rfl (nb (decide_eq_true b23)) ?_
   refine AWP.skip ?_
   change AWP _ _ _ _ _ _
   refine AWP.seq ?_
   have fa := all_facts (by omega) b23
   have f1 := fa.il
   have f2 := fa.nl
   refine AWP.region (l := [0, 1, 2, 3]) rfl ?_
   refine AOps.cons rfl rfl (AOp.move (.sl bx.length (bx.flatMap eBox)) rfl rfl ?_)
   refine AOps.cons rfl rfl (AOp.len (m := bx.length) rfl rfl (.inr (.inl ⟨_, rfl⟩)) u_22 ?_)
   refine AOps.cons rfl rfl (AOp.makeSlice_own rfl u_40 ts_4 tz_4 tb_4 (by decide) rfl rfl (by omega) (by omega) m21 ?_)
   intro v24 H25 o26 m27 k28 j29
   have o30 : Own H0 H25 1 v24 (List.replicate (bx.length : Int).toNat false).length ((List.replicate (bx.length : Int).toNat false).map eBo) := Own.re o26 (by rw [List.length_replicate]) (by rw [List.map_replicate]; rfl)
   refine AOps.cons rfl rfl (AOp.assign (v24) rfl rfl ?_)
   refine AOps.nil ?_
   change AWP _ _ _ _ _ _
   refine AWP.seq ?_
   refine AWP.seq ?_
   refine AWP.region (l := [0]) rfl ?_
   refine AOps.cons rfl rfl (AOp.assign (.int .i64 0) rfl rfl ?_)
   refine AOps.nil ?_
   change AWP _ _ _ _ _ _
   refine AWP.block ?_
   refine AWP.loop (fun q31 fq Hq => ∃ (i : Int) (w7 : AV), q31 = (((((buildR bx leaf).1.Items).length : Int) : Int) - i).toNat ∧ fq 8 = .int .i64 i ∧ fq 0 = .sl bx.length (bx.flatMap eBox) ∧ fq 1 = .int .i64 leaf ∧ fq 5 = .fptr [.sl ((buildR bx leaf).1.Nodes).length (((buildR bx leaf).1.Nodes).flatMap eNode), .sl ((buildR bx leaf).1.Items).length (((buildR bx leaf).1.Items).map eI)] 0 ∧ fq 7 = w7 ∧ Own H0 Hq 1 w7 (marks bx.length ((buildR bx leaf).1.Items.take i.toNat)).length ((marks bx.length ((buildR bx leaf).1.Items.take i.toNat)).map eBo) ∧ Mono H0 Hq ∧ (0 ≤ i) ∧ (i ≤ (((buildR bx leaf).1.Items).length : Int))) (k := (((((buildR bx leaf).1.Items).length : Int) : Int) - 0).toNat) ?_ ?_
   ·
    exact ⟨0, v24, rfl, rfl, rfl, rfl, rfl, rfl, (have hx : ((List.replicate (bx.length : Int).toNat false) : List Bool) = marks bx.length ((buildR bx leaf).1.Items.take (0 : Int).toNat) := (by first | rfl | (exact (marks_nil _).symm)); Own.re o30 (congrArg List.length hx) (congrArg (fun l : List Bool => l.map eBo) hx)), m27, by omega, by omega⟩
   ·
    rintro _ f33 H32 ⟨i, w7, rfl, s34, s35, s36, s37, s38, o39, m40, hi0, hi1⟩
    refine AWP.seq ?_
    refine AWP.seq ?_
    refine AWP.region (l := [0, 1, 2, 3, 4]) rfl ?_
    refine AOps.cons rfl rfl (AOp.move (.int .i64 i) rfl s34 ?_)
    refine AOps.cons rfl rfl (AOp.fieldAddrF rfl s37 fl_29_1 ?_)
    refine AOps.cons rfl rfl (AOp.loadF (.sl ((buildR bx leaf).1.Items).length (((buildR bx leaf).1.Items).map eI)) rfl rfl ty_27 rfl ?_)
    refine AOps.cons rfl rfl (AOp.len (m := ((buildR bx leaf).1.Items).length) rfl rfl (.inr (.inl ⟨_, rfl⟩)) u_27 ?_)
    refine AOps.cons rfl rfl (AOp.bin (.bool (decide (i < ((((buildR bx leaf).1.Items).length) : Int)))) rfl rfl rfl rfl ?_)
    refine AOps.nil ?_
    change AWP _ _ _ _ _ _
    by_cases b41 : i < ((((buildR bx leaf).1.Items).length) : Int)
    ·
     refine AWP.condT rfl (decide_eq_true b41) ?_
     refine AWP.skip ?_
     change AWP _ _ _ _ _ _
     refine AWP.seq ?_
     refine AWP.block ?_
     refine AWP.seq ?_
     refine AWP.region (l := [0, 1, 2, 3, 4, 5]) rfl ?_
     refine AOps.cons rfl rfl (AOp.fieldAddrF rfl s37 fl_29_1 ?_)
     refine AOps.cons rfl rfl (AOp.loadF (.sl ((buildR bx leaf).1.Items).length (((buildR bx leaf).1.Items).map eI)) rfl rfl ty_27 rfl ?_)
     refine AOps.cons rfl rfl (AOp.move (.int .i64 i) rfl s34 ?_)
     refine AOps.cons rfl rfl (AOp.indexAddrS rfl rfl rfl sl_27 (by omega) (by omega) ?_)
     refine AOps.cons rfl rfl (AOp.loadF (.int .i64 (at_ ((buildR bx leaf).1.Items) i)) rfl rfl ty_3 (ld1 (by omega) (by omega)) ?_)
     refine AOps.cons rfl rfl (AOp.assign (.int .i64 (at_ ((buildR bx leaf).1.Items) i)) rfl rfl ?_)
     refine AOps.nil ?_
     change AWP _ _ _ _ _ _
     refine AWP.seq ?_
     refine AWP.seq ?_
     have hml := marks_len bx.length ((buildR bx leaf).1.Items.take i.toNat)
     have hkr := fa.inr _ (at_mem_l hi0 (by omega : i < (((buildR bx leaf).1.Items).length : Int)))
     have hnd := nodup_step fa.nd hi0 (by omega : i < (((buildR bx leaf).1.Items).length : Int))
     have hmk := marks_at (n := bx.length) (l := (buildR bx leaf).1.Items.take i.toNat) hkr.1 hkr.2
     rw [decide_eq_false hnd] at hmk
     refine AWP.region (l := [0, 1, 2, 3, 4, 5, 6, 7, 8, 9, 10, 11, 12, 13]) rfl ?_
     refine AOps.cons rfl rfl (AOp.move (.int .i64 (at_ ((buildR bx leaf).1.Items) i)) rfl rfl ?_)
     refine AOps.cons rfl rfl (AOp.bin (.bool (decide (at_ ((buildR bx leaf).1.Items) i < 0))) rfl rfl rfl rfl ?_)
     refine AOps.cons rfl rfl (AOp.move (.bool (decide (at_ ((buildR bx leaf).1.Items) i < 0))) rfl rfl ?_)
     by_cases b42 : at_ ((buildR bx leaf).1.Items) i < 0
     ·
      refine AOps.no rfl rfl rfl rfl rfl rfl rfl (ble_of (decide_eq_true b42) (by decide)) ?_
      refine AOps.no rfl rfl rfl rfl rfl rfl rfl (ble_of (decide_eq_true b42) (by decide)) ?_
      refine AOps.no rfl rfl rfl rfl rfl rfl rfl (ble_of (decide_eq_true b42) (by decide)) ?_
      refine AOps.no rfl rfl rfl rfl rfl rfl rfl (ble_of (decide_eq_true b42) (by decide)) ?_
      refine AOps.cons rfl rfl (AOp.pickT (.bool true) rfl rfl (decide_eq_true b42) rfl ?_)
      refine AOps.cons rfl rfl (AOp.move (.bool true) rfl rfl ?_)
      refine AOps.no rfl rfl rfl rfl rfl rfl rfl (ble_of rfl (by decide)) ?_
      refine AOps.no rfl rfl rfl rfl rfl rfl rfl (ble_of rfl (by decide)) ?_
      refine AOps.no rfl rfl rfl rfl rfl rfl rfl (ble_of rfl (by decide)) ?_
      refine AOps.no rfl rfl rfl rfl rfl rfl rfl (ble_of rfl (by decide)) ?_
      refine AOps.cons rfl rfl (AOp.pickT (.bool true) rfl rfl rfl rfl ?_)
      refine AOps.nil ?_
      change AWP _ _ _ _ _ _
      refine AWP.condT rfl rfl ?_
      refine AWP.seq ?_
      refine AWP.region (l := [0]) rfl ?_
      refine AOps.cons rfl rfl (AOp.assign (.bool false) rfl rfl ?_)
      refine AOps.nil ?_
      change AWP _ _ _ _ _ _
      refine AWP.ret ?_
      refine ⟨_, _, Ghost.refl, .inr rfl, _, Res.one rfl rfl, ?_, m40⟩
      exact (congrArg AV.bool (show (false : Bool) = true from by first | rfl | (exfalso; first | omega | (simp_all; done)) | (rw [decide_eq_true_eq]; omega)))
     ·
      refine AOps.yes rfl rfl rfl rfl rfl rfl rfl (decide_eq_false b42) (AOp.move (.int .i64 (at_ ((buildR bx leaf).1.Items) i)) rfl rfl ?_)
      refine AOps.yes rfl rfl rfl rfl rfl rfl rfl (decide_eq_false b42) (AOp.move (.sl bx.length (bx.flatMap eBox)) rfl s35 ?_)
      refine AOps.yes rfl rfl rfl rfl rfl rfl rfl (decide_eq_false b42) (AOp.len (m := bx.length) rfl rfl (.inr (.inl ⟨_, rfl⟩)) u_22 ?_)
      refine AOps.yes rfl rfl rfl rfl rfl rfl rfl (decide_eq_false b42) (AOp.bin (.bool (decide (at_ ((buildR bx leaf).1.Items) i ≥ (bx.length : Int)))) rfl rfl rfl rfl ?_)
      refine AOps.cons rfl rfl (AOp.pickF (.bool (decide (at_ ((buildR bx leaf).1.Items) i ≥ (bx.length : Int)))) rfl rfl (decide_eq_false b42) rfl ?_)
      refine AOps.cons rfl rfl (AOp.move (.bool (decide (at_ ((buildR bx leaf).1.Items) i ≥ (bx.length : Int)))) rfl rfl ?_)
      by_cases b43 : at_ ((buildR bx leaf).1.Items) i ≥ (bx.length : Int)
      ·
       refine AOps.no rfl rfl rfl rfl rfl rfl rfl (ble_of (decide_eq_true b43) (by decide)) ?_
       refine AOps.no rfl rfl rfl rfl rfl rfl rfl (ble_of (decide_eq_true b43) (by decide)) ?_
       refine AOps.no rfl rfl rfl rfl rfl rfl rfl (ble_of (decide_eq_true b43) (by decide)) ?_
       refine AOps.no rfl rfl rfl rfl rfl rfl rfl (ble_of (decide_eq_true b43) (by decide)) ?_
       refine AOps.cons rfl rfl (AOp.pickT (.bool true) rfl rfl (decide_eq_true b43) rfl ?_)
       refine AOps.nil ?_
       change AWP _ _ _ _ _ _
       refine AWP.condT rfl rfl ?_
       refine AWP.seq ?_
       refine AWP.region (l := [0]) rfl ?_
       refine AOps.cons rfl rfl (AOp.assign (.bool false) rfl rfl ?_)
       refine AOps.nil ?_
       change AWP _ _ _ _ _ _
       refine AWP.ret ?_
       refine ⟨_, _, Ghost.refl, .inr rfl, _, Res.one rfl rfl, ?_, m40⟩
       exact (congrArg AV.bool (show (false : Bool) = true from by first | rfl | (exfalso; first | omega | (simp_all; done)) | (rw [decide_eq_true_eq]; omega)))
      ·
       refine AOps.yes rfl rfl rfl rfl rfl rfl rfl (decide_eq_false b43) (AOp.move (w7) rfl s38 ?_)
       refine AOps.yes rfl rfl rfl rfl rfl rfl rfl (decide_eq_false b43) (AOp.move (.int .i64 (at_ ((buildR bx leaf).1.Items) i)) rfl rfl ?_)
       obtain ⟨i44, ver45, e46, h47, _, _⟩ := Own.pos o39 (by omega)
       refine AOps.yes rfl rfl rfl rfl rfl rfl rfl (decide_eq_false b43) (AOp.indexAddrO rfl (Eq.trans rfl e46) rfl sl_40 (by omega) (by omega) h47 ?_)
       refine AOps.yes rfl rfl rfl rfl rfl rfl rfl (decide_eq_false b43) (AOp.load (.bool (at_ (marks bx.length ((buildR bx leaf).1.Items.take i.toNat)) (at_ ((buildR bx leaf).1.Items) i))) rfl rfl ty_4 h47 (ld1 (by omega) (by omega)) ?_)
       refine AOps.cons rfl rfl (AOp.pickF (.bool (at_ (marks bx.length ((buildR bx leaf).1.Items.take i.toNat)) (at_ ((buildR bx leaf).1.Items) i))) rfl rfl (decide_eq_false b43) rfl ?_)
       refine AOps.nil ?_
       change AWP _ _ _ _ _ _
       rcases Bool.eq_false_or_eq_true (at_ (marks bx.length ((buildR bx leaf).1.Items.take i.toNat)) (at_ ((buildR bx leaf).1.Items) i)) with b48 | b48
       ·
        refine AWP.condT rfl b48 ?_
        refine AWP.seq ?_
        refine AWP.region (l := [0]) rfl ?_
        refine AOps.cons rfl rfl (AOp.assign (.bool false) rfl rfl ?_)
        refine AOps.nil ?_
        change AWP _ _ _ _ _ _
        refine AWP.ret ?_
        refine ⟨_, _, Ghost.refl, .inr rfl, _, Res.one rfl rfl, ?_, m40⟩
        exact (congrArg AV.bool (show (false : Bool) = true from by first | rfl | (exfalso; first | omega | (simp_all; done)) | (rw [decide_eq_true_eq]; omega)))
       ·
        refine AWP.condF rfl b48 ?_
        refine AWP.skip ?_
        change AWP _ _ _ _ _ _
        refine AWP.region (l := [0, 1, 2, 3]) rfl ?_
        refine AOps.cons rfl rfl (AOp.move (w7) rfl s38 ?_)
        refine AOps.cons rfl rfl (AOp.move (.int .i64 (at_ ((buildR bx leaf).1.Items) i)) rfl rfl ?_)
        obtain ⟨i49, ver50, e51, h52, _, _⟩ := Own.pos o39 (by omega)
        refine AOps.cons rfl rfl (AOp.indexAddrO rfl (Eq.trans rfl e51) rfl sl_40 (by omega) (by omega) h52 ?_)
        refine AOps.cons rfl rfl (AOp.store' (cells' := ((marks bx.length ((buildR bx leaf).1.Items.take i.toNat)).set (at_ ((buildR bx leaf).1.Items) i).toNat true).map eBo) (.bool true) rfl rfl ts_4 (Own.at_ e51 o39).1 rfl rfl (blelen (by rw [List.length_map]) (by omega)) (wr_set1 (by omega) (by omega)) ?_)
        intro H53 h54 k55
        have o56 := Own.store e51 o39 h54 (len' := (((marks bx.length ((buildR bx leaf).1.Items.take i.toNat)).set (at_ ((buildR bx leaf).1.Items) i).toNat true)).length) (by rw [List.length_set]) (by rw [List.length_map, Nat.mul_one, List.length_set])
        have m57 := Mono.set m40 (Own.at_ e51 o39).2.1 k55
        refine AOps.nil ?_
        change AWP _ _ _ _ _ _
        refine AWP.region (l := [0, 1, 2]) rfl ?_
        refine AOps.cons rfl rfl (AOp.move (.int .i64 i) rfl s34 ?_)
        refine AOps.cons rfl rfl (AOp.bin (.int .i64 (i + 1)) rfl rfl rfl (iadd (by omega)) ?_)
        refine AOps.cons rfl rfl (AOp.assign (.int .i64 (i + 1)) rfl rfl ?_)
        refine AOps.nil ?_
        exact ⟨_, by omega, i + 1, w7, rfl, rfl, s35, s36, s37, s38, (have hx : ((((marks bx.length ((buildR bx leaf).1.Items.take i.toNat)).set (at_ ((buildR bx leaf).1.Items) i).toNat true)) : List Bool) = marks bx.length ((buildR bx leaf).1.Items.take (i + 1).toNat) := (by exact marks_step hi0 (by omega) hkr); Own.re o56 (congrArg List.length hx) (congrArg (fun l : List Bool => l.map eBo) hx)), m57, by omega, by omega⟩
    ·
     refine AWP.condF rfl (decide_eq_false b41) ?_
     refine AWP.exit ?_
     change AWP _ _ _ _ _ _
     refine AWP.seq ?_
     refine AWP.region (l := [0]) rfl ?_
     refine AOps.cons rfl rfl (AOp.assign (.int .i64 0) rfl rfl ?_)
     refine AOps.nil ?_
     change AWP _ _ _ _ _ _
     refine AWP.seq ?_
     refine AWP.seq ?_
     refine AWP.region (l := [0]) rfl ?_
     refine AOps.cons rfl rfl (AOp.assign (.int .i64 0) rfl rfl ?_)
     refine AOps.nil ?_
     change AWP _ _ _ _ _ _
     refine AWP.block ?_
     refine AWP.loop (fun q58 fq Hq => ∃ (i : Int), q58 = (((((buildR bx leaf).1.Nodes).length : Int) : Int) - i).toNat ∧ fq 11 = .int .i64 i ∧ fq 10 = .int .i64 (sumC ((buildR bx leaf).1.Nodes.take i.toNat)) ∧ fq 0 = .sl bx.length (bx.flatMap eBox) ∧ fq 1 = .int .i64 leaf ∧ fq 5 = .fptr [.sl ((buildR bx leaf).1.Nodes).length (((buildR bx leaf).1.Nodes).flatMap eNode), .sl ((buildR bx leaf).1.Items).length (((buildR bx leaf).1.Items).map eI)] 0 ∧ Mono H0 Hq ∧ (0 ≤ i) ∧ (i ≤ (((buildR bx leaf).1.Nodes).length : Int))) (k := (((((buildR bx leaf).1.Nodes).length : Int) : Int) - 0).toNat) ?_ ?_
     ·
      exact ⟨0, rfl, rfl, (congrArg (AV.int .i64) (show (0 : Int) = sumC ((buildR bx leaf).1.Nodes.take (0 : Int).toNat) from by rfl)), s35, s36, s37, m40, by omega, by omega⟩
     ·
      rintro _ f60 H59 ⟨i, rfl, s61, s62, s63, s64, s65, m66, hi0, hi1⟩
      refine AWP.seq ?_
      refine AWP.seq ?_
      refine AWP.region (l := [0, 1, 2, 3, 4]) rfl ?_
      refine AOps.cons rfl rfl (AOp.move (.int .i64 i) rfl s61 ?_)
      refine AOps.cons rfl rfl (AOp.fieldAddrF rfl s65 fl_29_0 ?_)
      refine AOps.cons rfl rfl (AOp.loadF (.sl ((buildR bx leaf).1.Nodes).length (((buildR bx leaf).1.Nodes).flatMap eNode)) rfl rfl ty_26 rfl ?_)
      refine AOps.cons rfl rfl (AOp.len (m := ((buildR bx leaf).1.Nodes).length) rfl rfl (.inr (.inl ⟨_, rfl⟩)) u_26 ?_)
      refine AOps.cons rfl rfl (AOp.bin (.bool (decide (i < ((((buildR bx leaf).1.Nodes).length) : Int)))) rfl rfl rfl rfl ?_)
      refine AOps.nil ?_
      change AWP _ _ _ _ _ _
      by_cases b67 : i < ((((buildR bx leaf).1.Nodes).length) : Int)
      ·
       refine AWP.condT rfl (decide_eq_true b67) ?_
       refine AWP.skip ?_
       change AWP _ _ _ _ _ _
       refine AWP.seq ?_
       refine AWP.block ?_
       refine AWP.seq ?_
       refine AWP.region (l := [0, 1, 2, 3, 4, 5, 6]) rfl ?_
       refine AOps.cons rfl rfl (AOp.fieldAddrF rfl s65 fl_29_0 ?_)
       refine AOps.cons rfl rfl (AOp.loadF (.sl ((buildR bx leaf).1.Nodes).length (((buildR bx leaf).1.Nodes).flatMap eNode)) rfl rfl ty_26 rfl ?_)
       refine AOps.cons rfl rfl (AOp.move (.int .i64 i) rfl s61 ?_)
       refine AOps.cons rfl rfl (AOp.indexAddrS rfl rfl rfl sl_26 (by omega) (by omega) ?_)
       refine AOps.cons rfl rfl (AOp.loadF (.agg [.int .i64 ((((at_ ((buildR bx leaf).1.Nodes) i).Box).Lo).X), .int .i64 ((((at_ ((buildR bx leaf).1.Nodes) i).Box).Lo).Y), .int .i64 ((((at_ ((buildR bx leaf).1.Nodes) i).Box).Lo).Z), .int .i64 ((((at_ ((buildR bx leaf).1.Nodes) i).Box).Hi).X), .int .i64 ((((at_ ((buildR bx leaf).1.Nodes) i).Box).Hi).Y), .int .i64 ((((at_ ((buildR bx leaf).1.Nodes) i).Box).Hi).Z), .int .i64 ((at_ ((buildR bx leaf).1.Nodes) i).Left), .int .i64 ((at_ ((buildR bx leaf).1.Nodes) i).Right), .int .i64 ((at_ ((buildR bx leaf).1.Nodes) i).First), .int .i64 ((at_ ((buildR bx leaf).1.Nodes) i).Count)]) rfl rfl ty_42 (ldM eNode_len (by omega) (by omega)) ?_)
       refine AOps.cons rfl rfl (AOp.alloc rfl tz_42 ?_)
       intro i68 H69 n70 h71 k72
       have z73 := Mono.free m66 n70
       have m74 := Mono.new m66 n70 k72
       refine AOps.cons rfl rfl (AOp.store' (cells' := [.int .i64 ((((at_ ((buildR bx leaf).1.Nodes) i).Box).Lo).X), .int .i64 ((((at_ ((buildR bx leaf).1.Nodes) i).Box).Lo).Y), .int .i64 ((((at_ ((buildR bx leaf).1.Nodes) i).Box).Lo).Z), .int .i64 ((((at_ ((buildR bx leaf).1.Nodes) i).Box).Hi).X), .int .i64 ((((at_ ((buildR bx leaf).1.Nodes) i).Box).Hi).Y), .int .i64 ((((at_ ((buildR bx leaf).1.Nodes) i).Box).Hi).Z), .int .i64 ((at_ ((buildR bx leaf).1.Nodes) i).Left), .int .i64 ((at_ ((buildR bx leaf).1.Nodes) i).Right), .int .i64 ((at_ ((buildR bx leaf).1.Nodes) i).First), .int .i64 ((at_ ((buildR bx leaf).1.Nodes) i).Count)]) (.agg [.int .i64 ((((at_ ((buildR bx leaf).1.Nodes) i).Box).Lo).X), .int .i64 ((((at_ ((buildR bx leaf).1.Nodes) i).Box).Lo).Y), .int .i64 ((((at_ ((buildR bx leaf).1.Nodes) i).Box).Lo).Z), .int .i64 ((((at_ ((buildR bx leaf).1.Nodes) i).Box).Hi).X), .int .i64 ((((at_ ((buildR bx leaf).1.Nodes) i).Box).Hi).Y), .int .i64 ((((at_ ((buildR bx leaf).1.Nodes) i).Box).Hi).Z), .int .i64 ((at_ ((buildR bx leaf).1.Nodes) i).Left), .int .i64 ((at_ ((buildR bx leaf).1.Nodes) i).Right), .int .i64 ((at_ ((buildR bx leaf).1.Nodes) i).First), .int .i64 ((at_ ((buildR bx leaf).1.Nodes) i).Count)]) rfl rfl ts_42 h71 rfl rfl rfl rfl ?_)
       intro H75 h76 k77
       have m79 := Mono.set m74 z73 k77
       refine AOps.nil ?_
       change AWP _ _ _ _ _ _
       refine AWP.seq ?_
       refine AWP.seq ?_
       refine AWP.frzP 12 h76 z73 rfl m79 fun H80 m81 k82 => ?_
       obtain ⟨q1, q2, q3, q4, q5, q6⟩ := fa.nok i hi0 (by omega)
       refine AWP.region (l := [0, 1, 2, 3, 4, 5, 6, 7, 8, 9, 10, 11, 12, 13, 14, 15, 16, 17, 18, 19, 20, 21, 22, 23, 24]) rfl ?_
       refine AOps.cons rfl rfl (AOp.fieldAddrF rfl rfl fl_42_4 ?_)
       refine AOps.cons rfl rfl (AOp.loadF (.int .i64 ((at_ ((buildR bx leaf).1.Nodes) i).Count)) rfl rfl ty_3 rfl ?_)
       refine AOps.cons rfl rfl (AOp.bin (.bool (decide ((at_ ((buildR bx leaf).1.Nodes) i).Count < 0))) rfl rfl rfl rfl ?_)
       refine AOps.cons rfl rfl (AOp.move (.bool (decide ((at_ ((buildR bx leaf).1.Nodes) i).Count < 0))) rfl rfl ?_)
       by_cases b83 : (at_ ((buildR bx leaf).1.Nodes) i).Count < 0
       ·
        refine AOps.no rfl rfl rfl rfl rfl rfl rfl (ble_of (decide_eq_true b83) (by decide)) ?_
        refine AOps.no rfl rfl rfl rfl rfl rfl rfl (ble_of (decide_eq_true b83) (by decide)) ?_
        refine AOps.no rfl rfl rfl rfl rfl rfl rfl (ble_of (decide_eq_true b83) (by decide)) ?_
        refine AOps.no rfl rfl rfl rfl rfl rfl rfl (ble_of (decide_eq_true b83) (by decide)) ?_
        refine AOps.cons rfl rfl (AOp.pickT (.bool true) rfl rfl (decide_eq_true b83) rfl ?_)
        refine AOps.cons rfl rfl (AOp.move (.bool true) rfl rfl ?_)
        refine AOps.no rfl rfl rfl rfl rfl rfl rfl (ble_of rfl (by decide)) ?_
        refine AOps.no rfl rfl rfl rfl rfl rfl rfl (ble_of rfl (by decide)) ?_
        refine AOps.no rfl rfl rfl rfl rfl rfl rfl (ble_of rfl (by decide)) ?_
        refine AOps.cons rfl rfl (AOp.pickT (.bool true) rfl rfl rfl rfl ?_)
        refine AOps.cons rfl rfl (AOp.move (.bool true) rfl rfl ?_)
        refine AOps.no rfl rfl rfl rfl rfl rfl rfl (ble_of rfl (by decide)) ?_
        refine AOps.no rfl rfl rfl rfl rfl rfl rfl (ble_of rfl (by decide)) ?_
        refine AOps.no rfl rfl rfl rfl rfl rfl rfl (ble_of rfl (by decide)) ?_
        refine AOps.no rfl rfl rfl rfl rfl rfl rfl (ble_of rfl (by decide)) ?_
        refine AOps.no rfl rfl rfl rfl rfl rfl rfl (ble_of rfl (by decide)) ?_
        refine AOps.no rfl rfl rfl rfl rfl rfl rfl (ble_of rfl (by decide)) ?_
        refine AOps.no rfl rfl rfl rfl rfl rfl rfl (ble_of rfl (by decide)) ?_
        refine AOps.no rfl rfl rfl rfl rfl rfl rfl (ble_of rfl (by decide)) ?_
        refine AOps.no rfl rfl rfl rfl rfl rfl rfl (ble_of rfl (by decide)) ?_
        refine AOps.cons rfl rfl (AOp.pickT (.bool true) rfl rfl rfl rfl ?_)
        refine AOps.nil ?_
        change AWP _ _ _ _ _ _
        refine AWP.condT rfl rfl ?_
        refine AWP.seq ?_
        refine AWP.region (l := [0]) rfl ?_
        refine AOps.cons rfl rfl (AOp.assign (.bool false) rfl rfl ?_)
        refine AOps.nil ?_
        change AWP _ _ _ _ _ _
        refine AWP.ret ?_
        refine ⟨_, _, Ghost.refl, .inr rfl, _, Res.one rfl rfl, ?_, m81⟩
        exact (congrArg AV.bool (show (false : Bool) = true from by first | rfl | (exfalso; first | omega | (simp_all; done)) | (rw [decide_eq_true_eq]; omega)))
       ·
        refine AOps.yes rfl rfl rfl rfl rfl rfl rfl (decide_eq_false b83) (AOp.fieldAddrF rfl rfl fl_42_4 ?_)
        refine AOps.yes rfl rfl rfl rfl rfl rfl rfl (decide_eq_false b83) (AOp.loadF (.int .i64 ((at_ ((buildR bx leaf).1.Nodes) i).Count)) rfl rfl ty_3 rfl ?_)
        refine AOps.yes rfl rfl rfl rfl rfl rfl rfl (decide_eq_false b83) (AOp.move (.int .i64 leaf) rfl s64 ?_)
        refine AOps.yes rfl rfl rfl rfl rfl rfl rfl (decide_eq_false b83) (AOp.bin (.bool (decide ((at_ ((buildR bx leaf).1.Nodes) i).Count > leaf))) rfl rfl rfl rfl ?_)
        refine AOps.cons rfl rfl (AOp.pickF (.bool (decide ((at_ ((buildR bx leaf).1.Nodes) i).Count > leaf))) rfl rfl (decide_eq_false b83) rfl ?_)
        refine AOps.cons rfl rfl (AOp.move (.bool (decide ((at_ ((buildR bx leaf).1.Nodes) i).Count > leaf))) rfl rfl ?_)
        by_cases b84 : (at_ ((buildR bx leaf).1.Nodes) i).Count > leaf
        ·
         refine AOps.no rfl rfl rfl rfl rfl rfl rfl (ble_of (decide_eq_true b84) (by decide)) ?_
         refine AOps.no rfl rfl rfl rfl rfl rfl rfl (ble_of (decide_eq_true b84) (by decide)) ?_
         refine AOps.no rfl rfl rfl rfl rfl rfl rfl (ble_of (decide_eq_true b84) (by decide)) ?_
         refine AOps.cons rfl rfl (AOp.pickT (.bool true) rfl rfl (decide_eq_true b84) rfl ?_)
         refine AOps.cons rfl rfl (AOp.move (.bool true) rfl rfl ?_)
         refine AOps.no rfl rfl rfl rfl rfl rfl rfl (ble_of rfl (by decide)) ?_
         refine AOps.no rfl rfl rfl rfl rfl rfl rfl (ble_of rfl (by decide)) ?_
         refine AOps.no rfl rfl rfl rfl rfl rfl rfl (ble_of rfl (by decide)) ?_
         refine AOps.no rfl rfl rfl rfl rfl rfl rfl (ble_of rfl (by decide)) ?_
         refine AOps.no rfl rfl rfl rfl rfl rfl rfl (ble_of rfl (by decide)) ?_
         refine AOps.no rfl rfl rfl rfl rfl rfl rfl (ble_of rfl (by decide)) ?_
         refine AOps.no rfl rfl rfl rfl rfl rfl rfl (ble_of rfl (by decide)) ?_
         refine AOps.no rfl rfl rfl rfl rfl rfl rfl (ble_of rfl (by decide)) ?_
         refine AOps.no rfl rfl rfl rfl rfl rfl rfl (ble_of rfl (by decide)) ?_
         refine AOps.cons rfl rfl (AOp.pickT (.bool true) rfl rfl rfl rfl ?_)
         refine AOps.nil ?_
         change AWP _ _ _ _ _ _
         refine AWP.condT rfl rfl ?_
         refine AWP.seq ?_
         refine AWP.region (l := [0]) rfl ?_
         refine AOps.cons rfl rfl (AOp.assign (.bool false) rfl rfl ?_)
         refine AOps.nil ?_
         change AWP _ _ _ _ _ _
         refine AWP.ret ?_
         refine ⟨_, _, Ghost.refl, .inr rfl, _, Res.one rfl rfl, ?_, m81⟩
         exact (congrArg AV.bool (show (false : Bool) = true from by first | rfl | (exfalso; first | omega | (simp_all; done)) | (rw [decide_eq_true_eq]; omega)))
        ·
         refine AOps.yes rfl rfl rfl rfl rfl rfl rfl (decide_eq_false b84) (AOp.fieldAddrF rfl rfl fl_42_3 ?_)
         refine AOps.yes rfl rfl rfl rfl rfl rfl rfl (decide_eq_false b84) (AOp.loadF (.int .i64 ((at_ ((buildR bx leaf).1.Nodes) i).First)) rfl rfl ty_3 rfl ?_)
         refine AOps.yes rfl rfl rfl rfl rfl rfl rfl (decide_eq_false b84) (AOp.bin (.bool (decide ((at_ ((buildR bx leaf).1.Nodes) i).First < 0))) rfl rfl rfl rfl ?_)
         refine AOps.cons rfl rfl (AOp.pickF (.bool (decide ((at_ ((buildR bx leaf).1.Nodes) i).First < 0))) rfl rfl (decide_eq_false b84) rfl ?_)
         refine AOps.cons rfl rfl (AOp.move (.bool (decide ((at_ ((buildR bx leaf).1.Nodes) i).First < 0))) rfl rfl ?_)
         by_cases b85 : (at_ ((buildR bx leaf).1.Nodes) i).First < 0
         ·
          refine AOps.no rfl rfl rfl rfl rfl rfl rfl (ble_of (decide_eq_true b85) (by decide)) ?_
          refine AOps.no rfl rfl rfl rfl rfl rfl rfl (ble_of (decide_eq_true b85) (by decide)) ?_
          refine AOps.no rfl rfl rfl rfl rfl rfl rfl (ble_of (decide_eq_true b85) (by decide)) ?_
          refine AOps.no rfl rfl rfl rfl rfl rfl rfl (ble_of (decide_eq_true b85) (by decide)) ?_
          refine AOps.no rfl rfl rfl rfl rfl rfl rfl (ble_of (decide_eq_true b85) (by decide)) ?_
          refine AOps.no rfl rfl rfl rfl rfl rfl rfl (ble_of (decide_eq_true b85) (by decide)) ?_
          refine AOps.no rfl rfl rfl rfl rfl rfl rfl (ble_of (decide_eq_true b85) (by decide)) ?_
          refine AOps.no rfl rfl rfl rfl rfl rfl rfl (ble_of (decide_eq_true b85) (by decide)) ?_
          refine AOps.no rfl rfl rfl rfl rfl rfl rfl (ble_of (decide_eq_true b85) (by decide)) ?_
          refine AOps.cons rfl rfl (AOp.pickT (.bool true) rfl rfl (decide_eq_true b85) rfl ?_)
          refine AOps.nil ?_
          change AWP _ _ _ _ _ _
          refine AWP.condT rfl rfl ?_
          refine AWP.seq ?_
          refine AWP.region (l := [0]) rfl ?_
          refine AOps.cons rfl rfl (AOp.assign (.bool false) rfl rfl ?_)
          refine AOps.nil ?_
          change AWP _ _ _ _ _ _
          refine AWP.ret ?_
          refine ⟨_, _, Ghost.refl, .inr rfl, _, Res.one rfl rfl, ?_, m81⟩
          exact (congrArg AV.bool (show (false : Bool) = true from by first | rfl | (exfalso; first | omega | (simp_all; done)) | (rw [decide_eq_true_eq]; omega)))
         ·
          refine AOps.yes rfl rfl rfl rfl rfl rfl rfl (decide_eq_false b85) (AOp.fieldAddrF rfl rfl fl_42_3 ?_)
          refine AOps.yes rfl rfl rfl rfl rfl rfl rfl (decide_eq_false b85) (AOp.loadF (.int .i64 ((at_ ((buildR bx leaf).1.Nodes) i).First)) rfl rfl ty_3 rfl ?_)
          refine AOps.yes rfl rfl rfl rfl rfl rfl rfl (decide_eq_false b85) (AOp.fieldAddrF rfl rfl fl_42_4 ?_)
          refine AOps.yes rfl rfl rfl rfl rfl rfl rfl (decide_eq_false b85) (AOp.loadF (.int .i64 ((at_ ((buildR bx leaf).1.Nodes) i).Count)) rfl rfl ty_3 rfl ?_)
          refine AOps.yes rfl rfl rfl rfl rfl rfl rfl (decide_eq_false b85) (AOp.bin (.int .i64 ((at_ ((buildR bx leaf).1.Nodes) i).First + ((at_ ((buildR bx leaf).1.Nodes) i).Count))) rfl rfl rfl (iadd (by omega)) ?_)
          refine AOps.yes rfl rfl rfl rfl rfl rfl rfl (decide_eq_false b85) (AOp.fieldAddrF rfl s65 fl_29_1 ?_)
          refine AOps.yes rfl rfl rfl rfl rfl rfl rfl (decide_eq_false b85) (AOp.loadF (.sl ((buildR bx leaf).1.Items).length (((buildR bx leaf).1.Items).map eI)) rfl rfl ty_27 rfl ?_)
          refine AOps.yes rfl rfl rfl rfl rfl rfl rfl (decide_eq_false b85) (AOp.len (m := ((buildR bx leaf).1.Items).length) rfl rfl (.inr (.inl ⟨_, rfl⟩)) u_27 ?_)
          refine AOps.yes rfl rfl rfl rfl rfl rfl rfl (decide_eq_false b85) (AOp.bin (.bool (decide ((at_ ((buildR bx leaf).1.Nodes) i).First + ((at_ ((buildR bx leaf).1.Nodes) i).Count) > ((((buildR bx leaf).1.Items).length) : Int)))) rfl rfl rfl rfl ?_)
          refine AOps.cons rfl rfl (AOp.pickF (.bool (decide ((at_ ((buildR bx leaf).1.Nodes) i).First + ((at_ ((buildR bx leaf).1.Nodes) i).Count) > ((((buildR bx leaf).1.Items).length) : Int)))) rfl rfl (decide_eq_false b85) rfl ?_)
          refine AOps.nil ?_
          change AWP _ _ _ _ _ _
          by_cases b86 : (at_ ((buildR bx leaf).1.Nodes) i).First + ((at_ ((buildR bx leaf).1.Nodes) i).Count) > ((((buildR bx leaf).1.Items).length) : Int)
          ·
           refine AWP.condT rfl (decide_eq_true b86) ?_
           refine AWP.seq ?_
           refine AWP.region (l := [0]) rfl ?_
           refine AOps.cons rfl rfl (AOp.assign (.bool false) rfl rfl ?_)
           refine AOps.nil ?_
           change AWP _ _ _ _ _ _
           refine AWP.ret ?_
           refine ⟨_, _, Ghost.refl, .inr rfl, _, Res.one rfl rfl, ?_, m81⟩
           exact (congrArg AV.bool (show (false : Bool) = true from by first | rfl | (exfalso; first | omega | (simp_all; done)) | (rw [decide_eq_true_eq]; omega)))
          ·
           refine AWP.condF rfl (decide_eq_false b86) ?_
           refine AWP.skip ?_
           change AWP _ _ _ _ _ _
           refine AWP.seq ?_
           refine AWP.seq ?_
           refine AWP.region (l := [0, 1, 2]) rfl ?_
           refine AOps.cons rfl rfl (AOp.fieldAddrF rfl rfl fl_42_3 ?_)
           refine AOps.cons rfl rfl (AOp.loadF (.int .i64 ((at_ ((buildR bx leaf).1.Nodes) i).First)) rfl rfl ty_3 rfl ?_)
           refine AOps.cons rfl rfl (AOp.assign (.int .i64 ((at_ ((buildR bx leaf).1.Nodes) i).First)) rfl rfl ?_)
           refine AOps.nil ?_
           change AWP _ _ _ _ _ _
           refine AWP.block ?_
           refine AWP.loop (fun q87 fq Hq => ∃ (k : Int), q87 = ((at_ (buildR bx leaf).1.Nodes i).First + (at_ (buildR bx leaf).1.Nodes i).Count - k).toNat ∧ fq 13 = .int .i64 k ∧ fq 11 = .int .i64 i ∧ fq 10 = .int .i64 (sumC ((buildR bx leaf).1.Nodes.take i.toNat)) ∧ fq 0 = .sl bx.length (bx.flatMap eBox) ∧ fq 1 = .int .i64 leaf ∧ fq 5 = .fptr [.sl ((buildR bx leaf).1.Nodes).length (((buildR bx leaf).1.Nodes).flatMap eNode), .sl ((buildR bx leaf).1.Items).length (((buildR bx leaf).1.Items).map eI)] 0 ∧ fq 12 = .fptr [.int .i64 ((((at_ ((buildR bx leaf).1.Nodes) i).Box).Lo).X), .int .i64 ((((at_ ((buildR bx leaf).1.Nodes) i).Box).Lo).Y), .int .i64 ((((at_ ((buildR bx leaf).1.Nodes) i).Box).Lo).Z), .int .i64 ((((at_ ((buildR bx leaf).1.Nodes) i).Box).Hi).X), .int .i64 ((((at_ ((buildR bx leaf).1.Nodes) i).Box).Hi).Y), .int .i64 ((((at_ ((buildR bx leaf).1.Nodes) i).Box).Hi).Z), .int .i64 ((at_ ((buildR bx leaf).1.Nodes) i).Left), .int .i64 ((at_ ((buildR bx leaf).1.Nodes) i).Right), .int .i64 ((at_ ((buildR bx leaf).1.Nodes) i).First), .int .i64 ((at_ ((buildR bx leaf).1.Nodes) i).Count)] 0 ∧ Mono H0 Hq ∧ ((at_ (buildR bx leaf).1.Nodes i).First ≤ k) ∧ (k ≤ (at_ (buildR bx leaf).1.Nodes i).First + (at_ (buildR bx leaf).1.Nodes i).Count)) (k := ((at_ (buildR bx leaf).1.Nodes i).First + (at_ (buildR bx leaf).1.Nodes i).Count - ((at_ (buildR bx leaf).1.Nodes i).First)).toNat) ?_ ?_
           ·
            exact ⟨(at_ (buildR bx leaf).1.Nodes i).First, rfl, rfl, s61, s62, s63, s64, s65, rfl, m81, by omega, by omega⟩
           ·
            rintro _ f89 H88 ⟨k, rfl, s90, s91, s92, s93, s94, s95, s96, m97, hk0, hk1⟩
            refine AWP.seq ?_
            refine AWP.seq ?_
            refine AWP.region (l := [0, 1, 2, 3, 4, 5, 6]) rfl ?_
            refine AOps.cons rfl rfl (AOp.move (.int .i64 k) rfl s90 ?_)
            refine AOps.cons rfl rfl (AOp.fieldAddrF rfl s96 fl_42_3 ?_)
            refine AOps.cons rfl rfl (AOp.loadF (.int .i64 ((at_ ((buildR bx leaf).1.Nodes) i).First)) rfl rfl ty_3 rfl ?_)
            refine AOps.cons rfl rfl (AOp.fieldAddrF rfl s96 fl_42_4 ?_)
            refine AOps.cons rfl rfl (AOp.loadF (.int .i64 ((at_ ((buildR bx leaf).1.Nodes) i).Count)) rfl rfl ty_3 rfl ?_)
            refine AOps.cons rfl rfl (AOp.bin (.int .i64 ((at_ ((buildR bx leaf).1.Nodes) i).First + ((at_ ((buildR bx leaf).1.Nodes) i).Count))) rfl rfl rfl (iadd (by omega)) ?_)
            refine AOps.cons rfl rfl (AOp.bin (.bool (decide (k < (at_ ((buildR bx leaf).1.Nodes) i).First + ((at_ ((buildR bx leaf).1.Nodes) i).Count)))) rfl rfl rfl rfl ?_)
            refine AOps.nil ?_
            change AWP _ _ _ _ _ _
            by_cases b98 : k < (at_ ((buildR bx leaf).1.Nodes) i).First + ((at_ ((buildR bx leaf).1.Nodes) i).Count)
            ·
             refine AWP.condT rfl (decide_eq_true b98) ?_
             refine AWP.skip ?_
             change AWP _ _ _ _ _ _
             refine AWP.seq ?_
             refine AWP.block ?_
             refine AWP.seq ?_
             have q7 := fa.inr _ (at_mem_l (i := k) (l := (buildR bx leaf).1.Items) (by omega) (by omega))
             have q8 := inB_iff.2 (q5 k hk0 (by omega))
             refine AWP.region_quiet mixed (by kernel_rfl) 14 [] rfl (by kernel_rfl) (Mono H88) (Mono.refl _) ?_
             refine QE.op rfl rfl (.inl ⟨rfl, fun f' H' hf hM => AOp.fieldAddrF rfl ((hf 12 rfl).trans s96) fl_42_0 ⟨rfl, hM⟩⟩) ?_
             refine QE.op rfl rfl (.inl ⟨rfl, fun f' H' hf hM => AOp.loadF (.agg [.int .i64 ((((at_ ((buildR bx leaf).1.Nodes) i).Box).Lo).X), .int .i64 ((((at_ ((buildR bx leaf).1.Nodes) i).Box).Lo).Y), .int .i64 ((((at_ ((buildR bx leaf).1.Nodes) i).Box).Lo).Z), .int .i64 ((((at_ ((buildR bx leaf).1.Nodes) i).Box).Hi).X), .int .i64 ((((at_ ((buildR bx leaf).1.Nodes) i).Box).Hi).Y), .int .i64 ((((at_ ((buildR bx leaf).1.Nodes) i).Box).Hi).Z)]) rfl ((hf 117 rfl).trans rfl) ty_37 rfl ⟨rfl, hM⟩⟩) ?_
             refine QE.op rfl rfl (.inl ⟨rfl, fun f' H' hf hM => AOp.move (.sl bx.length (bx.flatMap eBox)) rfl ((hf 0 rfl).trans s93) ⟨rfl, hM⟩⟩) ?_
             refine QE.op rfl rfl (.inl ⟨rfl, fun f' H' hf hM => AOp.fieldAddrF rfl ((hf 5 rfl).trans s95) fl_29_1 ⟨rfl, hM⟩⟩) ?_
             refine QE.op rfl rfl (.inl ⟨rfl, fun f' H' hf hM => AOp.loadF (.sl ((buildR bx leaf).1.Items).length (((buildR bx leaf).1.Items).map eI)) rfl ((hf 120 rfl).trans rfl) ty_27 rfl ⟨rfl, hM⟩⟩) ?_
             refine QE.op rfl rfl (.inl ⟨rfl, fun f' H' hf hM => AOp.move (.int .i64 k) rfl ((hf 13 rfl).trans s90) ⟨rfl, hM⟩⟩) ?_
             refine QE.op rfl rfl (.inl ⟨rfl, fun f' H' hf hM => AOp.indexAddrS rfl ((hf 121 rfl).trans rfl) ((hf 122 rfl).trans rfl) sl_27 (by omega) (by omega) ⟨rfl, hM⟩⟩) ?_
             refine QE.op rfl rfl (.inl ⟨rfl, fun f' H' hf hM => AOp.loadF (.int .i64 (at_ ((buildR bx leaf).1.Items) k)) rfl ((hf 123 rfl).trans rfl) ty_3 (ld1 (by omega) (by omega)) ⟨rfl, hM⟩⟩) ?_
             refine QE.op rfl rfl (.inl ⟨rfl, fun f' H' hf hM => AOp.indexAddrS rfl ((hf 119 rfl).trans rfl) ((hf 124 rfl).trans rfl) sl_22 (by omega) (by omega) ⟨rfl, hM⟩⟩) ?_
             refine QE.op rfl rfl (.inl ⟨rfl, fun f' H' hf hM => AOp.loadF (.agg [.int .i64 (((at_ bx (at_ ((buildR bx leaf).1.Items) k)).Lo).X), .int .i64 (((at_ bx (at_ ((buildR bx leaf).1.Items) k)).Lo).Y), .int .i64 (((at_ bx (at_ ((buildR bx leaf).1.Items) k)).Lo).Z), .int .i64 (((at_ bx (at_ ((buildR bx leaf).1.Items) k)).Hi).X), .int .i64 (((at_ bx (at_ ((buildR bx leaf).1.Items) k)).Hi).Y), .int .i64 (((at_ bx (at_ ((buildR bx leaf).1.Items) k)).Hi).Z)]) rfl ((hf 125 rfl).trans rfl) ty_37 (ldM eBox_len (by omega) (by omega)) ⟨rfl, hM⟩⟩) ?_
             refine QE.op rfl rfl (.inl ⟨rfl, fun f' H' hf hM => AOp.pcall («as» := [.agg [.int .i64 ((((at_ ((buildR bx leaf).1.Nodes) i).Box).Lo).X), .int .i64 ((((at_ ((buildR bx leaf).1.Nodes) i).Box).Lo).Y), .int .i64 ((((at_ ((buildR bx leaf).1.Nodes) i).Box).Lo).Z), .int .i64 ((((at_ ((buildR bx leaf).1.Nodes) i).Box).Hi).X), .int .i64 ((((at_ ((buildR bx leaf).1.Nodes) i).Box).Hi).Y), .int .i64 ((((at_ ((buildR bx leaf).1.Nodes) i).Box).Hi).Z)], .agg [.int .i64 (((at_ bx (at_ ((buildR bx leaf).1.Items) k)).Lo).X), .int .i64 (((at_ bx (at_ ((buildR bx leaf).1.Items) k)).Lo).Y), .int .i64 (((at_ bx (at_ ((buildR bx leaf).1.Items) k)).Lo).Z), .int .i64 (((at_ bx (at_ ((buildR bx leaf).1.Items) k)).Hi).X), .int .i64 (((at_ bx (at_ ((buildR bx leaf).1.Items) k)).Hi).Y), .int .i64 (((at_ bx (at_ ((buildR bx leaf).1.Items) k)).Hi).Z)]]) rfl rfl (lapp (lcons ((hf 118 rfl).trans rfl) (lcons ((hf 126 rfl).trans rfl) rfl)) rfl) tf_15 (c_Join _ _) fun H2 m2 => ⟨rfl, hM.trans m2⟩⟩) ?_
             refine QE.op rfl rfl (.inl ⟨rfl, fun f' H' hf hM => AOp.fieldAddrF rfl ((hf 12 rfl).trans s96) fl_42_0 ⟨rfl, hM⟩⟩) ?_
             refine QE.op rfl rfl (.inl ⟨rfl, fun f' H' hf hM => AOp.loadF (.agg [.int .i64 ((((at_ ((buildR bx leaf).1.Nodes) i).Box).Lo).X), .int .i64 ((((at_ ((buildR bx leaf).1.Nodes) i).Box).Lo).Y), .int .i64 ((((at_ ((buildR bx leaf).1.Nodes) i).Box).Lo).Z), .int .i64 ((((at_ ((buildR bx leaf).1.Nodes) i).Box).Hi).X), .int .i64 ((((at_ ((buildR bx leaf).1.Nodes) i).Box).Hi).Y), .int .i64 ((((at_ ((buildR bx leaf).1.Nodes) i).Box).Hi).Z)]) rfl ((hf 128 rfl).trans rfl) ty_37 rfl ⟨rfl, hM⟩⟩) ?_
             refine QE.op rfl rfl (.inl ⟨rfl, fun f' H' hf hM => AOp.neAggD rfl ((hf 127 rfl).trans rfl) ((hf 129 rfl).trans rfl) teq37 (kokB (v := (joinB ((at_ ((buildR bx leaf).1.Nodes) i).Box) (at_ bx (at_ ((buildR bx leaf).1.Items) k)))) (ranB_ok (okBox_join (fa.bok _ (by omega) (by omega)) (fa.ok _ (at_mem_l (by omega) (by omega)))))) (kokB (v := ((at_ ((buildR bx leaf).1.Nodes) i).Box)) (ranB_ok (fa.bok _ (by omega) (by omega)))) (eBox_iff (joinB ((at_ ((buildR bx leaf).1.Nodes) i).Box) (at_ bx (at_ ((buildR bx leaf).1.Items) k))) ((at_ ((buildR bx leaf).1.Nodes) i).Box)) ⟨rfl, hM⟩⟩) ?_
             refine QE.done fun H99 m100 => ?_
             have m101 := m97.trans m100
             refine AOps.nil ?_
             change AWP _ _ _ _ _ _
             by_cases b102 : (joinB ((at_ ((buildR bx leaf).1.Nodes) i).Box) (at_ bx (at_ ((buildR bx leaf).1.Items) k))) = ((at_ ((buildR bx leaf).1.Nodes) i).Box)
             ·
              refine AWP.condF rfl (nb (decide_eq_true b102)) ?_
              refine AWP.skip ?_
              change AWP _ _ _ _ _ _
              refine AWP.region (l := [0, 1, 2]) rfl ?_
              refine AOps.cons rfl rfl (AOp.move (.int .i64 k) rfl s90 ?_)
              refine AOps.cons rfl rfl (AOp.bin (.int .i64 (k + 1)) rfl rfl rfl (iadd (by omega)) ?_)
              refine AOps.cons rfl rfl (AOp.assign (.int .i64 (k + 1)) rfl rfl ?_)
              refine AOps.nil ?_
              exact ⟨_, by omega, k + 1, rfl, rfl, s91, s92, s93, s94, s95, s96, m101, by omega, by omega⟩
             ·
              refine AWP.condT rfl (nb (decide_eq_false b102)) ?_
              refine AWP.seq ?_
              refine AWP.region (l := [0]) rfl ?_
              refine AOps.cons rfl rfl (AOp.assign (.bool false) rfl rfl ?_)
              refine AOps.nil ?_
              change AWP _ _ _ _ _ _
              refine AWP.ret ?_
              refine ⟨_, _, Ghost.refl, .inr rfl, _, Res.one rfl rfl, ?_, m101⟩
              exact (congrArg AV.bool (show (false : Bool) = true from by first | rfl | (exfalso; first | omega | (simp_all; done)) | (rw [decide_eq_true_eq]; omega)))
            ·
             refine AWP.condF rfl (decide_eq_false b98) ?_
             refine AWP.exit ?_
             change AWP _ _ _ _ _ _
             refine AWP.seq ?_
             have hsr := sumC_rng (fun i h0 h1 => (fa.nok i h0 h1).1) i.toNat
             have hsr2 := sumC_rng (fun i h0 h1 => (fa.nok i h0 h1).1) (i + 1).toNat
             have hst := sumC_step (N := (buildR bx leaf).1.Nodes) hi0 (by omega)
             have hsu := fa.sum
             refine AWP.region (l := [0, 1, 2, 3, 4]) rfl ?_
             refine AOps.cons rfl rfl (AOp.move (.int .i64 (sumC ((buildR bx leaf).1.Nodes.take i.toNat))) rfl s92 ?_)
             refine AOps.cons rfl rfl (AOp.fieldAddrF rfl s96 fl_42_4 ?_)
             refine AOps.cons rfl rfl (AOp.loadF (.int .i64 ((at_ ((buildR bx leaf).1.Nodes) i).Count)) rfl rfl ty_3 rfl ?_)
             refine AOps.cons rfl rfl (AOp.bin (.int .i64 (sumC ((buildR bx leaf).1.Nodes.take i.toNat) + ((at_ ((buildR bx leaf).1.Nodes) i).Count))) rfl rfl rfl (iadd (by omega)) ?_)
             refine AOps.cons rfl rfl (AOp.assign (.int .i64 (sumC ((buildR bx leaf).1.Nodes.take i.toNat) + ((at_ ((buildR bx leaf).1.Nodes) i).Count))) rfl rfl ?_)
             refine AOps.nil ?_
             change AWP _ _ _ _ _ _
             refine AWP.seq ?_
             refine AWP.seq ?_
             refine AWP.region (l := [0, 1, 2]) rfl ?_
             refine AOps.cons rfl rfl (AOp.fieldAddrF rfl s96 fl_42_4 ?_)
             refine AOps.cons rfl rfl (AOp.loadF (.int .i64 ((at_ ((buildR bx leaf).1.Nodes) i).Count)) rfl rfl ty_3 rfl ?_)
             refine AOps.cons rfl rfl (AOp.bin (.bool (decide ((at_ ((buildR bx leaf).1.Nodes) i).Count > 0))) rfl rfl rfl rfl ?_)
             refine AOps.nil ?_
             change AWP _ _ _ _ _ _
             by_cases b103 : (at_ ((buildR bx leaf).1.Nodes) i).Count > 0
             ·
              refine AWP.condT rfl (decide_eq_true b103) ?_
              refine AWP.exit ?_
              change AWP _ _ _ _ _ _
              refine AWP.region (l := [0, 1, 2]) rfl ?_
              refine AOps.cons rfl rfl (AOp.move (.int .i64 i) rfl s91 ?_)
              refine AOps.cons rfl rfl (AOp.bin (.int .i64 (i + 1)) rfl rfl rfl (iadd (by omega)) ?_)
              refine AOps.cons rfl rfl (AOp.assign (.int .i64 (i + 1)) rfl rfl ?_)
              refine AOps.nil ?_
              exact ⟨_, by omega, i + 1, rfl, rfl, (congrArg (AV.int .i64) (show (sumC ((buildR bx leaf).1.Nodes.take i.toNat) + ((at_ ((buildR bx leaf).1.Nodes) i).Count) : Int) = sumC ((buildR bx leaf).1.Nodes.take (i + 1).toNat) from by exact (sumC_step hi0 (by omega)).symm)), s93, s94, s95, m97, by omega, by omega⟩
             ·
              refine AWP.condF rfl (decide_eq_false b103) ?_
              refine AWP.skip ?_
              change AWP _ _ _ _ _ _
              refine AWP.seq ?_
              obtain ⟨p1, p2, p3, p4, p5⟩ := q6 (by omega)
              have p6 := inB_iff.2 p4
              have p7 := inB_iff.2 p5
              refine AWP.region_quiet mixed (by kernel_rfl) 50 [] rfl (by kernel_rfl) (Mono H88) (Mono.refl _) ?_
              refine QE.op rfl rfl (.inl ⟨rfl, fun f' H' hf hM => AOp.fieldAddrF rfl ((hf 12 rfl).trans s96) fl_42_1 ⟨rfl, hM⟩⟩) ?_
              refine QE.op rfl rfl (.inl ⟨rfl, fun f' H' hf hM => AOp.loadF (.int .i64 ((at_ ((buildR bx leaf).1.Nodes) i).Left)) rfl ((hf 138 rfl).trans rfl) ty_3 rfl ⟨rfl, hM⟩⟩) ?_
              refine QE.op rfl rfl (.inl ⟨rfl, fun f' H' hf hM => AOp.move (.int .i64 i) rfl ((hf 11 rfl).trans s91) ⟨rfl, hM⟩⟩) ?_
              refine QE.op rfl rfl (.inl ⟨rfl, fun f' H' hf hM => AOp.bin (.int .i64 (i + 1)) rfl ((hf 140 rfl).trans rfl) rfl (iadd (by omega)) ⟨rfl, hM⟩⟩) ?_
              refine QE.op rfl rfl (.inl ⟨rfl, fun f' H' hf hM => AOp.bin (.bool (!decide ((at_ ((buildR bx leaf).1.Nodes) i).Left = i + 1))) rfl ((hf 139 rfl).trans rfl) ((hf 141 rfl).trans rfl) ine ⟨rfl, hM⟩⟩) ?_
              refine QE.op rfl rfl (.inl ⟨rfl, fun f' H' hf hM => AOp.move (.bool (!decide ((at_ ((buildR bx leaf).1.Nodes) i).Left = i + 1))) rfl ((hf 142 rfl).trans rfl) ⟨rfl, hM⟩⟩) ?_
              by_cases b104 : (at_ ((buildR bx leaf).1.Nodes) i).Left = i + 1
              ·
               refine QE.op rfl rfl (QOp.yes rfl rfl rfl rfl (nb (decide_eq_true b104)) fun f' H' hf hM => AOp.fieldAddrF rfl ((hf 12 rfl).trans s96) fl_42_2 ⟨rfl, hM⟩) ?_
               refine QE.op rfl rfl (QOp.yes rfl rfl rfl rfl (nb (decide_eq_true b104)) fun f' H' hf hM => AOp.loadF (.int .i64 ((at_ ((buildR bx leaf).1.Nodes) i).Right)) rfl ((hf 144 rfl).trans rfl) ty_3 rfl ⟨rfl, hM⟩) ?_
               refine QE.op rfl rfl (QOp.yes rfl rfl rfl rfl (nb (decide_eq_true b104)) fun f' H' hf hM => AOp.fieldAddrF rfl ((hf 12 rfl).trans s96) fl_42_1 ⟨rfl, hM⟩) ?_
               refine QE.op rfl rfl (QOp.yes rfl rfl rfl rfl (nb (decide_eq_true b104)) fun f' H' hf hM => AOp.loadF (.int .i64 ((at_ ((buildR bx leaf).1.Nodes) i).Left)) rfl ((hf 146 rfl).trans rfl) ty_3 rfl ⟨rfl, hM⟩) ?_
               refine QE.op rfl rfl (QOp.yes rfl rfl rfl rfl (nb (decide_eq_true b104)) fun f' H' hf hM => AOp.bin (.bool (decide ((at_ ((buildR bx leaf).1.Nodes) i).Right ≤ (at_ ((buildR bx leaf).1.Nodes) i).Left))) rfl ((hf 145 rfl).trans rfl) ((hf 147 rfl).trans rfl) rfl ⟨rfl, hM⟩) ?_
               refine QE.op rfl rfl (.inl ⟨rfl, fun f' H' hf hM => AOp.pickF (.bool (decide ((at_ ((buildR bx leaf).1.Nodes) i).Right ≤ (at_ ((buildR bx leaf).1.Nodes) i).Left))) rfl ((hf 143 rfl).trans rfl) (nb (decide_eq_true b104)) ((hf 148 rfl).trans rfl) ⟨rfl, hM⟩⟩) ?_
               refine QE.op rfl rfl (.inl ⟨rfl, fun f' H' hf hM => AOp.move (.bool (decide ((at_ ((buildR bx leaf).1.Nodes) i).Right ≤ (at_ ((buildR bx leaf).1.Nodes) i).Left))) rfl ((hf 149 rfl).trans rfl) ⟨rfl, hM⟩⟩) ?_
               by_cases b105 : (at_ ((buildR bx leaf).1.Nodes) i).Right ≤ (at_ ((buildR bx leaf).1.Nodes) i).Left
               ·
                refine QE.op rfl rfl (QOp.no rfl rfl rfl rfl (ble_of (decide_eq_true b105) (by decide)) rfl) ?_
                refine QE.op rfl rfl (QOp.no rfl rfl rfl rfl (ble_of (decide_eq_true b105) (by decide)) rfl) ?_
                refine QE.op rfl rfl (QOp.no rfl rfl rfl rfl (ble_of (decide_eq_true b105) (by decide)) rfl) ?_
                refine QE.op rfl rfl (QOp.no rfl rfl rfl rfl (ble_of (decide_eq_true b105) (by decide)) rfl) ?_
                refine QE.op rfl rfl (QOp.no rfl rfl rfl rfl (ble_of (decide_eq_true b105) (by decide)) rfl) ?_
                refine QE.op rfl rfl (QOp.no rfl rfl rfl rfl (ble_of (decide_eq_true b105) (by decide)) rfl) ?_
                refine QE.op rfl rfl (.inl ⟨rfl, fun f' H' hf hM => AOp.pickT (.bool true) rfl ((hf 150 rfl).trans rfl) (decide_eq_true b105) rfl ⟨rfl, hM⟩⟩) ?_
                refine QE.op rfl rfl (.inl ⟨rfl, fun f' H' hf hM => AOp.move (.bool true) rfl ((hf 157 rfl).trans rfl) ⟨rfl, hM⟩⟩) ?_
                refine QE.op rfl rfl (QOp.no rfl rfl rfl rfl (ble_of rfl (by decide)) rfl) ?_
                refine QE.op rfl rfl (QOp.no rfl rfl rfl rfl (ble_of rfl (by decide)) rfl) ?_
                refine QE.op rfl rfl (QOp.no rfl rfl rfl rfl (ble_of rfl (by decide)) rfl) ?_
                refine QE.op rfl rfl (QOp.no rfl rfl rfl rfl (ble_of rfl (by decide)) rfl) ?_
                refine QE.op rfl rfl (QOp.no rfl rfl rfl rfl (ble_of rfl (by decide)) rfl) ?_
                refine QE.op rfl rfl (QOp.no rfl rfl rfl rfl (ble_of rfl (by decide)) rfl) ?_
                refine QE.op rfl rfl (QOp.no rfl rfl rfl rfl (ble_of rfl (by decide)) rfl) ?_
                refine QE.op rfl rfl (QOp.no rfl rfl rfl rfl (ble_of rfl (by decide)) rfl) ?_
                refine QE.op rfl rfl (QOp.no rfl rfl rfl rfl (ble_of rfl (by decide)) rfl) ?_
                refine QE.op rfl rfl (QOp.no rfl rfl rfl rfl (ble_of rfl (by decide)) rfl) ?_
                refine QE.op rfl rfl (QOp.no rfl rfl rfl rfl (ble_of rfl (by decide)) rfl) ?_
                refine QE.op rfl rfl (QOp.no rfl rfl rfl rfl (ble_of rfl (by decide)) rfl) ?_
                refine QE.op rfl rfl (QOp.no rfl rfl rfl rfl (ble_of rfl (by decide)) rfl) ?_
                refine QE.op rfl rfl (.inl ⟨rfl, fun f' H' hf hM => AOp.pickT (.bool true) rfl ((hf 158 rfl).trans rfl) rfl rfl ⟨rfl, hM⟩⟩) ?_
                refine QE.op rfl rfl (.inl ⟨rfl, fun f' H' hf hM => AOp.move (.bool true) rfl ((hf 172 rfl).trans rfl) ⟨rfl, hM⟩⟩) ?_
                refine QE.op rfl rfl (QOp.no rfl rfl rfl rfl (ble_of rfl (by decide)) rfl) ?_
                refine QE.op rfl rfl (QOp.no rfl rfl rfl rfl (ble_of rfl (by decide)) rfl) ?_
                refine QE.op rfl rfl (QOp.no rfl rfl rfl rfl (ble_of rfl (by decide)) rfl) ?_
                refine QE.op rfl rfl (QOp.no rfl rfl rfl rfl (ble_of rfl (by decide)) rfl) ?_
                refine QE.op rfl rfl (QOp.no rfl rfl rfl rfl (ble_of rfl (by decide)) rfl) ?_
                refine QE.op rfl rfl (QOp.no rfl rfl rfl rfl (ble_of rfl (by decide)) rfl) ?_
                refine QE.op rfl rfl (QOp.no rfl rfl rfl rfl (ble_of rfl (by decide)) rfl) ?_
                refine QE.op rfl rfl (QOp.no rfl rfl rfl rfl (ble_of rfl (by decide)) rfl) ?_
                refine QE.op rfl rfl (QOp.no rfl rfl rfl rfl (ble_of rfl (by decide)) rfl) ?_
                refine QE.op rfl rfl (QOp.no rfl rfl rfl rfl (ble_of rfl (by decide)) rfl) ?_
                refine QE.op rfl rfl (QOp.no rfl rfl rfl rfl (ble_of rfl (by decide)) rfl) ?_
                refine QE.op rfl rfl (QOp.no rfl rfl rfl rfl (ble_of rfl (by decide)) rfl) ?_
                refine QE.op rfl rfl (QOp.no rfl rfl rfl rfl (ble_of rfl (by decide)) rfl) ?_
                refine QE.op rfl rfl (.inl ⟨rfl, fun f' H' hf hM => AOp.pickT (.bool true) rfl ((hf 173 rfl).trans rfl) rfl rfl ⟨rfl, hM⟩⟩) ?_
                refine QE.done fun H106 m107 => ?_
                have m108 := m97.trans m107
                refine AOps.nil ?_
                change AWP _ _ _ _ _ _
                refine AWP.condT rfl rfl ?_
                refine AWP.seq ?_
                refine AWP.region (l := [0]) rfl ?_
                refine AOps.cons rfl rfl (AOp.assign (.bool false) rfl rfl ?_)
                refine AOps.nil ?_
                change AWP _ _ _ _ _ _
                refine AWP.ret ?_
                refine ⟨_, _, Ghost.refl, .inr rfl, _, Res.one rfl rfl, ?_, m108⟩
                exact (congrArg AV.bool (show (false : Bool) = true from by first | rfl | (exfalso; first | omega | (simp_all; done)) | (rw [decide_eq_true_eq]; omega)))
               ·
                refine QE.op rfl rfl (QOp.yes rfl rfl rfl rfl (decide_eq_false b105) fun f' H' hf hM => AOp.fieldAddrF rfl ((hf 12 rfl).trans s96) fl_42_2 ⟨rfl, hM⟩) ?_
                refine QE.op rfl rfl (QOp.yes rfl rfl rfl rfl (decide_eq_false b105) fun f' H' hf hM => AOp.loadF (.int .i64 ((at_ ((buildR bx leaf).1.Nodes) i).Right)) rfl ((hf 151 rfl).trans rfl) ty_3 rfl ⟨rfl, hM⟩) ?_
                refine QE.op rfl rfl (QOp.yes rfl rfl rfl rfl (decide_eq_false b105) fun f' H' hf hM => AOp.fieldAddrF rfl ((hf 5 rfl).trans s95) fl_29_0 ⟨rfl, hM⟩) ?_
                refine QE.op rfl rfl (QOp.yes rfl rfl rfl rfl (decide_eq_false b105) fun f' H' hf hM => AOp.loadF (.sl ((buildR bx leaf).1.Nodes).length (((buildR bx leaf).1.Nodes).flatMap eNode)) rfl ((hf 153 rfl).trans rfl) ty_26 rfl ⟨rfl, hM⟩) ?_
                refine QE.op rfl rfl (QOp.yes rfl rfl rfl rfl (decide_eq_false b105) fun f' H' hf hM => AOp.len (m := ((buildR bx leaf).1.Nodes).length) rfl ((hf 154 rfl).trans rfl) (.inr (.inl ⟨_, rfl⟩)) u_26 ⟨rfl, hM⟩) ?_
                refine QE.op rfl rfl (QOp.yes rfl rfl rfl rfl (decide_eq_false b105) fun f' H' hf hM => AOp.bin (.bool (decide ((at_ ((buildR bx leaf).1.Nodes) i).Right ≥ ((((buildR bx leaf).1.Nodes).length) : Int)))) rfl ((hf 152 rfl).trans rfl) ((hf 155 rfl).trans rfl) rfl ⟨rfl, hM⟩) ?_
                refine QE.op rfl rfl (.inl ⟨rfl, fun f' H' hf hM => AOp.pickF (.bool (decide ((at_ ((buildR bx leaf).1.Nodes) i).Right ≥ ((((buildR bx leaf).1.Nodes).length) : Int)))) rfl ((hf 150 rfl).trans rfl) (decide_eq_false b105) ((hf 156 rfl).trans rfl) ⟨rfl, hM⟩⟩) ?_
                refine QE.op rfl rfl (.inl ⟨rfl, fun f' H' hf hM => AOp.move (.bool (decide ((at_ ((buildR bx leaf).1.Nodes) i).Right ≥ ((((buildR bx leaf).1.Nodes).length) : Int)))) rfl ((hf 157 rfl).trans rfl) ⟨rfl, hM⟩⟩) ?_
                by_cases b109 : (at_ ((buildR bx leaf).1.Nodes) i).Right ≥ ((((buildR bx leaf).1.Nodes).length) : Int)
                ·
                 refine QE.op rfl rfl (QOp.no rfl rfl rfl rfl (ble_of (decide_eq_true b109) (by decide)) rfl) ?_
                 refine QE.op rfl rfl (QOp.no rfl rfl rfl rfl (ble_of (decide_eq_true b109) (by decide)) rfl) ?_
                 refine QE.op rfl rfl (QOp.no rfl rfl rfl rfl (ble_of (decide_eq_true b109) (by decide)) rfl) ?_
                 refine QE.op rfl rfl (QOp.no rfl rfl rfl rfl (ble_of (decide_eq_true b109) (by decide)) rfl) ?_
                 refine QE.op rfl rfl (QOp.no rfl rfl rfl rfl (ble_of (decide_eq_true b109) (by decide)) rfl) ?_
                 refine QE.op rfl rfl (QOp.no rfl rfl rfl rfl (ble_of (decide_eq_true b109) (by decide)) rfl) ?_
                 refine QE.op rfl rfl (QOp.no rfl rfl rfl rfl (ble_of (decide_eq_true b109) (by decide)) rfl) ?_
                 refine QE.op rfl rfl (QOp.no rfl rfl rfl rfl (ble_of (decide_eq_true b109) (by decide)) rfl) ?_
                 refine QE.op rfl rfl (QOp.no rfl rfl rfl rfl (ble_of (decide_eq_true b109) (by decide)) rfl) ?_
                 refine QE.op rfl rfl (QOp.no rfl rfl rfl rfl (ble_of (decide_eq_true b109) (by decide)) rfl) ?_
                 refine QE.op rfl rfl (QOp.no rfl rfl rfl rfl (ble_of (decide_eq_true b109) (by decide)) rfl) ?_
                 refine QE.op rfl rfl (QOp.no rfl rfl rfl rfl (ble_of (decide_eq_true b109) (by decide)) rfl) ?_
                 refine QE.op rfl rfl (QOp.no rfl rfl rfl rfl (ble_of (decide_eq_true b109) (by decide)) rfl) ?_
                 refine QE.op rfl rfl (.inl ⟨rfl, fun f' H' hf hM => AOp.pickT (.bool true) rfl ((hf 158 rfl).trans rfl) (decide_eq_true b109) rfl ⟨rfl, hM⟩⟩) ?_
                 refine QE.op rfl rfl (.inl ⟨rfl, fun f' H' hf hM => AOp.move (.bool true) rfl ((hf 172 rfl).trans rfl) ⟨rfl, hM⟩⟩) ?_
                 refine QE.op rfl rfl (QOp.no rfl rfl rfl rfl (ble_of rfl (by decide)) rfl) ?_
                 refine QE.op rfl rfl (QOp.no rfl rfl rfl rfl (ble_of rfl (by decide)) rfl) ?_
                 refine QE.op rfl rfl (QOp.no rfl rfl rfl rfl (ble_of rfl (by decide)) rfl) ?_
                 refine QE.op rfl rfl (QOp.no rfl rfl rfl rfl (ble_of rfl (by decide)) rfl) ?_
                 refine QE.op rfl rfl (QOp.no rfl rfl rfl rfl (ble_of rfl (by decide)) rfl) ?_
                 refine QE.op rfl rfl (QOp.no rfl rfl rfl rfl (ble_of rfl (by decide)) rfl) ?_
                 refine QE.op rfl rfl (QOp.no rfl rfl rfl rfl (ble_of rfl (by decide)) rfl) ?_
                 refine QE.op rfl rfl (QOp.no rfl rfl rfl rfl (ble_of rfl (by decide)) rfl) ?_
                 refine QE.op rfl rfl (QOp.no rfl rfl rfl rfl (ble_of rfl (by decide)) rfl) ?_
                 refine QE.op rfl rfl (QOp.no rfl rfl rfl rfl (ble_of rfl (by decide)) rfl) ?_
                 refine QE.op rfl rfl (QOp.no rfl rfl rfl rfl (ble_of rfl (by decide)) rfl) ?_
                 refine QE.op rfl rfl (QOp.no rfl rfl rfl rfl (ble_of rfl (by decide)) rfl) ?_
                 refine QE.op rfl rfl (QOp.no rfl rfl rfl rfl (ble_of rfl (by decide)) rfl) ?_
                 refine QE.op rfl rfl (.inl ⟨rfl, fun f' H' hf hM => AOp.pickT (.bool true) rfl ((hf 173 rfl).trans rfl) rfl rfl ⟨rfl, hM⟩⟩) ?_
                 refine QE.done fun H110 m111 => ?_
                 have m112 := m97.trans m111
                 refine AOps.nil ?_
                 change AWP _ _ _ _ _ _
                 refine AWP.condT rfl rfl ?_
                 refine AWP.seq ?_
                 refine AWP.region (l := [0]) rfl ?_
                 refine AOps.cons rfl rfl (AOp.assign (.bool false) rfl rfl ?_)
                 refine AOps.nil ?_
                 change AWP _ _ _ _ _ _
                 refine AWP.ret ?_
                 refine ⟨_, _, Ghost.refl, .inr rfl, _, Res.one rfl rfl, ?_, m112⟩
                 exact (congrArg AV.bool (show (false : Bool) = true from by first | rfl | (exfalso; first | omega | (simp_all; done)) | (rw [decide_eq_true_eq]; omega)))
                ·
                 refine QE.op rfl rfl (QOp.yes rfl rfl rfl rfl (decide_eq_false b109) fun f' H' hf hM => AOp.fieldAddrF rfl ((hf 12 rfl).trans s96) fl_42_0 ⟨rfl, hM⟩) ?_
                 refine QE.op rfl rfl (QOp.yes rfl rfl rfl rfl (decide_eq_false b109) fun f' H' hf hM => AOp.loadF (.agg [.int .i64 ((((at_ ((buildR bx leaf).1.Nodes) i).Box).Lo).X), .int .i64 ((((at_ ((buildR bx leaf).1.Nodes) i).Box).Lo).Y), .int .i64 ((((at_ ((buildR bx leaf).1.Nodes) i).Box).Lo).Z), .int .i64 ((((at_ ((buildR bx leaf).1.Nodes) i).Box).Hi).X), .int .i64 ((((at_ ((buildR bx leaf).1.Nodes) i).Box).Hi).Y), .int .i64 ((((at_ ((buildR bx leaf).1.Nodes) i).Box).Hi).Z)]) rfl ((hf 159 rfl).trans rfl) ty_37 rfl ⟨rfl, hM⟩) ?_
                 refine QE.op rfl rfl (QOp.yes rfl rfl rfl rfl (decide_eq_false b109) fun f' H' hf hM => AOp.fieldAddrF rfl ((hf 5 rfl).trans s95) fl_29_0 ⟨rfl, hM⟩) ?_
                 refine QE.op rfl rfl (QOp.yes rfl rfl rfl rfl (decide_eq_false b109) fun f' H' hf hM => AOp.loadF (.sl ((buildR bx leaf).1.Nodes).length (((buildR bx leaf).1.Nodes).flatMap eNode)) rfl ((hf 161 rfl).trans rfl) ty_26 rfl ⟨rfl, hM⟩) ?_
                 refine QE.op rfl rfl (QOp.yes rfl rfl rfl rfl (decide_eq_false b109) fun f' H' hf hM => AOp.fieldAddrF rfl ((hf 12 rfl).trans s96) fl_42_1 ⟨rfl, hM⟩) ?_
                 refine QE.op rfl rfl (QOp.yes rfl rfl rfl rfl (decide_eq_false b109) fun f' H' hf hM => AOp.loadF (.int .i64 ((at_ ((buildR bx leaf).1.Nodes) i).Left)) rfl ((hf 163 rfl).trans rfl) ty_3 rfl ⟨rfl, hM⟩) ?_
                 refine QE.op rfl rfl (QOp.yes rfl rfl rfl rfl (decide_eq_false b109) fun f' H' hf hM => AOp.indexAddrS rfl ((hf 162 rfl).trans rfl) ((hf 164 rfl).trans rfl) sl_26 (by omega) (by omega) ⟨rfl, hM⟩) ?_
                 refine QE.op rfl rfl (QOp.yes rfl rfl rfl rfl (decide_eq_false b109) fun f' H' hf hM => AOp.fieldAddrF rfl ((hf 165 rfl).trans rfl) fl_42_0 ⟨rfl, hM⟩) ?_
                 refine QE.op rfl rfl (QOp.yes rfl rfl rfl rfl (decide_eq_false b109) fun f' H' hf hM => AOp.loadF (.agg [.int .i64 ((((at_ ((buildR bx leaf).1.Nodes) ((at_ ((buildR bx leaf).1.Nodes) i).Left)).Box).Lo).X), .int .i64 ((((at_ ((buildR bx leaf).1.Nodes) ((at_ ((buildR bx leaf).1.Nodes) i).Left)).Box).Lo).Y), .int .i64 ((((at_ ((buildR bx leaf).1.Nodes) ((at_ ((buildR bx leaf).1.Nodes) i).Left)).Box).Lo).Z), .int .i64 ((((at_ ((buildR bx leaf).1.Nodes) ((at_ ((buildR bx leaf).1.Nodes) i).Left)).Box).Hi).X), .int .i64 ((((at_ ((buildR bx leaf).1.Nodes) ((at_ ((buildR bx leaf).1.Nodes) i).Left)).Box).Hi).Y), .int .i64 ((((at_ ((buildR bx leaf).1.Nodes) ((at_ ((buildR bx leaf).1.Nodes) i).Left)).Box).Hi).Z)]) rfl ((hf 166 rfl).trans rfl) ty_37 (ldS eNode_len (by omega) (by omega) rfl (by decide)) ⟨rfl, hM⟩) ?_
                 refine QE.op rfl rfl (QOp.yes rfl rfl rfl rfl (decide_eq_false b109) fun f' H' hf hM => AOp.pcall («as» := [.agg [.int .i64 ((((at_ ((buildR bx leaf).1.Nodes) i).Box).Lo).X), .int .i64 ((((at_ ((buildR bx leaf).1.Nodes) i).Box).Lo).Y), .int .i64 ((((at_ ((buildR bx leaf).1.Nodes) i).Box).Lo).Z), .int .i64 ((((at_ ((buildR bx leaf).1.Nodes) i).Box).Hi).X), .int .i64 ((((at_ ((buildR bx leaf).1.Nodes) i).Box).Hi).Y), .int .i64 ((((at_ ((buildR bx leaf).1.Nodes) i).Box).Hi).Z)], .agg [.int .i64 ((((at_ ((buildR bx leaf).1.Nodes) ((at_ ((buildR bx leaf).1.Nodes) i).Left)).Box).Lo).X), .int .i64 ((((at_ ((buildR bx leaf).1.Nodes) ((at_ ((buildR bx leaf).1.Nodes) i).Left)).Box).Lo).Y), .int .i64 ((((at_ ((buildR bx leaf).1.Nodes) ((at_ ((buildR bx leaf).1.Nodes) i).Left)).Box).Lo).Z), .int .i64 ((((at_ ((buildR bx leaf).1.Nodes) ((at_ ((buildR bx leaf).1.Nodes) i).Left)).Box).Hi).X), .int .i64 ((((at_ ((buildR bx leaf).1.Nodes) ((at_ ((buildR bx leaf).1.Nodes) i).Left)).Box).Hi).Y), .int .i64 ((((at_ ((buildR bx leaf).1.Nodes) ((at_ ((buildR bx leaf).1.Nodes) i).Left)).Box).Hi).Z)]]) rfl rfl (lapp (lcons ((hf 160 rfl).trans rfl) (lcons ((hf 167 rfl).trans rfl) rfl)) rfl) tf_15 (c_Join _ _) fun H2 m2 => ⟨rfl, hM.trans m2⟩) ?_
                 refine QE.op rfl rfl (QOp.yes rfl rfl rfl rfl (decide_eq_false b109) fun f' H' hf hM => AOp.fieldAddrF rfl ((hf 12 rfl).trans s96) fl_42_0 ⟨rfl, hM⟩) ?_
                 refine QE.op rfl rfl (QOp.yes rfl rfl rfl rfl (decide_eq_false b109) fun f' H' hf hM => AOp.loadF (.agg [.int .i64 ((((at_ ((buildR bx leaf).1.Nodes) i).Box).Lo).X), .int .i64 ((((at_ ((buildR bx leaf).1.Nodes) i).Box).Lo).Y), .int .i64 ((((at_ ((buildR bx leaf).1.Nodes) i).Box).Lo).Z), .int .i64 ((((at_ ((buildR bx leaf).1.Nodes) i).Box).Hi).X), .int .i64 ((((at_ ((buildR bx leaf).1.Nodes) i).Box).Hi).Y), .int .i64 ((((at_ ((buildR bx leaf).1.Nodes) i).Box).Hi).Z)]) rfl ((hf 169 rfl).trans rfl) ty_37 rfl ⟨rfl, hM⟩) ?_
                 refine QE.op rfl rfl (QOp.yes rfl rfl rfl rfl (decide_eq_false b109) fun f' H' hf hM => AOp.neAggD rfl ((hf 168 rfl).trans rfl) ((hf 170 rfl).trans rfl) teq37 (kokB (v := (joinB ((at_ ((buildR bx leaf).1.Nodes) i).Box) ((at_ ((buildR bx leaf).1.Nodes) ((at_ ((buildR bx leaf).1.Nodes) i).Left)).Box))) (ranB_ok (okBox_join (fa.bok _ (by omega) (by omega)) (fa.bok _ (by omega) (by omega))))) (kokB (v := ((at_ ((buildR bx leaf).1.Nodes) i).Box)) (ranB_ok (fa.bok _ (by omega) (by omega)))) (eBox_iff (joinB ((at_ ((buildR bx leaf).1.Nodes) i).Box) ((at_ ((buildR bx leaf).1.Nodes) ((at_ ((buildR bx leaf).1.Nodes) i).Left)).Box)) ((at_ ((buildR bx leaf).1.Nodes) i).Box)) ⟨rfl, hM⟩) ?_
                 refine QE.op rfl rfl (.inl ⟨rfl, fun f' H' hf hM => AOp.pickF (.bool (!decide ((joinB ((at_ ((buildR bx leaf).1.Nodes) i).Box) ((at_ ((buildR bx leaf).1.Nodes) ((at_ ((buildR bx leaf).1.Nodes) i).Left)).Box)) = ((at_ ((buildR bx leaf).1.Nodes) i).Box)))) rfl ((hf 158 rfl).trans rfl) (decide_eq_false b109) ((hf 171 rfl).trans rfl) ⟨rfl, hM⟩⟩) ?_
                 refine QE.op rfl rfl (.inl ⟨rfl, fun f' H' hf hM => AOp.move (.bool (!decide ((joinB ((at_ ((buildR bx leaf).1.Nodes) i).Box) ((at_ ((buildR bx leaf).1.Nodes) ((at_ ((buildR bx leaf).1.Nodes) i).Left)).Box)) = ((at_ ((buildR bx leaf).1.Nodes) i).Box)))) rfl ((hf 172 rfl).trans rfl) ⟨rfl, hM⟩⟩) ?_
                 by_cases b113 : (joinB ((at_ ((buildR bx leaf).1.Nodes) i).Box) ((at_ ((buildR bx leaf).1.Nodes) ((at_ ((buildR bx leaf).1.Nodes) i).Left)).Box)) = ((at_ ((buildR bx leaf).1.Nodes) i).Box)
                 ·
                  refine QE.op rfl rfl (QOp.yes rfl rfl rfl rfl (nb (decide_eq_true b113)) fun f' H' hf hM => AOp.fieldAddrF rfl ((hf 12 rfl).trans s96) fl_42_0 ⟨rfl, hM⟩) ?_
                  refine QE.op rfl rfl (QOp.yes rfl rfl rfl rfl (nb (decide_eq_true b113)) fun f' H' hf hM => AOp.loadF (.agg [.int .i64 ((((at_ ((buildR bx leaf).1.Nodes) i).Box).Lo).X), .int .i64 ((((at_ ((buildR bx leaf).1.Nodes) i).Box).Lo).Y), .int .i64 ((((at_ ((buildR bx leaf).1.Nodes) i).Box).Lo).Z), .int .i64 ((((at_ ((buildR bx leaf).1.Nodes) i).Box).Hi).X), .int .i64 ((((at_ ((buildR bx leaf).1.Nodes) i).Box).Hi).Y), .int .i64 ((((at_ ((buildR bx leaf).1.Nodes) i).Box).Hi).Z)]) rfl ((hf 174 rfl).trans rfl) ty_37 rfl ⟨rfl, hM⟩) ?_
                  refine QE.op rfl rfl (QOp.yes rfl rfl rfl rfl (nb (decide_eq_true b113)) fun f' H' hf hM => AOp.fieldAddrF rfl ((hf 5 rfl).trans s95) fl_29_0 ⟨rfl, hM⟩) ?_
                  refine QE.op rfl rfl (QOp.yes rfl rfl rfl rfl (nb (decide_eq_true b113)) fun f' H' hf hM => AOp.loadF (.sl ((buildR bx leaf).1.Nodes).length (((buildR bx leaf).1.Nodes).flatMap eNode)) rfl ((hf 176 rfl).trans rfl) ty_26 rfl ⟨rfl, hM⟩) ?_
                  refine QE.op rfl rfl (QOp.yes rfl rfl rfl rfl (nb (decide_eq_true b113)) fun f' H' hf hM => AOp.fieldAddrF rfl ((hf 12 rfl).trans s96) fl_42_2 ⟨rfl, hM⟩) ?_
                  refine QE.op rfl rfl (QOp.yes rfl rfl rfl rfl (nb (decide_eq_true b113)) fun f' H' hf hM => AOp.loadF (.int .i64 ((at_ ((buildR bx leaf).1.Nodes) i).Right)) rfl ((hf 178 rfl).trans rfl) ty_3 rfl ⟨rfl, hM⟩) ?_
                  refine QE.op rfl rfl (QOp.yes rfl rfl rfl rfl (nb (decide_eq_true b113)) fun f' H' hf hM => AOp.indexAddrS rfl ((hf 177 rfl).trans rfl) ((hf 179 rfl).trans rfl) sl_26 (by omega) (by omega) ⟨rfl, hM⟩) ?_
                  refine QE.op rfl rfl (QOp.yes rfl rfl rfl rfl (nb (decide_eq_true b113)) fun f' H' hf hM => AOp.fieldAddrF rfl ((hf 180 rfl).trans rfl) fl_42_0 ⟨rfl, hM⟩) ?_
                  refine QE.op rfl rfl (QOp.yes rfl rfl rfl rfl (nb (decide_eq_true b113)) fun f' H' hf hM => AOp.loadF (.agg [.int .i64 ((((at_ ((buildR bx leaf).1.Nodes) ((at_ ((buildR bx leaf).1.Nodes) i).Right)).Box).Lo).X), .int .i64 ((((at_ ((buildR bx leaf).1.Nodes) ((at_ ((buildR bx leaf).1.Nodes) i).Right)).Box).Lo).Y), .int .i64 ((((at_ ((buildR bx leaf).1.Nodes) ((at_ ((buildR bx leaf).1.Nodes) i).Right)).Box).Lo).Z), .int .i64 ((((at_ ((buildR bx leaf).1.Nodes) ((at_ ((buildR bx leaf).1.Nodes) i).Right)).Box).Hi).X), .int .i64 ((((at_ ((buildR bx leaf).1.Nodes) ((at_ ((buildR bx leaf).1.Nodes) i).Right)).Box).Hi).Y), .int .i64 ((((at_ ((buildR bx leaf).1.Nodes) ((at_ ((buildR bx leaf).1.Nodes) i).Right)).Box).Hi).Z)]) rfl ((hf 181 rfl).trans rfl) ty_37 (ldS eNode_len (by omega) (by omega) rfl (by decide)) ⟨rfl, hM⟩) ?_
                  refine QE.op rfl rfl (QOp.yes rfl rfl rfl rfl (nb (decide_eq_true b113)) fun f' H' hf hM => AOp.pcall («as» := [.agg [.int .i64 ((((at_ ((buildR bx leaf).1.Nodes) i).Box).Lo).X), .int .i64 ((((at_ ((buildR bx leaf).1.Nodes) i).Box).Lo).Y), .int .i64 ((((at_ ((buildR bx leaf).1.Nodes) i).Box).Lo).Z), .int .i64 ((((at_ ((buildR bx leaf).1.Nodes) i).Box).Hi).X), .int .i64 ((((at_ ((buildR bx leaf).1.Nodes) i).Box).Hi).Y), .int .i64 ((((at_ ((buildR bx leaf).1.Nodes) i).Box).Hi).Z)], .agg [.int .i64 ((((at_ ((buildR bx leaf).1.Nodes) ((at_ ((buildR bx leaf).1.Nodes) i).Right)).Box).Lo).X), .int .i64 ((((at_ ((buildR bx leaf).1.Nodes) ((at_ ((buildR bx leaf).1.Nodes) i).Right)).Box).Lo).Y), .int .i64 ((((at_ ((buildR bx leaf).1.Nodes) ((at_ ((buildR bx leaf).1.Nodes) i).Right)).Box).Lo).Z), .int .i64 ((((at_ ((buildR bx leaf).1.Nodes) ((at_ ((buildR bx leaf).1.Nodes) i).Right)).Box).Hi).X), .int .i64 ((((at_ ((buildR bx leaf).1.Nodes) ((at_ ((buildR bx leaf).1.Nodes) i).Right)).Box).Hi).Y), .int .i64 ((((at_ ((buildR bx leaf).1.Nodes) ((at_ ((buildR bx leaf).1.Nodes) i).Right)).Box).Hi).Z)]]) rfl rfl (lapp (lcons ((hf 175 rfl).trans rfl) (lcons ((hf 182 rfl).trans rfl) rfl)) rfl) tf_15 (c_Join _ _) fun H2 m2 => ⟨rfl, hM.trans m2⟩) ?_
                  refine QE.op rfl rfl (QOp.yes rfl rfl rfl rfl (nb (decide_eq_true b113)) fun f' H' hf hM => AOp.fieldAddrF rfl ((hf 12 rfl).trans s96) fl_42_0 ⟨rfl, hM⟩) ?_
                  refine QE.op rfl rfl (QOp.yes rfl rfl rfl rfl (nb (decide_eq_true b113)) fun f' H' hf hM => AOp.loadF (.agg [.int .i64 ((((at_ ((buildR bx leaf).1.Nodes) i).Box).Lo).X), .int .i64 ((((at_ ((buildR bx leaf).1.Nodes) i).Box).Lo).Y), .int .i64 ((((at_ ((buildR bx leaf).1.Nodes) i).Box).Lo).Z), .int .i64 ((((at_ ((buildR bx leaf).1.Nodes) i).Box).Hi).X), .int .i64 ((((at_ ((buildR bx leaf).1.Nodes) i).Box).Hi).Y), .int .i64 ((((at_ ((buildR bx leaf).1.Nodes) i).Box).Hi).Z)]) rfl ((hf 184 rfl).trans rfl) ty_37 rfl ⟨rfl, hM⟩) ?_
                  refine QE.op rfl rfl (QOp.yes rfl rfl rfl rfl (nb (decide_eq_true b113)) fun f' H' hf hM => AOp.neAggD rfl ((hf 183 rfl).trans rfl) ((hf 185 rfl).trans rfl) teq37 (kokB (v := (joinB ((at_ ((buildR bx leaf).1.Nodes) i).Box) ((at_ ((buildR bx leaf).1.Nodes) ((at_ ((buildR bx leaf).1.Nodes) i).Right)).Box))) (ranB_ok (okBox_join (fa.bok _ (by omega) (by omega)) (fa.bok _ (by omega) (by omega))))) (kokB (v := ((at_ ((buildR bx leaf).1.Nodes) i).Box)) (ranB_ok (fa.bok _ (by omega) (by omega)))) (eBox_iff (joinB ((at_ ((buildR bx leaf).1.Nodes) i).Box) ((at_ ((buildR bx leaf).1.Nodes) ((at_ ((buildR bx leaf).1.Nodes) i).Right)).Box)) ((at_ ((buildR bx leaf).1.Nodes) i).Box)) ⟨rfl, hM⟩) ?_
                  refine QE.op rfl rfl (.inl ⟨rfl, fun f' H' hf hM => AOp.pickF (.bool (!decide ((joinB ((at_ ((buildR bx leaf).1.Nodes) i).Box) ((at_ ((buildR bx leaf).1.Nodes) ((at_ ((buildR bx leaf).1.Nodes) i).Right)).Box)) = ((at_ ((buildR bx leaf).1.Nodes) i).Box)))) rfl ((hf 173 rfl).trans rfl) (nb (decide_eq_true b113)) ((hf 186 rfl).trans rfl) ⟨rfl, hM⟩⟩) ?_
                  refine QE.done fun H114 m115 => ?_
                  have m116 := m97.trans m115
                  refine AOps.nil ?_
                  change AWP _ _ _ _ _ _
                  by_cases b117 : (joinB ((at_ ((buildR bx leaf).1.Nodes) i).Box) ((at_ ((buildR bx leaf).1.Nodes) ((at_ ((buildR bx leaf).1.Nodes) i).Right)).Box)) = ((at_ ((buildR bx leaf).1.Nodes) i).Box)
                  ·
                   refine AWP.condF rfl (nb (decide_eq_true b117)) ?_
                   refine AWP.skip ?_
                   change AWP _ _ _ _ _ _
                   refine AWP.region (l := [0, 1, 2]) rfl ?_
                   refine AOps.cons rfl rfl (AOp.move (.int .i64 i) rfl s91 ?_)
                   refine AOps.cons rfl rfl (AOp.bin (.int .i64 (i + 1)) rfl rfl rfl (iadd (by omega)) ?_)
                   refine AOps.cons rfl rfl (AOp.assign (.int .i64 (i + 1)) rfl rfl ?_)
                   refine AOps.nil ?_
                   exact ⟨_, by omega, i + 1, rfl, rfl, (congrArg (AV.int .i64) (show (sumC ((buildR bx leaf).1.Nodes.take i.toNat) + ((at_ ((buildR bx leaf).1.Nodes) i).Count) : Int) = sumC ((buildR bx leaf).1.Nodes.take (i + 1).toNat) from by exact (sumC_step hi0 (by omega)).symm)), s93, s94, s95, m116, by omega, by omega⟩
                  ·
                   refine AWP.condT rfl (nb (decide_eq_false b117)) ?_
                   refine AWP.seq ?_
                   refine AWP.region (l := [0]) rfl ?_
                   refine AOps.cons rfl rfl (AOp.assign (.bool false) rfl rfl ?_)
                   refine AOps.nil ?_
                   change AWP _ _ _ _ _ _
                   refine AWP.ret ?_
                   refine ⟨_, _, Ghost.refl, .inr rfl, _, Res.one rfl rfl, ?_, m116⟩
                   exact (congrArg AV.bool (show (false : Bool) = true from by first | rfl | (exfalso; first | omega | (simp_all; done)) | (rw [decide_eq_true_eq]; omega)))
                 ·
                  refine QE.op rfl rfl (QOp.no rfl rfl rfl rfl (ble_of (nb (decide_eq_false b113)) (by decide)) rfl) ?_
                  refine QE.op rfl rfl (QOp.no rfl rfl rfl rfl (ble_of (nb (decide_eq_false b113)) (by decide)) rfl) ?_
                  refine QE.op rfl rfl (QOp.no rfl rfl rfl rfl (ble_of (nb (decide_eq_false b113)) (by decide)) rfl) ?_
                  refine QE.op rfl rfl (QOp.no rfl rfl rfl rfl (ble_of (nb (decide_eq_false b113)) (by decide)) rfl) ?_
                  refine QE.op rfl rfl (QOp.no rfl rfl rfl rfl (ble_of (nb (decide_eq_false b113)) (by decide)) rfl) ?_
                  refine QE.op rfl rfl (QOp.no rfl rfl rfl rfl (ble_of (nb (decide_eq_false b113)) (by decide)) rfl) ?_
                  refine QE.op rfl rfl (QOp.no rfl rfl rfl rfl (ble_of (nb (decide_eq_false b113)) (by decide)) rfl) ?_
                  refine QE.op rfl rfl (QOp.no rfl rfl rfl rfl (ble_of (nb (decide_eq_false b113)) (by decide)) rfl) ?_
                  refine QE.op rfl rfl (QOp.no rfl rfl rfl rfl (ble_of (nb (decide_eq_false b113)) (by decide)) rfl) ?_
                  refine QE.op rfl rfl (QOp.no rfl rfl rfl rfl (ble_of (nb (decide_eq_false b113)) (by decide)) rfl) ?_
                  refine QE.op rfl rfl (QOp.no rfl rfl rfl rfl (ble_of (nb (decide_eq_false b113)) (by decide)) rfl) ?_
                  refine QE.op rfl rfl (QOp.no rfl rfl rfl rfl (ble_of (nb (decide_eq_false b113)) (by decide)) rfl) ?_
                  refine QE.op rfl rfl (QOp.no rfl rfl rfl rfl (ble_of (nb (decide_eq_false b113)) (by decide)) rfl) ?_
                  refine QE.op rfl rfl (.inl ⟨rfl, fun f' H' hf hM => AOp.pickT (.bool true) rfl ((hf 173 rfl).trans rfl) (nb (decide_eq_false b113)) rfl ⟨rfl, hM⟩⟩) ?_
                  refine QE.done fun H118 m119 => ?_
                  have m120 := m97.trans m119
                  refine AOps.nil ?_
                  change AWP _ _ _ _ _ _
                  refine AWP.condT rfl rfl ?_
                  refine AWP.seq ?_
                  refine AWP.region (l := [0]) rfl ?_
                  refine AOps.cons rfl rfl (AOp.assign (.bool false) rfl rfl ?_)
                  refine AOps.nil ?_
                  change AWP _ _ _ _ _ _
                  refine AWP.ret ?_
                  refine ⟨_, _, Ghost.refl, .inr rfl, _, Res.one rfl rfl, ?_, m120⟩
                  exact (congrArg AV.bool (show (false : Bool) = true from by first | rfl | (exfalso; first | omega | (simp_all; done)) | (rw [decide_eq_true_eq]; omega)))
              ·
               refine QE.op rfl rfl (QOp.no rfl rfl rfl rfl (ble_of (nb (decide_eq_false b104)) (by decide)) rfl) ?_
               refine QE.op rfl rfl (QOp.no rfl rfl rfl rfl (ble_of (nb (decide_eq_false b104)) (by decide)) rfl) ?_
               refine QE.op rfl rfl (QOp.no rfl rfl rfl rfl (ble_of (nb (decide_eq_false b104)) (by decide)) rfl) ?_
               refine QE.op rfl rfl (QOp.no rfl rfl rfl rfl (ble_of (nb (decide_eq_false b104)) (by decide)) rfl) ?_
               refine QE.op rfl rfl (QOp.no rfl rfl rfl rfl (ble_of (nb (decide_eq_false b104)) (by decide)) rfl) ?_
               refine QE.op rfl rfl (.inl ⟨rfl, fun f' H' hf hM => AOp.pickT (.bool true) rfl ((hf 143 rfl).trans rfl) (nb (decide_eq_false b104)) rfl ⟨rfl, hM⟩⟩) ?_
               refine QE.op rfl rfl (.inl ⟨rfl, fun f' H' hf hM => AOp.move (.bool true) rfl ((hf 149 rfl).trans rfl) ⟨rfl, hM⟩⟩) ?_
               refine QE.op rfl rfl (QOp.no rfl rfl rfl rfl (ble_of rfl (by decide)) rfl) ?_
               refine QE.op rfl rfl (QOp.no rfl rfl rfl rfl (ble_of rfl (by decide)) rfl) ?_
               refine QE.op rfl rfl (QOp.no rfl rfl rfl rfl (ble_of rfl (by decide)) rfl) ?_
               refine QE.op rfl rfl (QOp.no rfl rfl rfl rfl (ble_of rfl (by decide)) rfl) ?_
               refine QE.op rfl rfl (QOp.no rfl rfl rfl rfl (ble_of rfl (by decide)) rfl) ?_
               refine QE.op rfl rfl (QOp.no rfl rfl rfl rfl (ble_of rfl (by decide)) rfl) ?_
               refine QE.op rfl rfl (.inl ⟨rfl, fun f' H' hf hM => AOp.pickT (.bool true) rfl ((hf 150 rfl).trans rfl) rfl rfl ⟨rfl, hM⟩⟩) ?_
               refine QE.op rfl rfl (.inl ⟨rfl, fun f' H' hf hM => AOp.move (.bool true) rfl ((hf 157 rfl).trans rfl) ⟨rfl, hM⟩⟩) ?_
               refine QE.op rfl rfl (QOp.no rfl rfl rfl rfl (ble_of rfl (by decide)) rfl) ?_
               refine QE.op rfl rfl (QOp.no rfl rfl rfl rfl (ble_of rfl (by decide)) rfl) ?_
               refine QE.op rfl rfl (QOp.no rfl rfl rfl rfl (ble_of rfl (by decide)) rfl) ?_
               refine QE.op rfl rfl (QOp.no rfl rfl rfl rfl (ble_of rfl (by decide)) rfl) ?_
               refine QE.op rfl rfl (QOp.no rfl rfl rfl rfl (ble_of rfl (by decide)) rfl) ?_
               refine QE.op rfl rfl (QOp.no rfl rfl rfl rfl (ble_of rfl (by decide)) rfl) ?_
               refine QE.op rfl rfl (QOp.no rfl rfl rfl rfl (ble_of rfl (by decide)) rfl) ?_
               refine QE.op rfl rfl (QOp.no rfl rfl rfl rfl (ble_of rfl (by decide)) rfl) ?_
               refine QE.op rfl rfl (QOp.no rfl rfl rfl rfl (ble_of rfl (by decide)) rfl) ?_
               refine QE.op rfl rfl (QOp.no rfl rfl rfl rfl (ble_of rfl (by decide)) rfl) ?_
               refine QE.op rfl rfl (QOp.no rfl rfl rfl rfl (ble_of rfl (by decide)) rfl) ?_
               refine QE.op rfl rfl (QOp.no rfl rfl rfl rfl (ble_of rfl (by decide)) rfl) ?_
               refine QE.op rfl rfl (QOp.no rfl rfl rfl rfl (ble_of rfl (by decide)) rfl) ?_
               refine QE.op rfl rfl (.inl ⟨rfl, fun f' H' hf hM => AOp.pickT (.bool true) rfl ((hf 158 rfl).trans rfl) rfl rfl ⟨rfl, hM⟩⟩) ?_
               refine QE.op rfl rfl (.inl ⟨rfl, fun f' H' hf hM => AOp.move (.bool true) rfl ((hf 172 rfl).trans rfl) ⟨rfl, hM⟩⟩) ?_
               refine QE.op rfl rfl (QOp.no rfl rfl rfl rfl (ble_of rfl (by decide)) rfl) ?_
               refine QE.op rfl rfl (QOp.no rfl rfl rfl rfl (ble_of rfl (by decide)) rfl) ?_
               refine QE.op rfl rfl (QOp.no rfl rfl rfl rfl (ble_of rfl (by decide)) rfl) ?_
               refine QE.op rfl rfl (QOp.no rfl rfl rfl rfl (ble_of rfl (by decide)) rfl) ?_
               refine QE.op rfl rfl (QOp.no rfl rfl rfl rfl (ble_of rfl (by decide)) rfl) ?_
               refine QE.op rfl rfl (QOp.no rfl rfl rfl rfl (ble_of rfl (by decide)) rfl) ?_
               refine QE.op rfl rfl (QOp.no rfl rfl rfl rfl (ble_of rfl (by decide)) rfl) ?_
               refine QE.op rfl rfl (QOp.no rfl rfl rfl rfl (ble_of rfl (by decide)) rfl) ?_
               refine QE.op rfl rfl (QOp.no rfl rfl rfl rfl (ble_of rfl (by decide)) rfl) ?_
               refine QE.op rfl rfl (QOp.no rfl rfl rfl rfl (ble_of rfl (by decide)) rfl) ?_
               refine QE.op rfl rfl (QOp.no rfl rfl rfl rfl (ble_of rfl (by decide)) rfl) ?_
               refine QE.op rfl rfl (QOp.no rfl rfl rfl rfl (ble_of rfl (by decide)) rfl) ?_
               refine QE.op rfl rfl (QOp.no rfl rfl rfl rfl (ble_of rfl (by decide)) rfl) ?_
               refine QE.op rfl rfl (.inl ⟨rfl, fun f' H' hf hM => AOp.pickT (.bool true) rfl ((hf 173 rfl).trans rfl) rfl rfl ⟨rfl, hM⟩⟩) ?_
               refine QE.done fun H121 m122 => ?_
               have m123 := m97.trans m122
               refine AOps.nil ?_
               change AWP _ _ _ _ _ _
               refine AWP.condT rfl rfl ?_
               refine AWP.seq ?_
               refine AWP.region (l := [0]) rfl ?_
               refine AOps.cons rfl rfl (AOp.assign (.bool false) rfl rfl ?_)
               refine AOps.nil ?_
               change AWP _ _ _ _ _ _
               refine AWP.ret ?_
               refine ⟨_, _, Ghost.refl, .inr rfl, _, Res.one rfl rfl, ?_, m123⟩
               exact (congrArg AV.bool (show (false : Bool) = true from by first | rfl | (exfalso; first | omega | (simp_all; done)) | (rw [decide_eq_true_eq]; omega)))
      ·
       refine AWP.condF rfl (decide_eq_false b67) ?_
       refine AWP.exit ?_
       change AWP _ _ _ _ _ _
       refine AWP.seq ?_
       have hsm := fa.sum
       rw [← sumC_all (i := i) (by omega)] at hsm
       refine AWP.region (l := [0, 1, 2, 3, 4, 5, 6, 7, 8, 9, 10, 11, 12]) rfl ?_
       refine AOps.cons rfl rfl (AOp.move (.int .i64 (sumC ((buildR bx leaf).1.Nodes.take i.toNat))) rfl s62 ?_)
       refine AOps.cons rfl rfl (AOp.move (.sl bx.length (bx.flatMap eBox)) rfl s63 ?_)
       refine AOps.cons rfl rfl (AOp.len (m := bx.length) rfl rfl (.inr (.inl ⟨_, rfl⟩)) u_22 ?_)
       refine AOps.cons rfl rfl (AOp.bin (.bool (decide (sumC ((buildR bx leaf).1.Nodes.take i.toNat) = (bx.length : Int)))) rfl rfl rfl ieq ?_)
       refine AOps.cons rfl rfl (AOp.move (.bool (decide (sumC ((buildR bx leaf).1.Nodes.take i.toNat) = (bx.length : Int)))) rfl rfl ?_)
       by_cases b124 : sumC ((buildR bx leaf).1.Nodes.take i.toNat) = (bx.length : Int)
       ·
        refine AOps.yes rfl rfl rfl rfl rfl rfl rfl (decide_eq_true b124) (AOp.fieldAddrF rfl s65 fl_29_1 ?_)
        refine AOps.yes rfl rfl rfl rfl rfl rfl rfl (decide_eq_true b124) (AOp.loadF (.sl ((buildR bx leaf).1.Items).length (((buildR bx leaf).1.Items).map eI)) rfl rfl ty_27 rfl ?_)
        refine AOps.yes rfl rfl rfl rfl rfl rfl rfl (decide_eq_true b124) (AOp.len (m := ((buildR bx leaf).1.Items).length) rfl rfl (.inr (.inl ⟨_, rfl⟩)) u_27 ?_)
        refine AOps.yes rfl rfl rfl rfl rfl rfl rfl (decide_eq_true b124) (AOp.move (.sl bx.length (bx.flatMap eBox)) rfl s63 ?_)
        refine AOps.yes rfl rfl rfl rfl rfl rfl rfl (decide_eq_true b124) (AOp.len (m := bx.length) rfl rfl (.inr (.inl ⟨_, rfl⟩)) u_22 ?_)
        refine AOps.yes rfl rfl rfl rfl rfl rfl rfl (decide_eq_true b124) (AOp.bin (.bool (decide (((((buildR bx leaf).1.Items).length) : Int) = (bx.length : Int)))) rfl rfl rfl ieq ?_)
        refine AOps.cons rfl rfl (AOp.pickT (.bool (decide (((((buildR bx leaf).1.Items).length) : Int) = (bx.length : Int)))) rfl rfl (decide_eq_true b124) rfl ?_)
        refine AOps.cons rfl rfl (AOp.assign (.bool (decide (((((buildR bx leaf).1.Items).length) : Int) = (bx.length : Int)))) rfl rfl ?_)
        refine AOps.nil ?_
        change AWP _ _ _ _ _ _
        refine AWP.ret ?_
        refine ⟨_, _, Ghost.refl, .inr rfl, _, Res.one rfl rfl, ?_, m66⟩
        exact (congrArg AV.bool (show (decide (((((buildR bx leaf).1.Items).length) : Int) = (bx.length : Int)) : Bool) = true from by first | rfl | (exfalso; first | omega | (simp_all; done)) | (rw [decide_eq_true_eq]; omega)))
       ·
        refine AOps.no rfl rfl rfl rfl rfl rfl rfl (ble_of (decide_eq_false b124) (by decide)) ?_
        refine AOps.no rfl rfl rfl rfl rfl rfl rfl (ble_of (decide_eq_false b124) (by decide)) ?_
        refine AOps.no rfl rfl rfl rfl rfl rfl rfl (ble_of (decide_eq_false b124) (by decide)) ?_
        refine AOps.no rfl rfl rfl rfl rfl rfl rfl (ble_of (decide_eq_false b124) (by decide)) ?_
        refine AOps.no rfl rfl rfl rfl rfl rfl rfl (ble_of (decide_eq_false b124) (by decide)) ?_
        refine AOps.no rfl rfl rfl rfl rfl rfl rfl (ble_of (decide_eq_false b124) (by decide)) ?_
        refine AOps.cons rfl rfl (AOp.pickF (.bool false) rfl rfl (decide_eq_false b124) rfl ?_)
        refine AOps.cons rfl rfl (AOp.assign (.bool false) rfl rfl ?_)
        refine AOps.nil ?_
        change AWP _ _ _ _ _ _
        refine AWP.ret ?_
        refine ⟨_, _, Ghost.refl, .inr rfl, _, Res.one rfl rfl, ?_, m66⟩
        exact (congrArg AV.bool (show (false : Bool) = true from by first | rfl | (exfalso; first | omega | (simp_all; done)) | (rw [decide_eq_true_eq]; omega)))
  ·
   refine AWP.condT rfl (nb (decide_eq_false b23)) ?_
   refine AWP.seq ?_
   have hbad := all_bad b23
   refine AWP.region (l := [0, 1, 2, 3, 4, 5, 6, 7, 8, 9, 10]) rfl ?_
   refine AOps.cons rfl rfl (AOp.fieldAddrF rfl rfl fl_29_0 ?_)
   refine AOps.cons rfl rfl (AOp.loadF (.sl ((buildR bx leaf).1.Nodes).length (((buildR bx leaf).1.Nodes).flatMap eNode)) rfl rfl ty_26 rfl ?_)
   refine AOps.cons rfl rfl (AOp.len (m := ((buildR bx leaf).1.Nodes).length) rfl rfl (.inr (.inl ⟨_, rfl⟩)) u_26 ?_)
   refine AOps.cons rfl rfl (AOp.bin (.bool (decide (((((buildR bx leaf).1.Nodes).length) : Int) = 0))) rfl rfl rfl ieq ?_)
   refine AOps.cons rfl rfl (AOp.move (.bool (decide (((((buildR bx leaf).1.Nodes).length) : Int) = 0))) rfl rfl ?_)
   by_cases b125 : ((((buildR bx leaf).1.Nodes).length) : Int) = 0
   ·
    refine AOps.yes rfl rfl rfl rfl rfl rfl rfl (decide_eq_true b125) (AOp.fieldAddrF rfl rfl fl_29_1 ?_)
    refine AOps.yes rfl rfl rfl rfl rfl rfl rfl (decide_eq_true b125) (AOp.loadF (.sl ((buildR bx leaf).1.Items).length (((buildR bx leaf).1.Items).map eI)) rfl rfl ty_27 rfl ?_)
    refine AOps.yes rfl rfl rfl rfl rfl rfl rfl (decide_eq_true b125) (AOp.len (m := ((buildR bx leaf).1.Items).length) rfl rfl (.inr (.inl ⟨_, rfl⟩)) u_27 ?_)
    refine AOps.yes rfl rfl rfl rfl rfl rfl rfl (decide_eq_true b125) (AOp.bin (.bool (decide (((((buildR bx leaf).1.Items).length) : Int) = 0))) rfl rfl rfl ieq ?_)
    refine AOps.cons rfl rfl (AOp.pickT (.bool (decide (((((buildR bx leaf).1.Items).length) : Int) = 0))) rfl rfl (decide_eq_true b125) rfl ?_)
    refine AOps.cons rfl rfl (AOp.assign (.bool (decide (((((buildR bx leaf).1.Items).length) : Int) = 0))) rfl rfl ?_)
    refine AOps.nil ?_
    change AWP _ _ _ _ _ _
    refine AWP.ret ?_
    refine ⟨_, _, Ghost.refl, .inr rfl, _, Res.one rfl rfl, ?_, m21⟩
    exact (congrArg AV.bool (show (decide (((((buildR bx leaf).1.Items).length) : Int) = 0) : Bool) = true from by first | rfl | (exfalso; first | omega | (simp_all; done)) | (rw [decide_eq_true_eq]; omega)))
   ·
    refine AOps.no rfl rfl rfl rfl rfl rfl rfl (ble_of (decide_eq_false b125) (by decide)) ?_
    refine AOps.no rfl rfl rfl rfl rfl rfl rfl (ble_of (decide_eq_false b125) (by decide)) ?_
    refine AOps.no rfl rfl rfl rfl rfl rfl rfl (ble_of (decide_eq_false b125) (by decide)) ?_
    refine AOps.no rfl rfl rfl rfl rfl rfl rfl (ble_of (decide_eq_false b125) (by decide)) ?_
    refine AOps.cons rfl rfl (AOp.pickF (.bool false) rfl rfl (decide_eq_false b125) rfl ?_)
    refine AOps.cons rfl rfl (AOp.assign (.bool false) rfl rfl ?_)
    refine AOps.nil ?_
    change AWP _ _ _ _ _ _
    refine AWP.ret ?_
    refine ⟨_, _, Ghost.refl, .inr rfl, _, Res.one rfl rfl, ?_, m21⟩
    exact (congrArg AV.bool (show (false : Bool) = true from by first | rfl | (exfalso; first | omega | (simp_all; done)) | (rw [decide_eq_true_eq]; omega)))
end Go.Proofs.B
namespace Go.Proofs.B
open Go Go.AH
set_option maxRecDepth 4000
structure TouF (bx : List BoxT) (o d : VT) (L : List Int) : Prop where
  len : L.length ≤ bx.length
  inr : ∀ k ∈ L, 0 ≤ k ∧ k < (bx.length : Int)
  nd : L.Nodup
  has : ∀ i : Int, 0 ≤ i → i < bx.length → (rangeF o d (at_ bx i)).2.2.1 = true → i ∈ L
/-! ### One -/
/-! ### Leaves -/
end Go.Proofs.B
namespace Go.Proofs.B
open Go Go.AH
set_option maxRecDepth 4000
set_option linter.unusedSimpArgs false
set_option linter.unusedVariables false
end Go.Proofs.B
namespace Go.Proofs.B
open Go Go.AH
set_option maxRecDepth 4000
end Go.Proofs.B
namespace Go.Proofs.B
open Go Go.AH
set_option maxRecDepth 4000
set_option linter.unusedSimpArgs false
set_option linter.unusedVariables false
end Go.Proofs.B
namespace Go.AH
variable [Globs]
set_option linter.unusedSectionVars false
open Go Go.Deep
def nH : Heap := fun _ => none
abbrev idM : Nat → Nat := fun i => i
theorem nH_owned {μ : Nat → Nat} {b : Nat} : ¬ Owned μ nH b := by
  rintro ⟨_, _, h, _⟩; cases h
theorem nH_HR {w : World} {μ : Nat → Nat} (hg : GOK w μ nH) : HR w μ nH where
  glob := hg
  rows := fun _ _ _ h => by cases h
  maps := fun _ _ h => by cases h
  born := fun _ _ _ _ h => by cases h
  iters := fun _ _ h => by cases h
  inj := fun _ _ _ _ h => by cases h
  fin := ⟨0, fun _ _ => rfl⟩
theorem Ext.since0 {W W' : World} {μ μ' : Nat → Nat} {H' : Heap} (h : Ext W μ nH W' μ' H') : World.Since W.heap.size W W' :=
  ⟨h.rest.2.1, h.rest.1, h.rest.2.2.1, h.size, fun k hk => (h.frz k ⟨hk, nH_owned⟩).1⟩
theorem cell_spot0 {W : World} {a : Addr} {v : Value} (h : W.cell? a = some v) : a = ⟨a.block, a.off, none⟩ ∧ a.block < W.heap.size := by
  unfold World.cell? at h
  split at h
  · rename_i c e fr hb
    have hlt : a.block < W.heap.size := (Array.getElem?_eq_some_iff.1 hb).1
    split at h
    · cases h
    · rename_i hs
      refine ⟨?_, hlt⟩
      cases a with
      | mk b o s => cases s with
        | none => rfl
        | some s => simp at hs
  · cases h
section
variable {w : World} {μ : Nat → Nat} {H : Heap}
theorem VRs.nil : VRs w μ H [] [] := ⟨rfl, fun j x y h => by simp at h⟩
theorem VRs.one {x : AV} {v : Value} (h : VR w μ H x v) : VRs w μ H [x] [v] := ⟨rfl, fun j a b h1 h2 => by
  match j with
  | 0 => simp at h1 h2; subst h1 h2; exact h
  | j + 1 => simp at h1⟩
theorem VRs.app {xs ys : List AV} {«as» bs : List Value} (h : VRs w μ H xs «as») (g : VRs w μ H ys bs) : VRs w μ H (xs ++ ys) («as» ++ bs) := by
  refine ⟨by simp [h.1, g.1], fun j x y hx hy => ?_⟩
  rcases Nat.lt_or_ge j xs.length with hj | hj
  · rw [List.getElem?_append_left hj] at hx
    rw [List.getElem?_append_left (by rw [← h.1]; exact hj)] at hy
    exact h.2 j x y hx hy
  · rw [List.getElem?_append_right hj] at hx
    rw [List.getElem?_append_right (by rw [← h.1]; exact hj), ← h.1] at hy
    exact g.2 _ x y hx hy
/-- Two pieces, one behind the other. -/
theorem VRs.glue {xs ys : List AV} {cs : List Value} {o o' a b n : Nat} (h : VRs w μ H xs ((cs.drop o).take a)) (g : VRs w μ H ys ((cs.drop o').take b)) (ho : o' = o + a) (hn : n = a + b) : VRs w μ H (xs ++ ys) ((cs.drop o).take n) := by
  subst ho hn
  have e : (cs.drop o).take (a + b) = (cs.drop o).take a ++ (cs.drop (o + a)).take b := by
    rw [List.take_add, List.drop_drop]
  rw [e]; exact h.app g
theorem VRs.whole {xs : List AV} {cs : List Value} {n : Nat} (h : VRs w μ H xs ((cs.drop 0).take n)) (hn : cs.length = n) : VRs w μ H xs cs := by
  subst hn; simpa using h
theorem VRs.part {xs : List AV} {cs : List Value} {n : Nat} (h : VRs w μ H xs cs) (hn : cs.length = n) : VRs w μ H xs ((cs.drop 0).take n) := by
  subst hn; simpa using h
theorem VRs.agg {xs : List AV} {cs : Array Value} (h : VRs w μ H xs cs.toList) : VR w μ H (.agg xs) (.agg cs) := .agg (by simpa using h.1) fun j x y hx hy => h.2 j x y hx (by simpa using hy)
theorem VRs.get1 {x : AV} {v : Value} (h : VRs w μ H [x] [v]) : VR w μ H x v := h.2 0 x v rfl rfl
end
section
variable {D : Type} {enc : TypeId × Value → D} {P : Program} {W : World}
/-- What is read at a type stands for an abstract value of one kind. -/
def Opn (enc : TypeId × Value → D) (P : Program) (W : World) (t : TypeId) {α : Type} (e : α → List AV) (Q : α → DataW D → Prop) : Prop :=
  ∀ (sp : Nat → Bool) (held : Bool) (fuel : Nat) (cs : List Value) (x : DataW D × List MemPlace), DataW.trod enc P W 0 sp held fuel t cs = some x → ∃ v, VRs W idM nH (e v) cs ∧ Q v x.1
theorem Opn.int {t : TypeId} {k : IntKind} (ht : P.underlying t = some (.int k)) : Opn enc P W t (fun n : Int => [.int k n]) (fun n _ => (Lit.int k n).wf = true) := fun sp held fuel cs x h => by
  obtain ⟨n, rfl, rfl, hw⟩ := DataW.trod_int ht h
  exact ⟨n, .one (.int _ _), hw⟩
theorem Opn.str {t : TypeId} (ht : P.underlying t = some .string) : Opn enc P W t (fun s : ByteArray => [.str s]) (fun s d => d = .lit (.string s.data.toList)) := fun sp held fuel cs x h => by
  obtain ⟨s, rfl, rfl, hw⟩ := DataW.trod_string ht h
  exact ⟨s, .one (.str _), rfl⟩
theorem Opn.bool {t : TypeId} (ht : P.underlying t = some .bool) : Opn enc P W t (fun s : Bool => [.bool s]) (fun _ _ => True) := fun sp held fuel cs x h => by
  obtain ⟨s, rfl, rfl⟩ := DataW.trod_bool ht h
  exact ⟨s, .one (.bool _), trivial⟩
theorem Opn.imp {t : TypeId} {α : Type} {e : α → List AV} {Q Q' : α → DataW D → Prop} (h : Opn enc P W t e Q) (hq : ∀ v d, Q v d → Q' v d) : Opn enc P W t e Q' := fun sp held fuel cs x hx => by
  obtain ⟨v, h1, h2⟩ := h sp held fuel cs x hx
  exact ⟨v, h1, hq _ _ h2⟩
/-- A slice, by value. -/
theorem Opn.slice {t el : TypeId} {m : Nat} {α : Type} {e : α → List AV} {Q : α → DataW D → Prop} (ht : P.underlying t = some (.slice el)) (hm : P.cellsOf el = m) (hm0 : 0 < m) (he : Opn enc P W el e Q) :
    Opn enc P W t (fun l : List α => [.sl l.length (l.flatMap e)]) (fun l d => (l = [] ∧ d = .nil) ∨ ∃ ds sp, d = .slice ds sp ∧ l.length = ds.length ∧ ∀ x ∈ l, ∃ y ∈ ds, Q x y) := fun sp held fuel cs x h => by
  rcases Go.Deep.open_slice ht h with ⟨rfl, rfl⟩ | ⟨a, len, cap, mm, n, Dd, Pl, rfl, hb, hl, hcm, hmm, rfl, hx⟩
  · exact ⟨[], .one (.sl0 _ _), .inl ⟨rfl, rfl⟩⟩
  · rw [hm] at hx
    have hle : len ≤ mm := by rw [hmm]; split <;> omega
    have key : ∀ k, k ≤ len → ∃ l : List α, l.length = k ∧ (l.flatMap e).length = k * m ∧ (∃ ys : Nat → Value, ∀ j x, (l.flatMap e)[j]? = some x → W.cell? (a.add j) = some (ys j) ∧ VR W idM nH x (ys j)) ∧ ∀ x ∈ l, ∃ y ∈ (List.range len).map Dd, Q x y := by
      intro k
      induction k with
      | zero => intro _; exact ⟨[], rfl, by simp, ⟨fun _ => default, fun j x h => by simp at h⟩, fun _ h => by cases h⟩
      | succ k ih =>
        intro hk
        obtain ⟨l, h1, h2, ⟨ys, h3⟩, h4⟩ := ih (by omega)
        obtain ⟨cs', h5, h6⟩ := hx k (by omega)
        obtain ⟨v, h7, h8⟩ := he _ _ _ _ _ h6
        obtain ⟨_, hlen, hcell⟩ := World.cells?_some h5
        have hvl : (e v).length = m := by rw [h7.1, hlen]
        refine ⟨l ++ [v], by simp [h1], ?_, ⟨fun j => if j < k * m then ys j else cs'.getD (j - k * m) default, fun j x hj => ?_⟩, fun x hx => ?_⟩
        · rw [List.flatMap_append, List.flatMap_singleton, List.length_append, h2, hvl, Nat.add_mul]; omega
        · rw [List.flatMap_append, List.flatMap_singleton] at hj
          by_cases hjk : j < k * m
          · rw [List.getElem?_append_left (by omega)] at hj
            simp only [hjk, if_true]
            exact h3 j x hj
          · rw [List.getElem?_append_right (by omega), h2] at hj
            simp only [hjk, if_false]
            have hjl : j - k * m < cs'.length := by
              rcases Nat.lt_or_ge (j - k * m) (e v).length with g | g
              · omega
              · rw [List.getElem?_eq_none g] at hj; cases hj
            have hc := hcell (j - k * m) (by omega)
            rw [Go.Deep.add_add, show k * m + (j - k * m) = j by omega] at hc
            have hg : cs'.getD (j - k * m) default = cs'[j - k * m] := by simp [List.getD, hjl]
            refine ⟨?_, h7.2 _ _ _ hj (by rw [hg]; exact List.getElem?_eq_getElem hjl)⟩
            rw [hg, hc]; exact List.getElem?_eq_getElem hjl
        · rcases List.mem_append.1 hx with hx | hx
          · exact h4 x hx
          · simp at hx; subst hx
            exact ⟨_, List.mem_map_of_mem (List.mem_range.2 (by omega)), h8⟩
    obtain ⟨l, h1, h2, ⟨ys, h3⟩, h4⟩ := key len (Nat.le_refl _)
    refine ⟨l, .one ?_, .inr ⟨_, _, rfl, by simp [h1], h4⟩⟩
    rw [h1]
    by_cases h0 : len = 0
    · subst h0
      have : l = [] := List.eq_nil_of_length_eq_zero h1
      subst this
      exact .sl0 _ _
    · have hpos : 0 < (l.flatMap e).length := by rw [h2]; exact Nat.mul_pos (by omega) hm0
      have hc0 := (h3 0 _ (List.getElem?_eq_getElem hpos)).1
      obtain ⟨e0, hlt⟩ := cell_spot0 hc0
      have e2 : a = ⟨a.block, a.off, none⟩ := by
        have := congrArg Addr.spot e0
        cases a; simp [Addr.add] at this; subst this; rfl
      rw [e2]
      refine .sl (ys := ys) hl ⟨by simpa [Addr.add] using hlt, nH_owned⟩ (fun j x hx => ?_) (fun j x hx => (h3 j x hx).2)
      have := (h3 j x hx).1
      rw [e2] at this
      have e3 : (⟨a.block, a.off, none⟩ : Addr).add j = ⟨a.block, a.off + j, none⟩ := by
        by_cases hj : j = 0 <;> simp [Addr.add, hj]
      rw [e3] at this
      exact this
end
end Go.AH
namespace Go.Proofs.B
open Go Go.AH Go.ChangeShapes Go.WideShapes Go.ChangeAt Go.RowKit Go.Deep Go.Proofs.Ytcpepibkopbhgaa
set_option maxRecDepth 8000
set_option linter.unusedSimpArgs false
set_option linter.unusedVariables false
section
variable {H : Type} {enc : TypeId × Value → H} {W : World}
theorem c3 : Try.prog.cellsOf 3 = 1 := by kernel_rfl
theorem c24 : Try.prog.cellsOf 24 = 3 := by kernel_rfl
theorem c37 : Try.prog.cellsOf 37 = 6 := by kernel_rfl
theorem opI : Opn enc Try.prog W 3 (fun n : Int => [.int .i64 n]) (fun n _ => inR n) := (Opn.int u_3).imp fun n _ h => bounds_i64 h
theorem opV : Opn enc Try.prog W 24 eV (fun v _ => ranV v) := fun sp held fuel cs x h => by
  obtain ⟨xs, n, _, rfl, hl, hxl, hf⟩ := DataW.trod_struct Try.underlying24 h
  match xs, hxl with
  | [y0, y1, y2], _ =>
    obtain ⟨a, a1, a2⟩ := opI (enc := enc) (W := W) _ _ _ _ _ (hf 0 _ rfl)
    obtain ⟨b, b1, b2⟩ := opI (enc := enc) (W := W) _ _ _ _ _ (hf 1 _ rfl)
    obtain ⟨c, e1, e2⟩ := opI (enc := enc) (W := W) _ _ _ _ _ (hf 2 _ rfl)
    simp only [c3] at a1 b1 e1
    exact ⟨⟨a, b, c⟩, (a1.glue (b1.glue e1 rfl rfl) rfl (n := 3) rfl).whole (by rw [hl, c24]), a2, b2, e2⟩
theorem opBox : Opn enc Try.prog W 37 eBox (fun v _ => ranB v) := fun sp held fuel cs x h => by
  obtain ⟨xs, n, _, rfl, hl, hxl, hf⟩ := DataW.trod_struct Try.underlying37 h
  match xs, hxl with
  | [y0, y1], _ =>
    obtain ⟨a, a1, a2⟩ := opV (enc := enc) (W := W) _ _ _ _ _ (hf 0 _ rfl)
    obtain ⟨b, b1, b2⟩ := opV (enc := enc) (W := W) _ _ _ _ _ (hf 1 _ rfl)
    have a1 : VRs W idM nH (eV a) ((cs.drop 0).take (Try.prog.cellsOf 24)) := a1
    have b1 : VRs W idM nH (eV b) ((cs.drop 3).take (Try.prog.cellsOf 24)) := b1
    rw [c24] at a1 b1
    exact ⟨⟨a, b⟩, (a1.glue b1 rfl (n := 6) rfl).whole (by rw [hl, c37]), a2, b2⟩
theorem opBoxes : Opn enc Try.prog W 22 (fun l : List BoxT => [.sl l.length (l.flatMap eBox)]) (fun l _ => ∀ b ∈ l, ranB b) := fun sp held fuel cs x h => by
  obtain ⟨l, h1, h2⟩ := Opn.slice u_22 c37 (by omega) opBox sp held fuel cs x h
  refine ⟨l, h1, ?_⟩
  rcases h2 with ⟨rfl, _⟩ | ⟨ds, s, he, hlen, hall⟩
  · exact fun _ h => by cases h
  · exact fun t ht => let ⟨y, hy, hb⟩ := hall t ht; hb
/-- A slice that is handed in. -/
theorem arg_sl {r : Reach} {b0 : Nat} {t el : TypeId} {v : Value} {d : DataW H} {p : List MemPlace} {α : Type} {e : α → AV} {Q : α → DataW H → Prop} (ht : Try.prog.underlying t = some (.slice el)) (ho : Opn enc Try.prog W t (fun a => [e a]) Q) (hv : Value.okWide Try.prog W r b0 t v) {sp : Nat → Bool} {held : Bool} (hd : DataW.Trod enc Try.prog W 0 sp held t v d p) :
    ∃ a, VR W idM nH (e a) v ∧ Q a d := by
  obtain ⟨ad, len, cap, rfl⟩ := okWide_slice ht hv
  obtain ⟨fuel, hf⟩ := hd
  obtain ⟨a, h1, h2⟩ := ho _ _ _ _ _ hf
  exact ⟨a, VRs.get1 h1, h2⟩
theorem own : ownKnob Try.prog.godebug = none := by kernel_rfl
theorem stays {W W' : World} (hs : World.Since W.heap.size W W') {x : MemPlace} (h : x.block < W.heap.size) : W.sameAt W' x := by
  cases x with
  | cell b o => exact hs.cell (a := ⟨b, o, none⟩) h
  | map b => exact hs.block b h
theorem globs_none {W : World} : GOK W idM nH := ⟨(fun g cells h => by cases h), (fun g cs h => by cases h)⟩
end
end Go.Proofs.B
