/- A part of the proof that a law answers true for every input of its row: own work, by an AI agent. -/
import Derived.Test.YtfeafldgohceaaaB03
import Derived.Test.YtfeafldgohceaaaB02
set_option linter.unusedSimpArgs false
set_option linter.unusedVariables false
set_option linter.defProp false
namespace Go.Proofs.U
open Go Go.AH Go.Proofs.T
set_option maxRecDepth 4000
set_option linter.unusedSimpArgs false
set_option linter.unusedVariables false
theorem c_creases {H0 : Heap} {fid : Nat} (vs : List VT) (fs : List (List Int)) (cr : List CrT) (t : Tp) (sh : List Int) {x7 x8 : AV} (i : Int) (hi : 0 ≤ i ∧ i < t.ed.length) (hel : t.ed.length ≤ 1048576) (hvl : vs.length ≤ 1048576) (hsl : sh.length = t.ed.length) (hs0 : 0 ≤ at_ sh i ∧ at_ sh i ≤ 9223372036854775807) (hr : H0 fid = some (.row 0 [.sl vs.length (vs.flatMap eV), .sl fs.length (fs.map eF), .sl cr.length (cr.flatMap eCr), .sl t.ed.length (t.ed.flatMap eE), .sl t.fan.length (t.fan.map eF), .sl t.rnd.length (t.rnd.map eBo), .sl sh.length (sh.map eI), x7, x8])) : ACalls Try.prog 38 [.ptr fid 0 0, .int .i64 i] H0 fun r H' => r = (.sl (creaseP vs.length t sh i).length ((creaseP vs.length t sh i).flatMap eCr)) ∧ Mono H0 H' := by
 refine ACalls.of_body' (n := 56) rfl rfl rfl rfl ?_
 have m0 := Mono.refl H0
 refine AWP.seq ?_
 refine AWP.region (l := [0]) rfl ?_
 refine AOps.cons rfl rfl (AOp.assign (.snil) rfl rfl ?_)
 refine AOps.nil ?_
 change AWP _ _ _ _ _ _
 refine AWP.seq ?_
 refine AWP.region (l := [0, 1, 2, 3, 4, 5, 6, 7]) rfl ?_
 refine AOps.cons rfl rfl (AOp.move (.ptr fid 0 0) rfl rfl ?_)
 refine AOps.cons rfl rfl (AOp.nilCheck (.ptr fid 0 0) rfl rfl rfl ?_)
 refine AOps.cons rfl rfl (AOp.fieldAddr rfl rfl fl_79_2 ?_ (hid := ⟨_, hr⟩))
 refine AOps.cons rfl rfl (AOp.load (.sl sh.length (sh.map eI)) rfl rfl ty_38 hr rfl ?_)
 refine AOps.cons rfl rfl (AOp.move (.int .i64 i) rfl rfl ?_)
 refine AOps.cons rfl rfl (AOp.indexAddrS rfl rfl rfl sl_38 (by omega) (by omega) ?_)
 refine AOps.cons rfl rfl (AOp.loadF (.int .i64 (at_ sh i)) rfl rfl ty_3 (ld1 (by omega) (by omega)) ?_)
 refine AOps.cons rfl rfl (AOp.assign (.int .i64 (at_ sh i)) rfl rfl ?_)
 refine AOps.nil ?_
 change AWP _ _ _ _ _ _
 refine AWP.seq ?_
 refine AWP.seq ?_
 refine AWP.region (l := [0, 1]) rfl ?_
 refine AOps.cons rfl rfl (AOp.move (.int .i64 (at_ sh i)) rfl rfl ?_)
 refine AOps.cons rfl rfl (AOp.bin (.bool (!decide (at_ sh i = 255))) rfl rfl rfl ine ?_)
 refine AOps.nil ?_
 change AWP _ _ _ _ _ _
 by_cases b1 : at_ sh i = 255
 ·
  refine AWP.condF rfl (nb (decide_eq_true b1)) ?_
  refine AWP.skip ?_
  change AWP _ _ _ _ _ _
  refine AWP.seq ?_
  refine AWP.seq ?_
  refine AWP.region (l := [0, 1, 2, 3, 4, 5, 6, 7, 8, 9]) rfl ?_
  refine AOps.cons rfl rfl (AOp.move (.ptr fid 0 0) rfl rfl ?_)
  refine AOps.cons rfl rfl (AOp.nilCheck (.ptr fid 0 0) rfl rfl rfl ?_)
  refine AOps.cons rfl rfl (AOp.fieldAddr rfl rfl fl_79_1 ?_ (hid := ⟨_, hr⟩))
  refine AOps.cons rfl rfl (AOp.load (.agg [.sl t.ed.length (t.ed.flatMap eE), .sl t.fan.length (t.fan.map eF), .sl t.rnd.length (t.rnd.map eBo)]) rfl rfl ty_35 hr rfl ?_)
  refine AOps.cons rfl rfl (AOp.move (.int .i64 i) rfl rfl ?_)
  refine AOps.cons rfl rfl (AOp.pcall («as» := [.agg [.sl t.ed.length (t.ed.flatMap eE), .sl t.fan.length (t.fan.map eF), .sl t.rnd.length (t.rnd.map eBo)], .int .i64 i]) rfl rfl (rfl) tf_43 (c18 _ _ (by omega)) ?_)
  intro H2 m3
  have h4 := m3 _ _ hr
  have m5 := m0.trans m3
  refine AOps.cons rfl rfl (AOp.move (.bool (edgedS t i)) rfl rfl ?_)
  rcases Bool.eq_false_or_eq_true (edgedS t i) with b6 | b6
  ·
   refine AOps.no rfl rfl rfl rfl rfl rfl rfl (ble_of b6 (by decide)) ?_
   refine AOps.no rfl rfl rfl rfl rfl rfl rfl (ble_of b6 (by decide)) ?_
   refine AOps.cons rfl rfl (AOp.pickT (.bool true) rfl rfl b6 rfl ?_)
   refine AOps.nil ?_
   change AWP _ _ _ _ _ _
   refine AWP.condT rfl rfl ?_
   refine AWP.seq ?_
   refine AWP.region (l := [0]) rfl ?_
   refine AOps.cons rfl rfl (AOp.assign (.snil) rfl rfl ?_)
   refine AOps.nil ?_
   change AWP _ _ _ _ _ _
   refine AWP.ret ?_
   refine Fin.frz 4 (Own.nil H0 H2 1) rfl m5 fun H7 m8 k9 => ?_
   have h10 := (k9 _ (NotId.nil _)).trans h4
   refine ⟨_, _, Ghost.refl, .inr rfl, _, Res.one rfl rfl, ?_, m8⟩
   exact (congrArg (fun l : List CrT => AV.sl l.length (l.flatMap eCr)) (show ([] : List CrT) = creaseP vs.length t sh i from by (unfold creaseP; rw [if_pos (.inl b6)])))
  ·
   refine AOps.yes rfl rfl rfl rfl rfl rfl rfl b6 (AOp.move (.int .i64 (at_ sh i)) rfl rfl ?_)
   refine AOps.yes rfl rfl rfl rfl rfl rfl rfl b6 (AOp.bin (.bool (decide (at_ sh i < 1))) rfl rfl rfl rfl ?_)
   refine AOps.cons rfl rfl (AOp.pickF (.bool (decide (at_ sh i < 1))) rfl rfl b6 rfl ?_)
   refine AOps.nil ?_
   change AWP _ _ _ _ _ _
   by_cases b11 : at_ sh i < 1
   ·
    refine AWP.condT rfl (decide_eq_true b11) ?_
    refine AWP.seq ?_
    refine AWP.region (l := [0]) rfl ?_
    refine AOps.cons rfl rfl (AOp.assign (.snil) rfl rfl ?_)
    refine AOps.nil ?_
    change AWP _ _ _ _ _ _
    refine AWP.ret ?_
    refine Fin.frz 4 (Own.nil H0 H2 1) rfl m5 fun H12 m13 k14 => ?_
    have h15 := (k14 _ (NotId.nil _)).trans h4
    refine ⟨_, _, Ghost.refl, .inr rfl, _, Res.one rfl rfl, ?_, m13⟩
    exact (congrArg (fun l : List CrT => AV.sl l.length (l.flatMap eCr)) (show ([] : List CrT) = creaseP vs.length t sh i from by (have hls : lessS (at_ sh i) = at_ sh i := (by unfold lessS; rw [if_pos b1]); unfold creaseP; rw [if_pos (.inr (by rw [hls]; exact b11))])))
   ·
    refine AWP.condF rfl (decide_eq_false b11) ?_
    refine AWP.skip ?_
    change AWP _ _ _ _ _ _
    refine AWP.seq ?_
    refine AWP.freshN fun b16 hb17 => ?_
    obtain ⟨i18, e19⟩ : ∃ x, x = b16 + 0 := ⟨_, rfl⟩
    have n20 := hb17 0; rw [← e19] at n20
    refine AWP.region_strA mixed (by kernel_rfl) [(16, i18, .row 0 ([.int .i64 0, .int .i64 0, .int .i64 0, .int .i64 0]))] [0, 1, 2, 3, 4, 5, 6, 7, 8, 9, 10, 11, 12, 13, 14, 15, 16] [(17, some [8, 9, 10, 11, 12, 13, 14, 15])] [18] (by kernel_rfl) (by kernel_rfl) ⟨n20, trivial, trivial⟩ ?_
    have e21 := ne_new h4 n20
    have z22 := Mono.free m5 n20
    refine STRN.op rfl rfl rfl (.inl ⟨rfl, fun H1 f' H' hf hN hM => AOp.move (.ptr fid 0 0) rfl ((hf 0 rfl).trans rfl) ⟨rfl, hN⟩⟩) ?_
    refine STRN.op rfl rfl rfl (.inl ⟨rfl, fun H1 f' H' hf hN hM => AOp.nilCheck (.ptr fid 0 0) rfl ((hf 29 rfl).trans rfl) rfl ⟨rfl, hN⟩⟩) ?_
    refine STRN.op rfl rfl rfl (.inl ⟨rfl, fun H1 f' H' hf hN hM => AOp.fieldAddr rfl ((hf 30 rfl).trans rfl) fl_79_1 ⟨rfl, hN⟩ (hid := ⟨_, (hM _ _ h4)⟩)⟩) ?_
    refine STRN.op rfl rfl rfl (.inl ⟨rfl, fun H1 f' H' hf hN hM => AOp.fieldAddr rfl ((hf 31 rfl).trans rfl) fl_35_0 ⟨rfl, hN⟩ (hid := ⟨_, (hM _ _ h4)⟩)⟩) ?_
    refine STRN.op rfl rfl rfl (.inl ⟨rfl, fun H1 f' H' hf hN hM => AOp.load (.sl t.ed.length (t.ed.flatMap eE)) rfl ((hf 32 rfl).trans rfl) ty_32 (hM _ _ h4) rfl ⟨rfl, hN⟩⟩) ?_
    refine STRN.op rfl rfl rfl (.inl ⟨rfl, fun H1 f' H' hf hN hM => AOp.move (.int .i64 i) rfl ((hf 1 rfl).trans rfl) ⟨rfl, hN⟩⟩) ?_
    refine STRN.op rfl rfl rfl (.inl ⟨rfl, fun H1 f' H' hf hN hM => AOp.indexAddrS rfl ((hf 33 rfl).trans rfl) ((hf 34 rfl).trans rfl) sl_32 (by omega) (by omega) ⟨rfl, hN⟩⟩) ?_
    refine STRN.op rfl rfl rfl (.inl ⟨rfl, fun H1 f' H' hf hN hM => AOp.loadF (.agg [.int .i64 ((at_ t.ed i).A), .int .i64 ((at_ t.ed i).B), .int .i64 ((at_ t.ed i).F), .int .i64 ((at_ t.ed i).G)]) rfl ((hf 35 rfl).trans rfl) ty_47 (ldM eE_len (by omega) (by omega)) ⟨rfl, hN⟩⟩) ?_
    refine STRN.op rfl rfl rfl (.inl ⟨rfl, fun H1 f' H' hf hN hM => AOp.move (.ptr fid 0 0) rfl ((hf 0 rfl).trans rfl) ⟨rfl, hN⟩⟩) ?_
    refine STRN.op rfl rfl rfl (.inl ⟨rfl, fun H1 f' H' hf hN hM => AOp.nilCheck (.ptr fid 0 0) rfl ((hf 37 rfl).trans rfl) rfl ⟨rfl, hN⟩⟩) ?_
    refine STRN.op rfl rfl rfl (.inl ⟨rfl, fun H1 f' H' hf hN hM => AOp.fieldAddr rfl ((hf 38 rfl).trans rfl) fl_79_0 ⟨rfl, hN⟩ (hid := ⟨_, (hM _ _ h4)⟩)⟩) ?_
    refine STRN.op rfl rfl rfl (.inl ⟨rfl, fun H1 f' H' hf hN hM => AOp.fieldAddr rfl ((hf 39 rfl).trans rfl) fl_26_0 ⟨rfl, hN⟩ (hid := ⟨_, (hM _ _ h4)⟩)⟩) ?_
    refine STRN.op rfl rfl rfl (.inl ⟨rfl, fun H1 f' H' hf hN hM => AOp.load (.sl vs.length (vs.flatMap eV)) rfl ((hf 40 rfl).trans rfl) ty_22 (hM _ _ h4) rfl ⟨rfl, hN⟩⟩) ?_
    refine STRN.op rfl rfl rfl (.inl ⟨rfl, fun H1 f' H' hf hN hM => AOp.len (m := vs.length) rfl ((hf 41 rfl).trans rfl) (.inr (.inl ⟨_, rfl⟩)) u_22 ⟨rfl, hN⟩⟩) ?_
    refine STRN.op rfl rfl rfl (.inl ⟨rfl, fun H1 f' H' hf hN hM => AOp.move (.int .i64 i) rfl ((hf 1 rfl).trans rfl) ⟨rfl, hN⟩⟩) ?_
    refine STRN.op rfl rfl rfl (.inl ⟨rfl, fun H1 f' H' hf hN hM => AOp.bin (.int .i64 ((vs.length : Int) + i)) rfl ((hf 42 rfl).trans rfl) ((hf 43 rfl).trans rfl) (iadd (by omega)) ⟨rfl, hN⟩⟩) ?_
    refine STRN.alloc (id := i18) (Z := [.int .i64 0, .int .i64 0, .int .i64 0, .int .i64 0]) (.head _) rfl rfl rfl rfl rfl tz_47 ?_
    refine STRN.done fun H23 m24 hu25 => ?_
    have h26 := m24 _ _ h4
    have m27 := m5.trans m24
    have h28 : H23 i18 = some (.row 0 ([.int .i64 0, .int .i64 0, .int .i64 0, .int .i64 0])) := hu25 _ (.head _)
    refine STR.st rfl rfl rfl fun f29 H30 hf31 m32 => ?_
    have h33 := m32 _ _ h26
    have h34 := m32 _ _ h28
    have m35 := m27.trans m32
    refine AOp.store' (cells' := [.int .i64 ((at_ t.ed i).A), .int .i64 ((at_ t.ed i).B), .int .i64 ((at_ t.ed i).F), .int .i64 ((at_ t.ed i).G)]) (.agg [.int .i64 ((at_ t.ed i).A), .int .i64 ((at_ t.ed i).B), .int .i64 ((at_ t.ed i).F), .int .i64 ((at_ t.ed i).G)]) ((hf31 6 rfl).trans rfl) ((hf31 36 rfl).trans rfl) ts_47 h34 rfl rfl rfl rfl ?_
    intro H36 h37 k38
    have h39 := keep k38 e21 h33
    have m41 := Mono.set m35 z22 k38
    refine ⟨rfl, .inr (RevR.skip rfl (RevR.cons rfl (.inl ⟨rfl, fun H1 f' H' hf hN hM => AOp.bin (.int .i64 ((vs.length : Int) + i)) rfl ((hf 42 rfl).trans rfl) ((hf 43 rfl).trans rfl) (iadd (by omega)) ⟨rfl, hN⟩⟩) (RevR.cons rfl (.inl ⟨rfl, fun H1 f' H' hf hN hM => AOp.move (.int .i64 i) rfl ((hf 1 rfl).trans rfl) ⟨rfl, hN⟩⟩) (RevR.cons rfl (.inl ⟨rfl, fun H1 f' H' hf hN hM => AOp.len (m := vs.length) rfl ((hf 41 rfl).trans rfl) (.inr (.inl ⟨_, rfl⟩)) u_22 ⟨rfl, hN⟩⟩) (RevR.cons rfl (.inl ⟨rfl, fun H1 f' H' hf hN hM => AOp.load (.sl vs.length (vs.flatMap eV)) rfl ((hf 40 rfl).trans rfl) ty_22 (hM _ _ h39) rfl ⟨rfl, hN⟩⟩) (RevR.cons rfl (.inl ⟨rfl, fun H1 f' H' hf hN hM => AOp.fieldAddr rfl ((hf 39 rfl).trans rfl) fl_26_0 ⟨rfl, hN⟩ (hid := ⟨_, (hM _ _ h39)⟩)⟩) (RevR.cons rfl (.inl ⟨rfl, fun H1 f' H' hf hN hM => AOp.fieldAddr rfl ((hf 38 rfl).trans rfl) fl_79_0 ⟨rfl, hN⟩ (hid := ⟨_, (hM _ _ h39)⟩)⟩) (RevR.cons rfl (.inl ⟨rfl, fun H1 f' H' hf hN hM => AOp.nilCheck (.ptr fid 0 0) rfl ((hf 37 rfl).trans rfl) rfl ⟨rfl, hN⟩⟩) (RevR.cons rfl (.inl ⟨rfl, fun H1 f' H' hf hN hM => AOp.move (.ptr fid 0 0) rfl ((hf 0 rfl).trans rfl) ⟨rfl, hN⟩⟩) (RevR.skip rfl (RevR.skip rfl (RevR.skip rfl (RevR.skip rfl (RevR.skip rfl (RevR.skip rfl (RevR.skip rfl (RevR.skip rfl RevR.nil))))))))))))))))), ?_⟩
    refine STR.done fun H42 m43 => ?_
    have h44 := m43 _ _ h39
    have h45 := m43 _ _ h37
    have m46 := m41.trans m43
    refine AOps.cons rfl rfl (AOp.assign (.int .i64 ((vs.length : Int) + i)) rfl rfl ?_)
    refine AOps.nil ?_
    change AWP _ _ _ _ _ _
    refine AWP.seq ?_
    refine AWP.frzP 6 h45 z22 rfl m46 fun H47 m48 k49 => ?_
    have h50 := (k49 _ e21).trans h44
    refine AWP.region (l := [0, 1, 2, 3, 4, 5, 6, 7, 8, 9, 10, 11]) rfl ?_
    refine AOps.cons rfl rfl (AOp.fieldAddrF rfl rfl fl_47_0 ?_)
    refine AOps.cons rfl rfl (AOp.loadF (.int .i64 ((at_ t.ed i).A)) rfl rfl ty_3 rfl ?_)
    refine AOps.cons rfl rfl (AOp.move (.int .i64 ((vs.length : Int) + i)) rfl rfl ?_)
    refine AOps.cons rfl rfl (AOp.move (.int .i64 (at_ sh i)) rfl rfl ?_)
    refine AOps.cons rfl rfl (AOp.build (cells := [.int .i64 ((at_ t.ed i).A), .int .i64 ((vs.length : Int) + i), .int .i64 (at_ sh i)]) rfl tz_53 pl_53 rfl rfl ?_)
    refine AOps.cons rfl rfl (AOp.fieldAddrF rfl rfl fl_47_1 ?_)
    refine AOps.cons rfl rfl (AOp.loadF (.int .i64 ((at_ t.ed i).B)) rfl rfl ty_3 rfl ?_)
    refine AOps.cons rfl rfl (AOp.move (.int .i64 ((vs.length : Int) + i)) rfl rfl ?_)
    refine AOps.cons rfl rfl (AOp.move (.int .i64 (at_ sh i)) rfl rfl ?_)
    refine AOps.cons rfl rfl (AOp.build (cells := [.int .i64 ((at_ t.ed i).B), .int .i64 ((vs.length : Int) + i), .int .i64 (at_ sh i)]) rfl tz_53 pl_53 rfl rfl ?_)
    refine AOps.cons rfl rfl (AOp.buildSlice (cells := [.int .i64 ((at_ t.ed i).A), .int .i64 ((vs.length : Int) + i), .int .i64 (at_ sh i), .int .i64 ((at_ t.ed i).B), .int .i64 ((vs.length : Int) + i), .int .i64 (at_ sh i)]) rfl u_24 ts_53 tz_53 rfl rfl rfl ?_)
    intro i51 H52 n53 h54 k55
    have e56 := ne_new h50 n53
    have z57 := Mono.free m48 n53
    have h58 := keep k55 (ne_new h50 n53) h50
    have m59 := Mono.new m48 n53 k55
    refine AOps.cons rfl rfl (AOp.assign (.slm i51 0 3 0 2) rfl rfl ?_)
    refine AOps.nil ?_
    change AWP _ _ _ _ _ _
    refine AWP.ret ?_
    obtain ⟨v60, e61⟩ : ∃ v : AV, v = .slm i51 0 3 0 2 := ⟨_, rfl⟩
    have o62 : Own H0 H52 3 v60 2 [.int .i64 ((at_ t.ed i).A), .int .i64 ((vs.length : Int) + i), .int .i64 (at_ sh i), .int .i64 ((at_ t.ed i).B), .int .i64 ((vs.length : Int) + i), .int .i64 (at_ sh i)] := .inr ⟨_, _, e61, h54, z57, rfl⟩
    have no63 : NotId v60 fid := by rw [e61]; exact NotId.slm e56
    refine Fin.frz 4 (o62) e61.symm m59 fun H64 m65 k66 => ?_
    have h67 := (k66 _ no63).trans h58
    refine ⟨_, _, Ghost.refl, .inr rfl, _, Res.one rfl rfl, ?_, m65⟩
    exact (congrArg (fun l : List CrT => AV.sl l.length (l.flatMap eCr)) (show (([(CrT.mk ((at_ t.ed i).A) ((vs.length : Int) + i) (at_ sh i)), (CrT.mk ((at_ t.ed i).B) ((vs.length : Int) + i) (at_ sh i))] : List CrT) : List CrT) = creaseP vs.length t sh i from by (have hls : lessS (at_ sh i) = at_ sh i := (by unfold lessS; rw [if_pos b1]); unfold creaseP; rw [if_neg (by rw [hls]; exact fun h => h.elim (fun h => by rw [b6] at h; cases h) b11), hls])))
 ·
  refine AWP.condT rfl (nb (decide_eq_false b1)) ?_
  refine AWP.region (l := [0, 1, 2]) rfl ?_
  refine AOps.cons rfl rfl (AOp.move (.int .i64 (at_ sh i)) rfl rfl ?_)
  refine AOps.cons rfl rfl (AOp.bin (.int .i64 (at_ sh i - 1)) rfl rfl rfl (isub (by omega)) ?_)
  refine AOps.cons rfl rfl (AOp.assign (.int .i64 (at_ sh i - 1)) rfl rfl ?_)
  refine AOps.nil ?_
  change AWP _ _ _ _ _ _
  refine AWP.seq ?_
  refine AWP.seq ?_
  refine AWP.region (l := [0, 1, 2, 3, 4, 5, 6, 7, 8, 9]) rfl ?_
  refine AOps.cons rfl rfl (AOp.move (.ptr fid 0 0) rfl rfl ?_)
  refine AOps.cons rfl rfl (AOp.nilCheck (.ptr fid 0 0) rfl rfl rfl ?_)
  refine AOps.cons rfl rfl (AOp.fieldAddr rfl rfl fl_79_1 ?_ (hid := ⟨_, hr⟩))
  refine AOps.cons rfl rfl (AOp.load (.agg [.sl t.ed.length (t.ed.flatMap eE), .sl t.fan.length (t.fan.map eF), .sl t.rnd.length (t.rnd.map eBo)]) rfl rfl ty_35 hr rfl ?_)
  refine AOps.cons rfl rfl (AOp.move (.int .i64 i) rfl rfl ?_)
  refine AOps.cons rfl rfl (AOp.pcall («as» := [.agg [.sl t.ed.length (t.ed.flatMap eE), .sl t.fan.length (t.fan.map eF), .sl t.rnd.length (t.rnd.map eBo)], .int .i64 i]) rfl rfl (rfl) tf_43 (c18 _ _ (by omega)) ?_)
  intro H68 m69
  have h70 := m69 _ _ hr
  have m71 := m0.trans m69
  refine AOps.cons rfl rfl (AOp.move (.bool (edgedS t i)) rfl rfl ?_)
  rcases Bool.eq_false_or_eq_true (edgedS t i) with b72 | b72
  ·
   refine AOps.no rfl rfl rfl rfl rfl rfl rfl (ble_of b72 (by decide)) ?_
   refine AOps.no rfl rfl rfl rfl rfl rfl rfl (ble_of b72 (by decide)) ?_
   refine AOps.cons rfl rfl (AOp.pickT (.bool true) rfl rfl b72 rfl ?_)
   refine AOps.nil ?_
   change AWP _ _ _ _ _ _
   refine AWP.condT rfl rfl ?_
   refine AWP.seq ?_
   refine AWP.region (l := [0]) rfl ?_
   refine AOps.cons rfl rfl (AOp.assign (.snil) rfl rfl ?_)
   refine AOps.nil ?_
   change AWP _ _ _ _ _ _
   refine AWP.ret ?_
   refine Fin.frz 4 (Own.nil H0 H68 1) rfl m71 fun H73 m74 k75 => ?_
   have h76 := (k75 _ (NotId.nil _)).trans h70
   refine ⟨_, _, Ghost.refl, .inr rfl, _, Res.one rfl rfl, ?_, m74⟩
   exact (congrArg (fun l : List CrT => AV.sl l.length (l.flatMap eCr)) (show ([] : List CrT) = creaseP vs.length t sh i from by (unfold creaseP; rw [if_pos (.inl b72)])))
  ·
   refine AOps.yes rfl rfl rfl rfl rfl rfl rfl b72 (AOp.move (.int .i64 (at_ sh i - 1)) rfl rfl ?_)
   refine AOps.yes rfl rfl rfl rfl rfl rfl rfl b72 (AOp.bin (.bool (decide (at_ sh i - 1 < 1))) rfl rfl rfl rfl ?_)
   refine AOps.cons rfl rfl (AOp.pickF (.bool (decide (at_ sh i - 1 < 1))) rfl rfl b72 rfl ?_)
   refine AOps.nil ?_
   change AWP _ _ _ _ _ _
   by_cases b77 : at_ sh i - 1 < 1
   ·
    refine AWP.condT rfl (decide_eq_true b77) ?_
    refine AWP.seq ?_
    refine AWP.region (l := [0]) rfl ?_
    refine AOps.cons rfl rfl (AOp.assign (.snil) rfl rfl ?_)
    refine AOps.nil ?_
    change AWP _ _ _ _ _ _
    refine AWP.ret ?_
    refine Fin.frz 4 (Own.nil H0 H68 1) rfl m71 fun H78 m79 k80 => ?_
    have h81 := (k80 _ (NotId.nil _)).trans h70
    refine ⟨_, _, Ghost.refl, .inr rfl, _, Res.one rfl rfl, ?_, m79⟩
    exact (congrArg (fun l : List CrT => AV.sl l.length (l.flatMap eCr)) (show ([] : List CrT) = creaseP vs.length t sh i from by (have hls : lessS (at_ sh i) = at_ sh i - 1 := (by unfold lessS; rw [if_neg b1]); unfold creaseP; rw [if_pos (.inr (by rw [hls]; exact b77))])))
   ·
    refine AWP.condF rfl (decide_eq_false b77) ?_
    refine AWP.skip ?_
    change AWP _ _ _ _ _ _
    refine AWP.seq ?_
    refine AWP.freshN fun b82 hb83 => ?_
    obtain ⟨i84, e85⟩ : ∃ x, x = b82 + 0 := ⟨_, rfl⟩
    have n86 := hb83 0; rw [← e85] at n86
    refine AWP.region_strA mixed (by kernel_rfl) [(16, i84, .row 0 ([.int .i64 0, .int .i64 0, .int .i64 0, .int .i64 0]))] [0, 1, 2, 3, 4, 5, 6, 7, 8, 9, 10, 11, 12, 13, 14, 15, 16] [(17, some [8, 9, 10, 11, 12, 13, 14, 15])] [18] (by kernel_rfl) (by kernel_rfl) ⟨n86, trivial, trivial⟩ ?_
    have e87 := ne_new h70 n86
    have z88 := Mono.free m71 n86
    refine STRN.op rfl rfl rfl (.inl ⟨rfl, fun H1 f' H' hf hN hM => AOp.move (.ptr fid 0 0) rfl ((hf 0 rfl).trans rfl) ⟨rfl, hN⟩⟩) ?_
    refine STRN.op rfl rfl rfl (.inl ⟨rfl, fun H1 f' H' hf hN hM => AOp.nilCheck (.ptr fid 0 0) rfl ((hf 29 rfl).trans rfl) rfl ⟨rfl, hN⟩⟩) ?_
    refine STRN.op rfl rfl rfl (.inl ⟨rfl, fun H1 f' H' hf hN hM => AOp.fieldAddr rfl ((hf 30 rfl).trans rfl) fl_79_1 ⟨rfl, hN⟩ (hid := ⟨_, (hM _ _ h70)⟩)⟩) ?_
    refine STRN.op rfl rfl rfl (.inl ⟨rfl, fun H1 f' H' hf hN hM => AOp.fieldAddr rfl ((hf 31 rfl).trans rfl) fl_35_0 ⟨rfl, hN⟩ (hid := ⟨_, (hM _ _ h70)⟩)⟩) ?_
    refine STRN.op rfl rfl rfl (.inl ⟨rfl, fun H1 f' H' hf hN hM => AOp.load (.sl t.ed.length (t.ed.flatMap eE)) rfl ((hf 32 rfl).trans rfl) ty_32 (hM _ _ h70) rfl ⟨rfl, hN⟩⟩) ?_
    refine STRN.op rfl rfl rfl (.inl ⟨rfl, fun H1 f' H' hf hN hM => AOp.move (.int .i64 i) rfl ((hf 1 rfl).trans rfl) ⟨rfl, hN⟩⟩) ?_
    refine STRN.op rfl rfl rfl (.inl ⟨rfl, fun H1 f' H' hf hN hM => AOp.indexAddrS rfl ((hf 33 rfl).trans rfl) ((hf 34 rfl).trans rfl) sl_32 (by omega) (by omega) ⟨rfl, hN⟩⟩) ?_
    refine STRN.op rfl rfl rfl (.inl ⟨rfl, fun H1 f' H' hf hN hM => AOp.loadF (.agg [.int .i64 ((at_ t.ed i).A), .int .i64 ((at_ t.ed i).B), .int .i64 ((at_ t.ed i).F), .int .i64 ((at_ t.ed i).G)]) rfl ((hf 35 rfl).trans rfl) ty_47 (ldM eE_len (by omega) (by omega)) ⟨rfl, hN⟩⟩) ?_
    refine STRN.op rfl rfl rfl (.inl ⟨rfl, fun H1 f' H' hf hN hM => AOp.move (.ptr fid 0 0) rfl ((hf 0 rfl).trans rfl) ⟨rfl, hN⟩⟩) ?_
    refine STRN.op rfl rfl rfl (.inl ⟨rfl, fun H1 f' H' hf hN hM => AOp.nilCheck (.ptr fid 0 0) rfl ((hf 37 rfl).trans rfl) rfl ⟨rfl, hN⟩⟩) ?_
    refine STRN.op rfl rfl rfl (.inl ⟨rfl, fun H1 f' H' hf hN hM => AOp.fieldAddr rfl ((hf 38 rfl).trans rfl) fl_79_0 ⟨rfl, hN⟩ (hid := ⟨_, (hM _ _ h70)⟩)⟩) ?_
    refine STRN.op rfl rfl rfl (.inl ⟨rfl, fun H1 f' H' hf hN hM => AOp.fieldAddr rfl ((hf 39 rfl).trans rfl) fl_26_0 ⟨rfl, hN⟩ (hid := ⟨_, (hM _ _ h70)⟩)⟩) ?_
    refine STRN.op rfl rfl rfl (.inl ⟨rfl, fun H1 f' H' hf hN hM => AOp.load (.sl vs.length (vs.flatMap eV)) rfl ((hf 40 rfl).trans rfl) ty_22 (hM _ _ h70) rfl ⟨rfl, hN⟩⟩) ?_
    refine STRN.op rfl rfl rfl (.inl ⟨rfl, fun H1 f' H' hf hN hM => AOp.len (m := vs.length) rfl ((hf 41 rfl).trans rfl) (.inr (.inl ⟨_, rfl⟩)) u_22 ⟨rfl, hN⟩⟩) ?_
    refine STRN.op rfl rfl rfl (.inl ⟨rfl, fun H1 f' H' hf hN hM => AOp.move (.int .i64 i) rfl ((hf 1 rfl).trans rfl) ⟨rfl, hN⟩⟩) ?_
    refine STRN.op rfl rfl rfl (.inl ⟨rfl, fun H1 f' H' hf hN hM => AOp.bin (.int .i64 ((vs.length : Int) + i)) rfl ((hf 42 rfl).trans rfl) ((hf 43 rfl).trans rfl) (iadd (by omega)) ⟨rfl, hN⟩⟩) ?_
    refine STRN.alloc (id := i84) (Z := [.int .i64 0, .int .i64 0, .int .i64 0, .int .i64 0]) (.head _) rfl rfl rfl rfl rfl tz_47 ?_
    refine STRN.done fun H89 m90 hu91 => ?_
    have h92 := m90 _ _ h70
    have m93 := m71.trans m90
    have h94 : H89 i84 = some (.row 0 ([.int .i64 0, .int .i64 0, .int .i64 0, .int .i64 0])) := hu91 _ (.head _)
    refine STR.st rfl rfl rfl fun f95 H96 hf97 m98 => ?_
    have h99 := m98 _ _ h92
    have h100 := m98 _ _ h94
    have m101 := m93.trans m98
    refine AOp.store' (cells' := [.int .i64 ((at_ t.ed i).A), .int .i64 ((at_ t.ed i).B), .int .i64 ((at_ t.ed i).F), .int .i64 ((at_ t.ed i).G)]) (.agg [.int .i64 ((at_ t.ed i).A), .int .i64 ((at_ t.ed i).B), .int .i64 ((at_ t.ed i).F), .int .i64 ((at_ t.ed i).G)]) ((hf97 6 rfl).trans rfl) ((hf97 36 rfl).trans rfl) ts_47 h100 rfl rfl rfl rfl ?_
    intro H102 h103 k104
    have h105 := keep k104 e87 h99
    have m107 := Mono.set m101 z88 k104
    refine ⟨rfl, .inr (RevR.skip rfl (RevR.cons rfl (.inl ⟨rfl, fun H1 f' H' hf hN hM => AOp.bin (.int .i64 ((vs.length : Int) + i)) rfl ((hf 42 rfl).trans rfl) ((hf 43 rfl).trans rfl) (iadd (by omega)) ⟨rfl, hN⟩⟩) (RevR.cons rfl (.inl ⟨rfl, fun H1 f' H' hf hN hM => AOp.move (.int .i64 i) rfl ((hf 1 rfl).trans rfl) ⟨rfl, hN⟩⟩) (RevR.cons rfl (.inl ⟨rfl, fun H1 f' H' hf hN hM => AOp.len (m := vs.length) rfl ((hf 41 rfl).trans rfl) (.inr (.inl ⟨_, rfl⟩)) u_22 ⟨rfl, hN⟩⟩) (RevR.cons rfl (.inl ⟨rfl, fun H1 f' H' hf hN hM => AOp.load (.sl vs.length (vs.flatMap eV)) rfl ((hf 40 rfl).trans rfl) ty_22 (hM _ _ h105) rfl ⟨rfl, hN⟩⟩) (RevR.cons rfl (.inl ⟨rfl, fun H1 f' H' hf hN hM => AOp.fieldAddr rfl ((hf 39 rfl).trans rfl) fl_26_0 ⟨rfl, hN⟩ (hid := ⟨_, (hM _ _ h105)⟩)⟩) (RevR.cons rfl (.inl ⟨rfl, fun H1 f' H' hf hN hM => AOp.fieldAddr rfl ((hf 38 rfl).trans rfl) fl_79_0 ⟨rfl, hN⟩ (hid := ⟨_, (hM _ _ h105)⟩)⟩) (RevR.cons rfl (.inl ⟨rfl, fun H1 f' H' hf hN hM => AOp.nilCheck (.ptr fid 0 0) rfl ((hf 37 rfl).trans rfl) rfl ⟨rfl, hN⟩⟩) (RevR.cons rfl (.inl ⟨rfl, fun H1 f' H' hf hN hM => AOp.move (.ptr fid 0 0) rfl ((hf 0 rfl).trans rfl) ⟨rfl, hN⟩⟩) (RevR.skip rfl (RevR.skip rfl (RevR.skip rfl (RevR.skip rfl (RevR.skip rfl (RevR.skip rfl (RevR.skip rfl (RevR.skip rfl RevR.nil))))))))))))))))), ?_⟩
    refine STR.done fun H108 m109 => ?_
    have h110 := m109 _ _ h105
    have h111 := m109 _ _ h103
    have m112 := m107.trans m109
    refine AOps.cons rfl rfl (AOp.assign (.int .i64 ((vs.length : Int) + i)) rfl rfl ?_)
    refine AOps.nil ?_
    change AWP _ _ _ _ _ _
    refine AWP.seq ?_
    refine AWP.frzP 6 h111 z88 rfl m112 fun H113 m114 k115 => ?_
    have h116 := (k115 _ e87).trans h110
    refine AWP.region (l := [0, 1, 2, 3, 4, 5, 6, 7, 8, 9, 10, 11]) rfl ?_
    refine AOps.cons rfl rfl (AOp.fieldAddrF rfl rfl fl_47_0 ?_)
    refine AOps.cons rfl rfl (AOp.loadF (.int .i64 ((at_ t.ed i).A)) rfl rfl ty_3 rfl ?_)
    refine AOps.cons rfl rfl (AOp.move (.int .i64 ((vs.length : Int) + i)) rfl rfl ?_)
    refine AOps.cons rfl rfl (AOp.move (.int .i64 (at_ sh i - 1)) rfl rfl ?_)
    refine AOps.cons rfl rfl (AOp.build (cells := [.int .i64 ((at_ t.ed i).A), .int .i64 ((vs.length : Int) + i), .int .i64 (at_ sh i - 1)]) rfl tz_53 pl_53 rfl rfl ?_)
    refine AOps.cons rfl rfl (AOp.fieldAddrF rfl rfl fl_47_1 ?_)
    refine AOps.cons rfl rfl (AOp.loadF (.int .i64 ((at_ t.ed i).B)) rfl rfl ty_3 rfl ?_)
    refine AOps.cons rfl rfl (AOp.move (.int .i64 ((vs.length : Int) + i)) rfl rfl ?_)
    refine AOps.cons rfl rfl (AOp.move (.int .i64 (at_ sh i - 1)) rfl rfl ?_)
    refine AOps.cons rfl rfl (AOp.build (cells := [.int .i64 ((at_ t.ed i).B), .int .i64 ((vs.length : Int) + i), .int .i64 (at_ sh i - 1)]) rfl tz_53 pl_53 rfl rfl ?_)
    refine AOps.cons rfl rfl (AOp.buildSlice (cells := [.int .i64 ((at_ t.ed i).A), .int .i64 ((vs.length : Int) + i), .int .i64 (at_ sh i - 1), .int .i64 ((at_ t.ed i).B), .int .i64 ((vs.length : Int) + i), .int .i64 (at_ sh i - 1)]) rfl u_24 ts_53 tz_53 rfl rfl rfl ?_)
    intro i117 H118 n119 h120 k121
    have e122 := ne_new h116 n119
    have z123 := Mono.free m114 n119
    have h124 := keep k121 (ne_new h116 n119) h116
    have m125 := Mono.new m114 n119 k121
    refine AOps.cons rfl rfl (AOp.assign (.slm i117 0 3 0 2) rfl rfl ?_)
    refine AOps.nil ?_
    change AWP _ _ _ _ _ _
    refine AWP.ret ?_
    obtain ⟨v126, e127⟩ : ∃ v : AV, v = .slm i117 0 3 0 2 := ⟨_, rfl⟩
    have o128 : Own H0 H118 3 v126 2 [.int .i64 ((at_ t.ed i).A), .int .i64 ((vs.length : Int) + i), .int .i64 (at_ sh i - 1), .int .i64 ((at_ t.ed i).B), .int .i64 ((vs.length : Int) + i), .int .i64 (at_ sh i - 1)] := .inr ⟨_, _, e127, h120, z123, rfl⟩
    have no129 : NotId v126 fid := by rw [e127]; exact NotId.slm e122
    refine Fin.frz 4 (o128) e127.symm m125 fun H130 m131 k132 => ?_
    have h133 := (k132 _ no129).trans h124
    refine ⟨_, _, Ghost.refl, .inr rfl, _, Res.one rfl rfl, ?_, m131⟩
    exact (congrArg (fun l : List CrT => AV.sl l.length (l.flatMap eCr)) (show (([(CrT.mk ((at_ t.ed i).A) ((vs.length : Int) + i) (at_ sh i - 1)), (CrT.mk ((at_ t.ed i).B) ((vs.length : Int) + i) (at_ sh i - 1))] : List CrT) : List CrT) = creaseP vs.length t sh i from by (have hls : lessS (at_ sh i) = at_ sh i - 1 := (by unfold lessS; rw [if_neg b1]); unfold creaseP; rw [if_neg (by rw [hls]; exact fun h => h.elim (fun h => by rw [b72] at h; cases h) b77), hls])))
theorem c_parts {H0 : Heap} {fid : Nat} (vs : List VT) (fs : List (List Int)) (cr : List CrT) (t : Tp) (sh : List Int) {x7 x8 : AV} (k : Int) (f : List Int) (hk : 0 ≤ k ∧ k ≤ 1048576) (hfl : f.length ≤ 1048576) (hel : t.ed.length ≤ 1048576) (hvl : vs.length ≤ 1048576) (hse : SortedE t.ed) (hr : H0 fid = some (.row 0 [.sl vs.length (vs.flatMap eV), .sl fs.length (fs.map eF), .sl cr.length (cr.flatMap eCr), .sl t.ed.length (t.ed.flatMap eE), .sl t.fan.length (t.fan.map eF), .sl t.rnd.length (t.rnd.map eBo), .sl sh.length (sh.map eI), x7, x8])) : ACalls Try.prog 39 [.ptr fid 0 0, .int .i64 k, .sl f.length (f.map eI)] H0 fun r H' => r = (.sl (partsU (vs.length : Int) t k f f.length).length ((partsU (vs.length : Int) t k f f.length).map eF)) ∧ Mono H0 H' := by
 refine ACalls.of_body' (n := 88) rfl rfl rfl rfl ?_
 have m0 := Mono.refl H0
 refine AWP.seq ?_
 refine AWP.region (l := [0]) rfl ?_
 refine AOps.cons rfl rfl (AOp.assign (.snil) rfl rfl ?_)
 refine AOps.nil ?_
 change AWP _ _ _ _ _ _
 refine AWP.seq ?_
 refine AWP.region (l := [0, 1, 2, 3, 4, 5, 6]) rfl ?_
 refine AOps.cons rfl rfl (AOp.move (.ptr fid 0 0) rfl rfl ?_)
 refine AOps.cons rfl rfl (AOp.nilCheck (.ptr fid 0 0) rfl rfl rfl ?_)
 refine AOps.cons rfl rfl (AOp.fieldAddr rfl rfl fl_79_0 ?_ (hid := ⟨_, hr⟩))
 refine AOps.cons rfl rfl (AOp.fieldAddr rfl rfl fl_26_0 ?_ (hid := ⟨_, hr⟩))
 refine AOps.cons rfl rfl (AOp.load (.sl vs.length (vs.flatMap eV)) rfl rfl ty_22 hr rfl ?_)
 refine AOps.cons rfl rfl (AOp.len (m := vs.length) rfl rfl (.inr (.inl ⟨_, rfl⟩)) u_22 ?_)
 refine AOps.cons rfl rfl (AOp.assign (.int .i64 (vs.length : Int)) rfl rfl ?_)
 refine AOps.nil ?_
 change AWP _ _ _ _ _ _
 refine AWP.seq ?_
 refine AWP.region (l := [0]) rfl ?_
 refine AOps.cons rfl rfl (AOp.assign (.snil) rfl rfl ?_)
 refine AOps.nil ?_
 change AWP _ _ _ _ _ _
 refine AWP.seq ?_
 refine AWP.seq ?_
 refine AWP.region (l := [0, 1, 2]) rfl ?_
 refine AOps.cons rfl rfl (AOp.move (.sl f.length (f.map eI)) rfl rfl ?_)
 refine AOps.cons rfl rfl (AOp.len (m := f.length) rfl rfl (.inr (.inl ⟨_, rfl⟩)) u_38 ?_)
 refine AOps.cons rfl rfl (AOp.move (.int .i64 0) rfl rfl ?_)
 refine AOps.nil ?_
 change AWP _ _ _ _ _ _
 refine AWP.block ?_
 refine AWP.loop (fun q1 fq Hq => ∃ (i : Int) (w8 : AV), q1 = (((f.length : Int) : Int) - i).toNat ∧ fq 23 = .int .i64 i ∧ fq 0 = .ptr fid 0 0 ∧ fq 1 = .int .i64 k ∧ fq 2 = .sl f.length (f.map eI) ∧ fq 6 = .snil ∧ fq 7 = .int .i64 (vs.length : Int) ∧ fq 21 = .sl f.length (f.map eI) ∧ fq 22 = .int .i64 (f.length : Int) ∧ fq 8 = w8 ∧ Own H0 Hq 1 w8 (partsU (vs.length : Int) t k f i).length ((partsU (vs.length : Int) t k f i).map eF) ∧ NotId w8 fid ∧ Hq fid = some (.row 0 ([.sl vs.length (vs.flatMap eV), .sl fs.length (fs.map eF), .sl cr.length (cr.flatMap eCr), .sl t.ed.length (t.ed.flatMap eE), .sl t.fan.length (t.fan.map eF), .sl t.rnd.length (t.rnd.map eBo), .sl sh.length (sh.map eI), x7, x8])) ∧ Mono H0 Hq ∧ (0 ≤ i) ∧ (i ≤ (f.length : Int))) (k := (((f.length : Int) : Int) - 0).toNat) ?_ ?_
 ·
  exact ⟨0, .snil, rfl, rfl, rfl, rfl, rfl, rfl, rfl, rfl, rfl, rfl, Own.nil _ _ _, (NotId.nil _), hr, m0, by omega, by omega⟩
 ·
  rintro _ f3 H2 ⟨i, w8, rfl, s4, s5, s6, s7, s8, s9, s10, s11, s12, o13, no14, h15, m16, hi0, hi1⟩
  refine AWP.seq ?_
  refine AWP.region (l := [0]) rfl ?_
  refine AOps.cons rfl rfl (AOp.bin (.bool (decide (i < (f.length : Int)))) rfl s4 s11 rfl ?_)
  refine AOps.nil ?_
  change AWP _ _ _ _ _ _
  refine AWP.seq ?_
  by_cases b17 : i < (f.length : Int)
  ·
   refine AWP.condT rfl (decide_eq_true b17) ?_
   refine AWP.skip ?_
   change AWP _ _ _ _ _ _
   refine AWP.seq ?_
   refine AWP.block ?_
   refine AWP.seq ?_
   refine AWP.region (l := [0, 1, 2, 3, 4]) rfl ?_
   refine AOps.cons rfl rfl (AOp.move (.int .i64 i) rfl s4 ?_)
   refine AOps.cons rfl rfl (AOp.indexAddrS rfl s10 s4 sl_38 (by omega) (by omega) ?_)
   refine AOps.cons rfl rfl (AOp.loadF (.int .i64 (at_ f i)) rfl rfl ty_3 (ld1 (by omega) (by omega)) ?_)
   refine AOps.cons rfl rfl (AOp.assign (.int .i64 i) rfl rfl ?_)
   refine AOps.cons rfl rfl (AOp.assign (.int .i64 (at_ f i)) rfl rfl ?_)
   refine AOps.nil ?_
   change AWP _ _ _ _ _ _
   refine AWP.seq ?_
   have hm1 := mod_in (x := i + 1) (y := (f.length : Int)) (by omega)
   refine AWP.region_quiet mixed (by kernel_rfl) 19 [] rfl (by kernel_rfl) (Mono H2) (Mono.refl _) ?_
   refine QE.op rfl rfl (.inl ⟨rfl, fun f' H' hf hM => AOp.move (.ptr fid 0 0) rfl ((hf 0 rfl).trans s5) ⟨rfl, hM⟩⟩) ?_
   refine QE.op rfl rfl (.inl ⟨rfl, fun f' H' hf hM => AOp.nilCheck (.ptr fid 0 0) rfl ((hf 29 rfl).trans rfl) rfl ⟨rfl, hM⟩⟩) ?_
   refine QE.op rfl rfl (.inl ⟨rfl, fun f' H' hf hM => AOp.fieldAddr rfl ((hf 30 rfl).trans rfl) fl_79_1 ⟨rfl, hM⟩ (hid := ⟨_, (hM _ _ h15)⟩)⟩) ?_
   refine QE.op rfl rfl (.inl ⟨rfl, fun f' H' hf hM => AOp.load (.agg [.sl t.ed.length (t.ed.flatMap eE), .sl t.fan.length (t.fan.map eF), .sl t.rnd.length (t.rnd.map eBo)]) rfl ((hf 31 rfl).trans rfl) ty_35 (hM _ _ h15) rfl ⟨rfl, hM⟩⟩) ?_
   refine QE.op rfl rfl (.inl ⟨rfl, fun f' H' hf hM => AOp.move (.int .i64 (at_ f i)) rfl ((hf 10 rfl).trans rfl) ⟨rfl, hM⟩⟩) ?_
   refine QE.op rfl rfl (.inl ⟨rfl, fun f' H' hf hM => AOp.move (.sl f.length (f.map eI)) rfl ((hf 2 rfl).trans s7) ⟨rfl, hM⟩⟩) ?_
   refine QE.op rfl rfl (.inl ⟨rfl, fun f' H' hf hM => AOp.move (.int .i64 i) rfl ((hf 9 rfl).trans rfl) ⟨rfl, hM⟩⟩) ?_
   refine QE.op rfl rfl (.inl ⟨rfl, fun f' H' hf hM => AOp.bin (.int .i64 (i + 1)) rfl ((hf 35 rfl).trans rfl) rfl (iadd (by omega)) ⟨rfl, hM⟩⟩) ?_
   refine QE.op rfl rfl (.inl ⟨rfl, fun f' H' hf hM => AOp.move (.sl f.length (f.map eI)) rfl ((hf 2 rfl).trans s7) ⟨rfl, hM⟩⟩) ?_
   refine QE.op rfl rfl (.inl ⟨rfl, fun f' H' hf hM => AOp.len (m := f.length) rfl ((hf 37 rfl).trans rfl) (.inr (.inl ⟨_, rfl⟩)) u_38 ⟨rfl, hM⟩⟩) ?_
   have r18 := mod_in (x := i + 1) (y := (f.length : Int)) (by omega)
   refine QE.op rfl rfl (.inl ⟨rfl, fun f' H' hf hM => AOp.remP rfl ((hf 36 rfl).trans rfl) ((hf 38 rfl).trans rfl) (by omega) (by omega) ⟨rfl, hM⟩⟩) ?_
   refine QE.op rfl rfl (.inl ⟨rfl, fun f' H' hf hM => AOp.indexAddrS rfl ((hf 34 rfl).trans rfl) ((hf 39 rfl).trans rfl) sl_38 (by omega) (by omega) ⟨rfl, hM⟩⟩) ?_
   refine QE.op rfl rfl (.inl ⟨rfl, fun f' H' hf hM => AOp.loadF (.int .i64 (at_ f ((i + 1) % (f.length : Int)))) rfl ((hf 40 rfl).trans rfl) ty_3 (ld1 (by omega) (by omega)) ⟨rfl, hM⟩⟩) ?_
   refine QE.op rfl rfl (.inl ⟨rfl, fun f' H' hf hM => AOp.pcall («as» := [.agg [.sl t.ed.length (t.ed.flatMap eE), .sl t.fan.length (t.fan.map eF), .sl t.rnd.length (t.rnd.map eBo)], .int .i64 (at_ f i), .int .i64 (at_ f ((i + 1) % (f.length : Int)))]) rfl rfl (lapp (lcons ((hf 32 rfl).trans rfl) (lcons ((hf 33 rfl).trans rfl) (lcons ((hf 41 rfl).trans rfl) rfl))) rfl) tf_44 (c19 _ _ _ (by omega) (by assumption)) fun H2 m2 => ⟨rfl, hM.trans m2⟩⟩) ?_
   refine QE.op rfl rfl (.inl ⟨rfl, fun f' H' hf hM => AOp.move (.tup [.int .i64 (optI (findS t (at_ f i) (at_ f ((i + 1) % (f.length : Int))))), .bool ((findS t (at_ f i) (at_ f ((i + 1) % (f.length : Int)))).isSome)]) rfl ((hf 42 rfl).trans rfl) ⟨rfl, hM⟩⟩) ?_
   refine QE.op rfl rfl (.inl ⟨rfl, fun f' H' hf hM => AOp.extract (.int .i64 (optI (findS t (at_ f i) (at_ f ((i + 1) % (f.length : Int)))))) rfl ((hf 28 rfl).trans rfl) rfl ⟨rfl, hM⟩⟩) ?_
   refine QE.op rfl rfl (.inl ⟨rfl, fun f' H' hf hM => AOp.extract (.bool ((findS t (at_ f i) (at_ f ((i + 1) % (f.length : Int)))).isSome)) rfl ((hf 28 rfl).trans rfl) rfl ⟨rfl, hM⟩⟩) ?_
   refine QE.op rfl rfl (.inl ⟨rfl, fun f' H' hf hM => AOp.assign (.int .i64 (optI (findS t (at_ f i) (at_ f ((i + 1) % (f.length : Int)))))) rfl ((hf 43 rfl).trans rfl) ⟨rfl, hM⟩⟩) ?_
   refine QE.op rfl rfl (.inl ⟨rfl, fun f' H' hf hM => AOp.assign (.bool ((findS t (at_ f i) (at_ f ((i + 1) % (f.length : Int)))).isSome)) rfl ((hf 44 rfl).trans rfl) ⟨rfl, hM⟩⟩) ?_
   refine QE.done fun H19 m20 => ?_
   have h21 := m20 _ _ h15
   have o22 := Own.mono o13 m20
   have m23 := m16.trans m20
   refine AOps.nil ?_
   change AWP _ _ _ _ _ _
   refine AWP.seq ?_
   have hm2 := mod_in (x := i + (f.length : Int) - 1) (y := (f.length : Int)) (by omega)
   refine AWP.region_quiet mixed (by kernel_rfl) 22 [] rfl (by kernel_rfl) (Mono H19) (Mono.refl _) ?_
   refine QE.op rfl rfl (.inl ⟨rfl, fun f' H' hf hM => AOp.move (.ptr fid 0 0) rfl ((hf 0 rfl).trans s5) ⟨rfl, hM⟩⟩) ?_
   refine QE.op rfl rfl (.inl ⟨rfl, fun f' H' hf hM => AOp.nilCheck (.ptr fid 0 0) rfl ((hf 46 rfl).trans rfl) rfl ⟨rfl, hM⟩⟩) ?_
   refine QE.op rfl rfl (.inl ⟨rfl, fun f' H' hf hM => AOp.fieldAddr rfl ((hf 47 rfl).trans rfl) fl_79_1 ⟨rfl, hM⟩ (hid := ⟨_, (hM _ _ h21)⟩)⟩) ?_
   refine QE.op rfl rfl (.inl ⟨rfl, fun f' H' hf hM => AOp.load (.agg [.sl t.ed.length (t.ed.flatMap eE), .sl t.fan.length (t.fan.map eF), .sl t.rnd.length (t.rnd.map eBo)]) rfl ((hf 48 rfl).trans rfl) ty_35 (hM _ _ h21) rfl ⟨rfl, hM⟩⟩) ?_
   refine QE.op rfl rfl (.inl ⟨rfl, fun f' H' hf hM => AOp.move (.int .i64 (at_ f i)) rfl ((hf 10 rfl).trans rfl) ⟨rfl, hM⟩⟩) ?_
   refine QE.op rfl rfl (.inl ⟨rfl, fun f' H' hf hM => AOp.move (.sl f.length (f.map eI)) rfl ((hf 2 rfl).trans s7) ⟨rfl, hM⟩⟩) ?_
   refine QE.op rfl rfl (.inl ⟨rfl, fun f' H' hf hM => AOp.move (.int .i64 i) rfl ((hf 9 rfl).trans rfl) ⟨rfl, hM⟩⟩) ?_
   refine QE.op rfl rfl (.inl ⟨rfl, fun f' H' hf hM => AOp.move (.sl f.length (f.map eI)) rfl ((hf 2 rfl).trans s7) ⟨rfl, hM⟩⟩) ?_
   refine QE.op rfl rfl (.inl ⟨rfl, fun f' H' hf hM => AOp.len (m := f.length) rfl ((hf 53 rfl).trans rfl) (.inr (.inl ⟨_, rfl⟩)) u_38 ⟨rfl, hM⟩⟩) ?_
   refine QE.op rfl rfl (.inl ⟨rfl, fun f' H' hf hM => AOp.bin (.int .i64 (i + (f.length : Int))) rfl ((hf 52 rfl).trans rfl) ((hf 54 rfl).trans rfl) (iadd (by omega)) ⟨rfl, hM⟩⟩) ?_
   refine QE.op rfl rfl (.inl ⟨rfl, fun f' H' hf hM => AOp.bin (.int .i64 (i + (f.length : Int) - 1)) rfl ((hf 55 rfl).trans rfl) rfl (isub (by omega)) ⟨rfl, hM⟩⟩) ?_
   refine QE.op rfl rfl (.inl ⟨rfl, fun f' H' hf hM => AOp.move (.sl f.length (f.map eI)) rfl ((hf 2 rfl).trans s7) ⟨rfl, hM⟩⟩) ?_
   refine QE.op rfl rfl (.inl ⟨rfl, fun f' H' hf hM => AOp.len (m := f.length) rfl ((hf 57 rfl).trans rfl) (.inr (.inl ⟨_, rfl⟩)) u_38 ⟨rfl, hM⟩⟩) ?_
   have r24 := mod_in (x := i + (f.length : Int) - 1) (y := (f.length : Int)) (by omega)
   refine QE.op rfl rfl (.inl ⟨rfl, fun f' H' hf hM => AOp.remP rfl ((hf 56 rfl).trans rfl) ((hf 58 rfl).trans rfl) (by omega) (by omega) ⟨rfl, hM⟩⟩) ?_
   refine QE.op rfl rfl (.inl ⟨rfl, fun f' H' hf hM => AOp.indexAddrS rfl ((hf 51 rfl).trans rfl) ((hf 59 rfl).trans rfl) sl_38 (by omega) (by omega) ⟨rfl, hM⟩⟩) ?_
   refine QE.op rfl rfl (.inl ⟨rfl, fun f' H' hf hM => AOp.loadF (.int .i64 (at_ f ((i + (f.length : Int) - 1) % (f.length : Int)))) rfl ((hf 60 rfl).trans rfl) ty_3 (ld1 (by omega) (by omega)) ⟨rfl, hM⟩⟩) ?_
   refine QE.op rfl rfl (.inl ⟨rfl, fun f' H' hf hM => AOp.pcall («as» := [.agg [.sl t.ed.length (t.ed.flatMap eE), .sl t.fan.length (t.fan.map eF), .sl t.rnd.length (t.rnd.map eBo)], .int .i64 (at_ f i), .int .i64 (at_ f ((i + (f.length : Int) - 1) % (f.length : Int)))]) rfl rfl (lapp (lcons ((hf 49 rfl).trans rfl) (lcons ((hf 50 rfl).trans rfl) (lcons ((hf 61 rfl).trans rfl) rfl))) rfl) tf_44 (c19 _ _ _ (by omega) (by assumption)) fun H2 m2 => ⟨rfl, hM.trans m2⟩⟩) ?_
   refine QE.op rfl rfl (.inl ⟨rfl, fun f' H' hf hM => AOp.move (.tup [.int .i64 (optI (findS t (at_ f i) (at_ f ((i + (f.length : Int) - 1) % (f.length : Int))))), .bool ((findS t (at_ f i) (at_ f ((i + (f.length : Int) - 1) % (f.length : Int)))).isSome)]) rfl ((hf 62 rfl).trans rfl) ⟨rfl, hM⟩⟩) ?_
   refine QE.op rfl rfl (.inl ⟨rfl, fun f' H' hf hM => AOp.extract (.int .i64 (optI (findS t (at_ f i) (at_ f ((i + (f.length : Int) - 1) % (f.length : Int)))))) rfl ((hf 45 rfl).trans rfl) rfl ⟨rfl, hM⟩⟩) ?_
   refine QE.op rfl rfl (.inl ⟨rfl, fun f' H' hf hM => AOp.extract (.bool ((findS t (at_ f i) (at_ f ((i + (f.length : Int) - 1) % (f.length : Int)))).isSome)) rfl ((hf 45 rfl).trans rfl) rfl ⟨rfl, hM⟩⟩) ?_
   refine QE.op rfl rfl (.inl ⟨rfl, fun f' H' hf hM => AOp.assign (.int .i64 (optI (findS t (at_ f i) (at_ f ((i + (f.length : Int) - 1) % (f.length : Int)))))) rfl ((hf 63 rfl).trans rfl) ⟨rfl, hM⟩⟩) ?_
   refine QE.op rfl rfl (.inl ⟨rfl, fun f' H' hf hM => AOp.assign (.bool ((findS t (at_ f i) (at_ f ((i + (f.length : Int) - 1) % (f.length : Int)))).isSome)) rfl ((hf 64 rfl).trans rfl) ⟨rfl, hM⟩⟩) ?_
   refine QE.done fun H25 m26 => ?_
   have h27 := m26 _ _ h21
   have o28 := Own.mono o22 m26
   have m29 := m23.trans m26
   refine AOps.nil ?_
   change AWP _ _ _ _ _ _
   have hl1 := find_lt (t := t) (a := at_ f i) (b := at_ f ((i + 1) % (f.length : Int)))
   have hl2 := find_lt (t := t) (a := at_ f i) (b := at_ f ((i + (f.length : Int) - 1) % (f.length : Int)))
   have hpl := partsU_len (n := vs.length) (t := t) (k := k) (f := f) (i := i)
   refine AWP.region (l := [0, 1, 2, 3, 4, 5, 6, 7, 8, 9, 10, 11, 12, 13, 14, 15, 16, 17, 18, 19, 20, 21]) rfl ?_
   refine AOps.cons rfl rfl (AOp.move (w8) rfl s12 ?_)
   refine AOps.cons rfl rfl (AOp.move (.int .i64 (at_ f i)) rfl rfl ?_)
   refine AOps.cons rfl rfl (AOp.move (.int .i64 (vs.length : Int)) rfl s9 ?_)
   refine AOps.cons rfl rfl (AOp.move (.int .i64 (optI (findS t (at_ f i) (at_ f ((i + 1) % (f.length : Int)))))) rfl rfl ?_)
   refine AOps.cons rfl rfl (AOp.bin (.int .i64 ((vs.length : Int) + (optI (findS t (at_ f i) (at_ f ((i + 1) % (f.length : Int))))))) rfl rfl rfl (iadd (by omega)) ?_)
   refine AOps.cons rfl rfl (AOp.move (.int .i64 (vs.length : Int)) rfl s9 ?_)
   refine AOps.cons rfl rfl (AOp.move (.ptr fid 0 0) rfl s5 ?_)
   refine AOps.cons rfl rfl (AOp.nilCheck (.ptr fid 0 0) rfl rfl rfl ?_)
   refine AOps.cons rfl rfl (AOp.fieldAddr rfl rfl fl_79_1 ?_ (hid := ⟨_, h27⟩))
   refine AOps.cons rfl rfl (AOp.fieldAddr rfl rfl fl_35_0 ?_ (hid := ⟨_, h27⟩))
   refine AOps.cons rfl rfl (AOp.load (.sl t.ed.length (t.ed.flatMap eE)) rfl rfl ty_32 h27 rfl ?_)
   refine AOps.cons rfl rfl (AOp.len (m := t.ed.length) rfl rfl (.inr (.inl ⟨_, rfl⟩)) u_32 ?_)
   refine AOps.cons rfl rfl (AOp.bin (.int .i64 ((vs.length : Int) + (t.ed.length : Int))) rfl rfl rfl (iadd (by omega)) ?_)
   refine AOps.cons rfl rfl (AOp.move (.int .i64 k) rfl s6 ?_)
   refine AOps.cons rfl rfl (AOp.bin (.int .i64 ((vs.length : Int) + (t.ed.length : Int) + k)) rfl rfl rfl (iadd (by omega)) ?_)
   refine AOps.cons rfl rfl (AOp.move (.int .i64 (vs.length : Int)) rfl s9 ?_)
   refine AOps.cons rfl rfl (AOp.move (.int .i64 (optI (findS t (at_ f i) (at_ f ((i + (f.length : Int) - 1) % (f.length : Int)))))) rfl rfl ?_)
   refine AOps.cons rfl rfl (AOp.bin (.int .i64 ((vs.length : Int) + (optI (findS t (at_ f i) (at_ f ((i + (f.length : Int) - 1) % (f.length : Int))))))) rfl rfl rfl (iadd (by omega)) ?_)
   refine AOps.cons rfl rfl (AOp.buildSlice (cells := [.int .i64 (at_ f i), .int .i64 ((vs.length : Int) + (optI (findS t (at_ f i) (at_ f ((i + 1) % (f.length : Int)))))), .int .i64 ((vs.length : Int) + (t.ed.length : Int) + k), .int .i64 ((vs.length : Int) + (optI (findS t (at_ f i) (at_ f ((i + (f.length : Int) - 1) % (f.length : Int))))))]) rfl u_38 ts_3 tz_3 rfl rfl rfl ?_)
   intro i30 H31 n32 h33 k34
   have e35 := ne_new h27 n32
   have z36 := Mono.free m29 n32
   have h37 := keep k34 (ne_new h27 n32) h27
   have o38 := Own.keep o28 k34 (Own.notnew o28 n32)
   have no39 := Own.notnew o28 n32
   have m40 := Mono.new m29 n32 k34
   obtain ⟨v41, e42⟩ : ∃ v : AV, v = .slm i30 0 1 0 4 := ⟨_, rfl⟩
   have o43 : Own H0 H31 1 v41 4 [.int .i64 (at_ f i), .int .i64 ((vs.length : Int) + (optI (findS t (at_ f i) (at_ f ((i + 1) % (f.length : Int)))))), .int .i64 ((vs.length : Int) + (t.ed.length : Int) + k), .int .i64 ((vs.length : Int) + (optI (findS t (at_ f i) (at_ f ((i + (f.length : Int) - 1) % (f.length : Int))))))] := .inr ⟨_, _, e42, h33, z36, rfl⟩
   have no44 : NotId v41 fid := by rw [e42]; exact NotId.slm e35
   have sp45 : Sep v41 w8 := by rw [e42]; exact Sep.ofNotId no39
   refine AOps.cons rfl rfl ?_
   refine AOp.frz 83 (o43) e42.symm m40 fun H46 m47 k48 => ?_
   have h49 := (k48 _ no44).trans h37
   have o50 := Own.stay o38 (Sep.symm sp45) (fun i hi _ => k48 i hi)
   refine AOp.buildSlice (cells := [.sl ([at_ f i, (vs.length : Int) + (optI (findS t (at_ f i) (at_ f ((i + 1) % (f.length : Int))))), (vs.length : Int) + (t.ed.length : Int) + k, (vs.length : Int) + (optI (findS t (at_ f i) (at_ f ((i + (f.length : Int) - 1) % (f.length : Int)))))] : List Int).length (([at_ f i, (vs.length : Int) + (optI (findS t (at_ f i) (at_ f ((i + 1) % (f.length : Int))))), (vs.length : Int) + (t.ed.length : Int) + k, (vs.length : Int) + (optI (findS t (at_ f i) (at_ f ((i + (f.length : Int) - 1) % (f.length : Int)))))] : List Int).map eI)]) rfl u_23 ts_38 tz_38 rfl rfl rfl ?_
   intro i51 H52 n53 h54 k55
   have e56 := ne_new h49 n53
   have z57 := Mono.free m47 n53
   have h58 := keep k55 (ne_new h49 n53) h49
   have o59 := Own.keep o50 k55 (Own.notnew o50 n53)
   have no60 := Own.notnew o50 n53
   have m61 := Mono.new m47 n53 k55
   refine AOps.cons rfl rfl (AOp.append_own (es := 1) (m := 1) (len := ((partsU (vs.length : Int) t k f i).length)) (old := (partsU (vs.length : Int) t k f i).map eF) (cells := [.sl ([at_ f i, (vs.length : Int) + (optI (findS t (at_ f i) (at_ f ((i + 1) % (f.length : Int))))), (vs.length : Int) + (t.ed.length : Int) + k, (vs.length : Int) + (optI (findS t (at_ f i) (at_ f ((i + (f.length : Int) - 1) % (f.length : Int)))))] : List Int).length (([at_ f i, (vs.length : Int) + (optI (findS t (at_ f i) (at_ f ((i + 1) % (f.length : Int))))), (vs.length : Int) + (t.ed.length : Int) + k, (vs.length : Int) + (optI (findS t (at_ f i) (at_ f ((i + (f.length : Int) - 1) % (f.length : Int)))))] : List Int).map eI)]) rfl u_23 ts_38 tzn_38 tb_38 (by decide) ni_23 rfl o59 m61 rfl (.slm h54 rfl) (one_of rfl) (by decide) (by first | omega | (simp; omega)) ?_)
   intro v62 H63 o64 m65 k66 j67
   have o68 := Own.snoc1 (xs := ((partsU (vs.length : Int) t k f i) : List (List Int))) (y := ([at_ f i, (vs.length : Int) + (optI (findS t (at_ f i) (at_ f ((i + 1) % (f.length : Int))))), (vs.length : Int) + (t.ed.length : Int) + k, (vs.length : Int) + (optI (findS t (at_ f i) (at_ f ((i + (f.length : Int) - 1) % (f.length : Int)))))] : List Int)) (e := eF) (by simp) o64
   have h69 := (k66 _ no14 (by rw [h58]; simp)).trans h58
   have no70 := j67 _ no14 (by rw [h58]; simp)
   refine AOps.cons rfl rfl (AOp.assign (v62) rfl rfl ?_)
   refine AOps.nil ?_
   change AWP _ _ _ _ _ _
   refine AWP.region (l := [0, 1]) rfl ?_
   refine AOps.cons rfl rfl (AOp.bin (.int .i64 (i + 1)) rfl s4 rfl (iadd (by omega)) ?_)
   refine AOps.cons rfl rfl (AOp.move (.int .i64 (i + 1)) rfl rfl ?_)
   refine AOps.nil ?_
   exact ⟨_, by omega, i + 1, v62, rfl, rfl, s5, s6, s7, s8, s9, s10, s11, rfl, (have hx : (((partsU (vs.length : Int) t k f i) ++ [([at_ f i, (vs.length : Int) + (optI (findS t (at_ f i) (at_ f ((i + 1) % (f.length : Int))))), (vs.length : Int) + (t.ed.length : Int) + k, (vs.length : Int) + (optI (findS t (at_ f i) (at_ f ((i + (f.length : Int) - 1) % (f.length : Int)))))] : List Int)]) : List (List Int)) = partsU (vs.length : Int) t k f (i + 1) := (by exact partsU_step hi0); Own.re o68 (congrArg List.length hx) (congrArg (fun l : List (List Int) => l.map eF) hx)), no70, h69, m65, by omega, by omega⟩
  ·
   refine AWP.condF rfl (decide_eq_false b17) ?_
   refine AWP.exit ?_
   change AWP _ _ _ _ _ _
   refine AWP.seq ?_
   refine AWP.region (l := [0, 1]) rfl ?_
   refine AOps.cons rfl rfl (AOp.move (w8) rfl s12 ?_)
   refine AOps.cons rfl rfl (AOp.assign (w8) rfl rfl ?_)
   refine AOps.nil ?_
   change AWP _ _ _ _ _ _
   refine AWP.ret ?_
   refine Fin.frz 6 o13 rfl m16 fun H71 m72 k73 => ?_
   have h74 := (k73 _ no14).trans h15
   refine ⟨_, _, Ghost.refl, .inr rfl, _, Res.one rfl rfl, ?_, m72⟩
   exact (congrArg (fun l : List (List Int) => AV.sl l.length (l.map eF)) (show ((partsU (vs.length : Int) t k f i) : List (List Int)) = partsU (vs.length : Int) t k f f.length from by congr 1; omega))
theorem c_Sharp (vs : List VT) (fs : List (List Int)) (cr : List CrT) (t : Tp) (hcl : cr.length ≤ 1048576) (hel : t.ed.length ≤ 1048576) (hse : SortedE t.ed) : PC Try.prog 17 [.agg [.sl vs.length (vs.flatMap eV), .sl fs.length (fs.map eF), .sl cr.length (cr.flatMap eCr)], .agg [.sl t.ed.length (t.ed.flatMap eE), .sl t.fan.length (t.fan.map eF), .sl t.rnd.length (t.rnd.map eBo)]] (.tup [.sl ((sharpR t cr).1).length (((sharpR t cr).1).map eI), .int .i64 ((sharpR t cr).2)]) := by
 intro H0
 refine ACalls.of_body' (n := 58) rfl rfl rfl rfl ?_
 have m0 := Mono.refl H0
 refine AWP.seq ?_
 refine AWP.region (l := [0, 1, 2, 3]) rfl ?_
 refine AOps.cons rfl rfl (AOp.box (.agg [.sl vs.length (vs.flatMap eV), .sl fs.length (fs.map eF), .sl cr.length (cr.flatMap eCr)]) rfl rfl rfl ?_)
 intro i1 H2 n3 h4 k5
 have z6 := Mono.free m0 n3
 have m7 := Mono.new m0 n3 k5
 refine AOps.cons rfl rfl (AOp.box (.agg [.sl t.ed.length (t.ed.flatMap eE), .sl t.fan.length (t.fan.map eF), .sl t.rnd.length (t.rnd.map eBo)]) rfl rfl rfl ?_)
 intro i8 H9 n10 h11 k12
 have e13 := ne_new h4 n10
 have z14 := Mono.free m7 n10
 have h15 := keep k12 (ne_new h4 n10) h4
 have m16 := Mono.new m7 n10 k12
 refine AOps.cons rfl rfl (AOp.assign (.snil) rfl rfl ?_)
 refine AOps.cons rfl rfl (AOp.assign (.int .i64 0) rfl rfl ?_)
 refine AOps.nil ?_
 change AWP _ _ _ _ _ _
 refine AWP.seq ?_
 refine AWP.frzP 2 h15 z6 rfl m16 fun H17 m18 k19 => ?_
 have h20 := (k19 _ (Ne.symm e13)).trans h11
 refine AWP.frzP 3 h20 z14 rfl m18 fun H21 m22 k23 => ?_
 refine AWP.region (l := [0, 1, 2, 3, 4]) rfl ?_
 refine AOps.cons rfl rfl (AOp.fieldAddrF rfl rfl fl_35_0 ?_)
 refine AOps.cons rfl rfl (AOp.loadF (.sl t.ed.length (t.ed.flatMap eE)) rfl rfl ty_32 rfl ?_)
 refine AOps.cons rfl rfl (AOp.len (m := t.ed.length) rfl rfl (.inr (.inl ⟨_, rfl⟩)) u_32 ?_)
 refine AOps.cons rfl rfl (AOp.makeSlice_own rfl u_38 ts_3 tz_3 tb_3 (by decide) rfl rfl (by omega) (by omega) m22 ?_)
 intro v24 H25 o26 m27 k28 j29
 have o30 : Own H0 H25 1 v24 (List.replicate (t.ed.length : Int).toNat (0 : Int)).length ((List.replicate (t.ed.length : Int).toNat (0 : Int)).map eI) := Own.re o26 (by rw [List.length_replicate]) (by rw [List.map_replicate]; rfl)
 refine AOps.cons rfl rfl (AOp.assign (v24) rfl rfl ?_)
 refine AOps.nil ?_
 change AWP _ _ _ _ _ _
 refine AWP.seq ?_
 refine AWP.seq ?_
 have hrl : (List.replicate (t.ed.length : Int).toNat (0 : Int)).length = t.ed.length := by simp
 refine AWP.region (l := [0, 1, 2]) rfl ?_
 refine AOps.cons rfl rfl (AOp.move (v24) rfl rfl ?_)
 refine AOps.cons rfl rfl (AOp.len_own (m := ((List.replicate (t.ed.length : Int).toNat (0 : Int)).length)) rfl rfl o30 u_38 ?_)
 refine AOps.cons rfl rfl (AOp.move (.int .i64 0) rfl rfl ?_)
 refine AOps.nil ?_
 change AWP _ _ _ _ _ _
 refine AWP.block ?_
 refine AWP.loop (fun q31 fq Hq => ∃ (j : Int) (w6 : AV), q31 = ((((List.replicate (t.ed.length : Int).toNat (0 : Int)).length : Int) : Int) - j).toNat ∧ fq 18 = .int .i64 j ∧ fq 2 = .fptr [.sl vs.length (vs.flatMap eV), .sl fs.length (fs.map eF), .sl cr.length (cr.flatMap eCr)] 0 ∧ fq 3 = .fptr [.sl t.ed.length (t.ed.flatMap eE), .sl t.fan.length (t.fan.map eF), .sl t.rnd.length (t.rnd.map eBo)] 0 ∧ fq 4 = .snil ∧ fq 5 = .int .i64 0 ∧ fq 17 = .int .i64 (((List.replicate (t.ed.length : Int).toNat (0 : Int)).length) : Int) ∧ fq 6 = w6 ∧ Own H0 Hq 1 w6 (sh0 t j).length ((sh0 t j).map eI) ∧ Mono H0 Hq ∧ (0 ≤ j) ∧ (j ≤ ((List.replicate (t.ed.length : Int).toNat (0 : Int)).length : Int))) (k := ((((List.replicate (t.ed.length : Int).toNat (0 : Int)).length : Int) : Int) - 0).toNat) ?_ ?_
 ·
  exact ⟨0, v24, rfl, rfl, rfl, rfl, rfl, rfl, rfl, rfl, (have hx : ((List.replicate (t.ed.length : Int).toNat (0 : Int)) : List Int) = sh0 t 0 := (by exact sh0_0 t); Own.re o30 (congrArg List.length hx) (congrArg (fun l : List Int => l.map eI) hx)), m27, by omega, by omega⟩
 ·
  rintro _ f33 H32 ⟨j, w6, rfl, s34, s35, s36, s37, s38, s39, s40, o41, m42, hj0, hj1⟩
  refine AWP.seq ?_
  refine AWP.region (l := [0]) rfl ?_
  refine AOps.cons rfl rfl (AOp.bin (.bool (decide (j < (((List.replicate (t.ed.length : Int).toNat (0 : Int)).length) : Int)))) rfl s34 s39 rfl ?_)
  refine AOps.nil ?_
  change AWP _ _ _ _ _ _
  refine AWP.seq ?_
  by_cases b43 : j < (((List.replicate (t.ed.length : Int).toNat (0 : Int)).length) : Int)
  ·
   refine AWP.condT rfl (decide_eq_true b43) ?_
   refine AWP.skip ?_
   change AWP _ _ _ _ _ _
   refine AWP.seq ?_
   refine AWP.block ?_
   refine AWP.seq ?_
   refine AWP.region (l := [0, 1]) rfl ?_
   refine AOps.cons rfl rfl (AOp.move (.int .i64 j) rfl s34 ?_)
   refine AOps.cons rfl rfl (AOp.assign (.int .i64 j) rfl rfl ?_)
   refine AOps.nil ?_
   change AWP _ _ _ _ _ _
   refine AWP.seq ?_
   have hs0l := sh0_len t j
   refine AWP.region (l := [0, 1, 2]) rfl ?_
   refine AOps.cons rfl rfl (AOp.loadF (.agg [.sl t.ed.length (t.ed.flatMap eE), .sl t.fan.length (t.fan.map eF), .sl t.rnd.length (t.rnd.map eBo)]) rfl s36 ty_35 rfl ?_)
   refine AOps.cons rfl rfl (AOp.move (.int .i64 j) rfl rfl ?_)
   refine AOps.cons rfl rfl (AOp.pcall («as» := [.agg [.sl t.ed.length (t.ed.flatMap eE), .sl t.fan.length (t.fan.map eF), .sl t.rnd.length (t.rnd.map eBo)], .int .i64 j]) rfl rfl (rfl) tf_43 (c18 _ _ (by omega)) ?_)
   intro H44 m45
   have o46 := Own.mono o41 m45
   have m47 := m42.trans m45
   refine AOps.nil ?_
   change AWP _ _ _ _ _ _
   rcases Bool.eq_false_or_eq_true (edgedS t j) with b48 | b48
   ·
    refine AWP.condT rfl b48 ?_
    refine AWP.region (l := [0, 1, 2, 3]) rfl ?_
    refine AOps.cons rfl rfl (AOp.move (w6) rfl s40 ?_)
    refine AOps.cons rfl rfl (AOp.move (.int .i64 j) rfl rfl ?_)
    obtain ⟨i49, ver50, e51, h52, _, _⟩ := Own.pos o46 (by omega)
    refine AOps.cons rfl rfl (AOp.indexAddrO rfl (Eq.trans rfl e51) rfl sl_38 (by omega) (by omega) h52 ?_)
    refine AOps.cons rfl rfl (AOp.store' (cells' := ((sh0 t j).set j.toNat 255).map eI) (.int .i64 255) rfl rfl ts_3 (Own.at_ e51 o46).1 rfl rfl (blelen (by rw [List.length_map]) (by omega)) (wr_set1 (by omega) (by omega)) ?_)
    intro H53 h54 k55
    have o56 := Own.store e51 o46 h54 (len' := (((sh0 t j).set j.toNat 255)).length) (by rw [List.length_set]) (by rw [List.length_map, Nat.mul_one, List.length_set])
    have m57 := Mono.set m47 (Own.at_ e51 o46).2.1 k55
    refine AOps.nil ?_
    change AWP _ _ _ _ _ _
    have hs0l := sh0_len t j
    refine AWP.region (l := [0, 1]) rfl ?_
    refine AOps.cons rfl rfl (AOp.bin (.int .i64 (j + 1)) rfl s34 rfl (iadd (by omega)) ?_)
    refine AOps.cons rfl rfl (AOp.move (.int .i64 (j + 1)) rfl rfl ?_)
    refine AOps.nil ?_
    exact ⟨_, by omega, j + 1, w6, rfl, rfl, s35, s36, s37, s38, s39, s40, (have hx : ((((sh0 t j).set j.toNat 255)) : List Int) = sh0 t (j + 1) := (by exact sh0_T hj0 (by omega) b48); Own.re o56 (congrArg List.length hx) (congrArg (fun l : List Int => l.map eI) hx)), m57, by omega, by omega⟩
   ·
    refine AWP.condF rfl b48 ?_
    refine AWP.skip ?_
    change AWP _ _ _ _ _ _
    have hs0l := sh0_len t j
    refine AWP.region (l := [0, 1]) rfl ?_
    refine AOps.cons rfl rfl (AOp.bin (.int .i64 (j + 1)) rfl s34 rfl (iadd (by omega)) ?_)
    refine AOps.cons rfl rfl (AOp.move (.int .i64 (j + 1)) rfl rfl ?_)
    refine AOps.nil ?_
    exact ⟨_, by omega, j + 1, w6, rfl, rfl, s35, s36, s37, s38, s39, s40, (have hx : ((sh0 t j) : List Int) = sh0 t (j + 1) := (by exact sh0_F hj0 b48); Own.re o46 (congrArg List.length hx) (congrArg (fun l : List Int => l.map eI) hx)), m47, by omega, by omega⟩
  ·
   refine AWP.condF rfl (decide_eq_false b43) ?_
   refine AWP.exit ?_
   change AWP _ _ _ _ _ _
   refine AWP.seq ?_
   refine AWP.seq ?_
   refine AWP.region (l := [0, 1, 2, 3]) rfl ?_
   refine AOps.cons rfl rfl (AOp.fieldAddrF rfl s35 fl_26_2 ?_)
   refine AOps.cons rfl rfl (AOp.loadF (.sl cr.length (cr.flatMap eCr)) rfl rfl ty_24 rfl ?_)
   refine AOps.cons rfl rfl (AOp.len (m := cr.length) rfl rfl (.inr (.inl ⟨_, rfl⟩)) u_24 ?_)
   refine AOps.cons rfl rfl (AOp.move (.int .i64 0) rfl rfl ?_)
   refine AOps.nil ?_
   change AWP _ _ _ _ _ _
   refine AWP.block ?_
   refine AWP.loop (fun q58 fq Hq => ∃ (i : Int) (out : List Int) (w6 : AV), q58 = (((cr.length : Int) : Int) - i).toNat ∧ fq 31 = .int .i64 i ∧ fq 3 = .fptr [.sl t.ed.length (t.ed.flatMap eE), .sl t.fan.length (t.fan.map eF), .sl t.rnd.length (t.rnd.map eBo)] 0 ∧ fq 29 = .sl cr.length (cr.flatMap eCr) ∧ fq 30 = .int .i64 (cr.length : Int) ∧ fq 6 = w6 ∧ Own H0 Hq 1 w6 (out).length ((out).map eI) ∧ Mono H0 Hq ∧ (0 ≤ i) ∧ (i ≤ (cr.length : Int)) ∧ (shF t (cr.take i.toNat) (sh0 t t.ed.length) = some out) ∧ (out.length = t.ed.length)) (k := (((cr.length : Int) : Int) - 0).toNat) ?_ ?_
   ·
    exact ⟨0, (sh0 t t.ed.length), w6, rfl, rfl, s36, rfl, rfl, s40, (have hx : ((sh0 t j) : List Int) = (sh0 t t.ed.length) := (by congr 1; omega); Own.re o41 (congrArg List.length hx) (congrArg (fun l : List Int => l.map eI) hx)), m42, by omega, by omega, by rfl, by exact sh0_len _ _⟩
   ·
    rintro _ f60 H59 ⟨i, out, w6, rfl, s61, s62, s63, s64, s65, o66, m67, hi0, hi1, hF, hol⟩
    refine AWP.seq ?_
    refine AWP.region (l := [0]) rfl ?_
    refine AOps.cons rfl rfl (AOp.bin (.bool (decide (i < (cr.length : Int)))) rfl s61 s64 rfl ?_)
    refine AOps.nil ?_
    change AWP _ _ _ _ _ _
    refine AWP.seq ?_
    by_cases b68 : i < (cr.length : Int)
    ·
     refine AWP.condT rfl (decide_eq_true b68) ?_
     refine AWP.skip ?_
     change AWP _ _ _ _ _ _
     refine AWP.seq ?_
     refine AWP.block ?_
     refine AWP.seq ?_
     refine AWP.region (l := [0, 1, 2, 3]) rfl ?_
     refine AOps.cons rfl rfl (AOp.indexAddrS rfl s63 s61 sl_24 (by omega) (by omega) ?_)
     refine AOps.cons rfl rfl (AOp.loadF (.agg [.int .i64 ((at_ cr i).A), .int .i64 ((at_ cr i).B), .int .i64 ((at_ cr i).S)]) rfl rfl ty_53 (ldM eCr_len (by omega) (by omega)) ?_)
     refine AOps.cons rfl rfl (AOp.alloc rfl tz_53 ?_)
     intro i69 H70 n71 h72 k73
     have z74 := Mono.free m67 n71
     have o75 := Own.keep o66 k73 (Own.notnew o66 n71)
     have no76 := Own.notnew o66 n71
     have m77 := Mono.new m67 n71 k73
     refine AOps.cons rfl rfl (AOp.store' (cells' := [.int .i64 ((at_ cr i).A), .int .i64 ((at_ cr i).B), .int .i64 ((at_ cr i).S)]) (.agg [.int .i64 ((at_ cr i).A), .int .i64 ((at_ cr i).B), .int .i64 ((at_ cr i).S)]) rfl rfl ts_53 h72 rfl rfl rfl rfl ?_)
     intro H78 h79 k80
     have o82 := Own.keep o75 k80 no76
     have m83 := Mono.set m77 z74 k80
     refine AOps.nil ?_
     change AWP _ _ _ _ _ _
     refine AWP.seq ?_
     refine AWP.frzP 9 h79 z74 rfl m83 fun H84 m85 k86 => ?_
     have o87 := Own.keep o82 k86 no76
     refine AWP.region (l := [0, 1, 2, 3, 4, 5, 6, 7, 8, 9, 10]) rfl ?_
     refine AOps.cons rfl rfl (AOp.loadF (.agg [.sl t.ed.length (t.ed.flatMap eE), .sl t.fan.length (t.fan.map eF), .sl t.rnd.length (t.rnd.map eBo)]) rfl s62 ty_35 rfl ?_)
     refine AOps.cons rfl rfl (AOp.fieldAddrF rfl rfl fl_53_0 ?_)
     refine AOps.cons rfl rfl (AOp.loadF (.int .i64 ((at_ cr i).A)) rfl rfl ty_3 rfl ?_)
     refine AOps.cons rfl rfl (AOp.fieldAddrF rfl rfl fl_53_1 ?_)
     refine AOps.cons rfl rfl (AOp.loadF (.int .i64 ((at_ cr i).B)) rfl rfl ty_3 rfl ?_)
     refine AOps.cons rfl rfl (AOp.pcall («as» := [.agg [.sl t.ed.length (t.ed.flatMap eE), .sl t.fan.length (t.fan.map eF), .sl t.rnd.length (t.rnd.map eBo)], .int .i64 ((at_ cr i).A), .int .i64 ((at_ cr i).B)]) rfl rfl (rfl) tf_44 (c19 _ _ _ (by omega) (by assumption)) ?_)
     intro H88 m89
     have o90 := Own.mono o87 m89
     have m91 := m85.trans m89
     refine AOps.cons rfl rfl (AOp.move (.tup [.int .i64 (optI (findS t ((at_ cr i).A) ((at_ cr i).B))), .bool ((findS t ((at_ cr i).A) ((at_ cr i).B)).isSome)]) rfl rfl ?_)
     refine AOps.cons rfl rfl (AOp.extract (.int .i64 (optI (findS t ((at_ cr i).A) ((at_ cr i).B)))) rfl rfl rfl ?_)
     refine AOps.cons rfl rfl (AOp.extract (.bool ((findS t ((at_ cr i).A) ((at_ cr i).B)).isSome)) rfl rfl rfl ?_)
     refine AOps.cons rfl rfl (AOp.assign (.int .i64 (optI (findS t ((at_ cr i).A) ((at_ cr i).B)))) rfl rfl ?_)
     refine AOps.cons rfl rfl (AOp.assign (.bool ((findS t ((at_ cr i).A) ((at_ cr i).B)).isSome)) rfl rfl ?_)
     refine AOps.nil ?_
     change AWP _ _ _ _ _ _
     refine AWP.seq ?_
     refine AWP.seq ?_
     refine AWP.region (l := [0, 1]) rfl ?_
     refine AOps.cons rfl rfl (AOp.move (.bool ((findS t ((at_ cr i).A) ((at_ cr i).B)).isSome)) rfl rfl ?_)
     refine AOps.cons rfl rfl (AOp.not rfl rfl ?_)
     refine AOps.nil ?_
     change AWP _ _ _ _ _ _
     rcases Bool.eq_false_or_eq_true ((findS t ((at_ cr i).A) ((at_ cr i).B)).isSome) with b92 | b92
     ·
      refine AWP.condF rfl (nb b92) ?_
      refine AWP.skip ?_
      change AWP _ _ _ _ _ _
      have hfi := find_in (t := t) (a := (at_ cr i).A) (b := (at_ cr i).B) b92
      refine AWP.region_quiet mixed (by kernel_rfl) 10 [10] rfl (by kernel_rfl) (Mono H88) (Mono.refl _) ?_
      refine QE.op rfl rfl (.inl ⟨rfl, fun f' H' hf hM => AOp.move (w6) rfl ((hf 6 rfl).trans s65) ⟨rfl, hM⟩⟩) ?_
      refine QE.op rfl rfl (.inl ⟨rfl, fun f' H' hf hM => AOp.move (.int .i64 (optI (findS t ((at_ cr i).A) ((at_ cr i).B)))) rfl ((hf 10 rfl).trans rfl) ⟨rfl, hM⟩⟩) ?_
      refine QE.op rfl rfl (.inl ⟨rfl, fun f' H' hf hM => AOp.move (w6) rfl ((hf 6 rfl).trans s65) ⟨rfl, hM⟩⟩) ?_
      refine QE.op rfl rfl (.inl ⟨rfl, fun f' H' hf hM => AOp.move (.int .i64 (optI (findS t ((at_ cr i).A) ((at_ cr i).B)))) rfl ((hf 10 rfl).trans rfl) ⟨rfl, hM⟩⟩) ?_
      obtain ⟨i93, ver94, e95, h96, _, _⟩ := Own.pos o90 (by omega)
      refine QE.op rfl rfl (.inl ⟨rfl, fun f' H' hf hM => AOp.indexAddrO rfl (Eq.trans ((hf 48 rfl).trans rfl) e95) ((hf 49 rfl).trans rfl) sl_38 (by omega) (by omega) (hM _ _ h96) ⟨rfl, hM⟩⟩) ?_
      refine QE.op rfl rfl (.inl ⟨rfl, fun f' H' hf hM => AOp.load (.int .i64 (at_ (out) (optI (findS t ((at_ cr i).A) ((at_ cr i).B))))) rfl ((hf 50 rfl).trans rfl) ty_3 (hM _ _ h96) (ld1 (by omega) (by omega)) ⟨rfl, hM⟩⟩) ?_
      refine QE.op rfl rfl (.inl ⟨rfl, fun f' H' hf hM => AOp.fieldAddrF rfl ((hf 9 rfl).trans rfl) fl_53_2 ⟨rfl, hM⟩⟩) ?_
      refine QE.op rfl rfl (.inl ⟨rfl, fun f' H' hf hM => AOp.loadF (.int .i64 ((at_ cr i).S)) rfl ((hf 52 rfl).trans rfl) ty_3 rfl ⟨rfl, hM⟩⟩) ?_
      refine QE.op rfl rfl (.inl ⟨rfl, fun f' H' hf hM => AOp.max2 rfl ((hf 51 rfl).trans rfl) ((hf 53 rfl).trans rfl) ⟨rfl, hM⟩⟩) ?_
      obtain ⟨i97, ver98, e99, h100, _, _⟩ := Own.pos o90 (by omega)
      refine QE.op rfl rfl (.inl ⟨rfl, fun f' H' hf hM => AOp.indexAddrO rfl (Eq.trans ((hf 46 rfl).trans rfl) e99) ((hf 47 rfl).trans rfl) sl_38 (by omega) (by omega) (hM _ _ h100) ⟨rfl, hM⟩⟩) ?_
      refine QE.done fun H101 m102 => ?_
      have o103 := Own.mono o90 m102
      have m104 := m91.trans m102
      refine AOps.cons rfl rfl (AOp.store' (cells' := ((out).set (optI (findS t ((at_ cr i).A) ((at_ cr i).B))).toNat (max (at_ (out) (optI (findS t ((at_ cr i).A) ((at_ cr i).B)))) ((at_ cr i).S))).map eI) (.int .i64 (max (at_ (out) (optI (findS t ((at_ cr i).A) ((at_ cr i).B)))) ((at_ cr i).S))) rfl rfl ts_3 (Own.at_ e99 o103).1 rfl rfl (blelen (by rw [List.length_map]) (by omega)) (wr_set1 (by omega) (by omega)) ?_)
      intro H105 h106 k107
      have o108 := Own.store e99 o103 h106 (len' := (((out).set (optI (findS t ((at_ cr i).A) ((at_ cr i).B))).toNat (max (at_ (out) (optI (findS t ((at_ cr i).A) ((at_ cr i).B)))) ((at_ cr i).S)))).length) (by rw [List.length_set]) (by rw [List.length_map, Nat.mul_one, List.length_set])
      have m109 := Mono.set m104 (Own.at_ e99 o103).2.1 k107
      refine AOps.nil ?_
      change AWP _ _ _ _ _ _
      refine AWP.region (l := [0, 1]) rfl ?_
      refine AOps.cons rfl rfl (AOp.bin (.int .i64 (i + 1)) rfl s61 rfl (iadd (by omega)) ?_)
      refine AOps.cons rfl rfl (AOp.move (.int .i64 (i + 1)) rfl rfl ?_)
      refine AOps.nil ?_
      exact ⟨_, by omega, i + 1, (out.set (optI (findS t (at_ cr i).A (at_ cr i).B)).toNat (max (at_ out (optI (findS t (at_ cr i).A (at_ cr i).B))) (at_ cr i).S)), w6, rfl, rfl, s62, s63, s64, s65, o108, m109, by omega, by omega, by exact shF_step hi0 (by omega) hF b92, by rw [List.length_set]; exact hol⟩
     ·
      refine AWP.condT rfl (nb b92) ?_
      refine AWP.seq ?_
      refine AWP.region (l := [0, 1]) rfl ?_
      refine AOps.cons rfl rfl (AOp.assign (.snil) rfl rfl ?_)
      refine AOps.cons rfl rfl (AOp.assign (.int .i64 14) rfl rfl ?_)
      refine AOps.nil ?_
      change AWP _ _ _ _ _ _
      refine AWP.ret ?_
      refine Fin.frz 4 (Own.nil H0 H88 1) rfl m91 fun H110 m111 k112 => ?_
      have o113 := Own.stay o90 (Sep.nilR _) (fun i hi _ => k112 i hi)
      refine ⟨_, _, Ghost.refl, .inr rfl, _, Res.two rfl rfl rfl, ?_, m111⟩
      exact congrArg AV.tup (lc (congrArg (fun l : List Int => AV.sl l.length (l.map eI)) (show ([] : List Int) = (sharpR t cr).1 from by rw [sharp_no hi0 (by omega) hF b92])) (lc (congrArg (AV.int .i64) (show (14 : Int) = (sharpR t cr).2 from by rw [sharp_no hi0 (by omega) hF b92])) rfl))
    ·
     refine AWP.condF rfl (decide_eq_false b68) ?_
     refine AWP.exit ?_
     change AWP _ _ _ _ _ _
     refine AWP.seq ?_
     refine AWP.region (l := [0, 1, 2]) rfl ?_
     refine AOps.cons rfl rfl (AOp.move (w6) rfl s65 ?_)
     refine AOps.cons rfl rfl (AOp.assign (w6) rfl rfl ?_)
     refine AOps.cons rfl rfl (AOp.assign (.int .i64 0) rfl rfl ?_)
     refine AOps.nil ?_
     change AWP _ _ _ _ _ _
     refine AWP.ret ?_
     refine Fin.frz 4 o66 rfl m67 fun H114 m115 k116 => ?_
     refine ⟨_, _, Ghost.refl, .inr rfl, _, Res.two rfl rfl rfl, ?_, m115⟩
     exact congrArg AV.tup (lc (congrArg (fun l : List Int => AV.sl l.length (l.map eI)) (show ((out) : List Int) = (sharpR t cr).1 from by rw [sharp_ok (by omega) hF])) (lc (congrArg (AV.int .i64) (show (0 : Int) = (sharpR t cr).2 from by rw [sharp_ok (by omega) hF])) rfl))
end Go.Proofs.U
namespace Go.Proofs.U
open Go Go.AH Go.Proofs.T
set_option maxRecDepth 4000
theorem Own.plain_ {H0 H : Heap} {es len : Nat} {v : AV} {cells : List AV} (h : Own H0 H es v len cells) : v.plainB = true := by
  rcases h with ⟨h, _⟩ | ⟨id, ver, h, _⟩ <;> subst h <;> rfl
theorem fill_own {H0 H : Heap} {es len : Nat} {cs : List AV} {pl : Nat → Option (Nat × Nat)} {cells c' : List AV} {i off : Nat} {v : AV} {rest : List (Nat × AV)} {r : Option (List AV)} (ho : Own H0 H es v len cs) (hp : pl i = some (off, 1)) (hle : Nat.ble (off + 1) cells.length = true) (hw : writeL cells off [v] = c') (h : fillA pl c' rest = r) : fillA pl cells ((i, v) :: rest) = r :=
  fill_step hp (Own.plain_ ho) (by rw [Own.cells_ ho]; rfl) hle (by rw [Own.cells_ ho]; exact hw) h
theorem gld {L : List ME} {n : Nat} {x : Int} (h0 : 0 ≤ x) (h1 : x < n) : loadv false 1 (x.toNat * 1) ((gvals L n).map eA) = some (getM L x).1 := by
  have := ld1 (xs := gvals L n) (e := eA) h0 (by rw [gvals_len]; exact h1)
  rw [gvals_at h0 h1] at this; exact this
/-- Which edges are at each vertex, of the first so many. -/
def adjU (ed : List Ed) (k : Int) (x : Int) : List Int := ((List.range k.toNat).map fun (j : Nat) => (j : Int)).flatMap fun j => (if (at_ ed j).A = x then [j] else []) ++ (if (at_ ed j).B = x then [j] else [])
end Go.Proofs.U
namespace Go.Proofs.T
open Go Go.AH
set_option maxRecDepth 20000
theorem weigh_le {m : Int} : ∀ {fs : List (List Int)} {n : Int}, weighS m fs n ≤ m → n + ((sides fs).length : Int) ≤ m := by
  have key : ∀ (fs : List (List Int)) (n : Int) (k : Nat), weighS m fs n ≤ m → n + ((sidesFrom k fs).length : Int) ≤ m := by
    intro fs
    induction fs with
    | nil => intro n k h; simpa [weighS, sidesFrom] using h
    | cons l fs ih =>
      intro n k h
      unfold weighS at h
      split at h
      · have := ih _ (k + 1) h
        rw [sidesFrom, List.length_append, List.length_map, wayF_len]
        omega
      · omega
  intro fs n h
  exact key fs n 0 h
structure Small (t : Tp) : Prop where
  ed : t.ed.length ≤ 1048576
  fan : t.fan.length ≤ 1048576
  rnd : t.rnd.length ≤ 1048576
  fans : ∀ l ∈ t.fan, l.length ≤ 1048576
  ok : ∀ e ∈ t.ed, EOK e
  sorted : SortedE t.ed
theorem pw_at {l : List Ed} (h : l.Pairwise ltE) : SortedE l := by
  intro i j h0 h1 h2
  rw [List.pairwise_iff_getElem] at h
  have hi : i.toNat < l.length := by omega
  have hj : j.toNat < l.length := by omega
  have := h i.toNat j.toNat hi hj (by omega)
  simpa [at_, hi, hj] using this
/-! ### The two that are tried first -/
def F1 : List (List Int) := [[0], [0], [0]]
end Go.Proofs.T
namespace Go.Proofs.T
open Go Go.AH
def lone (c : Int) (e : Ed) : Bool := decide ((e.A = c ∨ e.B = c) ∧ min e.F e.G < 0)
def cntJ (j : Int) (l : List Ed) (c : Int) : Int := (((l.take j.toNat).filter (lone c)).length : Nat)
theorem rnd_at {n : Int} {fs : List (List Int)} (h : okS n fs) {c : Int} (h0 : 0 ≤ c) (h1 : c < n) : at_ (buildT n fs).rnd c = fanR fs c ∧ c < (buildT n fs).rnd.length := by
  rw [(build_ok h).1]
  have hc : c.toNat < n.toNat := by omega
  refine ⟨?_, by simp [rndU]; omega⟩
  unfold at_ rndU
  simp [hc, Int.toNat_of_nonneg h0]
end Go.Proofs.T
namespace Go.Proofs.T
open Go Go.AH
def FewLaw : Prop := ∀ {n : Int} {fs : List (List Int)} (_ : okS n fs) {c : Int} (_ : 0 ≤ c) (_ : c < n), cntJ (buildT n fs).ed.length (buildT n fs).ed c = if fanR fs c = true then 0 else 2
end Go.Proofs.T
namespace Go.Proofs.T
open Go Go.AH
/-- All there is to say of a vertex's fan. -/
structure Fan (fs : List (List Int)) (n c x : Int) (K : Nat) : Prop where
  hg : goodS n fs
  x0 : 0 ≤ x
  x1 : x < fs.length
  xv : c ∈ at_ fs x
  run : Runs fs c x K
  pos : 1 ≤ K
  stop : iterS (stepS fs c) x K < 0 ∨ iterS (stepS fs c) x K = x
  cover : ∀ f : Int, 0 ≤ f → f < fs.length → c ∈ at_ fs f → ∃ i, i < K ∧ iterS (stepS fs c) x i = f
theorem fan_of {n : Int} {fs : List (List Int)} (h : okS n fs) {c : Int} (h0 : 0 ≤ c) (h1 : c < n) : mineU fs c fs.length ≠ [] ∧ Fan fs n c (headS fs c) (stopK fs c (headS fs c)) := by
  have hf := h.2.2 c h0 h1
  have hne : mineU fs c fs.length ≠ [] := fun e => by
    unfold fanOK at hf; rw [if_pos e] at hf; cases hf
  unfold fanOK fanL at hf
  rw [if_neg hne, if_neg hne, orb_len, decide_eq_true_eq] at hf
  have hx := mem_mineU.1 (head_mem hne)
  have hle := mine_le fs c fs.length
  generalize headS fs c = x at hf hx ⊢
  have hK : stopK fs c x < (List.range (fs.length + 1)).length := by simp; omega
  have hstop := ((List.findIdx_eq (p := fun k => decide (1 ≤ k ∧ (iterS (stepS fs c) x k < 0 ∨ iterS (stepS fs c) x k = x))) (xs := List.range (fs.length + 1)) (i := stopK fs c x) hK).1 rfl).1
  rw [List.getElem_range, decide_eq_true_eq] at hstop
  have hrun : Runs fs c x (stopK fs c x) := by
    intro i hi
    by_cases e : i = 0
    · subst e; exact ⟨hx.1, .inl rfl⟩
    · have := List.not_of_lt_findIdx (p := fun k => decide (1 ≤ k ∧ (iterS (stepS fs c) x k < 0 ∨ iterS (stepS fs c) x k = x))) (xs := List.range (fs.length + 1)) (i := i) hi
      simp only [List.getElem_range, decide_eq_false_iff_not] at this
      have h2 : 1 ≤ i := by omega
      refine ⟨?_, .inr fun e2 => this ⟨h2, .inr e2⟩⟩
      rcases Int.lt_or_le (iterS (stepS fs c) x i) 0 with g | g
      · exact absurd ⟨h2, .inl g⟩ this
      · exact g
  refine ⟨hne, ⟨h.2.1, hx.1, hx.2.1, hx.2.2, hrun, hstop.1, hstop.2, fun f f0 f1 fv => ?_⟩⟩
  have hnd := orb_nodup h.2.1 hx.1 hx.2.1 hx.2.2 hrun
  have hsub : orbS fs c x (stopK fs c x) ⊆ mineU fs c fs.length := by
    intro y hy
    unfold orbS at hy
    obtain ⟨i, hi, rfl⟩ := List.mem_map.1 hy
    rw [List.mem_range] at hi
    exact mem_mineU.2 (run_mem h.2.1 hx.1 hx.2.1 hx.2.2 hrun i hi)
  have hmem : f ∈ orbS fs c x (stopK fs c x) := by
    apply Classical.byContradiction
    intro hn
    have := List.Nodup.length_le_of_subset (List.nodup_cons.2 ⟨hn, hnd⟩) (l₂ := mineU fs c fs.length) (fun y hy => by
      rcases List.mem_cons.1 hy with rfl | hy
      · exact mem_mineU.2 ⟨f0, f1, fv⟩
      · exact hsub hy)
    rw [List.length_cons, orb_len] at this
    omega
  unfold orbS at hmem
  obtain ⟨i, hi, e⟩ := List.mem_map.1 hmem
  exact ⟨i, List.mem_range.1 hi, e⟩
section
variable {n c x : Int} {fs : List (List Int)} {K : Nat}
theorem Fan.mem (F : Fan fs n c x K) {i : Nat} (hi : i < K) : 0 ≤ iterS (stepS fs c) x i ∧ iterS (stepS fs c) x i < fs.length ∧ c ∈ at_ fs (iterS (stepS fs c) x i) := run_mem F.hg F.x0 F.x1 F.xv F.run i hi
/-- A face's sides at the vertex. -/
theorem side_next (hg : goodS n fs) {f : Int} (f0 : 0 ≤ f) (f1 : f < fs.length) (fv : c ∈ at_ fs f) : alongS fs c (nextS (at_ fs f) c 1) = f := along_good hg f0 f1 (way_next (good_apart hg f0 f1) fv).1
theorem side_prev (hg : goodS n fs) {f : Int} (f0 : 0 ≤ f) (f1 : f < fs.length) (fv : c ∈ at_ fs f) : alongS fs (nextS (at_ fs f) c (-1)) c = f := along_good hg f0 f1 (way_next (good_apart hg f0 f1) fv).2
theorem of_side (hg : goodS n fs) {y : Int} (h : 0 ≤ alongS fs c y) : alongS fs c y < fs.length ∧ c ∈ at_ fs (alongS fs c y) ∧ nextS (at_ fs (alongS fs c y)) c 1 = y := by
  obtain ⟨g1, g2, _⟩ := along_some h
  obtain ⟨i, k0, k1, k2, _⟩ := mem_wayF.1 g2
  refine ⟨g1, ?_, (next_way (good_apart hg h g1) g2).1⟩
  have hm := at_mem k0 k1
  rw [← k2] at hm; exact hm
theorem of_side' (hg : goodS n fs) {y : Int} (h : 0 ≤ alongS fs y c) : alongS fs y c < fs.length ∧ c ∈ at_ fs (alongS fs y c) ∧ nextS (at_ fs (alongS fs y c)) c (-1) = y := by
  obtain ⟨g1, g2, _⟩ := along_some h
  obtain ⟨i, k0, k1, _, k2⟩ := mem_wayF.1 g2
  have hr := mod_in (x := i + 1) (y := ((at_ fs (alongS fs y c)).length : Int)) (by omega)
  refine ⟨g1, ?_, (next_way (good_apart hg h g1) g2).2⟩
  have hm := at_mem hr.1 hr.2
  rw [← k2] at hm; exact hm
/-- A face that has one behind it. -/
theorem pred_of (hg : goodS n fs) {f : Int} (f0 : 0 ≤ f) (f1 : f < fs.length) (fv : c ∈ at_ fs f) (h : 0 ≤ alongS fs (nextS (at_ fs f) c 1) c) :
    stepS fs c (alongS fs (nextS (at_ fs f) c 1) c) = f := by
  obtain ⟨_, _, g3⟩ := of_side' hg h
  unfold stepS
  rw [g3]
  exact side_next hg f0 f1 fv
theorem pred_iff (hg : goodS n fs) {g : Int} (g0 : 0 ≤ g) (g1 : g < fs.length) (gv : c ∈ at_ fs g) (h : 0 ≤ stepS fs c g) : 0 ≤ alongS fs (nextS (at_ fs (stepS fs c g)) c 1) c := by
  rw [(step_mem hg g0 g1 gv h).2.2, side_prev hg g0 g1 gv]; exact g0
/-- The first face has one behind it just when the fan closes. -/
theorem Fan.closes (F : Fan fs n c x K) : 0 ≤ alongS fs (nextS (at_ fs x) c 1) c ↔ iterS (stepS fs c) x K = x := by
  constructor
  · intro h
    have h1 := pred_of F.hg F.x0 F.x1 F.xv h
    obtain ⟨g1, g2, _⟩ := of_side' F.hg h
    obtain ⟨j, hj, e⟩ := F.cover _ h g1 g2
    rw [← e] at h1
    by_cases hk : j + 1 < K
    · exact absurd (show iterS (stepS fs c) x (j + 1) = x from h1) ((F.run (j + 1) hk).2.resolve_left (by omega))
    · have : K = j + 1 := by omega
      rw [this]; exact h1
  · intro h
    have hK := F.pos
    obtain ⟨m, rfl⟩ : ∃ m, K = m + 1 := ⟨K - 1, by omega⟩
    obtain ⟨g0, g1, gv⟩ := F.mem (i := m) (by omega)
    have hs : stepS fs c (iterS (stepS fs c) x m) = x := h
    have := pred_iff F.hg g0 g1 gv (by rw [hs]; exact F.x0)
    rw [hs] at this; exact this
theorem Fan.pred (F : Fan fs n c x K) {f : Int} (f0 : 0 ≤ f) (f1 : f < fs.length) (fv : c ∈ at_ fs f) (hb : alongS fs (nextS (at_ fs f) c 1) c < 0) : f = x := by
  obtain ⟨i, hi, rfl⟩ := F.cover f f0 f1 fv
  cases i with
  | zero => rfl
  | succ i =>
    obtain ⟨g0, g1, gv⟩ := F.mem (i := i) (by omega)
    have hs : stepS fs c (iterS (stepS fs c) x i) = iterS (stepS fs c) x (i + 1) := rfl
    have := pred_iff F.hg g0 g1 gv (by rw [hs]; exact f0)
    rw [hs] at this; omega
theorem Fan.end_ (F : Fan fs n c x K) {f : Int} (f0 : 0 ≤ f) (f1 : f < fs.length) (fv : c ∈ at_ fs f) (he : stepS fs c f < 0) : f = iterS (stepS fs c) x (K - 1) ∧ iterS (stepS fs c) x K < 0 := by
  obtain ⟨i, hi, rfl⟩ := F.cover f f0 f1 fv
  have hs : stepS fs c (iterS (stepS fs c) x i) = iterS (stepS fs c) x (i + 1) := rfl
  rw [hs] at he
  by_cases hk : i + 1 < K
  · have := (F.run (i + 1) hk).1; omega
  · have : K = i + 1 := by omega
    subst this
    exact ⟨rfl, he⟩
end
theorem round_iff {n : Int} {fs : List (List Int)} (h : okS n fs) {c : Int} (h0 : 0 ≤ c) (h1 : c < n) : fanR fs c = true ↔ iterS (stepS fs c) (headS fs c) (stopK fs c (headS fs c)) = headS fs c := by
  obtain ⟨hne, F⟩ := fan_of h h0 h1
  rw [← F.closes]
  unfold fanR roundB
  rw [if_neg hne, decide_eq_true_eq]
  have hfl := first_le fs c fs.length
  have key : ∀ m : Nat, (firstN fs c m < 0 → ∀ f : Int, 0 ≤ f → f < m → c ∈ at_ fs f → 0 ≤ alongS fs (nextS (at_ fs f) c 1) c) ∧ (0 ≤ firstN fs c m → alongS fs (nextS (at_ fs (firstN fs c m)) c 1) c < 0) := by
    intro m
    induction m with
    | zero => exact ⟨fun _ f f0 f1 => by omega, fun h => by simp [firstN] at h⟩
    | succ m ih =>
      unfold firstN
      split
      · rename_i g; exact ⟨fun e => by omega, fun _ => g.2⟩
      · rename_i g
        refine ⟨fun e f f0 f1 fv => ?_, ih.2⟩
        by_cases c2 : f = m
        · subst c2
          rcases Int.lt_or_le (alongS fs (nextS (at_ fs (m : Int)) c 1) c) 0 with g2 | g2
          · exact absurd ⟨fv, g2⟩ g
          · exact g2
        · exact ih.1 e f f0 (by omega) fv
  constructor
  · intro e
    exact (key fs.length).1 e _ F.x0 F.x1 F.xv
  · intro e
    rcases Int.lt_or_le (firstN fs c fs.length) 0 with g | g
    · exact g
    · have hh : headS fs c = firstN fs c fs.length := by unfold headS; rw [if_neg (by omega)]
      have := (key fs.length).2 g
      rw [hh] at e; omega
def edgeP (fs : List (List Int)) (c y : Int) : Ed := ⟨min c y, max c y, alongS fs (min c y) (max c y), alongS fs (max c y) (min c y)⟩
theorem edgeP_FG (fs : List (List Int)) (c y : Int) : (min (edgeP fs c y).F (edgeP fs c y).G < 0 ↔ alongS fs c y < 0 ∨ alongS fs y c < 0) ∧ (0 ≤ (edgeP fs c y).F ∨ 0 ≤ (edgeP fs c y).G ↔ 0 ≤ alongS fs c y ∨ 0 ≤ alongS fs y c) := by
  unfold edgeP
  simp only
  rcases Int.le_total c y with h | h
  · rw [Int.min_eq_left h, Int.max_eq_right h]; omega
  · rw [Int.min_eq_right h, Int.max_eq_left h]; omega
theorem mem_at_c {n : Int} {fs : List (List Int)} {c : Int} (h0 : 0 ≤ c) (h1 : c < n) {e : Ed} : (e ∈ eOut fs n n ∧ lone c e = true) ↔ ∃ y : Int, 0 ≤ y ∧ y < n ∧ y ≠ c ∧ e = edgeP fs c y ∧ (0 ≤ alongS fs c y ∨ 0 ≤ alongS fs y c) ∧ (alongS fs c y < 0 ∨ alongS fs y c < 0) := by
  rw [mem_eOut]
  unfold lone
  rw [decide_eq_true_eq]
  constructor
  · rintro ⟨⟨a, b, d, hF, hG, hp⟩, hc, hm⟩
    rcases hc with hc | hc
    · have e1 : e = edgeP fs c e.B := by
        unfold edgeP; rw [Int.min_eq_left (by omega), Int.max_eq_right (by omega), ← hc, ← hF, ← hG]
      refine ⟨e.B, by omega, by omega, by omega, e1, ?_, ?_⟩
      · rw [e1] at hp; exact (edgeP_FG fs c _).2.1 hp
      · rw [e1] at hm; exact (edgeP_FG fs c _).1.1 hm
    · have e1 : e = edgeP fs c e.A := by
        unfold edgeP; rw [Int.min_eq_right (by omega), Int.max_eq_left (by omega), ← hc, ← hF, ← hG]
      refine ⟨e.A, by omega, by omega, by omega, e1, ?_, ?_⟩
      · rw [e1] at hp; exact (edgeP_FG fs c _).2.1 hp
      · rw [e1] at hm; exact (edgeP_FG fs c _).1.1 hm
  · rintro ⟨y, y0, y1, yc, rfl, hp, hm⟩
    refine ⟨⟨?_, ?_, ?_, rfl, rfl, (edgeP_FG fs c y).2.2 hp⟩, ?_, (edgeP_FG fs c y).1.2 hm⟩ <;> simp only [edgeP] <;> omega
theorem edgeP_inj {fs : List (List Int)} {c y z : Int} (h : edgeP fs c y = edgeP fs c z) : y = z := by
  have e1 := congrArg Ed.A h
  have e2 := congrArg Ed.B h
  simp only [edgeP] at e1 e2
  omega
theorem few_law : FewLaw := by
  intro n fs h c h0 h1
  obtain ⟨hne, F⟩ := fan_of h h0 h1
  have hr := round_iff h h0 h1
  rw [(build_ok h).1]
  unfold cntJ
  simp only [Int.toNat_natCast, List.take_length]
  generalize headS fs c = x at F hr
  generalize stopK fs c x = K at F hr
  have hnd : ((eOut fs n n).filter (lone c)).Nodup := by
    rw [List.nodup_iff_pairwise_ne]
    refine List.Pairwise.filter _ ?_
    refine (eOut_sorted fs n).imp ?_
    intro x y h e
    subst e; unfold ltE at h; omega
  by_cases hR : fanR fs c = true
  · rw [if_pos hR]
    have hcl := hr.1 hR
    have : (eOut fs n n).filter (lone c) = [] := by
      rw [List.filter_eq_nil_iff]
      intro e he hl
      obtain ⟨y, _, _, _, _, hp, hm⟩ := (mem_at_c h0 h1).1 ⟨he, hl⟩
      by_cases ha : 0 ≤ alongS fs c y
      · obtain ⟨g1, g2, g3⟩ := of_side F.hg ha
        have hb := F.pred ha g1 g2 (by rw [g3]; omega)
        have := F.closes.2 hcl
        rw [← hb, g3] at this; omega
      · have hb : 0 ≤ alongS fs y c := by omega
        obtain ⟨g1, g2, g3⟩ := of_side' F.hg hb
        have := (F.end_ hb g1 g2 (by unfold stepS; rw [g3]; omega)).2
        have := F.x0
        omega
    rw [this]; rfl
  · rw [if_neg hR]
    have hcl : ¬ iterS (stepS fs c) x K = x := fun e => hR (hr.2 e)
    have hbad : alongS fs (nextS (at_ fs x) c 1) c < 0 := by
      rcases Int.lt_or_le (alongS fs (nextS (at_ fs x) c 1) c) 0 with g | g
      · exact g
      · exact absurd (F.closes.1 g) hcl
    have hKn : iterS (stepS fs c) x K < 0 := F.stop.resolve_right hcl
    have hK := F.pos
    obtain ⟨l0, l1, lv⟩ := F.mem (i := K - 1) (by omega)
    have hstep : stepS fs c (iterS (stepS fs c) x (K - 1)) < 0 := by
      obtain ⟨m, rfl⟩ : ∃ m, K = m + 1 := ⟨K - 1, by omega⟩
      exact hKn
    have hxs := side_next F.hg F.x0 F.x1 F.xv
    have hls := side_prev F.hg l0 l1 lv
    have hny : nextS (at_ fs x) c 1 ≠ nextS (at_ fs (iterS (stepS fs c) x (K - 1))) c (-1) := fun e => by
      have hs2 : alongS fs c (nextS (at_ fs (iterS (stepS fs c) x (K - 1))) c (-1)) < 0 := hstep
      rw [← e, hxs] at hs2
      have := F.x0; omega
    have rng : ∀ f : Int, 0 ≤ f → f < fs.length → c ∈ at_ fs f → ∀ b, 0 ≤ nextS (at_ fs f) c b ∧ nextS (at_ fs f) c b < n := fun f f0 f1 fv b => next_in F.hg f0 f1 fv b
    have hself : ∀ y : Int, 0 ≤ alongS fs c y ∨ 0 ≤ alongS fs y c → y ≠ c := by
      intro y hy e
      subst e
      have hy' : 0 ≤ alongS fs y y := by omega
      obtain ⟨g1, g2, _⟩ := along_some hy'
      have := side_in F.hg (s := ((y, y), (alongS fs y y).toNat)) (mem_sides.2 ⟨by omega, by rw [Int.toNat_of_nonneg hy']; exact g2⟩)
      exact this.2.2.2.2.1 rfl
    have hperm : ((eOut fs n n).filter (lone c)).Perm [edgeP fs c (nextS (at_ fs x) c 1), edgeP fs c (nextS (at_ fs (iterS (stepS fs c) x (K - 1))) c (-1))] := by
      refine (List.perm_ext_iff_of_nodup hnd (by simp; exact fun e => hny (edgeP_inj e))).2 fun e => ?_
      rw [List.mem_filter, mem_at_c h0 h1]
      simp only [List.mem_cons, List.not_mem_nil, or_false]
      constructor
      · rintro ⟨y, _, _, _, rfl, hp, hm⟩
        by_cases ha : 0 ≤ alongS fs c y
        · left
          obtain ⟨g1, g2, g3⟩ := of_side F.hg ha
          have hb := F.pred ha g1 g2 (by rw [g3]; omega)
          rw [← hb, g3]
        · right
          have hb : 0 ≤ alongS fs y c := by omega
          obtain ⟨g1, g2, g3⟩ := of_side' F.hg hb
          have := (F.end_ hb g1 g2 (by unfold stepS; rw [g3]; omega)).1
          rw [← this, g3]
      · rintro (rfl | rfl)
        · have r := rng x F.x0 F.x1 F.xv 1
          have hp : 0 ≤ alongS fs c (nextS (at_ fs x) c 1) ∨ 0 ≤ alongS fs (nextS (at_ fs x) c 1) c := .inl (by rw [hxs]; exact F.x0)
          exact ⟨_, r.1, r.2, hself _ hp, rfl, hp, .inr hbad⟩
        · have r := rng _ l0 l1 lv (-1)
          have hp : 0 ≤ alongS fs c (nextS (at_ fs (iterS (stepS fs c) x (K - 1))) c (-1)) ∨ 0 ≤ alongS fs (nextS (at_ fs (iterS (stepS fs c) x (K - 1))) c (-1)) c := .inr (by rw [hls]; exact l0)
          exact ⟨_, r.1, r.2, hself _ hp, rfl, hp, .inl hstep⟩
    rw [hperm.length_eq]; rfl
end Go.Proofs.T
namespace Go.Proofs.T
open Go Go.AH
/-! ### What TopoCounts counts -/
def twoB (e : Ed) : Bool := decide (¬ min e.F e.G < 0)
def twoN (l : List Ed) (i : Int) : Int := ((l.take i.toNat).countP twoB : Nat)
theorem edged_not {t : Tp} {j : Int} (h0 : 0 ≤ j) (h1 : j < t.ed.length) (h : edgedS t j = false) : ¬ min (at_ t.ed j).F (at_ t.ed j).G < 0 := fun g => by
  unfold edgedS at h; exact of_decide_eq_false h ⟨h0, h1, g⟩
theorem two_le (l : List Ed) (i : Int) : 0 ≤ twoN l i ∧ twoN l i ≤ i.toNat := by
  unfold twoN
  have := List.countP_le_length (p := twoB) (l := l.take i.toNat)
  rw [List.length_take] at this; omega
def sumL (l : List (List Int)) : Int := ((l.map List.length).sum : Nat)
theorem sum_step {l : List (List Int)} {i : Int} (h0 : 0 ≤ i) (h1 : i < l.length) : sumL (l.take (i + 1).toNat) = sumL (l.take i.toNat) + (at_ l i).length := by
  unfold sumL; rw [take_step h0 h1]; simp
theorem sides_sum (fs : List (List Int)) : ((sides fs).length : Int) = sumL fs := by
  have key : ∀ (fs : List (List Int)) (k : Nat), (sidesFrom k fs).length = (fs.map List.length).sum := by
    intro fs
    induction fs with
    | nil => intro k; rfl
    | cons l fs ih => intro k; rw [sidesFrom, List.length_append, List.length_map, wayF_len, ih]; simp
  unfold sides sumL; rw [key]
theorem sum_le {fs : List (List Int)} (i : Int) : 0 ≤ sumL (fs.take i.toNat) ∧ sumL (fs.take i.toNat) ≤ (sides fs).length := by
  rw [sides_sum]
  refine ⟨by unfold sumL; omega, ?_⟩
  have h := congrArg sumL (List.take_append_drop i.toNat fs)
  have h2 : sumL (fs.take i.toNat ++ fs.drop i.toNat) = sumL (fs.take i.toNat) + sumL (fs.drop i.toNat) := by unfold sumL; rw [List.map_append, List.sum_append]; omega
  rw [h2] at h
  have : 0 ≤ sumL (fs.drop i.toNat) := by unfold sumL; omega
  omega
theorem find_law {n : Int} {fs : List (List Int)} (h : okS n fs) {f i : Int} (f0 : 0 ≤ f) (f1 : f < fs.length) (i0 : 0 ≤ i) (i1 : i < (at_ fs f).length) :
    (findS (buildT n fs) (at_ (at_ fs f) i) (at_ (at_ fs f) ((i + 1) % (at_ fs f).length))).isSome = true ∧
    0 ≤ optI (findS (buildT n fs) (at_ (at_ fs f) i) (at_ (at_ fs f) ((i + 1) % (at_ fs f).length))) ∧
    optI (findS (buildT n fs) (at_ (at_ fs f) i) (at_ (at_ fs f) ((i + 1) % (at_ fs f).length))) < (buildT n fs).ed.length ∧
    (at_ (at_ fs f) i < at_ (at_ fs f) ((i + 1) % (at_ fs f).length) → (at_ (buildT n fs).ed (optI (findS (buildT n fs) (at_ (at_ fs f) i) (at_ (at_ fs f) ((i + 1) % (at_ fs f).length))))).F = f) ∧
    (at_ (at_ fs f) ((i + 1) % (at_ fs f).length) < at_ (at_ fs f) i → (at_ (buildT n fs).ed (optI (findS (buildT n fs) (at_ (at_ fs f) i) (at_ (at_ fs f) ((i + 1) % (at_ fs f).length))))).G = f) := by
  have hw : (at_ (at_ fs f) i, at_ (at_ fs f) ((i + 1) % (at_ fs f).length)) ∈ wayF (at_ fs f) := mem_wayF.2 ⟨i, i0, i1, rfl, rfl⟩
  generalize at_ (at_ fs f) i = a at hw ⊢
  generalize at_ (at_ fs f) ((i + 1) % (at_ fs f).length) = b at hw ⊢
  have ha := along_good h.2.1 f0 f1 hw
  have hs := side_in h.2.1 (s := ((a, b), f.toNat)) (mem_sides.2 ⟨by omega, by rw [Int.toNat_of_nonneg f0]; exact hw⟩)
  simp only at hs
  rw [(build_ok h).1]
  have hm : (⟨min a b, max a b, alongS fs (min a b) (max a b), alongS fs (max a b) (min a b)⟩ : Ed) ∈ eOut fs n n := by
    refine mem_eOut.2 ⟨by simp only; omega, by simp only; obtain ⟨e1, e2, e3, e4, e5, _⟩ := hs; omega, by simp only; omega, rfl, rfl, ?_⟩
    simp only
    rcases Int.le_total a b with g | g
    · rw [Int.min_eq_left g, Int.max_eq_right g]; left; omega
    · rw [Int.min_eq_right g, Int.max_eq_left g]; right; omega
  cases hf : findS ⟨eOut fs n n, fansU fs n, rndU fs n⟩ a b with
  | none =>
    unfold findS at hf
    rw [List.findIdx?_eq_none_iff] at hf
    have := hf _ hm
    simp at this
  | some k =>
    unfold findS at hf
    rw [List.findIdx?_eq_some_iff_getElem] at hf
    obtain ⟨k1, k2, _⟩ := hf
    simp only [decide_eq_true_eq] at k2
    have hk : at_ (eOut fs n n) (k : Int) = (eOut fs n n)[k] := by simp [at_, k1]
    have he := mem_eOut.1 (List.getElem_mem k1)
    refine ⟨rfl, by simp [optI], by simp only [optI]; exact Int.ofNat_lt.2 k1, fun g => ?_, fun g => ?_⟩
    · simp only [optI]; rw [hk, he.2.2.2.1, k2.1, k2.2, Int.min_eq_left (by omega), Int.max_eq_right (by omega)]; exact ha
    · simp only [optI]; rw [hk, he.2.2.2.2.1, k2.1, k2.2, Int.min_eq_right (by omega), Int.max_eq_left (by omega)]; exact ha
/-! ### Edges and sides -/
def sidesE (e : Ed) : List (Int × Int) := (if 0 ≤ e.F then [(e.A, e.B)] else []) ++ if 0 ≤ e.G then [(e.B, e.A)] else []
theorem sidesE_len (l : List Ed) (h : ∀ e ∈ l, 0 ≤ e.F ∨ 0 ≤ e.G) : ((l.flatMap sidesE).length : Int) = l.length + l.countP twoB := by
  induction l with
  | nil => rfl
  | cons e l ih =>
    have h1 := ih fun x hx => h x (.tail _ hx)
    have h2 := h e (.head _)
    rw [List.flatMap_cons, List.length_append, List.countP_cons, List.length_cons]
    have h3 : (sidesE e).length = 1 + if twoB e = true then 1 else 0 := by
      unfold sidesE twoB
      by_cases a : 0 ≤ e.F <;> by_cases b : 0 ≤ e.G
      · rw [if_pos a, if_pos b, if_pos (by rw [decide_eq_true_eq]; omega)]; rfl
      · rw [if_pos a, if_neg b, if_neg (by rw [decide_eq_true_eq]; omega)]; rfl
      · rw [if_neg a, if_pos b, if_neg (by rw [decide_eq_true_eq]; omega)]; rfl
      · omega
    omega
theorem two_law {n : Int} {fs : List (List Int)} (h : okS n fs) : twoN (buildT n fs).ed (buildT n fs).ed.length = (sides fs).length - (buildT n fs).ed.length := by
  rw [(build_ok h).1]
  unfold twoN
  simp only [Int.toNat_natCast, List.take_length]
  have hm : ∀ e ∈ eOut fs n n, 0 ≤ e.F ∨ 0 ≤ e.G := fun e he => (mem_eOut.1 he).2.2.2.2.2
  have h1 := sidesE_len _ hm
  have hk : ((sides fs).map Prod.fst).Nodup := good_keys h.2.1
  have hn : ((eOut fs n n).flatMap sidesE).Nodup := by
    rw [List.nodup_iff_pairwise_ne, List.pairwise_flatMap]
    refine ⟨fun e he => ?_, ?_⟩
    · have := mem_eOut.1 he
      unfold sidesE
      by_cases a : 0 ≤ e.F <;> by_cases b : 0 ≤ e.G <;> simp only [a, b, if_true, if_false, List.append_nil, List.nil_append, List.singleton_append, List.pairwise_cons, List.mem_singleton, List.not_mem_nil, forall_eq, List.Pairwise.nil, and_true] <;> try simp
      omega
    · refine List.Pairwise.imp_of_mem ?_ (eOut_sorted fs n)
      intro x y hx hy hxy p hp q hq e
      subst e
      have hx' := mem_eOut.1 hx
      have hy' := mem_eOut.1 hy
      unfold sidesE at hp hq
      have c1 : p = (x.A, x.B) ∨ p = (x.B, x.A) := by
        rcases List.mem_append.1 hp with g | g <;> split at g <;> simp at g
        · exact .inl g
        · exact .inr g
      have c2 : p = (y.A, y.B) ∨ p = (y.B, y.A) := by
        rcases List.mem_append.1 hq with g | g <;> split at g <;> simp at g
        · exact .inl g
        · exact .inr g
      unfold ltE at hxy
      rcases c1 with rfl | rfl <;> rcases c2 with c2 | c2 <;> rw [Prod.mk.injEq] at c2 <;> omega
  have hp : ((eOut fs n n).flatMap sidesE).Perm ((sides fs).map Prod.fst) := by
    refine (List.perm_ext_iff_of_nodup hn hk).2 fun w => ?_
    rw [List.mem_flatMap, List.mem_map]
    constructor
    · rintro ⟨e, he, hw⟩
      have he' := mem_eOut.1 he
      unfold sidesE at hw
      rcases List.mem_append.1 hw with g | g <;> split at g
      · rename_i hF
        simp only [List.mem_singleton] at g
        subst g
        rw [he'.2.2.2.1] at hF
        obtain ⟨g1, g2, _⟩ := along_some hF
        exact ⟨((e.A, e.B), (alongS fs e.A e.B).toNat), mem_sides.2 ⟨by omega, by rw [Int.toNat_of_nonneg hF]; exact g2⟩, rfl⟩
      · simp at g
      · rename_i hG
        simp only [List.mem_singleton] at g
        subst g
        rw [he'.2.2.2.2.1] at hG
        obtain ⟨g1, g2, _⟩ := along_some hG
        exact ⟨((e.B, e.A), (alongS fs e.B e.A).toNat), mem_sides.2 ⟨by omega, by rw [Int.toNat_of_nonneg hG]; exact g2⟩, rfl⟩
      · simp at g
    · rintro ⟨s, hs, rfl⟩
      have g := side_in h.2.1 hs
      obtain ⟨⟨a, b⟩, f⟩ := s
      simp only at g ⊢
      rcases Int.lt_or_le a b with c | c
      · refine ⟨⟨a, b, alongS fs a b, alongS fs b a⟩, mem_eOut.2 ⟨g.1, c, g.2.2.2.1, rfl, rfl, .inl g.2.2.2.2.2⟩, ?_⟩
        unfold sidesE; simp only; rw [if_pos g.2.2.2.2.2]; simp
      · refine ⟨⟨b, a, alongS fs b a, alongS fs a b⟩, mem_eOut.2 ⟨g.2.2.1, by simp only; omega, g.2.1, rfl, rfl, .inr g.2.2.2.2.2⟩, ?_⟩
        unfold sidesE; simp only; rw [if_pos g.2.2.2.2.2]; simp
  have h2 := hp.length_eq
  rw [List.length_map] at h2
  omega
/-! ### Corners -/
theorem fan_mine {n : Int} {fs : List (List Int)} (h : okS n fs) {c : Int} (h0 : 0 ≤ c) (h1 : c < n) : (fanL fs c).length = (mineU fs c fs.length).length := by
  have hf := h.2.2 c h0 h1
  unfold fanOK at hf
  split at hf
  · cases hf
  · exact of_decide_eq_true hf
theorem fans_len {n : Int} {fs : List (List Int)} (h : okS n fs) : ((buildT n fs).fan.length : Int) = n := by
  rw [(build_ok h).1]; have := h.1; simp [fansU]; omega
end Go.Proofs.T
namespace Go.Proofs.T
open Go Go.AH
/-! ### Faces the other way round -/
def backS (fs : List (List Int)) : List (List Int) := fs.map List.reverse
theorem back_len (fs : List (List Int)) : (backS fs).length = fs.length := by simp [backS]
theorem rev_at {l : List Int} {i : Int} (h0 : 0 ≤ i) (h1 : i < l.length) : at_ l.reverse i = at_ l (l.length - 1 - i) := by
  have e : ((l.length : Int) - 1 - i).toNat = l.length - 1 - i.toNat := by omega
  have h : i.toNat < l.length := by omega
  have h2 : l.length - 1 - i.toNat < l.length := by omega
  unfold at_
  rw [List.getD_eq_getElem?_getD, List.getD_eq_getElem?_getD, List.getElem?_reverse h, e]
theorem succ_mod {n i : Nat} (h : i < n) : (i + 1) % n = if i + 1 < n then i + 1 else 0 := by
  split
  · exact Nat.mod_eq_of_lt (by assumption)
  · have : i + 1 = n := by omega
    rw [this, Nat.mod_self]
theorem modc (n i : Nat) : ((i : Int) + 1) % (n : Int) = (((i + 1) % n : Nat) : Int) := by rw [Int.natCast_emod]; rfl
theorem way_rev (l : List Int) : (wayF l.reverse).Perm ((wayF l).map fun w => (w.2, w.1)) := by
  unfold wayF
  rw [List.length_reverse, List.map_map]
  have hp : ((List.range l.length).map fun i => l.length - 1 - (i + 1) % l.length).Perm (List.range l.length) := by
    refine (List.perm_ext_iff_of_nodup ?_ List.nodup_range).2 fun j => ?_
    · rw [List.nodup_iff_pairwise_ne, List.pairwise_map]
      refine List.Pairwise.imp_of_mem ?_ List.pairwise_lt_range
      intro a b ha hb hab
      rw [List.mem_range] at ha hb
      rw [succ_mod ha, succ_mod hb]
      split <;> split <;> omega
    · rw [List.mem_map, List.mem_range]
      constructor
      · rintro ⟨i, hi, rfl⟩; rw [List.mem_range] at hi; omega
      · intro hj
        by_cases g : j = l.length - 1
        · refine ⟨l.length - 1, List.mem_range.2 (by omega), ?_⟩
          rw [succ_mod (by omega), if_neg (by omega)]; omega
        · refine ⟨l.length - 2 - j, List.mem_range.2 (by omega), ?_⟩
          rw [succ_mod (by omega), if_pos (by omega)]; omega
  have e : (List.range l.length).map (fun (i : Nat) => (at_ l.reverse (i : Int), at_ l.reverse (((i : Int) + 1) % (l.length : Int)))) =
      ((List.range l.length).map fun i => l.length - 1 - (i + 1) % l.length).map ((fun w : Int × Int => (w.2, w.1)) ∘ fun (i : Nat) => (at_ l (i : Int), at_ l (((i : Int) + 1) % (l.length : Int)))) := by
    rw [List.map_map]
    apply List.map_congr_left
    intro i hi
    rw [List.mem_range] at hi
    have hm : (i + 1) % l.length < l.length := Nat.mod_lt _ (by omega)
    simp only [Function.comp_apply, modc]
    rw [rev_at (by omega) (by omega), rev_at (by omega) (by omega)]
    congr 1
    · congr 1
      rw [succ_mod (i := l.length - 1 - (i + 1) % l.length) (by omega), succ_mod hi]
      split <;> split <;> omega
    · congr 1; omega
  rw [e]
  exact hp.map _
theorem side_rev (fs : List (List Int)) : ∀ k, (sidesFrom k (backS fs)).Perm ((sidesFrom k fs).map fun s => ((s.1.2, s.1.1), s.2)) := by
  induction fs with
  | nil => intro k; exact .refl _
  | cons l fs ih =>
    intro k
    show ((wayF l.reverse).map (fun w => (w, k)) ++ sidesFrom (k + 1) (backS fs)).Perm _
    rw [sidesFrom, List.map_append]
    refine List.Perm.append ?_ (ih _)
    have := (way_rev l).map fun w => (w, k)
    rw [List.map_map] at this ⊢
    exact this
theorem sides_back_len (fs : List (List Int)) : (sides (backS fs)).length = (sides fs).length := by
  have := (side_rev fs 0).length_eq
  rw [List.length_map] at this
  exact this
theorem apart_of {l : List Int} (h : l.Nodup) : Apart l := by
  intro i k h0 h1 h2 e
  rw [List.nodup_iff_pairwise_ne, List.pairwise_iff_getElem] at h
  have hi : i.toNat < l.length := by omega
  have hk : k.toNat < l.length := by omega
  exact h k.toNat i.toNat hk hi (by omega) (by simpa [at_, hi, hk] using e.symm)
theorem first_key (fs : List (List Int)) (c : Int) (m : Nat) : (firstN fs c m < 0 → ∀ f : Int, 0 ≤ f → f < m → c ∈ at_ fs f → 0 ≤ alongS fs (nextS (at_ fs f) c 1) c) ∧ (0 ≤ firstN fs c m → alongS fs (nextS (at_ fs (firstN fs c m)) c 1) c < 0) := by
  induction m with
  | zero => exact ⟨fun _ f f0 f1 => by omega, fun h => by simp [firstN] at h⟩
  | succ m ih =>
    unfold firstN
    split
    · rename_i g; exact ⟨fun e => by omega, fun _ => g.2⟩
    · rename_i g
      refine ⟨fun e f f0 f1 fv => ?_, ih.2⟩
      by_cases c2 : f = m
      · subst c2
        rcases Int.lt_or_le (alongS fs (nextS (at_ fs (m : Int)) c 1) c) 0 with g2 | g2
        · exact absurd ⟨fv, g2⟩ g
        · exact g2
      · exact ih.1 e f f0 (by omega) fv
theorem mine_nodup (fs : List (List Int)) (c : Int) (i : Int) : (mineU fs c i).Nodup := by
  unfold mineU
  rw [List.nodup_iff_pairwise_ne, List.pairwise_flatMap]
  refine ⟨fun k _ => by split <;> simp, List.Pairwise.imp ?_ List.pairwise_lt_range⟩
  intro a b hab x hx y hy e
  subst e
  split at hx <;> split at hy <;> simp at hx hy
  omega
/-- A fan that is all of a vertex's faces is right. -/
theorem Fan.ok {n c : Int} {fs : List (List Int)} {K : Nat} (F : Fan fs n c (headS fs c) K) : K = stopK fs c (headS fs c) ∧ fanOK fs c = true := by
  have h1 := run_le F.hg F.x0 F.x1 F.xv F.run
  have h2 := mine_le fs c fs.length
  have hK := stop_of (by omega) F.run ⟨F.pos, F.stop⟩
  refine ⟨hK, ?_⟩
  have hne : mineU fs c fs.length ≠ [] := fun e => by
    have := F.pos
    rw [e] at h1; simp at h1; omega
  unfold fanOK fanL
  rw [if_neg hne, if_neg hne, ← hK, orb_len, decide_eq_true_eq]
  have h3 : mineU fs c fs.length ⊆ orbS fs c (headS fs c) K := by
    intro f hf
    obtain ⟨f0, f1, fv⟩ := mem_mineU.1 hf
    obtain ⟨i, hi, e⟩ := F.cover f f0 f1 fv
    unfold orbS
    exact List.mem_map.2 ⟨i, List.mem_range.2 hi, e⟩
  have := List.Nodup.length_le_of_subset (mine_nodup fs c fs.length) h3
  rw [orb_len] at this
  omega
section
variable {n c x : Int} {fs : List (List Int)} {K : Nat}
theorem Fan.inj (F : Fan fs n c x K) {i j : Nat} (hi : i < K) (hj : j < K) (e : iterS (stepS fs c) x i = iterS (stepS fs c) x j) : i = j := by
  have h := run_inj F.hg F.x0 F.x1 F.xv F.run
  rcases Nat.lt_trichotomy i j with g | g | g
  · exact absurd e (h i j g hj)
  · exact g
  · exact absurd e.symm (h j i g hi)
end
end Go.Proofs.T
namespace Go.Proofs.T
open Go Go.AH
theorem SepM.put_ {L : List ME} {x : Int} {w v : AV} {xs : List Int} (h : SepM (restM L x) v) (hw : Sep w v) : SepM (putM L x w xs) v := fun e he => by
  rcases mem_putM he with rfl | ⟨h1, h2⟩
  · exact hw
  · exact h e (List.mem_filter.2 ⟨h1, by simpa using h2⟩)
end Go.Proofs.T
namespace Go.Proofs.U
open Go Go.AH Go.Proofs.T
set_option maxRecDepth 4000
def adjM (ed : List Ed) (k : Int) (x : Int) : List Int := adjU ed k x ++ if (at_ ed k).A = x then [k] else []
theorem adj_next {ed : List Ed} {k : Int} (h : 0 ≤ k) (x : Int) : adjU ed (k + 1) x = adjM ed k x ++ if (at_ ed k).B = x then [k] else [] := by
  have e : (k + 1).toNat = k.toNat + 1 := by omega
  have e2 : ((k.toNat : Nat) : Int) = k := by omega
  unfold adjM adjU
  rw [e, List.range_succ, List.map_append, List.flatMap_append]
  simp only [List.map_cons, List.map_nil, List.flatMap_cons, List.flatMap_nil, List.append_nil, e2, List.append_assoc]
theorem adj_A {ed : List Ed} {k : Int} {L : List ME} {w : AV} {xs : List Int} (h : ∀ x, (getM L x).2 = adjU ed k x) (hx : xs = (getM L (at_ ed k).A).2 ++ [k]) : ∀ x, (getM (putM L (at_ ed k).A w xs) x).2 = adjM ed k x := fun x => by
  rw [getM_put]; unfold adjM
  by_cases e : x = (at_ ed k).A
  · subst e; rw [if_pos rfl, if_pos rfl, hx, h]
  · rw [if_neg e, if_neg (fun g => e g.symm), List.append_nil, h]
theorem adj_B {ed : List Ed} {k : Int} {L : List ME} {w : AV} {xs : List Int} (h0 : 0 ≤ k) (h : ∀ x, (getM L x).2 = adjM ed k x) (hx : xs = (getM L (at_ ed k).B).2 ++ [k]) : ∀ x, (getM (putM L (at_ ed k).B w xs) x).2 = adjU ed (k + 1) x := fun x => by
  rw [getM_put, adj_next h0]
  by_cases e : x = (at_ ed k).B
  · subst e; rw [if_pos rfl, if_pos rfl, hx, h]
  · rw [if_neg e, if_neg (fun g => e g.symm), List.append_nil, h]
theorem adj_len (ed : List Ed) (k x : Int) : (adjU ed k x).length ≤ 2 * k.toNat := by
  unfold adjU
  induction k.toNat with
  | zero => simp
  | succ m ih =>
    rw [List.range_succ, List.map_append, List.flatMap_append, List.length_append]
    have : ((([m] : List Nat).map fun (j : Nat) => (j : Int)).flatMap fun j => (if (at_ ed j).A = x then [j] else []) ++ (if (at_ ed j).B = x then [j] else [])).length ≤ 2 := by
      simp only [List.map_cons, List.map_nil, List.flatMap_cons, List.flatMap_nil, List.append_nil, List.length_append]
      split <;> split <;> simp
    omega
theorem adjM_len (ed : List Ed) {k : Int} (h : 0 ≤ k) (x : Int) : (adjM ed k x).length ≤ 2 * k.toNat + 1 := by
  unfold adjM; rw [List.length_append]
  have := adj_len ed k x
  split <;> simp <;> omega
theorem adj_mem {ed : List Ed} {k x e : Int} (h : e ∈ adjU ed k x) : (0 ≤ e ∧ e < k) ∧ (x = (at_ ed e).A ∨ x = (at_ ed e).B) := by
  unfold adjU at h
  obtain ⟨j, hj, hm⟩ := List.mem_flatMap.1 h
  obtain ⟨m, hm2, rfl⟩ := List.mem_map.1 hj
  rw [List.mem_range] at hm2
  rcases List.mem_append.1 hm with g | g
  · split at g
    · rename_i q; simp only [List.mem_singleton] at g; subst g; exact ⟨by omega, .inl q.symm⟩
    · cases g
  · split at g
    · rename_i q; simp only [List.mem_singleton] at g; subst g; exact ⟨by omega, .inr q.symm⟩
    · cases g
def egR (ed : List Ed) (n : Nat) : List (List Int) := (List.range n).map fun (x : Nat) => adjU ed ed.length (x : Int)
theorem egR_len (ed : List Ed) (n : Nat) : (egR ed n).length = n := by simp [egR]
theorem egR_at {ed : List Ed} {n : Nat} {x : Int} (h0 : 0 ≤ x) (h1 : x < n) : at_ (egR ed n) x = adjU ed ed.length x := by
  have h : x.toNat < n := by omega
  have e : ((x.toNat : Nat) : Int) = x := by omega
  simp [at_, egR, h, e]
theorem gF_eg {ed : List Ed} {L : List ME} {k : Int} {n : Nat} (h : ∀ x, (getM L x).2 = adjU ed k x) (hk : k = ed.length) : gF L n = egR ed n := by
  subst hk; unfold gF egR; exact List.map_congr_left fun j _ => h _
/-! ### What Level comes to -/
def U_ {α : Type} (f : Int → α) (k : Int) : List α := (List.range k.toNat).map fun (j : Nat) => f (j : Int)
theorem U_step {α : Type} {f : Int → α} {k : Int} (h : 0 ≤ k) : U_ f k ++ [f k] = U_ f (k + 1) := by
  have e : (k + 1).toNat = k.toNat + 1 := by omega
  have e2 : ((k.toNat : Nat) : Int) = k := by omega
  unfold U_; rw [e, List.range_succ, List.map_append, List.map_singleton, e2]
theorem U_len {α : Type} (f : Int → α) (k : Int) : (U_ f k).length = k.toNat := by simp [U_]
theorem U_at {α : Type} [Inhabited α] {f : Int → α} {k i : Int} (h0 : 0 ≤ i) (h1 : i < k) : at_ (U_ f k) i = f i := by
  have h : i.toNat < k.toNat := by omega
  have e : ((i.toNat : Nat) : Int) = i := by omega
  simp [at_, U_, h, e]
def F_ {α : Type} (f : Int → List α) (k : Int) : List α := (U_ f k).flatten
theorem F_step {α : Type} {f : Int → List α} {k : Int} (h : 0 ≤ k) : F_ f k ++ f k = F_ f (k + 1) := by
  unfold F_; rw [← U_step h, List.flatten_append]; simp
theorem mem_U {α : Type} {f : Int → α} {k : Int} {x : α} (h : x ∈ U_ f k) : ∃ j : Int, 0 ≤ j ∧ j < k ∧ x = f j := by
  obtain ⟨j, hj, rfl⟩ := List.mem_map.1 h
  rw [List.mem_range] at hj
  exact ⟨j, by omega, by omega, rfl⟩
def fcR (vs : List VT) (fs : List (List Int)) (k : Int) : List VT := U_ (fun f => faceP vs (at_ fs f)) k
def v1R (vs fc : List VT) (t : Tp) (sh : List Int) (k : Int) : List VT := U_ (fun v => vertP vs fc t.ed sh (at_ t.fan v) (at_ (egR t.ed vs.length) v) v) k
def v2R (vs fc : List VT) (t : Tp) (sh : List Int) (k : Int) : List VT := U_ (fun i => edgeP vs fc (at_ t.ed i) (at_ sh i)) k
def crR (n : Int) (t : Tp) (sh : List Int) (k : Int) : List CrT := F_ (fun i => creaseP n t sh i) k
def faR (n : Int) (t : Tp) (fs : List (List Int)) (k : Int) : List (List Int) := F_ (fun f => partsU n t f (at_ fs f) (at_ fs f).length) k
def farV (v : VT) : Bool := decide (¬ inV 65536 v)
noncomputable def levelR (vs : List VT) (fs : List (List Int)) (cr : List CrT) : CageT × Int :=
  if buildE vs.length fs ≠ 0 then (⟨[], [], []⟩, buildE vs.length fs)
  else if (sharpR (buildT vs.length fs) cr).2 ≠ 0 then (⟨[], [], []⟩, (sharpR (buildT vs.length fs) cr).2)
  else if vs.any farV then (⟨[], [], []⟩, 21)
  else (⟨v1R vs (fcR vs fs fs.length) (buildT vs.length fs) (sharpR (buildT vs.length fs) cr).1 vs.length ++ v2R vs (fcR vs fs fs.length) (buildT vs.length fs) (sharpR (buildT vs.length fs) cr).1 (buildT vs.length fs).ed.length ++ fcR vs fs fs.length,
    faR vs.length (buildT vs.length fs) fs fs.length, crR vs.length (buildT vs.length fs) (sharpR (buildT vs.length fs) cr).1 (buildT vs.length fs).ed.length⟩, 0)
end Go.Proofs.U
namespace Go.Proofs.U
open Go Go.AH Go.Proofs.T
theorem within_of {m : Int} {v : VT} (h : min (min v.X v.Y) v.Z ≥ -m) (g : max (max v.X v.Y) v.Z ≤ m) : inV m v := by unfold inV; omega
theorem not_within {m : Int} {v : VT} (h : ¬ (min (min v.X v.Y) v.Z ≥ -m ∧ max (max v.X v.Y) v.Z ≤ m)) : ¬ inV m v := by unfold inV; omega
def idxV (l : List VT) : Int := match l.findIdx? farV with | some k => k | none => -1
theorem idxV_hit {l : List VT} {i : Int} (h0 : 0 ≤ i) (h1 : i < l.length) (hp : ∀ j : Int, 0 ≤ j → j < i → farV (at_ l j) = false) (h : farV (at_ l i) = true) : i = idxV l := by
  have hl : i.toNat < l.length := by omega
  have e : l.findIdx? farV = some i.toNat := by
    rw [List.findIdx?_eq_some_iff_getElem]
    refine ⟨hl, ?_, fun j hj => ?_⟩
    · have : at_ l i = l[i.toNat] := by simp [at_, hl]
      rw [← this]; exact h
    · have := hp j (by omega) (by omega)
      have hj' : j < l.length := by omega
      have e2 : at_ l (j : Int) = l[j] := by simp [at_, hj']
      rw [e2] at this; simp [this]
  unfold idxV; rw [e]; simp only; omega
theorem idxV_none {l : List VT} {i : Int} (h1 : (l.length : Int) ≤ i) (hp : ∀ j : Int, 0 ≤ j → j < i → farV (at_ l j) = false) : (-1 : Int) = idxV l := by
  have e : l.findIdx? farV = none := by
    rw [List.findIdx?_eq_none_iff]
    intro x hx
    obtain ⟨k, h2, h3⟩ := List.getElem_of_mem hx
    have := hp k (by omega) (by omega)
    have e2 : at_ l (k : Int) = l[k] := by simp [at_, h2]
    rw [e2, h3] at this; exact this
  unfold idxV; rw [e]
theorem idxV_any (l : List VT) : decide (idxV l ≥ 0) = l.any farV := by
  unfold idxV
  cases h : l.findIdx? farV with
  | none =>
    rw [List.findIdx?_eq_none_iff] at h
    have : l.any farV = false := by rw [List.any_eq_false]; intro x hx; rw [h x hx]; decide
    rw [this]; rfl
  | some k =>
    rw [List.findIdx?_eq_some_iff_getElem] at h
    obtain ⟨h1, h2, _⟩ := h
    have : l.any farV = true := List.any_eq_true.2 ⟨_, List.getElem_mem h1, h2⟩
    rw [this, decide_eq_true_eq]; simp only; omega
theorem any_in {l : List VT} (h : l.any farV = false) : ∀ v ∈ l, inV 65536 v := fun v hv => by
  rw [List.any_eq_false] at h
  have := h v hv
  simpa [farV] using this
end Go.Proofs.U
namespace Go.Proofs.U
open Go Go.AH Go.Proofs.T
set_option maxRecDepth 4000
set_option linter.unusedSimpArgs false
set_option linter.unusedVariables false
theorem c_vWithin (v : VT) (m : Int) (hm : -9223372036854775807 ≤ m ∧ m ≤ 9223372036854775807) : PC Try.prog 21 [.agg [.int .i64 v.X, .int .i64 v.Y, .int .i64 v.Z], .int .i64 m] (.bool (decide (inV m v))) := by
 intro H0
 refine ACalls.of_body' (n := 26) rfl rfl rfl rfl ?_
 have m0 := Mono.refl H0
 refine AWP.seq ?_
 refine AWP.region (l := [0, 1]) rfl ?_
 refine AOps.cons rfl rfl (AOp.box (.agg [.int .i64 v.X, .int .i64 v.Y, .int .i64 v.Z]) rfl rfl rfl ?_)
 intro i1 H2 n3 h4 k5
 have z6 := Mono.free m0 n3
 have m7 := Mono.new m0 n3 k5
 refine AOps.cons rfl rfl (AOp.assign (.bool false) rfl rfl ?_)
 refine AOps.nil ?_
 change AWP _ _ _ _ _ _
 refine AWP.seq ?_
 refine AWP.frzP 2 h4 z6 rfl m7 fun H8 m9 k10 => ?_
 refine AWP.region (l := [0, 1, 2, 3, 4, 5, 6, 7, 8, 9, 10, 11, 12, 13, 14, 15, 16, 17, 18, 19, 20, 21]) rfl ?_
 refine AOps.cons rfl rfl (AOp.fieldAddrF rfl rfl fl_42_0 ?_)
 refine AOps.cons rfl rfl (AOp.loadF (.int .i64 v.X) rfl rfl ty_3 rfl ?_)
 refine AOps.cons rfl rfl (AOp.fieldAddrF rfl rfl fl_42_1 ?_)
 refine AOps.cons rfl rfl (AOp.loadF (.int .i64 v.Y) rfl rfl ty_3 rfl ?_)
 refine AOps.cons rfl rfl (AOp.fieldAddrF rfl rfl fl_42_2 ?_)
 refine AOps.cons rfl rfl (AOp.loadF (.int .i64 v.Z) rfl rfl ty_3 rfl ?_)
 refine AOps.cons rfl rfl (AOp.min3 rfl rfl rfl rfl ?_)
 refine AOps.cons rfl rfl (AOp.move (.int .i64 m) rfl rfl ?_)
 refine AOps.cons rfl rfl (AOp.negP rfl rfl (by omega) ?_)
 refine AOps.cons rfl rfl (AOp.bin (.bool (decide (min (min v.X v.Y) v.Z ≥ -m))) rfl rfl rfl rfl ?_)
 refine AOps.cons rfl rfl (AOp.move (.bool (decide (min (min v.X v.Y) v.Z ≥ -m))) rfl rfl ?_)
 by_cases b11 : min (min v.X v.Y) v.Z ≥ -m
 ·
  refine AOps.yes rfl rfl rfl rfl rfl rfl rfl (decide_eq_true b11) (AOp.fieldAddrF rfl rfl fl_42_0 ?_)
  refine AOps.yes rfl rfl rfl rfl rfl rfl rfl (decide_eq_true b11) (AOp.loadF (.int .i64 v.X) rfl rfl ty_3 rfl ?_)
  refine AOps.yes rfl rfl rfl rfl rfl rfl rfl (decide_eq_true b11) (AOp.fieldAddrF rfl rfl fl_42_1 ?_)
  refine AOps.yes rfl rfl rfl rfl rfl rfl rfl (decide_eq_true b11) (AOp.loadF (.int .i64 v.Y) rfl rfl ty_3 rfl ?_)
  refine AOps.yes rfl rfl rfl rfl rfl rfl rfl (decide_eq_true b11) (AOp.fieldAddrF rfl rfl fl_42_2 ?_)
  refine AOps.yes rfl rfl rfl rfl rfl rfl rfl (decide_eq_true b11) (AOp.loadF (.int .i64 v.Z) rfl rfl ty_3 rfl ?_)
  refine AOps.yes rfl rfl rfl rfl rfl rfl rfl (decide_eq_true b11) (AOp.max3 rfl rfl rfl rfl ?_)
  refine AOps.yes rfl rfl rfl rfl rfl rfl rfl (decide_eq_true b11) (AOp.move (.int .i64 m) rfl rfl ?_)
  refine AOps.yes rfl rfl rfl rfl rfl rfl rfl (decide_eq_true b11) (AOp.bin (.bool (decide (max (max v.X v.Y) v.Z ≤ m))) rfl rfl rfl rfl ?_)
  refine AOps.cons rfl rfl (AOp.pickT (.bool (decide (max (max v.X v.Y) v.Z ≤ m))) rfl rfl (decide_eq_true b11) rfl ?_)
  refine AOps.cons rfl rfl (AOp.assign (.bool (decide (max (max v.X v.Y) v.Z ≤ m))) rfl rfl ?_)
  refine AOps.nil ?_
  change AWP _ _ _ _ _ _
  refine AWP.ret ?_
  refine ⟨_, _, Ghost.refl, .inr rfl, _, Res.one rfl rfl, ?_, m9⟩
  exact (congrArg AV.bool (show (decide (max (max v.X v.Y) v.Z ≤ m) : Bool) = decide (inV m v) from by first | (exact within_of (by omega) (by omega)) | (exact not_within (by omega)) | (exact (decide_eq_false (not_within (by omega))).symm) | (exact decide_eq_decide.2 ⟨fun h => within_of (by omega) h, fun h => by unfold inV at h; omega⟩)))
 ·
  refine AOps.no rfl rfl rfl rfl rfl rfl rfl (ble_of (decide_eq_false b11) (by decide)) ?_
  refine AOps.no rfl rfl rfl rfl rfl rfl rfl (ble_of (decide_eq_false b11) (by decide)) ?_
  refine AOps.no rfl rfl rfl rfl rfl rfl rfl (ble_of (decide_eq_false b11) (by decide)) ?_
  refine AOps.no rfl rfl rfl rfl rfl rfl rfl (ble_of (decide_eq_false b11) (by decide)) ?_
  refine AOps.no rfl rfl rfl rfl rfl rfl rfl (ble_of (decide_eq_false b11) (by decide)) ?_
  refine AOps.no rfl rfl rfl rfl rfl rfl rfl (ble_of (decide_eq_false b11) (by decide)) ?_
  refine AOps.no rfl rfl rfl rfl rfl rfl rfl (ble_of (decide_eq_false b11) (by decide)) ?_
  refine AOps.no rfl rfl rfl rfl rfl rfl rfl (ble_of (decide_eq_false b11) (by decide)) ?_
  refine AOps.no rfl rfl rfl rfl rfl rfl rfl (ble_of (decide_eq_false b11) (by decide)) ?_
  refine AOps.cons rfl rfl (AOp.pickF (.bool false) rfl rfl (decide_eq_false b11) rfl ?_)
  refine AOps.cons rfl rfl (AOp.assign (.bool false) rfl rfl ?_)
  refine AOps.nil ?_
  change AWP _ _ _ _ _ _
  refine AWP.ret ?_
  refine ⟨_, _, Ghost.refl, .inr rfl, _, Res.one rfl rfl, ?_, m9⟩
  exact (congrArg AV.bool (rfl.trans (decide_eq_false (show ¬ (inV m v) from by first | (exact within_of (by omega) (by omega)) | (exact not_within (by omega)) | (exact (decide_eq_false (not_within (by omega))).symm) | (exact decide_eq_decide.2 ⟨fun h => within_of (by omega) h, fun h => by unfold inV at h; omega⟩))).symm))
theorem c_far (v : VT) : PC Try.prog 34 [.agg [.int .i64 v.X, .int .i64 v.Y, .int .i64 v.Z]] (.bool (farV v)) := by
 intro H0
 refine ACalls.of_body' (n := 6) rfl rfl rfl rfl ?_
 have m0 := Mono.refl H0
 refine AWP.seq ?_
 refine AWP.region (l := [0, 1]) rfl ?_
 refine AOps.cons rfl rfl (AOp.box (.agg [.int .i64 v.X, .int .i64 v.Y, .int .i64 v.Z]) rfl rfl rfl ?_)
 intro i1 H2 n3 h4 k5
 have z6 := Mono.free m0 n3
 have m7 := Mono.new m0 n3 k5
 refine AOps.cons rfl rfl (AOp.assign (.bool false) rfl rfl ?_)
 refine AOps.nil ?_
 change AWP _ _ _ _ _ _
 refine AWP.seq ?_
 refine AWP.frzP 1 h4 z6 rfl m7 fun H8 m9 k10 => ?_
 refine AWP.region (l := [0, 1, 2, 3]) rfl ?_
 refine AOps.cons rfl rfl (AOp.loadF (.agg [.int .i64 v.X, .int .i64 v.Y, .int .i64 v.Z]) rfl rfl ty_42 rfl ?_)
 refine AOps.cons rfl rfl (AOp.pcall («as» := [.agg [.int .i64 v.X, .int .i64 v.Y, .int .i64 v.Z], .int .i64 65536]) rfl rfl (rfl) tf_21 (c_vWithin v 65536 (by omega)) ?_)
 intro H11 m12
 have m13 := m9.trans m12
 refine AOps.cons rfl rfl (AOp.not rfl rfl ?_)
 refine AOps.cons rfl rfl (AOp.assign (.bool (!(decide (inV 65536 v)))) rfl rfl ?_)
 refine AOps.nil ?_
 change AWP _ _ _ _ _ _
 refine AWP.ret ?_
 refine ⟨_, _, Ghost.refl, .inr rfl, _, Res.one rfl rfl, ?_, m13⟩
 exact (congrArg AV.bool (show (!(decide (inV 65536 v)) : Bool) = farV v from by first | rfl | (unfold farV; simp_all) | (unfold farV; rw [decide_not])))
theorem c_idxV (l : List VT) (hl : l.length ≤ 1048576) : PC Try.prog 53 [.sl l.length (l.flatMap eV), .fn 34 []] (.int .i64 (idxV l)) := by
 intro H0
 refine ACalls.of_body' (n := 19) rfl rfl rfl rfl ?_
 have m0 := Mono.refl H0
 refine AWP.seq ?_
 refine AWP.region (l := [0]) rfl ?_
 refine AOps.cons rfl rfl (AOp.assign (.int .i64 0) rfl rfl ?_)
 refine AOps.nil ?_
 change AWP _ _ _ _ _ _
 refine AWP.seq ?_
 refine AWP.seq ?_
 refine AWP.region (l := [0, 1, 2]) rfl ?_
 refine AOps.cons rfl rfl (AOp.move (.sl l.length (l.flatMap eV)) rfl rfl ?_)
 refine AOps.cons rfl rfl (AOp.len (m := l.length) rfl rfl (.inr (.inl ⟨_, rfl⟩)) u_22 ?_)
 refine AOps.cons rfl rfl (AOp.move (.int .i64 0) rfl rfl ?_)
 refine AOps.nil ?_
 change AWP _ _ _ _ _ _
 refine AWP.block ?_
 refine AWP.loop (fun q1 fq Hq => ∃ (i : Int), q1 = (((l.length : Int) : Int) - i).toNat ∧ fq 8 = .int .i64 i ∧ fq 0 = .sl l.length (l.flatMap eV) ∧ fq 1 = .fn 34 [] ∧ fq 7 = .int .i64 (l.length : Int) ∧ Mono H0 Hq ∧ (0 ≤ i) ∧ (i ≤ (l.length : Int)) ∧ (∀ j : Int, 0 ≤ j → j < i → farV (at_ l j) = false)) (k := (((l.length : Int) : Int) - 0).toNat) ?_ ?_
 ·
  exact ⟨0, rfl, rfl, rfl, rfl, rfl, m0, by omega, by omega, by intro j; omega⟩
 ·
  rintro _ f3 H2 ⟨i, rfl, s4, s5, s6, s7, m8, hi0, hi1, pre⟩
  refine AWP.seq ?_
  refine AWP.region (l := [0]) rfl ?_
  refine AOps.cons rfl rfl (AOp.bin (.bool (decide (i < (l.length : Int)))) rfl s4 s7 rfl ?_)
  refine AOps.nil ?_
  change AWP _ _ _ _ _ _
  refine AWP.seq ?_
  by_cases b9 : i < (l.length : Int)
  ·
   refine AWP.condT rfl (decide_eq_true b9) ?_
   refine AWP.skip ?_
   change AWP _ _ _ _ _ _
   refine AWP.seq ?_
   refine AWP.block ?_
   refine AWP.seq ?_
   refine AWP.region (l := [0, 1]) rfl ?_
   refine AOps.cons rfl rfl (AOp.move (.int .i64 i) rfl s4 ?_)
   refine AOps.cons rfl rfl (AOp.assign (.int .i64 i) rfl rfl ?_)
   refine AOps.nil ?_
   change AWP _ _ _ _ _ _
   refine AWP.seq ?_
   refine AWP.region (l := [0, 1, 2, 3, 4, 5]) rfl ?_
   refine AOps.cons rfl rfl (AOp.move (.fn 34 []) rfl s6 ?_)
   refine AOps.cons rfl rfl (AOp.move (.sl l.length (l.flatMap eV)) rfl s5 ?_)
   refine AOps.cons rfl rfl (AOp.move (.int .i64 i) rfl rfl ?_)
   refine AOps.cons rfl rfl (AOp.indexAddrS rfl rfl rfl sl_22 (by omega) (by omega) ?_)
   refine AOps.cons rfl rfl (AOp.loadF (.agg [.int .i64 ((at_ l i).X), .int .i64 ((at_ l i).Y), .int .i64 ((at_ l i).Z)]) rfl rfl ty_42 (ldM eV_len (by omega) (by omega)) ?_)
   refine AOps.cons rfl rfl (AOp.pcall («as» := [.agg [.int .i64 ((at_ l i).X), .int .i64 ((at_ l i).Y), .int .i64 ((at_ l i).Z)]]) rfl rfl (rfl) tf_34 (c_far (at_ l i)) ?_)
   intro H10 m11
   have m12 := m8.trans m11
   refine AOps.nil ?_
   change AWP _ _ _ _ _ _
   rcases Bool.eq_false_or_eq_true (farV (at_ l i)) with b13 | b13
   ·
    refine AWP.condT rfl b13 ?_
    refine AWP.seq ?_
    refine AWP.region (l := [0, 1]) rfl ?_
    refine AOps.cons rfl rfl (AOp.move (.int .i64 i) rfl rfl ?_)
    refine AOps.cons rfl rfl (AOp.assign (.int .i64 i) rfl rfl ?_)
    refine AOps.nil ?_
    change AWP _ _ _ _ _ _
    refine AWP.ret ?_
    refine ⟨_, _, Ghost.refl, .inr rfl, _, Res.one rfl rfl, ?_, m12⟩
    exact (congrArg (AV.int .i64) (show (i : Int) = idxV l from by exact idxV_hit hi0 (by omega) pre b13))
   ·
    refine AWP.condF rfl b13 ?_
    refine AWP.skip ?_
    change AWP _ _ _ _ _ _
    refine AWP.region (l := [0, 1]) rfl ?_
    refine AOps.cons rfl rfl (AOp.bin (.int .i64 (i + 1)) rfl s4 rfl (iadd (by omega)) ?_)
    refine AOps.cons rfl rfl (AOp.move (.int .i64 (i + 1)) rfl rfl ?_)
    refine AOps.nil ?_
    exact ⟨_, by omega, i + 1, rfl, rfl, s5, s6, s7, m12, by omega, by omega, by exact fa_step pre b13⟩
  ·
   refine AWP.condF rfl (decide_eq_false b9) ?_
   refine AWP.exit ?_
   change AWP _ _ _ _ _ _
   refine AWP.seq ?_
   refine AWP.region (l := [0]) rfl ?_
   refine AOps.cons rfl rfl (AOp.assign (.int .i64 (-1)) rfl rfl ?_)
   refine AOps.nil ?_
   change AWP _ _ _ _ _ _
   refine AWP.ret ?_
   refine ⟨_, _, Ghost.refl, .inr rfl, _, Res.one rfl rfl, ?_, m8⟩
   exact (congrArg (AV.int .i64) (show (-1 : Int) = idxV l from by exact idxV_none (by omega) pre))
theorem c_anyV (l : List VT) (hl : l.length ≤ 1048576) : PC Try.prog 33 [.sl l.length (l.flatMap eV), .fn 34 []] (.bool (l.any farV)) := by
 intro H0
 refine ACalls.of_body' (n := 9) rfl rfl rfl rfl ?_
 have m0 := Mono.refl H0
 refine AWP.seq ?_
 refine AWP.region (l := [0]) rfl ?_
 refine AOps.cons rfl rfl (AOp.assign (.bool false) rfl rfl ?_)
 refine AOps.nil ?_
 change AWP _ _ _ _ _ _
 refine AWP.seq ?_
 refine AWP.region (l := [0, 1, 2, 3, 4]) rfl ?_
 refine AOps.cons rfl rfl (AOp.move (.sl l.length (l.flatMap eV)) rfl rfl ?_)
 refine AOps.cons rfl rfl (AOp.move (.fn 34 []) rfl rfl ?_)
 refine AOps.cons rfl rfl (AOp.pcall («as» := [.sl l.length (l.flatMap eV), .fn 34 []]) rfl rfl (rfl) tf_53 (c_idxV _ (by omega)) ?_)
 intro H1 m2
 have m3 := m0.trans m2
 refine AOps.cons rfl rfl (AOp.bin (.bool (decide (idxV l ≥ 0))) rfl rfl rfl rfl ?_)
 refine AOps.cons rfl rfl (AOp.assign (.bool (decide (idxV l ≥ 0))) rfl rfl ?_)
 refine AOps.nil ?_
 change AWP _ _ _ _ _ _
 refine AWP.ret ?_
 refine ⟨_, _, Ghost.refl, .inr rfl, _, Res.one rfl rfl, ?_, m3⟩
 exact (congrArg AV.bool (show (decide (idxV l ≥ 0) : Bool) = l.any farV from by exact idxV_any l))
end Go.Proofs.U
namespace Go.Proofs.U
open Go Go.AH Go.Proofs.T
set_option maxRecDepth 4000
/-- What a surface's topology is known to be. -/
structure TopoF (n fn : Int) (t : Tp) : Prop where
  el : t.ed.length ≤ 50000
  se : SortedE t.ed
  ab : ∀ e ∈ t.ed, (0 ≤ e.A ∧ e.A < n) ∧ 0 ≤ e.B ∧ e.B < n
  fl : (t.fan.length : Int) = n
  rl : t.rnd.length ≤ 1048576
  fan : ∀ v : Int, 0 ≤ v → v < n → (1 ≤ (at_ t.fan v).length ∧ (at_ t.fan v).length ≤ 1000) ∧ ∀ f ∈ at_ t.fan v, 0 ≤ f ∧ f < fn
  fg : ∀ i : Int, 0 ≤ i → i < t.ed.length → edgedS t i = false → (0 ≤ (at_ t.ed i).F ∧ (at_ t.ed i).F < fn) ∧ 0 ≤ (at_ t.ed i).G ∧ (at_ t.ed i).G < fn
/-- What an edge's sharpness is known to be. -/
structure ShF (t : Tp) (sh : List Int) : Prop where
  len : sh.length = t.ed.length
  nn : ∀ i : Int, 0 ≤ i → i < t.ed.length → 0 ≤ at_ sh i
  edged : ∀ i : Int, 0 ≤ i → i < t.ed.length → edgedS t i = true → 255 ≤ at_ sh i
  most : ∀ i : Int, 0 ≤ i → i < t.ed.length → at_ sh i ≤ 9223372036854775807
theorem build_OK {n : Int} {fs : List (List Int)} (h : buildE n fs = 0) : okS n fs := by
  unfold buildE at h; split at h
  · assumption
  · cases h
theorem at_sh0 {t : Tp} {i : Int} (h0 : 0 ≤ i) (h1 : i < t.ed.length) : at_ (sh0 t t.ed.length) i = if edgedS t i = true then 255 else 0 := by
  have e : ((i.toNat : Nat) : Int) = i := by omega
  have h := sh0_get t t.ed.length i.toNat
  rw [if_pos (by omega), e] at h
  unfold at_; rw [List.getD_eq_getElem?_getD, h]
  by_cases g : edgedS t i = true
  · simp [g, h1]
  · simp [g]
theorem sh_start (t : Tp) : ShF t (sh0 t t.ed.length) where
  len := sh0_len _ _
  nn i h0 h1 := by rw [at_sh0 h0 h1]; split <;> omega
  edged i h0 h1 h := by rw [at_sh0 h0 h1, if_pos h]; omega
  most i h0 h1 := by rw [at_sh0 h0 h1]; split <;> omega
theorem at_set {l : List Int} {i j x : Int} (h0 : 0 ≤ i) (hj : 0 ≤ j) (h1 : i < l.length) : at_ (l.set i.toNat x) j = if j = i then x else at_ l j := by
  unfold at_
  rw [List.getD_eq_getElem?_getD, List.getD_eq_getElem?_getD, List.getElem?_set]
  by_cases e : j = i
  · subst e; rw [if_pos rfl, if_pos (by omega), if_pos rfl]; rfl
  · rw [if_neg (by omega), if_neg e]
theorem sh_more {t : Tp} : ∀ {cr : List CrT} {a b : List Int}, ShF t a → (∀ c ∈ cr, c.S ≤ 9223372036854775807) → shF t cr a = some b → ShF t b
  | [], a, b, h, _, e => by cases e; exact h
  | x :: xs, a, b, h, hc, e => by
    simp only [shF] at e
    split at e
    · rename_i hs
      have hf := find_in hs
      refine sh_more ?_ (fun c hc' => hc c (List.mem_cons_of_mem _ hc')) e
      have hx := hc x List.mem_cons_self
      have hl := h.len
      refine ⟨by rw [List.length_set]; exact h.len, fun i h0 h1 => ?_, fun i h0 h1 g => ?_, fun i h0 h1 => ?_⟩
      · rw [at_set hf.1 h0 (by omega)]; split
        · rename_i q; subst q; have := h.nn _ h0 h1; omega
        · exact h.nn i h0 h1
      · rw [at_set hf.1 h0 (by omega)]; split
        · rename_i q; subst q; have := h.edged _ h0 h1 g; omega
        · exact h.edged i h0 h1 g
      · rw [at_set hf.1 h0 (by omega)]; split
        · rename_i q; subst q; have := h.most _ h0 h1; omega
        · exact h.most i h0 h1
    · cases e
theorem sharp_facts {t : Tp} {cr : List CrT} (hc : ∀ c ∈ cr, c.S ≤ 9223372036854775807) (h : (sharpR t cr).2 = 0) : ShF t (sharpR t cr).1 := by
  unfold sharpR at *
  cases e : shF t cr (sh0 t t.ed.length) with
  | none => rw [e] at h; cases h
  | some b => exact sh_more (sh_start t) hc e
end Go.Proofs.U
namespace Go.Proofs.U
open Go Go.AH Go.Proofs.T
set_option maxRecDepth 4000
theorem fan_mem {n : Int} {fs : List (List Int)} (h : okS n fs) {c : Int} (h0 : 0 ≤ c) (h1 : c < n) : ∀ f ∈ fanL fs c, 0 ≤ f ∧ f < (fs.length : Int) ∧ c ∈ at_ fs f := fun f hf => by
  obtain ⟨hne, F⟩ := fan_of h h0 h1
  unfold fanL at hf; rw [if_neg hne] at hf
  unfold orbS at hf
  obtain ⟨i, hi, rfl⟩ := List.mem_map.1 hf
  rw [List.mem_range] at hi
  exact F.mem hi
theorem ok_rng {n : Int} {fs : List (List Int)} (h : okS n fs) : ∀ l ∈ fs, ∀ k ∈ l, 0 ≤ k ∧ k < n := fun l hl k hk => by
  obtain ⟨f, f0, f1, rfl⟩ := mem_at hl
  obtain ⟨i, i0, i1, rfl⟩ := mem_at hk
  exact (h.2.1 f f0 f1).2.1 i i0 i1
theorem ok_faces {n : Int} {fs : List (List Int)} (h : okS n fs) (hl : ∀ l ∈ fs, l.length ≤ 100000) : ∀ l ∈ fs, 1 ≤ l.length ∧ l.length ≤ 100000 := fun l hm => by
  obtain ⟨f, f0, f1, rfl⟩ := mem_at hm
  have := (h.2.1 f f0 f1).1
  exact ⟨by omega, hl _ hm⟩
theorem topo_facts {n : Int} {fs : List (List Int)} (h : okS n fs) (hn : n ≤ 1000) (hf : fs.length ≤ 1000) (hs : (sides fs).length ≤ 50000) : TopoF n fs.length (buildT n fs) := by
  have h2 := two_law h
  have h3 := two_le (buildT n fs).ed (buildT n fs).ed.length
  have h4 := fans_len h
  have hb := (build_ok h).1
  refine ⟨by omega, ?_, fun e he => ?_, h4, ?_, fun v h0 h1 => ?_, fun i h0 h1 he => ?_⟩
  · rw [hb]; exact pw_at (eOut_sorted fs n)
  · rw [hb] at he
    have := mem_eOut.1 he
    omega
  · rw [hb]; simp [rndU]; omega
  · have e : at_ (buildT n fs).fan v = fanL fs v := by
      have e2 : ((v.toNat : Nat) : Int) = v := by omega
      have h5 : v.toNat < n.toNat := by omega
      rw [hb]; simp [at_, fansU, h5, e2]
    rw [e]
    obtain ⟨hne, F⟩ := fan_of h h0 h1
    have hm := fan_mine h h0 h1
    have hl := mine_le fs v fs.length
    have hp := List.length_pos_iff.2 hne
    exact ⟨by omega, fun f hf => ⟨(fan_mem h h0 h1 f hf).1, (fan_mem h h0 h1 f hf).2.1⟩⟩
  · have hmin := edged_not h0 h1 he
    have hm := at_mem h0 h1
    rw [hb] at hm hmin
    have hs1 := eOut_small _ hm
    have hs2 := mem_eOut.1 hm
    rw [hb]
    simp only at *
    omega
end Go.Proofs.U
namespace Go.Proofs.U
open Go Go.AH Go.Proofs.T
set_option maxRecDepth 4000
section
variable {vs : List VT} {fs : List (List Int)} {cr : List CrT}
theorem level_1 (h : ¬ buildE vs.length fs = 0) : levelR vs fs cr = (⟨[], [], []⟩, buildE vs.length fs) := by unfold levelR; rw [if_pos h]
theorem level_2 (h : buildE vs.length fs = 0) (g : ¬ (sharpR (buildT vs.length fs) cr).2 = 0) : levelR vs fs cr = (⟨[], [], []⟩, (sharpR (buildT vs.length fs) cr).2) := by unfold levelR; rw [if_neg (fun k => k h), if_pos g]
theorem level_3 (h : buildE vs.length fs = 0) (g : (sharpR (buildT vs.length fs) cr).2 = 0) (k : vs.any farV = true) : levelR vs fs cr = (⟨[], [], []⟩, 21) := by unfold levelR; rw [if_neg (fun q => q h), if_neg (fun q => q g), if_pos k]
theorem level_4 (h : buildE vs.length fs = 0) (g : (sharpR (buildT vs.length fs) cr).2 = 0) (k : vs.any farV = false) : levelR vs fs cr = (⟨v1R vs (fcR vs fs fs.length) (buildT vs.length fs) (sharpR (buildT vs.length fs) cr).1 vs.length ++ v2R vs (fcR vs fs fs.length) (buildT vs.length fs) (sharpR (buildT vs.length fs) cr).1 (buildT vs.length fs).ed.length ++ fcR vs fs fs.length,
    faR vs.length (buildT vs.length fs) fs fs.length, crR vs.length (buildT vs.length fs) (sharpR (buildT vs.length fs) cr).1 (buildT vs.length fs).ed.length⟩, 0) := by
  unfold levelR; rw [if_neg (fun q => q h), if_neg (fun q => q g), if_neg (by rw [k]; decide)]
end
theorem F_len {α : Type} {f : Int → List α} {c : Nat} {k : Int} (h : ∀ j : Int, 0 ≤ j → j < k → (f j).length ≤ c) : (F_ f k).length ≤ c * k.toNat := by
  unfold F_ U_
  have : ∀ m : Nat, m ≤ k.toNat → ((List.range m).map fun (j : Nat) => f (j : Int)).flatten.length ≤ c * m := by
    intro m
    induction m with
    | zero => intro _; simp
    | succ m ih =>
      intro hm
      have := ih (by omega)
      have h2 := h (m : Int) (by omega) (by omega)
      rw [List.range_succ, List.map_append, List.flatten_append, List.length_append, Nat.mul_succ]
      simp only [List.map_cons, List.map_nil, List.flatten_cons, List.flatten_nil, List.append_nil]
      omega
  exact this _ (Nat.le_refl _)
theorem crease_len (n : Int) (t : Tp) (sh : List Int) (i : Int) : (creaseP n t sh i).length ≤ 2 := by unfold creaseP; split <;> simp
theorem crR_len (n : Int) (t : Tp) (sh : List Int) (k : Int) : (crR n t sh k).length ≤ 2 * k.toNat := F_len fun j _ _ => crease_len n t sh j
theorem faR_len {n : Int} {t : Tp} {fs : List (List Int)} (hfss : ∀ l ∈ fs, 1 ≤ l.length ∧ l.length ≤ 100000) {k : Int} (hk : k ≤ fs.length) : (faR n t fs k).length ≤ 100000 * k.toNat := F_len fun j h0 h1 => by
  rw [partsU_len]; have := (hfss _ (at_mem (l := fs) h0 (by omega))).2; omega
theorem round_in {n d B : Int} (hd : 1 ≤ d) (h : -(B * d) ≤ n ∧ n ≤ B * d) : -B ≤ roundZ n d ∧ roundZ n d ≤ B := by
  unfold roundZ
  have hp : 0 < 2 * d := by omega
  have e : (2 * d) * B = 2 * (B * d) := by rw [Int.mul_assoc, Int.mul_comm d B]
  have e2 : (2 * d) * (-B) = -(2 * (B * d)) := by rw [Int.mul_neg, e]
  constructor
  · refine Int.le_ediv_of_mul_le hp ?_
    rw [Int.mul_comm, e2]; omega
  · have : (2 * n + d) / (2 * d) < B + 1 := by
      refine Int.ediv_lt_of_lt_mul hp ?_
      rw [Int.add_mul, Int.one_mul, Int.mul_comm B, e]; omega
    omega
theorem of_in {s : VT} {d B : Int} (hd : 1 ≤ d) (h : inV (B * d) s) : inV B (ofV s d) := by
  obtain ⟨h1, h2, h3⟩ := h
  exact ⟨round_in hd h1, round_in hd h2, round_in hd h3⟩
theorem face_in {vs : List VT} {f : List Int} (hv : ∀ v ∈ vs, inV 65536 v) (hf : ∀ k ∈ f, 0 ≤ k ∧ k < (vs.length : Int)) (hl : 1 ≤ f.length) : inV 65536 (faceP vs f) := of_in (by omega) (sum_in hv hf)
theorem fcR_len {vs : List VT} {fs : List (List Int)} : (fcR vs fs fs.length).length = fs.length := by unfold fcR; rw [U_len]; omega
section
variable {vs : List VT} {fs : List (List Int)} {cr : List CrT}
theorem fc_in (hv : ∀ v ∈ vs, inV 65536 v) (hfr : ∀ l ∈ fs, ∀ k ∈ l, 0 ≤ k ∧ k < (vs.length : Int)) (hfss : ∀ l ∈ fs, 1 ≤ l.length ∧ l.length ≤ 100000) : ∀ x ∈ fcR vs fs fs.length, inV 65536 x := fun x hx => by
  obtain ⟨j, h0, h1, rfl⟩ := mem_U hx
  have := at_mem (l := fs) h0 h1
  exact face_in hv (hfr _ this) (hfss _ this).1
variable {t : Tp} {sh : List Int} (hvl : vs.length ≤ 1000) (hfl : fs.length ≤ 1000) (tf : TopoF vs.length fs.length t) (sf : ShF t sh) (hv : ∀ v ∈ vs, inV 65536 v) (hfc : ∀ x ∈ fcR vs fs fs.length, inV 65536 x)
include hvl tf sf hv hfc
theorem c_vertexL {H0 : Heap} {fid : Nat} (v : Int) (h0 : 0 ≤ v) (h1 : v < vs.length) (hr : H0 fid = some (.row 0 [.sl vs.length (vs.flatMap eV), .sl fs.length (fs.map eF), .sl cr.length (cr.flatMap eCr), .sl t.ed.length (t.ed.flatMap eE), .sl t.fan.length (t.fan.map eF), .sl t.rnd.length (t.rnd.map eBo), .sl sh.length (sh.map eI), .sl (egR t.ed vs.length).length ((egR t.ed vs.length).map eF), .sl (fcR vs fs fs.length).length ((fcR vs fs fs.length).flatMap eV)])) : ACalls Try.prog 36 [.ptr fid 0 0, .int .i64 v] H0 fun r H' => r = (.agg [.int .i64 (vertP vs (fcR vs fs fs.length) t.ed sh (at_ t.fan v) (at_ (egR t.ed vs.length) v) v).X, .int .i64 (vertP vs (fcR vs fs fs.length) t.ed sh (at_ t.fan v) (at_ (egR t.ed vs.length) v) v).Y, .int .i64 (vertP vs (fcR vs fs fs.length) t.ed sh (at_ t.fan v) (at_ (egR t.ed vs.length) v) v).Z]) ∧ Mono H0 H' :=
  c_vertex vs fs cr t sh (egR t.ed vs.length) (fcR vs fs fs.length) v ⟨h0, h1⟩ tf.ab (by have := tf.el; omega) sf.len (by rw [egR_len]; omega) (by rw [egR_at h0 (by omega)]; have := adj_len t.ed t.ed.length v; have := tf.el; omega)
    (fun e he => by rw [egR_at h0 (by omega)] at he; exact adj_mem he) (by have := tf.fl; omega) (tf.fan v h0 h1).1 (fun f hf => by rw [fcR_len]; exact (tf.fan v h0 h1).2 f hf) hfc (by omega) hv hr
theorem c_edgeL {H0 : Heap} {fid : Nat} {x7 : AV} (i : Int) (h0 : 0 ≤ i) (h1 : i < t.ed.length) (hr : H0 fid = some (.row 0 [.sl vs.length (vs.flatMap eV), .sl fs.length (fs.map eF), .sl cr.length (cr.flatMap eCr), .sl t.ed.length (t.ed.flatMap eE), .sl t.fan.length (t.fan.map eF), .sl t.rnd.length (t.rnd.map eBo), .sl sh.length (sh.map eI), x7, .sl (fcR vs fs fs.length).length ((fcR vs fs fs.length).flatMap eV)])) : ACalls Try.prog 37 [.ptr fid 0 0, .int .i64 i] H0 fun r H' => r = (.agg [.int .i64 (edgeP vs (fcR vs fs fs.length) (at_ t.ed i) (at_ sh i)).X, .int .i64 (edgeP vs (fcR vs fs fs.length) (at_ t.ed i) (at_ sh i)).Y, .int .i64 (edgeP vs (fcR vs fs fs.length) (at_ t.ed i) (at_ sh i)).Z]) ∧ Mono H0 H' :=
  c_edge vs fs cr t sh (fcR vs fs fs.length) i ⟨h0, h1⟩ (tf.ab _ (at_mem h0 h1)).1 (tf.ab _ (at_mem h0 h1)).2 sf.len (fun hz => by
    have he : edgedS t i = false := by
      cases h : edgedS t i
      · rfl
      · have := sf.edged i h0 h1 h; omega
    rw [fcR_len]; exact tf.fg i h0 h1 he) hfc (by omega) hv hr
end
end Go.Proofs.U
namespace Go.Proofs.U
open Go Go.AH Go.Proofs.T
set_option maxRecDepth 4000
set_option linter.unusedSimpArgs false
set_option linter.unusedVariables false
set_option maxHeartbeats 4000000
theorem c_Level (vs : List VT) (fs : List (List Int)) (cr : List CrT) (hvl : vs.length ≤ 1000) (hfs : fs.length ≤ 1000) (hfss0 : ∀ l ∈ fs, l.length ≤ 100000) (hsl : (sides fs).length ≤ 50000) (hcl : cr.length ≤ 1048576) (hcS : ∀ c ∈ cr, c.S ≤ 9223372036854775807) : PC Try.prog 15 [.agg [.sl vs.length (vs.flatMap eV), .sl fs.length (fs.map eF), .sl cr.length (cr.flatMap eCr)]] (.tup [.agg [.sl ((levelR vs fs cr).1.Verts).length (((levelR vs fs cr).1.Verts).flatMap eV), .sl ((levelR vs fs cr).1.Faces).length (((levelR vs fs cr).1.Faces).map eF), .sl ((levelR vs fs cr).1.Creases).length (((levelR vs fs cr).1.Creases).flatMap eCr)], .int .i64 ((levelR vs fs cr).2)]) := by
 intro H0
 refine ACalls.of_body' (n := 181) rfl rfl rfl rfl ?_
 have m0 := Mono.refl H0
 refine AWP.seq ?_
 refine AWP.region (l := [0, 1, 2]) rfl ?_
 refine AOps.cons rfl rfl (AOp.box (.agg [.sl vs.length (vs.flatMap eV), .sl fs.length (fs.map eF), .sl cr.length (cr.flatMap eCr)]) rfl rfl rfl ?_)
 intro i1 H2 n3 h4 k5
 have z6 := Mono.free m0 n3
 have m7 := Mono.new m0 n3 k5
 refine AOps.cons rfl rfl (AOp.alloc rfl tz_26 ?_)
 intro i8 H9 n10 h11 k12
 have e13 := ne_new h4 n10
 have z14 := Mono.free m7 n10
 have h15 := keep k12 (ne_new h4 n10) h4
 have m16 := Mono.new m7 n10 k12
 refine AOps.cons rfl rfl (AOp.assign (.int .i64 0) rfl rfl ?_)
 refine AOps.nil ?_
 change AWP _ _ _ _ _ _
 refine AWP.seq ?_
 refine AWP.frzP 1 h15 z6 rfl m16 fun H17 m18 k19 => ?_
 have h20 := (k19 _ (Ne.symm e13)).trans h11
 refine AWP.region (l := [0, 1, 2, 3, 4, 5, 6, 7, 8, 9, 10, 11]) rfl ?_
 refine AOps.cons rfl rfl (AOp.fieldAddrF rfl rfl fl_26_0 ?_)
 refine AOps.cons rfl rfl (AOp.loadF (.sl vs.length (vs.flatMap eV)) rfl rfl ty_22 rfl ?_)
 refine AOps.cons rfl rfl (AOp.len (m := vs.length) rfl rfl (.inr (.inl ⟨_, rfl⟩)) u_22 ?_)
 refine AOps.cons rfl rfl (AOp.fieldAddrF rfl rfl fl_26_1 ?_)
 refine AOps.cons rfl rfl (AOp.loadF (.sl fs.length (fs.map eF)) rfl rfl ty_23 rfl ?_)
 refine AOps.cons rfl rfl (AOp.pcall («as» := [.int .i64 (vs.length : Int), .sl fs.length (fs.map eF)]) rfl rfl (rfl) tf_16 (c12 _ (by omega) (fun l h => Nat.le_trans (hfss0 l h) (by decide)) _ (by omega) (by omega)) ?_)
 intro H21 m22
 have h23 := m22 _ _ h20
 have m24 := m18.trans m22
 refine AOps.cons rfl rfl (AOp.move (.tup [.agg [.sl ((buildT vs.length fs).ed).length (((buildT vs.length fs).ed).flatMap eE), .sl ((buildT vs.length fs).fan).length (((buildT vs.length fs).fan).map eF), .sl ((buildT vs.length fs).rnd).length (((buildT vs.length fs).rnd).map eBo)], .int .i64 (buildE vs.length fs)]) rfl rfl ?_)
 refine AOps.cons rfl rfl (AOp.extract (.agg [.sl ((buildT vs.length fs).ed).length (((buildT vs.length fs).ed).flatMap eE), .sl ((buildT vs.length fs).fan).length (((buildT vs.length fs).fan).map eF), .sl ((buildT vs.length fs).rnd).length (((buildT vs.length fs).rnd).map eBo)]) rfl rfl rfl ?_)
 refine AOps.cons rfl rfl (AOp.extract (.int .i64 (buildE vs.length fs)) rfl rfl rfl ?_)
 refine AOps.cons rfl rfl (AOp.alloc rfl tz_35 ?_)
 intro i25 H26 n27 h28 k29
 have e30 := ne_new h23 n27
 have z31 := Mono.free m24 n27
 have h32 := keep k29 (ne_new h23 n27) h23
 have m33 := Mono.new m24 n27 k29
 refine AOps.cons rfl rfl (AOp.store' (cells' := [.sl ((buildT vs.length fs).ed).length (((buildT vs.length fs).ed).flatMap eE), .sl ((buildT vs.length fs).fan).length (((buildT vs.length fs).fan).map eF), .sl ((buildT vs.length fs).rnd).length (((buildT vs.length fs).rnd).map eBo)]) (.agg [.sl ((buildT vs.length fs).ed).length (((buildT vs.length fs).ed).flatMap eE), .sl ((buildT vs.length fs).fan).length (((buildT vs.length fs).fan).map eF), .sl ((buildT vs.length fs).rnd).length (((buildT vs.length fs).rnd).map eBo)]) rfl rfl ts_35 h28 rfl rfl rfl rfl ?_)
 intro H34 h35 k36
 have h37 := keep k36 e30 h32
 have m39 := Mono.set m33 z31 k36
 refine AOps.cons rfl rfl (AOp.assign (.int .i64 (buildE vs.length fs)) rfl rfl ?_)
 refine AOps.nil ?_
 change AWP _ _ _ _ _ _
 refine AWP.seq ?_
 refine AWP.seq ?_
 refine AWP.frzP 4 h35 z31 rfl m39 fun H40 m41 k42 => ?_
 have h43 := (k42 _ e30).trans h37
 refine AWP.region (l := [0, 1]) rfl ?_
 refine AOps.cons rfl rfl (AOp.move (.int .i64 (buildE vs.length fs)) rfl rfl ?_)
 refine AOps.cons rfl rfl (AOp.bin (.bool (!decide (buildE vs.length fs = 0))) rfl rfl rfl ine ?_)
 refine AOps.nil ?_
 change AWP _ _ _ _ _ _
 by_cases b44 : buildE vs.length fs = 0
 ·
  refine AWP.condF rfl (nb (decide_eq_true b44)) ?_
  refine AWP.skip ?_
  change AWP _ _ _ _ _ _
  refine AWP.seq ?_
  have hok := build_OK b44
  have tf := topo_facts hok (by omega) hfs hsl
  have hel := tf.el
  have hfss := ok_faces hok hfss0
  have hfr := ok_rng hok
  refine AWP.region (l := [0, 1, 2, 3, 4, 5, 6, 7]) rfl ?_
  refine AOps.cons rfl rfl (AOp.loadF (.agg [.sl vs.length (vs.flatMap eV), .sl fs.length (fs.map eF), .sl cr.length (cr.flatMap eCr)]) rfl rfl ty_26 rfl ?_)
  refine AOps.cons rfl rfl (AOp.loadF (.agg [.sl ((buildT vs.length fs).ed).length (((buildT vs.length fs).ed).flatMap eE), .sl ((buildT vs.length fs).fan).length (((buildT vs.length fs).fan).map eF), .sl ((buildT vs.length fs).rnd).length (((buildT vs.length fs).rnd).map eBo)]) rfl rfl ty_35 rfl ?_)
  refine AOps.cons rfl rfl (AOp.pcall («as» := [.agg [.sl vs.length (vs.flatMap eV), .sl fs.length (fs.map eF), .sl cr.length (cr.flatMap eCr)], .agg [.sl ((buildT vs.length fs).ed).length (((buildT vs.length fs).ed).flatMap eE), .sl ((buildT vs.length fs).fan).length (((buildT vs.length fs).fan).map eF), .sl ((buildT vs.length fs).rnd).length (((buildT vs.length fs).rnd).map eBo)]]) rfl rfl (rfl) tf_17 (c_Sharp _ _ _ _ (by omega) (by omega) tf.se) ?_)
  intro H45 m46
  have h47 := m46 _ _ h43
  have m48 := m41.trans m46
  refine AOps.cons rfl rfl (AOp.move (.tup [.sl ((sharpR (buildT vs.length fs) cr).1).length (((sharpR (buildT vs.length fs) cr).1).map eI), .int .i64 ((sharpR (buildT vs.length fs) cr).2)]) rfl rfl ?_)
  refine AOps.cons rfl rfl (AOp.extract (.sl ((sharpR (buildT vs.length fs) cr).1).length (((sharpR (buildT vs.length fs) cr).1).map eI)) rfl rfl rfl ?_)
  refine AOps.cons rfl rfl (AOp.extract (.int .i64 ((sharpR (buildT vs.length fs) cr).2)) rfl rfl rfl ?_)
  refine AOps.cons rfl rfl (AOp.assign (.sl ((sharpR (buildT vs.length fs) cr).1).length (((sharpR (buildT vs.length fs) cr).1).map eI)) rfl rfl ?_)
  refine AOps.cons rfl rfl (AOp.assign (.int .i64 ((sharpR (buildT vs.length fs) cr).2)) rfl rfl ?_)
  refine AOps.nil ?_
  change AWP _ _ _ _ _ _
  refine AWP.seq ?_
  refine AWP.seq ?_
  refine AWP.region (l := [0, 1]) rfl ?_
  refine AOps.cons rfl rfl (AOp.move (.int .i64 ((sharpR (buildT vs.length fs) cr).2)) rfl rfl ?_)
  refine AOps.cons rfl rfl (AOp.bin (.bool (!decide ((sharpR (buildT vs.length fs) cr).2 = 0))) rfl rfl rfl ine ?_)
  refine AOps.nil ?_
  change AWP _ _ _ _ _ _
  by_cases b49 : (sharpR (buildT vs.length fs) cr).2 = 0
  ·
   refine AWP.condF rfl (nb (decide_eq_true b49)) ?_
   refine AWP.skip ?_
   change AWP _ _ _ _ _ _
   refine AWP.seq ?_
   refine AWP.seq ?_
   have sf := sharp_facts hcS b49
   refine AWP.region (l := [0, 1, 2]) rfl ?_
   refine AOps.cons rfl rfl (AOp.fieldAddrF rfl rfl fl_26_0 ?_)
   refine AOps.cons rfl rfl (AOp.loadF (.sl vs.length (vs.flatMap eV)) rfl rfl ty_22 rfl ?_)
   refine AOps.cons rfl rfl (AOp.pcall («as» := [.sl vs.length (vs.flatMap eV), .fn 34 []]) rfl rfl (rfl) tf_33 (c_anyV _ (by omega)) ?_)
   intro H50 m51
   have h52 := m51 _ _ h47
   have m53 := m48.trans m51
   refine AOps.nil ?_
   change AWP _ _ _ _ _ _
   rcases Bool.eq_false_or_eq_true (vs.any farV) with b54 | b54
   ·
    refine AWP.condT rfl b54 ?_
    refine AWP.seq ?_
    refine AWP.region (l := [0, 1, 2]) rfl ?_
    refine AOps.cons rfl rfl (AOp.build (cells := [.snil, .snil, .snil]) rfl tz_26 pl_26 rfl rfl ?_)
    refine AOps.cons rfl rfl (AOp.store' (cells' := [.snil, .snil, .snil]) (.agg [.snil, .snil, .snil]) rfl rfl ts_26 h52 rfl rfl rfl rfl ?_)
    intro H55 h56 k57
    have m59 := Mono.set m53 z14 k57
    refine AOps.cons rfl rfl (AOp.assign (.int .i64 21) rfl rfl ?_)
    refine AOps.nil ?_
    change AWP _ _ _ _ _ _
    refine AWP.ret ?_
    refine Fin.frzCell 0 (Own.nil H0 H55 1) h56 z14 rfl (NotId.nil _) m59 fun H60 h61 m62 k63 => ?_
    have h64 : H60 i8 = some (.row 0 ([.sl 0 ([]), .snil, .snil])) := h61
    refine Fin.frzCell 1 (Own.nil H0 H60 1) h64 z14 rfl (NotId.nil _) m62 fun H65 h66 m67 k68 => ?_
    have h69 : H65 i8 = some (.row 0 ([.sl 0 ([]), .sl 0 ([]), .snil])) := h66
    refine Fin.frzCell 2 (Own.nil H0 H65 1) h69 z14 rfl (NotId.nil _) m67 fun H70 h71 m72 k73 => ?_
    have h74 : H70 i8 = some (.row 0 ([.sl 0 ([]), .sl 0 ([]), .sl 0 ([])])) := h71
    refine ⟨_, _, Ghost.refl, .inr rfl, _, Res.list rfl rfl (.cell (v := .agg [.sl 0 ([]), .sl 0 ([]), .sl 0 ([])]) rfl ty_26 h74 rfl (.tmp rfl (.nil))), ?_, m72⟩
    exact congrArg AV.tup (lc (congrArg AV.agg (lc (congrArg (fun l : List VT => AV.sl l.length (l.flatMap eV)) (show ([] : List VT) = (levelR vs fs cr).1.Verts from by rw [level_3 b44 b49 b54])) (lc (congrArg (fun l : List (List Int) => AV.sl l.length (l.map eF)) (show ([] : List (List Int)) = (levelR vs fs cr).1.Faces from by rw [level_3 b44 b49 b54])) (lc (congrArg (fun l : List CrT => AV.sl l.length (l.flatMap eCr)) (show ([] : List CrT) = (levelR vs fs cr).1.Creases from by rw [level_3 b44 b49 b54])) rfl)))) (lc (congrArg (AV.int .i64) (show (21 : Int) = (levelR vs fs cr).2 from by rw [level_3 b44 b49 b54])) rfl))
   ·
    refine AWP.condF rfl b54 ?_
    refine AWP.skip ?_
    change AWP _ _ _ _ _ _
    refine AWP.seq ?_
    have hv := any_in b54
    refine AWP.region_str mixed (by kernel_rfl) [(0, none), (1, none), (2, none), (3, none), (4, none), (5, none), (6, some [0, 1, 2])] [7, 8, 9] (by kernel_rfl) ?_
    refine STR.op rfl rfl (.inl ⟨rfl, fun H1 f' H' hf hN hM => AOp.loadF (.agg [.sl vs.length (vs.flatMap eV), .sl fs.length (fs.map eF), .sl cr.length (cr.flatMap eCr)]) rfl ((hf 1 rfl).trans rfl) ty_26 rfl ⟨rfl, hN⟩⟩) ?_
    refine STR.op rfl rfl (.inl ⟨rfl, fun H1 f' H' hf hN hM => AOp.loadF (.agg [.sl ((buildT vs.length fs).ed).length (((buildT vs.length fs).ed).flatMap eE), .sl ((buildT vs.length fs).fan).length (((buildT vs.length fs).fan).map eF), .sl ((buildT vs.length fs).rnd).length (((buildT vs.length fs).rnd).map eBo)]) rfl ((hf 4 rfl).trans rfl) ty_35 rfl ⟨rfl, hN⟩⟩) ?_
    refine STR.op rfl rfl (.inl ⟨rfl, fun H1 f' H' hf hN hM => AOp.move (.sl ((sharpR (buildT vs.length fs) cr).1).length (((sharpR (buildT vs.length fs) cr).1).map eI)) rfl ((hf 6 rfl).trans rfl) ⟨rfl, hN⟩⟩) ?_
    refine STR.op rfl rfl (.inl ⟨rfl, fun H1 f' H' hf hN hM => AOp.fieldAddrF rfl ((hf 1 rfl).trans rfl) fl_26_0 ⟨rfl, hN⟩⟩) ?_
    refine STR.op rfl rfl (.inl ⟨rfl, fun H1 f' H' hf hN hM => AOp.loadF (.sl vs.length (vs.flatMap eV)) rfl ((hf 47 rfl).trans rfl) ty_22 rfl ⟨rfl, hN⟩⟩) ?_
    refine STR.op rfl rfl (.inl ⟨rfl, fun H1 f' H' hf hN hM => AOp.len (m := vs.length) rfl ((hf 48 rfl).trans rfl) (.inr (.inl ⟨_, rfl⟩)) u_22 ⟨rfl, hN⟩⟩) ?_
    refine STR.eff rfl rfl rfl fun f75 H76 hf77 m78 => ?_
    have h79 := m78 _ _ h52
    have m80 := m53.trans m78
    refine AOp.makeSlice_own rfl u_23 ts_38 tz_38 tb_38 (by decide) ((hf77 49 rfl).trans rfl) ((hf77 49 rfl).trans rfl) (by omega) (by omega) m80 ?_
    intro v81 H82 o83 m84 k85 j86
    have o87 : Own H0 H82 1 v81 (List.replicate (vs.length : Int).toNat AV.snil).length ((List.replicate (vs.length : Int).toNat AV.snil).map eA) := Own.re o83 (by rw [List.length_replicate]) (by rw [List.map_replicate]; rfl)
    have h88 := (k85 _ (by rw [h79]; simp)).trans h79
    have no89 := j86 _ (by rw [h79]; simp)
    refine ⟨_, rfl, .inl (fun i X hX => (k85 i (by rw [hX]; simp)).trans hX), ?_⟩
    refine STR.done fun H90 m91 => ?_
    have h92 := m91 _ _ h88
    have o93 := Own.mono o87 m91
    have m94 := m84.trans m91
    refine AOps.cons rfl rfl (AOp.build (cells := [.sl vs.length (vs.flatMap eV), .sl fs.length (fs.map eF), .sl cr.length (cr.flatMap eCr), .sl ((buildT vs.length fs).ed).length (((buildT vs.length fs).ed).flatMap eE), .sl ((buildT vs.length fs).fan).length (((buildT vs.length fs).fan).map eF), .sl ((buildT vs.length fs).rnd).length (((buildT vs.length fs).rnd).map eBo), .sl ((sharpR (buildT vs.length fs) cr).1).length (((sharpR (buildT vs.length fs) cr).1).map eI), v81, .snil]) rfl tz_79 pl_79 rfl (fill_step rfl rfl rfl rfl rfl (fill_step rfl rfl rfl rfl rfl (fill_step rfl rfl rfl rfl rfl (fill_own o93 rfl rfl rfl rfl)))) ?_)
    refine AOps.cons rfl rfl (AOp.box (.agg [.sl vs.length (vs.flatMap eV), .sl fs.length (fs.map eF), .sl cr.length (cr.flatMap eCr), .sl ((buildT vs.length fs).ed).length (((buildT vs.length fs).ed).flatMap eE), .sl ((buildT vs.length fs).fan).length (((buildT vs.length fs).fan).map eF), .sl ((buildT vs.length fs).rnd).length (((buildT vs.length fs).rnd).map eBo), .sl ((sharpR (buildT vs.length fs) cr).1).length (((sharpR (buildT vs.length fs) cr).1).map eI), v81, .snil]) rfl rfl rfl ?_)
    intro i95 H96 n97 h98 k99
    have e100 := ne_new h92 n97
    have z101 := Mono.free m94 n97
    have h102 := keep k99 (ne_new h92 n97) h92
    have o103 := Own.keep o93 k99 (Own.notnew o93 n97)
    have no104 := Own.notnew o93 n97
    have m105 := Mono.new m94 n97 k99
    refine AOps.cons rfl rfl (AOp.assign (.ptr i95 0 0) rfl rfl ?_)
    refine AOps.nil ?_
    change AWP _ _ _ _ _ _
    refine AWP.seq ?_
    refine AWP.seq ?_
    have oM : MO H0 H96 [] := MO.nil _ _
    have oG := Own.re (k := (gvals [] vs.length).length) (cs := (gvals [] vs.length).map eA) o103 (by rw [gvals_len, List.length_replicate]; omega) (by rw [gvals_nil, Int.toNat_natCast])
    skip
    refine AWP.region (l := [0, 1, 2, 3]) rfl ?_
    refine AOps.cons rfl rfl (AOp.fieldAddrF rfl rfl fl_35_0 ?_)
    refine AOps.cons rfl rfl (AOp.loadF (.sl ((buildT vs.length fs).ed).length (((buildT vs.length fs).ed).flatMap eE)) rfl rfl ty_32 rfl ?_)
    refine AOps.cons rfl rfl (AOp.len (m := ((buildT vs.length fs).ed).length) rfl rfl (.inr (.inl ⟨_, rfl⟩)) u_32 ?_)
    refine AOps.cons rfl rfl (AOp.move (.int .i64 0) rfl rfl ?_)
    refine AOps.nil ?_
    change AWP _ _ _ _ _ _
    refine AWP.block ?_
    refine AWP.loop (fun q106 fq Hq => ∃ (k : Int) (L : List ME) (w7_7 : AV), q106 = (((buildT vs.length fs).ed.length : Int) - k).toNat ∧ fq 56 = .int .i64 k ∧ fq 1 = .fptr [.sl vs.length (vs.flatMap eV), .sl fs.length (fs.map eF), .sl cr.length (cr.flatMap eCr)] 0 ∧ fq 2 = .ptr i8 0 0 ∧ fq 3 = .int .i64 0 ∧ fq 4 = .fptr [.sl ((buildT vs.length fs).ed).length (((buildT vs.length fs).ed).flatMap eE), .sl ((buildT vs.length fs).fan).length (((buildT vs.length fs).fan).map eF), .sl ((buildT vs.length fs).rnd).length (((buildT vs.length fs).rnd).map eBo)] 0 ∧ fq 7 = .ptr i95 0 0 ∧ fq 54 = .sl ((buildT vs.length fs).ed).length (((buildT vs.length fs).ed).flatMap eE) ∧ fq 55 = .int .i64 ((((buildT vs.length fs).ed).length) : Int) ∧ Own H0 Hq 1 w7_7 (gvals L vs.length).length ((gvals L vs.length).map eA) ∧ NotId w7_7 i8 ∧ NotId w7_7 i95 ∧ MO H0 Hq L ∧ NotIdM L i8 ∧ NotIdM L i95 ∧ SepM L w7_7 ∧ Hq i8 = some (.row 0 ([.snil, .snil, .snil])) ∧ Hq i95 = some (.row 0 ([.sl vs.length (vs.flatMap eV), .sl fs.length (fs.map eF), .sl cr.length (cr.flatMap eCr), .sl ((buildT vs.length fs).ed).length (((buildT vs.length fs).ed).flatMap eE), .sl ((buildT vs.length fs).fan).length (((buildT vs.length fs).fan).map eF), .sl ((buildT vs.length fs).rnd).length (((buildT vs.length fs).rnd).map eBo), .sl ((sharpR (buildT vs.length fs) cr).1).length (((sharpR (buildT vs.length fs) cr).1).map eI), w7_7, .snil])) ∧ Mono H0 Hq ∧ (0 ≤ k) ∧ (k ≤ ((buildT vs.length fs).ed.length : Int)) ∧ (∀ x : Int, (getM L x).2 = adjU (buildT vs.length fs).ed k x)) (k := (((buildT vs.length fs).ed.length : Int) - 0).toNat) ?_ ?_
    ·
     exact ⟨0, ([] : List ME), v81, rfl, rfl, rfl, rfl, rfl, rfl, rfl, rfl, rfl, (have hx : ((gvals [] vs.length) : List AV) = gvals ([] : List ME) vs.length := (by first | rfl | simp); Own.re oG (congrArg List.length hx) (congrArg (fun l : List AV => l.map eA) hx)), no89, no104, oM, (NotIdM.nil _), (NotIdM.nil _), (SepM.nil _), h102, h98, m105, by omega, by omega, by intro x; rfl⟩
    ·
     rintro _ f108 H107 ⟨k, L, w7_7, rfl, s109, s110, s111, s112, s113, s114, s115, s116, o117, no118, no119, o120, no121, no122, sp123, h124, h125, m126, hk0, hk1, hG⟩
     refine AWP.seq ?_
     refine AWP.region (l := [0]) rfl ?_
     refine AOps.cons rfl rfl (AOp.bin (.bool (decide (k < ((((buildT vs.length fs).ed).length) : Int)))) rfl s109 s116 rfl ?_)
     refine AOps.nil ?_
     change AWP _ _ _ _ _ _
     refine AWP.seq ?_
     by_cases b127 : k < ((((buildT vs.length fs).ed).length) : Int)
     ·
      refine AWP.condT rfl (decide_eq_true b127) ?_
      refine AWP.skip ?_
      change AWP _ _ _ _ _ _
      refine AWP.seq ?_
      refine AWP.block ?_
      refine AWP.seq ?_
      have hek := tf.ab _ (at_mem hk0 (by omega : k < (buildT vs.length fs).ed.length))
      refine AWP.region (l := [0, 1, 2, 3, 4, 5]) rfl ?_
      refine AOps.cons rfl rfl (AOp.move (.int .i64 k) rfl s109 ?_)
      refine AOps.cons rfl rfl (AOp.indexAddrS rfl s115 s109 sl_32 (by omega) (by omega) ?_)
      refine AOps.cons rfl rfl (AOp.loadF (.agg [.int .i64 ((at_ ((buildT vs.length fs).ed) k).A), .int .i64 ((at_ ((buildT vs.length fs).ed) k).B), .int .i64 ((at_ ((buildT vs.length fs).ed) k).F), .int .i64 ((at_ ((buildT vs.length fs).ed) k).G)]) rfl rfl ty_47 (ldM eE_len (by omega) (by omega)) ?_)
      refine AOps.cons rfl rfl (AOp.alloc rfl tz_47 ?_)
      intro i128 H129 n130 h131 k132
      have e133 := ne_new h124 n130
      have e134 := ne_new h125 n130
      have z135 := Mono.free m126 n130
      have h136 := keep k132 (ne_new h124 n130) h124
      have h137 := keep k132 (ne_new h125 n130) h125
      have o138 := Own.keep o117 k132 (Own.notnew o117 n130)
      have no139 := Own.notnew o117 n130
      have o140 := MO.keep o120 k132 (MO.notnew o120 n130)
      have no141 := MO.notnew o120 n130
      have m142 := Mono.new m126 n130 k132
      refine AOps.cons rfl rfl (AOp.assign (.int .i64 k) rfl rfl ?_)
      refine AOps.cons rfl rfl (AOp.store' (cells' := [.int .i64 ((at_ ((buildT vs.length fs).ed) k).A), .int .i64 ((at_ ((buildT vs.length fs).ed) k).B), .int .i64 ((at_ ((buildT vs.length fs).ed) k).F), .int .i64 ((at_ ((buildT vs.length fs).ed) k).G)]) (.agg [.int .i64 ((at_ ((buildT vs.length fs).ed) k).A), .int .i64 ((at_ ((buildT vs.length fs).ed) k).B), .int .i64 ((at_ ((buildT vs.length fs).ed) k).F), .int .i64 ((at_ ((buildT vs.length fs).ed) k).G)]) rfl rfl ts_47 h131 rfl rfl rfl rfl ?_)
      intro H143 h144 k145
      have h146 := keep k145 e133 h136
      have h147 := keep k145 e134 h137
      have o149 := Own.keep o138 k145 no139
      have o150 := MO.keep o140 k145 no141
      have m151 := Mono.set m142 z135 k145
      refine AOps.nil ?_
      change AWP _ _ _ _ _ _
      refine AWP.seq ?_
      refine AWP.frzP 9 h144 z135 rfl m151 fun H152 m153 k154 => ?_
      have h155 := (k154 _ e133).trans h146
      have h156 := (k154 _ e134).trans h147
      have o157 := Own.keep o149 k154 no139
      have o158 := MO.keep o150 k154 no141
      have hl1 := adj_len (buildT vs.length fs).ed k (at_ (buildT vs.length fs).ed k).A
      rw [← hG] at hl1
      refine AWP.region_str mixed (by kernel_rfl) [(0, none), (1, none), (2, none), (3, none), (4, none), (5, none), (6, none), (7, none), (8, none), (9, none), (10, none), (11, none), (12, none), (13, none), (14, none), (15, some [0, 1, 2, 3, 4, 5, 6, 7, 8, 9, 10, 11, 12, 13]), (16, some [0, 1, 2, 3, 4, 5])] [17, 18] (by kernel_rfl) ?_
      refine STR.op rfl rfl (.inl ⟨rfl, fun H1 f' H' hf hN hM => AOp.move (.ptr i95 0 0) rfl ((hf 7 rfl).trans s114) ⟨rfl, hN⟩⟩) ?_
      refine STR.op rfl rfl (.inl ⟨rfl, fun H1 f' H' hf hN hM => AOp.nilCheck (.ptr i95 0 0) rfl ((hf 61 rfl).trans rfl) rfl ⟨rfl, hN⟩⟩) ?_
      refine STR.op rfl rfl (.inl ⟨rfl, fun H1 f' H' hf hN hM => AOp.fieldAddr rfl ((hf 62 rfl).trans rfl) fl_79_3 ⟨rfl, hN⟩ (hid := ⟨_, (hM _ _ h156)⟩)⟩) ?_
      refine STR.op rfl rfl (.inl ⟨rfl, fun H1 f' H' hf hN hM => AOp.load (w7_7) rfl ((hf 63 rfl).trans rfl) ty_23 (hM _ _ h156) rfl ⟨rfl, hN⟩⟩) ?_
      refine STR.op rfl rfl (.inl ⟨rfl, fun H1 f' H' hf hN hM => AOp.fieldAddrF rfl ((hf 9 rfl).trans rfl) fl_47_0 ⟨rfl, hN⟩⟩) ?_
      refine STR.op rfl rfl (.inl ⟨rfl, fun H1 f' H' hf hN hM => AOp.loadF (.int .i64 ((at_ ((buildT vs.length fs).ed) k).A)) rfl ((hf 65 rfl).trans rfl) ty_3 rfl ⟨rfl, hN⟩⟩) ?_
      refine STR.op rfl rfl (.inl ⟨rfl, fun H1 f' H' hf hN hM => AOp.move (.ptr i95 0 0) rfl ((hf 7 rfl).trans s114) ⟨rfl, hN⟩⟩) ?_
      refine STR.op rfl rfl (.inl ⟨rfl, fun H1 f' H' hf hN hM => AOp.nilCheck (.ptr i95 0 0) rfl ((hf 67 rfl).trans rfl) rfl ⟨rfl, hN⟩⟩) ?_
      refine STR.op rfl rfl (.inl ⟨rfl, fun H1 f' H' hf hN hM => AOp.fieldAddr rfl ((hf 68 rfl).trans rfl) fl_79_3 ⟨rfl, hN⟩ (hid := ⟨_, (hM _ _ h156)⟩)⟩) ?_
      refine STR.op rfl rfl (.inl ⟨rfl, fun H1 f' H' hf hN hM => AOp.load (w7_7) rfl ((hf 69 rfl).trans rfl) ty_23 (hM _ _ h156) rfl ⟨rfl, hN⟩⟩) ?_
      refine STR.op rfl rfl (.inl ⟨rfl, fun H1 f' H' hf hN hM => AOp.fieldAddrF rfl ((hf 9 rfl).trans rfl) fl_47_0 ⟨rfl, hN⟩⟩) ?_
      refine STR.op rfl rfl (.inl ⟨rfl, fun H1 f' H' hf hN hM => AOp.loadF (.int .i64 ((at_ ((buildT vs.length fs).ed) k).A)) rfl ((hf 71 rfl).trans rfl) ty_3 rfl ⟨rfl, hN⟩⟩) ?_
      obtain ⟨i159, ver160, e161, h162, _, _⟩ := Own.pos o157 (by first | omega | (rw [gvals_len]; omega))
      refine STR.op rfl rfl (.inl ⟨rfl, fun H1 f' H' hf hN hM => AOp.indexAddrO rfl (Eq.trans ((hf 70 rfl).trans rfl) e161) ((hf 72 rfl).trans rfl) sl_23 (by first | omega | (rw [gvals_len]; omega)) (by first | omega | (rw [gvals_len]; omega)) (hM _ _ h162) ⟨rfl, hN⟩⟩) ?_
      obtain ⟨w163, hw164⟩ : ∃ w, w = (getM L ((at_ ((buildT vs.length fs).ed) k).A)).1 := ⟨_, rfl⟩
      obtain ⟨oA165, oB166, oC167⟩ := MO.take o158 ((at_ ((buildT vs.length fs).ed) k).A)
      rw [← hw164] at oA165 oC167
      have no168 := NotIdM.get no121 ((at_ ((buildT vs.length fs).ed) k).A)
      rw [← hw164] at no168
      have no169 := NotIdM.rest no121 ((at_ ((buildT vs.length fs).ed) k).A)
      have no170 := NotIdM.get no122 ((at_ ((buildT vs.length fs).ed) k).A)
      rw [← hw164] at no170
      have no171 := NotIdM.rest no122 ((at_ ((buildT vs.length fs).ed) k).A)
      have sp172 := SepM.get sp123 ((at_ ((buildT vs.length fs).ed) k).A)
      rw [← hw164] at sp172
      have sp173 := SepM.rest sp123 ((at_ ((buildT vs.length fs).ed) k).A)
      refine STR.op rfl rfl (.inl ⟨rfl, fun H1 f' H' hf hN hM => AOp.load (w163) rfl ((hf 73 rfl).trans rfl) ty_38 (hM _ _ h162) (by rw [hw164]; exact gld (by omega) (by omega)) ⟨rfl, hN⟩⟩) ?_
      refine STR.op rfl rfl (.inl ⟨rfl, fun H1 f' H' hf hN hM => AOp.move (.int .i64 k) rfl ((hf 8 rfl).trans rfl) ⟨rfl, hN⟩⟩) ?_
      refine STR.eff rfl rfl rfl fun f174 H175 hf176 m177 => ?_
      have h178 := m177 _ _ h155
      have h179 := m177 _ _ h156
      have o180 := Own.mono o157 m177
      have o181 := MO.mono oB166 m177
      have o182 := Own.mono oA165 m177
      have m183 := m153.trans m177
      refine AOp.buildSlice (cells := [.int .i64 k]) rfl u_38 ts_3 tz_3 rfl (lconsP ((hf176 75 rfl).trans rfl) rfl) rfl ?_
      intro i184 H185 n186 h187 k188
      have e189 := ne_new h178 n186
      have e190 := ne_new h179 n186
      have z191 := Mono.free m183 n186
      have h192 := keep k188 (ne_new h178 n186) h178
      have h193 := keep k188 (ne_new h179 n186) h179
      have o194 := Own.keep o180 k188 (Own.notnew o180 n186)
      have no195 := Own.notnew o180 n186
      have o196 := MO.keep o181 k188 (MO.notnew o181 n186)
      have no197 := MO.notnew o181 n186
      have o198 := Own.keep o182 k188 (Own.notnew o182 n186)
      have no199 := Own.notnew o182 n186
      have m200 := Mono.new m183 n186 k188
      refine ⟨_, rfl, .inl (Mono.new (Mono.refl _) n186 k188), ?_⟩
      refine STR.eff rfl rfl rfl fun f201 H202 hf203 m204 => ?_
      have h205 := m204 _ _ h192
      have h206 := m204 _ _ h193
      have h207 := m204 _ _ h187
      have o208 := Own.mono o194 m204
      have o209 := MO.mono o196 m204
      have o210 := Own.mono o198 m204
      have m211 := m200.trans m204
      refine AOp.append_own (es := 1) (m := 1) (len := (((getM L ((at_ ((buildT vs.length fs).ed) k).A)).2).length)) (old := ((getM L ((at_ ((buildT vs.length fs).ed) k).A)).2).map eI) (cells := [.int .i64 k]) rfl u_38 ts_3 tzn_3 tb_3 (by decide) ni_38 ((hf203 74 rfl).trans rfl) o210 m211 ((hf203 76 rfl).trans rfl) (.slm h207 rfl) (one_of rfl) (by decide) (by first | omega | (simp; omega)) ?_
      intro v212 H213 o214 m215 k216 j217
      have o218 := Own.snoc1 (xs := (((getM L ((at_ ((buildT vs.length fs).ed) k).A)).2) : List Int)) (y := k) (e := eI) (by simp) o214
      have h219 := (k216 _ no168 (by rw [h205]; simp)).trans h205
      have no220 := j217 _ no168 (by rw [h205]; simp)
      have h221 := (k216 _ no170 (by rw [h206]; simp)).trans h206
      have no222 := j217 _ no170 (by rw [h206]; simp)
      have sp224 := Own.sep o208 (Sep.symm sp172) j217
      have o223 := Own.stay o208 (Sep.symm sp172) k216
      have sp226 := MO.sep o209 oC167 j217
      have o225 := MO.stay o209 oC167 k216
      refine ⟨_, rfl, .inr (RevR.skip rfl (RevR.skip rfl (RevR.skip rfl (RevR.skip rfl (RevR.skip rfl (RevR.skip rfl (RevR.skip rfl (RevR.skip rfl (RevR.skip rfl (RevR.skip rfl (RevR.cons rfl (.inl ⟨rfl, fun H1 f' H' hf hN hM => AOp.loadF (.int .i64 ((at_ ((buildT vs.length fs).ed) k).A)) rfl ((hf 65 rfl).trans rfl) ty_3 rfl ⟨rfl, hN⟩⟩) (RevR.cons rfl (.inl ⟨rfl, fun H1 f' H' hf hN hM => AOp.fieldAddrF rfl ((hf 9 rfl).trans rfl) fl_47_0 ⟨rfl, hN⟩⟩) (RevR.cons rfl (.inl ⟨rfl, fun H1 f' H' hf hN hM => AOp.load (w7_7) rfl ((hf 63 rfl).trans rfl) ty_23 (hM _ _ h221) rfl ⟨rfl, hN⟩⟩) (RevR.cons rfl (.inl ⟨rfl, fun H1 f' H' hf hN hM => AOp.fieldAddr rfl ((hf 62 rfl).trans rfl) fl_79_3 ⟨rfl, hN⟩ (hid := ⟨_, (hM _ _ h221)⟩)⟩) (RevR.cons rfl (.inl ⟨rfl, fun H1 f' H' hf hN hM => AOp.nilCheck (.ptr i95 0 0) rfl ((hf 61 rfl).trans rfl) rfl ⟨rfl, hN⟩⟩) (RevR.cons rfl (.inl ⟨rfl, fun H1 f' H' hf hN hM => AOp.move (.ptr i95 0 0) rfl ((hf 7 rfl).trans s114) ⟨rfl, hN⟩⟩) RevR.nil)))))))))))))))), ?_⟩
      refine STR.done fun H227 m228 => ?_
      have h229 := m228 _ _ h219
      have h230 := m228 _ _ h221
      have o231 := Own.mono o223 m228
      have o232 := MO.mono o225 m228
      have o233 := Own.mono o218 m228
      have m234 := m215.trans m228
      obtain ⟨i235, ver236, e237, h238, _, _⟩ := Own.pos o231 (by first | omega | (rw [gvals_len]; omega))
      refine AOps.cons rfl rfl (AOp.indexAddrO rfl (Eq.trans rfl e237) rfl sl_23 (by first | omega | (rw [gvals_len]; omega)) (by first | omega | (rw [gvals_len]; omega)) h238 ?_)
      refine AOps.cons rfl rfl (AOp.storeO (cells' := ((gvals L vs.length).set ((at_ ((buildT vs.length fs).ed) k).A).toNat v212).map eA) rfl rfl o233 ts_38 (Own.at_ e237 o231).1 (blelen (by rw [List.length_map]) (by rw [gvals_len]; omega)) (wr_set1 (e := eA) (by omega) (by rw [gvals_len]; omega)) ?_)
      intro H239 h240 k241
      have h242 := (k241 _ (NotId.ne no118 e237)).trans h229
      have h243 := (k241 _ (NotId.ne no119 e237)).trans h230
      have o244 := Own.store e237 o231 h240 (len' := ((gvals L vs.length).set ((at_ ((buildT vs.length fs).ed) k).A).toNat v212).length) (by rw [List.length_set]) (by rw [List.length_map, Nat.mul_one, List.length_set])
      have m245 := Mono.set m234 (Own.at_ e237 o231).2.1 k241
      have o246 := MO.stay o232 sp173 (fun i hi _ => k241 i (NotId.ne hi e237))
      have o247 := Own.stay o233 (Sep.symm sp224) (fun i hi _ => k241 i (NotId.ne hi e237))
      have o248 := MO.put (L := L) o246 o247 sp226
      have hg249 := gvals_set (L := L) (n := vs.length) (x := (at_ ((buildT vs.length fs).ed) k).A) (w := v212) (xs := (((getM L ((at_ ((buildT vs.length fs).ed) k).A)).2) ++ [k])) (by omega) (by omega)
      have o250 := Own.re o244 (congrArg List.length hg249) (congrArg (fun l : List AV => l.map eA) hg249)
      have no251 := NotIdM.put (xs := (((getM L ((at_ ((buildT vs.length fs).ed) k).A)).2) ++ [k])) no169 no220
      have no252 := NotIdM.put (xs := (((getM L ((at_ ((buildT vs.length fs).ed) k).A)).2) ++ [k])) no171 no222
      have sp253 := SepM.put_ (xs := (((getM L ((at_ ((buildT vs.length fs).ed) k).A)).2) ++ [k])) sp173 (Sep.symm sp224)
      refine AOps.nil ?_
      change AWP _ _ _ _ _ _
      have hG1 := adj_A (w := v212) (xs := (((getM L ((at_ ((buildT vs.length fs).ed) k).A)).2) ++ [k])) hG rfl
      have hl2 := adjM_len (buildT vs.length fs).ed hk0 (at_ (buildT vs.length fs).ed k).B
      rw [← hG1] at hl2
      skip
      refine AWP.region_str mixed (by kernel_rfl) [(0, none), (1, none), (2, none), (3, none), (4, none), (5, none), (6, none), (7, none), (8, none), (9, none), (10, none), (11, none), (12, none), (13, none), (14, none), (15, some [0, 1, 2, 3, 4, 5, 6, 7, 8, 9, 10, 11, 12, 13]), (16, some [0, 1, 2, 3, 4, 5])] [17, 18] (by kernel_rfl) ?_
      refine STR.op rfl rfl (.inl ⟨rfl, fun H1 f' H' hf hN hM => AOp.move (.ptr i95 0 0) rfl ((hf 7 rfl).trans s114) ⟨rfl, hN⟩⟩) ?_
      refine STR.op rfl rfl (.inl ⟨rfl, fun H1 f' H' hf hN hM => AOp.nilCheck (.ptr i95 0 0) rfl ((hf 79 rfl).trans rfl) rfl ⟨rfl, hN⟩⟩) ?_
      refine STR.op rfl rfl (.inl ⟨rfl, fun H1 f' H' hf hN hM => AOp.fieldAddr rfl ((hf 80 rfl).trans rfl) fl_79_3 ⟨rfl, hN⟩ (hid := ⟨_, (hM _ _ h243)⟩)⟩) ?_
      refine STR.op rfl rfl (.inl ⟨rfl, fun H1 f' H' hf hN hM => AOp.load (w7_7) rfl ((hf 81 rfl).trans rfl) ty_23 (hM _ _ h243) rfl ⟨rfl, hN⟩⟩) ?_
      refine STR.op rfl rfl (.inl ⟨rfl, fun H1 f' H' hf hN hM => AOp.fieldAddrF rfl ((hf 9 rfl).trans rfl) fl_47_1 ⟨rfl, hN⟩⟩) ?_
      refine STR.op rfl rfl (.inl ⟨rfl, fun H1 f' H' hf hN hM => AOp.loadF (.int .i64 ((at_ ((buildT vs.length fs).ed) k).B)) rfl ((hf 83 rfl).trans rfl) ty_3 rfl ⟨rfl, hN⟩⟩) ?_
      refine STR.op rfl rfl (.inl ⟨rfl, fun H1 f' H' hf hN hM => AOp.move (.ptr i95 0 0) rfl ((hf 7 rfl).trans s114) ⟨rfl, hN⟩⟩) ?_
      refine STR.op rfl rfl (.inl ⟨rfl, fun H1 f' H' hf hN hM => AOp.nilCheck (.ptr i95 0 0) rfl ((hf 85 rfl).trans rfl) rfl ⟨rfl, hN⟩⟩) ?_
      refine STR.op rfl rfl (.inl ⟨rfl, fun H1 f' H' hf hN hM => AOp.fieldAddr rfl ((hf 86 rfl).trans rfl) fl_79_3 ⟨rfl, hN⟩ (hid := ⟨_, (hM _ _ h243)⟩)⟩) ?_
      refine STR.op rfl rfl (.inl ⟨rfl, fun H1 f' H' hf hN hM => AOp.load (w7_7) rfl ((hf 87 rfl).trans rfl) ty_23 (hM _ _ h243) rfl ⟨rfl, hN⟩⟩) ?_
      refine STR.op rfl rfl (.inl ⟨rfl, fun H1 f' H' hf hN hM => AOp.fieldAddrF rfl ((hf 9 rfl).trans rfl) fl_47_1 ⟨rfl, hN⟩⟩) ?_
      refine STR.op rfl rfl (.inl ⟨rfl, fun H1 f' H' hf hN hM => AOp.loadF (.int .i64 ((at_ ((buildT vs.length fs).ed) k).B)) rfl ((hf 89 rfl).trans rfl) ty_3 rfl ⟨rfl, hN⟩⟩) ?_
      obtain ⟨i254, ver255, e256, h257, _, _⟩ := Own.pos o250 (by first | omega | (rw [gvals_len]; omega))
      refine STR.op rfl rfl (.inl ⟨rfl, fun H1 f' H' hf hN hM => AOp.indexAddrO rfl (Eq.trans ((hf 88 rfl).trans rfl) e256) ((hf 90 rfl).trans rfl) sl_23 (by first | omega | (rw [gvals_len]; omega)) (by first | omega | (rw [gvals_len]; omega)) (hM _ _ h257) ⟨rfl, hN⟩⟩) ?_
      obtain ⟨w258, hw259⟩ : ∃ w, w = (getM (putM L ((at_ ((buildT vs.length fs).ed) k).A) v212 (((getM L ((at_ ((buildT vs.length fs).ed) k).A)).2) ++ [k])) ((at_ ((buildT vs.length fs).ed) k).B)).1 := ⟨_, rfl⟩
      obtain ⟨oA260, oB261, oC262⟩ := MO.take o248 ((at_ ((buildT vs.length fs).ed) k).B)
      rw [← hw259] at oA260 oC262
      have no263 := NotIdM.get no251 ((at_ ((buildT vs.length fs).ed) k).B)
      rw [← hw259] at no263
      have no264 := NotIdM.rest no251 ((at_ ((buildT vs.length fs).ed) k).B)
      have no265 := NotIdM.get no252 ((at_ ((buildT vs.length fs).ed) k).B)
      rw [← hw259] at no265
      have no266 := NotIdM.rest no252 ((at_ ((buildT vs.length fs).ed) k).B)
      have sp267 := SepM.get sp253 ((at_ ((buildT vs.length fs).ed) k).B)
      rw [← hw259] at sp267
      have sp268 := SepM.rest sp253 ((at_ ((buildT vs.length fs).ed) k).B)
      refine STR.op rfl rfl (.inl ⟨rfl, fun H1 f' H' hf hN hM => AOp.load (w258) rfl ((hf 91 rfl).trans rfl) ty_38 (hM _ _ h257) (by rw [hw259]; exact gld (by omega) (by omega)) ⟨rfl, hN⟩⟩) ?_
      refine STR.op rfl rfl (.inl ⟨rfl, fun H1 f' H' hf hN hM => AOp.move (.int .i64 k) rfl ((hf 8 rfl).trans rfl) ⟨rfl, hN⟩⟩) ?_
      refine STR.eff rfl rfl rfl fun f269 H270 hf271 m272 => ?_
      have h273 := m272 _ _ h242
      have h274 := m272 _ _ h243
      have o275 := Own.mono o250 m272
      have o276 := MO.mono oB261 m272
      have o277 := Own.mono oA260 m272
      have m278 := m245.trans m272
      refine AOp.buildSlice (cells := [.int .i64 k]) rfl u_38 ts_3 tz_3 rfl (lconsP ((hf271 93 rfl).trans rfl) rfl) rfl ?_
      intro i279 H280 n281 h282 k283
      have e284 := ne_new h273 n281
      have e285 := ne_new h274 n281
      have z286 := Mono.free m278 n281
      have h287 := keep k283 (ne_new h273 n281) h273
      have h288 := keep k283 (ne_new h274 n281) h274
      have o289 := Own.keep o275 k283 (Own.notnew o275 n281)
      have no290 := Own.notnew o275 n281
      have o291 := MO.keep o276 k283 (MO.notnew o276 n281)
      have no292 := MO.notnew o276 n281
      have o293 := Own.keep o277 k283 (Own.notnew o277 n281)
      have no294 := Own.notnew o277 n281
      have m295 := Mono.new m278 n281 k283
      refine ⟨_, rfl, .inl (Mono.new (Mono.refl _) n281 k283), ?_⟩
      refine STR.eff rfl rfl rfl fun f296 H297 hf298 m299 => ?_
      have h300 := m299 _ _ h287
      have h301 := m299 _ _ h288
      have h302 := m299 _ _ h282
      have o303 := Own.mono o289 m299
      have o304 := MO.mono o291 m299
      have o305 := Own.mono o293 m299
      have m306 := m295.trans m299
      refine AOp.append_own (es := 1) (m := 1) (len := (((getM (putM L ((at_ ((buildT vs.length fs).ed) k).A) v212 (((getM L ((at_ ((buildT vs.length fs).ed) k).A)).2) ++ [k])) ((at_ ((buildT vs.length fs).ed) k).B)).2).length)) (old := ((getM (putM L ((at_ ((buildT vs.length fs).ed) k).A) v212 (((getM L ((at_ ((buildT vs.length fs).ed) k).A)).2) ++ [k])) ((at_ ((buildT vs.length fs).ed) k).B)).2).map eI) (cells := [.int .i64 k]) rfl u_38 ts_3 tzn_3 tb_3 (by decide) ni_38 ((hf298 92 rfl).trans rfl) o305 m306 ((hf298 94 rfl).trans rfl) (.slm h302 rfl) (one_of rfl) (by decide) (by first | omega | (simp; omega)) ?_
      intro v307 H308 o309 m310 k311 j312
      have o313 := Own.snoc1 (xs := (((getM (putM L ((at_ ((buildT vs.length fs).ed) k).A) v212 (((getM L ((at_ ((buildT vs.length fs).ed) k).A)).2) ++ [k])) ((at_ ((buildT vs.length fs).ed) k).B)).2) : List Int)) (y := k) (e := eI) (by simp) o309
      have h314 := (k311 _ no263 (by rw [h300]; simp)).trans h300
      have no315 := j312 _ no263 (by rw [h300]; simp)
      have h316 := (k311 _ no265 (by rw [h301]; simp)).trans h301
      have no317 := j312 _ no265 (by rw [h301]; simp)
      have sp319 := Own.sep o303 (Sep.symm sp267) j312
      have o318 := Own.stay o303 (Sep.symm sp267) k311
      have sp321 := MO.sep o304 oC262 j312
      have o320 := MO.stay o304 oC262 k311
      refine ⟨_, rfl, .inr (RevR.skip rfl (RevR.skip rfl (RevR.skip rfl (RevR.skip rfl (RevR.skip rfl (RevR.skip rfl (RevR.skip rfl (RevR.skip rfl (RevR.skip rfl (RevR.skip rfl (RevR.cons rfl (.inl ⟨rfl, fun H1 f' H' hf hN hM => AOp.loadF (.int .i64 ((at_ ((buildT vs.length fs).ed) k).B)) rfl ((hf 83 rfl).trans rfl) ty_3 rfl ⟨rfl, hN⟩⟩) (RevR.cons rfl (.inl ⟨rfl, fun H1 f' H' hf hN hM => AOp.fieldAddrF rfl ((hf 9 rfl).trans rfl) fl_47_1 ⟨rfl, hN⟩⟩) (RevR.cons rfl (.inl ⟨rfl, fun H1 f' H' hf hN hM => AOp.load (w7_7) rfl ((hf 81 rfl).trans rfl) ty_23 (hM _ _ h316) rfl ⟨rfl, hN⟩⟩) (RevR.cons rfl (.inl ⟨rfl, fun H1 f' H' hf hN hM => AOp.fieldAddr rfl ((hf 80 rfl).trans rfl) fl_79_3 ⟨rfl, hN⟩ (hid := ⟨_, (hM _ _ h316)⟩)⟩) (RevR.cons rfl (.inl ⟨rfl, fun H1 f' H' hf hN hM => AOp.nilCheck (.ptr i95 0 0) rfl ((hf 79 rfl).trans rfl) rfl ⟨rfl, hN⟩⟩) (RevR.cons rfl (.inl ⟨rfl, fun H1 f' H' hf hN hM => AOp.move (.ptr i95 0 0) rfl ((hf 7 rfl).trans s114) ⟨rfl, hN⟩⟩) RevR.nil)))))))))))))))), ?_⟩
      refine STR.done fun H322 m323 => ?_
      have h324 := m323 _ _ h314
      have h325 := m323 _ _ h316
      have o326 := Own.mono o318 m323
      have o327 := MO.mono o320 m323
      have o328 := Own.mono o313 m323
      have m329 := m310.trans m323
      obtain ⟨i330, ver331, e332, h333, _, _⟩ := Own.pos o326 (by first | omega | (rw [gvals_len]; omega))
      refine AOps.cons rfl rfl (AOp.indexAddrO rfl (Eq.trans rfl e332) rfl sl_23 (by first | omega | (rw [gvals_len]; omega)) (by first | omega | (rw [gvals_len]; omega)) h333 ?_)
      refine AOps.cons rfl rfl (AOp.storeO (cells' := ((gvals (putM L ((at_ ((buildT vs.length fs).ed) k).A) v212 (((getM L ((at_ ((buildT vs.length fs).ed) k).A)).2) ++ [k])) vs.length).set ((at_ ((buildT vs.length fs).ed) k).B).toNat v307).map eA) rfl rfl o328 ts_38 (Own.at_ e332 o326).1 (blelen (by rw [List.length_map]) (by rw [gvals_len]; omega)) (wr_set1 (e := eA) (by omega) (by rw [gvals_len]; omega)) ?_)
      intro H334 h335 k336
      have h337 := (k336 _ (NotId.ne no118 e332)).trans h324
      have h338 := (k336 _ (NotId.ne no119 e332)).trans h325
      have o339 := Own.store e332 o326 h335 (len' := ((gvals (putM L ((at_ ((buildT vs.length fs).ed) k).A) v212 (((getM L ((at_ ((buildT vs.length fs).ed) k).A)).2) ++ [k])) vs.length).set ((at_ ((buildT vs.length fs).ed) k).B).toNat v307).length) (by rw [List.length_set]) (by rw [List.length_map, Nat.mul_one, List.length_set])
      have m340 := Mono.set m329 (Own.at_ e332 o326).2.1 k336
      have o341 := MO.stay o327 sp268 (fun i hi _ => k336 i (NotId.ne hi e332))
      have o342 := Own.stay o328 (Sep.symm sp319) (fun i hi _ => k336 i (NotId.ne hi e332))
      have o343 := MO.put (L := (putM L ((at_ ((buildT vs.length fs).ed) k).A) v212 (((getM L ((at_ ((buildT vs.length fs).ed) k).A)).2) ++ [k]))) o341 o342 sp321
      have hg344 := gvals_set (L := (putM L ((at_ ((buildT vs.length fs).ed) k).A) v212 (((getM L ((at_ ((buildT vs.length fs).ed) k).A)).2) ++ [k]))) (n := vs.length) (x := (at_ ((buildT vs.length fs).ed) k).B) (w := v307) (xs := (((getM (putM L ((at_ ((buildT vs.length fs).ed) k).A) v212 (((getM L ((at_ ((buildT vs.length fs).ed) k).A)).2) ++ [k])) ((at_ ((buildT vs.length fs).ed) k).B)).2) ++ [k])) (by omega) (by omega)
      have o345 := Own.re o339 (congrArg List.length hg344) (congrArg (fun l : List AV => l.map eA) hg344)
      have no346 := NotIdM.put (xs := (((getM (putM L ((at_ ((buildT vs.length fs).ed) k).A) v212 (((getM L ((at_ ((buildT vs.length fs).ed) k).A)).2) ++ [k])) ((at_ ((buildT vs.length fs).ed) k).B)).2) ++ [k])) no264 no315
      have no347 := NotIdM.put (xs := (((getM (putM L ((at_ ((buildT vs.length fs).ed) k).A) v212 (((getM L ((at_ ((buildT vs.length fs).ed) k).A)).2) ++ [k])) ((at_ ((buildT vs.length fs).ed) k).B)).2) ++ [k])) no266 no317
      have sp348 := SepM.put_ (xs := (((getM (putM L ((at_ ((buildT vs.length fs).ed) k).A) v212 (((getM L ((at_ ((buildT vs.length fs).ed) k).A)).2) ++ [k])) ((at_ ((buildT vs.length fs).ed) k).B)).2) ++ [k])) sp268 (Sep.symm sp319)
      refine AOps.nil ?_
      change AWP _ _ _ _ _ _
      refine AWP.region (l := [0, 1]) rfl ?_
      refine AOps.cons rfl rfl (AOp.bin (.int .i64 (k + 1)) rfl s109 rfl (iadd (by omega)) ?_)
      refine AOps.cons rfl rfl (AOp.move (.int .i64 (k + 1)) rfl rfl ?_)
      refine AOps.nil ?_
      exact ⟨_, by omega, k + 1, (putM (putM L ((at_ ((buildT vs.length fs).ed) k).A) v212 (((getM L ((at_ ((buildT vs.length fs).ed) k).A)).2) ++ [k])) ((at_ ((buildT vs.length fs).ed) k).B) v307 (((getM (putM L ((at_ ((buildT vs.length fs).ed) k).A) v212 (((getM L ((at_ ((buildT vs.length fs).ed) k).A)).2) ++ [k])) ((at_ ((buildT vs.length fs).ed) k).B)).2) ++ [k])), w7_7, rfl, rfl, s110, s111, s112, s113, s114, s115, s116, o345, no118, no119, o343, no346, no347, sp348, h337, h338, m340, by omega, by omega, by exact adj_B hk0 hG1 rfl⟩
     ·
      refine AWP.condF rfl (decide_eq_false b127) ?_
      refine AWP.exit ?_
      change AWP _ _ _ _ _ _
      refine AWP.seq ?_
      refine AWP.seq ?_
      refine AWP.frzGroup (L := L) (N := vs.length) o120 (Own.re o117 (gvals_len _ _) rfl) sp123 m126 fun H349 o350 m351 k352 => ?_
      have h353 := (k352 _ no118 no121).trans h124
      have h354 := (k352 _ no119 no122).trans h125
      have hgf := gF_eg (n := vs.length) hG (show k = ((buildT vs.length fs).ed.length : Int) by omega)
      have o355 := Own.re (k := (egR (buildT vs.length fs).ed vs.length).length) (cs := (egR (buildT vs.length fs).ed vs.length).map eF) o350 (egR_len _ _).symm (by rw [hgf])
      refine AWP.frzCell 7 o355 h354 z101 rfl no119 m351 fun H356 h357 m358 k359 => ?_
      have h360 := (k359 _ e100 no118).trans h353
      have h361 : H356 i95 = some (.row 0 ([.sl vs.length (vs.flatMap eV), .sl fs.length (fs.map eF), .sl cr.length (cr.flatMap eCr), .sl ((buildT vs.length fs).ed).length (((buildT vs.length fs).ed).flatMap eE), .sl ((buildT vs.length fs).fan).length (((buildT vs.length fs).fan).map eF), .sl ((buildT vs.length fs).rnd).length (((buildT vs.length fs).rnd).map eBo), .sl ((sharpR (buildT vs.length fs) cr).1).length (((sharpR (buildT vs.length fs) cr).1).map eI), .sl (egR (buildT vs.length fs).ed vs.length).length ((egR (buildT vs.length fs).ed vs.length).map eF), .snil])) := h357
      have hel2 := egR_len (buildT vs.length fs).ed vs.length
      refine AWP.region (l := [0, 1, 2, 3]) rfl ?_
      refine AOps.cons rfl rfl (AOp.fieldAddrF rfl s110 fl_26_1 ?_)
      refine AOps.cons rfl rfl (AOp.loadF (.sl fs.length (fs.map eF)) rfl rfl ty_23 rfl ?_)
      refine AOps.cons rfl rfl (AOp.len (m := fs.length) rfl rfl (.inr (.inl ⟨_, rfl⟩)) u_23 ?_)
      refine AOps.cons rfl rfl (AOp.move (.int .i64 0) rfl rfl ?_)
      refine AOps.nil ?_
      change AWP _ _ _ _ _ _
      refine AWP.block ?_
      refine AWP.loop (fun q362 fq Hq => ∃ (f : Int) (w7_8 : AV), q362 = (((fs.length : Int) : Int) - f).toNat ∧ fq 101 = .int .i64 f ∧ fq 1 = .fptr [.sl vs.length (vs.flatMap eV), .sl fs.length (fs.map eF), .sl cr.length (cr.flatMap eCr)] 0 ∧ fq 2 = .ptr i8 0 0 ∧ fq 3 = .int .i64 0 ∧ fq 4 = .fptr [.sl ((buildT vs.length fs).ed).length (((buildT vs.length fs).ed).flatMap eE), .sl ((buildT vs.length fs).fan).length (((buildT vs.length fs).fan).map eF), .sl ((buildT vs.length fs).rnd).length (((buildT vs.length fs).rnd).map eBo)] 0 ∧ fq 7 = .ptr i95 0 0 ∧ fq 99 = .sl fs.length (fs.map eF) ∧ fq 100 = .int .i64 (fs.length : Int) ∧ Own H0 Hq 3 w7_8 (fcR vs fs f).length ((fcR vs fs f).flatMap eV) ∧ NotId w7_8 i8 ∧ NotId w7_8 i95 ∧ Hq i8 = some (.row 0 ([.snil, .snil, .snil])) ∧ Hq i95 = some (.row 0 ([.sl vs.length (vs.flatMap eV), .sl fs.length (fs.map eF), .sl cr.length (cr.flatMap eCr), .sl ((buildT vs.length fs).ed).length (((buildT vs.length fs).ed).flatMap eE), .sl ((buildT vs.length fs).fan).length (((buildT vs.length fs).fan).map eF), .sl ((buildT vs.length fs).rnd).length (((buildT vs.length fs).rnd).map eBo), .sl ((sharpR (buildT vs.length fs) cr).1).length (((sharpR (buildT vs.length fs) cr).1).map eI), .sl (egR (buildT vs.length fs).ed vs.length).length ((egR (buildT vs.length fs).ed vs.length).map eF), w7_8])) ∧ Mono H0 Hq ∧ (0 ≤ f) ∧ (f ≤ (fs.length : Int))) (k := (((fs.length : Int) : Int) - 0).toNat) ?_ ?_
      ·
       exact ⟨0, .snil, rfl, rfl, s110, s111, s112, s113, s114, rfl, rfl, Own.nil _ _ _, (NotId.nil _), (NotId.nil _), h360, h361, m358, by omega, by omega⟩
      ·
       rintro _ f364 H363 ⟨f, w7_8, rfl, s365, s366, s367, s368, s369, s370, s371, s372, o373, no374, no375, h376, h377, m378, hf0, hf1⟩
       refine AWP.seq ?_
       refine AWP.region (l := [0]) rfl ?_
       refine AOps.cons rfl rfl (AOp.bin (.bool (decide (f < (fs.length : Int)))) rfl s365 s372 rfl ?_)
       refine AOps.nil ?_
       change AWP _ _ _ _ _ _
       refine AWP.seq ?_
       by_cases b379 : f < (fs.length : Int)
       ·
        refine AWP.condT rfl (decide_eq_true b379) ?_
        refine AWP.skip ?_
        change AWP _ _ _ _ _ _
        refine AWP.seq ?_
        refine AWP.block ?_
        refine AWP.seq ?_
        refine AWP.region (l := [0, 1, 2]) rfl ?_
        refine AOps.cons rfl rfl (AOp.indexAddrS rfl s371 s365 sl_23 (by omega) (by omega) ?_)
        refine AOps.cons rfl rfl (AOp.loadF (.sl (at_ fs f).length ((at_ fs f).map eI)) rfl rfl ty_38 (ld1 (by omega) (by omega)) ?_)
        refine AOps.cons rfl rfl (AOp.assign (.sl (at_ fs f).length ((at_ fs f).map eI)) rfl rfl ?_)
        refine AOps.nil ?_
        change AWP _ _ _ _ _ _
        have hff := hfr _ (at_mem hf0 (by omega : f < fs.length))
        have hfl := hfss _ (at_mem hf0 (by omega : f < fs.length))
        have hful : (fcR vs fs f).length = f.toNat := U_len _ _
        refine AWP.region_str mixed (by kernel_rfl) [(0, none), (1, none), (2, none), (3, none), (4, none), (5, none), (6, none), (7, none), (8, some [0, 1, 2, 3, 4]), (9, some [0])] [10, 11, 12] (by kernel_rfl) ?_
        refine STR.op rfl rfl (.inl ⟨rfl, fun H1 f' H' hf hN hM => AOp.move (.ptr i95 0 0) rfl ((hf 7 rfl).trans s370) ⟨rfl, hN⟩⟩) ?_
        refine STR.op rfl rfl (.inl ⟨rfl, fun H1 f' H' hf hN hM => AOp.move (.ptr i95 0 0) rfl ((hf 7 rfl).trans s370) ⟨rfl, hN⟩⟩) ?_
        refine STR.op rfl rfl (.inl ⟨rfl, fun H1 f' H' hf hN hM => AOp.nilCheck (.ptr i95 0 0) rfl ((hf 106 rfl).trans rfl) rfl ⟨rfl, hN⟩⟩) ?_
        refine STR.op rfl rfl (.inl ⟨rfl, fun H1 f' H' hf hN hM => AOp.fieldAddr rfl ((hf 107 rfl).trans rfl) fl_79_4 ⟨rfl, hN⟩ (hid := ⟨_, (hM _ _ h377)⟩)⟩) ?_
        refine STR.op rfl rfl (.inl ⟨rfl, fun H1 f' H' hf hN hM => AOp.load (w7_8) rfl ((hf 108 rfl).trans rfl) ty_22 (hM _ _ h377) rfl ⟨rfl, hN⟩⟩) ?_
        refine STR.op rfl rfl (.inl ⟨rfl, fun H1 f' H' hf hN hM => AOp.move (.ptr i95 0 0) rfl ((hf 7 rfl).trans s370) ⟨rfl, hN⟩⟩) ?_
        refine STR.op rfl rfl (.inl ⟨rfl, fun H1 f' H' hf hN hM => AOp.move (.sl (at_ fs f).length ((at_ fs f).map eI)) rfl ((hf 11 rfl).trans rfl) ⟨rfl, hN⟩⟩) ?_
        refine STR.op rfl rfl (.inl ⟨rfl, fun H1 f' H' hf hN hM => AOp.pcallH («as» := [.ptr i95 0 0, .sl (at_ fs f).length ((at_ fs f).map eI)]) rfl rfl (lapp (lcons ((hf 110 rfl).trans rfl) (lcons ((hf 111 rfl).trans rfl) rfl)) rfl) tf_35 (c_face vs fs cr (buildT vs.length fs) (sharpR (buildT vs.length fs) cr).1 (at_ fs f) hff hfl (by omega) hv (hM _ _ h377)) fun H2 m2 => ⟨rfl, hN.trans m2⟩⟩) ?_
        refine STR.eff rfl rfl rfl fun f380 H381 hf382 m383 => ?_
        have h384 := m383 _ _ h376
        have h385 := m383 _ _ h377
        have o386 := Own.mono o373 m383
        have m387 := m378.trans m383
        refine AOp.buildSlice (cells := [.int .i64 ((faceP vs (at_ fs f)).X), .int .i64 ((faceP vs (at_ fs f)).Y), .int .i64 ((faceP vs (at_ fs f)).Z)]) rfl u_22 ts_42 tz_42 rfl (lconsP ((hf382 112 rfl).trans rfl) rfl) rfl ?_
        intro i388 H389 n390 h391 k392
        have e393 := ne_new h384 n390
        have e394 := ne_new h385 n390
        have z395 := Mono.free m387 n390
        have h396 := keep k392 (ne_new h384 n390) h384
        have h397 := keep k392 (ne_new h385 n390) h385
        have o398 := Own.keep o386 k392 (Own.notnew o386 n390)
        have no399 := Own.notnew o386 n390
        have m400 := Mono.new m387 n390 k392
        refine ⟨_, rfl, .inl (Mono.new (Mono.refl _) n390 k392), ?_⟩
        refine STR.eff rfl rfl rfl fun f401 H402 hf403 m404 => ?_
        have h405 := m404 _ _ h396
        have h406 := m404 _ _ h397
        have h407 := m404 _ _ h391
        have o408 := Own.mono o398 m404
        have m409 := m400.trans m404
        refine AOp.append_own (es := 3) (m := 1) (len := ((fcR vs fs f).length)) (old := (fcR vs fs f).flatMap eV) (cells := [.int .i64 ((faceP vs (at_ fs f)).X), .int .i64 ((faceP vs (at_ fs f)).Y), .int .i64 ((faceP vs (at_ fs f)).Z)]) rfl u_22 ts_42 tzn_42 tb_42 (by decide) ni_22 ((hf403 109 rfl).trans rfl) o408 m409 ((hf403 113 rfl).trans rfl) (.slm h407 rfl) (one_of rfl) (by decide) (by first | omega | (simp only [List.length_append, List.length_cons, List.length_nil]; omega)) ?_
        intro v410 H411 o412 m413 k414 j415
        have o416 := Own.snocM (xs := ((fcR vs fs f) : List VT)) (y := (faceP vs (at_ fs f))) (e := eV) (by simp) o412
        have h417 := (k414 _ no374 (by rw [h405]; simp)).trans h405
        have no418 := j415 _ no374 (by rw [h405]; simp)
        have h419 := (k414 _ no375 (by rw [h406]; simp)).trans h406
        have no420 := j415 _ no375 (by rw [h406]; simp)
        refine ⟨_, rfl, .inr (RevR.skip rfl (RevR.skip rfl (RevR.skip rfl (RevR.skip rfl (RevR.skip rfl (RevR.skip rfl (RevR.skip rfl (RevR.skip rfl (RevR.cons rfl (.inl ⟨rfl, fun H1 f' H' hf hN hM => AOp.move (.ptr i95 0 0) rfl ((hf 7 rfl).trans s370) ⟨rfl, hN⟩⟩) RevR.nil))))))))), ?_⟩
        refine STR.done fun H421 m422 => ?_
        have h423 := m422 _ _ h417
        have h424 := m422 _ _ h419
        have o425 := Own.mono o416 m422
        have m426 := m413.trans m422
        refine AOps.cons rfl rfl (AOp.nilCheck (.ptr i95 0 0) rfl rfl rfl ?_)
        refine AOps.cons rfl rfl (AOp.fieldAddr rfl rfl fl_79_4 ?_ (hid := ⟨_, h424⟩))
        refine AOps.cons rfl rfl (AOp.storeO (cells' := [.sl vs.length (vs.flatMap eV), .sl fs.length (fs.map eF), .sl cr.length (cr.flatMap eCr), .sl ((buildT vs.length fs).ed).length (((buildT vs.length fs).ed).flatMap eE), .sl ((buildT vs.length fs).fan).length (((buildT vs.length fs).fan).map eF), .sl ((buildT vs.length fs).rnd).length (((buildT vs.length fs).rnd).map eBo), .sl ((sharpR (buildT vs.length fs) cr).1).length (((sharpR (buildT vs.length fs) cr).1).map eI), .sl (egR (buildT vs.length fs).ed vs.length).length ((egR (buildT vs.length fs).ed vs.length).map eF), v410]) rfl rfl o425 ts_22 h424 rfl rfl ?_)
        intro H427 h428 k429
        have h430 := keep k429 e100 h423
        have o432 := Own.keep o425 k429 no420
        have m433 := Mono.set m426 z101 k429
        refine AOps.nil ?_
        change AWP _ _ _ _ _ _
        refine AWP.region (l := [0, 1]) rfl ?_
        refine AOps.cons rfl rfl (AOp.bin (.int .i64 (f + 1)) rfl s365 rfl (iadd (by omega)) ?_)
        refine AOps.cons rfl rfl (AOp.move (.int .i64 (f + 1)) rfl rfl ?_)
        refine AOps.nil ?_
        exact ⟨_, by omega, f + 1, v410, rfl, rfl, s366, s367, s368, s369, s370, s371, s372, (have hx : (((fcR vs fs f) ++ [(faceP vs (at_ fs f))]) : List VT) = fcR vs fs (f + 1) := (by exact U_step hf0); Own.re o432 (congrArg List.length hx) (congrArg (fun l : List VT => l.flatMap eV) hx)), no418, no420, h430, h428, m433, by omega, by omega⟩
       ·
        refine AWP.condF rfl (decide_eq_false b379) ?_
        refine AWP.exit ?_
        change AWP _ _ _ _ _ _
        refine AWP.seq ?_
        refine AWP.region (l := [0]) rfl ?_
        refine AOps.cons rfl rfl (AOp.alloc rfl tz_26 ?_)
        intro i434 H435 n436 h437 k438
        have e439 := ne_new h376 n436
        have e440 := ne_new h377 n436
        have z441 := Mono.free m378 n436
        have h442 := keep k438 (ne_new h376 n436) h376
        have h443 := keep k438 (ne_new h377 n436) h377
        have o444 := Own.keep o373 k438 (Own.notnew o373 n436)
        have no445 := Own.notnew o373 n436
        have m446 := Mono.new m378 n436 k438
        refine AOps.nil ?_
        change AWP _ _ _ _ _ _
        refine AWP.seq ?_
        refine AWP.seq ?_
        have hfce : fcR vs fs f = fcR vs fs fs.length := by congr 1; omega
        have o447 := Own.re (k := (fcR vs fs fs.length).length) (cs := (fcR vs fs fs.length).flatMap eV) o444 (by rw [hfce]) (by rw [hfce])
        refine AWP.frzCell 8 o447 h443 z101 rfl no375 m446 fun H448 h449 m450 k451 => ?_
        have h452 := (k451 _ e100 no374).trans h442
        have h453 := (k451 _ (Ne.symm e440) no445).trans h437
        have h454 : H448 i95 = some (.row 0 ([.sl vs.length (vs.flatMap eV), .sl fs.length (fs.map eF), .sl cr.length (cr.flatMap eCr), .sl ((buildT vs.length fs).ed).length (((buildT vs.length fs).ed).flatMap eE), .sl ((buildT vs.length fs).fan).length (((buildT vs.length fs).fan).map eF), .sl ((buildT vs.length fs).rnd).length (((buildT vs.length fs).rnd).map eBo), .sl ((sharpR (buildT vs.length fs) cr).1).length (((sharpR (buildT vs.length fs) cr).1).map eI), .sl (egR (buildT vs.length fs).ed vs.length).length ((egR (buildT vs.length fs).ed vs.length).map eF), .sl (fcR vs fs fs.length).length ((fcR vs fs fs.length).flatMap eV)])) := h449
        have hfc := fc_in hv hfr hfss
        have hfcl := fcR_len (vs := vs) (fs := fs)
        refine AWP.region (l := [0, 1, 2, 3]) rfl ?_
        refine AOps.cons rfl rfl (AOp.fieldAddrF rfl s366 fl_26_0 ?_)
        refine AOps.cons rfl rfl (AOp.loadF (.sl vs.length (vs.flatMap eV)) rfl rfl ty_22 rfl ?_)
        refine AOps.cons rfl rfl (AOp.len (m := vs.length) rfl rfl (.inr (.inl ⟨_, rfl⟩)) u_22 ?_)
        refine AOps.cons rfl rfl (AOp.move (.int .i64 0) rfl rfl ?_)
        refine AOps.nil ?_
        change AWP _ _ _ _ _ _
        refine AWP.block ?_
        refine AWP.loop (fun q455 fq Hq => ∃ (v : Int) (w12_0 : AV), q455 = (((vs.length : Int) : Int) - v).toNat ∧ fq 121 = .int .i64 v ∧ fq 1 = .fptr [.sl vs.length (vs.flatMap eV), .sl fs.length (fs.map eF), .sl cr.length (cr.flatMap eCr)] 0 ∧ fq 2 = .ptr i8 0 0 ∧ fq 3 = .int .i64 0 ∧ fq 4 = .fptr [.sl ((buildT vs.length fs).ed).length (((buildT vs.length fs).ed).flatMap eE), .sl ((buildT vs.length fs).fan).length (((buildT vs.length fs).fan).map eF), .sl ((buildT vs.length fs).rnd).length (((buildT vs.length fs).rnd).map eBo)] 0 ∧ fq 7 = .ptr i95 0 0 ∧ fq 12 = .ptr i434 0 0 ∧ fq 120 = .int .i64 (vs.length : Int) ∧ Own H0 Hq 3 w12_0 ((v1R vs (fcR vs fs fs.length) (buildT vs.length fs) (sharpR (buildT vs.length fs) cr).1 v)).length (((v1R vs (fcR vs fs fs.length) (buildT vs.length fs) (sharpR (buildT vs.length fs) cr).1 v)).flatMap eV) ∧ NotId w12_0 i8 ∧ NotId w12_0 i434 ∧ NotId w12_0 i95 ∧ Hq i8 = some (.row 0 ([.snil, .snil, .snil])) ∧ Hq i434 = some (.row 0 ([w12_0, .snil, .snil])) ∧ Hq i95 = some (.row 0 ([.sl vs.length (vs.flatMap eV), .sl fs.length (fs.map eF), .sl cr.length (cr.flatMap eCr), .sl ((buildT vs.length fs).ed).length (((buildT vs.length fs).ed).flatMap eE), .sl ((buildT vs.length fs).fan).length (((buildT vs.length fs).fan).map eF), .sl ((buildT vs.length fs).rnd).length (((buildT vs.length fs).rnd).map eBo), .sl ((sharpR (buildT vs.length fs) cr).1).length (((sharpR (buildT vs.length fs) cr).1).map eI), .sl (egR (buildT vs.length fs).ed vs.length).length ((egR (buildT vs.length fs).ed vs.length).map eF), .sl (fcR vs fs fs.length).length ((fcR vs fs fs.length).flatMap eV)])) ∧ Mono H0 Hq ∧ (0 ≤ v) ∧ (v ≤ (vs.length : Int))) (k := (((vs.length : Int) : Int) - 0).toNat) ?_ ?_
        ·
         exact ⟨0, .snil, rfl, rfl, s366, s367, s368, s369, s370, rfl, rfl, Own.nil _ _ _, (NotId.nil _), (NotId.nil _), (NotId.nil _), h452, h453, h454, m450, by omega, by omega⟩
        ·
         rintro _ f457 H456 ⟨v, w12_0, rfl, s458, s459, s460, s461, s462, s463, s464, s465, o466, no467, no468, no469, h470, h471, h472, m473, hv0, hv1⟩
         refine AWP.seq ?_
         refine AWP.region (l := [0]) rfl ?_
         refine AOps.cons rfl rfl (AOp.bin (.bool (decide (v < (vs.length : Int)))) rfl s458 s465 rfl ?_)
         refine AOps.nil ?_
         change AWP _ _ _ _ _ _
         refine AWP.seq ?_
         by_cases b474 : v < (vs.length : Int)
         ·
          refine AWP.condT rfl (decide_eq_true b474) ?_
          refine AWP.skip ?_
          change AWP _ _ _ _ _ _
          refine AWP.seq ?_
          refine AWP.block ?_
          refine AWP.seq ?_
          refine AWP.region (l := [0, 1]) rfl ?_
          refine AOps.cons rfl rfl (AOp.move (.int .i64 v) rfl s458 ?_)
          refine AOps.cons rfl rfl (AOp.assign (.int .i64 v) rfl rfl ?_)
          refine AOps.nil ?_
          change AWP _ _ _ _ _ _
          have hvul : (v1R vs (fcR vs fs fs.length) (buildT vs.length fs) (sharpR (buildT vs.length fs) cr).1 v).length = v.toNat := U_len _ _
          refine AWP.region_str mixed (by kernel_rfl) [(0, none), (1, none), (2, none), (3, none), (4, none), (5, some [0, 1])] [6, 7, 8] (by kernel_rfl) ?_
          refine STR.op rfl rfl (.inl ⟨rfl, fun H1 f' H' hf hN hM => AOp.fieldAddr rfl ((hf 12 rfl).trans s464) fl_26_0 ⟨rfl, hN⟩ (hid := ⟨_, (hM _ _ h471)⟩)⟩) ?_
          refine STR.op rfl rfl (.inl ⟨rfl, fun H1 f' H' hf hN hM => AOp.load (w12_0) rfl ((hf 124 rfl).trans rfl) ty_22 (hM _ _ h471) rfl ⟨rfl, hN⟩⟩) ?_
          refine STR.op rfl rfl (.inl ⟨rfl, fun H1 f' H' hf hN hM => AOp.move (.ptr i95 0 0) rfl ((hf 7 rfl).trans s463) ⟨rfl, hN⟩⟩) ?_
          refine STR.op rfl rfl (.inl ⟨rfl, fun H1 f' H' hf hN hM => AOp.move (.int .i64 v) rfl ((hf 13 rfl).trans rfl) ⟨rfl, hN⟩⟩) ?_
          refine STR.op rfl rfl (.inl ⟨rfl, fun H1 f' H' hf hN hM => AOp.pcallH («as» := [.ptr i95 0 0, .int .i64 v]) rfl rfl (lapp (lcons ((hf 126 rfl).trans rfl) (lcons ((hf 127 rfl).trans rfl) rfl)) rfl) tf_36 (c_vertexL hvl tf sf hv hfc v hv0 (by omega) (hM _ _ h472)) fun H2 m2 => ⟨rfl, hN.trans m2⟩⟩) ?_
          refine STR.eff rfl rfl rfl fun f475 H476 hf477 m478 => ?_
          have h479 := m478 _ _ h470
          have h480 := m478 _ _ h471
          have h481 := m478 _ _ h472
          have o482 := Own.mono o466 m478
          have m483 := m473.trans m478
          refine AOp.buildSlice (cells := [.int .i64 ((vertP vs (fcR vs fs fs.length) (buildT vs.length fs).ed (sharpR (buildT vs.length fs) cr).1 (at_ (buildT vs.length fs).fan v) (at_ (egR (buildT vs.length fs).ed vs.length) v) v).X), .int .i64 ((vertP vs (fcR vs fs fs.length) (buildT vs.length fs).ed (sharpR (buildT vs.length fs) cr).1 (at_ (buildT vs.length fs).fan v) (at_ (egR (buildT vs.length fs).ed vs.length) v) v).Y), .int .i64 ((vertP vs (fcR vs fs fs.length) (buildT vs.length fs).ed (sharpR (buildT vs.length fs) cr).1 (at_ (buildT vs.length fs).fan v) (at_ (egR (buildT vs.length fs).ed vs.length) v) v).Z)]) rfl u_22 ts_42 tz_42 rfl (lconsP ((hf477 128 rfl).trans rfl) rfl) rfl ?_
          intro i484 H485 n486 h487 k488
          have e489 := ne_new h479 n486
          have e490 := ne_new h480 n486
          have e491 := ne_new h481 n486
          have z492 := Mono.free m483 n486
          have h493 := keep k488 (ne_new h479 n486) h479
          have h494 := keep k488 (ne_new h480 n486) h480
          have h495 := keep k488 (ne_new h481 n486) h481
          have o496 := Own.keep o482 k488 (Own.notnew o482 n486)
          have no497 := Own.notnew o482 n486
          have m498 := Mono.new m483 n486 k488
          refine ⟨_, rfl, .inl (Mono.new (Mono.refl _) n486 k488), ?_⟩
          refine STR.done fun H499 m500 => ?_
          have h501 := m500 _ _ h493
          have h502 := m500 _ _ h494
          have h503 := m500 _ _ h495
          have h504 := m500 _ _ h487
          have o505 := Own.mono o496 m500
          have m506 := m498.trans m500
          refine AOps.cons rfl rfl (AOp.append_own (es := 3) (m := 1) (len := (((v1R vs (fcR vs fs fs.length) (buildT vs.length fs) (sharpR (buildT vs.length fs) cr).1 v)).length)) (old := ((v1R vs (fcR vs fs fs.length) (buildT vs.length fs) (sharpR (buildT vs.length fs) cr).1 v)).flatMap eV) (cells := [.int .i64 ((vertP vs (fcR vs fs fs.length) (buildT vs.length fs).ed (sharpR (buildT vs.length fs) cr).1 (at_ (buildT vs.length fs).fan v) (at_ (egR (buildT vs.length fs).ed vs.length) v) v).X), .int .i64 ((vertP vs (fcR vs fs fs.length) (buildT vs.length fs).ed (sharpR (buildT vs.length fs) cr).1 (at_ (buildT vs.length fs).fan v) (at_ (egR (buildT vs.length fs).ed vs.length) v) v).Y), .int .i64 ((vertP vs (fcR vs fs fs.length) (buildT vs.length fs).ed (sharpR (buildT vs.length fs) cr).1 (at_ (buildT vs.length fs).fan v) (at_ (egR (buildT vs.length fs).ed vs.length) v) v).Z)]) rfl u_22 ts_42 tzn_42 tb_42 (by decide) ni_22 rfl o505 m506 rfl (.slm h504 rfl) (one_of rfl) (by decide) (by first | omega | (simp only [List.length_append, List.length_cons, List.length_nil]; omega)) ?_)
          intro v507 H508 o509 m510 k511 j512
          have o513 := Own.snocM (xs := (((v1R vs (fcR vs fs fs.length) (buildT vs.length fs) (sharpR (buildT vs.length fs) cr).1 v)) : List VT)) (y := (vertP vs (fcR vs fs fs.length) (buildT vs.length fs).ed (sharpR (buildT vs.length fs) cr).1 (at_ (buildT vs.length fs).fan v) (at_ (egR (buildT vs.length fs).ed vs.length) v) v)) (e := eV) (by simp) o509
          have h514 := (k511 _ no467 (by rw [h501]; simp)).trans h501
          have no515 := j512 _ no467 (by rw [h501]; simp)
          have h516 := (k511 _ no468 (by rw [h502]; simp)).trans h502
          have no517 := j512 _ no468 (by rw [h502]; simp)
          have h518 := (k511 _ no469 (by rw [h503]; simp)).trans h503
          have no519 := j512 _ no469 (by rw [h503]; simp)
          refine AOps.cons rfl rfl (AOp.fieldAddr rfl s464 fl_26_0 ?_ (hid := ⟨_, h516⟩))
          refine AOps.cons rfl rfl (AOp.storeO (cells' := [v507, .snil, .snil]) rfl rfl o513 ts_22 h516 rfl rfl ?_)
          intro H520 h521 k522
          have h523 := keep k522 e439 h514
          have h525 := keep k522 e440 h518
          have o526 := Own.keep o513 k522 no517
          have m527 := Mono.set m510 z441 k522
          refine AOps.nil ?_
          change AWP _ _ _ _ _ _
          refine AWP.region (l := [0, 1]) rfl ?_
          refine AOps.cons rfl rfl (AOp.bin (.int .i64 (v + 1)) rfl s458 rfl (iadd (by omega)) ?_)
          refine AOps.cons rfl rfl (AOp.move (.int .i64 (v + 1)) rfl rfl ?_)
          refine AOps.nil ?_
          exact ⟨_, by omega, v + 1, v507, rfl, rfl, s459, s460, s461, s462, s463, s464, s465, (have hx : ((((v1R vs (fcR vs fs fs.length) (buildT vs.length fs) (sharpR (buildT vs.length fs) cr).1 v)) ++ [(vertP vs (fcR vs fs fs.length) (buildT vs.length fs).ed (sharpR (buildT vs.length fs) cr).1 (at_ (buildT vs.length fs).fan v) (at_ (egR (buildT vs.length fs).ed vs.length) v) v)]) : List VT) = (v1R vs (fcR vs fs fs.length) (buildT vs.length fs) (sharpR (buildT vs.length fs) cr).1 (v + 1)) := (by exact U_step hv0); Own.re o526 (congrArg List.length hx) (congrArg (fun l : List VT => l.flatMap eV) hx)), no515, no517, no519, h523, h521, h525, m527, by omega, by omega⟩
         ·
          refine AWP.condF rfl (decide_eq_false b474) ?_
          refine AWP.exit ?_
          change AWP _ _ _ _ _ _
          refine AWP.seq ?_
          refine AWP.seq ?_
          refine AWP.region (l := [0, 1, 2, 3]) rfl ?_
          refine AOps.cons rfl rfl (AOp.fieldAddrF rfl s462 fl_35_0 ?_)
          refine AOps.cons rfl rfl (AOp.loadF (.sl ((buildT vs.length fs).ed).length (((buildT vs.length fs).ed).flatMap eE)) rfl rfl ty_32 rfl ?_)
          refine AOps.cons rfl rfl (AOp.len (m := ((buildT vs.length fs).ed).length) rfl rfl (.inr (.inl ⟨_, rfl⟩)) u_32 ?_)
          refine AOps.cons rfl rfl (AOp.move (.int .i64 0) rfl rfl ?_)
          refine AOps.nil ?_
          change AWP _ _ _ _ _ _
          refine AWP.block ?_
          refine AWP.loop (fun q528 fq Hq => ∃ (i : Int) (w12_0 : AV) (w12_2 : AV), q528 = ((((buildT vs.length fs).ed.length : Int) : Int) - i).toNat ∧ fq 136 = .int .i64 i ∧ fq 1 = .fptr [.sl vs.length (vs.flatMap eV), .sl fs.length (fs.map eF), .sl cr.length (cr.flatMap eCr)] 0 ∧ fq 2 = .ptr i8 0 0 ∧ fq 3 = .int .i64 0 ∧ fq 7 = .ptr i95 0 0 ∧ fq 12 = .ptr i434 0 0 ∧ fq 135 = .int .i64 ((((buildT vs.length fs).ed).length) : Int) ∧ Own H0 Hq 3 w12_0 (((v1R vs (fcR vs fs fs.length) (buildT vs.length fs) (sharpR (buildT vs.length fs) cr).1 vs.length) ++ (v2R vs (fcR vs fs fs.length) (buildT vs.length fs) (sharpR (buildT vs.length fs) cr).1 i))).length ((((v1R vs (fcR vs fs fs.length) (buildT vs.length fs) (sharpR (buildT vs.length fs) cr).1 vs.length) ++ (v2R vs (fcR vs fs fs.length) (buildT vs.length fs) (sharpR (buildT vs.length fs) cr).1 i))).flatMap eV) ∧ Own H0 Hq 3 w12_2 (crR vs.length (buildT vs.length fs) (sharpR (buildT vs.length fs) cr).1 i).length ((crR vs.length (buildT vs.length fs) (sharpR (buildT vs.length fs) cr).1 i).flatMap eCr) ∧ NotId w12_0 i8 ∧ NotId w12_0 i434 ∧ NotId w12_0 i95 ∧ NotId w12_2 i8 ∧ NotId w12_2 i434 ∧ NotId w12_2 i95 ∧ Sep w12_0 w12_2 ∧ Hq i8 = some (.row 0 ([.snil, .snil, .snil])) ∧ Hq i434 = some (.row 0 ([w12_0, .snil, w12_2])) ∧ Hq i95 = some (.row 0 ([.sl vs.length (vs.flatMap eV), .sl fs.length (fs.map eF), .sl cr.length (cr.flatMap eCr), .sl ((buildT vs.length fs).ed).length (((buildT vs.length fs).ed).flatMap eE), .sl ((buildT vs.length fs).fan).length (((buildT vs.length fs).fan).map eF), .sl ((buildT vs.length fs).rnd).length (((buildT vs.length fs).rnd).map eBo), .sl ((sharpR (buildT vs.length fs) cr).1).length (((sharpR (buildT vs.length fs) cr).1).map eI), .sl (egR (buildT vs.length fs).ed vs.length).length ((egR (buildT vs.length fs).ed vs.length).map eF), .sl (fcR vs fs fs.length).length ((fcR vs fs fs.length).flatMap eV)])) ∧ Mono H0 Hq ∧ (0 ≤ i) ∧ (i ≤ ((buildT vs.length fs).ed.length : Int))) (k := ((((buildT vs.length fs).ed.length : Int) : Int) - 0).toNat) ?_ ?_
          ·
           exact ⟨0, w12_0, .snil, rfl, rfl, s459, s460, s461, s463, s464, rfl, (have hx : (((v1R vs (fcR vs fs fs.length) (buildT vs.length fs) (sharpR (buildT vs.length fs) cr).1 v)) : List VT) = ((v1R vs (fcR vs fs fs.length) (buildT vs.length fs) (sharpR (buildT vs.length fs) cr).1 vs.length) ++ (v2R vs (fcR vs fs fs.length) (buildT vs.length fs) (sharpR (buildT vs.length fs) cr).1 0)) := (by rw [show v = (vs.length : Int) by omega]; exact (List.append_nil _).symm); Own.re o466 (congrArg List.length hx) (congrArg (fun l : List VT => l.flatMap eV) hx)), Own.nil _ _ _, no467, no468, no469, (NotId.nil _), (NotId.nil _), (NotId.nil _), (Sep.nilR _), h470, h471, h472, m473, by omega, by omega⟩
          ·
           rintro _ f530 H529 ⟨i, w12_0, w12_2, rfl, s531, s532, s533, s534, s535, s536, s537, o538, o539, no540, no541, no542, no543, no544, no545, sp546, h547, h548, h549, m550, hi0, hi1⟩
           refine AWP.seq ?_
           refine AWP.region (l := [0]) rfl ?_
           refine AOps.cons rfl rfl (AOp.bin (.bool (decide (i < ((((buildT vs.length fs).ed).length) : Int)))) rfl s531 s537 rfl ?_)
           refine AOps.nil ?_
           change AWP _ _ _ _ _ _
           refine AWP.seq ?_
           by_cases b551 : i < ((((buildT vs.length fs).ed).length) : Int)
           ·
            refine AWP.condT rfl (decide_eq_true b551) ?_
            refine AWP.skip ?_
            change AWP _ _ _ _ _ _
            refine AWP.seq ?_
            refine AWP.block ?_
            refine AWP.seq ?_
            refine AWP.region (l := [0, 1]) rfl ?_
            refine AOps.cons rfl rfl (AOp.move (.int .i64 i) rfl s531 ?_)
            refine AOps.cons rfl rfl (AOp.assign (.int .i64 i) rfl rfl ?_)
            refine AOps.nil ?_
            change AWP _ _ _ _ _ _
            refine AWP.seq ?_
            have h1ul : (v1R vs (fcR vs fs fs.length) (buildT vs.length fs) (sharpR (buildT vs.length fs) cr).1 vs.length).length = (vs.length : Int).toNat := U_len _ _
            have h2ul : (v2R vs (fcR vs fs fs.length) (buildT vs.length fs) (sharpR (buildT vs.length fs) cr).1 i).length = i.toNat := U_len _ _
            refine AWP.region_str mixed (by kernel_rfl) [(0, none), (1, none), (2, none), (3, none), (4, none), (5, some [0, 1])] [6, 7, 8] (by kernel_rfl) ?_
            refine STR.op rfl rfl (.inl ⟨rfl, fun H1 f' H' hf hN hM => AOp.fieldAddr rfl ((hf 12 rfl).trans s536) fl_26_0 ⟨rfl, hN⟩ (hid := ⟨_, (hM _ _ h548)⟩)⟩) ?_
            refine STR.op rfl rfl (.inl ⟨rfl, fun H1 f' H' hf hN hM => AOp.load (w12_0) rfl ((hf 139 rfl).trans rfl) ty_22 (hM _ _ h548) rfl ⟨rfl, hN⟩⟩) ?_
            refine STR.op rfl rfl (.inl ⟨rfl, fun H1 f' H' hf hN hM => AOp.move (.ptr i95 0 0) rfl ((hf 7 rfl).trans s535) ⟨rfl, hN⟩⟩) ?_
            refine STR.op rfl rfl (.inl ⟨rfl, fun H1 f' H' hf hN hM => AOp.move (.int .i64 i) rfl ((hf 14 rfl).trans rfl) ⟨rfl, hN⟩⟩) ?_
            refine STR.op rfl rfl (.inl ⟨rfl, fun H1 f' H' hf hN hM => AOp.pcallH («as» := [.ptr i95 0 0, .int .i64 i]) rfl rfl (lapp (lcons ((hf 141 rfl).trans rfl) (lcons ((hf 142 rfl).trans rfl) rfl)) rfl) tf_37 (c_edgeL hvl tf sf hv hfc i hi0 (by omega) (hM _ _ h549)) fun H2 m2 => ⟨rfl, hN.trans m2⟩⟩) ?_
            refine STR.eff rfl rfl rfl fun f552 H553 hf554 m555 => ?_
            have h556 := m555 _ _ h547
            have h557 := m555 _ _ h548
            have h558 := m555 _ _ h549
            have o559 := Own.mono o538 m555
            have o560 := Own.mono o539 m555
            have m561 := m550.trans m555
            refine AOp.buildSlice (cells := [.int .i64 ((edgeP vs (fcR vs fs fs.length) (at_ (buildT vs.length fs).ed i) (at_ (sharpR (buildT vs.length fs) cr).1 i)).X), .int .i64 ((edgeP vs (fcR vs fs fs.length) (at_ (buildT vs.length fs).ed i) (at_ (sharpR (buildT vs.length fs) cr).1 i)).Y), .int .i64 ((edgeP vs (fcR vs fs fs.length) (at_ (buildT vs.length fs).ed i) (at_ (sharpR (buildT vs.length fs) cr).1 i)).Z)]) rfl u_22 ts_42 tz_42 rfl (lconsP ((hf554 143 rfl).trans rfl) rfl) rfl ?_
            intro i562 H563 n564 h565 k566
            have e567 := ne_new h556 n564
            have e568 := ne_new h557 n564
            have e569 := ne_new h558 n564
            have z570 := Mono.free m561 n564
            have h571 := keep k566 (ne_new h556 n564) h556
            have h572 := keep k566 (ne_new h557 n564) h557
            have h573 := keep k566 (ne_new h558 n564) h558
            have o574 := Own.keep o559 k566 (Own.notnew o559 n564)
            have no575 := Own.notnew o559 n564
            have o576 := Own.keep o560 k566 (Own.notnew o560 n564)
            have no577 := Own.notnew o560 n564
            have m578 := Mono.new m561 n564 k566
            refine ⟨_, rfl, .inl (Mono.new (Mono.refl _) n564 k566), ?_⟩
            refine STR.done fun H579 m580 => ?_
            have h581 := m580 _ _ h571
            have h582 := m580 _ _ h572
            have h583 := m580 _ _ h573
            have h584 := m580 _ _ h565
            have o585 := Own.mono o574 m580
            have o586 := Own.mono o576 m580
            have m587 := m578.trans m580
            refine AOps.cons rfl rfl (AOp.append_own (es := 3) (m := 1) (len := ((((v1R vs (fcR vs fs fs.length) (buildT vs.length fs) (sharpR (buildT vs.length fs) cr).1 vs.length) ++ (v2R vs (fcR vs fs fs.length) (buildT vs.length fs) (sharpR (buildT vs.length fs) cr).1 i))).length)) (old := (((v1R vs (fcR vs fs fs.length) (buildT vs.length fs) (sharpR (buildT vs.length fs) cr).1 vs.length) ++ (v2R vs (fcR vs fs fs.length) (buildT vs.length fs) (sharpR (buildT vs.length fs) cr).1 i))).flatMap eV) (cells := [.int .i64 ((edgeP vs (fcR vs fs fs.length) (at_ (buildT vs.length fs).ed i) (at_ (sharpR (buildT vs.length fs) cr).1 i)).X), .int .i64 ((edgeP vs (fcR vs fs fs.length) (at_ (buildT vs.length fs).ed i) (at_ (sharpR (buildT vs.length fs) cr).1 i)).Y), .int .i64 ((edgeP vs (fcR vs fs fs.length) (at_ (buildT vs.length fs).ed i) (at_ (sharpR (buildT vs.length fs) cr).1 i)).Z)]) rfl u_22 ts_42 tzn_42 tb_42 (by decide) ni_22 rfl o585 m587 rfl (.slm h584 rfl) (one_of rfl) (by decide) (by first | omega | (simp only [List.length_append, List.length_cons, List.length_nil]; omega)) ?_)
            intro v588 H589 o590 m591 k592 j593
            have o594 := Own.snocM (xs := ((((v1R vs (fcR vs fs fs.length) (buildT vs.length fs) (sharpR (buildT vs.length fs) cr).1 vs.length) ++ (v2R vs (fcR vs fs fs.length) (buildT vs.length fs) (sharpR (buildT vs.length fs) cr).1 i))) : List VT)) (y := (edgeP vs (fcR vs fs fs.length) (at_ (buildT vs.length fs).ed i) (at_ (sharpR (buildT vs.length fs) cr).1 i))) (e := eV) (by simp) o590
            have h595 := (k592 _ no540 (by rw [h581]; simp)).trans h581
            have no596 := j593 _ no540 (by rw [h581]; simp)
            have h597 := (k592 _ no541 (by rw [h582]; simp)).trans h582
            have no598 := j593 _ no541 (by rw [h582]; simp)
            have h599 := (k592 _ no542 (by rw [h583]; simp)).trans h583
            have no600 := j593 _ no542 (by rw [h583]; simp)
            have sp602 := Own.sep o586 (Sep.symm sp546) j593
            have o601 := Own.stay o586 (Sep.symm sp546) k592
            refine AOps.cons rfl rfl (AOp.fieldAddr rfl s536 fl_26_0 ?_ (hid := ⟨_, h597⟩))
            refine AOps.cons rfl rfl (AOp.storeO (cells' := [v588, .snil, w12_2]) rfl rfl o594 ts_22 h597 rfl rfl ?_)
            intro H603 h604 k605
            have h606 := keep k605 e439 h595
            have h608 := keep k605 e440 h599
            have o609 := Own.keep o601 k605 no544
            have o610 := Own.keep o594 k605 no598
            have m611 := Mono.set m591 z441 k605
            refine AOps.nil ?_
            change AWP _ _ _ _ _ _
            have hcrl := crR_len vs.length (buildT vs.length fs) (sharpR (buildT vs.length fs) cr).1 i
            have hcpl := crease_len vs.length (buildT vs.length fs) (sharpR (buildT vs.length fs) cr).1 i
            refine AWP.region_quiet mixed (by kernel_rfl) 5 [5, 6, 7] rfl (by kernel_rfl) (Mono H603) (Mono.refl _) ?_
            refine QE.op rfl rfl (.inl ⟨rfl, fun f' H' hf hM => AOp.fieldAddr rfl ((hf 12 rfl).trans s536) fl_26_2 ⟨rfl, hM⟩ (hid := ⟨_, (hM _ _ h604)⟩)⟩) ?_
            refine QE.op rfl rfl (.inl ⟨rfl, fun f' H' hf hM => AOp.load (w12_2) rfl ((hf 147 rfl).trans rfl) ty_24 (hM _ _ h604) rfl ⟨rfl, hM⟩⟩) ?_
            refine QE.op rfl rfl (.inl ⟨rfl, fun f' H' hf hM => AOp.move (.ptr i95 0 0) rfl ((hf 7 rfl).trans s535) ⟨rfl, hM⟩⟩) ?_
            refine QE.op rfl rfl (.inl ⟨rfl, fun f' H' hf hM => AOp.move (.int .i64 i) rfl ((hf 14 rfl).trans rfl) ⟨rfl, hM⟩⟩) ?_
            refine QE.op rfl rfl (.inl ⟨rfl, fun f' H' hf hM => AOp.pcallH («as» := [.ptr i95 0 0, .int .i64 i]) rfl rfl (lapp (lcons ((hf 149 rfl).trans rfl) (lcons ((hf 150 rfl).trans rfl) rfl)) rfl) tf_38 (c_creases vs fs cr (buildT vs.length fs) (sharpR (buildT vs.length fs) cr).1 i ⟨hi0, by omega⟩ (by omega) (by omega) sf.len ⟨sf.nn _ hi0 (by omega), sf.most _ hi0 (by omega)⟩ (hM _ _ h608)) fun H2 m2 => ⟨rfl, hM.trans m2⟩⟩) ?_
            refine QE.done fun H612 m613 => ?_
            have h614 := m613 _ _ h606
            have h615 := m613 _ _ h608
            have h616 := m613 _ _ h604
            have o617 := Own.mono o609 m613
            have o618 := Own.mono o610 m613
            have m619 := m611.trans m613
            refine AOps.cons rfl rfl (AOp.append_any (es := 3) (m := (creaseP vs.length (buildT vs.length fs) (sharpR (buildT vs.length fs) cr).1 i).length) (len := ((crR vs.length (buildT vs.length fs) (sharpR (buildT vs.length fs) cr).1 i).length)) (old := (crR vs.length (buildT vs.length fs) (sharpR (buildT vs.length fs) cr).1 i).flatMap eCr) (cells := (creaseP vs.length (buildT vs.length fs) (sharpR (buildT vs.length fs) cr).1 i).flatMap eCr) rfl u_24 ts_53 tzn_53 tb_53 (by decide) ni_24 rfl o617 m619 rfl (.sl (flatMap_length eCr_len _)) (by exact one_flat eCr_one)  (by first | omega | (simp only [List.length_append, List.length_cons, List.length_nil]; omega)) ?_)
            intro v620 H621 o622 m623 k624 j625
            have o626 := Own.appM (xs := ((crR vs.length (buildT vs.length fs) (sharpR (buildT vs.length fs) cr).1 i) : List CrT)) (ys := creaseP vs.length (buildT vs.length fs) (sharpR (buildT vs.length fs) cr).1 i) (e := eCr) (by simp) o622
            have h627 := (k624 _ no543 (by rw [h614]; simp)).trans h614
            have no628 := j625 _ no543 (by rw [h614]; simp)
            have h629 := (k624 _ no545 (by rw [h615]; simp)).trans h615
            have no630 := j625 _ no545 (by rw [h615]; simp)
            have h631 := (k624 _ no544 (by rw [h616]; simp)).trans h616
            have no632 := j625 _ no544 (by rw [h616]; simp)
            have sp634 := Own.sep o618 (Sep.symm sp602) j625
            have o633 := Own.stay o618 (Sep.symm sp602) k624
            refine AOps.cons rfl rfl (AOp.fieldAddr rfl s536 fl_26_2 ?_ (hid := ⟨_, h631⟩))
            refine AOps.cons rfl rfl (AOp.storeO (cells' := [v588, .snil, v620]) rfl rfl o626 ts_24 h631 rfl rfl ?_)
            intro H635 h636 k637
            have h638 := keep k637 e439 h627
            have h639 := keep k637 e440 h629
            have o641 := Own.keep o633 k637 no598
            have o642 := Own.keep o626 k637 no632
            have m643 := Mono.set m623 z441 k637
            refine AOps.nil ?_
            change AWP _ _ _ _ _ _
            refine AWP.region (l := [0, 1]) rfl ?_
            refine AOps.cons rfl rfl (AOp.bin (.int .i64 (i + 1)) rfl s531 rfl (iadd (by omega)) ?_)
            refine AOps.cons rfl rfl (AOp.move (.int .i64 (i + 1)) rfl rfl ?_)
            refine AOps.nil ?_
            exact ⟨_, by omega, i + 1, v588, v620, rfl, rfl, s532, s533, s534, s535, s536, s537, (have hx : (((((v1R vs (fcR vs fs fs.length) (buildT vs.length fs) (sharpR (buildT vs.length fs) cr).1 vs.length) ++ (v2R vs (fcR vs fs fs.length) (buildT vs.length fs) (sharpR (buildT vs.length fs) cr).1 i))) ++ [(edgeP vs (fcR vs fs fs.length) (at_ (buildT vs.length fs).ed i) (at_ (sharpR (buildT vs.length fs) cr).1 i))]) : List VT) = ((v1R vs (fcR vs fs fs.length) (buildT vs.length fs) (sharpR (buildT vs.length fs) cr).1 vs.length) ++ (v2R vs (fcR vs fs fs.length) (buildT vs.length fs) (sharpR (buildT vs.length fs) cr).1 (i + 1))) := (by rw [List.append_assoc]; exact congrArg (fun l => _ ++ l) (U_step hi0)); Own.re o641 (congrArg List.length hx) (congrArg (fun l : List VT => l.flatMap eV) hx)), (have hx : (((crR vs.length (buildT vs.length fs) (sharpR (buildT vs.length fs) cr).1 i) ++ (creaseP vs.length (buildT vs.length fs) (sharpR (buildT vs.length fs) cr).1 i)) : List CrT) = crR vs.length (buildT vs.length fs) (sharpR (buildT vs.length fs) cr).1 (i + 1) := (by exact F_step hi0); Own.re o642 (congrArg List.length hx) (congrArg (fun l : List CrT => l.flatMap eCr) hx)), no596, no598, no600, no628, no632, no630, sp634, h638, h636, h639, m643, by omega, by omega⟩
           ·
            refine AWP.condF rfl (decide_eq_false b551) ?_
            refine AWP.exit ?_
            change AWP _ _ _ _ _ _
            refine AWP.seq ?_
            have h1ul : (v1R vs (fcR vs fs fs.length) (buildT vs.length fs) (sharpR (buildT vs.length fs) cr).1 vs.length).length = (vs.length : Int).toNat := U_len _ _
            have h2ul : (v2R vs (fcR vs fs fs.length) (buildT vs.length fs) (sharpR (buildT vs.length fs) cr).1 i).length = i.toNat := U_len _ _
            refine AWP.region_quiet mixed (by kernel_rfl) 6 [6, 7, 8] rfl (by kernel_rfl) (Mono H529) (Mono.refl _) ?_
            refine QE.op rfl rfl (.inl ⟨rfl, fun f' H' hf hM => AOp.fieldAddr rfl ((hf 12 rfl).trans s536) fl_26_0 ⟨rfl, hM⟩ (hid := ⟨_, (hM _ _ h548)⟩)⟩) ?_
            refine QE.op rfl rfl (.inl ⟨rfl, fun f' H' hf hM => AOp.load (w12_0) rfl ((hf 155 rfl).trans rfl) ty_22 (hM _ _ h548) rfl ⟨rfl, hM⟩⟩) ?_
            refine QE.op rfl rfl (.inl ⟨rfl, fun f' H' hf hM => AOp.move (.ptr i95 0 0) rfl ((hf 7 rfl).trans s535) ⟨rfl, hM⟩⟩) ?_
            refine QE.op rfl rfl (.inl ⟨rfl, fun f' H' hf hM => AOp.nilCheck (.ptr i95 0 0) rfl ((hf 157 rfl).trans rfl) rfl ⟨rfl, hM⟩⟩) ?_
            refine QE.op rfl rfl (.inl ⟨rfl, fun f' H' hf hM => AOp.fieldAddr rfl ((hf 158 rfl).trans rfl) fl_79_4 ⟨rfl, hM⟩ (hid := ⟨_, (hM _ _ h549)⟩)⟩) ?_
            refine QE.op rfl rfl (.inl ⟨rfl, fun f' H' hf hM => AOp.load (.sl (fcR vs fs fs.length).length ((fcR vs fs fs.length).flatMap eV)) rfl ((hf 159 rfl).trans rfl) ty_22 (hM _ _ h549) rfl ⟨rfl, hM⟩⟩) ?_
            refine QE.done fun H644 m645 => ?_
            have h646 := m645 _ _ h547
            have h647 := m645 _ _ h548
            have h648 := m645 _ _ h549
            have o649 := Own.mono o538 m645
            have o650 := Own.mono o539 m645
            have m651 := m550.trans m645
            refine AOps.cons rfl rfl (AOp.append_any (es := 3) (m := (fcR vs fs fs.length).length) (len := ((((v1R vs (fcR vs fs fs.length) (buildT vs.length fs) (sharpR (buildT vs.length fs) cr).1 vs.length) ++ (v2R vs (fcR vs fs fs.length) (buildT vs.length fs) (sharpR (buildT vs.length fs) cr).1 i))).length)) (old := (((v1R vs (fcR vs fs fs.length) (buildT vs.length fs) (sharpR (buildT vs.length fs) cr).1 vs.length) ++ (v2R vs (fcR vs fs fs.length) (buildT vs.length fs) (sharpR (buildT vs.length fs) cr).1 i))).flatMap eV) (cells := (fcR vs fs fs.length).flatMap eV) rfl u_22 ts_42 tzn_42 tb_42 (by decide) ni_22 rfl o649 m651 rfl (.sl (flatMap_length eV_len _)) (by exact one_flat eV_one)  (by first | omega | (simp only [List.length_append, List.length_cons, List.length_nil]; omega)) ?_)
            intro v652 H653 o654 m655 k656 j657
            have o658 := Own.appM (xs := ((((v1R vs (fcR vs fs fs.length) (buildT vs.length fs) (sharpR (buildT vs.length fs) cr).1 vs.length) ++ (v2R vs (fcR vs fs fs.length) (buildT vs.length fs) (sharpR (buildT vs.length fs) cr).1 i))) : List VT)) (ys := (fcR vs fs fs.length)) (e := eV) (by simp) o654
            have h659 := (k656 _ no540 (by rw [h646]; simp)).trans h646
            have no660 := j657 _ no540 (by rw [h646]; simp)
            have h661 := (k656 _ no541 (by rw [h647]; simp)).trans h647
            have no662 := j657 _ no541 (by rw [h647]; simp)
            have h663 := (k656 _ no542 (by rw [h648]; simp)).trans h648
            have no664 := j657 _ no542 (by rw [h648]; simp)
            have sp666 := Own.sep o650 (Sep.symm sp546) j657
            have o665 := Own.stay o650 (Sep.symm sp546) k656
            refine AOps.cons rfl rfl (AOp.fieldAddr rfl s536 fl_26_0 ?_ (hid := ⟨_, h661⟩))
            refine AOps.cons rfl rfl (AOp.storeO (cells' := [v652, .snil, w12_2]) rfl rfl o658 ts_22 h661 rfl rfl ?_)
            intro H667 h668 k669
            have h670 := keep k669 e439 h659
            have h672 := keep k669 e440 h663
            have o673 := Own.keep o665 k669 no544
            have o674 := Own.keep o658 k669 no662
            have m675 := Mono.set m655 z441 k669
            refine AOps.nil ?_
            change AWP _ _ _ _ _ _
            refine AWP.seq ?_
            refine AWP.seq ?_
            refine AWP.region (l := [0, 1, 2, 3]) rfl ?_
            refine AOps.cons rfl rfl (AOp.fieldAddrF rfl s532 fl_26_1 ?_)
            refine AOps.cons rfl rfl (AOp.loadF (.sl fs.length (fs.map eF)) rfl rfl ty_23 rfl ?_)
            refine AOps.cons rfl rfl (AOp.len (m := fs.length) rfl rfl (.inr (.inl ⟨_, rfl⟩)) u_23 ?_)
            refine AOps.cons rfl rfl (AOp.move (.int .i64 0) rfl rfl ?_)
            refine AOps.nil ?_
            change AWP _ _ _ _ _ _
            refine AWP.block ?_
            refine AWP.loop (fun q676 fq Hq => ∃ (f2 : Int) (w12_1 : AV), q676 = (((fs.length : Int) : Int) - f2).toNat ∧ fq 166 = .int .i64 f2 ∧ fq 2 = .ptr i8 0 0 ∧ fq 3 = .int .i64 0 ∧ fq 7 = .ptr i95 0 0 ∧ fq 12 = .ptr i434 0 0 ∧ fq 164 = .sl fs.length (fs.map eF) ∧ fq 165 = .int .i64 (fs.length : Int) ∧ Own H0 Hq 1 w12_1 (faR vs.length (buildT vs.length fs) fs f2).length ((faR vs.length (buildT vs.length fs) fs f2).map eF) ∧ Own H0 Hq 3 v652 (((((v1R vs (fcR vs fs fs.length) (buildT vs.length fs) (sharpR (buildT vs.length fs) cr).1 vs.length) ++ (v2R vs (fcR vs fs fs.length) (buildT vs.length fs) (sharpR (buildT vs.length fs) cr).1 i))) ++ (fcR vs fs fs.length)).length) (((((v1R vs (fcR vs fs fs.length) (buildT vs.length fs) (sharpR (buildT vs.length fs) cr).1 vs.length) ++ (v2R vs (fcR vs fs fs.length) (buildT vs.length fs) (sharpR (buildT vs.length fs) cr).1 i))) ++ (fcR vs fs fs.length)).flatMap eV) ∧ Own H0 Hq 3 w12_2 ((crR vs.length (buildT vs.length fs) (sharpR (buildT vs.length fs) cr).1 i).length) ((crR vs.length (buildT vs.length fs) (sharpR (buildT vs.length fs) cr).1 i).flatMap eCr) ∧ NotId w12_1 i8 ∧ NotId w12_1 i95 ∧ NotId w12_1 i434 ∧ NotId v652 i8 ∧ NotId v652 i95 ∧ NotId v652 i434 ∧ NotId w12_2 i8 ∧ NotId w12_2 i95 ∧ NotId w12_2 i434 ∧ Sep w12_1 v652 ∧ Sep w12_1 w12_2 ∧ Sep v652 w12_2 ∧ Hq i8 = some (.row 0 ([.snil, .snil, .snil])) ∧ Hq i95 = some (.row 0 ([.sl vs.length (vs.flatMap eV), .sl fs.length (fs.map eF), .sl cr.length (cr.flatMap eCr), .sl ((buildT vs.length fs).ed).length (((buildT vs.length fs).ed).flatMap eE), .sl ((buildT vs.length fs).fan).length (((buildT vs.length fs).fan).map eF), .sl ((buildT vs.length fs).rnd).length (((buildT vs.length fs).rnd).map eBo), .sl ((sharpR (buildT vs.length fs) cr).1).length (((sharpR (buildT vs.length fs) cr).1).map eI), .sl (egR (buildT vs.length fs).ed vs.length).length ((egR (buildT vs.length fs).ed vs.length).map eF), .sl (fcR vs fs fs.length).length ((fcR vs fs fs.length).flatMap eV)])) ∧ Hq i434 = some (.row 0 ([v652, w12_1, w12_2])) ∧ Mono H0 Hq ∧ (0 ≤ f2) ∧ (f2 ≤ (fs.length : Int))) (k := (((fs.length : Int) : Int) - 0).toNat) ?_ ?_
            ·
             exact ⟨0, .snil, rfl, rfl, s533, s534, s535, s536, rfl, rfl, Own.nil _ _ _, o674, o673, (NotId.nil _), (NotId.nil _), (NotId.nil _), no660, no664, no662, no543, no545, no544, (Sep.nilL _), (Sep.nilL _), (Sep.symm sp666), h670, h672, h668, m675, by omega, by omega⟩
            ·
             rintro _ f678 H677 ⟨f2, w12_1, rfl, s679, s680, s681, s682, s683, s684, s685, o686, o687, o688, no689, no690, no691, no692, no693, no694, no695, no696, no697, sp698, sp699, sp700, h701, h702, h703, m704, hf20, hf21⟩
             refine AWP.seq ?_
             refine AWP.region (l := [0]) rfl ?_
             refine AOps.cons rfl rfl (AOp.bin (.bool (decide (f2 < (fs.length : Int)))) rfl s679 s685 rfl ?_)
             refine AOps.nil ?_
             change AWP _ _ _ _ _ _
             refine AWP.seq ?_
             by_cases b705 : f2 < (fs.length : Int)
             ·
              refine AWP.condT rfl (decide_eq_true b705) ?_
              refine AWP.skip ?_
              change AWP _ _ _ _ _ _
              refine AWP.seq ?_
              refine AWP.block ?_
              refine AWP.seq ?_
              refine AWP.region (l := [0, 1, 2, 3, 4]) rfl ?_
              refine AOps.cons rfl rfl (AOp.move (.int .i64 f2) rfl s679 ?_)
              refine AOps.cons rfl rfl (AOp.indexAddrS rfl s684 s679 sl_23 (by omega) (by omega) ?_)
              refine AOps.cons rfl rfl (AOp.loadF (.sl (at_ fs f2).length ((at_ fs f2).map eI)) rfl rfl ty_38 (ld1 (by omega) (by omega)) ?_)
              refine AOps.cons rfl rfl (AOp.assign (.int .i64 f2) rfl rfl ?_)
              refine AOps.cons rfl rfl (AOp.assign (.sl (at_ fs f2).length ((at_ fs f2).map eI)) rfl rfl ?_)
              refine AOps.nil ?_
              change AWP _ _ _ _ _ _
              have hfal := faR_len (n := vs.length) (t := (buildT vs.length fs)) (fs := fs) hfss hf21
              have hfpl := partsU_len (n := vs.length) (t := (buildT vs.length fs)) (k := f2) (f := at_ fs f2) (i := ((at_ fs f2).length : Int))
              have hfl := hfss _ (at_mem hf20 (by omega : f2 < fs.length))
              refine AWP.region_quiet mixed (by kernel_rfl) 6 [6, 7, 8] rfl (by kernel_rfl) (Mono H677) (Mono.refl _) ?_
              refine QE.op rfl rfl (.inl ⟨rfl, fun f' H' hf hM => AOp.fieldAddr rfl ((hf 12 rfl).trans s683) fl_26_1 ⟨rfl, hM⟩ (hid := ⟨_, (hM _ _ h703)⟩)⟩) ?_
              refine QE.op rfl rfl (.inl ⟨rfl, fun f' H' hf hM => AOp.load (w12_1) rfl ((hf 171 rfl).trans rfl) ty_23 (hM _ _ h703) rfl ⟨rfl, hM⟩⟩) ?_
              refine QE.op rfl rfl (.inl ⟨rfl, fun f' H' hf hM => AOp.move (.ptr i95 0 0) rfl ((hf 7 rfl).trans s682) ⟨rfl, hM⟩⟩) ?_
              refine QE.op rfl rfl (.inl ⟨rfl, fun f' H' hf hM => AOp.move (.int .i64 f2) rfl ((hf 15 rfl).trans rfl) ⟨rfl, hM⟩⟩) ?_
              refine QE.op rfl rfl (.inl ⟨rfl, fun f' H' hf hM => AOp.move (.sl (at_ fs f2).length ((at_ fs f2).map eI)) rfl ((hf 16 rfl).trans rfl) ⟨rfl, hM⟩⟩) ?_
              refine QE.op rfl rfl (.inl ⟨rfl, fun f' H' hf hM => AOp.pcallH («as» := [.ptr i95 0 0, .int .i64 f2, .sl (at_ fs f2).length ((at_ fs f2).map eI)]) rfl rfl (lapp (lcons ((hf 173 rfl).trans rfl) (lcons ((hf 174 rfl).trans rfl) (lcons ((hf 175 rfl).trans rfl) rfl))) rfl) tf_39 (c_parts vs fs cr (buildT vs.length fs) (sharpR (buildT vs.length fs) cr).1 f2 (at_ fs f2) (by omega) (by omega) (by omega) (by omega) tf.se (hM _ _ h702)) fun H2 m2 => ⟨rfl, hM.trans m2⟩⟩) ?_
              refine QE.done fun H706 m707 => ?_
              have h708 := m707 _ _ h701
              have h709 := m707 _ _ h702
              have h710 := m707 _ _ h703
              have o711 := Own.mono o686 m707
              have o712 := Own.mono o687 m707
              have o713 := Own.mono o688 m707
              have m714 := m704.trans m707
              refine AOps.cons rfl rfl (AOp.append_any (es := 1) (m := (partsU (vs.length : Int) (buildT vs.length fs) f2 (at_ fs f2) (at_ fs f2).length).length) (len := ((faR vs.length (buildT vs.length fs) fs f2).length)) (old := (faR vs.length (buildT vs.length fs) fs f2).map eF) (cells := (partsU (vs.length : Int) (buildT vs.length fs) f2 (at_ fs f2) (at_ fs f2).length).map eF) rfl u_23 ts_38 tzn_38 tb_38 (by decide) ni_23 rfl o711 m714 rfl (.sl (by simp)) (by exact one_map eF_one)  (by first | omega | (simp only [List.length_append, List.length_cons, List.length_nil]; omega)) ?_)
              intro v715 H716 o717 m718 k719 j720
              have o721 := Own.app1 (xs := ((faR vs.length (buildT vs.length fs) fs f2) : List (List Int))) (ys := partsU (vs.length : Int) (buildT vs.length fs) f2 (at_ fs f2) (at_ fs f2).length) (e := eF) (by simp) o717
              have h722 := (k719 _ no689 (by rw [h708]; simp)).trans h708
              have no723 := j720 _ no689 (by rw [h708]; simp)
              have h724 := (k719 _ no690 (by rw [h709]; simp)).trans h709
              have no725 := j720 _ no690 (by rw [h709]; simp)
              have h726 := (k719 _ no691 (by rw [h710]; simp)).trans h710
              have no727 := j720 _ no691 (by rw [h710]; simp)
              have sp729 := Own.sep o712 (Sep.symm sp698) j720
              have o728 := Own.stay o712 (Sep.symm sp698) k719
              have sp731 := Own.sep o713 (Sep.symm sp699) j720
              have o730 := Own.stay o713 (Sep.symm sp699) k719
              refine AOps.cons rfl rfl (AOp.fieldAddr rfl s683 fl_26_1 ?_ (hid := ⟨_, h726⟩))
              refine AOps.cons rfl rfl (AOp.storeO (cells' := [v652, v715, w12_2]) rfl rfl o721 ts_23 h726 rfl rfl ?_)
              intro H732 h733 k734
              have h735 := keep k734 e439 h722
              have h736 := keep k734 e440 h724
              have o738 := Own.keep o728 k734 no694
              have o739 := Own.keep o730 k734 no697
              have o740 := Own.keep o721 k734 no727
              have m741 := Mono.set m718 z441 k734
              refine AOps.nil ?_
              change AWP _ _ _ _ _ _
              refine AWP.region (l := [0, 1]) rfl ?_
              refine AOps.cons rfl rfl (AOp.bin (.int .i64 (f2 + 1)) rfl s679 rfl (iadd (by omega)) ?_)
              refine AOps.cons rfl rfl (AOp.move (.int .i64 (f2 + 1)) rfl rfl ?_)
              refine AOps.nil ?_
              exact ⟨_, by omega, f2 + 1, v715, rfl, rfl, s680, s681, s682, s683, s684, s685, (have hx : (((faR vs.length (buildT vs.length fs) fs f2) ++ (partsU (vs.length : Int) (buildT vs.length fs) f2 (at_ fs f2) (at_ fs f2).length)) : List (List Int)) = faR vs.length (buildT vs.length fs) fs (f2 + 1) := (by exact F_step hf20); Own.re o740 (congrArg List.length hx) (congrArg (fun l : List (List Int) => l.map eF) hx)), o738, o739, no723, no725, no727, no692, no693, no694, no695, no696, no697, (Sep.symm sp729), (Sep.symm sp731), sp700, h735, h736, h733, m741, by omega, by omega⟩
             ·
              refine AWP.condF rfl (decide_eq_false b705) ?_
              refine AWP.exit ?_
              change AWP _ _ _ _ _ _
              refine AWP.seq ?_
              refine AWP.region (l := [0, 1, 2]) rfl ?_
              refine AOps.cons rfl rfl (AOp.load (.agg [v652, w12_1, w12_2]) rfl s683 ty_26 h703 rfl ?_)
              refine AOps.cons rfl rfl (AOp.store' (cells' := [v652, w12_1, w12_2]) (.agg [v652, w12_1, w12_2]) s680 rfl ts_26 h701 (by simp only [AV.cells, List.all_cons, List.all_nil, Own.one_ o687, Own.one_ o686, Own.one_ o688]; rfl) rfl rfl rfl ?_)
              intro H742 h743 k744
              have h746 := keep k744 (Ne.symm e100) h702
              have h747 := keep k744 (Ne.symm e439) h703
              have o748 := Own.keep o686 k744 no689
              have o749 := Own.keep o687 k744 no692
              have o750 := Own.keep o688 k744 no695
              have m751 := Mono.set m704 z14 k744
              refine AOps.cons rfl rfl (AOp.assign (.int .i64 0) rfl rfl ?_)
              refine AOps.nil ?_
              change AWP _ _ _ _ _ _
              refine AWP.ret ?_
              refine Fin.frzCell 0 o749 h743 z14 rfl no692 m751 fun H752 h753 m754 k755 => ?_
              have h756 := (k755 _ (Ne.symm e100) no693).trans h746
              have h757 := (k755 _ (Ne.symm e439) no694).trans h747
              have o758 := Own.stay2 o748 sp698 no689 k755
              have o759 := Own.stay2 o750 (Sep.symm sp700) no695 k755
              have h760 : H752 i8 = some (.row 0 ([.sl ((((v1R vs (fcR vs fs fs.length) (buildT vs.length fs) (sharpR (buildT vs.length fs) cr).1 vs.length) ++ (v2R vs (fcR vs fs fs.length) (buildT vs.length fs) (sharpR (buildT vs.length fs) cr).1 i))) ++ (fcR vs fs fs.length)).length (((((v1R vs (fcR vs fs fs.length) (buildT vs.length fs) (sharpR (buildT vs.length fs) cr).1 vs.length) ++ (v2R vs (fcR vs fs fs.length) (buildT vs.length fs) (sharpR (buildT vs.length fs) cr).1 i))) ++ (fcR vs fs fs.length)).flatMap eV), w12_1, w12_2])) := h753
              refine Fin.frzCell 1 o758 h760 z14 rfl no689 m754 fun H761 h762 m763 k764 => ?_
              have h765 := (k764 _ (Ne.symm e100) no690).trans h756
              have h766 := (k764 _ (Ne.symm e439) no691).trans h757
              have o767 := Own.stay2 o759 (Sep.symm sp699) no695 k764
              have h768 : H761 i8 = some (.row 0 ([.sl ((((v1R vs (fcR vs fs fs.length) (buildT vs.length fs) (sharpR (buildT vs.length fs) cr).1 vs.length) ++ (v2R vs (fcR vs fs fs.length) (buildT vs.length fs) (sharpR (buildT vs.length fs) cr).1 i))) ++ (fcR vs fs fs.length)).length (((((v1R vs (fcR vs fs fs.length) (buildT vs.length fs) (sharpR (buildT vs.length fs) cr).1 vs.length) ++ (v2R vs (fcR vs fs fs.length) (buildT vs.length fs) (sharpR (buildT vs.length fs) cr).1 i))) ++ (fcR vs fs fs.length)).flatMap eV), .sl (faR vs.length (buildT vs.length fs) fs f2).length ((faR vs.length (buildT vs.length fs) fs f2).map eF), w12_2])) := h762
              refine Fin.frzCell 2 o767 h768 z14 rfl no695 m763 fun H769 h770 m771 k772 => ?_
              have h773 := (k772 _ (Ne.symm e100) no696).trans h765
              have h774 := (k772 _ (Ne.symm e439) no697).trans h766
              have h775 : H769 i8 = some (.row 0 ([.sl ((((v1R vs (fcR vs fs fs.length) (buildT vs.length fs) (sharpR (buildT vs.length fs) cr).1 vs.length) ++ (v2R vs (fcR vs fs fs.length) (buildT vs.length fs) (sharpR (buildT vs.length fs) cr).1 i))) ++ (fcR vs fs fs.length)).length (((((v1R vs (fcR vs fs fs.length) (buildT vs.length fs) (sharpR (buildT vs.length fs) cr).1 vs.length) ++ (v2R vs (fcR vs fs fs.length) (buildT vs.length fs) (sharpR (buildT vs.length fs) cr).1 i))) ++ (fcR vs fs fs.length)).flatMap eV), .sl (faR vs.length (buildT vs.length fs) fs f2).length ((faR vs.length (buildT vs.length fs) fs f2).map eF), .sl (crR vs.length (buildT vs.length fs) (sharpR (buildT vs.length fs) cr).1 i).length ((crR vs.length (buildT vs.length fs) (sharpR (buildT vs.length fs) cr).1 i).flatMap eCr)])) := h770
              refine ⟨_, _, Ghost.refl, .inr rfl, _, Res.list rfl rfl (.cell (v := .agg [.sl ((((v1R vs (fcR vs fs fs.length) (buildT vs.length fs) (sharpR (buildT vs.length fs) cr).1 vs.length) ++ (v2R vs (fcR vs fs fs.length) (buildT vs.length fs) (sharpR (buildT vs.length fs) cr).1 i))) ++ (fcR vs fs fs.length)).length (((((v1R vs (fcR vs fs fs.length) (buildT vs.length fs) (sharpR (buildT vs.length fs) cr).1 vs.length) ++ (v2R vs (fcR vs fs fs.length) (buildT vs.length fs) (sharpR (buildT vs.length fs) cr).1 i))) ++ (fcR vs fs fs.length)).flatMap eV), .sl (faR vs.length (buildT vs.length fs) fs f2).length ((faR vs.length (buildT vs.length fs) fs f2).map eF), .sl (crR vs.length (buildT vs.length fs) (sharpR (buildT vs.length fs) cr).1 i).length ((crR vs.length (buildT vs.length fs) (sharpR (buildT vs.length fs) cr).1 i).flatMap eCr)]) s680 ty_26 h775 rfl (.tmp rfl (.nil))), ?_, m771⟩
              exact congrArg AV.tup (lc (congrArg AV.agg (lc (congrArg (fun l : List VT => AV.sl l.length (l.flatMap eV)) (show (((((v1R vs (fcR vs fs fs.length) (buildT vs.length fs) (sharpR (buildT vs.length fs) cr).1 vs.length) ++ (v2R vs (fcR vs fs fs.length) (buildT vs.length fs) (sharpR (buildT vs.length fs) cr).1 i))) ++ (fcR vs fs fs.length)) : List VT) = (levelR vs fs cr).1.Verts from by rw [level_4 b44 b49 b54]; rw [show i = ((buildT vs.length fs).ed.length : Int) by omega])) (lc (congrArg (fun l : List (List Int) => AV.sl l.length (l.map eF)) (show ((faR vs.length (buildT vs.length fs) fs f2) : List (List Int)) = (levelR vs fs cr).1.Faces from by rw [level_4 b44 b49 b54]; rw [show f2 = (fs.length : Int) by omega])) (lc (congrArg (fun l : List CrT => AV.sl l.length (l.flatMap eCr)) (show ((crR vs.length (buildT vs.length fs) (sharpR (buildT vs.length fs) cr).1 i) : List CrT) = (levelR vs fs cr).1.Creases from by rw [level_4 b44 b49 b54]; rw [show i = ((buildT vs.length fs).ed.length : Int) by omega])) rfl)))) (lc (congrArg (AV.int .i64) (show (0 : Int) = (levelR vs fs cr).2 from by rw [level_4 b44 b49 b54])) rfl))
  ·
   refine AWP.condT rfl (nb (decide_eq_false b49)) ?_
   refine AWP.seq ?_
   refine AWP.region (l := [0, 1, 2, 3]) rfl ?_
   refine AOps.cons rfl rfl (AOp.build (cells := [.snil, .snil, .snil]) rfl tz_26 pl_26 rfl rfl ?_)
   refine AOps.cons rfl rfl (AOp.move (.int .i64 ((sharpR (buildT vs.length fs) cr).2)) rfl rfl ?_)
   refine AOps.cons rfl rfl (AOp.store' (cells' := [.snil, .snil, .snil]) (.agg [.snil, .snil, .snil]) rfl rfl ts_26 h47 rfl rfl rfl rfl ?_)
   intro H776 h777 k778
   have m780 := Mono.set m48 z14 k778
   refine AOps.cons rfl rfl (AOp.assign (.int .i64 ((sharpR (buildT vs.length fs) cr).2)) rfl rfl ?_)
   refine AOps.nil ?_
   change AWP _ _ _ _ _ _
   refine AWP.ret ?_
   refine Fin.frzCell 0 (Own.nil H0 H776 1) h777 z14 rfl (NotId.nil _) m780 fun H781 h782 m783 k784 => ?_
   have h785 : H781 i8 = some (.row 0 ([.sl 0 ([]), .snil, .snil])) := h782
   refine Fin.frzCell 1 (Own.nil H0 H781 1) h785 z14 rfl (NotId.nil _) m783 fun H786 h787 m788 k789 => ?_
   have h790 : H786 i8 = some (.row 0 ([.sl 0 ([]), .sl 0 ([]), .snil])) := h787
   refine Fin.frzCell 2 (Own.nil H0 H786 1) h790 z14 rfl (NotId.nil _) m788 fun H791 h792 m793 k794 => ?_
   have h795 : H791 i8 = some (.row 0 ([.sl 0 ([]), .sl 0 ([]), .sl 0 ([])])) := h792
   refine ⟨_, _, Ghost.refl, .inr rfl, _, Res.list rfl rfl (.cell (v := .agg [.sl 0 ([]), .sl 0 ([]), .sl 0 ([])]) rfl ty_26 h795 rfl (.tmp rfl (.nil))), ?_, m793⟩
   exact congrArg AV.tup (lc (congrArg AV.agg (lc (congrArg (fun l : List VT => AV.sl l.length (l.flatMap eV)) (show ([] : List VT) = (levelR vs fs cr).1.Verts from by rw [level_2 b44 b49])) (lc (congrArg (fun l : List (List Int) => AV.sl l.length (l.map eF)) (show ([] : List (List Int)) = (levelR vs fs cr).1.Faces from by rw [level_2 b44 b49])) (lc (congrArg (fun l : List CrT => AV.sl l.length (l.flatMap eCr)) (show ([] : List CrT) = (levelR vs fs cr).1.Creases from by rw [level_2 b44 b49])) rfl)))) (lc (congrArg (AV.int .i64) (show ((sharpR (buildT vs.length fs) cr).2 : Int) = (levelR vs fs cr).2 from by rw [level_2 b44 b49])) rfl))
 ·
  refine AWP.condT rfl (nb (decide_eq_false b44)) ?_
  refine AWP.seq ?_
  refine AWP.region (l := [0, 1, 2, 3]) rfl ?_
  refine AOps.cons rfl rfl (AOp.build (cells := [.snil, .snil, .snil]) rfl tz_26 pl_26 rfl rfl ?_)
  refine AOps.cons rfl rfl (AOp.move (.int .i64 (buildE vs.length fs)) rfl rfl ?_)
  refine AOps.cons rfl rfl (AOp.store' (cells' := [.snil, .snil, .snil]) (.agg [.snil, .snil, .snil]) rfl rfl ts_26 h43 rfl rfl rfl rfl ?_)
  intro H796 h797 k798
  have m800 := Mono.set m41 z14 k798
  refine AOps.cons rfl rfl (AOp.assign (.int .i64 (buildE vs.length fs)) rfl rfl ?_)
  refine AOps.nil ?_
  change AWP _ _ _ _ _ _
  refine AWP.ret ?_
  refine Fin.frzCell 0 (Own.nil H0 H796 1) h797 z14 rfl (NotId.nil _) m800 fun H801 h802 m803 k804 => ?_
  have h805 : H801 i8 = some (.row 0 ([.sl 0 ([]), .snil, .snil])) := h802
  refine Fin.frzCell 1 (Own.nil H0 H801 1) h805 z14 rfl (NotId.nil _) m803 fun H806 h807 m808 k809 => ?_
  have h810 : H806 i8 = some (.row 0 ([.sl 0 ([]), .sl 0 ([]), .snil])) := h807
  refine Fin.frzCell 2 (Own.nil H0 H806 1) h810 z14 rfl (NotId.nil _) m808 fun H811 h812 m813 k814 => ?_
  have h815 : H811 i8 = some (.row 0 ([.sl 0 ([]), .sl 0 ([]), .sl 0 ([])])) := h812
  refine ⟨_, _, Ghost.refl, .inr rfl, _, Res.list rfl rfl (.cell (v := .agg [.sl 0 ([]), .sl 0 ([]), .sl 0 ([])]) rfl ty_26 h815 rfl (.tmp rfl (.nil))), ?_, m813⟩
  exact congrArg AV.tup (lc (congrArg AV.agg (lc (congrArg (fun l : List VT => AV.sl l.length (l.flatMap eV)) (show ([] : List VT) = (levelR vs fs cr).1.Verts from by rw [level_1 b44])) (lc (congrArg (fun l : List (List Int) => AV.sl l.length (l.map eF)) (show ([] : List (List Int)) = (levelR vs fs cr).1.Faces from by rw [level_1 b44])) (lc (congrArg (fun l : List CrT => AV.sl l.length (l.flatMap eCr)) (show ([] : List CrT) = (levelR vs fs cr).1.Creases from by rw [level_1 b44])) rfl)))) (lc (congrArg (AV.int .i64) (show (buildE vs.length fs : Int) = (levelR vs fs cr).2 from by rw [level_1 b44])) rfl))
end Go.Proofs.U
namespace Go.Proofs.U
open Go Go.AH Go.Proofs.T
set_option maxRecDepth 4000
/-! ### How great a cage is -/
def weighZ (vs : List VT) (fs : List (List Int)) (cr : List CrT) (m : Int) : Int := if (vs.length : Int) > m ∨ (cr.length : Int) > m ∨ (fs.length : Int) > m then m + 1 else weighS m fs ((vs.length : Int) + cr.length + fs.length)
def greatP (vs : List VT) (fs : List (List Int)) (cr : List CrT) : Prop := (vs.length : Int) > 60 ∨ weighZ vs fs cr 300 > 300
instance (vs : List VT) (fs : List (List Int)) (cr : List CrT) : Decidable (greatP vs fs cr) := by unfold greatP; infer_instance
theorem len_le_sides {fs : List (List Int)} : ∀ l ∈ fs, l.length ≤ (sides fs).length := by
  have key : ∀ (fs : List (List Int)) (k : Nat), ∀ l ∈ fs, l.length ≤ (sidesFrom k fs).length := by
    intro fs
    induction fs with
    | nil => intro k l h; cases h
    | cons x fs ih =>
      intro k l h
      rw [sidesFrom, List.length_append, List.length_map, wayF_len]
      rcases List.mem_cons.1 h with rfl | h
      · omega
      · have := ih (k + 1) l h; omega
  exact key fs 0
structure SmallC (vs : List VT) (fs : List (List Int)) (cr : List CrT) : Prop where
  v : vs.length ≤ 60
  f : fs.length ≤ 300
  c : cr.length ≤ 300
  s : (sides fs).length ≤ 300
  fs : ∀ l ∈ fs, l.length ≤ 300
theorem great_small {vs : List VT} {fs : List (List Int)} {cr : List CrT} (h : ¬ greatP vs fs cr) : SmallC vs fs cr := by
  unfold greatP weighZ at h
  have h1 : (vs.length : Int) ≤ 60 := by omega
  have h2 : ¬ (if (vs.length : Int) > 300 ∨ (cr.length : Int) > 300 ∨ (fs.length : Int) > 300 then (300 : Int) + 1 else weighS 300 fs ((vs.length : Int) + cr.length + fs.length)) > 300 := fun g => h (.inr g)
  split at h2
  · omega
  · have := weigh_le (m := 300) (fs := fs) (n := (vs.length : Int) + cr.length + fs.length) (by omega)
    exact ⟨by omega, by omega, by omega, by omega, fun l hl => by have := len_le_sides l hl; omega⟩
/-! ### Boxes -/
def hasB (b : BoxT) (p : VT) : Prop := (b.Lo.X ≤ p.X ∧ p.X ≤ b.Hi.X) ∧ (b.Lo.Y ≤ p.Y ∧ p.Y ≤ b.Hi.Y) ∧ b.Lo.Z ≤ p.Z ∧ p.Z ≤ b.Hi.Z
instance (b : BoxT) (p : VT) : Decidable (hasB b p) := by unfold hasB; infer_instance
end Go.Proofs.U
