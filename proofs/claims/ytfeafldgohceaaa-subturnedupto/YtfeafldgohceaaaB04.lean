/- A part of the proof that a law answers true for every input of its row: own work, by an AI agent. -/
import Derived.Test.YtfeafldgohceaaaB03
import Derived.Test.YtfeafldgohceaaaB02
set_option linter.unusedSimpArgs false
set_option linter.unusedVariables false
set_option linter.defProp false
namespace Go.Proofs.U
open Go Go.AH Go.Proofs.T
set_option maxRecDepth 4000
set_option linter.unusedSimpArgs false
set_option linter.unusedVariables false
theorem c_creases {H0 : Heap} {fid : Nat} (vs : List VT) (fs : List (List Int)) (cr : List CrT) (t : Tp) (sh : List Int) {x7 x8 : AV} (i : Int) (hi : 0 ≤ i ∧ i < t.ed.length) (hel : t.ed.length ≤ 1048576) (hvl : vs.length ≤ 1048576) (hsl : sh.length = t.ed.length) (hs0 : 0 ≤ at_ sh i ∧ at_ sh i ≤ 9223372036854775807) (hr : H0 fid = some (.row 0 [.sl vs.length (vs.flatMap eV), .sl fs.length (fs.map eF), .sl cr.length (cr.flatMap eCr), .sl t.ed.length (t.ed.flatMap eE), .sl t.fan.length (t.fan.map eF), .sl t.rnd.length (t.rnd.map eBo), .sl sh.length (sh.map eI), x7, x8])) : ACalls Try.prog 38 [.ptr fid 0 0, .int .i64 i] H0 fun r H' => r = (.sl (creaseP vs.length t sh i).length ((creaseP vs.length t sh i).flatMap eCr)) ∧ Mono H0 H' := by
 refine ACalls.of_body' (n := 56) rfl rfl rfl rfl ?_
 have m0 := Mono.refl H0
 refine AWP.seq ?_
 refine AWP.region (l := [0]) rfl ?_
 refine AOps.cons rfl rfl (AOp.assign (.snil) rfl rfl ?_)
 refine AOps.nil ?_
 change AWP _ _ _ _ _ _
 refine AWP.seq ?_
 refine AWP.region (l := [0, 1, 2, 3, 4, 5, 6, 7]) rfl ?_
 refine AOps.cons rfl rfl (AOp.move (.ptr fid 0 0) rfl rfl ?_)
 refine AOps.cons rfl rfl (AOp.nilCheck (.ptr fid 0 0) rfl rfl rfl ?_)
 refine AOps.cons rfl rfl (AOp.fieldAddr rfl rfl fl_79_2 ?_ (hid := ⟨_, hr⟩))
 refine AOps.cons rfl rfl (AOp.load (.sl sh.length (sh.map eI)) rfl rfl ty_38 hr rfl ?_)
 refine AOps.cons rfl rfl (AOp.move (.int .i64 i) rfl rfl ?_)
 refine AOps.cons rfl rfl (AOp.indexAddrS rfl rfl rfl sl_38 (by omega) (by omega) ?_)
 refine AOps.cons rfl rfl (AOp.loadF (.int .i64 (at_ sh i)) rfl rfl ty_3 (ld1 (by omega) (by omega)) ?_)
 refine AOps.cons rfl rfl (AOp.assign (.int .i64 (at_ sh i)) rfl rfl ?_)
 refine AOps.nil ?_
 change AWP _ _ _ _ _ _
 refine AWP.seq ?_
 refine AWP.seq ?_
 refine AWP.region (l := [0, 1]) rfl ?_
 refine AOps.cons rfl rfl (AOp.move (.int .i64 (at_ sh i)) rfl rfl ?_)
 refine AOps.cons rfl rfl (AOp.bin (.bool (!decide (at_ sh i = 255))) rfl rfl rfl ine ?_)
 refine AOps.nil ?_
 change AWP _ _ _ _ _ _
 by_cases b1 : at_ sh i = 255
 ·
  refine AWP.condF rfl (nb (decide_eq_true b1)) ?_
  refine AWP.skip ?_
  change AWP _ _ _ _ _ _
  refine AWP.seq ?_
  refine AWP.seq ?_
  refine AWP.region (l := [0, 1, 2, 3, 4, 5, 6, 7, 8, 9]) rfl ?_
  refine AOps.cons rfl rfl (AOp.move (.ptr fid 0 0) rfl rfl ?_)
  refine AOps.cons rfl rfl (AOp.nilCheck (.ptr fid 0 0) rfl rfl rfl ?_)
  refine AOps.cons rfl rfl (AOp.fieldAddr rfl rfl fl_79_1 ?_ (hid := ⟨_, hr⟩))
  refine AOps.cons rfl rfl (AOp.load (.agg [.sl t.ed.length (t.ed.flatMap eE), .sl t.fan.length (t.fan.map eF), .sl t.rnd.length (t.rnd.map eBo)]) rfl rfl ty_35 hr rfl ?_)
  refine AOps.cons rfl rfl (AOp.move (.int .i64 i) rfl rfl ?_)
  refine AOps.cons rfl rfl (AOp.pcall («as» := [.agg [.sl t.ed.length (t.ed.flatMap eE), .sl t.fan.length (t.fan.map eF), .sl t.rnd.length (t.rnd.map eBo)], .int .i64 i]) rfl rfl (rfl) tf_43 (c18 _ _ (by omega)) ?_)
  intro H2 m3
  have h4 := m3 _ _ hr
  have m5 := m0.trans m3
  refine AOps.cons rfl rfl (AOp.move (.bool (edgedS t i)) rfl rfl ?_)
  rcases Bool.eq_false_or_eq_true (edgedS t i) with b6 | b6
  ·
   refine AOps.no rfl rfl rfl rfl rfl rfl rfl (ble_of b6 (by decide)) ?_
   refine AOps.no rfl rfl rfl rfl rfl rfl rfl (ble_of b6 (by decide)) ?_
   refine AOps.cons rfl rfl (AOp.pickT (.bool true) rfl rfl b6 rfl ?_)
   refine AOps.nil ?_
   change AWP _ _ _ _ _ _
   refine AWP.condT rfl rfl ?_
   refine AWP.seq ?_
   refine AWP.region (l := [0]) rfl ?_
   refine AOps.cons rfl rfl (AOp.assign (.snil) rfl rfl ?_)
   refine AOps.nil ?_
   change AWP _ _ _ _ _ _
   refine AWP.ret ?_
   refine Fin.frz 4 (Own.nil H0 H2 1) rfl m5 fun H7 m8 k9 => ?_
   have h10 := (k9 _ (NotId.nil _)).trans h4
   refine ⟨_, _, Ghost.refl, .inr rfl, _, Res.one rfl rfl, ?_, m8⟩
   exact (congrArg (fun l : List CrT => AV.sl l.length (l.flatMap eCr)) (show ([] : List CrT) = creaseP vs.length t sh i from by (unfold creaseP; rw [if_pos (.inl b6)])))
  ·
   refine AOps.yes rfl rfl rfl rfl rfl rfl rfl b6 (AOp.move (.int .i64 (at_ sh i)) rfl rfl ?_)
   refine AOps.yes rfl rfl rfl rfl rfl rfl rfl b6 (AOp.bin (.bool (decide (at_ sh i < 1))) rfl rfl rfl rfl ?_)
   refine AOps.cons rfl rfl (AOp.pickF (.bool (decide (at_ sh i < 1))) rfl rfl b6 rfl ?_)
   refine AOps.nil ?_
   change AWP _ _ _ _ _ _
   by_cases b11 : at_ sh i < 1
   ·
    refine AWP.condT rfl (decide_eq_true b11) ?_
    refine AWP.seq ?_
    refine AWP.region (l := [0]) rfl ?_
    refine AOps.cons rfl rfl (AOp.assign (.snil) rfl rfl ?_)
    refine AOps.nil ?_
    change AWP _ _ _ _ _ _
    refine AWP.ret ?_
    refine Fin.frz 4 (Own.nil H0 H2 1) rfl m5 fun H12 m13 k14 => ?_
    have h15 := (k14 _ (NotId.nil _)).trans h4
    refine ⟨_, _, Ghost.refl, .inr rfl, _, Res.one rfl rfl, ?_, m13⟩
    exact (congrArg (fun l : List CrT => AV.sl l.length (l.flatMap eCr)) (show ([] : List CrT) = creaseP vs.length t sh i from by (have hls : lessS (at_ sh i) = at_ sh i := (by unfold lessS; rw [if_pos b1]); unfold creaseP; rw [if_pos (.inr (by rw [hls]; exact b11))])))
   ·
    refine AWP.condF rfl (decide_eq_false b11) ?_
    refine AWP.skip ?_
    change AWP _ _ _ _ _ _
    refine AWP.seq ?_
    refine AWP.freshN fun b16 hb17 => ?_
    obtain ⟨i18, e19⟩ : ∃ x, x = b16 + 0 := ⟨_, rfl⟩
    have n20 := hb17 0; rw [← e19] at n20
    refine AWP.region_strA mixed (by kernel_rfl) [(16, i18, .row 0 ([.int .i64 0, .int .i64 0, .int .i64 0, .int .i64 0]))] [0, 1, 2, 3, 4, 5, 6, 7, 8, 9, 10, 11, 12, 13, 14, 15, 16] [(17, some [8, 9, 10, 11, 12, 13, 14, 15])] [18] (by kernel_rfl) (by kernel_rfl) ⟨n20, trivial, trivial⟩ ?_
    have e21 := ne_new h4 n20
    have z22 := Mono.free m5 n20
    refine STRN.op rfl rfl rfl (.inl ⟨rfl, fun H1 f' H' hf hN hM => AOp.move (.ptr fid 0 0) rfl ((hf 0 rfl).trans rfl) ⟨rfl, hN⟩⟩) ?_
    refine STRN.op rfl rfl rfl (.inl ⟨rfl, fun H1 f' H' hf hN hM => AOp.nilCheck (.ptr fid 0 0) rfl ((hf 29 rfl).trans rfl) rfl ⟨rfl, hN⟩⟩) ?_
    refine STRN.op rfl rfl rfl (.inl ⟨rfl, fun H1 f' H' hf hN hM => AOp.fieldAddr rfl ((hf 30 rfl).trans rfl) fl_79_1 ⟨rfl, hN⟩ (hid := ⟨_, (hM _ _ h4)⟩)⟩) ?_
    refine STRN.op rfl rfl rfl (.inl ⟨rfl, fun H1 f' H' hf hN hM => AOp.fieldAddr rfl ((hf 31 rfl).trans rfl) fl_35_0 ⟨rfl, hN⟩ (hid := ⟨_, (hM _ _ h4)⟩)⟩) ?_
    refine STRN.op rfl rfl rfl (.inl ⟨rfl, fun H1 f' H' hf hN hM => AOp.load (.sl t.ed.length (t.ed.flatMap eE)) rfl ((hf 32 rfl).trans rfl) ty_32 (hM _ _ h4) rfl ⟨rfl, hN⟩⟩) ?_
    refine STRN.op rfl rfl rfl (.inl ⟨rfl, fun H1 f' H' hf hN hM => AOp.move (.int .i64 i) rfl ((hf 1 rfl).trans rfl) ⟨rfl, hN⟩⟩) ?_
    refine STRN.op rfl rfl rfl (.inl ⟨rfl, fun H1 f' H' hf hN hM => AOp.indexAddrS rfl ((hf 33 rfl).trans rfl) ((hf 34 rfl).trans rfl) sl_32 (by omega) (by omega) ⟨rfl, hN⟩⟩) ?_
    refine STRN.op rfl rfl rfl (.inl ⟨rfl, fun H1 f' H' hf hN hM => AOp.loadF (.agg [.int .i64 ((at_ t.ed i).A), .int .i64 ((at_ t.ed i).B), .int .i64 ((at_ t.ed i).F), .int .i64 ((at_ t.ed i).G)]) rfl ((hf 35 rfl).trans rfl) ty_47 (ldM eE_len (by omega) (by omega)) ⟨rfl, hN⟩⟩) ?_
    refine STRN.op rfl rfl rfl (.inl ⟨rfl, fun H1 f' H' hf hN hM => AOp.move (.ptr fid 0 0) rfl ((hf 0 rfl).trans rfl) ⟨rfl, hN⟩⟩) ?_
    refine STRN.op rfl rfl rfl (.inl ⟨rfl, fun H1 f' H' hf hN hM => AOp.nilCheck (.ptr fid 0 0) rfl ((hf 37 rfl).trans rfl) rfl ⟨rfl, hN⟩⟩) ?_
    refine STRN.op rfl rfl rfl (.inl ⟨rfl, fun H1 f' H' hf hN hM => AOp.fieldAddr rfl ((hf 38 rfl).trans rfl) fl_79_0 ⟨rfl, hN⟩ (hid := ⟨_, (hM _ _ h4)⟩)⟩) ?_
    refine STRN.op rfl rfl rfl (.inl ⟨rfl, fun H1 f' H' hf hN hM => AOp.fieldAddr rfl ((hf 39 rfl).trans rfl) fl_26_0 ⟨rfl, hN⟩ (hid := ⟨_, (hM _ _ h4)⟩)⟩) ?_
    refine STRN.op rfl rfl rfl (.inl ⟨rfl, fun H1 f' H' hf hN hM => AOp.load (.sl vs.length (vs.flatMap eV)) rfl ((hf 40 rfl).trans rfl) ty_22 (hM _ _ h4) rfl ⟨rfl, hN⟩⟩) ?_
    refine STRN.op rfl rfl rfl (.inl ⟨rfl, fun H1 f' H' hf hN hM => AOp.len (m := vs.length) rfl ((hf 41 rfl).trans rfl) (.inr (.inl ⟨_, rfl⟩)) u_22 ⟨rfl, hN⟩⟩) ?_
    refine STRN.op rfl rfl rfl (.inl ⟨rfl, fun H1 f' H' hf hN hM => AOp.move (.int .i64 i) rfl ((hf 1 rfl).trans rfl) ⟨rfl, hN⟩⟩) ?_
    refine STRN.op rfl rfl rfl (.inl ⟨rfl, fun H1 f' H' hf hN hM => AOp.bin (.int .i64 ((vs.length : Int) + i)) rfl ((hf 42 rfl).trans rfl) ((hf 43 rfl).trans rfl) (iadd (by omega)) ⟨rfl, hN⟩⟩) ?_
    refine STRN.alloc (id := i18) (Z := [.int .i64 0, .int .i64 0, .int .i64 0, .int .i64 0]) (.head _) rfl rfl rfl rfl rfl tz_47 ?_
    refine STRN.done fun H23 m24 hu25 => ?_
    have h26 := m24 _ _ h4
    have m27 := m5.trans m24
    have h28 : H23 i18 = some (.row 0 ([.int .i64 0, .int .i64 0, .int .i64 0, .int .i64 0])) := hu25 _ (.head _)
    refine STR.st rfl rfl rfl fun f29 H30 hf31 m32 => ?_
    have h33 := m32 _ _ h26
    have h34 := m32 _ _ h28
    have m35 := m27.trans m32
    refine AOp.store' (cells' := [.int .i64 ((at_ t.ed i).A), .int .i64 ((at_ t.ed i).B), .int .i64 ((at_ t.ed i).F), .int .i64 ((at_ t.ed i).G)]) (.agg [.int .i64 ((at_ t.ed i).A), .int .i64 ((at_ t.ed i).B), .int .i64 ((at_ t.ed i).F), .int .i64 ((at_ t.ed i).G)]) ((hf31 6 rfl).trans rfl) ((hf31 36 rfl).trans rfl) ts_47 h34 rfl rfl rfl rfl ?_
    intro H36 h37 k38
    have h39 := keep k38 e21 h33
    have m41 := Mono.set m35 z22 k38
    refine ⟨rfl, .inr (RevR.skip rfl (RevR.cons rfl (.inl ⟨rfl, fun H1 f' H' hf hN hM => AOp.bin (.int .i64 ((vs.length : Int) + i)) rfl ((hf 42 rfl).trans rfl) ((hf 43 rfl).trans rfl) (iadd (by omega)) ⟨rfl, hN⟩⟩) (RevR.cons rfl (.inl ⟨rfl, fun H1 f' H' hf hN hM => AOp.move (.int .i64 i) rfl ((hf 1 rfl).trans rfl) ⟨rfl, hN⟩⟩) (RevR.cons rfl (.inl ⟨rfl, fun H1 f' H' hf hN hM => AOp.len (m := vs.length) rfl ((hf 41 rfl).trans rfl) (.inr (.inl ⟨_, rfl⟩)) u_22 ⟨rfl, hN⟩⟩) (RevR.cons rfl (.inl ⟨rfl, fun H1 f' H' hf hN hM => AOp.load (.sl vs.length (vs.flatMap eV)) rfl ((hf 40 rfl).trans rfl) ty_22 (hM _ _ h39) rfl ⟨rfl, hN⟩⟩) (RevR.cons rfl (.inl ⟨rfl, fun H1 f' H' hf hN hM => AOp.fieldAddr rfl ((hf 39 rfl).trans rfl) fl_26_0 ⟨rfl, hN⟩ (hid := ⟨_, (hM _ _ h39)⟩)⟩) (RevR.cons rfl (.inl ⟨rfl, fun H1 f' H' hf hN hM => AOp.fieldAddr rfl ((hf 38 rfl).trans rfl) fl_79_0 ⟨rfl, hN⟩ (hid := ⟨_, (hM _ _ h39)⟩)⟩) (RevR.cons rfl (.inl ⟨rfl, fun H1 f' H' hf hN hM => AOp.nilCheck (.ptr fid 0 0) rfl ((hf 37 rfl).trans rfl) rfl ⟨rfl, hN⟩⟩) (RevR.cons rfl (.inl ⟨rfl, fun H1 f' H' hf hN hM => AOp.move (.ptr fid 0 0) rfl ((hf 0 rfl).trans rfl) ⟨rfl, hN⟩⟩) (RevR.skip rfl (RevR.skip rfl (RevR.skip rfl (RevR.skip rfl (RevR.skip rfl (RevR.skip rfl (RevR.skip rfl (RevR.skip rfl RevR.nil))))))))))))))))), ?_⟩
    refine STR.done fun H42 m43 => ?_
    have h44 := m43 _ _ h39
    have h45 := m43 _ _ h37
    have m46 := m41.trans m43
    refine AOps.cons rfl rfl (AOp.assign (.int .i64 ((vs.length : Int) + i)) rfl rfl ?_)
    refine AOps.nil ?_
    change AWP _ _ _ _ _ _
    refine AWP.seq ?_
    refine AWP.frzP 6 h45 z22 rfl m46 fun H47 m48 k49 => ?_
    have h50 := (k49 _ e21).trans h44
    refine AWP.region (l := [0, 1, 2, 3, 4, 5, 6, 7, 8, 9, 10, 11]) rfl ?_
    refine AOps.cons rfl rfl (AOp.fieldAddrF rfl rfl fl_47_0 ?_)
    refine AOps.cons rfl rfl (AOp.loadF (.int .i64 ((at_ t.ed i).A)) rfl rfl ty_3 rfl ?_)
    refine AOps.cons rfl rfl (AOp.move (.int .i64 ((vs.length : Int) + i)) rfl rfl ?_)
    refine AOps.cons rfl rfl (AOp.move (.int .i64 (at_ sh i)) rfl rfl ?_)
    refine AOps.cons rfl rfl (AOp.build (cells := [.int .i64 ((at_ t.ed i).A), .int .i64 ((vs.length : Int) + i), .int .i64 (at_ sh i)]) rfl tz_53 pl_53 rfl rfl ?_)
    refine AOps.cons rfl rfl (AOp.fieldAddrF rfl rfl fl_47_1 ?_)
    refine AOps.cons rfl rfl (AOp.loadF (.int .i64 ((at_ t.ed i).B)) rfl rfl ty_3 rfl ?_)
    refine AOps.cons rfl rfl (AOp.move (.int .i64 ((vs.length : Int) + i)) rfl rfl ?_)
    refine AOps.cons rfl rfl (AOp.move (.int .i64 (at_ sh i)) rfl rfl ?_)
    refine AOps.cons rfl rfl (AOp.build (cells := [.int .i64 ((at_ t.ed i).B), .int .i64 ((vs.length : Int) + i), .int .i64 (at_ sh i)]) rfl tz_53 pl_53 rfl rfl ?_)
    refine AOps.cons rfl rfl (AOp.buildSlice (cells := [.int .i64 ((at_ t.ed i).A), .int .i64 ((vs.length : Int) + i), .int .i64 (at_ sh i), .int .i64 ((at_ t.ed i).B), .int .i64 ((vs.length : Int) + i), .int .i64 (at_ sh i)]) rfl u_24 ts_53 tz_53 rfl rfl rfl ?_)
    intro i51 H52 n53 h54 k55
    have e56 := ne_new h50 n53
    have z57 := Mono.free m48 n53
    have h58 := keep k55 (ne_new h50 n53) h50
    have m59 := Mono.new m48 n53 k55
    refine AOps.cons rfl rfl (AOp.assign (.slm i51 0 3 0 2) rfl rfl ?_)
    refine AOps.nil ?_
    change AWP _ _ _ _ _ _
    refine AWP.ret ?_
    obtain ⟨v60, e61⟩ : ∃ v : AV, v = .slm i51 0 3 0 2 := ⟨_, rfl⟩
    have o62 : Own H0 H52 3 v60 2 [.int .i64 ((at_ t.ed i).A), .int .i64 ((vs.length : Int) + i), .int .i64 (at_ sh i), .int .i64 ((at_ t.ed i).B), .int .i64 ((vs.length : Int) + i), .int .i64 (at_ sh i)] := .inr ⟨_, _, e61, h54, z57, rfl⟩
    have no63 : NotId v60 fid := by rw [e61]; exact NotId.slm e56
    refine Fin.frz 4 (o62) e61.symm m59 fun H64 m65 k66 => ?_
    have h67 := (k66 _ no63).trans h58
    refine ⟨_, _, Ghost.refl, .inr rfl, _, Res.one rfl rfl, ?_, m65⟩
    exact (congrArg (fun l : List CrT => AV.sl l.length (l.flatMap eCr)) (show (([(CrT.mk ((at_ t.ed i).A) ((vs.length : Int) + i) (at_ sh i)), (CrT.mk ((at_ t.ed i).B) ((vs.length : Int) + i) (at_ sh i))] : List CrT) : List CrT) = creaseP vs.length t sh i from by (have hls : lessS (at_ sh i) = at_ sh i := (by unfold lessS; rw [if_pos b1]); unfold creaseP; rw [if_neg (by rw [hls]; exact fun h => h.elim (fun h => by rw [b6] at h; cases h) b11), hls])))
 ·
  refine AWP.condT rfl (nb (decide_eq_false b1)) ?_
  refine AWP.region (l := [0, 1, 2]) rfl ?_
  refine AOps.cons rfl rfl (AOp.move (.int .i64 (at_ sh i)) rfl rfl ?_)
  refine AOps.cons rfl rfl (AOp.bin (.int .i64 (at_ sh i - 1)) rfl rfl rfl (isub (by omega)) ?_)
  refine AOps.cons rfl rfl (AOp.assign (.int .i64 (at_ sh i - 1)) rfl rfl ?_)
  refine AOps.nil ?_
  change AWP _ _ _ _ _ _
  refine AWP.seq ?_
  refine AWP.seq ?_
  refine AWP.region (l := [0, 1, 2, 3, 4, 5, 6, 7, 8, 9]) rfl ?_
  refine AOps.cons rfl rfl (AOp.move (.ptr fid 0 0) rfl rfl ?_)
  refine AOps.cons rfl rfl (AOp.nilCheck (.ptr fid 0 0) rfl rfl rfl ?_)
  refine AOps.cons rfl rfl (AOp.fieldAddr rfl rfl fl_79_1 ?_ (hid := ⟨_, hr⟩))
  refine AOps.cons rfl rfl (AOp.load (.agg [.sl t.ed.length (t.ed.flatMap eE), .sl t.fan.length (t.fan.map eF), .sl t.rnd.length (t.rnd.map eBo)]) rfl rfl ty_35 hr rfl ?_)
  refine AOps.cons rfl rfl (AOp.move (.int .i64 i) rfl rfl ?_)
  refine AOps.cons rfl rfl (AOp.pcall («as» := [.agg [.sl t.ed.length (t.ed.flatMap eE), .sl t.fan.length (t.fan.map eF), .sl t.rnd.length (t.rnd.map eBo)], .int .i64 i]) rfl rfl (rfl) tf_43 (c18 _ _ (by omega)) ?_)
  intro H68 m69
  have h70 := m69 _ _ hr
  have m71 := m0.trans m69
  refine AOps.cons rfl rfl (AOp.move (.bool (edgedS t i)) rfl rfl ?_)
  rcases Bool.eq_false_or_eq_true (edgedS t i) with b72 | b72
  ·
   refine AOps.no rfl rfl rfl rfl rfl rfl rfl (ble_of b72 (by decide)) ?_
   refine AOps.no rfl rfl rfl rfl rfl rfl rfl (ble_of b72 (by decide)) ?_
   refine AOps.cons rfl rfl (AOp.pickT (.bool true) rfl rfl b72 rfl ?_)
   refine AOps.nil ?_
   change AWP _ _ _ _ _ _
   refine AWP.condT rfl rfl ?_
   refine AWP.seq ?_
   refine AWP.region (l := [0]) rfl ?_
   refine AOps.cons rfl rfl (AOp.assign (.snil) rfl rfl ?_)
   refine AOps.nil ?_
   change AWP _ _ _ _ _ _
   refine AWP.ret ?_
   refine Fin.frz 4 (Own.nil H0 H68 1) rfl m71 fun H73 m74 k75 => ?_
   have h76 := (k75 _ (NotId.nil _)).trans h70
   refine ⟨_, _, Ghost.refl, .inr rfl, _, Res.one rfl rfl, ?_, m74⟩
   exact (congrArg (fun l : List CrT => AV.sl l.length (l.flatMap eCr)) (show ([] : List CrT) = creaseP vs.length t sh i from by (unfold creaseP; rw [if_pos (.inl b72)])))
  ·
   refine AOps.yes rfl rfl rfl rfl rfl rfl rfl b72 (AOp.move (.int .i64 (at_ sh i - 1)) rfl rfl ?_)
   refine AOps.yes rfl rfl rfl rfl rfl rfl rfl b72 (AOp.bin (.bool (decide (at_ sh i - 1 < 1))) rfl rfl rfl rfl ?_)
   refine AOps.cons rfl rfl (AOp.pickF (.bool (decide (at_ sh i - 1 < 1))) rfl rfl b72 rfl ?_)
   refine AOps.nil ?_
   change AWP _ _ _ _ _ _
   by_cases b77 : at_ sh i - 1 < 1
   ·
    refine AWP.condT rfl (decide_eq_true b77) ?_
    refine AWP.seq ?_
    refine AWP.region (l := [0]) rfl ?_
    refine AOps.cons rfl rfl (AOp.assign (.snil) rfl rfl ?_)
    refine AOps.nil ?_
    change AWP _ _ _ _ _ _
    refine AWP.ret ?_
    refine Fin.frz 4 (Own.nil H0 H68 1) rfl m71 fun H78 m79 k80 => ?_
    have h81 := (k80 _ (NotId.nil _)).trans h70
    refine ⟨_, _, Ghost.refl, .inr rfl, _, Res.one rfl rfl, ?_, m79⟩
    exact (congrArg (fun l : List CrT => AV.sl l.length (l.flatMap eCr)) (show ([] : List CrT) = creaseP vs.length t sh i from by (have hls : lessS (at_ sh i) = at_ sh i - 1 := (by unfold lessS; rw [if_neg b1]); unfold creaseP; rw [if_pos (.inr (by rw [hls]; exact b77))])))
   ·
    refine AWP.condF rfl (decide_eq_false b77) ?_
    refine AWP.skip ?_
    change AWP _ _ _ _ _ _
    refine AWP.seq ?_
    refine AWP.freshN fun b82 hb83 => ?_
    obtain ⟨i84, e85⟩ : ∃ x, x = b82 + 0 := ⟨_, rfl⟩
    have n86 := hb83 0; rw [← e85] at n86
    refine AWP.region_strA mixed (by kernel_rfl) [(16, i84, .row 0 ([.int .i64 0, .int .i64 0, .int .i64 0, .int .i64 0]))] [0, 1, 2, 3, 4, 5, 6, 7, 8, 9, 10, 11, 12, 13, 14, 15, 16] [(17, some [8, 9, 10, 11, 12, 13, 14, 15])] [18] (by kernel_rfl) (by kernel_rfl) ⟨n86, trivial, trivial⟩ ?_
    have e87 := ne_new h70 n86
    have z88 := Mono.free m71 n86
    refine STRN.op rfl rfl rfl (.inl ⟨rfl, fun H1 f' H' hf hN hM => AOp.move (.ptr fid 0 0) rfl ((hf 0 rfl).trans rfl) ⟨rfl, hN⟩⟩) ?_
    refine STRN.op rfl rfl rfl (.inl ⟨rfl, fun H1 f' H' hf hN hM => AOp.nilCheck (.ptr fid 0 0) rfl ((hf 29 rfl).trans rfl) rfl ⟨rfl, hN⟩⟩) ?_
    refine STRN.op rfl rfl rfl (.inl ⟨rfl, fun H1 f' H' hf hN hM => AOp.fieldAddr rfl ((hf 30 rfl).trans rfl) fl_79_1 ⟨rfl, hN⟩ (hid := ⟨_, (hM _ _ h70)⟩)⟩) ?_
    refine STRN.op rfl rfl rfl (.inl ⟨rfl, fun H1 f' H' hf hN hM => AOp.fieldAddr rfl ((hf 31 rfl).trans rfl) fl_35_0 ⟨rfl, hN⟩ (hid := ⟨_, (hM _ _ h70)⟩)⟩) ?_
    refine STRN.op rfl rfl rfl (.inl ⟨rfl, fun H1 f' H' hf hN hM => AOp.load (.sl t.ed.length (t.ed.flatMap eE)) rfl ((hf 32 rfl).trans rfl) ty_32 (hM _ _ h70) rfl ⟨rfl, hN⟩⟩) ?_
    refine STRN.op rfl rfl rfl (.inl ⟨rfl, fun H1 f' H' hf hN hM => AOp.move (.int .i64 i) rfl ((hf 1 rfl).trans rfl) ⟨rfl, hN⟩⟩) ?_
    refine STRN.op rfl rfl rfl (.inl ⟨rfl, fun H1 f' H' hf hN hM => AOp.indexAddrS rfl ((hf 33 rfl).trans rfl) ((hf 34 rfl).trans rfl) sl_32 (by omega) (by omega) ⟨rfl, hN⟩⟩) ?_
    refine STRN.op rfl rfl rfl (.inl ⟨rfl, fun H1 f' H' hf hN hM => AOp.loadF (.agg [.int .i64 ((at_ t.ed i).A), .int .i64 ((at_ t.ed i).B), .int .i64 ((at_ t.ed i).F), .int .i64 ((at_ t.ed i).G)]) rfl ((hf 35 rfl).trans rfl) ty_47 (ldM eE_len (by omega) (by omega)) ⟨rfl, hN⟩⟩) ?_
    refine STRN.op rfl rfl rfl (.inl ⟨rfl, fun H1 f' H' hf hN hM => AOp.move (.ptr fid 0 0) rfl ((hf 0 rfl).trans rfl) ⟨rfl, hN⟩⟩) ?_
    refine STRN.op rfl rfl rfl (.inl ⟨rfl, fun H1 f' H' hf hN hM => AOp.nilCheck (.ptr fid 0 0) rfl ((hf 37 rfl).trans rfl) rfl ⟨rfl, hN⟩⟩) ?_
    refine STRN.op rfl rfl rfl (.inl ⟨rfl, fun H1 f' H' hf hN hM => AOp.fieldAddr rfl ((hf 38 rfl).trans rfl) fl_79_0 ⟨rfl, hN⟩ (hid := ⟨_, (hM _ _ h70)⟩)⟩) ?_
    refine STRN.op rfl rfl rfl (.inl ⟨rfl, fun H1 f' H' hf hN hM => AOp.fieldAddr rfl ((hf 39 rfl).trans rfl) fl_26_0 ⟨rfl, hN⟩ (hid := ⟨_, (hM _ _ h70)⟩)⟩) ?_
    refine STRN.op rfl rfl rfl (.inl ⟨rfl, fun H1 f' H' hf hN hM => AOp.load (.sl vs.length (vs.flatMap eV)) rfl ((hf 40 rfl).trans rfl) ty_22 (hM _ _ h70) rfl ⟨rfl, hN⟩⟩) ?_
    refine STRN.op rfl rfl rfl (.inl ⟨rfl, fun H1 f' H' hf hN hM => AOp.len (m := vs.length) rfl ((hf 41 rfl).trans rfl) (.inr (.inl ⟨_, rfl⟩)) u_22 ⟨rfl, hN⟩⟩) ?_
    refine STRN.op rfl rfl rfl (.inl ⟨rfl, fun H1 f' H' hf hN hM => AOp.move (.int .i64 i) rfl ((hf 1 rfl).trans rfl) ⟨rfl, hN⟩⟩) ?_
    refine STRN.op rfl rfl rfl (.inl ⟨rfl, fun H1 f' H' hf hN hM => AOp.bin (.int .i64 ((vs.length : Int) + i)) rfl ((hf 42 rfl).trans rfl) ((hf 43 rfl).trans rfl) (iadd (by omega)) ⟨rfl, hN⟩⟩) ?_
    refine STRN.alloc (id := i84) (Z := [.int .i64 0, .int .i64 0, .int .i64 0, .int .i64 0]) (.head _) rfl rfl rfl rfl rfl tz_47 ?_
    refine STRN.done fun H89 m90 hu91 => ?_
    have h92 := m90 _ _ h70
    have m93 := m71.trans m90
    have h94 : H89 i84 = some (.row 0 ([.int .i64 0, .int .i64 0, .int .i64 0, .int .i64 0])) := hu91 _ (.head _)
    refine STR.st rfl rfl rfl fun f95 H96 hf97 m98 => ?_
    have h99 := m98 _ _ h92
    have h100 := m98 _ _ h94
    have m101 := m93.trans m98
    refine AOp.store' (cells' := [.int .i64 ((at_ t.ed i).A), .int .i64 ((at_ t.ed i).B), .int .i64 ((at_ t.ed i).F), .int .i64 ((at_ t.ed i).G)]) (.agg [.int .i64 ((at_ t.ed i).A), .int .i64 ((at_ t.ed i).B), .int .i64 ((at_ t.ed i).F), .int .i64 ((at_ t.ed i).G)]) ((hf97 6 rfl).trans rfl) ((hf97 36 rfl).trans rfl) ts_47 h100 rfl rfl rfl rfl ?_
    intro H102 h103 k104
    have h105 := keep k104 e87 h99
    have m107 := Mono.set m101 z88 k104
    refine ⟨rfl, .inr (RevR.skip rfl (RevR.cons rfl (.inl ⟨rfl, fun H1 f' H' hf hN hM => AOp.bin (.int .i64 ((vs.length : Int) + i)) rfl ((hf 42 rfl).trans rfl) ((hf 43 rfl).trans rfl) (iadd (by omega)) ⟨rfl, hN⟩⟩) (RevR.cons rfl (.inl ⟨rfl, fun H1 f' H' hf hN hM => AOp.move (.int .i64 i) rfl ((hf 1 rfl).trans rfl) ⟨rfl, hN⟩⟩) (RevR.cons rfl (.inl ⟨rfl, fun H1 f' H' hf hN hM => AOp.len (m := vs.length) rfl ((hf 41 rfl).trans rfl) (.inr (.inl ⟨_, rfl⟩)) u_22 ⟨rfl, hN⟩⟩) (RevR.cons rfl (.inl ⟨rfl, fun H1 f' H' hf hN hM => AOp.load (.sl vs.length (vs.flatMap eV)) rfl ((hf 40 rfl).trans rfl) ty_22 (hM _ _ h105) rfl ⟨rfl, hN⟩⟩) (RevR.cons rfl (.inl ⟨rfl, fun H1 f' H' hf hN hM => AOp.fieldAddr rfl ((hf 39 rfl).trans rfl) fl_26_0 ⟨rfl, hN⟩ (hid := ⟨_, (hM _ _ h105)⟩)⟩) (RevR.cons rfl (.inl ⟨rfl, fun H1 f' H' hf hN hM => AOp.fieldAddr rfl ((hf 38 rfl).trans rfl) fl_79_0 ⟨rfl, hN⟩ (hid := ⟨_, (hM _ _ h105)⟩)⟩) (RevR.cons rfl (.inl ⟨rfl, fun H1 f' H' hf hN hM => AOp.nilCheck (.ptr fid 0 0) rfl ((hf 37 rfl).trans rfl) rfl ⟨rfl, hN⟩⟩) (RevR.cons rfl (.inl ⟨rfl, fun H1 f' H' hf hN hM => AOp.move (.ptr fid 0 0) rfl ((hf 0 rfl).trans rfl) ⟨rfl, hN⟩⟩) (RevR.skip rfl (RevR.skip rfl (RevR.skip rfl (RevR.skip rfl (RevR.skip rfl (RevR.skip rfl (RevR.skip rfl (RevR.skip rfl RevR.nil))))))))))))))))), ?_⟩
    refine STR.done fun H108 m109 => ?_
    have h110 := m109 _ _ h105
    have h111 := m109 _ _ h103
    have m112 := m107.trans m109
    refine AOps.cons rfl rfl (AOp.assign (.int .i64 ((vs.length : Int) + i)) rfl rfl ?_)
    refine AOps.nil ?_
    change AWP _ _ _ _ _ _
    refine AWP.seq ?_
    refine AWP.frzP 6 h111 z88 rfl m112 fun H113 m114 k115 => ?_
    have h116 := (k115 _ e87).trans h110
    refine AWP.region (l := [0, 1, 2, 3, 4, 5, 6, 7, 8, 9, 10, 11]) rfl ?_
    refine AOps.cons rfl rfl (AOp.fieldAddrF rfl rfl fl_47_0 ?_)
    refine AOps.cons rfl rfl (AOp.loadF (.int .i64 ((at_ t.ed i).A)) rfl rfl ty_3 rfl ?_)
    refine AOps.cons rfl rfl (AOp.move (.int .i64 ((vs.length : Int) + i)) rfl rfl ?_)
    refine AOps.cons rfl rfl (AOp.move (.int .i64 (at_ sh i - 1)) rfl rfl ?_)
    refine AOps.cons rfl rfl (AOp.build (cells := [.int .i64 ((at_ t.ed i).A), .int .i64 ((vs.length : Int) + i), .int .i64 (at_ sh i - 1)]) rfl tz_53 pl_53 rfl rfl ?_)
    refine AOps.cons rfl rfl (AOp.fieldAddrF rfl rfl fl_47_1 ?_)
    refine AOps.cons rfl rfl (AOp.loadF (.int .i64 ((at_ t.ed i).B)) rfl rfl ty_3 rfl ?_)
    refine AOps.cons rfl rfl (AOp.move (.int .i64 ((vs.length : Int) + i)) rfl rfl ?_)
    refine AOps.cons rfl rfl (AOp.move (.int .i64 (at_ sh i - 1)) rfl rfl ?_)
    refine AOps.cons rfl rfl (AOp.build (cells := [.int .i64 ((at_ t.ed i).B), .int .i64 ((vs.length : Int) + i), .int .i64 (at_ sh i - 1)]) rfl tz_53 pl_53 rfl rfl ?_)
    refine AOps.cons rfl rfl (AOp.buildSlice (cells := [.int .i64 ((at_ t.ed i).A), .int .i64 ((vs.length : Int) + i), .int .i64 (at_ sh i - 1), .int .i64 ((at_ t.ed i).B), .int .i64 ((vs.length : Int) + i), .int .i64 (at_ sh i - 1)]) rfl u_24 ts_53 tz_53 rfl rfl rfl ?_)
    intro i117 H118 n119 h120 k121
    have e122 := ne_new h116 n119
    have z123 := Mono.free m114 n119
    have h124 := keep k121 (ne_new h116 n119) h116
    have m125 := Mono.new m114 n119 k121
    refine AOps.cons rfl rfl (AOp.assign (.slm i117 0 3 0 2) rfl rfl ?_)
    refine AOps.nil ?_
    change AWP _ _ _ _ _ _
    refine AWP.ret ?_
    obtain ⟨v126, e127⟩ : ∃ v : AV, v = .slm i117 0 3 0 2 := ⟨_, rfl⟩
    have o128 : Own H0 H118 3 v126 2 [.int .i64 ((at_ t.ed i).A), .int .i64 ((vs.length : Int) + i), .int .i64 (at_ sh i - 1), .int .i64 ((at_ t.ed i).B), .int .i64 ((vs.length : Int) + i), .int .i64 (at_ sh i - 1)] := .inr ⟨_, _, e127, h120, z123, rfl⟩
    have no129 : NotId v126 fid := by rw [e127]; exact NotId.slm e122
    refine Fin.frz 4 (o128) e127.symm m125 fun H130 m131 k132 => ?_
    have h133 := (k132 _ no129).trans h124
    refine ⟨_, _, Ghost.refl, .inr rfl, _, Res.one rfl rfl, ?_, m131⟩
    exact (congrArg (fun l : List CrT => AV.sl l.length (l.flatMap eCr)) (show (([(CrT.mk ((at_ t.ed i).A) ((vs.length : Int) + i) (at_ sh i - 1)), (CrT.mk ((at_ t.ed i).B) ((vs.length : Int) + i) (at_ sh i - 1))] : List CrT) : List CrT) = creaseP vs.length t sh i from by (have hls : lessS (at_ sh i) = at_ sh i - 1 := (by unfold lessS; rw [if_neg b1]); unfold creaseP; rw [if_neg (by rw [hls]; exact fun h => h.elim (fun h => by rw [b72] at h; cases h) b77), hls])))
theorem c_parts {H0 : Heap} {fid : Nat} (vs : List VT) (fs : List (List Int)) (cr : List CrT) (t : Tp) (sh : List Int) {x7 x8 : AV} (k : Int) (f : List Int) (hk : 0 ≤ k ∧ k ≤ 1048576) (hfl : f.length ≤ 1048576) (hel : t.ed.length ≤ 1048576) (hvl : vs.length ≤ 1048576) (hse : SortedE t.ed) (hr : H0 fid = some (.row 0 [.sl vs.length (vs.flatMap eV), .sl fs.length (fs.map eF), .sl cr.length (cr.flatMap eCr), .sl t.ed.length (t.ed.flatMap eE), .sl t.fan.length (t.fan.map eF), .sl t.rnd.length (t.rnd.map eBo), .sl sh.length (sh.map eI), x7, x8])) : ACalls Try.prog 39 [.ptr fid 0 0, .int .i64 k, .sl f.length (f.map eI)] H0 fun r H' => r = (.sl (partsU (vs.length : Int) t k f f.length).length ((partsU (vs.length : Int) t k f f.length).map eF)) ∧ Mono H0 H' := by
 refine ACalls.of_body' (n := 88) rfl rfl rfl rfl ?_
 have m0 := Mono.refl H0
 refine AWP.seq ?_
 refine AWP.region (l := [0]) rfl ?_
 refine AOps.cons rfl rfl (AOp.assign (.snil) rfl rfl ?_)
 refine AOps.nil ?_
 change AWP _ _ _ _ _ _
 refine AWP.seq ?_
 refine AWP.region (l := [0, 1, 2, 3, 4, 5, 6]) rfl ?_
 refine AOps.cons rfl rfl (AOp.move (.ptr fid 0 0) rfl rfl ?_)
 refine AOps.cons rfl rfl (AOp.nilCheck (.ptr fid 0 0) rfl rfl rfl ?_)
 refine AOps.cons rfl rfl (AOp.fieldAddr rfl rfl fl_79_0 ?_ (hid := ⟨_, hr⟩))
 refine AOps.cons rfl rfl (AOp.fieldAddr rfl rfl fl_26_0 ?_ (hid := ⟨_, hr⟩))
 refine AOps.cons rfl rfl (AOp.load (.sl vs.length (vs.flatMap eV)) rfl rfl ty_22 hr rfl ?_)
 refine AOps.cons rfl rfl (AOp.len (m := vs.length) rfl rfl (.inr (.inl ⟨_, rfl⟩)) u_22 ?_)
 refine AOps.cons rfl rfl (AOp.assign (.int .i64 (vs.length : Int)) rfl rfl ?_)
 refine AOps.nil ?_
 change AWP _ _ _ _ _ _
 refine AWP.seq ?_
 refine AWP.region (l := [0]) rfl ?_
 refine AOps.cons rfl rfl (AOp.assign (.snil) rfl rfl ?_)
 refine AOps.nil ?_
 change AWP _ _ _ _ _ _
 refine AWP.seq ?_
 refine AWP.seq ?_
 refine AWP.region (l := [0, 1, 2]) rfl ?_
 refine AOps.cons rfl rfl (AOp.move (.sl f.length (f.map eI)) rfl rfl ?_)
 refine AOps.cons rfl rfl (AOp.len (m := f.length) rfl rfl (.inr (.inl ⟨_, rfl⟩)) u_38 ?_)
 refine AOps.cons rfl rfl (AOp.move (.int .i64 0) rfl rfl ?_)
 refine AOps.nil ?_
 change AWP _ _ _ _ _ _
 refine AWP.block ?_
 refine AWP.loop (fun q1 fq Hq => ∃ (i : Int) (w8 : AV), q1 = (((f.length : Int) : Int) - i).toNat ∧ fq 23 = .int .i64 i ∧ fq 0 = .ptr fid 0 0 ∧ fq 1 = .int .i64 k ∧ fq 2 = .sl f.length (f.map eI) ∧ fq 6 = .snil ∧ fq 7 = .int .i64 (vs.length : Int) ∧ fq 21 = .sl f.length (f.map eI) ∧ fq 22 = .int .i64 (f.length : Int) ∧ fq 8 = w8 ∧ Own H0 Hq 1 w8 (partsU (vs.length : Int) t k f i).length ((partsU (vs.length : Int) t k f i).map eF) ∧ NotId w8 fid ∧ Hq fid = some (.row 0 ([.sl vs.length (vs.flatMap eV), .sl fs.length (fs.map eF), .sl cr.length (cr.flatMap eCr), .sl t.ed.length (t.ed.flatMap eE), .sl t.fan.length (t.fan.map eF), .sl t.rnd.length (t.rnd.map eBo), .sl sh.length (sh.map eI), x7, x8])) ∧ Mono H0 Hq ∧ (0 ≤ i) ∧ (i ≤ (f.length : Int))) (k := (((f.length : Int) : Int) - 0).toNat) ?_ ?_
 ·
  exact ⟨0, .snil, rfl, rfl, rfl, rfl, rfl, rfl, rfl, rfl, rfl, rfl, Own.nil _ _ _, (NotId.nil _), hr, m0, by omega, by omega⟩
 ·
  rintro _ f3 H2 ⟨i, w8, rfl, s4, s5, s6, s7, s8, s9, s10, s11, s12, o13, no14, h15, m16, hi0, hi1⟩
  refine AWP.seq ?_
  refine AWP.region (l := [0]) rfl ?_
  refine AOps.cons rfl rfl (AOp.bin (.bool (decide (i < (f.length : Int)))) rfl s4 s11 rfl ?_)
  refine AOps.nil ?_
  change AWP _ _ _ _ _ _
  refine AWP.seq ?_
  by_cases b17 : i < (f.length : Int)
  ·
   refine AWP.condT rfl (decide_eq_true b17) ?_
   refine AWP.skip ?_
   change AWP _ _ _ _ _ _
   refine AWP.seq ?_
   refine AWP.block ?_
   refine AWP.seq ?_
   refine AWP.region (l := [0, 1, 2, 3, 4]) rfl ?_
   refine AOps.cons rfl rfl (AOp.move (.int .i64 i) rfl s4 ?_)
   refine AOps.cons rfl rfl (AOp.indexAddrS rfl s10 s4 sl_38 (by omega) (by omega) ?_)
   refine AOps.cons rfl rfl (AOp.loadF (.int .i64 (at_ f i)) rfl rfl ty_3 (ld1 (by omega) (by omega)) ?_)
   refine AOps.cons rfl rfl (AOp.assign (.int .i64 i) rfl rfl ?_)
   refine AOps.cons rfl rfl (AOp.assign (.int .i64 (at_ f i)) rfl rfl ?_)
   refine AOps.nil ?_
   change AWP _ _ _ _ _ _
   refine AWP.seq ?_
   have hm1 := mod_in (x := i + 1) (y := (f.length : Int)) (by omega)
   refine AWP.region_quiet mixed (by kernel_rfl) 19 [] rfl (by kernel_rfl) (Mono H2) (Mono.refl _) ?_
   refine QE.op rfl rfl (.inl ⟨rfl, fun f' H' hf hM => AOp.move (.ptr fid 0 0) rfl ((hf 0 rfl).trans s5) ⟨rfl, hM⟩⟩) ?_
   refine QE.op rfl rfl (.inl ⟨rfl, fun f' H' hf hM => AOp.nilCheck (.ptr fid 0 0) rfl ((hf 29 rfl).trans rfl) rfl ⟨rfl, hM⟩⟩) ?_
   refine QE.op rfl rfl (.inl ⟨rfl, fun f' H' hf hM => AOp.fieldAddr rfl ((hf 30 rfl).trans rfl) fl_79_1 ⟨rfl, hM⟩ (hid := ⟨_, (hM _ _ h15)⟩)⟩) ?_
   refine QE.op rfl rfl (.inl ⟨rfl, fun f' H' hf hM => AOp.load (.agg [.sl t.ed.length (t.ed.flatMap eE), .sl t.fan.length (t.fan.map eF), .sl t.rnd.length (t.rnd.map eBo)]) rfl ((hf 31 rfl).trans rfl) ty_35 (hM _ _ h15) rfl ⟨rfl, hM⟩⟩) ?_
   refine QE.op rfl rfl (.inl ⟨rfl, fun f' H' hf hM => AOp.move (.int .i64 (at_ f i)) rfl ((hf 10 rfl).trans rfl) ⟨rfl, hM⟩⟩) ?_
   refine QE.op rfl rfl (.inl ⟨rfl, fun f' H' hf hM => AOp.move (.sl f.length (f.map eI)) rfl ((hf 2 rfl).trans s7) ⟨rfl, hM⟩⟩) ?_
   refine QE.op rfl rfl (.inl ⟨rfl, fun f' H' hf hM => AOp.move (.int .i64 i) rfl ((hf 9 rfl).trans rfl) ⟨rfl, hM⟩⟩) ?_
   refine QE.op rfl rfl (.inl ⟨rfl, fun f' H' hf hM => AOp.bin (.int .i64 (i + 1)) rfl ((hf 35 rfl).trans rfl) rfl (iadd (by omega)) ⟨rfl, hM⟩⟩) ?_
   refine QE.op rfl rfl (.inl ⟨rfl, fun f' H' hf hM => AOp.move (.sl f.length (f.map eI)) rfl ((hf 2 rfl).trans s7) ⟨rfl, hM⟩⟩) ?_
   refine QE.op rfl rfl (.inl ⟨rfl, fun f' H' hf hM => AOp.len (m := f.length) rfl ((hf 37 rfl).trans rfl) (.inr (.inl ⟨_, rfl⟩)) u_38 ⟨rfl, hM⟩⟩) ?_
   have r18 := mod_in (x := i + 1) (y := (f.length : Int)) (by omega)
   refine QE.op rfl rfl (.inl ⟨rfl, fun f' H' hf hM => AOp.remP rfl ((hf 36 rfl).trans rfl) ((hf 38 rfl).trans rfl) (by omega) (by omega) ⟨rfl, hM⟩⟩) ?_
   refine QE.op rfl rfl (.inl ⟨rfl, fun f' H' hf hM => AOp.indexAddrS rfl ((hf 34 rfl).trans rfl) ((hf 39 rfl).trans rfl) sl_38 (by omega) (by omega) ⟨rfl, hM⟩⟩) ?_
   refine QE.op rfl rfl (.inl ⟨rfl, fun f' H' hf hM => AOp.loadF (.int .i64 (at_ f ((i + 1) % (f.length : Int)))) rfl ((hf 40 rfl).trans rfl) ty_3 (ld1 (by omega) (by omega)) ⟨rfl, hM⟩⟩) ?_
   refine QE.op rfl rfl (.inl ⟨rfl, fun f' H' hf hM => AOp.pcall («as» := [.agg [.sl t.ed.length (t.ed.flatMap eE), .sl t.fan.length (t.fan.map eF), .sl t.rnd.length (t.rnd.map eBo)], .int .i64 (at_ f i), .int .i64 (at_ f ((i + 1) % (f.length : Int)))]) rfl rfl (lapp (lcons ((hf 32 rfl).trans rfl) (lcons ((hf 33 rfl).trans rfl) (lcons ((hf 41 rfl).trans rfl) rfl))) rfl) tf_44 (c19 _ _ _ (by omega) (by assumption)) fun H2 m2 => ⟨rfl, hM.trans m2⟩⟩) ?_
   refine QE.op rfl rfl (.inl ⟨rfl, fun f' H' hf hM => AOp.move (.tup [.int .i64 (optI (findS t (at_ f i) (at_ f ((i + 1) % (f.length : Int))))), .bool ((findS t (at_ f i) (at_ f ((i + 1) % (f.length : Int)))).isSome)]) rfl ((hf 42 rfl).trans rfl) ⟨rfl, hM⟩⟩) ?_
   refine QE.op rfl rfl (.inl ⟨rfl, fun f' H' hf hM => AOp.extract (.int .i64 (optI (findS t (at_ f i) (at_ f ((i + 1) % (f.length : Int)))))) rfl ((hf 28 rfl).trans rfl) rfl ⟨rfl, hM⟩⟩) ?_
   refine QE.op rfl rfl (.inl ⟨rfl, fun f' H' hf hM => AOp.extract (.bool ((findS t (at_ f i) (at_ f ((i + 1) % (f.length : Int)))).isSome)) rfl ((hf 28 rfl).trans rfl) rfl ⟨rfl, hM⟩⟩) ?_
   refine QE.op rfl rfl (.inl ⟨rfl, fun f' H' hf hM => AOp.assign (.int .i64 (optI (findS t (at_ f i) (at_ f ((i + 1) % (f.length : Int)))))) rfl ((hf 43 rfl).trans rfl) ⟨rfl, hM⟩⟩) ?_
   refine QE.op rfl rfl (.inl ⟨rfl, fun f' H' hf hM => AOp.assign (.bool ((findS t (at_ f i) (at_ f ((i + 1) % (f.length : Int)))).isSome)) rfl ((hf 44 rfl).trans rfl) ⟨rfl, hM⟩⟩) ?_
   refine QE.done fun H19 m20 => ?_
   have h21 := m20 _ _ h15
   have o22 := Own.mono o13 m20
   have m23 := m16.trans m20
   refine AOps.nil ?_
   change AWP _ _ _ _ _ _
   refine AWP.seq ?_
   have hm2 := mod_in (x := i + (f.length : Int) - 1) (y := (f.length : Int)) (by omega)
   refine AWP.region_quiet mixed (by kernel_rfl) 22 [] rfl (by kernel_rfl) (Mono H19) (Mono.refl _) ?_
   refine QE.op rfl rfl (.inl ⟨rfl, fun f' H' hf hM => AOp.move (.ptr fid 0 0) rfl ((hf 0 rfl).trans s5) ⟨rfl, hM⟩⟩) ?_
   refine QE.op rfl rfl (.inl ⟨rfl, fun f' H' hf hM => AOp.nilCheck (.ptr fid 0 0) rfl ((hf 46 rfl).trans rfl) rfl ⟨rfl, hM⟩⟩) ?_
   refine QE.op rfl rfl (.inl ⟨rfl, fun f' H' hf hM => AOp.fieldAddr rfl ((hf 47 rfl).trans rfl) fl_79_1 ⟨rfl, hM⟩ (hid := ⟨_, (hM _ _ h21)⟩)⟩) ?_
   refine QE.op rfl rfl (.inl ⟨rfl, fun f' H' hf hM => AOp.load (.agg [.sl t.ed.length (t.ed.flatMap eE), .sl t.fan.length (t.fan.map eF), .sl t.rnd.length (t.rnd.map eBo)]) rfl ((hf 48 rfl).trans rfl) ty_35 (hM _ _ h21) rfl ⟨rfl, hM⟩⟩) ?_
   refine QE.op rfl rfl (.inl ⟨rfl, fun f' H' hf hM => AOp.move (.int .i64 (at_ f i)) rfl ((hf 10 rfl).trans rfl) ⟨rfl, hM⟩⟩) ?_
   refine QE.op rfl rfl (.inl ⟨rfl, fun f' H' hf hM => AOp.move (.sl f.length (f.map eI)) rfl ((hf 2 rfl).trans s7) ⟨rfl, hM⟩⟩) ?_
   refine QE.op rfl rfl (.inl ⟨rfl, fun f' H' hf hM => AOp.move (.int .i64 i) rfl ((hf 9 rfl).trans rfl) ⟨rfl, hM⟩⟩) ?_
   refine QE.op rfl rfl (.inl ⟨rfl, fun f' H' hf hM => AOp.move (.sl f.length (f.map eI)) rfl ((hf 2 rfl).trans s7) ⟨rfl, hM⟩⟩) ?_
   refine QE.op rfl rfl (.inl ⟨rfl, fun f' H' hf hM => AOp.len (m := f.length) rfl ((hf 53 rfl).trans rfl) (.inr (.inl ⟨_, rfl⟩)) u_38 ⟨rfl, hM⟩⟩) ?_
   refine QE.op rfl rfl (.inl ⟨rfl, fun f' H' hf hM => AOp.bin (.int .i64 (i + (f.length : Int))) rfl ((hf 52 rfl).trans rfl) ((hf 54 rfl).trans rfl) (iadd (by omega)) ⟨rfl, hM⟩⟩) ?_
   refine QE.op rfl rfl (.inl ⟨rfl, fun f' H' hf hM => AOp.bin (.int .i64 (i + (f.length : Int) - 1)) rfl ((hf 55 rfl).trans rfl) rfl (isub (by omega)) ⟨rfl, hM⟩⟩) ?_
   refine QE.op rfl rfl (.inl ⟨rfl, fun f' H' hf hM => AOp.move (.sl f.length (f.map eI)) rfl ((hf 2 rfl).trans s7) ⟨rfl, hM⟩⟩) ?_
   refine QE.op rfl rfl (.inl ⟨rfl, fun f' H' hf hM => AOp.len (m := f.length) rfl ((hf 57 rfl).trans rfl) (.inr (.inl ⟨_, rfl⟩)) u_38 ⟨rfl, hM⟩⟩) ?_
   have r24 := mod_in (x := i + (f.length : Int) - 1) (y := (f.length : Int)) (by omega)
   refine QE.op rfl rfl (.inl ⟨rfl, fun f' H' hf hM => AOp.remP rfl ((hf 56 rfl).trans rfl) ((hf 58 rfl).trans rfl) (by omega) (by omega) ⟨rfl, hM⟩⟩) ?_
   refine QE.op rfl rfl (.inl ⟨rfl, fun f' H' hf hM => AOp.indexAddrS rfl ((hf 51 rfl).trans rfl) ((hf 59 rfl).trans rfl) sl_38 (by omega) (by omega) ⟨rfl, hM⟩⟩) ?_
   refine QE.op rfl rfl (.inl ⟨rfl, fun f' H' hf hM => AOp.loadF (.int .i64 (at_ f ((i + (f.length : Int) - 1) % (f.length : Int)))) rfl ((hf 60 rfl).trans rfl) ty_3 (ld1 (by omega) (by omega)) ⟨rfl, hM⟩⟩) ?_
   refine QE.op rfl rfl (.inl ⟨rfl, fun f' H' hf hM => AOp.pcall («as» := [.agg [.sl t.ed.length (t.ed.flatMap eE), .sl t.fan.length (t.fan.map eF), .sl t.rnd.length (t.rnd.map eBo)], .int .i64 (at_ f i), .int .i64 (at_ f ((i + (f.length : Int) - 1) % (f.length : Int)))]) rfl rfl (lapp (lcons ((hf 49 rfl).trans rfl) (lcons ((hf 50 rfl).trans rfl) (lcons ((hf 61 rfl).trans rfl) rfl))) rfl) tf_44 (c19 _ _ _ (by omega) (by assumption)) fun H2 m2 => ⟨rfl, hM.trans m2⟩⟩) ?_
   refine QE.op rfl rfl (.inl ⟨rfl, fun f' H' hf hM => AOp.move (.tup [.int .i64 (optI (findS t (at_ f i) (at_ f ((i + (f.length : Int) - 1) % (f.length : Int))))), .bool ((findS t (at_ f i) (at_ f ((i + (f.length : Int) - 1) % (f.length : Int)))).isSome)]) rfl ((hf 62 rfl).trans rfl) ⟨rfl, hM⟩⟩) ?_
   refine QE.op rfl rfl (.inl ⟨rfl, fun f' H' hf hM => AOp.extract (.int .i64 (optI (findS t (at_ f i) (at_ f ((i + (f.length : Int) - 1) % (f.length : Int)))))) rfl ((hf 45 rfl).trans rfl) rfl ⟨rfl, hM⟩⟩) ?_
   refine QE.op rfl rfl (.inl ⟨rfl, fun f' H' hf hM => AOp.extract (.bool ((findS t (at_ f i) (at_ f ((i + (f.length : Int) - 1) % (f.length : Int)))).isSome)) rfl ((hf 45 rfl).trans rfl) rfl ⟨rfl, hM⟩⟩) ?_
   refine QE.op rfl rfl (.inl ⟨rfl, fun f' H' hf hM => AOp.assign (.int .i64 (optI (findS t (at_ f i) (at_ f ((i + (f.length : Int) - 1) % (f.length : Int)))))) rfl ((hf 63 rfl).trans rfl) ⟨rfl, hM⟩⟩) ?_
   refine QE.op rfl rfl (.inl ⟨rfl, fun f' H' hf hM => AOp.assign (.bool ((findS t (at_ f i) (at_ f ((i + (f.length : Int) - 1) % (f.length : Int)))).isSome)) rfl ((hf 64 rfl).trans rfl) ⟨rfl, hM⟩⟩) ?_
   refine QE.done fun H25 m26 => ?_
   have h27 := m26 _ _ h21
   have o28 := Own.mono o22 m26
   have m29 := m23.trans m26
   refine AOps.nil ?_
   change AWP _ _ _ _ _ _
   have hl1 := find_lt (t := t) (a := at_ f i) (b := at_ f ((i + 1) % (f.length : Int)))
   have hl2 := find_lt (t := t) (a := at_ f i) (b := at_ f ((i + (f.length : Int) - 1) % (f.length : Int)))
   have hpl := partsU_len (n := vs.length) (t := t) (k := k) (f := f) (i := i)
   refine AWP.region (l := [0, 1, 2, 3, 4, 5, 6, 7, 8, 9, 10, 11, 12, 13, 14, 15, 16, 17, 18, 19, 20, 21]) rfl ?_
   refine AOps.cons rfl rfl (AOp.move (w8) rfl s12 ?_)
   refine AOps.cons rfl rfl (AOp.move (.int .i64 (at_ f i)) rfl rfl ?_)
   refine AOps.cons rfl rfl (AOp.move (.int .i64 (vs.length : Int)) rfl s9 ?_)
   refine AOps.cons rfl rfl (AOp.move (.int .i64 (optI (findS t (at_ f i) (at_ f ((i + 1) % (f.length : Int)))))) rfl rfl ?_)
   refine AOps.cons rfl rfl (AOp.bin (.int .i64 ((vs.length : Int) + (optI (findS t (at_ f i) (at_ f ((i + 1) % (f.length : Int))))))) rfl rfl rfl (iadd (by omega)) ?_)
   refine AOps.cons rfl rfl (AOp.move (.int .i64 (vs.length : Int)) rfl s9 ?_)
   refine AOps.cons rfl rfl (AOp.move (.ptr fid 0 0) rfl s5 ?_)
   refine AOps.cons rfl rfl (AOp.nilCheck (.ptr fid 0 0) rfl rfl rfl ?_)
   refine AOps.cons rfl rfl (AOp.fieldAddr rfl rfl fl_79_1 ?_ (hid := ⟨_, h27⟩))
   refine AOps.cons rfl rfl (AOp.fieldAddr rfl rfl fl_35_0 ?_ (hid := ⟨_, h27⟩))
   refine AOps.cons rfl rfl (AOp.load (.sl t.ed.length (t.ed.flatMap eE)) rfl rfl ty_32 h27 rfl ?_)
   refine AOps.cons rfl rfl (AOp.len (m := t.ed.length) rfl rfl (.inr (.inl ⟨_, rfl⟩)) u_32 ?_)
   refine AOps.cons rfl rfl (AOp.bin (.int .i64 ((vs.length : Int) + (t.ed.length : Int))) rfl rfl rfl (iadd (by omega)) ?_)
   refine AOps.cons rfl rfl (AOp.move (.int .i64 k) rfl s6 ?_)
   refine AOps.cons rfl rfl (AOp.bin (.int .i64 ((vs.length : Int) + (t.ed.length : Int) + k)) rfl rfl rfl (iadd (by omega)) ?_)
   refine AOps.cons rfl rfl (AOp.move (.int .i64 (vs.length : Int)) rfl s9 ?_)
   refine AOps.cons rfl rfl (AOp.move (.int .i64 (optI (findS t (at_ f i) (at_ f ((i + (f.length : Int) - 1) % (f.length : Int)))))) rfl rfl ?_)
   refine AOps.cons rfl rfl (AOp.bin (.int .i64 ((vs.length : Int) + (optI (findS t (at_ f i) (at_ f ((i + (f.length : Int) - 1) % (f.length : Int))))))) rfl rfl rfl (iadd (by omega)) ?_)
   refine AOps.cons rfl rfl (AOp.buildSlice (cells := [.int .i64 (at_ f i), .int .i64 ((vs.length : Int) + (optI (findS t (at_ f i) (at_ f ((i + 1) % (f.length : Int)))))), .int .i64 ((vs.length : Int) + (t.ed.length : Int) + k), .int .i64 ((vs.length : Int) + (optI (findS t (at_ f i) (at_ f ((i + (f.length : Int) - 1) % (f.length : Int))))))]) rfl u_38 ts_3 tz_3 rfl rfl rfl ?_)
   intro i30 H31 n32 h33 k34
   have e35 := ne_new h27 n32
   have z36 := Mono.free m29 n32
   have h37 := keep k34 (ne_new h27 n32) h27
   have o38 := Own.keep o28 k34 (Own.notnew o28 n32)
   have no39 := Own.notnew o28 n32
   have m40 := Mono.new m29 n32 k34
   obtain ⟨v41, e42⟩ : ∃ v : AV, v = .slm i30 0 1 0 4 := ⟨_, rfl⟩
   have o43 : Own H0 H31 1 v41 4 [.int .i64 (at_ f i), .int .i64 ((vs.length : Int) + (optI (findS t (at_ f i) (at_ f ((i + 1) % (f.length : Int)))))), .int .i64 ((vs.length : Int) + (t.ed.length : Int) + k), .int .i64 ((vs.length : Int) + (optI (findS t (at_ f i) (at_ f ((i + (f.length : Int) - 1) % (f.length : Int))))))] := .inr ⟨_, _, e42, h33, z36, rfl⟩
   have no44 : NotId v41 fid := by rw [e42]; exact NotId.slm e35
   have sp45 : Sep v41 w8 := by rw [e42]; exact Sep.ofNotId no39
   refine AOps.cons rfl rfl ?_
   refine AOp.frz 83 (o43) e42.symm m40 fun H46 m47 k48 => ?_
   have h49 := (k48 _ no44).trans h37
   have o50 := Own.stay o38 (Sep.symm sp45) (fun i hi _ => k48 i hi)
   refine AOp.buildSlice (cells := [.sl ([at_ f i, (vs.length : Int) + (optI (findS t (at_ f i) (at_ f ((i + 1) % (f.length : Int))))), (vs.length : Int) + (t.ed.length : Int) + k, (vs.length : Int) + (optI (findS t (at_ f i) (at_ f ((i + (f.length : Int) - 1) % (f.length : Int)))))] : List Int).length (([at_ f i, (vs.length : Int) + (optI (findS t (at_ f i) (at_ f ((i + 1) % (f.length : Int))))), (vs.length : Int) + (t.ed.length : Int) + k, (vs.length : Int) + (optI (findS t (at_ f i) (at_ f ((i + (f.length : Int) - 1) % (f.length : Int)))))] : List Int).map eI)]) rfl u_23 ts_38 tz_38 rfl rfl rfl ?_
   intro i51 H52 n53 h54 k55
   have e56 := ne_new h49 n53
   have z57 := Mono.free m47 n53
   have h58 := keep k55 (ne_new h49 n53) h49
   have o59 := Own.keep o50 k55 (Own.notnew o50 n53)
   have no60 := Own.notnew o50 n53
   have m61 := Mono.new m47 n53 k55
   refine AOps.cons rfl rfl (AOp.append_own (es := 1) (m := 1) (len := ((partsU (vs.length : Int) t k f i).length)) (old := (partsU (vs.length : Int) t k f i).map eF) (cells := [.sl ([at_ f i, (vs.length : Int) + (optI (findS t (at_ f i) (at_ f ((i + 1) % (f.length : Int))))), (vs.length : Int) + (t.ed.length : Int) + k, (vs.length : Int) + (optI (findS t (at_ f i) (at_ f ((i + (f.length : Int) - 1) % (f.length : Int)))))] : List Int).length (([at_ f i, (vs.length : Int) + (optI (findS t (at_ f i) (at_ f ((i + 1) % (f.length : Int))))), (vs.length : Int) + (t.ed.length : Int) + k, (vs.length : Int) + (optI (findS t (at_ f i) (at_ f ((i + (f.length : Int) - 1) % (f.length : Int)))))] : List Int).map eI)]) rfl u_23 ts_38 tzn_38 tb_38 (by decide) ni_23 rfl o59 m61 rfl (.slm h54 rfl) (one_of rfl) (by decide) (by first | omega | (simp; omega)) ?_)
   intro v62 H63 o64 m65 k66 j67
   have o68 := Own.snoc1 (xs := ((partsU (vs.length : Int) t k f i) : List (List Int))) (y := ([at_ f i, (vs.length : Int) + (optI (findS t (at_ f i) (at_ f ((i + 1) % (f.length : Int))))), (vs.length : Int) + (t.ed.length : Int) + k, (vs.length : Int) + (optI (findS t (at_ f i) (at_ f ((i + (f.length : Int) - 1) % (f.length : Int)))))] : List Int)) (e := eF) (by simp) o64
   have h69 := (k66 _ no14 (by rw [h58]; simp)).trans h58
   have no70 := j67 _ no14 (by rw [h58]; simp)
   refine AOps.cons rfl rfl (AOp.assign (v62) rfl rfl ?_)
   refine AOps.nil ?_
   change AWP _ _ _ _ _ _
   refine AWP.region (l := [0, 1]) rfl ?_
   refine AOps.cons rfl rfl (AOp.bin (.int .i64 (i + 1)) rfl s4 rfl (iadd (by omega)) ?_)
   refine AOps.cons rfl rfl (AOp.move (.int .i64 (i + 1)) rfl rfl ?_)
   refine AOps.nil ?_
   exact ⟨_, by omega, i + 1, v62, rfl, rfl, s5, s6, s7, s8, s9, s10, s11, rfl, (have hx : (((partsU (vs.length : Int) t k f i) ++ [([at_ f i, (vs.length : Int) + (optI (findS t (at_ f i) (at_ f ((i + 1) % (f.length : Int))))), (vs.length : Int) + (t.ed.length : Int) + k, (vs.length : Int) + (optI (findS t (at_ f i) (at_ f ((i + (f.length : Int) - 1) % (f.length : Int)))))] : List Int)]) : List (List Int)) = partsU (vs.length : Int) t k f (i + 1) := (by exact partsU_step hi0); Own.re o68 (congrArg List.length hx) (congrArg (fun l : List (List Int) => l.map eF) hx)), no70, h69, m65, by omega, by omega⟩
  ·
   refine AWP.condF rfl (decide_eq_false b17) ?_
   refine AWP.exit ?_
   change AWP _ _ _ _ _ _
   refine AWP.seq ?_
   refine AWP.region (l := [0, 1]) rfl ?_
   refine AOps.cons rfl rfl (AOp.move (w8) rfl s12 ?_)
   refine AOps.cons rfl rfl (AOp.assign (w8) rfl rfl ?_)
   refine AOps.nil ?_
   change AWP _ _ _ _ _ _
   refine AWP.ret ?_
   refine Fin.frz 6 o13 rfl m16 fun H71 m72 k73 => ?_
   have h74 := (k73 _ no14).trans h15
   refine ⟨_, _, Ghost.refl, .inr rfl, _, Res.one rfl rfl, ?_, m72⟩
   exact (congrArg (fun l : List (List Int) => AV.sl l.length (l.map eF)) (show ((partsU (vs.length : Int) t k f i) : List (List Int)) = partsU (vs.length : Int) t k f f.length from by congr 1; omega))
theorem c_Sharp (vs : List VT) (fs : List (List Int)) (cr : List CrT) (t : Tp) (hcl : cr.length ≤ 1048576) (hel : t.ed.length ≤ 1048576) (hse : SortedE t.ed) : PC Try.prog 17 [.agg [.sl vs.length (vs.flatMap eV), .sl fs.length (fs.map eF), .sl cr.length (cr.flatMap eCr)], .agg [.sl t.ed.length (t.ed.flatMap eE), .sl t.fan.length (t.fan.map eF), .sl t.rnd.length (t.rnd.map eBo)]] (.tup [.sl ((sharpR t cr).1).length (((sharpR t cr).1).map eI), .int .i64 ((sharpR t cr).2)]) := by
 intro H0
 refine ACalls.of_body' (n := 58) rfl rfl rfl rfl ?_
 have m0 := Mono.refl H0
 refine AWP.seq ?_
 refine AWP.region (l := [0, 1, 2, 3]) rfl ?_
 refine AOps.cons rfl rfl (AOp.box (.agg [.sl vs.length (vs.flatMap eV), .sl fs.length (fs.map eF), .sl cr.length (cr.flatMap eCr)]) rfl rfl rfl ?_)
 intro i1 H2 n3 h4 k5
 have z6 := Mono.free m0 n3
 have m7 := Mono.new m0 n3 k5
 refine AOps.cons rfl rfl (AOp.box (.agg [.sl t.ed.length (t.ed.flatMap eE), .sl t.fan.length (t.fan.map eF), .sl t.rnd.length (t.rnd.map eBo)]) rfl rfl rfl ?_)
 intro i8 H9 n10 h11 k12
 have e13 := ne_new h4 n10
 have z14 := Mono.free m7 n10
 have h15 := keep k12 (ne_new h4 n10) h4
 have m16 := Mono.new m7 n10 k12
 refine AOps.cons rfl rfl (AOp.assign (.snil) rfl rfl ?_)
 refine AOps.cons rfl rfl (AOp.assign (.int .i64 0) rfl rfl ?_)
 refine AOps.nil ?_
 change AWP _ _ _ _ _ _
 refine AWP.seq ?_
 refine AWP.frzP 2 h15 z6 rfl m16 fun H17 m18 k19 => ?_
 have h20 := (k19 _ (Ne.symm e13)).trans h11
 refine AWP.frzP 3 h20 z14 rfl m18 fun H21 m22 k23 => ?_
 refine AWP.region (l := [0, 1, 2, 3, 4]) rfl ?_
 refine AOps.cons rfl rfl (AOp.fieldAddrF rfl rfl fl_35_0 ?_)
 refine AOps.cons rfl rfl (AOp.loadF (.sl t.ed.length (t.ed.flatMap eE)) rfl rfl ty_32 rfl ?_)
 refine AOps.cons rfl rfl (AOp.len (m := t.ed.length) rfl rfl (.inr (.inl ⟨_, rfl⟩)) u_32 ?_)
 refine AOps.cons rfl rfl (AOp.makeSlice_own rfl u_38 ts_3 tz_3 tb_3 (by decide) rfl rfl (by omega) (by omega) m22 ?_)
 intro v24 H25 o26 m27 k28 j29
 have o30 : Own H0 H25 1 v24 (List.replicate (t.ed.length : Int).toNat (0 : Int)).length ((List.replicate (t.ed.length : Int).toNat (0 : Int)).map eI) := Own.re o26 (by rw [List.length_replicate]) (by rw [List.map_replicate]; rfl)
 refine AOps.cons rfl rfl (AOp.assign (v24) rfl rfl ?_)
 refine AOps.nil ?_
 change AWP _ _ _ _ _ _
 refine AWP.seq ?_
 refine AWP.seq ?_
 have hrl : (List.replicate (t.ed.length : Int).toNat (0 : Int)).length = t.ed.length := by simp
 refine AWP.region (l := [0, 1, 2]) rfl ?_
 refine AOps.cons rfl rfl (AOp.move (v24) rfl rfl ?_)
 refine AOps.cons rfl rfl (AOp.len_own (m := ((List.replicate (t.ed.length : Int).toNat (0 : Int)).length)) rfl rfl o30 u_38 ?_)
 refine AOps.cons rfl rfl (AOp.move (.int .i64 0) rfl rfl ?_)
 refine AOps.nil ?_
 change AWP _ _ _ _ _ _
 refine AWP.block ?_
 refine AWP.loop (fun q31 fq Hq => ∃ (j : Int) (w6 : AV), q31 = ((((List.replicate (t.ed.length : Int).toNat (0 : Int)).length : Int) : Int) - j).toNat ∧ fq 18 = .int .i64 j ∧ fq 2 = .fptr [.sl vs.length (vs.flatMap eV), .sl fs.length (fs.map eF), .sl cr.length (cr.flatMap eCr)] 0 ∧ fq 3 = .fptr [.sl t.ed.length (t.ed.flatMap eE), .sl t.fan.length (t.fan.map eF), .sl t.rnd.length (t.rnd.map eBo)] 0 ∧ fq 4 = .snil ∧ fq 5 = .int .i64 0 ∧ fq 17 = .int .i64 (((List.replicate (t.ed.length : Int).toNat (0 : Int)).length) : Int) ∧ fq 6 = w6 ∧ Own H0 Hq 1 w6 (sh0 t j).length ((sh0 t j).map eI) ∧ Mono H0 Hq ∧ (0 ≤ j) ∧ (j ≤ ((List.replicate (t.ed.length : Int).toNat (0 : Int)).length : Int))) (k := ((((List.replicate (t.ed.length : Int).toNat (0 : Int)).length : Int) : Int) - 0).toNat) ?_ ?_
 ·
  exact ⟨0, v24, rfl, rfl, rfl, rfl, rfl, rfl, rfl, rfl, (have hx : ((List.replicate (t.ed.length : Int).toNat (0 : Int)) : List Int) = sh0 t 0 := (by exact sh0_0 t); Own.re o30 (congrArg List.length hx) (congrArg (fun l : List Int => l.map eI) hx)), m27, by omega, by omega⟩
 ·
  rintro _ f33 H32 ⟨j, w6, rfl, s34, s35, s36, s37, s38, s39, s40, o41, m42, hj0, hj1⟩
  refine AWP.seq ?_
  refine AWP.region (l := [0]) rfl ?_
  refine AOps.cons rfl rfl (AOp.bin (.bool (decide (j < (((List.replicate (t.ed.length : Int).toNat (0 : Int)).length) : Int)))) rfl s34 s39 rfl ?_)
  refine AOps.nil ?_
  change AWP _ _ _ _ _ _
  refine AWP.seq ?_
  by_cases b43 : j < (((List.replicate (t.ed.length : Int).toNat (0 : Int)).length) : Int)
  ·
   refine AWP.condT rfl (decide_eq_true b43) ?_
   refine AWP.skip ?_
   change AWP _ _ _ _ _ _
   refine AWP.seq ?_
   refine AWP.block ?_
   refine AWP.seq ?_
   refine AWP.region (l := [0, 1]) rfl ?_
   refine AOps.cons rfl rfl (AOp.move (.int .i64 j) rfl s34 ?_)
   refine AOps.cons rfl rfl (AOp.assign (.int .i64 j) rfl rfl ?_)
   refine AOps.nil ?_
   change AWP _ _ _ _ _ _
   refine AWP.seq ?_
   have hs0l := sh0_len t j
   refine AWP.region (l := [0, 1, 2]) rfl ?_
   refine AOps.cons rfl rfl (AOp.loadF (.agg [.sl t.ed.length (t.ed.flatMap eE), .sl t.fan.length (t.fan.map eF), .sl t.rnd.length (t.rnd.map eBo)]) rfl s36 ty_35 rfl ?_)
   refine AOps.cons rfl rfl (AOp.move (.int .i64 j) rfl rfl ?_)
   refine AOps.cons rfl rfl (AOp.pcall («as» := [.agg [.sl t.ed.length (t.ed.flatMap eE), .sl t.fan.length (t.fan.map eF), .sl t.rnd.length (t.rnd.map eBo)], .int .i64 j]) rfl rfl (rfl) tf_43 (c18 _ _ (by omega)) ?_)
   intro H44 m45
   have o46 := Own.mono o41 m45
   have m47 := m42.trans m45
   refine AOps.nil ?_
   change AWP _ _ _ _ _ _
   rcases Bool.eq_false_or_eq_true (edgedS t j) with b48 | b48
   ·
    refine AWP.condT rfl b48 ?_
    refine AWP.region (l := [0, 1, 2, 3]) rfl ?_
    refine AOps.cons rfl rfl (AOp.move (w6) rfl s40 ?_)
    refine AOps.cons rfl rfl (AOp.move (.int .i64 j) rfl rfl ?_)
    obtain ⟨i49, ver50, e51, h52, _, _⟩ := Own.pos o46 (by omega)
    refine AOps.cons rfl rfl (AOp.indexAddrO rfl (Eq.trans rfl e51) rfl sl_38 (by omega) (by omega) h52 ?_)
    refine AOps.cons rfl rfl (AOp.store' (cells' := ((sh0 t j).set j.toNat 255).map eI) (.int .i64 255) rfl rfl ts_3 (Own.at_ e51 o46).1 rfl rfl (blelen (by rw [List.length_map]) (by omega)) (wr_set1 (by omega) (by omega)) ?_)
    intro H53 h54 k55
    have o56 := Own.store e51 o46 h54 (len' := (((sh0 t j).set j.toNat 255)).length) (by rw [List.length_set]) (by rw [List.length_map, Nat.mul_one, List.length_set])
    have m57 := Mono.set m47 (Own.at_ e51 o46).2.1 k55
    refine AOps.nil ?_
    change AWP _ _ _ _ _ _
    have hs0l := sh0_len t j
    refine AWP.region (l := [0, 1]) rfl ?_
    refine AOps.cons rfl rfl (AOp.bin (.int .i64 (j + 1)) rfl s34 rfl (iadd (by omega)) ?_)
    refine AOps.cons rfl rfl (AOp.move (.int .i64 (j + 1)) rfl rfl ?_)
    refine AOps.nil ?_
    exact ⟨_, by omega, j + 1, w6, rfl, rfl, s35, s36, s37, s38, s39, s40, (have hx : ((((sh0 t j).set j.toNat 255)) : List Int) = sh0 t (j + 1) := (by exact sh0_T hj0 (by omega) b48); Own.re o56 (congrArg List.length hx) (congrArg (fun l : List Int => l.map eI) hx)), m57, by omega, by omega⟩
   ·
    refine AWP.condF rfl b48 ?_
    refine AWP.skip ?_
    change AWP _ _ _ _ _ _
    have hs0l := sh0_len t j
    refine AWP.region (l := [0, 1]) rfl ?_
    refine AOps.cons rfl rfl (AOp.bin (.int .i64 (j + 1)) rfl s34 rfl (iadd (by omega)) ?_)
    refine AOps.cons rfl rfl (AOp.move (.int .i64 (j + 1)) rfl rfl ?_)
    refine AOps.nil ?_
    exact ⟨_, by omega, j + 1, w6, rfl, rfl, s35, s36, s37, s38, s39, s40, (have hx : ((sh0 t j) : List Int) = sh0 t (j + 1) := (by exact sh0_F hj0 b48); Own.re o46 (congrArg List.length hx) (congrArg (fun l : List Int => l.map eI) hx)), m47, by omega, by omega⟩
  ·
   refine AWP.condF rfl (decide_eq_false b43) ?_
   refine AWP.exit ?_
   change AWP _ _ _ _ _ _
   refine AWP.seq ?_
   refine AWP.seq ?_
   refine AWP.region (l := [0, 1, 2, 3]) rfl ?_
   refine AOps.cons rfl rfl (AOp.fieldAddrF rfl s35 fl_26_2 ?_)
   refine AOps.cons rfl rfl (AOp.loadF (.sl cr.length (cr.flatMap eCr)) rfl rfl ty_24 rfl ?_)
   refine AOps.cons rfl rfl (AOp.len (m := cr.length) rfl rfl (.inr (.inl ⟨_, rfl⟩)) u_24 ?_)
   refine AOps.cons rfl rfl (AOp.move (.int .i64 0) rfl rfl ?_)
   refine AOps.nil ?_
   change AWP _ _ _ _ _ _
   refine AWP.block ?_
   refine AWP.loop (fun q58 fq Hq => ∃ (i : Int) (out : List Int) (w6 : AV), q58 = (((cr.length : Int) : Int) - i).toNat ∧ fq 31 = .int .i64 i ∧ fq 3 = .fptr [.sl t.ed.length (t.ed.flatMap eE), .sl t.fan.length (t.fan.map eF), .sl t.rnd.length (t.rnd.map eBo)] 0 ∧ fq 29 = .sl cr.length (cr.flatMap eCr) ∧ fq 30 = .int .i64 (cr.length : Int) ∧ fq 6 = w6 ∧ Own H0 Hq 1 w6 (out).length ((out).map eI) ∧ Mono H0 Hq ∧ (0 ≤ i) ∧ (i ≤ (cr.length : Int)) ∧ (shF t (cr.take i.toNat) (sh0 t t.ed.length) = some out) ∧ (out.length = t.ed.length)) (k := (((cr.length : Int) : Int) - 0).toNat) ?_ ?_
   ·
    exact ⟨0, (sh0 t t.ed.length), w6, rfl, rfl, s36, rfl, rfl, s40, (have hx : ((sh0 t j) : List Int) = (sh0 t t.ed.length) := (by congr 1; omega); Own.re o41 (congrArg List.length hx) (congrArg (fun l : List Int => l.map eI) hx)), m42, by omega, by omega, by rfl, by exact sh0_len _ _⟩
   ·
    rintro _ f60 H59 ⟨i, out, w6, rfl, s61, s62, s63, s64, s65, o66, m67, hi0, hi1, hF, hol⟩
    refine AWP.seq ?_
    refine AWP.region (l := [0]) rfl ?_
    refine AOps.cons rfl rfl (AOp.bin (.bool (decide (i < (cr.length : Int)))) rfl s61 s64 rfl ?_)
    refine AOps.nil ?_
    change AWP _ _ _ _ _ _
    refine AWP.seq ?_
    by_cases b68 : i < (cr.length : Int)
    ·
     refine AWP.condT rfl (decide_eq_true b68) ?_
     refine AWP.skip ?_
     change AWP _ _ _ _ _ _
     refine AWP.seq ?_
     refine AWP.block ?_
     refine AWP.seq ?_
     refine AWP.region (l := [0, 1, 2, 3]) rfl ?_
     refine AOps.cons rfl rfl (AOp.indexAddrS rfl s63 s61 sl_24 (by omega) (by omega) ?_)
     refine AOps.cons rfl rfl (AOp.loadF (.agg [.int .i64 ((at_ cr i).A), .int .i64 ((at_ cr i).B), .int .i64 ((at_ cr i).S)]) rfl rfl ty_53 (ldM eCr_len (by omega) (by omega)) ?_)
     refine AOps.cons rfl rfl (AOp.alloc rfl tz_53 ?_)
     intro i69 H70 n71 h72 k73
     have z74 := Mono.free m67 n71
     have o75 := Own.keep o66 k73 (Own.notnew o66 n71)
     have no76 := Own.notnew o66 n71
     have m77 := Mono.new m67 n71 k73
     refine AOps.cons rfl rfl (AOp.store' (cells' := [.int .i64 ((at_ cr i).A), .int .i64 ((at_ cr i).B), .int .i64 ((at_ cr i).S)]) (.agg [.int .i64 ((at_ cr i).A), .int .i64 ((at_ cr i).B), .int .i64 ((at_ cr i).S)]) rfl rfl ts_53 h72 rfl rfl rfl rfl ?_)
     intro H78 h79 k80
     have o82 := Own.keep o75 k80 no76
     have m83 := Mono.set m77 z74 k80
     refine AOps.nil ?_
     change AWP _ _ _ _ _ _
     refine AWP.seq ?_
     refine AWP.frzP 9 h79 z74 rfl m83 fun H84 m85 k86 => ?_
     have o87 := Own.keep o82 k86 no76
     refine AWP.region (l := [0, 1, 2, 3, 4, 5, 6, 7, 8, 9, 10]) rfl ?_
     refine AOps.cons rfl rfl (AOp.loadF (.agg [.sl t.ed.length (t.ed.flatMap eE), .sl t.fan.length (t.fan.map eF), .sl t.rnd.length (t.rnd.map eBo)]) rfl s62 ty_35 rfl ?_)
     refine AOps.cons rfl rfl (AOp.fieldAddrF rfl rfl fl_53_0 ?_)
     refine AOps.cons rfl rfl (AOp.loadF (.int .i64 ((at_ cr i).A)) rfl rfl ty_3 rfl ?_)
     refine AOps.cons rfl rfl (AOp.fieldAddrF rfl rfl fl_53_1 ?_)
     refine AOps.cons rfl rfl (AOp.loadF (.int .i64 ((at_ cr i).B)) rfl rfl ty_3 rfl ?_)
     refine AOps.cons rfl rfl (AOp.pcall («as» := [.agg [.sl t.ed.length (t.ed.flatMap eE), .sl t.fan.length (t.fan.map eF), .sl t.rnd.length (t.rnd.map eBo)], .int .i64 ((at_ cr i).A), .int .i64 ((at_ cr i).B)]) rfl rfl (rfl) tf_44 (c19 _ _ _ (by omega) (by assumption)) ?_)
     intro H88 m89
     have o90 := Own.mono o87 m89
     have m91 := m85.trans m89
     refine AOps.cons rfl rfl (AOp.move (.tup [.int .i64 (optI (findS t ((at_ cr i).A) ((at_ cr i).B))), .bool ((findS t ((at_ cr i).A) ((at_ cr i).B)).isSome)]) rfl rfl ?_)
     refine AOps.cons rfl rfl (AOp.extract (.int .i64 (optI (findS t ((at_ cr i).A) ((at_ cr i).B)))) rfl rfl rfl ?_)
     refine AOps.cons rfl rfl (AOp.extract (.bool ((findS t ((at_ cr i).A) ((at_ cr i).B)).isSome)) rfl rfl rfl ?_)
     refine AOps.cons rfl rfl (AOp.assign (.int .i64 (optI (findS t ((at_ cr i).A) ((at_ cr i).B)))) rfl rfl ?_)
     refine AOps.cons rfl rfl (AOp.assign (.bool ((findS t ((at_ cr i).A) ((at_ cr i).B)).isSome)) rfl rfl ?_)
     refine AOps.nil ?_
     change AWP _ _ _ _ _ _
     refine AWP.seq ?_
     refine AWP.seq ?_
     refine AWP.region (l := [0, 1]) rfl ?_
     refine AOps.cons rfl rfl (AOp.move (.bool ((findS t ((at_ cr i).A) ((at_ cr i).B)).isSome)) rfl rfl ?_)
     refine AOps.cons rfl rfl (AOp.not rfl rfl ?_)
     refine AOps.nil ?_
     change AWP _ _ _ _ _ _
     rcases Bool.eq_false_or_eq_true ((findS t ((at_ cr i).A) ((at_ cr i).B)).isSome) with b92 | b92
     ·
      refine AWP.condF rfl (nb b92) ?_
      refine AWP.skip ?_
      change AWP _ _ _ _ _ _
      have hfi := find_in (t := t) (a := (at_ cr i).A) (b := (at_ cr i).B) b92
      refine AWP.region_quiet mixed (by kernel_rfl) 10 [10] rfl (by kernel_rfl) (Mono H88) (Mono.refl _) ?_
      refine QE.op rfl rfl (.inl ⟨rfl, fun f' H' hf hM => AOp.move (w6) rfl ((hf 6 rfl).trans s65) ⟨rfl, hM⟩⟩) ?_
      refine QE.op rfl rfl (.inl ⟨rfl, fun f' H' hf hM => AOp.move (.int .i64 (optI (findS t ((at_ cr i).A) ((at_ cr i).B)))) rfl ((hf 10 rfl).trans rfl) ⟨rfl, hM⟩⟩) ?_
      refine QE.op rfl rfl (.inl ⟨rfl, fun f' H' hf hM => AOp.move (w6) rfl ((hf 6 rfl).trans s65) ⟨rfl, hM⟩⟩) ?_
      refine QE.op rfl rfl (.inl ⟨rfl, fun f' H' hf hM => AOp.move (.int .i64 (optI (findS t ((at_ cr i).A) ((at_ cr i).B)))) rfl ((hf 10 rfl).trans rfl) ⟨rfl, hM⟩⟩) ?_
      obtain ⟨i93, ver94, e95, h96, _, _⟩ := Own.pos o90 (by omega)
      refine QE.op rfl rfl (.inl ⟨rfl, fun f' H' hf hM => AOp.indexAddrO rfl (Eq.trans ((hf 48 rfl).trans rfl) e95) ((hf 49 rfl).trans rfl) sl_38 (by omega) (by omega) (hM _ _ h96) ⟨rfl, hM⟩⟩) ?_
      refine QE.op rfl rfl (.inl ⟨rfl, fun f' H' hf hM => AOp.load (.int .i64 (at_ (out) (optI (findS t ((at_ cr i).A) ((at_ cr i).B))))) rfl ((hf 50 rfl).trans rfl) ty_3 (hM _ _ h96) (ld1 (by omega) (by omega)) ⟨rfl, hM⟩⟩) ?_
      refine QE.op rfl rfl (.inl ⟨rfl, fun f' H' hf hM => AOp.fieldAddrF rfl ((hf 9 rfl).trans rfl) fl_53_2 ⟨rfl, hM⟩⟩) ?_
      refine QE.op rfl rfl (.inl ⟨rfl, fun f' H' hf hM => AOp.loadF (.int .i64 ((at_ cr i).S)) rfl ((hf 52 rfl).trans rfl) ty_3 rfl ⟨rfl, hM⟩⟩) ?_
      refine QE.op rfl rfl (.inl ⟨rfl, fun f' H' hf hM => AOp.max2 rfl ((hf 51 rfl).trans rfl) ((hf 53 rfl).trans rfl) ⟨rfl, hM⟩⟩) ?_
      obtain ⟨i97, ver98, e99, h100, _, _⟩ := Own.pos o90 (by omega)
      refine QE.op rfl rfl (.inl ⟨rfl, fun f' H' hf hM => AOp.indexAddrO rfl (Eq.trans ((hf 46 rfl).trans rfl) e99) ((hf 47 rfl).trans rfl) sl_38 (by omega) (by omega) (hM _ _ h100) ⟨rfl, hM⟩⟩) ?_
      refine QE.done fun H101 m102 => ?_
      have o103 := Own.mono o90 m102
      have m104 := m91.trans m102
      refine AOps.cons rfl rfl (AOp.store' (cells' := ((out).set (optI (findS t ((at_ cr i).A) ((at_ cr i).B))).toNat (max (at_ (out) (optI (findS t ((at_ cr i).A) ((at_ cr i).B)))) ((at_ cr i).S))).map eI) (.int .i64 (max (at_ (out) (optI (findS t ((at_ cr i).A) ((at_ cr i).B)))) ((at_ cr i).S))) rfl rfl ts_3 (Own.at_ e99 o103).1 rfl rfl (blelen (by rw [List.length_map]) (by omega)) (wr_set1 (by omega) (by omega)) ?_)
      intro H105 h106 k107
      have o108 := Own.store e99 o103 h106 (len' := (((out).set (optI (findS t ((at_ cr i).A) ((at_ cr i).B))).toNat (max (at_ (out) (optI (findS t ((at_ cr i).A) ((at_ cr i).B)))) ((at_ cr i).S)))).length) (by rw [List.length_set]) (by rw [List.length_map, Nat.mul_one, List.length_set])
      have m109 := Mono.set m104 (Own.at_ e99 o103).2.1 k107
      refine AOps.nil ?_
      change AWP _ _ _ _ _ _
      refine AWP.region (l := [0, 1]) rfl ?_
      refine AOps.cons rfl rfl (AOp.bin (.int .i64 (i + 1)) rfl s61 rfl (iadd (by omega)) ?_)
      refine AOps.cons rfl rfl (AOp.move (.int .i64 (i + 1)) rfl rfl ?_)
      refine AOps.nil ?_
      exact ⟨_, by omega, i + 1, (out.set (optI (findS t (at_ cr i).A (at_ cr i).B)).toNat (max (at_ out (optI (findS t (at_ cr i).A (at_ cr i).B))) (at_ cr i).S)), w6, rfl, rfl, s62, s63, s64, s65, o108, m109, by omega, by omega, by exact shF_step hi0 (by omega) hF b92, by rw [List.length_set]; exact hol⟩
     ·
      refine AWP.condT rfl (nb b92) ?_
      refine AWP.seq ?_
      refine AWP.region (l := [0, 1]) rfl ?_
      refine AOps.cons rfl rfl (AOp.assign (.snil) rfl rfl ?_)
      refine AOps.cons rfl rfl (AOp.assign (.int .i64 14) rfl rfl ?_)
      refine AOps.nil ?_
      change AWP _ _ _ _ _ _
      refine AWP.ret ?_
      refine Fin.frz 4 (Own.nil H0 H88 1) rfl m91 fun H110 m111 k112 => ?_
      have o113 := Own.stay o90 (Sep.nilR _) (fun i hi _ => k112 i hi)
      refine ⟨_, _, Ghost.refl, .inr rfl, _, Res.two rfl rfl rfl, ?_, m111⟩
      exact congrArg AV.tup (lc (congrArg (fun l : List Int => AV.sl l.length (l.map eI)) (show ([] : List Int) = (sharpR t cr).1 from by rw [sharp_no hi0 (by omega) hF b92])) (lc (congrArg (AV.int .i64) (show (14 : Int) = (sharpR t cr).2 from by rw [sharp_no hi0 (by omega) hF b92])) rfl))
    ·
     refine AWP.condF rfl (decide_eq_false b68) ?_
     refine AWP.exit ?_
     change AWP _ _ _ _ _ _
     refine AWP.seq ?_
     refine AWP.region (l := [0, 1, 2]) rfl ?_
     refine AOps.cons rfl rfl (AOp.move (w6) rfl s65 ?_)
     refine AOps.cons rfl rfl (AOp.assign (w6) rfl rfl ?_)
     refine AOps.cons rfl rfl (AOp.assign (.int .i64 0) rfl rfl ?_)
     refine AOps.nil ?_
     change AWP _ _ _ _ _ _
     refine AWP.ret ?_
     refine Fin.frz 4 o66 rfl m67 fun H114 m115 k116 => ?_
     refine ⟨_, _, Ghost.refl, .inr rfl, _, Res.two rfl rfl rfl, ?_, m115⟩
     exact congrArg AV.tup (lc (congrArg (fun l : List Int => AV.sl l.length (l.map eI)) (show ((out) : List Int) = (sharpR t cr).1 from by rw [sharp_ok (by omega) hF])) (lc (congrArg (AV.int .i64) (show (0 : Int) = (sharpR t cr).2 from by rw [sharp_ok (by omega) hF])) rfl))
end Go.Proofs.U
namespace Go.Proofs.U
open Go Go.AH Go.Proofs.T
set_option maxRecDepth 4000
theorem Own.plain_ {H0 H : Heap} {es len : Nat} {v : AV} {cells : List AV} (h : Own H0 H es v len cells) : v.plainB = true := by
  rcases h with ⟨h, _⟩ | ⟨id, ver, h, _⟩ <;> subst h <;> rfl
theorem fill_own {H0 H : Heap} {es len : Nat} {cs : List AV} {pl : Nat → Option (Nat × Nat)} {cells c' : List AV} {i off : Nat} {v : AV} {rest : List (Nat × AV)} {r : Option (List AV)} (ho : Own H0 H es v len cs) (hp : pl i = some (off, 1)) (hle : Nat.ble (off + 1) cells.length = true) (hw : writeL cells off [v] = c') (h : fillA pl c' rest = r) : fillA pl cells ((i, v) :: rest) = r :=
  fill_step hp (Own.plain_ ho) (by rw [Own.cells_ ho]; rfl) hle (by rw [Own.cells_ ho]; exact hw) h
theorem gld {L : List ME} {n : Nat} {x : Int} (h0 : 0 ≤ x) (h1 : x < n) : loadv false 1 (x.toNat * 1) ((gvals L n).map eA) = some (getM L x).1 := by
  have := ld1 (xs := gvals L n) (e := eA) h0 (by rw [gvals_len]; exact h1)
  rw [gvals_at h0 h1] at this; exact this
/-- Which edges are at each vertex, of the first so many. -/
def adjU (ed : List Ed) (k : Int) (x : Int) : List Int := ((List.range k.toNat).map fun (j : Nat) => (j : Int)).flatMap fun j => (if (at_ ed j).A = x then [j] else []) ++ (if (at_ ed j).B = x then [j] else [])
end Go.Proofs.U
namespace Go.Proofs.T
open Go Go.AH
set_option maxRecDepth 20000
theorem weigh_le {m : Int} : ∀ {fs : List (List Int)} {n : Int}, weighS m fs n ≤ m → n + ((sides fs).length : Int) ≤ m := by
  have key : ∀ (fs : List (List Int)) (n : Int) (k : Nat), weighS m fs n ≤ m → n + ((sidesFrom k fs).length : Int) ≤ m := by
    intro fs
    induction fs with
    | nil => intro n k h; simpa [weighS, sidesFrom] using h
    | cons l fs ih =>
      intro n k h
      unfold weighS at h
      split at h
      · have := ih _ (k + 1) h
        rw [sidesFrom, List.length_append, List.length_map, wayF_len]
        omega
      · omega
  intro fs n h
  exact key fs n 0 h
structure Small (t : Tp) : Prop where
  ed : t.ed.length ≤ 1048576
  fan : t.fan.length ≤ 1048576
  rnd : t.rnd.length ≤ 1048576
  fans : ∀ l ∈ t.fan, l.length ≤ 1048576
  ok : ∀ e ∈ t.ed, EOK e
  sorted : SortedE t.ed
theorem pw_at {l : List Ed} (h : l.Pairwise ltE) : SortedE l := by
  intro i j h0 h1 h2
  rw [List.pairwise_iff_getElem] at h
  have hi : i.toNat < l.length := by omega
  have hj : j.toNat < l.length := by omega
  have := h i.toNat j.toNat hi hj (by omega)
  simpa [at_, hi, hj] using this
/-! ### The two that are tried first -/
def F1 : List (List Int) := [[0], [0], [0]]
end Go.Proofs.T
namespace Go.Proofs.T
open Go Go.AH
def lone (c : Int) (e : Ed) : Bool := decide ((e.A = c ∨ e.B = c) ∧ min e.F e.G < 0)
def cntJ (j : Int) (l : List Ed) (c : Int) : Int := (((l.take j.toNat).filter (lone c)).length : Nat)
end Go.Proofs.T
namespace Go.Proofs.T
open Go Go.AH
def FewLaw : Prop := ∀ {n : Int} {fs : List (List Int)} (_ : okS n fs) {c : Int} (_ : 0 ≤ c) (_ : c < n), cntJ (buildT n fs).ed.length (buildT n fs).ed c = if fanR fs c = true then 0 else 2
end Go.Proofs.T
namespace Go.Proofs.T
open Go Go.AH
/-- All there is to say of a vertex's fan. -/
structure Fan (fs : List (List Int)) (n c x : Int) (K : Nat) : Prop where
  hg : goodS n fs
  x0 : 0 ≤ x
  x1 : x < fs.length
  xv : c ∈ at_ fs x
  run : Runs fs c x K
  pos : 1 ≤ K
  stop : iterS (stepS fs c) x K < 0 ∨ iterS (stepS fs c) x K = x
  cover : ∀ f : Int, 0 ≤ f → f < fs.length → c ∈ at_ fs f → ∃ i, i < K ∧ iterS (stepS fs c) x i = f
theorem fan_of {n : Int} {fs : List (List Int)} (h : okS n fs) {c : Int} (h0 : 0 ≤ c) (h1 : c < n) : mineU fs c fs.length ≠ [] ∧ Fan fs n c (headS fs c) (stopK fs c (headS fs c)) := by
  have hf := h.2.2 c h0 h1
  have hne : mineU fs c fs.length ≠ [] := fun e => by
    unfold fanOK at hf; rw [if_pos e] at hf; cases hf
  unfold fanOK fanL at hf
  rw [if_neg hne, if_neg hne, orb_len, decide_eq_true_eq] at hf
  have hx := mem_mineU.1 (head_mem hne)
  have hle := mine_le fs c fs.length
  generalize headS fs c = x at hf hx ⊢
  have hK : stopK fs c x < (List.range (fs.length + 1)).length := by simp; omega
  have hstop := ((List.findIdx_eq (p := fun k => decide (1 ≤ k ∧ (iterS (stepS fs c) x k < 0 ∨ iterS (stepS fs c) x k = x))) (xs := List.range (fs.length + 1)) (i := stopK fs c x) hK).1 rfl).1
  rw [List.getElem_range, decide_eq_true_eq] at hstop
  have hrun : Runs fs c x (stopK fs c x) := by
    intro i hi
    by_cases e : i = 0
    · subst e; exact ⟨hx.1, .inl rfl⟩
    · have := List.not_of_lt_findIdx (p := fun k => decide (1 ≤ k ∧ (iterS (stepS fs c) x k < 0 ∨ iterS (stepS fs c) x k = x))) (xs := List.range (fs.length + 1)) (i := i) hi
      simp only [List.getElem_range, decide_eq_false_iff_not] at this
      have h2 : 1 ≤ i := by omega
      refine ⟨?_, .inr fun e2 => this ⟨h2, .inr e2⟩⟩
      rcases Int.lt_or_le (iterS (stepS fs c) x i) 0 with g | g
      · exact absurd ⟨h2, .inl g⟩ this
      · exact g
  refine ⟨hne, ⟨h.2.1, hx.1, hx.2.1, hx.2.2, hrun, hstop.1, hstop.2, fun f f0 f1 fv => ?_⟩⟩
  have hnd := orb_nodup h.2.1 hx.1 hx.2.1 hx.2.2 hrun
  have hsub : orbS fs c x (stopK fs c x) ⊆ mineU fs c fs.length := by
    intro y hy
    unfold orbS at hy
    obtain ⟨i, hi, rfl⟩ := List.mem_map.1 hy
    rw [List.mem_range] at hi
    exact mem_mineU.2 (run_mem h.2.1 hx.1 hx.2.1 hx.2.2 hrun i hi)
  have hmem : f ∈ orbS fs c x (stopK fs c x) := by
    apply Classical.byContradiction
    intro hn
    have := List.Nodup.length_le_of_subset (List.nodup_cons.2 ⟨hn, hnd⟩) (l₂ := mineU fs c fs.length) (fun y hy => by
      rcases List.mem_cons.1 hy with rfl | hy
      · exact mem_mineU.2 ⟨f0, f1, fv⟩
      · exact hsub hy)
    rw [List.length_cons, orb_len] at this
    omega
  unfold orbS at hmem
  obtain ⟨i, hi, e⟩ := List.mem_map.1 hmem
  exact ⟨i, List.mem_range.1 hi, e⟩
section
variable {n c x : Int} {fs : List (List Int)} {K : Nat}
theorem Fan.mem (F : Fan fs n c x K) {i : Nat} (hi : i < K) : 0 ≤ iterS (stepS fs c) x i ∧ iterS (stepS fs c) x i < fs.length ∧ c ∈ at_ fs (iterS (stepS fs c) x i) := run_mem F.hg F.x0 F.x1 F.xv F.run i hi
/-- A face's sides at the vertex. -/
theorem side_next (hg : goodS n fs) {f : Int} (f0 : 0 ≤ f) (f1 : f < fs.length) (fv : c ∈ at_ fs f) : alongS fs c (nextS (at_ fs f) c 1) = f := along_good hg f0 f1 (way_next (good_apart hg f0 f1) fv).1
theorem side_prev (hg : goodS n fs) {f : Int} (f0 : 0 ≤ f) (f1 : f < fs.length) (fv : c ∈ at_ fs f) : alongS fs (nextS (at_ fs f) c (-1)) c = f := along_good hg f0 f1 (way_next (good_apart hg f0 f1) fv).2
theorem of_side (hg : goodS n fs) {y : Int} (h : 0 ≤ alongS fs c y) : alongS fs c y < fs.length ∧ c ∈ at_ fs (alongS fs c y) ∧ nextS (at_ fs (alongS fs c y)) c 1 = y := by
  obtain ⟨g1, g2, _⟩ := along_some h
  obtain ⟨i, k0, k1, k2, _⟩ := mem_wayF.1 g2
  refine ⟨g1, ?_, (next_way (good_apart hg h g1) g2).1⟩
  have hm := at_mem k0 k1
  rw [← k2] at hm; exact hm
theorem of_side' (hg : goodS n fs) {y : Int} (h : 0 ≤ alongS fs y c) : alongS fs y c < fs.length ∧ c ∈ at_ fs (alongS fs y c) ∧ nextS (at_ fs (alongS fs y c)) c (-1) = y := by
  obtain ⟨g1, g2, _⟩ := along_some h
  obtain ⟨i, k0, k1, _, k2⟩ := mem_wayF.1 g2
  have hr := mod_in (x := i + 1) (y := ((at_ fs (alongS fs y c)).length : Int)) (by omega)
  refine ⟨g1, ?_, (next_way (good_apart hg h g1) g2).2⟩
  have hm := at_mem hr.1 hr.2
  rw [← k2] at hm; exact hm
/-- A face that has one behind it. -/
theorem pred_of (hg : goodS n fs) {f : Int} (f0 : 0 ≤ f) (f1 : f < fs.length) (fv : c ∈ at_ fs f) (h : 0 ≤ alongS fs (nextS (at_ fs f) c 1) c) :
    stepS fs c (alongS fs (nextS (at_ fs f) c 1) c) = f := by
  obtain ⟨_, _, g3⟩ := of_side' hg h
  unfold stepS
  rw [g3]
  exact side_next hg f0 f1 fv
theorem pred_iff (hg : goodS n fs) {g : Int} (g0 : 0 ≤ g) (g1 : g < fs.length) (gv : c ∈ at_ fs g) (h : 0 ≤ stepS fs c g) : 0 ≤ alongS fs (nextS (at_ fs (stepS fs c g)) c 1) c := by
  rw [(step_mem hg g0 g1 gv h).2.2, side_prev hg g0 g1 gv]; exact g0
/-- The first face has one behind it just when the fan closes. -/
theorem Fan.closes (F : Fan fs n c x K) : 0 ≤ alongS fs (nextS (at_ fs x) c 1) c ↔ iterS (stepS fs c) x K = x := by
  constructor
  · intro h
    have h1 := pred_of F.hg F.x0 F.x1 F.xv h
    obtain ⟨g1, g2, _⟩ := of_side' F.hg h
    obtain ⟨j, hj, e⟩ := F.cover _ h g1 g2
    rw [← e] at h1
    by_cases hk : j + 1 < K
    · exact absurd (show iterS (stepS fs c) x (j + 1) = x from h1) ((F.run (j + 1) hk).2.resolve_left (by omega))
    · have : K = j + 1 := by omega
      rw [this]; exact h1
  · intro h
    have hK := F.pos
    obtain ⟨m, rfl⟩ : ∃ m, K = m + 1 := ⟨K - 1, by omega⟩
    obtain ⟨g0, g1, gv⟩ := F.mem (i := m) (by omega)
    have hs : stepS fs c (iterS (stepS fs c) x m) = x := h
    have := pred_iff F.hg g0 g1 gv (by rw [hs]; exact F.x0)
    rw [hs] at this; exact this
theorem Fan.pred (F : Fan fs n c x K) {f : Int} (f0 : 0 ≤ f) (f1 : f < fs.length) (fv : c ∈ at_ fs f) (hb : alongS fs (nextS (at_ fs f) c 1) c < 0) : f = x := by
  obtain ⟨i, hi, rfl⟩ := F.cover f f0 f1 fv
  cases i with
  | zero => rfl
  | succ i =>
    obtain ⟨g0, g1, gv⟩ := F.mem (i := i) (by omega)
    have hs : stepS fs c (iterS (stepS fs c) x i) = iterS (stepS fs c) x (i + 1) := rfl
    have := pred_iff F.hg g0 g1 gv (by rw [hs]; exact f0)
    rw [hs] at this; omega
theorem Fan.end_ (F : Fan fs n c x K) {f : Int} (f0 : 0 ≤ f) (f1 : f < fs.length) (fv : c ∈ at_ fs f) (he : stepS fs c f < 0) : f = iterS (stepS fs c) x (K - 1) ∧ iterS (stepS fs c) x K < 0 := by
  obtain ⟨i, hi, rfl⟩ := F.cover f f0 f1 fv
  have hs : stepS fs c (iterS (stepS fs c) x i) = iterS (stepS fs c) x (i + 1) := rfl
  rw [hs] at he
  by_cases hk : i + 1 < K
  · have := (F.run (i + 1) hk).1; omega
  · have : K = i + 1 := by omega
    subst this
    exact ⟨rfl, he⟩
end
theorem round_iff {n : Int} {fs : List (List Int)} (h : okS n fs) {c : Int} (h0 : 0 ≤ c) (h1 : c < n) : fanR fs c = true ↔ iterS (stepS fs c) (headS fs c) (stopK fs c (headS fs c)) = headS fs c := by
  obtain ⟨hne, F⟩ := fan_of h h0 h1
  rw [← F.closes]
  unfold fanR roundB
  rw [if_neg hne, decide_eq_true_eq]
  have hfl := first_le fs c fs.length
  have key : ∀ m : Nat, (firstN fs c m < 0 → ∀ f : Int, 0 ≤ f → f < m → c ∈ at_ fs f → 0 ≤ alongS fs (nextS (at_ fs f) c 1) c) ∧ (0 ≤ firstN fs c m → alongS fs (nextS (at_ fs (firstN fs c m)) c 1) c < 0) := by
    intro m
    induction m with
    | zero => exact ⟨fun _ f f0 f1 => by omega, fun h => by simp [firstN] at h⟩
    | succ m ih =>
      unfold firstN
      split
      · rename_i g; exact ⟨fun e => by omega, fun _ => g.2⟩
      · rename_i g
        refine ⟨fun e f f0 f1 fv => ?_, ih.2⟩
        by_cases c2 : f = m
        · subst c2
          rcases Int.lt_or_le (alongS fs (nextS (at_ fs (m : Int)) c 1) c) 0 with g2 | g2
          · exact absurd ⟨fv, g2⟩ g
          · exact g2
        · exact ih.1 e f f0 (by omega) fv
  constructor
  · intro e
    exact (key fs.length).1 e _ F.x0 F.x1 F.xv
  · intro e
    rcases Int.lt_or_le (firstN fs c fs.length) 0 with g | g
    · exact g
    · have hh : headS fs c = firstN fs c fs.length := by unfold headS; rw [if_neg (by omega)]
      have := (key fs.length).2 g
      rw [hh] at e; omega
def edgeP (fs : List (List Int)) (c y : Int) : Ed := ⟨min c y, max c y, alongS fs (min c y) (max c y), alongS fs (max c y) (min c y)⟩
theorem edgeP_FG (fs : List (List Int)) (c y : Int) : (min (edgeP fs c y).F (edgeP fs c y).G < 0 ↔ alongS fs c y < 0 ∨ alongS fs y c < 0) ∧ (0 ≤ (edgeP fs c y).F ∨ 0 ≤ (edgeP fs c y).G ↔ 0 ≤ alongS fs c y ∨ 0 ≤ alongS fs y c) := by
  unfold edgeP
  simp only
  rcases Int.le_total c y with h | h
  · rw [Int.min_eq_left h, Int.max_eq_right h]; omega
  · rw [Int.min_eq_right h, Int.max_eq_left h]; omega
theorem mem_at_c {n : Int} {fs : List (List Int)} {c : Int} (h0 : 0 ≤ c) (h1 : c < n) {e : Ed} : (e ∈ eOut fs n n ∧ lone c e = true) ↔ ∃ y : Int, 0 ≤ y ∧ y < n ∧ y ≠ c ∧ e = edgeP fs c y ∧ (0 ≤ alongS fs c y ∨ 0 ≤ alongS fs y c) ∧ (alongS fs c y < 0 ∨ alongS fs y c < 0) := by
  rw [mem_eOut]
  unfold lone
  rw [decide_eq_true_eq]
  constructor
  · rintro ⟨⟨a, b, d, hF, hG, hp⟩, hc, hm⟩
    rcases hc with hc | hc
    · have e1 : e = edgeP fs c e.B := by
        unfold edgeP; rw [Int.min_eq_left (by omega), Int.max_eq_right (by omega), ← hc, ← hF, ← hG]
      refine ⟨e.B, by omega, by omega, by omega, e1, ?_, ?_⟩
      · rw [e1] at hp; exact (edgeP_FG fs c _).2.1 hp
      · rw [e1] at hm; exact (edgeP_FG fs c _).1.1 hm
    · have e1 : e = edgeP fs c e.A := by
        unfold edgeP; rw [Int.min_eq_right (by omega), Int.max_eq_left (by omega), ← hc, ← hF, ← hG]
      refine ⟨e.A, by omega, by omega, by omega, e1, ?_, ?_⟩
      · rw [e1] at hp; exact (edgeP_FG fs c _).2.1 hp
      · rw [e1] at hm; exact (edgeP_FG fs c _).1.1 hm
  · rintro ⟨y, y0, y1, yc, rfl, hp, hm⟩
    refine ⟨⟨?_, ?_, ?_, rfl, rfl, (edgeP_FG fs c y).2.2 hp⟩, ?_, (edgeP_FG fs c y).1.2 hm⟩ <;> simp only [edgeP] <;> omega
theorem edgeP_inj {fs : List (List Int)} {c y z : Int} (h : edgeP fs c y = edgeP fs c z) : y = z := by
  have e1 := congrArg Ed.A h
  have e2 := congrArg Ed.B h
  simp only [edgeP] at e1 e2
  omega
theorem few_law : FewLaw := by
  intro n fs h c h0 h1
  obtain ⟨hne, F⟩ := fan_of h h0 h1
  have hr := round_iff h h0 h1
  rw [(build_ok h).1]
  unfold cntJ
  simp only [Int.toNat_natCast, List.take_length]
  generalize headS fs c = x at F hr
  generalize stopK fs c x = K at F hr
  have hnd : ((eOut fs n n).filter (lone c)).Nodup := by
    rw [List.nodup_iff_pairwise_ne]
    refine List.Pairwise.filter _ ?_
    refine (eOut_sorted fs n).imp ?_
    intro x y h e
    subst e; unfold ltE at h; omega
  by_cases hR : fanR fs c = true
  · rw [if_pos hR]
    have hcl := hr.1 hR
    have : (eOut fs n n).filter (lone c) = [] := by
      rw [List.filter_eq_nil_iff]
      intro e he hl
      obtain ⟨y, _, _, _, _, hp, hm⟩ := (mem_at_c h0 h1).1 ⟨he, hl⟩
      by_cases ha : 0 ≤ alongS fs c y
      · obtain ⟨g1, g2, g3⟩ := of_side F.hg ha
        have hb := F.pred ha g1 g2 (by rw [g3]; omega)
        have := F.closes.2 hcl
        rw [← hb, g3] at this; omega
      · have hb : 0 ≤ alongS fs y c := by omega
        obtain ⟨g1, g2, g3⟩ := of_side' F.hg hb
        have := (F.end_ hb g1 g2 (by unfold stepS; rw [g3]; omega)).2
        have := F.x0
        omega
    rw [this]; rfl
  · rw [if_neg hR]
    have hcl : ¬ iterS (stepS fs c) x K = x := fun e => hR (hr.2 e)
    have hbad : alongS fs (nextS (at_ fs x) c 1) c < 0 := by
      rcases Int.lt_or_le (alongS fs (nextS (at_ fs x) c 1) c) 0 with g | g
      · exact g
      · exact absurd (F.closes.1 g) hcl
    have hKn : iterS (stepS fs c) x K < 0 := F.stop.resolve_right hcl
    have hK := F.pos
    obtain ⟨l0, l1, lv⟩ := F.mem (i := K - 1) (by omega)
    have hstep : stepS fs c (iterS (stepS fs c) x (K - 1)) < 0 := by
      obtain ⟨m, rfl⟩ : ∃ m, K = m + 1 := ⟨K - 1, by omega⟩
      exact hKn
    have hxs := side_next F.hg F.x0 F.x1 F.xv
    have hls := side_prev F.hg l0 l1 lv
    have hny : nextS (at_ fs x) c 1 ≠ nextS (at_ fs (iterS (stepS fs c) x (K - 1))) c (-1) := fun e => by
      have hs2 : alongS fs c (nextS (at_ fs (iterS (stepS fs c) x (K - 1))) c (-1)) < 0 := hstep
      rw [← e, hxs] at hs2
      have := F.x0; omega
    have rng : ∀ f : Int, 0 ≤ f → f < fs.length → c ∈ at_ fs f → ∀ b, 0 ≤ nextS (at_ fs f) c b ∧ nextS (at_ fs f) c b < n := fun f f0 f1 fv b => next_in F.hg f0 f1 fv b
    have hself : ∀ y : Int, 0 ≤ alongS fs c y ∨ 0 ≤ alongS fs y c → y ≠ c := by
      intro y hy e
      subst e
      have hy' : 0 ≤ alongS fs y y := by omega
      obtain ⟨g1, g2, _⟩ := along_some hy'
      have := side_in F.hg (s := ((y, y), (alongS fs y y).toNat)) (mem_sides.2 ⟨by omega, by rw [Int.toNat_of_nonneg hy']; exact g2⟩)
      exact this.2.2.2.2.1 rfl
    have hperm : ((eOut fs n n).filter (lone c)).Perm [edgeP fs c (nextS (at_ fs x) c 1), edgeP fs c (nextS (at_ fs (iterS (stepS fs c) x (K - 1))) c (-1))] := by
      refine (List.perm_ext_iff_of_nodup hnd (by simp; exact fun e => hny (edgeP_inj e))).2 fun e => ?_
      rw [List.mem_filter, mem_at_c h0 h1]
      simp only [List.mem_cons, List.not_mem_nil, or_false]
      constructor
      · rintro ⟨y, _, _, _, rfl, hp, hm⟩
        by_cases ha : 0 ≤ alongS fs c y
        · left
          obtain ⟨g1, g2, g3⟩ := of_side F.hg ha
          have hb := F.pred ha g1 g2 (by rw [g3]; omega)
          rw [← hb, g3]
        · right
          have hb : 0 ≤ alongS fs y c := by omega
          obtain ⟨g1, g2, g3⟩ := of_side' F.hg hb
          have := (F.end_ hb g1 g2 (by unfold stepS; rw [g3]; omega)).1
          rw [← this, g3]
      · rintro (rfl | rfl)
        · have r := rng x F.x0 F.x1 F.xv 1
          have hp : 0 ≤ alongS fs c (nextS (at_ fs x) c 1) ∨ 0 ≤ alongS fs (nextS (at_ fs x) c 1) c := .inl (by rw [hxs]; exact F.x0)
          exact ⟨_, r.1, r.2, hself _ hp, rfl, hp, .inr hbad⟩
        · have r := rng _ l0 l1 lv (-1)
          have hp : 0 ≤ alongS fs c (nextS (at_ fs (iterS (stepS fs c) x (K - 1))) c (-1)) ∨ 0 ≤ alongS fs (nextS (at_ fs (iterS (stepS fs c) x (K - 1))) c (-1)) c := .inr (by rw [hls]; exact l0)
          exact ⟨_, r.1, r.2, hself _ hp, rfl, hp, .inl hstep⟩
    rw [hperm.length_eq]; rfl
end Go.Proofs.T
namespace Go.Proofs.T
open Go Go.AH
/-! ### What TopoCounts counts -/
def twoB (e : Ed) : Bool := decide (¬ min e.F e.G < 0)
def twoN (l : List Ed) (i : Int) : Int := ((l.take i.toNat).countP twoB : Nat)
theorem edged_not {t : Tp} {j : Int} (h0 : 0 ≤ j) (h1 : j < t.ed.length) (h : edgedS t j = false) : ¬ min (at_ t.ed j).F (at_ t.ed j).G < 0 := fun g => by
  unfold edgedS at h; exact of_decide_eq_false h ⟨h0, h1, g⟩
theorem two_le (l : List Ed) (i : Int) : 0 ≤ twoN l i ∧ twoN l i ≤ i.toNat := by
  unfold twoN
  have := List.countP_le_length (p := twoB) (l := l.take i.toNat)
  rw [List.length_take] at this; omega
def sumL (l : List (List Int)) : Int := ((l.map List.length).sum : Nat)
theorem sum_step {l : List (List Int)} {i : Int} (h0 : 0 ≤ i) (h1 : i < l.length) : sumL (l.take (i + 1).toNat) = sumL (l.take i.toNat) + (at_ l i).length := by
  unfold sumL; rw [take_step h0 h1]; simp
theorem sides_sum (fs : List (List Int)) : ((sides fs).length : Int) = sumL fs := by
  have key : ∀ (fs : List (List Int)) (k : Nat), (sidesFrom k fs).length = (fs.map List.length).sum := by
    intro fs
    induction fs with
    | nil => intro k; rfl
    | cons l fs ih => intro k; rw [sidesFrom, List.length_append, List.length_map, wayF_len, ih]; simp
  unfold sides sumL; rw [key]
/-! ### Edges and sides -/
def sidesE (e : Ed) : List (Int × Int) := (if 0 ≤ e.F then [(e.A, e.B)] else []) ++ if 0 ≤ e.G then [(e.B, e.A)] else []
theorem sidesE_len (l : List Ed) (h : ∀ e ∈ l, 0 ≤ e.F ∨ 0 ≤ e.G) : ((l.flatMap sidesE).length : Int) = l.length + l.countP twoB := by
  induction l with
  | nil => rfl
  | cons e l ih =>
    have h1 := ih fun x hx => h x (.tail _ hx)
    have h2 := h e (.head _)
    rw [List.flatMap_cons, List.length_append, List.countP_cons, List.length_cons]
    have h3 : (sidesE e).length = 1 + if twoB e = true then 1 else 0 := by
      unfold sidesE twoB
      by_cases a : 0 ≤ e.F <;> by_cases b : 0 ≤ e.G
      · rw [if_pos a, if_pos b, if_pos (by rw [decide_eq_true_eq]; omega)]; rfl
      · rw [if_pos a, if_neg b, if_neg (by rw [decide_eq_true_eq]; omega)]; rfl
      · rw [if_neg a, if_pos b, if_neg (by rw [decide_eq_true_eq]; omega)]; rfl
      · omega
    omega
theorem two_law {n : Int} {fs : List (List Int)} (h : okS n fs) : twoN (buildT n fs).ed (buildT n fs).ed.length = (sides fs).length - (buildT n fs).ed.length := by
  rw [(build_ok h).1]
  unfold twoN
  simp only [Int.toNat_natCast, List.take_length]
  have hm : ∀ e ∈ eOut fs n n, 0 ≤ e.F ∨ 0 ≤ e.G := fun e he => (mem_eOut.1 he).2.2.2.2.2
  have h1 := sidesE_len _ hm
  have hk : ((sides fs).map Prod.fst).Nodup := good_keys h.2.1
  have hn : ((eOut fs n n).flatMap sidesE).Nodup := by
    rw [List.nodup_iff_pairwise_ne, List.pairwise_flatMap]
    refine ⟨fun e he => ?_, ?_⟩
    · have := mem_eOut.1 he
      unfold sidesE
      by_cases a : 0 ≤ e.F <;> by_cases b : 0 ≤ e.G <;> simp only [a, b, if_true, if_false, List.append_nil, List.nil_append, List.singleton_append, List.pairwise_cons, List.mem_singleton, List.not_mem_nil, forall_eq, List.Pairwise.nil, and_true] <;> try simp
      omega
    · refine List.Pairwise.imp_of_mem ?_ (eOut_sorted fs n)
      intro x y hx hy hxy p hp q hq e
      subst e
      have hx' := mem_eOut.1 hx
      have hy' := mem_eOut.1 hy
      unfold sidesE at hp hq
      have c1 : p = (x.A, x.B) ∨ p = (x.B, x.A) := by
        rcases List.mem_append.1 hp with g | g <;> split at g <;> simp at g
        · exact .inl g
        · exact .inr g
      have c2 : p = (y.A, y.B) ∨ p = (y.B, y.A) := by
        rcases List.mem_append.1 hq with g | g <;> split at g <;> simp at g
        · exact .inl g
        · exact .inr g
      unfold ltE at hxy
      rcases c1 with rfl | rfl <;> rcases c2 with c2 | c2 <;> rw [Prod.mk.injEq] at c2 <;> omega
  have hp : ((eOut fs n n).flatMap sidesE).Perm ((sides fs).map Prod.fst) := by
    refine (List.perm_ext_iff_of_nodup hn hk).2 fun w => ?_
    rw [List.mem_flatMap, List.mem_map]
    constructor
    · rintro ⟨e, he, hw⟩
      have he' := mem_eOut.1 he
      unfold sidesE at hw
      rcases List.mem_append.1 hw with g | g <;> split at g
      · rename_i hF
        simp only [List.mem_singleton] at g
        subst g
        rw [he'.2.2.2.1] at hF
        obtain ⟨g1, g2, _⟩ := along_some hF
        exact ⟨((e.A, e.B), (alongS fs e.A e.B).toNat), mem_sides.2 ⟨by omega, by rw [Int.toNat_of_nonneg hF]; exact g2⟩, rfl⟩
      · simp at g
      · rename_i hG
        simp only [List.mem_singleton] at g
        subst g
        rw [he'.2.2.2.2.1] at hG
        obtain ⟨g1, g2, _⟩ := along_some hG
        exact ⟨((e.B, e.A), (alongS fs e.B e.A).toNat), mem_sides.2 ⟨by omega, by rw [Int.toNat_of_nonneg hG]; exact g2⟩, rfl⟩
      · simp at g
    · rintro ⟨s, hs, rfl⟩
      have g := side_in h.2.1 hs
      obtain ⟨⟨a, b⟩, f⟩ := s
      simp only at g ⊢
      rcases Int.lt_or_le a b with c | c
      · refine ⟨⟨a, b, alongS fs a b, alongS fs b a⟩, mem_eOut.2 ⟨g.1, c, g.2.2.2.1, rfl, rfl, .inl g.2.2.2.2.2⟩, ?_⟩
        unfold sidesE; simp only; rw [if_pos g.2.2.2.2.2]; simp
      · refine ⟨⟨b, a, alongS fs b a, alongS fs a b⟩, mem_eOut.2 ⟨g.2.2.1, by simp only; omega, g.2.1, rfl, rfl, .inr g.2.2.2.2.2⟩, ?_⟩
        unfold sidesE; simp only; rw [if_pos g.2.2.2.2.2]; simp
  have h2 := hp.length_eq
  rw [List.length_map] at h2
  omega
/-! ### Corners -/
theorem fan_mine {n : Int} {fs : List (List Int)} (h : okS n fs) {c : Int} (h0 : 0 ≤ c) (h1 : c < n) : (fanL fs c).length = (mineU fs c fs.length).length := by
  have hf := h.2.2 c h0 h1
  unfold fanOK at hf
  split at hf
  · cases hf
  · exact of_decide_eq_true hf
theorem Apart.nodup {l : List Int} (h : Apart l) : l.Nodup := by
  rw [List.nodup_iff_pairwise_ne, List.pairwise_iff_getElem]
  intro i j hi hj hij
  have := h j i (by omega) (by omega) (by omega)
  simpa [at_, hi, hj] using this.symm
theorem fans_len {n : Int} {fs : List (List Int)} (h : okS n fs) : ((buildT n fs).fan.length : Int) = n := by
  rw [(build_ok h).1]; have := h.1; simp [fansU]; omega
end Go.Proofs.T
namespace Go.Proofs.T
open Go Go.AH
/-! ### Faces the other way round -/
def backS (fs : List (List Int)) : List (List Int) := fs.map List.reverse
theorem back_len (fs : List (List Int)) : (backS fs).length = fs.length := by simp [backS]
theorem back_at (fs : List (List Int)) (i : Int) : at_ (backS fs) i = (at_ fs i).reverse := by
  unfold at_ backS
  rw [List.getD_eq_getElem?_getD, List.getD_eq_getElem?_getD, List.getElem?_map]
  cases fs[i.toNat]? <;> rfl
theorem back_back (fs : List (List Int)) : backS (backS fs) = fs := by
  unfold backS
  rw [List.map_map]
  conv => rhs; rw [← List.map_id fs]
  apply List.map_congr_left
  intro l _; simp
theorem rev_at {l : List Int} {i : Int} (h0 : 0 ≤ i) (h1 : i < l.length) : at_ l.reverse i = at_ l (l.length - 1 - i) := by
  have e : ((l.length : Int) - 1 - i).toNat = l.length - 1 - i.toNat := by omega
  have h : i.toNat < l.length := by omega
  have h2 : l.length - 1 - i.toNat < l.length := by omega
  unfold at_
  rw [List.getD_eq_getElem?_getD, List.getD_eq_getElem?_getD, List.getElem?_reverse h, e]
theorem succ_mod {n i : Nat} (h : i < n) : (i + 1) % n = if i + 1 < n then i + 1 else 0 := by
  split
  · exact Nat.mod_eq_of_lt (by assumption)
  · have : i + 1 = n := by omega
    rw [this, Nat.mod_self]
theorem modc (n i : Nat) : ((i : Int) + 1) % (n : Int) = (((i + 1) % n : Nat) : Int) := by rw [Int.natCast_emod]; rfl
theorem way_rev (l : List Int) : (wayF l.reverse).Perm ((wayF l).map fun w => (w.2, w.1)) := by
  unfold wayF
  rw [List.length_reverse, List.map_map]
  have hp : ((List.range l.length).map fun i => l.length - 1 - (i + 1) % l.length).Perm (List.range l.length) := by
    refine (List.perm_ext_iff_of_nodup ?_ List.nodup_range).2 fun j => ?_
    · rw [List.nodup_iff_pairwise_ne, List.pairwise_map]
      refine List.Pairwise.imp_of_mem ?_ List.pairwise_lt_range
      intro a b ha hb hab
      rw [List.mem_range] at ha hb
      rw [succ_mod ha, succ_mod hb]
      split <;> split <;> omega
    · rw [List.mem_map, List.mem_range]
      constructor
      · rintro ⟨i, hi, rfl⟩; rw [List.mem_range] at hi; omega
      · intro hj
        by_cases g : j = l.length - 1
        · refine ⟨l.length - 1, List.mem_range.2 (by omega), ?_⟩
          rw [succ_mod (by omega), if_neg (by omega)]; omega
        · refine ⟨l.length - 2 - j, List.mem_range.2 (by omega), ?_⟩
          rw [succ_mod (by omega), if_pos (by omega)]; omega
  have e : (List.range l.length).map (fun (i : Nat) => (at_ l.reverse (i : Int), at_ l.reverse (((i : Int) + 1) % (l.length : Int)))) =
      ((List.range l.length).map fun i => l.length - 1 - (i + 1) % l.length).map ((fun w : Int × Int => (w.2, w.1)) ∘ fun (i : Nat) => (at_ l (i : Int), at_ l (((i : Int) + 1) % (l.length : Int)))) := by
    rw [List.map_map]
    apply List.map_congr_left
    intro i hi
    rw [List.mem_range] at hi
    have hm : (i + 1) % l.length < l.length := Nat.mod_lt _ (by omega)
    simp only [Function.comp_apply, modc]
    rw [rev_at (by omega) (by omega), rev_at (by omega) (by omega)]
    congr 1
    · congr 1
      rw [succ_mod (i := l.length - 1 - (i + 1) % l.length) (by omega), succ_mod hi]
      split <;> split <;> omega
    · congr 1; omega
  rw [e]
  exact hp.map _
theorem side_rev (fs : List (List Int)) : ∀ k, (sidesFrom k (backS fs)).Perm ((sidesFrom k fs).map fun s => ((s.1.2, s.1.1), s.2)) := by
  induction fs with
  | nil => intro k; exact .refl _
  | cons l fs ih =>
    intro k
    show ((wayF l.reverse).map (fun w => (w, k)) ++ sidesFrom (k + 1) (backS fs)).Perm _
    rw [sidesFrom, List.map_append]
    refine List.Perm.append ?_ (ih _)
    have := (way_rev l).map fun w => (w, k)
    rw [List.map_map] at this ⊢
    exact this
theorem along_of_perm {L M : List ((Int × Int) × Nat)} {a b c d : Int} (h : (hitsL L a b).Perm (hitsL M c d)) : alongL L a b = alongL M c d := by
  have hl := h.length_eq
  rcases alongL_cases L a b with ⟨h1, h2⟩ | ⟨f, h1, h2⟩ | ⟨h1, h2⟩ <;> rcases alongL_cases M c d with ⟨g1, g2⟩ | ⟨g, g1, g2⟩ | ⟨g1, g2⟩ <;> rw [h2, g2]
  all_goals first | (exfalso; rw [h1, g1] at hl; simp at hl; done) | (exfalso; rw [h1] at hl; simp only [List.length_nil, List.length_cons] at hl; omega) | (exfalso; rw [g1] at hl; simp only [List.length_nil, List.length_cons] at hl; omega) | skip
  rw [h1, g1] at h
  have := List.singleton_perm_singleton.1 h
  rw [this]
theorem hits_rev (L : List ((Int × Int) × Nat)) (a b : Int) : hitsL (L.map fun s => ((s.1.2, s.1.1), s.2)) a b = hitsL L b a := by
  unfold hitsL
  induction L with
  | nil => rfl
  | cons s L ih =>
    obtain ⟨⟨x, y⟩, f⟩ := s
    rw [List.map_cons, List.filter_cons, List.filter_cons]
    by_cases g : x = b ∧ y = a
    · obtain ⟨rfl, rfl⟩ := g; simp only [decide_true, if_true, List.map_cons]; rw [ih]
    · rw [if_neg (by simp; omega), if_neg (by simp; omega), ih]
theorem along_back (fs : List (List Int)) (a b : Int) : alongS (backS fs) a b = alongS fs b a := by
  unfold alongS
  apply along_of_perm
  have h : (sides (backS fs)).Perm ((sides fs).map fun s => ((s.1.2, s.1.1), s.2)) := side_rev fs 0
  rw [← hits_rev (sides fs) a b]
  unfold hitsL
  exact (h.filter _).map _
theorem sides_back_len (fs : List (List Int)) : (sides (backS fs)).length = (sides fs).length := by
  have := (side_rev fs 0).length_eq
  rw [List.length_map] at this
  exact this
theorem nodup_rev {l : List Int} (h : l.Nodup) : l.reverse.Nodup := (List.reverse_perm l).nodup_iff.2 h
theorem apart_of {l : List Int} (h : l.Nodup) : Apart l := by
  intro i k h0 h1 h2 e
  rw [List.nodup_iff_pairwise_ne, List.pairwise_iff_getElem] at h
  have hi : i.toNat < l.length := by omega
  have hk : k.toNat < l.length := by omega
  exact h k.toNat i.toNat hk hi (by omega) (by simpa [at_, hi, hk] using e.symm)
theorem rev_way {l : List Int} {a b : Int} : (a, b) ∈ wayF l.reverse ↔ (b, a) ∈ wayF l := by
  rw [(way_rev l).mem_iff, List.mem_map]
  constructor
  · rintro ⟨⟨x, y⟩, h, e⟩; cases e; exact h
  · intro h; exact ⟨_, h, rfl⟩
theorem good_back {n : Int} {fs : List (List Int)} (hg : goodS n fs) : goodS n (backS fs) := by
  intro f f0 f1
  rw [back_len] at f1
  have h := hg f f0 f1
  rw [back_at]
  refine ⟨by rw [List.length_reverse]; exact h.1, fun i i0 i1 => ?_, apart_of (nodup_rev (Apart.nodup h.2.2.1)), fun i i0 i1 => ?_⟩
  · exact good_nn hg f0 f1 _ (List.mem_reverse.1 (at_mem i0 i1))
  · rw [along_back]
    have hw := rev_way.1 (mem_wayF.2 ⟨i, i0, i1, rfl, rfl⟩)
    rw [along_good hg f0 f1 hw]; exact f0
theorem mine_back (fs : List (List Int)) (c : Int) (i : Int) : mineU (backS fs) c i = mineU fs c i := by
  unfold mineU
  congr 1
  funext k
  have h : c ∈ at_ (backS fs) (k : Int) ↔ c ∈ at_ fs (k : Int) := by rw [back_at, List.mem_reverse]
  by_cases g : c ∈ at_ fs (k : Int)
  · rw [if_pos g, if_pos (h.2 g)]
  · rw [if_neg g, if_neg (fun e => g (h.1 e))]
theorem next_back {n c : Int} {fs : List (List Int)} (hg : goodS n fs) {f : Int} (f0 : 0 ≤ f) (f1 : f < fs.length) (fv : c ∈ at_ fs f) :
    nextS (at_ (backS fs) f) c 1 = nextS (at_ fs f) c (-1) ∧ nextS (at_ (backS fs) f) c (-1) = nextS (at_ fs f) c 1 := by
  have ha := good_apart hg f0 f1
  have hw := way_next ha fv
  rw [back_at]
  have hr : Apart (at_ fs f).reverse := apart_of (nodup_rev (Apart.nodup ha))
  exact ⟨(next_way hr (rev_way.2 hw.2)).1, (next_way hr (rev_way.2 hw.1)).2⟩
theorem step_back {n c : Int} {fs : List (List Int)} (hg : goodS n fs) {f : Int} (f0 : 0 ≤ f) (f1 : f < fs.length) (fv : c ∈ at_ fs f) : stepS (backS fs) c f = alongS fs (nextS (at_ fs f) c 1) c := by
  unfold stepS; rw [(next_back hg f0 f1 fv).2, along_back]
theorem first_key (fs : List (List Int)) (c : Int) (m : Nat) : (firstN fs c m < 0 → ∀ f : Int, 0 ≤ f → f < m → c ∈ at_ fs f → 0 ≤ alongS fs (nextS (at_ fs f) c 1) c) ∧ (0 ≤ firstN fs c m → alongS fs (nextS (at_ fs (firstN fs c m)) c 1) c < 0) := by
  induction m with
  | zero => exact ⟨fun _ f f0 f1 => by omega, fun h => by simp [firstN] at h⟩
  | succ m ih =>
    unfold firstN
    split
    · rename_i g; exact ⟨fun e => by omega, fun _ => g.2⟩
    · rename_i g
      refine ⟨fun e f f0 f1 fv => ?_, ih.2⟩
      by_cases c2 : f = m
      · subst c2
        rcases Int.lt_or_le (alongS fs (nextS (at_ fs (m : Int)) c 1) c) 0 with g2 | g2
        · exact absurd ⟨fv, g2⟩ g
        · exact g2
      · exact ih.1 e f f0 (by omega) fv
theorem mine_nodup (fs : List (List Int)) (c : Int) (i : Int) : (mineU fs c i).Nodup := by
  unfold mineU
  rw [List.nodup_iff_pairwise_ne, List.pairwise_flatMap]
  refine ⟨fun k _ => by split <;> simp, List.Pairwise.imp ?_ List.pairwise_lt_range⟩
  intro a b hab x hx y hy e
  subst e
  split at hx <;> split at hy <;> simp at hx hy
  omega
/-- A fan that is all of a vertex's faces is right. -/
theorem Fan.ok {n c : Int} {fs : List (List Int)} {K : Nat} (F : Fan fs n c (headS fs c) K) : K = stopK fs c (headS fs c) ∧ fanOK fs c = true := by
  have h1 := run_le F.hg F.x0 F.x1 F.xv F.run
  have h2 := mine_le fs c fs.length
  have hK := stop_of (by omega) F.run ⟨F.pos, F.stop⟩
  refine ⟨hK, ?_⟩
  have hne : mineU fs c fs.length ≠ [] := fun e => by
    have := F.pos
    rw [e] at h1; simp at h1; omega
  unfold fanOK fanL
  rw [if_neg hne, if_neg hne, ← hK, orb_len, decide_eq_true_eq]
  have h3 : mineU fs c fs.length ⊆ orbS fs c (headS fs c) K := by
    intro f hf
    obtain ⟨f0, f1, fv⟩ := mem_mineU.1 hf
    obtain ⟨i, hi, e⟩ := F.cover f f0 f1 fv
    unfold orbS
    exact List.mem_map.2 ⟨i, List.mem_range.2 hi, e⟩
  have := List.Nodup.length_le_of_subset (mine_nodup fs c fs.length) h3
  rw [orb_len] at this
  omega
section
variable {n c x : Int} {fs : List (List Int)} {K : Nat}
theorem Fan.step_ (F : Fan fs n c x K) {i : Nat} (hi : i + 1 < K) : stepS (backS fs) c (iterS (stepS fs c) x (i + 1)) = iterS (stepS fs c) x i := by
  obtain ⟨g0, g1, gv⟩ := F.mem (i := i) (by omega)
  obtain ⟨k0, k1, kv⟩ := F.mem (i := i + 1) hi
  rw [step_back F.hg k0 k1 kv]
  have hs : stepS fs c (iterS (stepS fs c) x i) = iterS (stepS fs c) x (i + 1) := rfl
  have h3 := (step_mem F.hg g0 g1 gv (by rw [hs]; exact k0)).2.2
  rw [hs] at h3
  rw [h3]
  exact side_prev F.hg g0 g1 gv
theorem Fan.step0 (F : Fan fs n c x K) (h : iterS (stepS fs c) x K = x) : stepS (backS fs) c x = iterS (stepS fs c) x (K - 1) := by
  have hK := F.pos
  obtain ⟨g0, g1, gv⟩ := F.mem (i := K - 1) (by omega)
  rw [step_back F.hg F.x0 F.x1 F.xv]
  have hs : stepS fs c (iterS (stepS fs c) x (K - 1)) = x := by
    have : iterS (stepS fs c) x (K - 1 + 1) = x := by rw [show K - 1 + 1 = K by omega]; exact h
    exact this
  have h3 := (step_mem F.hg g0 g1 gv (by rw [hs]; exact F.x0)).2.2
  rw [hs] at h3
  rw [h3]
  exact side_prev F.hg g0 g1 gv
theorem Fan.inj (F : Fan fs n c x K) {i j : Nat} (hi : i < K) (hj : j < K) (e : iterS (stepS fs c) x i = iterS (stepS fs c) x j) : i = j := by
  have h := run_inj F.hg F.x0 F.x1 F.xv F.run
  rcases Nat.lt_trichotomy i j with g | g | g
  · exact absurd e (h i j g hj)
  · exact g
  · exact absurd e.symm (h j i g hi)
end
theorem turn_fan {n : Int} {fs : List (List Int)} (h : okS n fs) {c : Int} (h0 : 0 ≤ c) (h1 : c < n) : fanOK (backS fs) c = true ∧ fanR (backS fs) c = fanR fs c := by
  obtain ⟨hne, F⟩ := fan_of h h0 h1
  have hr := round_iff h h0 h1
  have hgb := good_back h.2.1
  have hneb : mineU (backS fs) c (backS fs).length ≠ [] := by rw [back_len, mine_back]; exact hne
  have hy := mem_mineU.1 (head_mem hneb)
  rw [back_len, back_at, List.mem_reverse] at hy
  have hkey := first_key (backS fs) c (backS fs).length
  have hhead : headS (backS fs) c = if firstN (backS fs) c (backS fs).length < 0 then at_ (mineU (backS fs) c (backS fs).length) 0 else firstN (backS fs) c (backS fs).length := rfl
  have hfl := first_le (backS fs) c (backS fs).length
  have hfanR : fanR (backS fs) c = decide (firstN (backS fs) c (backS fs).length < 0) := by unfold fanR roundB; rw [if_neg hneb]
  generalize hz : headS (backS fs) c = y at *
  generalize headS fs c = x at F hr
  generalize stopK fs c x = K at F hr
  rw [back_len] at hkey hhead hfl hfanR
  have hK := F.pos
  by_cases hcl : iterS (stepS fs c) x K = x
  · obtain ⟨m, hm, e⟩ := F.cover y hy.1 hy.2.1 hy.2.2
    have hit : ∀ j, j ≤ K → iterS (stepS (backS fs) c) y j = iterS (stepS fs c) x ((m + K - j) % K) := by
      intro j
      induction j with
      | zero => intro _; rw [show m + K - 0 = m + K by omega, Nat.add_mod_right, Nat.mod_eq_of_lt hm, e]; rfl
      | succ j ih =>
        intro hj
        have hi := ih (by omega)
        show stepS (backS fs) c (iterS (stepS (backS fs) c) y j) = _
        rw [hi]
        by_cases g : (m + K - j) % K = 0
        · rw [g]
          have g2 : (m + K - (j + 1)) % K = K - 1 := by
            by_cases g3 : m + K - j < K
            · rw [Nat.mod_eq_of_lt g3] at g; omega
            · have g4 : (m + K - j) % K = m - j := by rw [show m + K - j = (m - j) + K by omega, Nat.add_mod_right, Nat.mod_eq_of_lt (by omega)]
              rw [Nat.mod_eq_of_lt (by omega)]; omega
          rw [g2]; exact F.step0 hcl
        · have hlt := Nat.mod_lt (m + K - j) (show 0 < K by omega)
          have g2 : (m + K - (j + 1)) % K + 1 = (m + K - j) % K := by
            by_cases g3 : m + K - j < K
            · rw [Nat.mod_eq_of_lt g3] at g ⊢; rw [Nat.mod_eq_of_lt (by omega)]; omega
            · have g4 : (m + K - j) % K = m - j := by rw [show m + K - j = (m - j) + K by omega, Nat.add_mod_right, Nat.mod_eq_of_lt (by omega)]
              have g5 : (m + K - (j + 1)) % K = m - (j + 1) := by rw [show m + K - (j + 1) = (m - (j + 1)) + K by omega, Nat.add_mod_right, Nat.mod_eq_of_lt (by omega)]
              rw [g4] at g ⊢; rw [g5]; omega
          rw [← g2]
          exact F.step_ (by omega)
    have hmodne : ∀ j, 0 < j → j < K → (m + K - j) % K ≠ m := by
      intro j j0 j1
      by_cases g3 : m + K - j < K
      · rw [Nat.mod_eq_of_lt g3]; omega
      · rw [show m + K - j = (m - j) + K by omega, Nat.add_mod_right, Nat.mod_eq_of_lt (by omega)]; omega
    have F' : Fan (backS fs) n c y K := by
      refine ⟨hgb, hy.1, by rw [back_len]; exact hy.2.1, by rw [back_at]; exact List.mem_reverse.2 hy.2.2, fun j hj => ?_, hK, .inr ?_, fun f f0 f1 fv => ?_⟩
      · rw [hit j (by omega)]
        have hlt := Nat.mod_lt (m + K - j) (show 0 < K by omega)
        refine ⟨(F.mem hlt).1, ?_⟩
        by_cases g : j = 0
        · exact .inl g
        · right
          rw [← e]
          intro e2
          exact hmodne j (by omega) hj (F.inj hlt hm e2)
      · rw [hit K (by omega), show m + K - K = m by omega, Nat.mod_eq_of_lt hm]; exact e
      · rw [back_len] at f1
        rw [back_at] at fv
        obtain ⟨i, hi, ei⟩ := F.cover f f0 f1 (List.mem_reverse.1 fv)
        have hlt := Nat.mod_lt (m + K - i) (show 0 < K by omega)
        refine ⟨(m + K - i) % K, hlt, ?_⟩
        rw [hit _ (by omega), ← ei]
        congr 1
        by_cases g3 : m + K - i < K
        · rw [Nat.mod_eq_of_lt g3, show m + K - (m + K - i) = i by omega, Nat.mod_eq_of_lt hi]
        · have g4 : (m + K - i) % K = m - i := by rw [show m + K - i = (m - i) + K by omega, Nat.add_mod_right, Nat.mod_eq_of_lt (by omega)]
          rw [g4, show m + K - (m - i) = i + K by omega, Nat.add_mod_right, Nat.mod_eq_of_lt hi]
    have F2 := F'
    rw [← hz] at F2
    refine ⟨F2.ok.2, ?_⟩
    rw [hr.2 hcl, hfanR, decide_eq_true_eq]
    rcases Int.lt_or_le (firstN (backS fs) c fs.length) 0 with g | g
    · exact g
    · have h2 := hkey.2 g
      have h3 := hfl.2.2 g
      rw [back_at, List.mem_reverse] at h3
      rw [along_back, (next_back h.2.1 g hfl.2.1 h3).1] at h2
      have h4 := (F.end_ g hfl.2.1 h3 h2).2
      have h5 := F.x0
      rw [hcl] at h4
      omega
  · have hKn : iterS (stepS fs c) x K < 0 := F.stop.resolve_right hcl
    have hbad : alongS fs (nextS (at_ fs x) c 1) c < 0 := by
      rcases Int.lt_or_le (alongS fs (nextS (at_ fs x) c 1) c) 0 with g | g
      · exact g
      · exact absurd (F.closes.1 g) hcl
    obtain ⟨l0, l1, lv⟩ := F.mem (i := K - 1) (by omega)
    have hstep : stepS fs c (iterS (stepS fs c) x (K - 1)) < 0 := by
      obtain ⟨m, rfl⟩ : ∃ m, K = m + 1 := ⟨K - 1, by omega⟩
      exact hKn
    have hfn : 0 ≤ firstN (backS fs) c fs.length := by
      rcases Int.lt_or_le (firstN (backS fs) c fs.length) 0 with g | g
      · have h2 := hkey.1 g _ l0 l1 (by rw [back_at]; exact List.mem_reverse.2 lv)
        rw [along_back, (next_back h.2.1 l0 l1 lv).1] at h2
        exact absurd hstep (Int.not_lt.2 h2)
      · exact g
    have hye : y = iterS (stepS fs c) x (K - 1) := by
      rw [if_neg (by omega)] at hhead
      have h2 := hkey.2 hfn
      rw [← hhead, back_at] at h2
      rw [← back_at, along_back, (next_back h.2.1 hy.1 hy.2.1 hy.2.2).1] at h2
      exact (F.end_ hy.1 hy.2.1 hy.2.2 h2).1
    have hit : ∀ j, j < K → iterS (stepS (backS fs) c) y j = iterS (stepS fs c) x (K - 1 - j) := by
      intro j
      induction j with
      | zero => intro _; exact hye
      | succ j ih =>
        intro hj
        show stepS (backS fs) c (iterS (stepS (backS fs) c) y j) = _
        rw [ih (by omega), show K - 1 - j = (K - 1 - (j + 1)) + 1 by omega]
        exact F.step_ (by omega)
    have F' : Fan (backS fs) n c y K := by
      refine ⟨hgb, hy.1, by rw [back_len]; exact hy.2.1, by rw [back_at]; exact List.mem_reverse.2 hy.2.2, fun j hj => ?_, hK, .inl ?_, fun f f0 f1 fv => ?_⟩
      · rw [hit j hj]
        refine ⟨(F.mem (by omega)).1, ?_⟩
        by_cases g : j = 0
        · exact .inl g
        · right
          rw [hye]
          intro e2
          have := F.inj (by omega) (by omega) e2
          omega
      · obtain ⟨m, rfl⟩ : ∃ m, K = m + 1 := ⟨K - 1, by omega⟩
        show stepS (backS fs) c (iterS (stepS (backS fs) c) y m) < 0
        rw [hit m (by omega), show m + 1 - 1 - m = 0 by omega]
        show stepS (backS fs) c x < 0
        rw [step_back F.hg F.x0 F.x1 F.xv]; exact hbad
      · rw [back_len] at f1
        rw [back_at] at fv
        obtain ⟨i, hi, ei⟩ := F.cover f f0 f1 (List.mem_reverse.1 fv)
        refine ⟨K - 1 - i, by omega, ?_⟩
        rw [hit _ (by omega), ← ei]
        congr 1; omega
    have F2 := F'
    rw [← hz] at F2
    refine ⟨F2.ok.2, ?_⟩
    have hn : ¬ fanR fs c = true := fun g => hcl (hr.1 g)
    rw [hfanR]
    rw [Bool.not_eq_true] at hn
    rw [hn, decide_eq_false_iff_not]
    omega
theorem ok_back {n : Int} {fs : List (List Int)} (h : okS n fs) : okS n (backS fs) := ⟨h.1, good_back h.2.1, fun _ h0 h1 => (turn_fan h h0 h1).1⟩
theorem ok_back_iff {n : Int} {fs : List (List Int)} : okS n (backS fs) ↔ okS n fs := ⟨fun h => by have := ok_back h; rw [back_back] at this; exact this, ok_back⟩
def turnE (e : Ed) : Ed := ⟨e.A, e.B, e.G, e.F⟩
theorem eOut_back (fs : List (List Int)) (n a : Int) : eOut (backS fs) n a = (eOut fs n a).map turnE := by
  unfold eOut
  rw [List.map_flatMap]
  congr 1
  funext j
  unfold eIn
  rw [List.map_flatMap]
  congr 1
  funext k
  by_cases g : (j : Int) < k
  · rw [if_pos g, if_pos g]
    unfold eAt
    rw [along_back, along_back]
    by_cases g2 : 0 ≤ alongS fs j k ∨ 0 ≤ alongS fs k j
    · rw [if_pos g2, if_pos (by omega)]; rfl
    · rw [if_neg g2, if_neg (by omega)]; rfl
  · rw [if_neg g, if_neg g]; rfl
theorem turn_law (n : Int) (fs : List (List Int)) : buildE n (backS fs) = buildE n fs ∧ (buildT n (backS fs)).ed = (buildT n fs).ed.map turnE ∧ (buildT n (backS fs)).rnd = (buildT n fs).rnd := by
  by_cases h : okS n fs
  · have hb := ok_back h
    rw [(build_ok h).1, (build_ok h).2, (build_ok hb).1, (build_ok hb).2]
    refine ⟨rfl, eOut_back fs n n, ?_⟩
    unfold rndU
    apply List.map_congr_left
    intro k hk
    rw [List.mem_range] at hk
    have := h.1
    exact (turn_fan h (by omega) (by omega)).2
  · have hb : ¬ okS n (backS fs) := fun g => h (ok_back_iff.1 g)
    rw [(build_no h).1, (build_no h).2, (build_no hb).1, (build_no hb).2]
    exact ⟨rfl, rfl, rfl⟩
theorem turn_at {n : Int} {fs : List (List Int)} {i : Int} (h0 : 0 ≤ i) (h1 : i < (buildT n fs).ed.length) : at_ (buildT n (backS fs)).ed i = turnE (at_ (buildT n fs).ed i) := by
  rw [(turn_law n fs).2.1]
  have h : i.toNat < (buildT n fs).ed.length := by omega
  simp [at_, h]
end Go.Proofs.T
namespace Go.Proofs.T
open Go Go.AH
theorem SepM.put_ {L : List ME} {x : Int} {w v : AV} {xs : List Int} (h : SepM (restM L x) v) (hw : Sep w v) : SepM (putM L x w xs) v := fun e he => by
  rcases mem_putM he with rfl | ⟨h1, h2⟩
  · exact hw
  · exact h e (List.mem_filter.2 ⟨h1, by simpa using h2⟩)
end Go.Proofs.T
namespace Go.Proofs.U
open Go Go.AH Go.Proofs.T
set_option maxRecDepth 4000
def adjM (ed : List Ed) (k : Int) (x : Int) : List Int := adjU ed k x ++ if (at_ ed k).A = x then [k] else []
theorem adj_next {ed : List Ed} {k : Int} (h : 0 ≤ k) (x : Int) : adjU ed (k + 1) x = adjM ed k x ++ if (at_ ed k).B = x then [k] else [] := by
  have e : (k + 1).toNat = k.toNat + 1 := by omega
  have e2 : ((k.toNat : Nat) : Int) = k := by omega
  unfold adjM adjU
  rw [e, List.range_succ, List.map_append, List.flatMap_append]
  simp only [List.map_cons, List.map_nil, List.flatMap_cons, List.flatMap_nil, List.append_nil, e2, List.append_assoc]
theorem adj_A {ed : List Ed} {k : Int} {L : List ME} {w : AV} {xs : List Int} (h : ∀ x, (getM L x).2 = adjU ed k x) (hx : xs = (getM L (at_ ed k).A).2 ++ [k]) : ∀ x, (getM (putM L (at_ ed k).A w xs) x).2 = adjM ed k x := fun x => by
  rw [getM_put]; unfold adjM
  by_cases e : x = (at_ ed k).A
  · subst e; rw [if_pos rfl, if_pos rfl, hx, h]
  · rw [if_neg e, if_neg (fun g => e g.symm), List.append_nil, h]
theorem adj_B {ed : List Ed} {k : Int} {L : List ME} {w : AV} {xs : List Int} (h0 : 0 ≤ k) (h : ∀ x, (getM L x).2 = adjM ed k x) (hx : xs = (getM L (at_ ed k).B).2 ++ [k]) : ∀ x, (getM (putM L (at_ ed k).B w xs) x).2 = adjU ed (k + 1) x := fun x => by
  rw [getM_put, adj_next h0]
  by_cases e : x = (at_ ed k).B
  · subst e; rw [if_pos rfl, if_pos rfl, hx, h]
  · rw [if_neg e, if_neg (fun g => e g.symm), List.append_nil, h]
theorem adj_len (ed : List Ed) (k x : Int) : (adjU ed k x).length ≤ 2 * k.toNat := by
  unfold adjU
  induction k.toNat with
  | zero => simp
  | succ m ih =>
    rw [List.range_succ, List.map_append, List.flatMap_append, List.length_append]
    have : ((([m] : List Nat).map fun (j : Nat) => (j : Int)).flatMap fun j => (if (at_ ed j).A = x then [j] else []) ++ (if (at_ ed j).B = x then [j] else [])).length ≤ 2 := by
      simp only [List.map_cons, List.map_nil, List.flatMap_cons, List.flatMap_nil, List.append_nil, List.length_append]
      split <;> split <;> simp
    omega
theorem adjM_len (ed : List Ed) {k : Int} (h : 0 ≤ k) (x : Int) : (adjM ed k x).length ≤ 2 * k.toNat + 1 := by
  unfold adjM; rw [List.length_append]
  have := adj_len ed k x
  split <;> simp <;> omega
theorem adj_mem {ed : List Ed} {k x e : Int} (h : e ∈ adjU ed k x) : (0 ≤ e ∧ e < k) ∧ (x = (at_ ed e).A ∨ x = (at_ ed e).B) := by
  unfold adjU at h
  obtain ⟨j, hj, hm⟩ := List.mem_flatMap.1 h
  obtain ⟨m, hm2, rfl⟩ := List.mem_map.1 hj
  rw [List.mem_range] at hm2
  rcases List.mem_append.1 hm with g | g
  · split at g
    · rename_i q; simp only [List.mem_singleton] at g; subst g; exact ⟨by omega, .inl q.symm⟩
    · cases g
  · split at g
    · rename_i q; simp only [List.mem_singleton] at g; subst g; exact ⟨by omega, .inr q.symm⟩
    · cases g
def egR (ed : List Ed) (n : Nat) : List (List Int) := (List.range n).map fun (x : Nat) => adjU ed ed.length (x : Int)
theorem egR_len (ed : List Ed) (n : Nat) : (egR ed n).length = n := by simp [egR]
theorem egR_at {ed : List Ed} {n : Nat} {x : Int} (h0 : 0 ≤ x) (h1 : x < n) : at_ (egR ed n) x = adjU ed ed.length x := by
  have h : x.toNat < n := by omega
  have e : ((x.toNat : Nat) : Int) = x := by omega
  simp [at_, egR, h, e]
theorem gF_eg {ed : List Ed} {L : List ME} {k : Int} {n : Nat} (h : ∀ x, (getM L x).2 = adjU ed k x) (hk : k = ed.length) : gF L n = egR ed n := by
  subst hk; unfold gF egR; exact List.map_congr_left fun j _ => h _
/-! ### What Level comes to -/
def U_ {α : Type} (f : Int → α) (k : Int) : List α := (List.range k.toNat).map fun (j : Nat) => f (j : Int)
theorem U_step {α : Type} {f : Int → α} {k : Int} (h : 0 ≤ k) : U_ f k ++ [f k] = U_ f (k + 1) := by
  have e : (k + 1).toNat = k.toNat + 1 := by omega
  have e2 : ((k.toNat : Nat) : Int) = k := by omega
  unfold U_; rw [e, List.range_succ, List.map_append, List.map_singleton, e2]
theorem U_len {α : Type} (f : Int → α) (k : Int) : (U_ f k).length = k.toNat := by simp [U_]
theorem U_at {α : Type} [Inhabited α] {f : Int → α} {k i : Int} (h0 : 0 ≤ i) (h1 : i < k) : at_ (U_ f k) i = f i := by
  have h : i.toNat < k.toNat := by omega
  have e : ((i.toNat : Nat) : Int) = i := by omega
  simp [at_, U_, h, e]
def F_ {α : Type} (f : Int → List α) (k : Int) : List α := (U_ f k).flatten
theorem F_step {α : Type} {f : Int → List α} {k : Int} (h : 0 ≤ k) : F_ f k ++ f k = F_ f (k + 1) := by
  unfold F_; rw [← U_step h, List.flatten_append]; simp
theorem mem_U {α : Type} {f : Int → α} {k : Int} {x : α} (h : x ∈ U_ f k) : ∃ j : Int, 0 ≤ j ∧ j < k ∧ x = f j := by
  obtain ⟨j, hj, rfl⟩ := List.mem_map.1 h
  rw [List.mem_range] at hj
  exact ⟨j, by omega, by omega, rfl⟩
def fcR (vs : List VT) (fs : List (List Int)) (k : Int) : List VT := U_ (fun f => faceP vs (at_ fs f)) k
def v1R (vs fc : List VT) (t : Tp) (sh : List Int) (k : Int) : List VT := U_ (fun v => vertP vs fc t.ed sh (at_ t.fan v) (at_ (egR t.ed vs.length) v) v) k
def v2R (vs fc : List VT) (t : Tp) (sh : List Int) (k : Int) : List VT := U_ (fun i => edgeP vs fc (at_ t.ed i) (at_ sh i)) k
def crR (n : Int) (t : Tp) (sh : List Int) (k : Int) : List CrT := F_ (fun i => creaseP n t sh i) k
def faR (n : Int) (t : Tp) (fs : List (List Int)) (k : Int) : List (List Int) := F_ (fun f => partsU n t f (at_ fs f) (at_ fs f).length) k
def farV (v : VT) : Bool := decide (¬ inV 65536 v)
noncomputable def levelR (vs : List VT) (fs : List (List Int)) (cr : List CrT) : CageT × Int :=
  if buildE vs.length fs ≠ 0 then (⟨[], [], []⟩, buildE vs.length fs)
  else if (sharpR (buildT vs.length fs) cr).2 ≠ 0 then (⟨[], [], []⟩, (sharpR (buildT vs.length fs) cr).2)
  else if vs.any farV then (⟨[], [], []⟩, 21)
  else (⟨v1R vs (fcR vs fs fs.length) (buildT vs.length fs) (sharpR (buildT vs.length fs) cr).1 vs.length ++ v2R vs (fcR vs fs fs.length) (buildT vs.length fs) (sharpR (buildT vs.length fs) cr).1 (buildT vs.length fs).ed.length ++ fcR vs fs fs.length,
    faR vs.length (buildT vs.length fs) fs fs.length, crR vs.length (buildT vs.length fs) (sharpR (buildT vs.length fs) cr).1 (buildT vs.length fs).ed.length⟩, 0)
end Go.Proofs.U
namespace Go.Proofs.U
open Go Go.AH Go.Proofs.T
theorem within_of {m : Int} {v : VT} (h : min (min v.X v.Y) v.Z ≥ -m) (g : max (max v.X v.Y) v.Z ≤ m) : inV m v := by unfold inV; omega
theorem not_within {m : Int} {v : VT} (h : ¬ (min (min v.X v.Y) v.Z ≥ -m ∧ max (max v.X v.Y) v.Z ≤ m)) : ¬ inV m v := by unfold inV; omega
def idxV (l : List VT) : Int := match l.findIdx? farV with | some k => k | none => -1
theorem idxV_hit {l : List VT} {i : Int} (h0 : 0 ≤ i) (h1 : i < l.length) (hp : ∀ j : Int, 0 ≤ j → j < i → farV (at_ l j) = false) (h : farV (at_ l i) = true) : i = idxV l := by
  have hl : i.toNat < l.length := by omega
  have e : l.findIdx? farV = some i.toNat := by
    rw [List.findIdx?_eq_some_iff_getElem]
    refine ⟨hl, ?_, fun j hj => ?_⟩
    · have : at_ l i = l[i.toNat] := by simp [at_, hl]
      rw [← this]; exact h
    · have := hp j (by omega) (by omega)
      have hj' : j < l.length := by omega
      have e2 : at_ l (j : Int) = l[j] := by simp [at_, hj']
      rw [e2] at this; simp [this]
  unfold idxV; rw [e]; simp only; omega
theorem idxV_none {l : List VT} {i : Int} (h1 : (l.length : Int) ≤ i) (hp : ∀ j : Int, 0 ≤ j → j < i → farV (at_ l j) = false) : (-1 : Int) = idxV l := by
  have e : l.findIdx? farV = none := by
    rw [List.findIdx?_eq_none_iff]
    intro x hx
    obtain ⟨k, h2, h3⟩ := List.getElem_of_mem hx
    have := hp k (by omega) (by omega)
    have e2 : at_ l (k : Int) = l[k] := by simp [at_, h2]
    rw [e2, h3] at this; exact this
  unfold idxV; rw [e]
theorem idxV_any (l : List VT) : decide (idxV l ≥ 0) = l.any farV := by
  unfold idxV
  cases h : l.findIdx? farV with
  | none =>
    rw [List.findIdx?_eq_none_iff] at h
    have : l.any farV = false := by rw [List.any_eq_false]; intro x hx; rw [h x hx]; decide
    rw [this]; rfl
  | some k =>
    rw [List.findIdx?_eq_some_iff_getElem] at h
    obtain ⟨h1, h2, _⟩ := h
    have : l.any farV = true := List.any_eq_true.2 ⟨_, List.getElem_mem h1, h2⟩
    rw [this, decide_eq_true_eq]; simp only; omega
theorem any_in {l : List VT} (h : l.any farV = false) : ∀ v ∈ l, inV 65536 v := fun v hv => by
  rw [List.any_eq_false] at h
  have := h v hv
  simpa [farV] using this
end Go.Proofs.U
namespace Go.Proofs.U
open Go Go.AH Go.Proofs.T
set_option maxRecDepth 4000
set_option linter.unusedSimpArgs false
set_option linter.unusedVariables false
theorem c_vWithin (v : VT) (m : Int) (hm : -9223372036854775807 ≤ m ∧ m ≤ 9223372036854775807) : PC Try.prog 21 [.agg [.int .i64 v.X, .int .i64 v.Y, .int .i64 v.Z], .int .i64 m] (.bool (decide (inV m v))) := by
 intro H0
 refine ACalls.of_body' (n := 26) rfl rfl rfl rfl ?_
 have m0 := Mono.refl H0
 refine AWP.seq ?_
 refine AWP.region (l := [0, 1]) rfl ?_
 refine AOps.cons rfl rfl (AOp.box (.agg [.int .i64 v.X, .int .i64 v.Y, .int .i64 v.Z]) rfl rfl rfl ?_)
 intro i1 H2 n3 h4 k5
 have z6 := Mono.free m0 n3
 have m7 := Mono.new m0 n3 k5
 refine AOps.cons rfl rfl (AOp.assign (.bool false) rfl rfl ?_)
 refine AOps.nil ?_
 change AWP _ _ _ _ _ _
 refine AWP.seq ?_
 refine AWP.frzP 2 h4 z6 rfl m7 fun H8 m9 k10 => ?_
 refine AWP.region (l := [0, 1, 2, 3, 4, 5, 6, 7, 8, 9, 10, 11, 12, 13, 14, 15, 16, 17, 18, 19, 20, 21]) rfl ?_
 refine AOps.cons rfl rfl (AOp.fieldAddrF rfl rfl fl_42_0 ?_)
 refine AOps.cons rfl rfl (AOp.loadF (.int .i64 v.X) rfl rfl ty_3 rfl ?_)
 refine AOps.cons rfl rfl (AOp.fieldAddrF rfl rfl fl_42_1 ?_)
 refine AOps.cons rfl rfl (AOp.loadF (.int .i64 v.Y) rfl rfl ty_3 rfl ?_)
 refine AOps.cons rfl rfl (AOp.fieldAddrF rfl rfl fl_42_2 ?_)
 refine AOps.cons rfl rfl (AOp.loadF (.int .i64 v.Z) rfl rfl ty_3 rfl ?_)
 refine AOps.cons rfl rfl (AOp.min3 rfl rfl rfl rfl ?_)
 refine AOps.cons rfl rfl (AOp.move (.int .i64 m) rfl rfl ?_)
 refine AOps.cons rfl rfl (AOp.negP rfl rfl (by omega) ?_)
 refine AOps.cons rfl rfl (AOp.bin (.bool (decide (min (min v.X v.Y) v.Z ≥ -m))) rfl rfl rfl rfl ?_)
 refine AOps.cons rfl rfl (AOp.move (.bool (decide (min (min v.X v.Y) v.Z ≥ -m))) rfl rfl ?_)
 by_cases b11 : min (min v.X v.Y) v.Z ≥ -m
 ·
  refine AOps.yes rfl rfl rfl rfl rfl rfl rfl (decide_eq_true b11) (AOp.fieldAddrF rfl rfl fl_42_0 ?_)
  refine AOps.yes rfl rfl rfl rfl rfl rfl rfl (decide_eq_true b11) (AOp.loadF (.int .i64 v.X) rfl rfl ty_3 rfl ?_)
  refine AOps.yes rfl rfl rfl rfl rfl rfl rfl (decide_eq_true b11) (AOp.fieldAddrF rfl rfl fl_42_1 ?_)
  refine AOps.yes rfl rfl rfl rfl rfl rfl rfl (decide_eq_true b11) (AOp.loadF (.int .i64 v.Y) rfl rfl ty_3 rfl ?_)
  refine AOps.yes rfl rfl rfl rfl rfl rfl rfl (decide_eq_true b11) (AOp.fieldAddrF rfl rfl fl_42_2 ?_)
  refine AOps.yes rfl rfl rfl rfl rfl rfl rfl (decide_eq_true b11) (AOp.loadF (.int .i64 v.Z) rfl rfl ty_3 rfl ?_)
  refine AOps.yes rfl rfl rfl rfl rfl rfl rfl (decide_eq_true b11) (AOp.max3 rfl rfl rfl rfl ?_)
  refine AOps.yes rfl rfl rfl rfl rfl rfl rfl (decide_eq_true b11) (AOp.move (.int .i64 m) rfl rfl ?_)
  refine AOps.yes rfl rfl rfl rfl rfl rfl rfl (decide_eq_true b11) (AOp.bin (.bool (decide (max (max v.X v.Y) v.Z ≤ m))) rfl rfl rfl rfl ?_)
  refine AOps.cons rfl rfl (AOp.pickT (.bool (decide (max (max v.X v.Y) v.Z ≤ m))) rfl rfl (decide_eq_true b11) rfl ?_)
  refine AOps.cons rfl rfl (AOp.assign (.bool (decide (max (max v.X v.Y) v.Z ≤ m))) rfl rfl ?_)
  refine AOps.nil ?_
  change AWP _ _ _ _ _ _
  refine AWP.ret ?_
  refine ⟨_, _, Ghost.refl, .inr rfl, _, Res.one rfl rfl, ?_, m9⟩
  exact (congrArg AV.bool (show (decide (max (max v.X v.Y) v.Z ≤ m) : Bool) = decide (inV m v) from by first | (exact within_of (by omega) (by omega)) | (exact not_within (by omega)) | (exact (decide_eq_false (not_within (by omega))).symm) | (exact decide_eq_decide.2 ⟨fun h => within_of (by omega) h, fun h => by unfold inV at h; omega⟩)))
 ·
  refine AOps.no rfl rfl rfl rfl rfl rfl rfl (ble_of (decide_eq_false b11) (by decide)) ?_
  refine AOps.no rfl rfl rfl rfl rfl rfl rfl (ble_of (decide_eq_false b11) (by decide)) ?_
  refine AOps.no rfl rfl rfl rfl rfl rfl rfl (ble_of (decide_eq_false b11) (by decide)) ?_
  refine AOps.no rfl rfl rfl rfl rfl rfl rfl (ble_of (decide_eq_false b11) (by decide)) ?_
  refine AOps.no rfl rfl rfl rfl rfl rfl rfl (ble_of (decide_eq_false b11) (by decide)) ?_
  refine AOps.no rfl rfl rfl rfl rfl rfl rfl (ble_of (decide_eq_false b11) (by decide)) ?_
  refine AOps.no rfl rfl rfl rfl rfl rfl rfl (ble_of (decide_eq_false b11) (by decide)) ?_
  refine AOps.no rfl rfl rfl rfl rfl rfl rfl (ble_of (decide_eq_false b11) (by decide)) ?_
  refine AOps.no rfl rfl rfl rfl rfl rfl rfl (ble_of (decide_eq_false b11) (by decide)) ?_
  refine AOps.cons rfl rfl (AOp.pickF (.bool false) rfl rfl (decide_eq_false b11) rfl ?_)
  refine AOps.cons rfl rfl (AOp.assign (.bool false) rfl rfl ?_)
  refine AOps.nil ?_
  change AWP _ _ _ _ _ _
  refine AWP.ret ?_
  refine ⟨_, _, Ghost.refl, .inr rfl, _, Res.one rfl rfl, ?_, m9⟩
  exact (congrArg AV.bool (rfl.trans (decide_eq_false (show ¬ (inV m v) from by first | (exact within_of (by omega) (by omega)) | (exact not_within (by omega)) | (exact (decide_eq_false (not_within (by omega))).symm) | (exact decide_eq_decide.2 ⟨fun h => within_of (by omega) h, fun h => by unfold inV at h; omega⟩))).symm))
theorem c_far (v : VT) : PC Try.prog 34 [.agg [.int .i64 v.X, .int .i64 v.Y, .int .i64 v.Z]] (.bool (farV v)) := by
 intro H0
 refine ACalls.of_body' (n := 6) rfl rfl rfl rfl ?_
 have m0 := Mono.refl H0
 refine AWP.seq ?_
 refine AWP.region (l := [0, 1]) rfl ?_
 refine AOps.cons rfl rfl (AOp.box (.agg [.int .i64 v.X, .int .i64 v.Y, .int .i64 v.Z]) rfl rfl rfl ?_)
 intro i1 H2 n3 h4 k5
 have z6 := Mono.free m0 n3
 have m7 := Mono.new m0 n3 k5
 refine AOps.cons rfl rfl (AOp.assign (.bool false) rfl rfl ?_)
 refine AOps.nil ?_
 change AWP _ _ _ _ _ _
 refine AWP.seq ?_
 refine AWP.frzP 1 h4 z6 rfl m7 fun H8 m9 k10 => ?_
 refine AWP.region (l := [0, 1, 2, 3]) rfl ?_
 refine AOps.cons rfl rfl (AOp.loadF (.agg [.int .i64 v.X, .int .i64 v.Y, .int .i64 v.Z]) rfl rfl ty_42 rfl ?_)
 refine AOps.cons rfl rfl (AOp.pcall («as» := [.agg [.int .i64 v.X, .int .i64 v.Y, .int .i64 v.Z], .int .i64 65536]) rfl rfl (rfl) tf_21 (c_vWithin v 65536 (by omega)) ?_)
 intro H11 m12
 have m13 := m9.trans m12
 refine AOps.cons rfl rfl (AOp.not rfl rfl ?_)
 refine AOps.cons rfl rfl (AOp.assign (.bool (!(decide (inV 65536 v)))) rfl rfl ?_)
 refine AOps.nil ?_
 change AWP _ _ _ _ _ _
 refine AWP.ret ?_
 refine ⟨_, _, Ghost.refl, .inr rfl, _, Res.one rfl rfl, ?_, m13⟩
 exact (congrArg AV.bool (show (!(decide (inV 65536 v)) : Bool) = farV v from by first | rfl | (unfold farV; simp_all) | (unfold farV; rw [decide_not])))
theorem c_idxV (l : List VT) (hl : l.length ≤ 1048576) : PC Try.prog 53 [.sl l.length (l.flatMap eV), .fn 34 []] (.int .i64 (idxV l)) := by
 intro H0
 refine ACalls.of_body' (n := 19) rfl rfl rfl rfl ?_
 have m0 := Mono.refl H0
 refine AWP.seq ?_
 refine AWP.region (l := [0]) rfl ?_
 refine AOps.cons rfl rfl (AOp.assign (.int .i64 0) rfl rfl ?_)
 refine AOps.nil ?_
 change AWP _ _ _ _ _ _
 refine AWP.seq ?_
 refine AWP.seq ?_
 refine AWP.region (l := [0, 1, 2]) rfl ?_
 refine AOps.cons rfl rfl (AOp.move (.sl l.length (l.flatMap eV)) rfl rfl ?_)
 refine AOps.cons rfl rfl (AOp.len (m := l.length) rfl rfl (.inr (.inl ⟨_, rfl⟩)) u_22 ?_)
 refine AOps.cons rfl rfl (AOp.move (.int .i64 0) rfl rfl ?_)
 refine AOps.nil ?_
 change AWP _ _ _ _ _ _
 refine AWP.block ?_
 refine AWP.loop (fun q1 fq Hq => ∃ (i : Int), q1 = (((l.length : Int) : Int) - i).toNat ∧ fq 8 = .int .i64 i ∧ fq 0 = .sl l.length (l.flatMap eV) ∧ fq 1 = .fn 34 [] ∧ fq 7 = .int .i64 (l.length : Int) ∧ Mono H0 Hq ∧ (0 ≤ i) ∧ (i ≤ (l.length : Int)) ∧ (∀ j : Int, 0 ≤ j → j < i → farV (at_ l j) = false)) (k := (((l.length : Int) : Int) - 0).toNat) ?_ ?_
 ·
  exact ⟨0, rfl, rfl, rfl, rfl, rfl, m0, by omega, by omega, by intro j; omega⟩
 ·
  rintro _ f3 H2 ⟨i, rfl, s4, s5, s6, s7, m8, hi0, hi1, pre⟩
  refine AWP.seq ?_
  refine AWP.region (l := [0]) rfl ?_
  refine AOps.cons rfl rfl (AOp.bin (.bool (decide (i < (l.length : Int)))) rfl s4 s7 rfl ?_)
  refine AOps.nil ?_
  change AWP _ _ _ _ _ _
  refine AWP.seq ?_
  by_cases b9 : i < (l.length : Int)
  ·
   refine AWP.condT rfl (decide_eq_true b9) ?_
   refine AWP.skip ?_
   change AWP _ _ _ _ _ _
   refine AWP.seq ?_
   refine AWP.block ?_
   refine AWP.seq ?_
   refine AWP.region (l := [0, 1]) rfl ?_
   refine AOps.cons rfl rfl (AOp.move (.int .i64 i) rfl s4 ?_)
   refine AOps.cons rfl rfl (AOp.assign (.int .i64 i) rfl rfl ?_)
   refine AOps.nil ?_
   change AWP _ _ _ _ _ _
   refine AWP.seq ?_
   refine AWP.region (l := [0, 1, 2, 3, 4, 5]) rfl ?_
   refine AOps.cons rfl rfl (AOp.move (.fn 34 []) rfl s6 ?_)
   refine AOps.cons rfl rfl (AOp.move (.sl l.length (l.flatMap eV)) rfl s5 ?_)
   refine AOps.cons rfl rfl (AOp.move (.int .i64 i) rfl rfl ?_)
   refine AOps.cons rfl rfl (AOp.indexAddrS rfl rfl rfl sl_22 (by omega) (by omega) ?_)
   refine AOps.cons rfl rfl (AOp.loadF (.agg [.int .i64 ((at_ l i).X), .int .i64 ((at_ l i).Y), .int .i64 ((at_ l i).Z)]) rfl rfl ty_42 (ldM eV_len (by omega) (by omega)) ?_)
   refine AOps.cons rfl rfl (AOp.pcall («as» := [.agg [.int .i64 ((at_ l i).X), .int .i64 ((at_ l i).Y), .int .i64 ((at_ l i).Z)]]) rfl rfl (rfl) tf_34 (c_far (at_ l i)) ?_)
   intro H10 m11
   have m12 := m8.trans m11
   refine AOps.nil ?_
   change AWP _ _ _ _ _ _
   rcases Bool.eq_false_or_eq_true (farV (at_ l i)) with b13 | b13
   ·
    refine AWP.condT rfl b13 ?_
    refine AWP.seq ?_
    refine AWP.region (l := [0, 1]) rfl ?_
    refine AOps.cons rfl rfl (AOp.move (.int .i64 i) rfl rfl ?_)
    refine AOps.cons rfl rfl (AOp.assign (.int .i64 i) rfl rfl ?_)
    refine AOps.nil ?_
    change AWP _ _ _ _ _ _
    refine AWP.ret ?_
    refine ⟨_, _, Ghost.refl, .inr rfl, _, Res.one rfl rfl, ?_, m12⟩
    exact (congrArg (AV.int .i64) (show (i : Int) = idxV l from by exact idxV_hit hi0 (by omega) pre b13))
   ·
    refine AWP.condF rfl b13 ?_
    refine AWP.skip ?_
    change AWP _ _ _ _ _ _
    refine AWP.region (l := [0, 1]) rfl ?_
    refine AOps.cons rfl rfl (AOp.bin (.int .i64 (i + 1)) rfl s4 rfl (iadd (by omega)) ?_)
    refine AOps.cons rfl rfl (AOp.move (.int .i64 (i + 1)) rfl rfl ?_)
    refine AOps.nil ?_
    exact ⟨_, by omega, i + 1, rfl, rfl, s5, s6, s7, m12, by omega, by omega, by exact fa_step pre b13⟩
  ·
   refine AWP.condF rfl (decide_eq_false b9) ?_
   refine AWP.exit ?_
   change AWP _ _ _ _ _ _
   refine AWP.seq ?_
   refine AWP.region (l := [0]) rfl ?_
   refine AOps.cons rfl rfl (AOp.assign (.int .i64 (-1)) rfl rfl ?_)
   refine AOps.nil ?_
   change AWP _ _ _ _ _ _
   refine AWP.ret ?_
   refine ⟨_, _, Ghost.refl, .inr rfl, _, Res.one rfl rfl, ?_, m8⟩
   exact (congrArg (AV.int .i64) (show (-1 : Int) = idxV l from by exact idxV_none (by omega) pre))
theorem c_anyV (l : List VT) (hl : l.length ≤ 1048576) : PC Try.prog 33 [.sl l.length (l.flatMap eV), .fn 34 []] (.bool (l.any farV)) := by
 intro H0
 refine ACalls.of_body' (n := 9) rfl rfl rfl rfl ?_
 have m0 := Mono.refl H0
 refine AWP.seq ?_
 refine AWP.region (l := [0]) rfl ?_
 refine AOps.cons rfl rfl (AOp.assign (.bool false) rfl rfl ?_)
 refine AOps.nil ?_
 change AWP _ _ _ _ _ _
 refine AWP.seq ?_
 refine AWP.region (l := [0, 1, 2, 3, 4]) rfl ?_
 refine AOps.cons rfl rfl (AOp.move (.sl l.length (l.flatMap eV)) rfl rfl ?_)
 refine AOps.cons rfl rfl (AOp.move (.fn 34 []) rfl rfl ?_)
 refine AOps.cons rfl rfl (AOp.pcall («as» := [.sl l.length (l.flatMap eV), .fn 34 []]) rfl rfl (rfl) tf_53 (c_idxV _ (by omega)) ?_)
 intro H1 m2
 have m3 := m0.trans m2
 refine AOps.cons rfl rfl (AOp.bin (.bool (decide (idxV l ≥ 0))) rfl rfl rfl rfl ?_)
 refine AOps.cons rfl rfl (AOp.assign (.bool (decide (idxV l ≥ 0))) rfl rfl ?_)
 refine AOps.nil ?_
 change AWP _ _ _ _ _ _
 refine AWP.ret ?_
 refine ⟨_, _, Ghost.refl, .inr rfl, _, Res.one rfl rfl, ?_, m3⟩
 exact (congrArg AV.bool (show (decide (idxV l ≥ 0) : Bool) = l.any farV from by exact idxV_any l))
end Go.Proofs.U
namespace Go.Proofs.U
open Go Go.AH Go.Proofs.T
set_option maxRecDepth 4000
/-- What a surface's topology is known to be. -/
structure TopoF (n fn : Int) (t : Tp) : Prop where
  el : t.ed.length ≤ 50000
  se : SortedE t.ed
  ab : ∀ e ∈ t.ed, (0 ≤ e.A ∧ e.A < n) ∧ 0 ≤ e.B ∧ e.B < n
  fl : (t.fan.length : Int) = n
  rl : t.rnd.length ≤ 1048576
  fan : ∀ v : Int, 0 ≤ v → v < n → (1 ≤ (at_ t.fan v).length ∧ (at_ t.fan v).length ≤ 1000) ∧ ∀ f ∈ at_ t.fan v, 0 ≤ f ∧ f < fn
  fg : ∀ i : Int, 0 ≤ i → i < t.ed.length → edgedS t i = false → (0 ≤ (at_ t.ed i).F ∧ (at_ t.ed i).F < fn) ∧ 0 ≤ (at_ t.ed i).G ∧ (at_ t.ed i).G < fn
/-- What an edge's sharpness is known to be. -/
structure ShF (t : Tp) (sh : List Int) : Prop where
  len : sh.length = t.ed.length
  nn : ∀ i : Int, 0 ≤ i → i < t.ed.length → 0 ≤ at_ sh i
  edged : ∀ i : Int, 0 ≤ i → i < t.ed.length → edgedS t i = true → 255 ≤ at_ sh i
  most : ∀ i : Int, 0 ≤ i → i < t.ed.length → at_ sh i ≤ 9223372036854775807
theorem build_OK {n : Int} {fs : List (List Int)} (h : buildE n fs = 0) : okS n fs := by
  unfold buildE at h; split at h
  · assumption
  · cases h
theorem at_sh0 {t : Tp} {i : Int} (h0 : 0 ≤ i) (h1 : i < t.ed.length) : at_ (sh0 t t.ed.length) i = if edgedS t i = true then 255 else 0 := by
  have e : ((i.toNat : Nat) : Int) = i := by omega
  have h := sh0_get t t.ed.length i.toNat
  rw [if_pos (by omega), e] at h
  unfold at_; rw [List.getD_eq_getElem?_getD, h]
  by_cases g : edgedS t i = true
  · simp [g, h1]
  · simp [g]
theorem sh_start (t : Tp) : ShF t (sh0 t t.ed.length) where
  len := sh0_len _ _
  nn i h0 h1 := by rw [at_sh0 h0 h1]; split <;> omega
  edged i h0 h1 h := by rw [at_sh0 h0 h1, if_pos h]; omega
  most i h0 h1 := by rw [at_sh0 h0 h1]; split <;> omega
theorem at_set {l : List Int} {i j x : Int} (h0 : 0 ≤ i) (hj : 0 ≤ j) (h1 : i < l.length) : at_ (l.set i.toNat x) j = if j = i then x else at_ l j := by
  unfold at_
  rw [List.getD_eq_getElem?_getD, List.getD_eq_getElem?_getD, List.getElem?_set]
  by_cases e : j = i
  · subst e; rw [if_pos rfl, if_pos (by omega), if_pos rfl]; rfl
  · rw [if_neg (by omega), if_neg e]
theorem sh_more {t : Tp} : ∀ {cr : List CrT} {a b : List Int}, ShF t a → (∀ c ∈ cr, c.S ≤ 9223372036854775807) → shF t cr a = some b → ShF t b
  | [], a, b, h, _, e => by cases e; exact h
  | x :: xs, a, b, h, hc, e => by
    simp only [shF] at e
    split at e
    · rename_i hs
      have hf := find_in hs
      refine sh_more ?_ (fun c hc' => hc c (List.mem_cons_of_mem _ hc')) e
      have hx := hc x List.mem_cons_self
      have hl := h.len
      refine ⟨by rw [List.length_set]; exact h.len, fun i h0 h1 => ?_, fun i h0 h1 g => ?_, fun i h0 h1 => ?_⟩
      · rw [at_set hf.1 h0 (by omega)]; split
        · rename_i q; subst q; have := h.nn _ h0 h1; omega
        · exact h.nn i h0 h1
      · rw [at_set hf.1 h0 (by omega)]; split
        · rename_i q; subst q; have := h.edged _ h0 h1 g; omega
        · exact h.edged i h0 h1 g
      · rw [at_set hf.1 h0 (by omega)]; split
        · rename_i q; subst q; have := h.most _ h0 h1; omega
        · exact h.most i h0 h1
    · cases e
theorem sharp_facts {t : Tp} {cr : List CrT} (hc : ∀ c ∈ cr, c.S ≤ 9223372036854775807) (h : (sharpR t cr).2 = 0) : ShF t (sharpR t cr).1 := by
  unfold sharpR at *
  cases e : shF t cr (sh0 t t.ed.length) with
  | none => rw [e] at h; cases h
  | some b => exact sh_more (sh_start t) hc e
end Go.Proofs.U
namespace Go.Proofs.U
open Go Go.AH Go.Proofs.T
set_option maxRecDepth 4000
theorem fan_mem {n : Int} {fs : List (List Int)} (h : okS n fs) {c : Int} (h0 : 0 ≤ c) (h1 : c < n) : ∀ f ∈ fanL fs c, 0 ≤ f ∧ f < (fs.length : Int) ∧ c ∈ at_ fs f := fun f hf => by
  obtain ⟨hne, F⟩ := fan_of h h0 h1
  unfold fanL at hf; rw [if_neg hne] at hf
  unfold orbS at hf
  obtain ⟨i, hi, rfl⟩ := List.mem_map.1 hf
  rw [List.mem_range] at hi
  exact F.mem hi
theorem ok_rng {n : Int} {fs : List (List Int)} (h : okS n fs) : ∀ l ∈ fs, ∀ k ∈ l, 0 ≤ k ∧ k < n := fun l hl k hk => by
  obtain ⟨f, f0, f1, rfl⟩ := mem_at hl
  obtain ⟨i, i0, i1, rfl⟩ := mem_at hk
  exact (h.2.1 f f0 f1).2.1 i i0 i1
theorem ok_faces {n : Int} {fs : List (List Int)} (h : okS n fs) (hl : ∀ l ∈ fs, l.length ≤ 100000) : ∀ l ∈ fs, 1 ≤ l.length ∧ l.length ≤ 100000 := fun l hm => by
  obtain ⟨f, f0, f1, rfl⟩ := mem_at hm
  have := (h.2.1 f f0 f1).1
  exact ⟨by omega, hl _ hm⟩
theorem topo_facts {n : Int} {fs : List (List Int)} (h : okS n fs) (hn : n ≤ 1000) (hf : fs.length ≤ 1000) (hs : (sides fs).length ≤ 50000) : TopoF n fs.length (buildT n fs) := by
  have h2 := two_law h
  have h3 := two_le (buildT n fs).ed (buildT n fs).ed.length
  have h4 := fans_len h
  have hb := (build_ok h).1
  refine ⟨by omega, ?_, fun e he => ?_, h4, ?_, fun v h0 h1 => ?_, fun i h0 h1 he => ?_⟩
  · rw [hb]; exact pw_at (eOut_sorted fs n)
  · rw [hb] at he
    have := mem_eOut.1 he
    omega
  · rw [hb]; simp [rndU]; omega
  · have e : at_ (buildT n fs).fan v = fanL fs v := by
      have e2 : ((v.toNat : Nat) : Int) = v := by omega
      have h5 : v.toNat < n.toNat := by omega
      rw [hb]; simp [at_, fansU, h5, e2]
    rw [e]
    obtain ⟨hne, F⟩ := fan_of h h0 h1
    have hm := fan_mine h h0 h1
    have hl := mine_le fs v fs.length
    have hp := List.length_pos_iff.2 hne
    exact ⟨by omega, fun f hf => ⟨(fan_mem h h0 h1 f hf).1, (fan_mem h h0 h1 f hf).2.1⟩⟩
  · have hmin := edged_not h0 h1 he
    have hm := at_mem h0 h1
    rw [hb] at hm hmin
    have hs1 := eOut_small _ hm
    have hs2 := mem_eOut.1 hm
    rw [hb]
    simp only at *
    omega
end Go.Proofs.U
namespace Go.Proofs.U
open Go Go.AH Go.Proofs.T
set_option maxRecDepth 4000
section
variable {vs : List VT} {fs : List (List Int)} {cr : List CrT}
theorem level_1 (h : ¬ buildE vs.length fs = 0) : levelR vs fs cr = (⟨[], [], []⟩, buildE vs.length fs) := by unfold levelR; rw [if_pos h]
theorem level_2 (h : buildE vs.length fs = 0) (g : ¬ (sharpR (buildT vs.length fs) cr).2 = 0) : levelR vs fs cr = (⟨[], [], []⟩, (sharpR (buildT vs.length fs) cr).2) := by unfold levelR; rw [if_neg (fun k => k h), if_pos g]
theorem level_3 (h : buildE vs.length fs = 0) (g : (sharpR (buildT vs.length fs) cr).2 = 0) (k : vs.any farV = true) : levelR vs fs cr = (⟨[], [], []⟩, 21) := by unfold levelR; rw [if_neg (fun q => q h), if_neg (fun q => q g), if_pos k]
theorem level_4 (h : buildE vs.length fs = 0) (g : (sharpR (buildT vs.length fs) cr).2 = 0) (k : vs.any farV = false) : levelR vs fs cr = (⟨v1R vs (fcR vs fs fs.length) (buildT vs.length fs) (sharpR (buildT vs.length fs) cr).1 vs.length ++ v2R vs (fcR vs fs fs.length) (buildT vs.length fs) (sharpR (buildT vs.length fs) cr).1 (buildT vs.length fs).ed.length ++ fcR vs fs fs.length,
    faR vs.length (buildT vs.length fs) fs fs.length, crR vs.length (buildT vs.length fs) (sharpR (buildT vs.length fs) cr).1 (buildT vs.length fs).ed.length⟩, 0) := by
  unfold levelR; rw [if_neg (fun q => q h), if_neg (fun q => q g), if_neg (by rw [k]; decide)]
end
theorem F_len {α : Type} {f : Int → List α} {c : Nat} {k : Int} (h : ∀ j : Int, 0 ≤ j → j < k → (f j).length ≤ c) : (F_ f k).length ≤ c * k.toNat := by
  unfold F_ U_
  have : ∀ m : Nat, m ≤ k.toNat → ((List.range m).map fun (j : Nat) => f (j : Int)).flatten.length ≤ c * m := by
    intro m
    induction m with
    | zero => intro _; simp
    | succ m ih =>
      intro hm
      have := ih (by omega)
      have h2 := h (m : Int) (by omega) (by omega)
      rw [List.range_succ, List.map_append, List.flatten_append, List.length_append, Nat.mul_succ]
      simp only [List.map_cons, List.map_nil, List.flatten_cons, List.flatten_nil, List.append_nil]
      omega
  exact this _ (Nat.le_refl _)
theorem crease_len (n : Int) (t : Tp) (sh : List Int) (i : Int) : (creaseP n t sh i).length ≤ 2 := by unfold creaseP; split <;> simp
theorem crR_len (n : Int) (t : Tp) (sh : List Int) (k : Int) : (crR n t sh k).length ≤ 2 * k.toNat := F_len fun j _ _ => crease_len n t sh j
theorem faR_len {n : Int} {t : Tp} {fs : List (List Int)} (hfss : ∀ l ∈ fs, 1 ≤ l.length ∧ l.length ≤ 100000) {k : Int} (hk : k ≤ fs.length) : (faR n t fs k).length ≤ 100000 * k.toNat := F_len fun j h0 h1 => by
  rw [partsU_len]; have := (hfss _ (at_mem (l := fs) h0 (by omega))).2; omega
theorem round_in {n d B : Int} (hd : 1 ≤ d) (h : -(B * d) ≤ n ∧ n ≤ B * d) : -B ≤ roundZ n d ∧ roundZ n d ≤ B := by
  unfold roundZ
  have hp : 0 < 2 * d := by omega
  have e : (2 * d) * B = 2 * (B * d) := by rw [Int.mul_assoc, Int.mul_comm d B]
  have e2 : (2 * d) * (-B) = -(2 * (B * d)) := by rw [Int.mul_neg, e]
  constructor
  · refine Int.le_ediv_of_mul_le hp ?_
    rw [Int.mul_comm, e2]; omega
  · have : (2 * n + d) / (2 * d) < B + 1 := by
      refine Int.ediv_lt_of_lt_mul hp ?_
      rw [Int.add_mul, Int.one_mul, Int.mul_comm B, e]; omega
    omega
theorem of_in {s : VT} {d B : Int} (hd : 1 ≤ d) (h : inV (B * d) s) : inV B (ofV s d) := by
  obtain ⟨h1, h2, h3⟩ := h
  exact ⟨round_in hd h1, round_in hd h2, round_in hd h3⟩
theorem face_in {vs : List VT} {f : List Int} (hv : ∀ v ∈ vs, inV 65536 v) (hf : ∀ k ∈ f, 0 ≤ k ∧ k < (vs.length : Int)) (hl : 1 ≤ f.length) : inV 65536 (faceP vs f) := of_in (by omega) (sum_in hv hf)
theorem fcR_len {vs : List VT} {fs : List (List Int)} : (fcR vs fs fs.length).length = fs.length := by unfold fcR; rw [U_len]; omega
section
variable {vs : List VT} {fs : List (List Int)} {cr : List CrT}
theorem fc_in (hv : ∀ v ∈ vs, inV 65536 v) (hfr : ∀ l ∈ fs, ∀ k ∈ l, 0 ≤ k ∧ k < (vs.length : Int)) (hfss : ∀ l ∈ fs, 1 ≤ l.length ∧ l.length ≤ 100000) : ∀ x ∈ fcR vs fs fs.length, inV 65536 x := fun x hx => by
  obtain ⟨j, h0, h1, rfl⟩ := mem_U hx
  have := at_mem (l := fs) h0 h1
  exact face_in hv (hfr _ this) (hfss _ this).1
variable {t : Tp} {sh : List Int} (hvl : vs.length ≤ 1000) (hfl : fs.length ≤ 1000) (tf : TopoF vs.length fs.length t) (sf : ShF t sh) (hv : ∀ v ∈ vs, inV 65536 v) (hfc : ∀ x ∈ fcR vs fs fs.length, inV 65536 x)
include hvl tf sf hv hfc
theorem c_vertexL {H0 : Heap} {fid : Nat} (v : Int) (h0 : 0 ≤ v) (h1 : v < vs.length) (hr : H0 fid = some (.row 0 [.sl vs.length (vs.flatMap eV), .sl fs.length (fs.map eF), .sl cr.length (cr.flatMap eCr), .sl t.ed.length (t.ed.flatMap eE), .sl t.fan.length (t.fan.map eF), .sl t.rnd.length (t.rnd.map eBo), .sl sh.length (sh.map eI), .sl (egR t.ed vs.length).length ((egR t.ed vs.length).map eF), .sl (fcR vs fs fs.length).length ((fcR vs fs fs.length).flatMap eV)])) : ACalls Try.prog 36 [.ptr fid 0 0, .int .i64 v] H0 fun r H' => r = (.agg [.int .i64 (vertP vs (fcR vs fs fs.length) t.ed sh (at_ t.fan v) (at_ (egR t.ed vs.length) v) v).X, .int .i64 (vertP vs (fcR vs fs fs.length) t.ed sh (at_ t.fan v) (at_ (egR t.ed vs.length) v) v).Y, .int .i64 (vertP vs (fcR vs fs fs.length) t.ed sh (at_ t.fan v) (at_ (egR t.ed vs.length) v) v).Z]) ∧ Mono H0 H' :=
  c_vertex vs fs cr t sh (egR t.ed vs.length) (fcR vs fs fs.length) v ⟨h0, h1⟩ tf.ab (by have := tf.el; omega) sf.len (by rw [egR_len]; omega) (by rw [egR_at h0 (by omega)]; have := adj_len t.ed t.ed.length v; have := tf.el; omega)
    (fun e he => by rw [egR_at h0 (by omega)] at he; exact adj_mem he) (by have := tf.fl; omega) (tf.fan v h0 h1).1 (fun f hf => by rw [fcR_len]; exact (tf.fan v h0 h1).2 f hf) hfc (by omega) hv hr
theorem c_edgeL {H0 : Heap} {fid : Nat} {x7 : AV} (i : Int) (h0 : 0 ≤ i) (h1 : i < t.ed.length) (hr : H0 fid = some (.row 0 [.sl vs.length (vs.flatMap eV), .sl fs.length (fs.map eF), .sl cr.length (cr.flatMap eCr), .sl t.ed.length (t.ed.flatMap eE), .sl t.fan.length (t.fan.map eF), .sl t.rnd.length (t.rnd.map eBo), .sl sh.length (sh.map eI), x7, .sl (fcR vs fs fs.length).length ((fcR vs fs fs.length).flatMap eV)])) : ACalls Try.prog 37 [.ptr fid 0 0, .int .i64 i] H0 fun r H' => r = (.agg [.int .i64 (edgeP vs (fcR vs fs fs.length) (at_ t.ed i) (at_ sh i)).X, .int .i64 (edgeP vs (fcR vs fs fs.length) (at_ t.ed i) (at_ sh i)).Y, .int .i64 (edgeP vs (fcR vs fs fs.length) (at_ t.ed i) (at_ sh i)).Z]) ∧ Mono H0 H' :=
  c_edge vs fs cr t sh (fcR vs fs fs.length) i ⟨h0, h1⟩ (tf.ab _ (at_mem h0 h1)).1 (tf.ab _ (at_mem h0 h1)).2 sf.len (fun hz => by
    have he : edgedS t i = false := by
      cases h : edgedS t i
      · rfl
      · have := sf.edged i h0 h1 h; omega
    rw [fcR_len]; exact tf.fg i h0 h1 he) hfc (by omega) hv hr
end
end Go.Proofs.U
