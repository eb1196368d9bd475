/- A part of the proof that a law answers true for every input of its row: own work, by an AI agent. -/
import Derived.Test.YtfddnapdeihchaaDoorB03
import Derived.Test.YtfddnapdeihchaaDoorB01
set_option linter.unusedSimpArgs false
set_option linter.unusedVariables false
set_option linter.defProp false
namespace Go.Proofs.S
open Go Go.AH Go.Proofs.L
set_option maxRecDepth 4000
set_option maxHeartbeats 4000000
set_option linter.unusedSimpArgs false
set_option linter.unusedVariables false
set_option linter.unusedSectionVars false
variable [LexG]
theorem c_Parse (s : ByteArray) : PC Tryd.prog 8 [.str s] (.tup [.agg (eScene (parseR s).1), .int .i64 ((parseR s).2.1), .int .i64 ((parseR s).2.2)]) := by
 intro H0
 refine ACalls.of_body' (n := 52) rfl rfl rfl rfl ?_
 have m0 := Mono.refl H0
 refine AWP.seq ?_
 refine AWP.region (l := [0, 1, 2]) rfl ?_
 refine AOps.cons rfl rfl (AOp.alloc rfl tz_35 ?_)
 intro i1 H2 n3 h4 k5
 have z6 := Mono.free m0 n3
 have m7 := Mono.new m0 n3 k5
 refine AOps.cons rfl rfl (AOp.assign (.int .i64 0) rfl rfl ?_)
 refine AOps.cons rfl rfl (AOp.assign (.int .i64 0) rfl rfl ?_)
 refine AOps.nil ?_
 change AWP _ _ _ _ _ _
 refine AWP.seq ?_
 refine AWP.region (l := [0, 1, 2, 3, 4, 5, 6, 7, 8]) rfl ?_
 refine AOps.cons rfl rfl (AOp.move (.str s) rfl rfl ?_)
 refine AOps.cons rfl rfl (AOp.pcall («as» := [.str s]) rfl rfl (rfl) tf_9 (c_lex_Lines _) ?_)
 intro H8 m9
 have h10 := m9 _ _ h4
 have m11 := m7.trans m9
 refine AOps.cons rfl rfl (AOp.move (.tup [.sl ((linesR s).1).length (((linesR s).1).flatMap eLine), .int .i64 ((linesR s).2.1), .int .i64 ((linesR s).2.2)]) rfl rfl ?_)
 refine AOps.cons rfl rfl (AOp.extract (.sl ((linesR s).1).length (((linesR s).1).flatMap eLine)) rfl rfl rfl ?_)
 refine AOps.cons rfl rfl (AOp.extract (.int .i64 ((linesR s).2.1)) rfl rfl rfl ?_)
 refine AOps.cons rfl rfl (AOp.extract (.int .i64 ((linesR s).2.2)) rfl rfl rfl ?_)
 refine AOps.cons rfl rfl (AOp.assign (.sl ((linesR s).1).length (((linesR s).1).flatMap eLine)) rfl rfl ?_)
 refine AOps.cons rfl rfl (AOp.assign (.int .i64 ((linesR s).2.1)) rfl rfl ?_)
 refine AOps.cons rfl rfl (AOp.assign (.int .i64 ((linesR s).2.2)) rfl rfl ?_)
 refine AOps.nil ?_
 change AWP _ _ _ _ _ _
 refine AWP.seq ?_
 refine AWP.seq ?_
 refine AWP.region (l := [0, 1]) rfl ?_
 refine AOps.cons rfl rfl (AOp.move (.int .i64 ((linesR s).2.2)) rfl rfl ?_)
 refine AOps.cons rfl rfl (AOp.bin (.bool (!decide ((linesR s).2.2 = 0))) rfl rfl rfl ine ?_)
 refine AOps.nil ?_
 change AWP _ _ _ _ _ _
 by_cases b12 : (linesR s).2.2 = 0
 ·
  refine AWP.condF rfl (nb (decide_eq_true b12)) ?_
  refine AWP.skip ?_
  change AWP _ _ _ _ _ _
  refine AWP.seq ?_
  refine AWP.region (l := [0, 1, 2]) rfl ?_
  refine AOps.cons rfl rfl (AOp.build (cells := [.int .i64 0, .int .i64 0, .int .i64 0, .int .i64 0, .int .i64 0, .int .i64 0, .int .i64 0, .int .i64 0, .int .i64 0, .int .i64 0, .int .i64 0, .int .i64 0, .int .i64 0, .int .i64 0, .int .i64 0, .int .i64 0, .int .i64 0, .int .i64 0, .int .i64 0, .snil, .snil, .snil, .snil, .snil, .bool false, .bool false]) rfl tz_59 pl_59 rfl rfl ?_)
  refine AOps.cons rfl rfl (AOp.box (.agg [.int .i64 0, .int .i64 0, .int .i64 0, .int .i64 0, .int .i64 0, .int .i64 0, .int .i64 0, .int .i64 0, .int .i64 0, .int .i64 0, .int .i64 0, .int .i64 0, .int .i64 0, .int .i64 0, .int .i64 0, .int .i64 0, .int .i64 0, .int .i64 0, .int .i64 0, .snil, .snil, .snil, .snil, .snil, .bool false, .bool false]) rfl rfl rfl ?_)
  intro i13 H14 n15 h16 k17
  have e18 := ne_new h10 n15
  have z19 := Mono.free m11 n15
  have h20 := keep k17 (ne_new h10 n15) h10
  have m21 := Mono.new m11 n15 k17
  refine AOps.cons rfl rfl (AOp.assign (.ptr i13 0 0) rfl rfl ?_)
  refine AOps.nil ?_
  change AWP _ _ _ _ _ _
  refine AWP.seq ?_
  refine AWP.seq ?_
  have hrd0 : RD H8 H14 i13 0 rd0 := RD.init h16 n15
  have hmm0 : Mono H8 H14 := Mono.new (Mono.refl _) n15 k17
  have hl0_ := b12
  have hll_ := lines_len s
  refine AWP.region (l := [0, 1, 2]) rfl ?_
  refine AOps.cons rfl rfl (AOp.move (.sl ((linesR s).1).length (((linesR s).1).flatMap eLine)) rfl rfl ?_)
  refine AOps.cons rfl rfl (AOp.len (m := ((linesR s).1).length) rfl rfl (.inr (.inl ⟨_, rfl⟩)) u_49 ?_)
  refine AOps.cons rfl rfl (AOp.move (.int .i64 0) rfl rfl ?_)
  refine AOps.nil ?_
  change AWP _ _ _ _ _ _
  refine AWP.block ?_
  refine AWP.loop (fun q22 fq Hq => ∃ (i : Int) (r : Rd), q22 = (((((linesR s).1).length : Int) : Int) - i).toNat ∧ fq 27 = .int .i64 i ∧ fq 2 = .ptr i1 0 0 ∧ fq 8 = .ptr i13 0 0 ∧ fq 25 = .sl ((linesR s).1).length (((linesR s).1).flatMap eLine) ∧ fq 26 = .int .i64 ((((linesR s).1).length) : Int) ∧ Hq i1 = some (.row 0 ([.int .i64 0, .int .i64 0, .int .i64 0, .int .i64 0, .int .i64 0, .int .i64 0, .int .i64 0, .int .i64 0, .int .i64 0, .int .i64 0, .int .i64 0, .int .i64 0, .int .i64 0, .int .i64 0, .int .i64 0, .int .i64 0, .int .i64 0, .int .i64 0, .int .i64 0, .snil, .snil, .snil, .snil, .snil])) ∧ Mono H0 Hq ∧ (RD H8 Hq i13 0 r) ∧ (Mono H8 Hq) ∧ (0 ≤ i) ∧ (i ≤ (((linesR s).1).length : Int)) ∧ (foldP rd0 (linesR s).1 = foldP r ((linesR s).1.drop i.toNat)) ∧ (RdOk r)) (k := (((((linesR s).1).length : Int) : Int) - 0).toNat) ?_ ?_
  ·
   exact ⟨0, rd0, rfl, rfl, rfl, rfl, rfl, rfl, h20, m21, hrd0, hmm0, by omega, by omega, by rfl, by exact rd0_ok⟩
  ·
   rintro _ f24 H23 ⟨i, r, rfl, s25, s26, s27, s28, s29, h30, m31, hrd, hmm, hi0, hi1, hfd, hok⟩
   refine AWP.seq ?_
   refine AWP.region (l := [0]) rfl ?_
   refine AOps.cons rfl rfl (AOp.bin (.bool (decide (i < ((((linesR s).1).length) : Int)))) rfl s25 s29 rfl ?_)
   refine AOps.nil ?_
   change AWP _ _ _ _ _ _
   refine AWP.seq ?_
   by_cases b32 : i < ((((linesR s).1).length) : Int)
   ·
    refine AWP.condT rfl (decide_eq_true b32) ?_
    refine AWP.skip ?_
    change AWP _ _ _ _ _ _
    refine AWP.seq ?_
    refine AWP.block ?_
    refine AWP.seq ?_
    refine AWP.region (l := [0, 1, 2, 3]) rfl ?_
    refine AOps.cons rfl rfl (AOp.indexAddrS rfl s28 s25 sl_49 (by omega) (by omega) ?_)
    refine AOps.cons rfl rfl (AOp.loadF (.agg [.int .i64 ((at_ ((linesR s).1) i).No), .sl ((at_ ((linesR s).1) i).Words).length (((at_ ((linesR s).1) i).Words).map eStr)]) rfl rfl ty_54 (ldM eLine_len (by omega) (by omega)) ?_)
    refine AOps.cons rfl rfl (AOp.alloc rfl tz_54 ?_)
    intro i33 H34 n35 h36 k37
    have e38 := ne_new h30 n35
    have z39 := Mono.free m31 n35
    have h40 := keep k37 (ne_new h30 n35) h30
    have rd41 := hrd.mono (Mono.new (Mono.refl _) n35 k37)
    have rd42 := Mono.trans hmm (Mono.new (Mono.refl _) n35 k37)
    have mn43 := Mono.new (Mono.refl H23) n35 k37
    have m44 := Mono.new m31 n35 k37
    refine AOps.cons rfl rfl (AOp.store' (cells' := [.int .i64 ((at_ ((linesR s).1) i).No), .sl ((at_ ((linesR s).1) i).Words).length (((at_ ((linesR s).1) i).Words).map eStr)]) (.agg [.int .i64 ((at_ ((linesR s).1) i).No), .sl ((at_ ((linesR s).1) i).Words).length (((at_ ((linesR s).1) i).Words).map eStr)]) rfl rfl ts_54 h36 rfl rfl rfl rfl ?_)
    intro H45 h46 k47
    have h48 := keep k47 e38 h40
    have mn50 := Mono.set mn43 n35 k47
    have rd51 := hrd.mono mn50
    have rd52 := Mono.trans hmm mn50
    have m53 := Mono.set m44 z39 k47
    refine AOps.nil ?_
    change AWP _ _ _ _ _ _
    refine AWP.seq ?_
    refine AWP.frzP 10 h46 z39 rfl m53 fun H54 m55 k56 => ?_
    have h57 := (k56 _ e38).trans h48
    have mn58 := Mono.set mn50 n35 k56
    have rd59 := hrd.mono mn58
    have rd60 := Mono.trans hmm mn58
    refine AWP.region (l := [0, 1, 2, 3, 4]) rfl ?_
    refine AOps.cons rfl rfl (AOp.move (.ptr i13 0 0) rfl s27 ?_)
    refine AOps.cons rfl rfl (AOp.fieldAddrF rfl rfl fl_54_1 ?_)
    refine AOps.cons rfl rfl (AOp.loadF (.sl ((at_ ((linesR s).1) i).Words).length (((at_ ((linesR s).1) i).Words).map eStr)) rfl rfl ty_52 rfl ?_)
    have hwd := line_at s hi0 (by omega)
    refine AOps.cons rfl rfl (AOp.xcall («as» := [.ptr i13 0 0, .sl ((at_ ((linesR s).1) i).Words).length (((at_ ((linesR s).1) i).Words).map eStr)]) rfl rfl (rfl) tf_11 (c_read (B := H8) rd60 rd59 hok ((at_ ((linesR s).1) i).Words) hwd.1 hwd.2) ?_)
    rintro _ H61 (⟨t62, et63, hR64, m65, rfl⟩ | ⟨k66, et63, m65, rfl⟩)
    ·
     refine AOps.cons rfl rfl (AOp.assign (.int .i64 0) rfl rfl ?_)
     refine AOps.nil ?_
     change AWP _ _ _ _ _ _
     refine AWP.seq ?_
     refine AWP.region (l := [0, 1]) rfl ?_
     refine AOps.cons rfl rfl (AOp.move (.int .i64 0) rfl rfl ?_)
     refine AOps.cons rfl rfl (AOp.bin (.bool (!decide (0 = 0))) rfl rfl rfl ine ?_)
     refine AOps.nil ?_
     change AWP _ _ _ _ _ _
     refine AWP.condF rfl (nb (decide_eq_true (by decide))) ?_
     refine AWP.skip ?_
     change AWP _ _ _ _ _ _
     refine AWP.region (l := [0, 1]) rfl ?_
     refine AOps.cons rfl rfl (AOp.bin (.int .i64 (i + 1)) rfl s25 rfl (iadd (by omega)) ?_)
     refine AOps.cons rfl rfl (AOp.move (.int .i64 (i + 1)) rfl rfl ?_)
     refine AOps.nil ?_
     exact ⟨_, by omega, i + 1, t62, rfl, rfl, s26, s27, s28, s29, (m65 _ _ h10), (Mono.trans m11 m65), hR64, m65, by omega, by omega, by rw [hfd]; exact fold_step hi0 (by omega) et63, by exact lineP_ok hok et63⟩
    ·
     have hk67 := line_err et63
     refine AOps.cons rfl rfl (AOp.assign (.int .i64 k66) rfl rfl ?_)
     refine AOps.nil ?_
     change AWP _ _ _ _ _ _
     refine AWP.seq ?_
     refine AWP.region (l := [0, 1]) rfl ?_
     refine AOps.cons rfl rfl (AOp.move (.int .i64 k66) rfl rfl ?_)
     refine AOps.cons rfl rfl (AOp.bin (.bool (!decide (k66 = 0))) rfl rfl rfl ine ?_)
     refine AOps.nil ?_
     change AWP _ _ _ _ _ _
     refine AWP.condT rfl (nb (decide_eq_false hk67)) ?_
     refine AWP.seq ?_
     refine AWP.region_str mixed (by kernel_rfl) [(0, none), (1, none), (2, none), (3, none), (4, some [1, 2, 3]), (5, none)] [6] (by kernel_rfl) ?_
     refine STR.op rfl rfl (.inl ⟨rfl, fun H1 f' H' hf hN hM => AOp.build (cells := [.int .i64 0, .int .i64 0, .int .i64 0, .int .i64 0, .int .i64 0, .int .i64 0, .int .i64 0, .int .i64 0, .int .i64 0, .int .i64 0, .int .i64 0, .int .i64 0, .int .i64 0, .int .i64 0, .int .i64 0, .int .i64 0, .int .i64 0, .int .i64 0, .int .i64 0, .snil, .snil, .snil, .snil, .snil]) rfl tz_35 pl_35 rfl rfl ⟨rfl, hN⟩⟩) ?_
     refine STR.op rfl rfl (.inl ⟨rfl, fun H1 f' H' hf hN hM => AOp.fieldAddrF rfl ((hf 10 rfl).trans rfl) fl_54_0 ⟨rfl, hN⟩⟩) ?_
     refine STR.op rfl rfl (.inl ⟨rfl, fun H1 f' H' hf hN hM => AOp.loadF (.int .i64 ((at_ ((linesR s).1) i).No)) rfl ((hf 38 rfl).trans rfl) ty_3 rfl ⟨rfl, hN⟩⟩) ?_
     refine STR.op rfl rfl (.inl ⟨rfl, fun H1 f' H' hf hN hM => AOp.move (.int .i64 k66) rfl ((hf 11 rfl).trans rfl) ⟨rfl, hN⟩⟩) ?_
     refine STR.st rfl rfl rfl fun f68 H69 hf70 m71 => ?_
     have h72 := m71 _ _ (m65 _ _ h10)
     have m73 := (Mono.trans m11 m65).trans m71
     refine AOp.store' (cells' := [.int .i64 0, .int .i64 0, .int .i64 0, .int .i64 0, .int .i64 0, .int .i64 0, .int .i64 0, .int .i64 0, .int .i64 0, .int .i64 0, .int .i64 0, .int .i64 0, .int .i64 0, .int .i64 0, .int .i64 0, .int .i64 0, .int .i64 0, .int .i64 0, .int .i64 0, .snil, .snil, .snil, .snil, .snil]) (.agg [.int .i64 0, .int .i64 0, .int .i64 0, .int .i64 0, .int .i64 0, .int .i64 0, .int .i64 0, .int .i64 0, .int .i64 0, .int .i64 0, .int .i64 0, .int .i64 0, .int .i64 0, .int .i64 0, .int .i64 0, .int .i64 0, .int .i64 0, .int .i64 0, .int .i64 0, .snil, .snil, .snil, .snil, .snil]) ((hf70 2 rfl).trans s26) ((hf70 37 rfl).trans rfl) ts_35 h72 rfl rfl rfl rfl ?_
     intro H74 h75 k76
     have m78 := Mono.set m73 z6 k76
     refine ⟨rfl, .inr (RevR.cons rfl (.inl ⟨rfl, fun H1 f' H' hf hN hM => AOp.move (.int .i64 k66) rfl ((hf 11 rfl).trans rfl) ⟨rfl, hN⟩⟩) (RevR.cons rfl (.inl ⟨rfl, fun H1 f' H' hf hN hM => AOp.loadF (.int .i64 ((at_ ((linesR s).1) i).No)) rfl ((hf 38 rfl).trans rfl) ty_3 rfl ⟨rfl, hN⟩⟩) (RevR.cons rfl (.inl ⟨rfl, fun H1 f' H' hf hN hM => AOp.fieldAddrF rfl ((hf 10 rfl).trans rfl) fl_54_0 ⟨rfl, hN⟩⟩) (RevR.skip rfl RevR.nil)))), ?_⟩
     refine STR.op rfl rfl (.inl ⟨rfl, fun H1 f' H' hf hN hM => AOp.assign (.int .i64 ((at_ ((linesR s).1) i).No)) rfl ((hf 39 rfl).trans rfl) ⟨rfl, hN⟩⟩) ?_
     refine STR.done fun H79 m80 => ?_
     have h81 := m80 _ _ h75
     have m82 := m78.trans m80
     refine AOps.cons rfl rfl (AOp.assign (.int .i64 k66) rfl rfl ?_)
     refine AOps.nil ?_
     change AWP _ _ _ _ _ _
     refine AWP.ret ?_
     refine Fin.frzCell 19 (Own.nil H0 H79 1) h81 z6 rfl (NotId.nil _) m82 fun H83 h84 m85 k86 => ?_
     have h87 : H83 i1 = some (.row 0 ([.int .i64 0, .int .i64 0, .int .i64 0, .int .i64 0, .int .i64 0, .int .i64 0, .int .i64 0, .int .i64 0, .int .i64 0, .int .i64 0, .int .i64 0, .int .i64 0, .int .i64 0, .int .i64 0, .int .i64 0, .int .i64 0, .int .i64 0, .int .i64 0, .int .i64 0, .sl 0 ([]), .snil, .snil, .snil, .snil])) := h84
     refine Fin.frzCell 20 (Own.nil H0 H83 1) h87 z6 rfl (NotId.nil _) m85 fun H88 h89 m90 k91 => ?_
     have h92 : H88 i1 = some (.row 0 ([.int .i64 0, .int .i64 0, .int .i64 0, .int .i64 0, .int .i64 0, .int .i64 0, .int .i64 0, .int .i64 0, .int .i64 0, .int .i64 0, .int .i64 0, .int .i64 0, .int .i64 0, .int .i64 0, .int .i64 0, .int .i64 0, .int .i64 0, .int .i64 0, .int .i64 0, .sl 0 ([]), .sl 0 ([]), .snil, .snil, .snil])) := h89
     refine Fin.frzCell 21 (Own.nil H0 H88 1) h92 z6 rfl (NotId.nil _) m90 fun H93 h94 m95 k96 => ?_
     have h97 : H93 i1 = some (.row 0 ([.int .i64 0, .int .i64 0, .int .i64 0, .int .i64 0, .int .i64 0, .int .i64 0, .int .i64 0, .int .i64 0, .int .i64 0, .int .i64 0, .int .i64 0, .int .i64 0, .int .i64 0, .int .i64 0, .int .i64 0, .int .i64 0, .int .i64 0, .int .i64 0, .int .i64 0, .sl 0 ([]), .sl 0 ([]), .sl 0 ([]), .snil, .snil])) := h94
     refine Fin.frzCell 22 (Own.nil H0 H93 1) h97 z6 rfl (NotId.nil _) m95 fun H98 h99 m100 k101 => ?_
     have h102 : H98 i1 = some (.row 0 ([.int .i64 0, .int .i64 0, .int .i64 0, .int .i64 0, .int .i64 0, .int .i64 0, .int .i64 0, .int .i64 0, .int .i64 0, .int .i64 0, .int .i64 0, .int .i64 0, .int .i64 0, .int .i64 0, .int .i64 0, .int .i64 0, .int .i64 0, .int .i64 0, .int .i64 0, .sl 0 ([]), .sl 0 ([]), .sl 0 ([]), .sl 0 ([]), .snil])) := h99
     refine Fin.frzCell 23 (Own.nil H0 H98 1) h102 z6 rfl (NotId.nil _) m100 fun H103 h104 m105 k106 => ?_
     have h107 : H103 i1 = some (.row 0 ([.int .i64 0, .int .i64 0, .int .i64 0, .int .i64 0, .int .i64 0, .int .i64 0, .int .i64 0, .int .i64 0, .int .i64 0, .int .i64 0, .int .i64 0, .int .i64 0, .int .i64 0, .int .i64 0, .int .i64 0, .int .i64 0, .int .i64 0, .int .i64 0, .int .i64 0, .sl 0 ([]), .sl 0 ([]), .sl 0 ([]), .sl 0 ([]), .sl 0 ([])])) := h104
     refine ⟨_, _, Ghost.refl, .inr rfl, _, Res.list rfl rfl (.cell (v := .agg [.int .i64 0, .int .i64 0, .int .i64 0, .int .i64 0, .int .i64 0, .int .i64 0, .int .i64 0, .int .i64 0, .int .i64 0, .int .i64 0, .int .i64 0, .int .i64 0, .int .i64 0, .int .i64 0, .int .i64 0, .int .i64 0, .int .i64 0, .int .i64 0, .int .i64 0, .sl 0 ([]), .sl 0 ([]), .sl 0 ([]), .sl 0 ([]), .sl 0 ([])]) s26 ty_35 h107 rfl (.tmp rfl (.tmp rfl (.nil)))), ?_, m105⟩
     have hP : parseR s = (rd0.scene, (at_ ((linesR s).1) i).No, k66) := parse_err hl0_ hfd hi0 (by omega) et63
     exact (congrArg (fun r : SceneT × Int × Int => AV.tup [.agg (eScene r.1), .int .i64 r.2.1, .int .i64 r.2.2]) hP).symm
   ·
    refine AWP.condF rfl (decide_eq_false b32) ?_
    refine AWP.exit ?_
    change AWP _ _ _ _ _ _
    refine AWP.seq ?_
    refine AWP.seq ?_
    refine AWP.rdFreeze hrd hmm fun H108 m109 h110 => ?_
    have hBid_ : H0 i13 = none := Mono.free m11 n15
    have e111 : i1 ≠ i13 := ne_new h10 n15
    refine AWP.region (l := [0, 1, 2, 3, 4]) rfl ?_
    refine AOps.cons rfl rfl (AOp.move (.ptr i13 0 0) rfl s27 ?_)
    refine AOps.cons rfl rfl (AOp.nilCheck (.ptr i13 0 0) rfl rfl rfl ?_)
    refine AOps.cons rfl rfl (AOp.fieldAddr rfl rfl fl_59_1 ?_ (hid := ⟨_, h110⟩))
    refine AOps.cons rfl rfl (AOp.load (.bool r.hc) rfl rfl ty_4 h110 rfl ?_)
    refine AOps.cons rfl rfl (AOp.not rfl rfl ?_)
    refine AOps.nil ?_
    change AWP _ _ _ _ _ _
    rcases Bool.eq_false_or_eq_true (r.hc) with b112 | b112
    ·
     refine AWP.condF rfl (nb b112) ?_
     refine AWP.skip ?_
     change AWP _ _ _ _ _ _
     refine AWP.seq ?_
     refine AWP.region (l := [0, 1, 2, 3, 4, 5, 6]) rfl ?_
     refine AOps.cons rfl rfl (AOp.move (.ptr i13 0 0) rfl s27 ?_)
     refine AOps.cons rfl rfl (AOp.nilCheck (.ptr i13 0 0) rfl rfl rfl ?_)
     refine AOps.cons rfl rfl (AOp.fieldAddr rfl rfl fl_59_0 ?_ (hid := ⟨_, h110⟩))
     refine AOps.cons rfl rfl (AOp.load (.agg [.int .i64 r.scene.Camera.Eye.X, .int .i64 r.scene.Camera.Eye.Y, .int .i64 r.scene.Camera.Eye.Z, .int .i64 r.scene.Camera.First.X, .int .i64 r.scene.Camera.First.Y, .int .i64 r.scene.Camera.First.Z, .int .i64 r.scene.Camera.Right.X, .int .i64 r.scene.Camera.Right.Y, .int .i64 r.scene.Camera.Right.Z, .int .i64 r.scene.Camera.Down.X, .int .i64 r.scene.Camera.Down.Y, .int .i64 r.scene.Camera.Down.Z, .int .i64 r.scene.Camera.W, .int .i64 r.scene.Camera.H, .int .i64 r.scene.Camera.Grid, .int .i64 r.scene.Camera.Depth, .int .i64 r.scene.Sky.R, .int .i64 r.scene.Sky.G, .int .i64 r.scene.Sky.B, .sl r.scene.Lights.length (r.scene.Lights.flatMap eLight), .sl r.scene.Mats.length (r.scene.Mats.flatMap eMat), .sl r.scene.Texs.length (r.scene.Texs.flatMap eTex), .sl r.scene.Skins.length (r.scene.Skins.flatMap eSkin), .sl r.scene.Cages.length (r.scene.Cages.flatMap eCage)]) rfl rfl ty_35 h110 rfl ?_)
     refine AOps.cons rfl rfl (AOp.store' (cells' := [.int .i64 r.scene.Camera.Eye.X, .int .i64 r.scene.Camera.Eye.Y, .int .i64 r.scene.Camera.Eye.Z, .int .i64 r.scene.Camera.First.X, .int .i64 r.scene.Camera.First.Y, .int .i64 r.scene.Camera.First.Z, .int .i64 r.scene.Camera.Right.X, .int .i64 r.scene.Camera.Right.Y, .int .i64 r.scene.Camera.Right.Z, .int .i64 r.scene.Camera.Down.X, .int .i64 r.scene.Camera.Down.Y, .int .i64 r.scene.Camera.Down.Z, .int .i64 r.scene.Camera.W, .int .i64 r.scene.Camera.H, .int .i64 r.scene.Camera.Grid, .int .i64 r.scene.Camera.Depth, .int .i64 r.scene.Sky.R, .int .i64 r.scene.Sky.G, .int .i64 r.scene.Sky.B, .sl r.scene.Lights.length (r.scene.Lights.flatMap eLight), .sl r.scene.Mats.length (r.scene.Mats.flatMap eMat), .sl r.scene.Texs.length (r.scene.Texs.flatMap eTex), .sl r.scene.Skins.length (r.scene.Skins.flatMap eSkin), .sl r.scene.Cages.length (r.scene.Cages.flatMap eCage)]) (.agg [.int .i64 r.scene.Camera.Eye.X, .int .i64 r.scene.Camera.Eye.Y, .int .i64 r.scene.Camera.Eye.Z, .int .i64 r.scene.Camera.First.X, .int .i64 r.scene.Camera.First.Y, .int .i64 r.scene.Camera.First.Z, .int .i64 r.scene.Camera.Right.X, .int .i64 r.scene.Camera.Right.Y, .int .i64 r.scene.Camera.Right.Z, .int .i64 r.scene.Camera.Down.X, .int .i64 r.scene.Camera.Down.Y, .int .i64 r.scene.Camera.Down.Z, .int .i64 r.scene.Camera.W, .int .i64 r.scene.Camera.H, .int .i64 r.scene.Camera.Grid, .int .i64 r.scene.Camera.Depth, .int .i64 r.scene.Sky.R, .int .i64 r.scene.Sky.G, .int .i64 r.scene.Sky.B, .sl r.scene.Lights.length (r.scene.Lights.flatMap eLight), .sl r.scene.Mats.length (r.scene.Mats.flatMap eMat), .sl r.scene.Texs.length (r.scene.Texs.flatMap eTex), .sl r.scene.Skins.length (r.scene.Skins.flatMap eSkin), .sl r.scene.Cages.length (r.scene.Cages.flatMap eCage)]) s26 rfl ts_35 (m109 _ _ h10) rfl rfl rfl rfl ?_)
     intro H113 h114 k115
     have h117 := keep k115 (Ne.symm e111) h110
     have m118 := Mono.set (Mono.trans m11 m109) z6 k115
     refine AOps.cons rfl rfl (AOp.assign (.int .i64 0) rfl rfl ?_)
     refine AOps.cons rfl rfl (AOp.assign (.int .i64 0) rfl rfl ?_)
     refine AOps.nil ?_
     change AWP _ _ _ _ _ _
     refine AWP.ret ?_
     refine ⟨_, _, Ghost.refl, .inr rfl, _, Res.list rfl rfl (.cell (v := .agg [.int .i64 r.scene.Camera.Eye.X, .int .i64 r.scene.Camera.Eye.Y, .int .i64 r.scene.Camera.Eye.Z, .int .i64 r.scene.Camera.First.X, .int .i64 r.scene.Camera.First.Y, .int .i64 r.scene.Camera.First.Z, .int .i64 r.scene.Camera.Right.X, .int .i64 r.scene.Camera.Right.Y, .int .i64 r.scene.Camera.Right.Z, .int .i64 r.scene.Camera.Down.X, .int .i64 r.scene.Camera.Down.Y, .int .i64 r.scene.Camera.Down.Z, .int .i64 r.scene.Camera.W, .int .i64 r.scene.Camera.H, .int .i64 r.scene.Camera.Grid, .int .i64 r.scene.Camera.Depth, .int .i64 r.scene.Sky.R, .int .i64 r.scene.Sky.G, .int .i64 r.scene.Sky.B, .sl r.scene.Lights.length (r.scene.Lights.flatMap eLight), .sl r.scene.Mats.length (r.scene.Mats.flatMap eMat), .sl r.scene.Texs.length (r.scene.Texs.flatMap eTex), .sl r.scene.Skins.length (r.scene.Skins.flatMap eSkin), .sl r.scene.Cages.length (r.scene.Cages.flatMap eCage)]) s26 ty_35 h114 rfl (.tmp rfl (.tmp rfl (.nil)))), ?_, m118⟩
     have hP : parseR s = (r.scene, 0, 0) := parse_ok hl0_ hfd (by omega) b112
     exact (congrArg (fun r : SceneT × Int × Int => AV.tup [.agg (eScene r.1), .int .i64 r.2.1, .int .i64 r.2.2]) hP).symm
    ·
     refine AWP.condT rfl (nb b112) ?_
     refine AWP.seq ?_
     refine AWP.region (l := [0, 1, 2, 3]) rfl ?_
     refine AOps.cons rfl rfl (AOp.build (cells := [.int .i64 0, .int .i64 0, .int .i64 0, .int .i64 0, .int .i64 0, .int .i64 0, .int .i64 0, .int .i64 0, .int .i64 0, .int .i64 0, .int .i64 0, .int .i64 0, .int .i64 0, .int .i64 0, .int .i64 0, .int .i64 0, .int .i64 0, .int .i64 0, .int .i64 0, .snil, .snil, .snil, .snil, .snil]) rfl tz_35 pl_35 rfl rfl ?_)
     refine AOps.cons rfl rfl (AOp.store' (cells' := [.int .i64 0, .int .i64 0, .int .i64 0, .int .i64 0, .int .i64 0, .int .i64 0, .int .i64 0, .int .i64 0, .int .i64 0, .int .i64 0, .int .i64 0, .int .i64 0, .int .i64 0, .int .i64 0, .int .i64 0, .int .i64 0, .int .i64 0, .int .i64 0, .int .i64 0, .snil, .snil, .snil, .snil, .snil]) (.agg [.int .i64 0, .int .i64 0, .int .i64 0, .int .i64 0, .int .i64 0, .int .i64 0, .int .i64 0, .int .i64 0, .int .i64 0, .int .i64 0, .int .i64 0, .int .i64 0, .int .i64 0, .int .i64 0, .int .i64 0, .int .i64 0, .int .i64 0, .int .i64 0, .int .i64 0, .snil, .snil, .snil, .snil, .snil]) s26 rfl ts_35 (m109 _ _ h10) rfl rfl rfl rfl ?_)
     intro H119 h120 k121
     have h123 := keep k121 (Ne.symm e111) h110
     have m124 := Mono.set (Mono.trans m11 m109) z6 k121
     refine AOps.cons rfl rfl (AOp.assign (.int .i64 0) rfl rfl ?_)
     refine AOps.cons rfl rfl (AOp.assign (.int .i64 15) rfl rfl ?_)
     refine AOps.nil ?_
     change AWP _ _ _ _ _ _
     refine AWP.ret ?_
     refine Fin.frzCell 19 (Own.nil H0 H119 1) h120 z6 rfl (NotId.nil _) m124 fun H125 h126 m127 k128 => ?_
     have h129 := (k128 _ (Ne.symm e111) (NotId.nil _)).trans h123
     have h130 : H125 i1 = some (.row 0 ([.int .i64 0, .int .i64 0, .int .i64 0, .int .i64 0, .int .i64 0, .int .i64 0, .int .i64 0, .int .i64 0, .int .i64 0, .int .i64 0, .int .i64 0, .int .i64 0, .int .i64 0, .int .i64 0, .int .i64 0, .int .i64 0, .int .i64 0, .int .i64 0, .int .i64 0, .sl 0 ([]), .snil, .snil, .snil, .snil])) := h126
     refine Fin.frzCell 20 (Own.nil H0 H125 1) h130 z6 rfl (NotId.nil _) m127 fun H131 h132 m133 k134 => ?_
     have h135 := (k134 _ (Ne.symm e111) (NotId.nil _)).trans h129
     have h136 : H131 i1 = some (.row 0 ([.int .i64 0, .int .i64 0, .int .i64 0, .int .i64 0, .int .i64 0, .int .i64 0, .int .i64 0, .int .i64 0, .int .i64 0, .int .i64 0, .int .i64 0, .int .i64 0, .int .i64 0, .int .i64 0, .int .i64 0, .int .i64 0, .int .i64 0, .int .i64 0, .int .i64 0, .sl 0 ([]), .sl 0 ([]), .snil, .snil, .snil])) := h132
     refine Fin.frzCell 21 (Own.nil H0 H131 1) h136 z6 rfl (NotId.nil _) m133 fun H137 h138 m139 k140 => ?_
     have h141 := (k140 _ (Ne.symm e111) (NotId.nil _)).trans h135
     have h142 : H137 i1 = some (.row 0 ([.int .i64 0, .int .i64 0, .int .i64 0, .int .i64 0, .int .i64 0, .int .i64 0, .int .i64 0, .int .i64 0, .int .i64 0, .int .i64 0, .int .i64 0, .int .i64 0, .int .i64 0, .int .i64 0, .int .i64 0, .int .i64 0, .int .i64 0, .int .i64 0, .int .i64 0, .sl 0 ([]), .sl 0 ([]), .sl 0 ([]), .snil, .snil])) := h138
     refine Fin.frzCell 22 (Own.nil H0 H137 1) h142 z6 rfl (NotId.nil _) m139 fun H143 h144 m145 k146 => ?_
     have h147 := (k146 _ (Ne.symm e111) (NotId.nil _)).trans h141
     have h148 : H143 i1 = some (.row 0 ([.int .i64 0, .int .i64 0, .int .i64 0, .int .i64 0, .int .i64 0, .int .i64 0, .int .i64 0, .int .i64 0, .int .i64 0, .int .i64 0, .int .i64 0, .int .i64 0, .int .i64 0, .int .i64 0, .int .i64 0, .int .i64 0, .int .i64 0, .int .i64 0, .int .i64 0, .sl 0 ([]), .sl 0 ([]), .sl 0 ([]), .sl 0 ([]), .snil])) := h144
     refine Fin.frzCell 23 (Own.nil H0 H143 1) h148 z6 rfl (NotId.nil _) m145 fun H149 h150 m151 k152 => ?_
     have h153 := (k152 _ (Ne.symm e111) (NotId.nil _)).trans h147
     have h154 : H149 i1 = some (.row 0 ([.int .i64 0, .int .i64 0, .int .i64 0, .int .i64 0, .int .i64 0, .int .i64 0, .int .i64 0, .int .i64 0, .int .i64 0, .int .i64 0, .int .i64 0, .int .i64 0, .int .i64 0, .int .i64 0, .int .i64 0, .int .i64 0, .int .i64 0, .int .i64 0, .int .i64 0, .sl 0 ([]), .sl 0 ([]), .sl 0 ([]), .sl 0 ([]), .sl 0 ([])])) := h150
     refine ⟨_, _, Ghost.refl, .inr rfl, _, Res.list rfl rfl (.cell (v := .agg [.int .i64 0, .int .i64 0, .int .i64 0, .int .i64 0, .int .i64 0, .int .i64 0, .int .i64 0, .int .i64 0, .int .i64 0, .int .i64 0, .int .i64 0, .int .i64 0, .int .i64 0, .int .i64 0, .int .i64 0, .int .i64 0, .int .i64 0, .int .i64 0, .int .i64 0, .sl 0 ([]), .sl 0 ([]), .sl 0 ([]), .sl 0 ([]), .sl 0 ([])]) s26 ty_35 h154 rfl (.tmp rfl (.tmp rfl (.nil)))), ?_, m151⟩
     have hP : parseR s = (rd0.scene, 0, 15) := parse_no hl0_ hfd (by omega) b112
     exact (congrArg (fun r : SceneT × Int × Int => AV.tup [.agg (eScene r.1), .int .i64 r.2.1, .int .i64 r.2.2]) hP).symm
 ·
  refine AWP.condT rfl (nb (decide_eq_false b12)) ?_
  refine AWP.seq ?_
  refine AWP.region (l := [0, 1, 2, 3, 4, 5]) rfl ?_
  refine AOps.cons rfl rfl (AOp.build (cells := [.int .i64 0, .int .i64 0, .int .i64 0, .int .i64 0, .int .i64 0, .int .i64 0, .int .i64 0, .int .i64 0, .int .i64 0, .int .i64 0, .int .i64 0, .int .i64 0, .int .i64 0, .int .i64 0, .int .i64 0, .int .i64 0, .int .i64 0, .int .i64 0, .int .i64 0, .snil, .snil, .snil, .snil, .snil]) rfl tz_35 pl_35 rfl rfl ?_)
  refine AOps.cons rfl rfl (AOp.move (.int .i64 ((linesR s).2.1)) rfl rfl ?_)
  refine AOps.cons rfl rfl (AOp.move (.int .i64 ((linesR s).2.2)) rfl rfl ?_)
  refine AOps.cons rfl rfl (AOp.store' (cells' := [.int .i64 0, .int .i64 0, .int .i64 0, .int .i64 0, .int .i64 0, .int .i64 0, .int .i64 0, .int .i64 0, .int .i64 0, .int .i64 0, .int .i64 0, .int .i64 0, .int .i64 0, .int .i64 0, .int .i64 0, .int .i64 0, .int .i64 0, .int .i64 0, .int .i64 0, .snil, .snil, .snil, .snil, .snil]) (.agg [.int .i64 0, .int .i64 0, .int .i64 0, .int .i64 0, .int .i64 0, .int .i64 0, .int .i64 0, .int .i64 0, .int .i64 0, .int .i64 0, .int .i64 0, .int .i64 0, .int .i64 0, .int .i64 0, .int .i64 0, .int .i64 0, .int .i64 0, .int .i64 0, .int .i64 0, .snil, .snil, .snil, .snil, .snil]) rfl rfl ts_35 h10 rfl rfl rfl rfl ?_)
  intro H155 h156 k157
  have m159 := Mono.set m11 z6 k157
  refine AOps.cons rfl rfl (AOp.assign (.int .i64 ((linesR s).2.1)) rfl rfl ?_)
  refine AOps.cons rfl rfl (AOp.assign (.int .i64 ((linesR s).2.2)) rfl rfl ?_)
  refine AOps.nil ?_
  change AWP _ _ _ _ _ _
  refine AWP.ret ?_
  refine Fin.frzCell 19 (Own.nil H0 H155 1) h156 z6 rfl (NotId.nil _) m159 fun H160 h161 m162 k163 => ?_
  have h164 : H160 i1 = some (.row 0 ([.int .i64 0, .int .i64 0, .int .i64 0, .int .i64 0, .int .i64 0, .int .i64 0, .int .i64 0, .int .i64 0, .int .i64 0, .int .i64 0, .int .i64 0, .int .i64 0, .int .i64 0, .int .i64 0, .int .i64 0, .int .i64 0, .int .i64 0, .int .i64 0, .int .i64 0, .sl 0 ([]), .snil, .snil, .snil, .snil])) := h161
  refine Fin.frzCell 20 (Own.nil H0 H160 1) h164 z6 rfl (NotId.nil _) m162 fun H165 h166 m167 k168 => ?_
  have h169 : H165 i1 = some (.row 0 ([.int .i64 0, .int .i64 0, .int .i64 0, .int .i64 0, .int .i64 0, .int .i64 0, .int .i64 0, .int .i64 0, .int .i64 0, .int .i64 0, .int .i64 0, .int .i64 0, .int .i64 0, .int .i64 0, .int .i64 0, .int .i64 0, .int .i64 0, .int .i64 0, .int .i64 0, .sl 0 ([]), .sl 0 ([]), .snil, .snil, .snil])) := h166
  refine Fin.frzCell 21 (Own.nil H0 H165 1) h169 z6 rfl (NotId.nil _) m167 fun H170 h171 m172 k173 => ?_
  have h174 : H170 i1 = some (.row 0 ([.int .i64 0, .int .i64 0, .int .i64 0, .int .i64 0, .int .i64 0, .int .i64 0, .int .i64 0, .int .i64 0, .int .i64 0, .int .i64 0, .int .i64 0, .int .i64 0, .int .i64 0, .int .i64 0, .int .i64 0, .int .i64 0, .int .i64 0, .int .i64 0, .int .i64 0, .sl 0 ([]), .sl 0 ([]), .sl 0 ([]), .snil, .snil])) := h171
  refine Fin.frzCell 22 (Own.nil H0 H170 1) h174 z6 rfl (NotId.nil _) m172 fun H175 h176 m177 k178 => ?_
  have h179 : H175 i1 = some (.row 0 ([.int .i64 0, .int .i64 0, .int .i64 0, .int .i64 0, .int .i64 0, .int .i64 0, .int .i64 0, .int .i64 0, .int .i64 0, .int .i64 0, .int .i64 0, .int .i64 0, .int .i64 0, .int .i64 0, .int .i64 0, .int .i64 0, .int .i64 0, .int .i64 0, .int .i64 0, .sl 0 ([]), .sl 0 ([]), .sl 0 ([]), .sl 0 ([]), .snil])) := h176
  refine Fin.frzCell 23 (Own.nil H0 H175 1) h179 z6 rfl (NotId.nil _) m177 fun H180 h181 m182 k183 => ?_
  have h184 : H180 i1 = some (.row 0 ([.int .i64 0, .int .i64 0, .int .i64 0, .int .i64 0, .int .i64 0, .int .i64 0, .int .i64 0, .int .i64 0, .int .i64 0, .int .i64 0, .int .i64 0, .int .i64 0, .int .i64 0, .int .i64 0, .int .i64 0, .int .i64 0, .int .i64 0, .int .i64 0, .int .i64 0, .sl 0 ([]), .sl 0 ([]), .sl 0 ([]), .sl 0 ([]), .sl 0 ([])])) := h181
  refine ⟨_, _, Ghost.refl, .inr rfl, _, Res.list rfl rfl (.cell (v := .agg [.int .i64 0, .int .i64 0, .int .i64 0, .int .i64 0, .int .i64 0, .int .i64 0, .int .i64 0, .int .i64 0, .int .i64 0, .int .i64 0, .int .i64 0, .int .i64 0, .int .i64 0, .int .i64 0, .int .i64 0, .int .i64 0, .int .i64 0, .int .i64 0, .int .i64 0, .sl 0 ([]), .sl 0 ([]), .sl 0 ([]), .sl 0 ([]), .sl 0 ([])]) rfl ty_35 h184 rfl (.tmp rfl (.tmp rfl (.nil)))), ?_, m182⟩
  have hP : parseR s = (rd0.scene, (linesR s).2.1, (linesR s).2.2) := if_neg b12
  exact (congrArg (fun r : SceneT × Int × Int => AV.tup [.agg (eScene r.1), .int .i64 r.2.1, .int .i64 r.2.2]) hP).symm
end Go.Proofs.S
namespace Go.AH
variable [Globs]
set_option linter.unusedSectionVars false
open Go Go.Maps
end Go.AH
namespace Go.Proofs.S
open Go Go.AH Go.Proofs.L
set_option maxRecDepth 4000
set_option maxHeartbeats 4000000
set_option linter.unusedSimpArgs false
set_option linter.unusedVariables false
set_option linter.unusedSectionVars false
variable [LexG]
theorem laid : laidOutB Tryd.prog = true := by kernel_rfl
def ranV (v : VT) : Prop := inR v.X ∧ inR v.Y ∧ inR v.Z
def ranCol (v : ColT) : Prop := inR v.R ∧ inR v.G ∧ inR v.B
def ranCam (v : CamT) : Prop := inR v.Eye.X ∧ inR v.Eye.Y ∧ inR v.Eye.Z ∧ inR v.First.X ∧ inR v.First.Y ∧ inR v.First.Z ∧ inR v.Right.X ∧ inR v.Right.Y ∧ inR v.Right.Z ∧ inR v.Down.X ∧ inR v.Down.Y ∧ inR v.Down.Z ∧ inR v.W ∧ inR v.H ∧ inR v.Grid ∧ inR v.Depth
def ranLight (v : LightT) : Prop := inR v.At.X ∧ inR v.At.Y ∧ inR v.At.Z ∧ inR v.Color.R ∧ inR v.Color.G ∧ inR v.Color.B
def ranMat (v : MatT) : Prop := (v.Name).size ≤ 1048576 ∧ inR v.Color.R ∧ inR v.Color.G ∧ inR v.Color.B ∧ inR v.Shine ∧ inR v.Sharp ∧ inR v.Mirror ∧ inR v.Clear ∧ inR v.Ior
def ranSkin (v : SkinT) : Prop := (v.Name).size ≤ 1048576 ∧ inR v.Mat ∧ inR v.Levels ∧ inR v.Unit ∧ inR v.Tex ∧ inR v.Height
def ranCr (v : CrT) : Prop := inR v.A ∧ inR v.B ∧ inR v.S
instance : DecidableEq MatT := fun a b => decidable_of_iff (a.Name = b.Name ∧ a.Color = b.Color ∧ a.Shine = b.Shine ∧ a.Sharp = b.Sharp ∧ a.Mirror = b.Mirror ∧ a.Clear = b.Clear ∧ a.Ior = b.Ior) (by cases a; cases b; simp)
instance : DecidableEq TexT := fun a b => decidable_of_iff (a.Name = b.Name ∧ a.W = b.W ∧ a.H = b.H ∧ a.Rows = b.Rows) (by cases a; cases b; simp)
instance : DecidableEq SkinT := fun a b => decidable_of_iff (a.Name = b.Name ∧ a.Mat = b.Mat ∧ a.Levels = b.Levels ∧ a.Unit = b.Unit ∧ a.Tex = b.Tex ∧ a.Height = b.Height) (by cases a; cases b; simp)
instance : DecidableEq SceneT := fun a b => decidable_of_iff (a.Camera = b.Camera ∧ a.Sky = b.Sky ∧ a.Lights = b.Lights ∧ a.Mats = b.Mats ∧ a.Texs = b.Texs ∧ a.Skins = b.Skins ∧ a.Cages = b.Cages) (by cases a; cases b; simp)
def ranCage (g : CageT) : Prop := (g.Verts.length ≤ 1048576 ∧ g.Faces.length ≤ 1048576 ∧ g.Creases.length ≤ 1048576) ∧ (∀ v ∈ g.Verts, ranV v) ∧ (∀ c ∈ g.Creases, ranCr c) ∧ ∀ f ∈ g.Faces, f.length ≤ 1048576 ∧ ∀ x ∈ f, inR x
def ranTex (t : TexT) : Prop := t.Name.size ≤ 1048576 ∧ inR t.W ∧ inR t.H ∧ t.Rows.length ≤ 1048576 ∧ ∀ x ∈ t.Rows, inR x
structure RanS (a : SceneT) : Prop where
  cam : ranCam a.Camera
  sky : ranCol a.Sky
  nl : a.Lights.length ≤ 1048576
  nm : a.Mats.length ≤ 1048576
  nt : a.Texs.length ≤ 1048576
  nk : a.Skins.length ≤ 1048576
  nc : a.Cages.length ≤ 1048576
  l : ∀ x ∈ a.Lights, ranLight x
  m : ∀ x ∈ a.Mats, ranMat x
  t : ∀ x ∈ a.Texs, ranTex x
  k : ∀ x ∈ a.Skins, ranSkin x
  c : ∀ x ∈ a.Cages, ranCage x
end Go.Proofs.S
namespace Go.Proofs.S
open Go Go.AH Go.Proofs.L
set_option maxRecDepth 4000
set_option maxHeartbeats 4000000
set_option linter.unusedSimpArgs false
set_option linter.unusedVariables false
set_option linter.unusedSectionVars false
variable [LexG]
end Go.Proofs.S
namespace Go.Proofs.S
open Go Go.AH Go.Proofs.L
set_option maxRecDepth 4000
set_option linter.unusedSectionVars false
variable [LexG]
theorem at_out {α : Type} [Inhabited α] {l : List α} {i : Int} (h : (l.length : Int) ≤ i) : at_ l i = default := by
  simp only [at_, List.getD_eq_getElem?_getD]
  rw [List.getElem?_eq_none (by omega)]; rfl
theorem at_neg {α : Type} [Inhabited α] {l : List α} {i : Int} (h : i < 0) : at_ l i = at_ l 0 := by
  simp only [at_, show i.toNat = (0 : Int).toNat by omega]
theorem numsL_at (w : List ByteArray) (i : Int) : -999999 ≤ at_ (numsL w) i ∧ at_ (numsL w) i ≤ 999999 := by
  have key : ∀ i : Int, 0 ≤ i → -999999 ≤ at_ (numsL w) i ∧ at_ (numsL w) i ≤ 999999 := fun i h0 => by
    by_cases h : i < ((numsL w).length : Int)
    · exact nums_rng w i h0 h
    · rw [at_out (by omega), show (default : Int) = 0 from rfl]; omega
  by_cases h : i < 0
  · rw [at_neg h]; exact key 0 (by omega)
  · exact key i (by omega)
theorem inRn (w : List ByteArray) (i : Int) : inR (at_ (numsL w) i) := by have := numsL_at w i; unfold inR; omega
theorem numsL_drop (w : List ByteArray) (k : Nat) : (numsL w).drop k = numsL (w.drop k) := by simp [numsL]
theorem ranPt (w : List ByteArray) : ranV (ptR (numsL w)) := ⟨inRn _ _, inRn _ _, inRn _ _⟩
theorem ranColR (w : List ByteArray) : ranCol (colR (numsL w)) := ⟨inRn _ _, inRn _ _, inRn _ _⟩
theorem named_at {w : List ByteArray} {k l : Int} (h : namedB w k l = true) (hk : 1 ≤ k) (hl : 1 ≤ l) : (at_ w 0).size ≤ 1048576 := by
  have h1 := named_len h
  simp only [namedB, Bool.and_eq_true] at h
  have hm : at_ w 0 ∈ w.take k.toNat := by
    match w, h1 with
    | [], h1 => simp at h1; omega
    | a :: r, _ =>
      obtain ⟨m, hm⟩ : ∃ m, k.toNat = m + 1 := ⟨k.toNat - 1, by omega⟩
      rw [hm]; simp [at_]
  have := (nameB_iff.1 (List.all_eq_true.1 h.2 _ hm)).2.1
  omega
theorem putC_all {p : CageT → Prop} {cs : List CageT} {c : CageT} (h : ∀ c ∈ cs, p c) (hc : p c) : ∀ x ∈ putC cs c, p x := fun x hx => by
  rcases List.mem_append.1 hx with hx | hx
  · exact h x (List.dropLast_subset _ hx)
  · rw [List.mem_singleton.1 hx]; exact hc
theorem snoc_all {α : Type} {p : α → Prop} {l : List α} {a : α} (h : ∀ x ∈ l, p x) (ha : p a) : ∀ x ∈ l ++ [a], p x := fun x hx => by
  rcases List.mem_append.1 hx with hx | hx
  · exact h x hx
  · rw [List.mem_singleton.1 hx]; exact ha
theorem idx_inR (l : List ByteArray) (x : ByteArray) (h : l.length ≤ 1048576) : inR (idxN l x) := by have := idxN_rng l x; unfold inR; omega
theorem mem_nums {w : List ByteArray} {x : Int} (h : x ∈ numsL w) : inR x := by
  obtain ⟨y, _, rfl⟩ := List.mem_map.1 h
  have := num_rng y; unfold inR; omega
theorem lineP_ran {s t : Rd} {w : List ByteArray} (hw : w.length ≤ 1048576) (ok : RdOk s) (r : RanS s.scene) (h : lineP s w = .ok t) : RanS t.scene := by
  have ok' := lineP_ok ok h
  obtain ⟨a1, a2, a3, a4, a5, a6⟩ := ok
  obtain ⟨b1, b2, b3, b4, b5, b6⟩ := ok'
  obtain ⟨cam, sky, _, _, _, _, _, rl, rm, rt, rk, rc⟩ := r
  have lens : t.scene.Lights.length ≤ 1048576 ∧ t.scene.Mats.length ≤ 1048576 ∧ t.scene.Texs.length ≤ 1048576 ∧ t.scene.Skins.length ≤ 1048576 ∧ t.scene.Cages.length ≤ 1048576 :=
    ⟨Nat.le_trans b1 (by decide), Nat.le_trans b2 (by decide), Nat.le_trans b3 (by decide), Nat.le_trans b4 (by decide), by show t.cages.length ≤ _; omega⟩
  obtain ⟨n1, n2, n3, n4, n5⟩ := lens
  have lc : s.cages ≠ [] → ranCage (lastC s.cages) := fun hne => rc _ (lastC_mem hne)
  unfold lineP at h
  simp only [cameraP, skyP, lightP, textureP, materialP, cageP, vertexP, faceP, creaseP] at h
  repeat' split at h
  all_goals simp only [gd_ok, Except.ok.injEq, decide_eq_true_eq, reduceCtorEq] at h
  · obtain ⟨_, _, _, _, _, _, _, rfl⟩ := h
    refine ⟨?_, sky, n1, n2, n3, n4, n5, rl, rm, rt, rk, rc⟩
    show ranCam _
    simp only [numsL_drop]
    exact ⟨inRn _ _, inRn _ _, inRn _ _, inRn _ _, inRn _ _, inRn _ _, inRn _ _, inRn _ _, inRn _ _, inRn _ _, inRn _ _, inRn _ _, inRn _ _, inRn _ _, inRn _ _, inRn _ _⟩
  · obtain ⟨_, _, _, rfl⟩ := h; exact ⟨cam, ranColR _, n1, n2, n3, n4, n5, rl, rm, rt, rk, rc⟩
  · obtain ⟨_, h1, _, _, rfl⟩ := h
    refine ⟨cam, sky, n1, n2, n3, n4, n5, snoc_all rl ?_, rm, rt, rk, rc⟩
    simp only [numsL_drop]
    exact ⟨inRn _ _, inRn _ _, inRn _ _, inRn _ _, inRn _ _, inRn _ _⟩
  · obtain ⟨h0, _, _, h1, _, _, _, rfl⟩ := h
    refine ⟨cam, sky, n1, n2, n3, n4, n5, rl, rm, snoc_all rt ⟨named_at h0 (by omega) (by omega), inRn _ _, inRn _ _, ?_, fun x hx => ?_⟩, rk, rc⟩
    · rw [numsL_drop, numsL_len]; simp; omega
    · rw [numsL_drop] at hx; exact mem_nums hx
  · obtain ⟨h0, _, h1, _, _, _, _, _, _, rfl⟩ := h
    exact ⟨cam, sky, n1, n2, n3, n4, n5, rl, snoc_all rm ⟨named_at h0 (by omega) (by omega), inRn _ _, inRn _ _, inRn _ _, inRn _ _, inRn _ _, inRn _ _, inRn _ _, inRn _ _⟩, rt, rk, rc⟩
  · obtain ⟨h0, _, _, h1, _, _, _, _, rfl⟩ := h
    refine ⟨cam, sky, n1, n2, n3, n4, n5, rl, rm, rt, snoc_all rk ⟨named_at h0 (by omega) (by omega), idx_inR _ _ (by simp; omega), inRn (cageW (w.drop 1)) 0, inRn (cageW (w.drop 1)) 1, idx_inR _ _ (by simp; omega), inRn (cageW (w.drop 1)) 2⟩, snoc_all rc ?_⟩
    exact ⟨by simp, by simp, by simp, by simp⟩
  · obtain ⟨_, h1, h2, _, rfl⟩ := h
    have hne : s.cages ≠ [] := List.length_pos_iff.1 (by omega)
    have hc := lc hne
    refine ⟨cam, sky, n1, n2, n3, n4, n5, rl, rm, rt, rk, putC_all rc ⟨⟨by simp; omega, hc.1.2⟩, snoc_all hc.2.1 (ranPt _), hc.2.2⟩⟩
  · obtain ⟨_, h3, h1, h2, _, rfl⟩ := h
    have hne : s.cages ≠ [] := List.length_pos_iff.1 (by omega)
    have hc := lc hne
    have h8 : w.length ≤ 9 := by simp only [Bool.and_eq_true, decide_eq_true_eq, List.length_drop] at h3; omega
    refine ⟨cam, sky, n1, n2, n3, n4, n5, rl, rm, rt, rk, putC_all rc ⟨⟨hc.1.1, by simp; omega, hc.1.2.2⟩, hc.2.1, hc.2.2.1, snoc_all hc.2.2.2 ⟨by rw [numsL_len]; simp; omega, fun x hx => mem_nums hx⟩⟩⟩
  · obtain ⟨_, h1, h2, _, _, _, rfl⟩ := h
    have hne : s.cages ≠ [] := List.length_pos_iff.1 (by omega)
    have hc := lc hne
    refine ⟨cam, sky, n1, n2, n3, n4, n5, rl, rm, rt, rk, putC_all rc ⟨⟨hc.1.1, hc.1.2.1, by simp; omega⟩, hc.2.1, snoc_all hc.2.2.1 ⟨inRn _ _, inRn _ _, inRn _ _⟩, hc.2.2.2⟩⟩
theorem rd0_ran : RanS rd0.scene := by
  have z : inR 0 := by unfold inR; omega
  exact ⟨⟨z, z, z, z, z, z, z, z, z, z, z, z, z, z, z, z⟩, ⟨z, z, z⟩, by decide, by decide, by decide, by decide, by decide, by simp [rd0, Rd.scene], by simp [rd0, Rd.scene], by simp [rd0, Rd.scene], by simp [rd0, Rd.scene], by simp [rd0, Rd.scene]⟩
theorem foldP_ran : ∀ (l : List LineT) (s t : Rd), (∀ x ∈ l, x.Words.length ≤ 1048576) → RdOk s → RanS s.scene → foldP s l = .ok t → RdOk t ∧ RanS t.scene
  | [], s, t, _, h1, h2, h => by cases h; exact ⟨h1, h2⟩
  | x :: r, s, t, hw, h1, h2, h => by
    cases hl : lineP s x.Words with
    | error k => rw [foldP_err hl] at h; cases h
    | ok u =>
      rw [foldP_cons hl] at h
      exact foldP_ran r u t (fun y hy => hw y (.tail _ hy)) (lineP_ok h1 hl) (lineP_ran (hw x (.head _)) h1 h2 hl) h
theorem parse_cases (s : ByteArray) : (∃ t, parseR s = (t.scene, 0, 0) ∧ RdOk t ∧ RanS t.scene ∧ (linesR s).2.2 = 0 ∧ foldP rd0 (linesR s).1 = .ok t ∧ t.hc = true) ∨ ((parseR s).1 = rd0.scene ∧ (parseR s).2.2 ≠ 0) := by
  unfold parseR
  by_cases h : (linesR s).2.2 = 0
  · rw [if_pos h]
    cases hf : foldP rd0 (linesR s).1 with
    | ok t =>
      obtain ⟨h1, h2⟩ := foldP_ran _ _ _ (lines_words s) rd0_ok rd0_ran hf
      by_cases hc : t.hc = true
      · exact .inl ⟨t, by simp [endP, hc], h1, h2, h, rfl, hc⟩
      · exact .inr (by simp [endP, hc])
    | error e =>
      refine .inr ⟨rfl, ?_⟩
      have key : ∀ (l : List LineT) (u : Rd) (e : Int × Int), foldP u l = .error e → e.2 ≠ 0 := by
        intro l
        induction l with
        | nil => intro u e h; cases h
        | cons x r ih =>
          intro u e h
          cases hl : lineP u x.Words with
          | error k => rw [foldP_err hl] at h; cases h; exact line_err hl
          | ok v => rw [foldP_cons hl] at h; exact ih v e h
      exact key _ _ _ hf
  · rw [if_neg h]; exact .inr ⟨rfl, h⟩
end Go.Proofs.S
namespace Go.Proofs.S
open Go Go.AH Go.Proofs.L
set_option maxRecDepth 4000
set_option linter.unusedSectionVars false
variable [LexG]
structure RdB (s : Rd) : Prop where
  cam : s.hc = true → (1 ≤ s.cam.W ∧ s.cam.W ≤ 64) ∧ (1 ≤ s.cam.H ∧ s.cam.H ≤ 64) ∧ (1 ≤ s.cam.Grid ∧ s.cam.Grid ≤ 4) ∧ 0 ≤ s.cam.Depth ∧ s.cam.Depth ≤ 8
  k : ∀ k ∈ s.skins, (0 ≤ k.Mat ∧ k.Mat < (s.mats.length : Int)) ∧ (-1 ≤ k.Tex ∧ k.Tex < (s.texs.length : Int)) ∧ (0 ≤ k.Levels ∧ k.Levels ≤ 2) ∧ 1 ≤ k.Unit
  f : ∀ c ∈ s.cages, ∀ f ∈ c.Faces, ∀ x ∈ f, 0 ≤ x ∧ x < (c.Verts.length : Int)
structure SBd (a : SceneT) : Prop where
  cam : (1 ≤ a.Camera.W ∧ a.Camera.W ≤ 64) ∧ (1 ≤ a.Camera.H ∧ a.Camera.H ≤ 64) ∧ (1 ≤ a.Camera.Grid ∧ a.Camera.Grid ≤ 4) ∧ 0 ≤ a.Camera.Depth ∧ a.Camera.Depth ≤ 8
  n : a.Skins.length = a.Cages.length ∧ a.Cages.length ≤ 8
  k : ∀ i : Int, 0 ≤ i → i < (a.Skins.length : Int) → (0 ≤ (at_ a.Skins i).Mat ∧ (at_ a.Skins i).Mat < (a.Mats.length : Int)) ∧ (-1 ≤ (at_ a.Skins i).Tex ∧ (at_ a.Skins i).Tex < (a.Texs.length : Int)) ∧ (0 ≤ (at_ a.Skins i).Levels ∧ (at_ a.Skins i).Levels ≤ 2) ∧ 1 ≤ (at_ a.Skins i).Unit
  c : ∀ i : Int, 0 ≤ i → i < (a.Cages.length : Int) → (at_ a.Cages i).Verts.length ≤ 64 ∧ (at_ a.Cages i).Faces.length ≤ 64
  l : ∀ i : Int, 0 ≤ i → i < (a.Cages.length : Int) → ∀ f : Int, 0 ≤ f → f < ((at_ a.Cages i).Faces.length : Int) → (at_ (at_ a.Cages i).Faces f).length ≤ 1048576
  f : ∀ i : Int, 0 ≤ i → i < (a.Cages.length : Int) → ∀ f : Int, 0 ≤ f → f < ((at_ a.Cages i).Faces.length : Int) → ∀ j : Int, 0 ≤ j → j < ((at_ (at_ a.Cages i).Faces f).length : Int) → 0 ≤ at_ (at_ (at_ a.Cages i).Faces f) j ∧ at_ (at_ (at_ a.Cages i).Faces f) j < ((at_ a.Cages i).Verts.length : Int)
end Go.Proofs.S
namespace Go.Proofs.L
open Go Go.AH Go.Lib
set_option maxRecDepth 4000
set_option linter.unusedSectionVars false
variable [LexG]
abbrev scF (ps : List (List UInt8)) (out : List LineT) (no : Int) : List LineT × Int × Int := scanQ ps ⟨out, no, [], [], false⟩
end Go.Proofs.L
namespace Go.Proofs.S
open Go Go.AH Go.Proofs.L
set_option maxRecDepth 4000
set_option linter.unusedSectionVars false
variable [LexG]
end Go.Proofs.S
namespace Go.Proofs.S
open Go Go.AH Go.Maps Go.Proofs.L
set_option maxRecDepth 4000
set_option linter.unusedSectionVars false
set_option linter.unusedVariables false
open Classical in
theorem mget_cons {e : AV × AV} {es : List (AV × AV)} {k : AV} : mget (e :: es) k = if e.1 = k then some e.2 else mget es k := by
  unfold mget
  by_cases h : e.1 = k
  · rw [List.find?_cons_of_pos (by simp [h]), if_pos h]; rfl
  · rw [List.find?_cons_of_neg (by simp [h]), if_neg h]
open Classical in
theorem mget_map {k v k' : AV} : ∀ es : List (AV × AV), mget (es.map fun e => if e.1 = k then (k, v) else e) k' = if k' = k then (mget es k).map (fun _ => v) else mget es k'
  | [] => by simp [mget]
  | e :: es => by
    rw [List.map_cons, mget_cons, mget_cons, mget_cons, mget_map es]
    by_cases h : e.1 = k
    · by_cases h2 : k' = k
      · subst h2; simp [h]
      · have h3 : ¬ k = k' := fun e => h2 e.symm
        simp only [h, if_true, h3, if_false, h2]
    · by_cases h2 : k' = k
      · subst h2; simp [h]
      · simp [h, h2]
open Classical in
theorem mget_snoc {k v k' : AV} : ∀ es : List (AV × AV), mget es k = none → mget (es ++ [(k, v)]) k' = if k' = k then some v else mget es k'
  | [], _ => by
    rw [List.nil_append, mget_cons]
    by_cases h : k' = k
    · subst h; simp
    · have h3 : ¬ k = k' := fun e => h e.symm
      rw [if_neg h, if_neg h3]
  | e :: es, h => by
    rw [mget_cons] at h
    have hne : ¬ e.1 = k := fun hh => by rw [if_pos hh] at h; cases h
    rw [if_neg hne] at h
    rw [List.cons_append, mget_cons, mget_cons, mget_snoc es h]
    by_cases h2 : k' = k
    · subst h2; simp [hne]
    · simp [h2]
open Classical in
theorem mget_put (es : List (AV × AV)) (k v k' : AV) : mget (mput es k v) k' = if k' = k then some v else mget es k' := by
  unfold mput
  split
  · rename_i h
    rw [mget_map]
    obtain ⟨x, hx⟩ := Option.isSome_iff_exists.1 h
    rw [hx]; rfl
  · rename_i h
    exact mget_snoc es (by simpa using h)
theorem mput_key {es : List (AV × AV)} {k v : AV} : ∀ e ∈ mput es k v, e.1 = k ∨ ∃ e' ∈ es, e.1 = e'.1 := by
  intro e he
  unfold mput at he
  split at he
  · obtain ⟨x, hx, rfl⟩ := List.mem_map.1 he
    split
    · exact .inl rfl
    · exact .inr ⟨x, hx, rfl⟩
  · rcases List.mem_append.1 he with h | h
    · exact .inr ⟨e, h, rfl⟩
    · rw [List.mem_singleton] at h; subst h; exact .inl rfl
def cK (l : List ByteArray) (k : ByteArray) : Nat := l.countP fun y => decide (y = k)
theorem cK_snoc (l : List ByteArray) (x k : ByteArray) : cK (l ++ [x]) k = cK l k + if x = k then 1 else 0 := by
  simp only [cK, List.countP_append, List.countP_cons, List.countP_nil, decide_eq_true_eq, Nat.zero_add]
theorem cK_cons (l : List ByteArray) (x k : ByteArray) : cK (x :: l) k = cK l k + if x = k then 1 else 0 := by
  simp only [cK, List.countP_cons, decide_eq_true_eq]
noncomputable def mcntF : List (AV × AV) → List ByteArray → List ByteArray → List (AV × AV)
  | es, _, [] => es
  | es, pre, k :: l => mcntF (mput es (.str k) (.int .i64 ((cK pre k : Nat) + 1 : Int))) (pre ++ [k]) l
noncomputable def mcnt (l : List ByteArray) : List (AV × AV) := mcntF [] [] l
theorem mcntF_snoc : ∀ (l : List ByteArray) (es : List (AV × AV)) (pre : List ByteArray) (k : ByteArray), mcntF es pre (l ++ [k]) = mput (mcntF es pre l) (.str k) (.int .i64 ((cK (pre ++ l) k : Nat) + 1 : Int))
  | [], es, pre, k => by simp [mcntF]
  | x :: l, es, pre, k => by
    rw [List.cons_append, mcntF, mcntF_snoc l, mcntF]
    simp
theorem mcnt_snoc (l : List ByteArray) (k : ByteArray) : mcnt (l ++ [k]) = mput (mcnt l) (.str k) (.int .i64 ((cK l k : Nat) + 1 : Int)) := by
  have := mcntF_snoc l [] [] k
  rw [List.nil_append] at this
  exact this
theorem mcntF_get : ∀ (l : List ByteArray) (es : List (AV × AV)) (pre : List ByteArray), (∀ k, mget es (.str k) = if cK pre k = 0 then none else some (.int .i64 (cK pre k : Nat))) → ∀ k, mget (mcntF es pre l) (.str k) = if cK (pre ++ l) k = 0 then none else some (.int .i64 (cK (pre ++ l) k : Nat))
  | [], es, pre, h, k => by rw [mcntF, List.append_nil]; exact h k
  | x :: l, es, pre, h, k => by
    rw [mcntF, mcntF_get l _ (pre ++ [x]) (fun y => ?_)]
    · simp
    · rw [mget_put, cK_snoc]
      by_cases e : y = x
      · subst e
        rw [if_pos rfl, if_pos rfl, if_neg (by omega)]; rfl
      · have e' : ¬ x = y := fun h => e h.symm
        have e2 : ¬ (AV.str y = AV.str x) := fun h => e (by injection h)
        rw [if_neg e2, h y, if_neg e']; rfl
theorem mcnt_get (l : List ByteArray) (k : ByteArray) : (mget (mcnt l) (.str k)).getD (.int .i64 0) = .int .i64 (cK l k : Nat) := by
  have := mcntF_get l [] [] (fun y => by simp [mget, cK]) k
  rw [List.nil_append] at this
  unfold mcnt
  rw [this]
  split
  · rename_i h; rw [h]; rfl
  · rfl
theorem mcntF_keys : ∀ (l : List ByteArray) (es : List (AV × AV)) (pre : List ByteArray), ∀ e ∈ mcntF es pre l, (∃ e' ∈ es, e.1 = e'.1) ∨ ∃ k ∈ l, e.1 = .str k
  | [], es, pre, e, h => .inl ⟨e, h, rfl⟩
  | x :: l, es, pre, e, h => by
    rw [mcntF] at h
    rcases mcntF_keys l _ _ e h with ⟨e', h1, h2⟩ | ⟨k, h1, h2⟩
    · rcases mput_key e' h1 with h3 | ⟨e3, h3, h4⟩
      · exact .inr ⟨x, .head _, h2.trans h3⟩
      · exact .inl ⟨e3, h3, h2.trans h4⟩
    · exact .inr ⟨k, .tail _ h1, h2⟩
theorem KOK.str_ {P : Program} {t : TypeId} {s : ByteArray} (hu : P.underlying t = some .string) (hs : s.size ≤ maxLen) : KOK P t (.str s) := ⟨_, _, rfl, by
  unfold keyOf; rw [hu]; simp only [mapKey, hu, if_pos hs]; rfl⟩
theorem mcnt_keys {P : Program} {t : TypeId} {l : List ByteArray} (h : ∀ k ∈ l, KOK P t (.str k)) : ∀ e ∈ mcnt l, KOK P t e.1 := fun e he => by
  rcases mcntF_keys l [] [] e he with ⟨_, h1, _⟩ | ⟨k, h1, h2⟩
  · cases h1
  · rw [h2]; exact h k h1
variable [LexG]
def w0 (l : LineT) : ByteArray := at_ l.Words 0
def kc (l : List LineT) (k : ByteArray) : Nat := cK (l.map w0) k
def sumV (cs : List CageT) : Nat := (cs.map fun c => c.Verts.length).sum
def sumF (cs : List CageT) : Nat := (cs.map fun c => c.Faces.length).sum
def sumC (cs : List CageT) : Nat := (cs.map fun c => c.Creases.length).sum
theorem put_sum {g : CageT → Nat} {cs : List CageT} {c : CageT} {m : Nat} (hne : cs ≠ []) (h : g c = g (lastC cs) + m) : ((putC cs c).map g).sum = (cs.map g).sum + m := by
  have e := last_eq hne
  unfold putC
  rw [List.map_append, List.sum_append, List.map_singleton, List.sum_singleton, h]
  have e2 : (cs.map g).sum = (cs.dropLast.map g).sum + g (lastC cs) := by
    conv => lhs; rw [e]
    rw [List.map_append, List.sum_append, List.map_singleton, List.sum_singleton]
  omega
structure Add (s t : Rd) (k : ByteArray) : Prop where
  cam : t.hc.toNat = s.hc.toNat + if k = kCamera then 1 else 0
  l : t.lights.length = s.lights.length + if k = kLight then 1 else 0
  x : t.texs.length = s.texs.length + if k = kTexture then 1 else 0
  m : t.mats.length = s.mats.length + if k = kMaterial then 1 else 0
  c : t.cages.length = s.cages.length + if k = kCage then 1 else 0
  v : sumV t.cages = sumV s.cages + if k = kV then 1 else 0
  f : sumF t.cages = sumF s.cages + if k = kF then 1 else 0
  e : sumC t.cages = sumC s.cages + if k = kCrease then 1 else 0
theorem sum_nil (g : CageT → Nat) (cs : List CageT) (h : g ⟨[], [], []⟩ = 0) : ((cs ++ [(⟨[], [], []⟩ : CageT)]).map g).sum = (cs.map g).sum := by
  rw [List.map_append, List.sum_append, List.map_singleton, List.sum_singleton, h]; rfl
theorem sum0 {g : CageT → Nat} {cs : List CageT} {c : CageT} (hne : cs ≠ []) (h : g c = g (lastC cs)) : ((putC cs c).map g).sum = (cs.map g).sum := put_sum (m := 0) hne h
theorem put_len {cs : List CageT} {c : CageT} (hne : cs ≠ []) : (putC cs c).length = cs.length := by
  have := List.length_pos_iff.2 hne
  unfold putC; rw [List.length_append, List.length_dropLast]; simp; omega
theorem lineP_add {s t : Rd} {w : List ByteArray} (h : lineP s w = .ok t) : Add s t (at_ w 0) := by
  have dk : ∀ a b : ByteArray, a.data.toList ≠ b.data.toList → a ≠ b := fun a b h e => h (by rw [e])
  unfold lineP at h
  split at h
  · rename_i e; rw [e]
    simp only [cameraP, gd_ok, Except.ok.injEq] at h
    obtain ⟨_, h1, _, _, _, _, _, rfl⟩ := h
    have h1 : s.hc = false := by simpa using h1
    refine ⟨by rw [h1]; rfl, ?_, ?_, ?_, ?_, ?_, ?_, ?_⟩ <;> (rw [if_neg (dk _ _ (by decide))]; rfl)
  split at h
  · rename_i e; rw [e]
    simp only [skyP, gd_ok, Except.ok.injEq] at h
    obtain ⟨_, _, _, rfl⟩ := h
    refine ⟨?_, ?_, ?_, ?_, ?_, ?_, ?_, ?_⟩ <;> (rw [if_neg (dk _ _ (by decide))]; rfl)
  split at h
  · rename_i e; rw [e]
    simp only [lightP, gd_ok, Except.ok.injEq] at h
    obtain ⟨_, _, _, _, rfl⟩ := h
    refine ⟨?_, by rw [if_pos rfl]; simp, ?_, ?_, ?_, ?_, ?_, ?_⟩ <;> (rw [if_neg (dk _ _ (by decide))]; rfl)
  split at h
  · rename_i e; rw [e]
    simp only [textureP, gd_ok, Except.ok.injEq] at h
    obtain ⟨_, _, _, _, _, _, _, rfl⟩ := h
    refine ⟨?_, ?_, by rw [if_pos rfl]; simp, ?_, ?_, ?_, ?_, ?_⟩ <;> (rw [if_neg (dk _ _ (by decide))]; rfl)
  split at h
  · rename_i e; rw [e]
    simp only [materialP, gd_ok, Except.ok.injEq] at h
    obtain ⟨_, _, _, _, _, _, _, _, _, rfl⟩ := h
    refine ⟨?_, ?_, ?_, by rw [if_pos rfl]; simp, ?_, ?_, ?_, ?_⟩ <;> (rw [if_neg (dk _ _ (by decide))]; rfl)
  split at h
  · rename_i e; rw [e]
    simp only [cageP, gd_ok, Except.ok.injEq] at h
    obtain ⟨_, _, _, _, _, _, _, _, rfl⟩ := h
    refine ⟨?_, ?_, ?_, ?_, by rw [if_pos rfl]; simp, ?_, ?_, ?_⟩
    iterate 4 (rw [if_neg (dk _ _ (by decide))]; rfl)
    all_goals (rw [if_neg (dk _ _ (by decide))]; exact sum_nil _ _ rfl)
  split at h
  · rename_i e; rw [e]
    simp only [vertexP, gd_ok, Except.ok.injEq, decide_eq_true_eq] at h
    obtain ⟨_, h1, _, _, rfl⟩ := h
    have hne : s.cages ≠ [] := List.length_pos_iff.1 (by omega)
    refine ⟨?_, ?_, ?_, ?_, ?_, ?_, ?_, ?_⟩
    iterate 4 (rw [if_neg (dk _ _ (by decide))]; rfl)
    · rw [if_neg (dk _ _ (by decide))]; exact put_len hne
    · rw [if_pos rfl]; exact put_sum hne (by simp)
    · rw [if_neg (dk _ _ (by decide))]; exact sum0 hne rfl
    · rw [if_neg (dk _ _ (by decide))]; exact sum0 hne rfl
  split at h
  · rename_i e; rw [e]
    simp only [faceP, gd_ok, Except.ok.injEq, decide_eq_true_eq] at h
    obtain ⟨_, _, h1, _, _, rfl⟩ := h
    have hne : s.cages ≠ [] := List.length_pos_iff.1 (by omega)
    refine ⟨?_, ?_, ?_, ?_, ?_, ?_, ?_, ?_⟩
    iterate 4 (rw [if_neg (dk _ _ (by decide))]; rfl)
    · rw [if_neg (dk _ _ (by decide))]; exact put_len hne
    · rw [if_neg (dk _ _ (by decide))]; exact sum0 hne rfl
    · rw [if_pos rfl]; exact put_sum hne (by simp)
    · rw [if_neg (dk _ _ (by decide))]; exact sum0 hne rfl
  split at h
  · rename_i e; rw [e]
    simp only [creaseP, gd_ok, Except.ok.injEq, decide_eq_true_eq] at h
    obtain ⟨_, h1, _, _, _, _, rfl⟩ := h
    have hne : s.cages ≠ [] := List.length_pos_iff.1 (by omega)
    refine ⟨?_, ?_, ?_, ?_, ?_, ?_, ?_, ?_⟩
    iterate 4 (rw [if_neg (dk _ _ (by decide))]; rfl)
    · rw [if_neg (dk _ _ (by decide))]; exact put_len hne
    · rw [if_neg (dk _ _ (by decide))]; exact sum0 hne rfl
    · rw [if_neg (dk _ _ (by decide))]; exact sum0 hne rfl
    · rw [if_pos rfl]; exact put_sum hne (by simp)
  · cases h
theorem kc_cons (x : LineT) (l : List LineT) (k : ByteArray) : kc (x :: l) k = kc l k + if w0 x = k then 1 else 0 := cK_cons _ _ _
structure Adds (s t : Rd) (l : List LineT) : Prop where
  cam : t.hc.toNat = s.hc.toNat + kc l kCamera
  li : t.lights.length = s.lights.length + kc l kLight
  x : t.texs.length = s.texs.length + kc l kTexture
  m : t.mats.length = s.mats.length + kc l kMaterial
  c : t.cages.length = s.cages.length + kc l kCage
  v : sumV t.cages = sumV s.cages + kc l kV
  f : sumF t.cages = sumF s.cages + kc l kF
  e : sumC t.cages = sumC s.cages + kc l kCrease
theorem foldP_adds : ∀ (l : List LineT) (s t : Rd), foldP s l = .ok t → Adds s t l
  | [], s, t, h => by cases h; exact ⟨rfl, rfl, rfl, rfl, rfl, rfl, rfl, rfl⟩
  | x :: r, s, t, h => by
    cases hl : lineP s x.Words with
    | error k => rw [foldP_err hl] at h; cases h
    | ok u =>
      rw [foldP_cons hl] at h
      have a := lineP_add hl
      have b := foldP_adds r u t h
      obtain ⟨a1, a2, a3, a4, a5, a6, a7, a8⟩ := a
      obtain ⟨b1, b2, b3, b4, b5, b6, b7, b8⟩ := b
      refine ⟨?_, ?_, ?_, ?_, ?_, ?_, ?_, ?_⟩ <;> (rw [kc_cons]; unfold w0; omega)
theorem cages_law {s : ByteArray} (h : (parseR s).2.2 = 0) (hl : (linesR s).2.2 = 0) :
    (kc (linesR s).1 kCamera = 1 ∧ kc (linesR s).1 kLight = (parseR s).1.Lights.length ∧ kc (linesR s).1 kTexture = (parseR s).1.Texs.length ∧ kc (linesR s).1 kMaterial = (parseR s).1.Mats.length) ∧
    kc (linesR s).1 kCage = (parseR s).1.Cages.length ∧ kc (linesR s).1 kV = sumV (parseR s).1.Cages ∧ kc (linesR s).1 kF = sumF (parseR s).1.Cages ∧ kc (linesR s).1 kCrease = sumC (parseR s).1.Cages := by
  rcases parse_cases s with ⟨t, e, h1, h2, _, hf, hc⟩ | ⟨_, e⟩
  · have a := foldP_adds _ _ _ hf
    rw [e]
    obtain ⟨a1, a2, a3, a4, a5, a6, a7, a8⟩ := a
    rw [hc] at a1
    simp only [rd0, Bool.toNat_true, Bool.toNat_false, List.length_nil, Nat.zero_add] at a1 a2 a3 a4 a5 a6 a7 a8
    have z : ∀ g : CageT → Nat, (([] : List CageT).map g).sum = 0 := fun _ => rfl
    simp only [sumV, sumF, sumC, List.map_nil, List.sum_nil, Nat.zero_add] at a6 a7 a8
    exact ⟨⟨a1.symm, a2.symm, a3.symm, a4.symm⟩, a5.symm, a6.symm, a7.symm, a8.symm⟩
  · exact absurd h e
theorem flush_short {wd : List Int} {w : ByteArray} (h : w ∈ flush wd) : w.size ≤ wd.length := by
  unfold flush at h
  split at h
  · rw [List.mem_singleton] at h; subst h; rw [bytesB_size]; exact Nat.le_refl _
  · cases h
theorem words_short : ∀ (p : List UInt8) (wd : List Int) (rem : Bool) (w : ByteArray), w ∈ wordsFrom wd rem p → w.size ≤ wd.length + p.length
  | [], wd, rem, w, h => by
    have : w ∈ flush wd := by cases rem <;> exact h
    have := flush_short this; simp; omega
  | b :: p, wd, true, w, h => by have := flush_short (show w ∈ flush wd from h); omega
  | b :: p, wd, false, w, h => by
    rw [wordsFrom] at h
    rw [List.length_cons]
    split at h
    · have := flush_short h; omega
    · split at h
      · rcases List.mem_append.1 h with e | e
        · have := flush_short e; omega
        · have := words_short p [] false w e; simp at this; omega
      · have := words_short p _ _ _ h
        rw [List.length_append, List.length_singleton] at this; omega
theorem scF_words (m : Nat) : ∀ (ps : List (List UInt8)) (out : List LineT) (no : Int), (∀ p ∈ ps, p.length ≤ m) → (∀ x ∈ out, 0 < x.Words.length ∧ ∀ w ∈ x.Words, w.size ≤ m) → ∀ x ∈ (scF ps out no).1, 0 < x.Words.length ∧ ∀ w ∈ x.Words, w.size ≤ m
  | [], _, _, _, h => h
  | p :: r, out, no, hp, h => by
    simp only [scF, scanQ, List.nil_append]
    split
    · intro x hx; cases hx
    · refine scF_words m r _ _ (fun q hq => hp q (.tail _ hq)) fun x hx => ?_
      rcases List.mem_append.1 hx with e | e
      · exact h x e
      · unfold lineIf at e
        split at e
        · rename_i hpos
          rw [List.mem_singleton] at e; subst e
          refine ⟨by simpa using hpos, fun w hw => ?_⟩
          have := words_short p [] false w hw
          have h2 := hp p (.head _)
          simp at this; omega
        · cases e
theorem lines_short {s : ByteArray} (h : s.size ≤ 65536) : ∀ x ∈ (linesR s).1, 0 < x.Words.length ∧ ∀ w ∈ x.Words, w.size ≤ 65536 := by
  rw [linesQ h]
  refine scF_words 65536 _ _ _ (fun p hp => ?_) (by simp)
  have := pcs_sub _ _ hp
  rw [blen] at this; omega
theorem line_key {s : ByteArray} (h : s.size ≤ 65536) {P : Program} {t : TypeId} (hu : P.underlying t = some .string) : ∀ k ∈ (linesR s).1.map w0, KOK P t (.str k) := fun k hk => by
  obtain ⟨x, hx, rfl⟩ := List.mem_map.1 hk
  obtain ⟨h1, h2⟩ := lines_short h x hx
  refine KOK.str_ hu ?_
  have := h2 _ (at_mem (l := x.Words) (i := 0) (by omega) (by omega))
  unfold w0
  exact Nat.le_trans this (by decide)
theorem take_step_ {α : Type} [Inhabited α] {l : List α} {i : Int} (h0 : 0 ≤ i) (h1 : i < (l.length : Int)) : l.take (i + 1).toNat = l.take i.toNat ++ [at_ l i] := by
  rw [show (i + 1).toNat = i.toNat + 1 by omega, List.take_succ_eq_append_getElem (by omega), at_get h0 h1]
noncomputable def mcl (l : List LineT) : List (AV × AV) := mcnt (l.map w0)
theorem mcl_step {l : List LineT} {i : Int} (h0 : 0 ≤ i) (h1 : i < (l.length : Int)) : mput (mcl (l.take i.toNat)) (.str (at_ (at_ l i).Words 0)) (.int .i64 ((kc (l.take i.toNat) (at_ (at_ l i).Words 0) : Nat) + 1 : Int)) = mcl (l.take (i + 1).toNat) := by
  rw [take_step_ h0 h1]
  unfold mcl
  rw [List.map_append, List.map_singleton, mcnt_snoc]; rfl
theorem mcl_get (l : List LineT) (k : ByteArray) : (mget (mcl l) (.str k)).getD (.int .i64 0) = .int .i64 (kc l k : Nat) := mcnt_get _ _
theorem mcl_keys {s : ByteArray} (h : s.size ≤ 65536) {P : Program} {t : TypeId} (hu : P.underlying t = some .string) (n : Nat) : ∀ e ∈ mcl ((linesR s).1.take n), KOK P t e.1 :=
  mcnt_keys fun k hk => line_key h hu k (by
    obtain ⟨x, hx, rfl⟩ := List.mem_map.1 hk
    exact List.mem_map.2 ⟨x, List.mem_of_mem_take hx, rfl⟩)
theorem kc_le (l : List LineT) (k : ByteArray) : kc l k ≤ l.length := by
  unfold kc cK
  have := List.countP_le_length (p := fun y => decide (y = k)) (l := l.map w0)
  rwa [List.length_map] at this
theorem kc_take (l : List LineT) (k : ByteArray) (i : Int) (h0 : 0 ≤ i) : (kc (l.take i.toNat) k : Int) ≤ i := by
  have := kc_le (l.take i.toNat) k
  have h2 := List.length_take_le i.toNat l
  omega
theorem sum_step {g : CageT → Nat} {cs : List CageT} {i : Int} (h0 : 0 ≤ i) (h1 : i < (cs.length : Int)) : (((cs.take (i + 1).toNat).map g).sum : Int) = ((cs.take i.toNat).map g).sum + g (at_ cs i) := by
  rw [take_step_ h0 h1, List.map_append, List.sum_append, List.map_singleton, List.sum_singleton]; omega
theorem sum_bd {g : CageT → Nat} {m : Nat} : ∀ {cs : List CageT}, (∀ c ∈ cs, g c ≤ m) → (cs.map g).sum ≤ cs.length * m
  | [], _ => by simp
  | c :: cs, h => by
    have h1 := h c (.head _)
    have h2 := sum_bd (cs := cs) fun x hx => h x (.tail _ hx)
    rw [List.map_cons, List.sum_cons, List.length_cons, Nat.add_mul]; omega
end Go.Proofs.S
namespace Go.Proofs.S
open Go Go.AH Go.Maps Go.Proofs.L
set_option linter.unusedSectionVars false
set_option maxRecDepth 4000
set_option linter.unusedVariables false
theorem tm56 : TMap Tryd.prog 56 9 3 := ⟨rfl, Maps.string_keyed rfl⟩
variable [LexG]
theorem cagesI {s : ByteArray} (h : (parseR s).2.2 = 0) (hl : (linesR s).2.2 = 0) :
    (((kc (linesR s).1 kCamera : Nat) : Int) = 1 ∧ ((kc (linesR s).1 kLight : Nat) : Int) = (parseR s).1.Lights.length ∧ ((kc (linesR s).1 kTexture : Nat) : Int) = (parseR s).1.Texs.length ∧ ((kc (linesR s).1 kMaterial : Nat) : Int) = (parseR s).1.Mats.length) ∧
    ((kc (linesR s).1 kCage : Nat) : Int) = (parseR s).1.Cages.length ∧ ((kc (linesR s).1 kV : Nat) : Int) = (sumV (parseR s).1.Cages : Nat) ∧ ((kc (linesR s).1 kF : Nat) : Int) = (sumF (parseR s).1.Cages : Nat) ∧ ((kc (linesR s).1 kCrease : Nat) : Int) = (sumC (parseR s).1.Cages : Nat) := by
  have := cages_law h hl
  omega
theorem cages_bd (s : ByteArray) : (parseR s).1.Cages.length ≤ 8 ∧ ∀ c ∈ (parseR s).1.Cages, c.Verts.length ≤ 64 ∧ c.Faces.length ≤ 64 ∧ c.Creases.length ≤ 128 := by
  rcases parse_cases s with ⟨t, e, h1, h2, _, hf, hc⟩ | ⟨e, _⟩
  · rw [e]
    exact ⟨by show t.cages.length ≤ 8; have := h1.c; have := h1.k; omega, h1.v⟩
  · rw [e]; exact ⟨by decide, by simp [rd0, Rd.scene]⟩
theorem sums_bd (s : ByteArray) (c : Int) (h0 : 0 ≤ c) (h1 : c ≤ ((parseR s).1.Cages.length : Int)) : (sumV ((parseR s).1.Cages.take c.toNat) ≤ 1024 ∧ sumF ((parseR s).1.Cages.take c.toNat) ≤ 1024) ∧ sumC ((parseR s).1.Cages.take c.toNat) ≤ 1024 := by
  have hb := cages_bd s
  have hl := List.length_take_le c.toNat (parseR s).1.Cages
  have hm := fun x (hx : x ∈ (parseR s).1.Cages.take c.toNat) => hb.2 x (List.mem_of_mem_take hx)
  have a := sum_bd (g := fun c : CageT => c.Verts.length) (m := 64) (cs := (parseR s).1.Cages.take c.toNat) fun x hx => (hm x hx).1
  have b := sum_bd (g := fun c : CageT => c.Faces.length) (m := 64) (cs := (parseR s).1.Cages.take c.toNat) fun x hx => (hm x hx).2.1
  have d := sum_bd (g := fun c : CageT => c.Creases.length) (m := 128) (cs := (parseR s).1.Cages.take c.toNat) fun x hx => (hm x hx).2.2
  have hl8 : ((parseR s).1.Cages.take c.toNat).length ≤ 8 := by have := List.length_take_le' c.toNat (parseR s).1.Cages; omega
  simp only [sumV, sumF, sumC]
  omega
end Go.Proofs.S
namespace Go.Proofs.S
open Go Go.AH Go.Proofs.L
set_option maxRecDepth 20000
set_option linter.unusedSectionVars false
variable [LexG]
def alS1 : SceneT := ⟨⟨⟨0, 0, -9⟩, ⟨0, 0, 8⟩, ⟨1, 0, 0⟩, ⟨0, 1, 0⟩, 2, 2, 1, 0⟩, ⟨0, 0, 0⟩, [], [⟨⟨#[109]⟩, ⟨1, 2, 3⟩, 0, 1, 0, 0, 256⟩], [], [⟨⟨#[99]⟩, 0, 1, 5, -1, 0⟩], [⟨[⟨1, 2, 3⟩], [], []⟩]⟩
def alT1 : ByteArray := ⟨#[99, 97, 109, 101, 114, 97, 32, 48, 32, 48, 32, 45, 57, 32, 48, 32, 48, 32, 56, 32, 49, 32, 48, 32, 48, 32, 48, 32, 49, 32, 48, 32, 50, 32, 50, 32, 49, 32, 48, 10, 109, 97, 116, 101, 114, 105, 97, 108, 32, 109, 32, 49, 32, 50, 32, 51, 32, 48, 32, 49, 32, 48, 32, 48, 32, 50, 53, 54, 10, 99, 97, 103, 101, 32, 99, 32, 109, 32, 49, 32, 53, 32, 45, 32, 48, 10, 118, 32, 49, 32, 50, 32, 51, 10]⟩
def alT2 : ByteArray := ⟨#[10, 108, 105, 103, 104, 116, 32, 49]⟩
def alT3 : ByteArray := ⟨#[115, 107, 121, 32, 49, 32, 50, 32, 51]⟩
theorem al_1 : parseR alT1 = (alS1, 0, 0) := by kernel_rfl
theorem al_pc1 : PC Tryd.prog 8 [.str alT1] (.tup [.agg (eScene alS1), .int .i64 0, .int .i64 0]) :=
  Eq.mp (congrArg (fun r : SceneT × Int × Int => PC Tryd.prog 8 [.str alT1] (.tup [.agg (eScene r.1), .int .i64 r.2.1, .int .i64 r.2.2])) al_1) (c_Parse alT1)
theorem al_2 : parseR alT2 = (rd0.scene, 2, 10) := by kernel_rfl
theorem al_pc2 : PC Tryd.prog 8 [.str alT2] (.tup [.agg (eScene rd0.scene), .int .i64 2, .int .i64 10]) :=
  Eq.mp (congrArg (fun r : SceneT × Int × Int => PC Tryd.prog 8 [.str alT2] (.tup [.agg (eScene r.1), .int .i64 r.2.1, .int .i64 r.2.2])) al_2) (c_Parse alT2)
theorem al_3 : parseR alT3 = (rd0.scene, 0, 15) := by kernel_rfl
theorem al_pc3 : PC Tryd.prog 8 [.str alT3] (.tup [.agg (eScene rd0.scene), .int .i64 0, .int .i64 15]) :=
  Eq.mp (congrArg (fun r : SceneT × Int × Int => PC Tryd.prog 8 [.str alT3] (.tup [.agg (eScene r.1), .int .i64 r.2.1, .int .i64 r.2.2])) al_3) (c_Parse alT3)
end Go.Proofs.S
namespace Go.Proofs.S
open Go Go.AH Go.Proofs.L
set_option maxRecDepth 4000
set_option maxHeartbeats 4000000
set_option linter.unusedSimpArgs false
set_option linter.unusedVariables false
set_option linter.unusedSectionVars false
variable [LexG]
theorem c_alive : PC Tryd.prog 7 [] (.bool true) := by
 intro H0
 refine ACalls.of_body' (n := 79) rfl rfl rfl rfl ?_
 have m0 := Mono.refl H0
 refine AWP.seq ?_
 refine AWP.region (l := [0]) rfl ?_
 refine AOps.cons rfl rfl (AOp.assign (.bool false) rfl rfl ?_)
 refine AOps.nil ?_
 change AWP _ _ _ _ _ _
 refine AWP.seq ?_
 refine AWP.region (l := [0, 1, 2, 3, 4, 5, 6, 7, 8]) rfl ?_
 refine AOps.cons rfl rfl (AOp.pcall («as» := [.str ⟨#[99, 97, 109, 101, 114, 97, 32, 48, 32, 48, 32, 45, 57, 32, 48, 32, 48, 32, 56, 32, 49, 32, 48, 32, 48, 32, 48, 32, 49, 32, 48, 32, 50, 32, 50, 32, 49, 32, 48, 10, 109, 97, 116, 101, 114, 105, 97, 108, 32, 109, 32, 49, 32, 50, 32, 51, 32, 48, 32, 49, 32, 48, 32, 48, 32, 50, 53, 54, 10, 99, 97, 103, 101, 32, 99, 32, 109, 32, 49, 32, 53, 32, 45, 32, 48, 10, 118, 32, 49, 32, 50, 32, 51, 10]⟩]) rfl rfl (rfl) tf_8 (al_pc1) ?_)
 intro H1 m2
 have m3 := m0.trans m2
 refine AOps.cons rfl rfl (AOp.move (.tup [.agg [.int .i64 alS1.Camera.Eye.X, .int .i64 alS1.Camera.Eye.Y, .int .i64 alS1.Camera.Eye.Z, .int .i64 alS1.Camera.First.X, .int .i64 alS1.Camera.First.Y, .int .i64 alS1.Camera.First.Z, .int .i64 alS1.Camera.Right.X, .int .i64 alS1.Camera.Right.Y, .int .i64 alS1.Camera.Right.Z, .int .i64 alS1.Camera.Down.X, .int .i64 alS1.Camera.Down.Y, .int .i64 alS1.Camera.Down.Z, .int .i64 alS1.Camera.W, .int .i64 alS1.Camera.H, .int .i64 alS1.Camera.Grid, .int .i64 alS1.Camera.Depth, .int .i64 alS1.Sky.R, .int .i64 alS1.Sky.G, .int .i64 alS1.Sky.B, .sl alS1.Lights.length (alS1.Lights.flatMap eLight), .sl alS1.Mats.length (alS1.Mats.flatMap eMat), .sl alS1.Texs.length (alS1.Texs.flatMap eTex), .sl alS1.Skins.length (alS1.Skins.flatMap eSkin), .sl alS1.Cages.length (alS1.Cages.flatMap eCage)], .int .i64 0, .int .i64 0]) rfl rfl ?_)
 refine AOps.cons rfl rfl (AOp.extract (.agg [.int .i64 alS1.Camera.Eye.X, .int .i64 alS1.Camera.Eye.Y, .int .i64 alS1.Camera.Eye.Z, .int .i64 alS1.Camera.First.X, .int .i64 alS1.Camera.First.Y, .int .i64 alS1.Camera.First.Z, .int .i64 alS1.Camera.Right.X, .int .i64 alS1.Camera.Right.Y, .int .i64 alS1.Camera.Right.Z, .int .i64 alS1.Camera.Down.X, .int .i64 alS1.Camera.Down.Y, .int .i64 alS1.Camera.Down.Z, .int .i64 alS1.Camera.W, .int .i64 alS1.Camera.H, .int .i64 alS1.Camera.Grid, .int .i64 alS1.Camera.Depth, .int .i64 alS1.Sky.R, .int .i64 alS1.Sky.G, .int .i64 alS1.Sky.B, .sl alS1.Lights.length (alS1.Lights.flatMap eLight), .sl alS1.Mats.length (alS1.Mats.flatMap eMat), .sl alS1.Texs.length (alS1.Texs.flatMap eTex), .sl alS1.Skins.length (alS1.Skins.flatMap eSkin), .sl alS1.Cages.length (alS1.Cages.flatMap eCage)]) rfl rfl rfl ?_)
 refine AOps.cons rfl rfl (AOp.extract (.int .i64 0) rfl rfl rfl ?_)
 refine AOps.cons rfl rfl (AOp.extract (.int .i64 0) rfl rfl rfl ?_)
 refine AOps.cons rfl rfl (AOp.alloc rfl tz_35 ?_)
 intro i4 H5 n6 h7 k8
 have z9 := Mono.free m3 n6
 have m10 := Mono.new m3 n6 k8
 refine AOps.cons rfl rfl (AOp.store' (cells' := [.int .i64 alS1.Camera.Eye.X, .int .i64 alS1.Camera.Eye.Y, .int .i64 alS1.Camera.Eye.Z, .int .i64 alS1.Camera.First.X, .int .i64 alS1.Camera.First.Y, .int .i64 alS1.Camera.First.Z, .int .i64 alS1.Camera.Right.X, .int .i64 alS1.Camera.Right.Y, .int .i64 alS1.Camera.Right.Z, .int .i64 alS1.Camera.Down.X, .int .i64 alS1.Camera.Down.Y, .int .i64 alS1.Camera.Down.Z, .int .i64 alS1.Camera.W, .int .i64 alS1.Camera.H, .int .i64 alS1.Camera.Grid, .int .i64 alS1.Camera.Depth, .int .i64 alS1.Sky.R, .int .i64 alS1.Sky.G, .int .i64 alS1.Sky.B, .sl alS1.Lights.length (alS1.Lights.flatMap eLight), .sl alS1.Mats.length (alS1.Mats.flatMap eMat), .sl alS1.Texs.length (alS1.Texs.flatMap eTex), .sl alS1.Skins.length (alS1.Skins.flatMap eSkin), .sl alS1.Cages.length (alS1.Cages.flatMap eCage)]) (.agg [.int .i64 alS1.Camera.Eye.X, .int .i64 alS1.Camera.Eye.Y, .int .i64 alS1.Camera.Eye.Z, .int .i64 alS1.Camera.First.X, .int .i64 alS1.Camera.First.Y, .int .i64 alS1.Camera.First.Z, .int .i64 alS1.Camera.Right.X, .int .i64 alS1.Camera.Right.Y, .int .i64 alS1.Camera.Right.Z, .int .i64 alS1.Camera.Down.X, .int .i64 alS1.Camera.Down.Y, .int .i64 alS1.Camera.Down.Z, .int .i64 alS1.Camera.W, .int .i64 alS1.Camera.H, .int .i64 alS1.Camera.Grid, .int .i64 alS1.Camera.Depth, .int .i64 alS1.Sky.R, .int .i64 alS1.Sky.G, .int .i64 alS1.Sky.B, .sl alS1.Lights.length (alS1.Lights.flatMap eLight), .sl alS1.Mats.length (alS1.Mats.flatMap eMat), .sl alS1.Texs.length (alS1.Texs.flatMap eTex), .sl alS1.Skins.length (alS1.Skins.flatMap eSkin), .sl alS1.Cages.length (alS1.Cages.flatMap eCage)]) rfl rfl ts_35 h7 rfl rfl rfl rfl ?_)
 intro H11 h12 k13
 have m15 := Mono.set m10 z9 k13
 refine AOps.cons rfl rfl (AOp.assign (.int .i64 0) rfl rfl ?_)
 refine AOps.cons rfl rfl (AOp.assign (.int .i64 0) rfl rfl ?_)
 refine AOps.nil ?_
 change AWP _ _ _ _ _ _
 refine AWP.seq ?_
 refine AWP.frzP 1 h12 z9 rfl m15 fun H16 m17 k18 => ?_
 refine AWP.region (l := [0, 1, 2, 3, 4, 5, 6, 7, 8]) rfl ?_
 refine AOps.cons rfl rfl (AOp.pcall («as» := [.str ⟨#[10, 108, 105, 103, 104, 116, 32, 49]⟩]) rfl rfl (rfl) tf_8 (al_pc2) ?_)
 intro H19 m20
 have m21 := m17.trans m20
 refine AOps.cons rfl rfl (AOp.move (.tup [.agg [.int .i64 rd0.scene.Camera.Eye.X, .int .i64 rd0.scene.Camera.Eye.Y, .int .i64 rd0.scene.Camera.Eye.Z, .int .i64 rd0.scene.Camera.First.X, .int .i64 rd0.scene.Camera.First.Y, .int .i64 rd0.scene.Camera.First.Z, .int .i64 rd0.scene.Camera.Right.X, .int .i64 rd0.scene.Camera.Right.Y, .int .i64 rd0.scene.Camera.Right.Z, .int .i64 rd0.scene.Camera.Down.X, .int .i64 rd0.scene.Camera.Down.Y, .int .i64 rd0.scene.Camera.Down.Z, .int .i64 rd0.scene.Camera.W, .int .i64 rd0.scene.Camera.H, .int .i64 rd0.scene.Camera.Grid, .int .i64 rd0.scene.Camera.Depth, .int .i64 rd0.scene.Sky.R, .int .i64 rd0.scene.Sky.G, .int .i64 rd0.scene.Sky.B, .sl rd0.scene.Lights.length (rd0.scene.Lights.flatMap eLight), .sl rd0.scene.Mats.length (rd0.scene.Mats.flatMap eMat), .sl rd0.scene.Texs.length (rd0.scene.Texs.flatMap eTex), .sl rd0.scene.Skins.length (rd0.scene.Skins.flatMap eSkin), .sl rd0.scene.Cages.length (rd0.scene.Cages.flatMap eCage)], .int .i64 2, .int .i64 10]) rfl rfl ?_)
 refine AOps.cons rfl rfl (AOp.extract (.agg [.int .i64 rd0.scene.Camera.Eye.X, .int .i64 rd0.scene.Camera.Eye.Y, .int .i64 rd0.scene.Camera.Eye.Z, .int .i64 rd0.scene.Camera.First.X, .int .i64 rd0.scene.Camera.First.Y, .int .i64 rd0.scene.Camera.First.Z, .int .i64 rd0.scene.Camera.Right.X, .int .i64 rd0.scene.Camera.Right.Y, .int .i64 rd0.scene.Camera.Right.Z, .int .i64 rd0.scene.Camera.Down.X, .int .i64 rd0.scene.Camera.Down.Y, .int .i64 rd0.scene.Camera.Down.Z, .int .i64 rd0.scene.Camera.W, .int .i64 rd0.scene.Camera.H, .int .i64 rd0.scene.Camera.Grid, .int .i64 rd0.scene.Camera.Depth, .int .i64 rd0.scene.Sky.R, .int .i64 rd0.scene.Sky.G, .int .i64 rd0.scene.Sky.B, .sl rd0.scene.Lights.length (rd0.scene.Lights.flatMap eLight), .sl rd0.scene.Mats.length (rd0.scene.Mats.flatMap eMat), .sl rd0.scene.Texs.length (rd0.scene.Texs.flatMap eTex), .sl rd0.scene.Skins.length (rd0.scene.Skins.flatMap eSkin), .sl rd0.scene.Cages.length (rd0.scene.Cages.flatMap eCage)]) rfl rfl rfl ?_)
 refine AOps.cons rfl rfl (AOp.extract (.int .i64 2) rfl rfl rfl ?_)
 refine AOps.cons rfl rfl (AOp.extract (.int .i64 10) rfl rfl rfl ?_)
 refine AOps.cons rfl rfl (AOp.alloc rfl tz_35 ?_)
 intro i22 H23 n24 h25 k26
 have z27 := Mono.free m21 n24
 have m28 := Mono.new m21 n24 k26
 refine AOps.cons rfl rfl (AOp.store' (cells' := [.int .i64 rd0.scene.Camera.Eye.X, .int .i64 rd0.scene.Camera.Eye.Y, .int .i64 rd0.scene.Camera.Eye.Z, .int .i64 rd0.scene.Camera.First.X, .int .i64 rd0.scene.Camera.First.Y, .int .i64 rd0.scene.Camera.First.Z, .int .i64 rd0.scene.Camera.Right.X, .int .i64 rd0.scene.Camera.Right.Y, .int .i64 rd0.scene.Camera.Right.Z, .int .i64 rd0.scene.Camera.Down.X, .int .i64 rd0.scene.Camera.Down.Y, .int .i64 rd0.scene.Camera.Down.Z, .int .i64 rd0.scene.Camera.W, .int .i64 rd0.scene.Camera.H, .int .i64 rd0.scene.Camera.Grid, .int .i64 rd0.scene.Camera.Depth, .int .i64 rd0.scene.Sky.R, .int .i64 rd0.scene.Sky.G, .int .i64 rd0.scene.Sky.B, .sl rd0.scene.Lights.length (rd0.scene.Lights.flatMap eLight), .sl rd0.scene.Mats.length (rd0.scene.Mats.flatMap eMat), .sl rd0.scene.Texs.length (rd0.scene.Texs.flatMap eTex), .sl rd0.scene.Skins.length (rd0.scene.Skins.flatMap eSkin), .sl rd0.scene.Cages.length (rd0.scene.Cages.flatMap eCage)]) (.agg [.int .i64 rd0.scene.Camera.Eye.X, .int .i64 rd0.scene.Camera.Eye.Y, .int .i64 rd0.scene.Camera.Eye.Z, .int .i64 rd0.scene.Camera.First.X, .int .i64 rd0.scene.Camera.First.Y, .int .i64 rd0.scene.Camera.First.Z, .int .i64 rd0.scene.Camera.Right.X, .int .i64 rd0.scene.Camera.Right.Y, .int .i64 rd0.scene.Camera.Right.Z, .int .i64 rd0.scene.Camera.Down.X, .int .i64 rd0.scene.Camera.Down.Y, .int .i64 rd0.scene.Camera.Down.Z, .int .i64 rd0.scene.Camera.W, .int .i64 rd0.scene.Camera.H, .int .i64 rd0.scene.Camera.Grid, .int .i64 rd0.scene.Camera.Depth, .int .i64 rd0.scene.Sky.R, .int .i64 rd0.scene.Sky.G, .int .i64 rd0.scene.Sky.B, .sl rd0.scene.Lights.length (rd0.scene.Lights.flatMap eLight), .sl rd0.scene.Mats.length (rd0.scene.Mats.flatMap eMat), .sl rd0.scene.Texs.length (rd0.scene.Texs.flatMap eTex), .sl rd0.scene.Skins.length (rd0.scene.Skins.flatMap eSkin), .sl rd0.scene.Cages.length (rd0.scene.Cages.flatMap eCage)]) rfl rfl ts_35 h25 rfl rfl rfl rfl ?_)
 intro H29 h30 k31
 have m33 := Mono.set m28 z27 k31
 refine AOps.cons rfl rfl (AOp.assign (.int .i64 2) rfl rfl ?_)
 refine AOps.cons rfl rfl (AOp.assign (.int .i64 10) rfl rfl ?_)
 refine AOps.nil ?_
 change AWP _ _ _ _ _ _
 refine AWP.seq ?_
 refine AWP.frzP 4 h30 z27 rfl m33 fun H34 m35 k36 => ?_
 refine AWP.region (l := [0, 1, 2, 3, 4, 5, 6, 7, 8]) rfl ?_
 refine AOps.cons rfl rfl (AOp.pcall («as» := [.str ⟨#[115, 107, 121, 32, 49, 32, 50, 32, 51]⟩]) rfl rfl (rfl) tf_8 (al_pc3) ?_)
 intro H37 m38
 have m39 := m35.trans m38
 refine AOps.cons rfl rfl (AOp.move (.tup [.agg [.int .i64 rd0.scene.Camera.Eye.X, .int .i64 rd0.scene.Camera.Eye.Y, .int .i64 rd0.scene.Camera.Eye.Z, .int .i64 rd0.scene.Camera.First.X, .int .i64 rd0.scene.Camera.First.Y, .int .i64 rd0.scene.Camera.First.Z, .int .i64 rd0.scene.Camera.Right.X, .int .i64 rd0.scene.Camera.Right.Y, .int .i64 rd0.scene.Camera.Right.Z, .int .i64 rd0.scene.Camera.Down.X, .int .i64 rd0.scene.Camera.Down.Y, .int .i64 rd0.scene.Camera.Down.Z, .int .i64 rd0.scene.Camera.W, .int .i64 rd0.scene.Camera.H, .int .i64 rd0.scene.Camera.Grid, .int .i64 rd0.scene.Camera.Depth, .int .i64 rd0.scene.Sky.R, .int .i64 rd0.scene.Sky.G, .int .i64 rd0.scene.Sky.B, .sl rd0.scene.Lights.length (rd0.scene.Lights.flatMap eLight), .sl rd0.scene.Mats.length (rd0.scene.Mats.flatMap eMat), .sl rd0.scene.Texs.length (rd0.scene.Texs.flatMap eTex), .sl rd0.scene.Skins.length (rd0.scene.Skins.flatMap eSkin), .sl rd0.scene.Cages.length (rd0.scene.Cages.flatMap eCage)], .int .i64 0, .int .i64 15]) rfl rfl ?_)
 refine AOps.cons rfl rfl (AOp.extract (.agg [.int .i64 rd0.scene.Camera.Eye.X, .int .i64 rd0.scene.Camera.Eye.Y, .int .i64 rd0.scene.Camera.Eye.Z, .int .i64 rd0.scene.Camera.First.X, .int .i64 rd0.scene.Camera.First.Y, .int .i64 rd0.scene.Camera.First.Z, .int .i64 rd0.scene.Camera.Right.X, .int .i64 rd0.scene.Camera.Right.Y, .int .i64 rd0.scene.Camera.Right.Z, .int .i64 rd0.scene.Camera.Down.X, .int .i64 rd0.scene.Camera.Down.Y, .int .i64 rd0.scene.Camera.Down.Z, .int .i64 rd0.scene.Camera.W, .int .i64 rd0.scene.Camera.H, .int .i64 rd0.scene.Camera.Grid, .int .i64 rd0.scene.Camera.Depth, .int .i64 rd0.scene.Sky.R, .int .i64 rd0.scene.Sky.G, .int .i64 rd0.scene.Sky.B, .sl rd0.scene.Lights.length (rd0.scene.Lights.flatMap eLight), .sl rd0.scene.Mats.length (rd0.scene.Mats.flatMap eMat), .sl rd0.scene.Texs.length (rd0.scene.Texs.flatMap eTex), .sl rd0.scene.Skins.length (rd0.scene.Skins.flatMap eSkin), .sl rd0.scene.Cages.length (rd0.scene.Cages.flatMap eCage)]) rfl rfl rfl ?_)
 refine AOps.cons rfl rfl (AOp.extract (.int .i64 0) rfl rfl rfl ?_)
 refine AOps.cons rfl rfl (AOp.extract (.int .i64 15) rfl rfl rfl ?_)
 refine AOps.cons rfl rfl (AOp.alloc rfl tz_35 ?_)
 intro i40 H41 n42 h43 k44
 have z45 := Mono.free m39 n42
 have m46 := Mono.new m39 n42 k44
 refine AOps.cons rfl rfl (AOp.store' (cells' := [.int .i64 rd0.scene.Camera.Eye.X, .int .i64 rd0.scene.Camera.Eye.Y, .int .i64 rd0.scene.Camera.Eye.Z, .int .i64 rd0.scene.Camera.First.X, .int .i64 rd0.scene.Camera.First.Y, .int .i64 rd0.scene.Camera.First.Z, .int .i64 rd0.scene.Camera.Right.X, .int .i64 rd0.scene.Camera.Right.Y, .int .i64 rd0.scene.Camera.Right.Z, .int .i64 rd0.scene.Camera.Down.X, .int .i64 rd0.scene.Camera.Down.Y, .int .i64 rd0.scene.Camera.Down.Z, .int .i64 rd0.scene.Camera.W, .int .i64 rd0.scene.Camera.H, .int .i64 rd0.scene.Camera.Grid, .int .i64 rd0.scene.Camera.Depth, .int .i64 rd0.scene.Sky.R, .int .i64 rd0.scene.Sky.G, .int .i64 rd0.scene.Sky.B, .sl rd0.scene.Lights.length (rd0.scene.Lights.flatMap eLight), .sl rd0.scene.Mats.length (rd0.scene.Mats.flatMap eMat), .sl rd0.scene.Texs.length (rd0.scene.Texs.flatMap eTex), .sl rd0.scene.Skins.length (rd0.scene.Skins.flatMap eSkin), .sl rd0.scene.Cages.length (rd0.scene.Cages.flatMap eCage)]) (.agg [.int .i64 rd0.scene.Camera.Eye.X, .int .i64 rd0.scene.Camera.Eye.Y, .int .i64 rd0.scene.Camera.Eye.Z, .int .i64 rd0.scene.Camera.First.X, .int .i64 rd0.scene.Camera.First.Y, .int .i64 rd0.scene.Camera.First.Z, .int .i64 rd0.scene.Camera.Right.X, .int .i64 rd0.scene.Camera.Right.Y, .int .i64 rd0.scene.Camera.Right.Z, .int .i64 rd0.scene.Camera.Down.X, .int .i64 rd0.scene.Camera.Down.Y, .int .i64 rd0.scene.Camera.Down.Z, .int .i64 rd0.scene.Camera.W, .int .i64 rd0.scene.Camera.H, .int .i64 rd0.scene.Camera.Grid, .int .i64 rd0.scene.Camera.Depth, .int .i64 rd0.scene.Sky.R, .int .i64 rd0.scene.Sky.G, .int .i64 rd0.scene.Sky.B, .sl rd0.scene.Lights.length (rd0.scene.Lights.flatMap eLight), .sl rd0.scene.Mats.length (rd0.scene.Mats.flatMap eMat), .sl rd0.scene.Texs.length (rd0.scene.Texs.flatMap eTex), .sl rd0.scene.Skins.length (rd0.scene.Skins.flatMap eSkin), .sl rd0.scene.Cages.length (rd0.scene.Cages.flatMap eCage)]) rfl rfl ts_35 h43 rfl rfl rfl rfl ?_)
 intro H47 h48 k49
 have m51 := Mono.set m46 z45 k49
 refine AOps.cons rfl rfl (AOp.assign (.int .i64 0) rfl rfl ?_)
 refine AOps.cons rfl rfl (AOp.assign (.int .i64 15) rfl rfl ?_)
 refine AOps.nil ?_
 change AWP _ _ _ _ _ _
 refine AWP.seq ?_
 refine AWP.frzP 7 h48 z45 rfl m51 fun H52 m53 k54 => ?_
 have hal1 : alS1.Cages.length = 1 := rfl
 have hal2 : alS1.Skins.length = 1 := rfl
 refine AWP.region (l := [0, 1, 2, 3, 4, 5, 6, 7, 8, 9, 10, 11, 12, 13, 14, 15, 16, 17, 18, 19, 20, 21, 22, 23, 24, 25, 26, 27, 28, 29, 30, 31, 32, 33, 34, 35, 36, 37, 38, 39, 40, 41, 42, 43, 44, 45, 46, 47, 48, 49, 50, 51, 52, 53, 54]) rfl ?_
 refine AOps.cons rfl rfl (AOp.move (.int .i64 0) rfl rfl ?_)
 refine AOps.cons rfl rfl (AOp.bin (.bool (decide (0 = 0))) rfl rfl rfl ieq ?_)
 refine AOps.cons rfl rfl (AOp.move (.bool (decide (0 = 0))) rfl rfl ?_)
 refine AOps.yes rfl rfl rfl rfl rfl rfl rfl (decide_eq_true (by decide)) (AOp.fieldAddrF rfl rfl fl_35_0 ?_)
 refine AOps.yes rfl rfl rfl rfl rfl rfl rfl (decide_eq_true (by decide)) (AOp.fieldAddrF rfl rfl fl_26_0 ?_)
 refine AOps.yes rfl rfl rfl rfl rfl rfl rfl (decide_eq_true (by decide)) (AOp.fieldAddrF rfl rfl fl_24_2 ?_)
 refine AOps.yes rfl rfl rfl rfl rfl rfl rfl (decide_eq_true (by decide)) (AOp.loadF (.int .i64 alS1.Camera.Eye.Z) rfl rfl ty_3 rfl ?_)
 refine AOps.yes rfl rfl rfl rfl rfl rfl rfl (decide_eq_true (by decide)) (AOp.bin (.bool (decide (alS1.Camera.Eye.Z = -9))) rfl rfl rfl ieq ?_)
 refine AOps.cons rfl rfl (AOp.pickT (.bool (decide (alS1.Camera.Eye.Z = -9))) rfl rfl (decide_eq_true (by decide)) rfl ?_)
 refine AOps.cons rfl rfl (AOp.move (.bool (decide (alS1.Camera.Eye.Z = -9))) rfl rfl ?_)
 refine AOps.yes rfl rfl rfl rfl rfl rfl rfl (decide_eq_true (rfl)) (AOp.fieldAddrF rfl rfl fl_35_6 ?_)
 refine AOps.yes rfl rfl rfl rfl rfl rfl rfl (decide_eq_true (rfl)) (AOp.loadF (.sl alS1.Cages.length (alS1.Cages.flatMap eCage)) rfl rfl ty_33 rfl ?_)
 refine AOps.yes rfl rfl rfl rfl rfl rfl rfl (decide_eq_true (rfl)) (AOp.len (m := alS1.Cages.length) rfl rfl (.inr (.inl ⟨_, rfl⟩)) u_33 ?_)
 refine AOps.yes rfl rfl rfl rfl rfl rfl rfl (decide_eq_true (rfl)) (AOp.bin (.bool (decide ((alS1.Cages.length : Int) = 1))) rfl rfl rfl ieq ?_)
 refine AOps.cons rfl rfl (AOp.pickT (.bool (decide ((alS1.Cages.length : Int) = 1))) rfl rfl (decide_eq_true (rfl)) rfl ?_)
 refine AOps.cons rfl rfl (AOp.move (.bool (decide ((alS1.Cages.length : Int) = 1))) rfl rfl ?_)
 refine AOps.yes rfl rfl rfl rfl rfl rfl rfl (decide_eq_true (rfl)) (AOp.fieldAddrF rfl rfl fl_35_6 ?_)
 refine AOps.yes rfl rfl rfl rfl rfl rfl rfl (decide_eq_true (rfl)) (AOp.loadF (.sl alS1.Cages.length (alS1.Cages.flatMap eCage)) rfl rfl ty_33 rfl ?_)
 refine AOps.yes rfl rfl rfl rfl rfl rfl rfl (decide_eq_true (rfl)) (AOp.indexAddrS rfl rfl rfl sl_33 (by omega) (by omega) ?_)
 refine AOps.yes rfl rfl rfl rfl rfl rfl rfl (decide_eq_true (rfl)) (AOp.fieldAddrF rfl rfl fl_46_0 ?_)
 refine AOps.yes rfl rfl rfl rfl rfl rfl rfl (decide_eq_true (rfl)) (AOp.loadF (.sl ((at_ alS1.Cages 0).Verts).length (((at_ alS1.Cages 0).Verts).flatMap eV)) rfl rfl ty_42 (ldF eCage_len (by omega) (by omega) rfl (by decide)) ?_)
 refine AOps.yes rfl rfl rfl rfl rfl rfl rfl (decide_eq_true (rfl)) (AOp.len (m := ((at_ alS1.Cages 0).Verts).length) rfl rfl (.inr (.inl ⟨_, rfl⟩)) u_42 ?_)
 refine AOps.yes rfl rfl rfl rfl rfl rfl rfl (decide_eq_true (rfl)) (AOp.bin (.bool (decide (((((at_ alS1.Cages 0).Verts).length) : Int) = 1))) rfl rfl rfl ieq ?_)
 refine AOps.cons rfl rfl (AOp.pickT (.bool (decide (((((at_ alS1.Cages 0).Verts).length) : Int) = 1))) rfl rfl (decide_eq_true (rfl)) rfl ?_)
 refine AOps.cons rfl rfl (AOp.move (.bool (decide (((((at_ alS1.Cages 0).Verts).length) : Int) = 1))) rfl rfl ?_)
 refine AOps.yes rfl rfl rfl rfl rfl rfl rfl (decide_eq_true (rfl)) (AOp.fieldAddrF rfl rfl fl_35_5 ?_)
 refine AOps.yes rfl rfl rfl rfl rfl rfl rfl (decide_eq_true (rfl)) (AOp.loadF (.sl alS1.Skins.length (alS1.Skins.flatMap eSkin)) rfl rfl ty_32 rfl ?_)
 refine AOps.yes rfl rfl rfl rfl rfl rfl rfl (decide_eq_true (rfl)) (AOp.len (m := alS1.Skins.length) rfl rfl (.inr (.inl ⟨_, rfl⟩)) u_32 ?_)
 refine AOps.yes rfl rfl rfl rfl rfl rfl rfl (decide_eq_true (rfl)) (AOp.bin (.bool (decide ((alS1.Skins.length : Int) = 1))) rfl rfl rfl ieq ?_)
 refine AOps.cons rfl rfl (AOp.pickT (.bool (decide ((alS1.Skins.length : Int) = 1))) rfl rfl (decide_eq_true (rfl)) rfl ?_)
 refine AOps.cons rfl rfl (AOp.move (.bool (decide ((alS1.Skins.length : Int) = 1))) rfl rfl ?_)
 refine AOps.yes rfl rfl rfl rfl rfl rfl rfl (decide_eq_true (rfl)) (AOp.fieldAddrF rfl rfl fl_35_5 ?_)
 refine AOps.yes rfl rfl rfl rfl rfl rfl rfl (decide_eq_true (rfl)) (AOp.loadF (.sl alS1.Skins.length (alS1.Skins.flatMap eSkin)) rfl rfl ty_32 rfl ?_)
 refine AOps.yes rfl rfl rfl rfl rfl rfl rfl (decide_eq_true (rfl)) (AOp.indexAddrS rfl rfl rfl sl_32 (by omega) (by omega) ?_)
 refine AOps.yes rfl rfl rfl rfl rfl rfl rfl (decide_eq_true (rfl)) (AOp.fieldAddrF rfl rfl fl_41_4 ?_)
 refine AOps.yes rfl rfl rfl rfl rfl rfl rfl (decide_eq_true (rfl)) (AOp.loadF (.int .i64 ((at_ alS1.Skins 0).Tex)) rfl rfl ty_3 (ldF eSkin_len (by omega) (by omega) rfl (by decide)) ?_)
 refine AOps.yes rfl rfl rfl rfl rfl rfl rfl (decide_eq_true (rfl)) (AOp.bin (.bool (decide ((at_ alS1.Skins 0).Tex = -1))) rfl rfl rfl ieq ?_)
 refine AOps.cons rfl rfl (AOp.pickT (.bool (decide ((at_ alS1.Skins 0).Tex = -1))) rfl rfl (decide_eq_true (rfl)) rfl ?_)
 refine AOps.cons rfl rfl (AOp.move (.bool (decide ((at_ alS1.Skins 0).Tex = -1))) rfl rfl ?_)
 refine AOps.yes rfl rfl rfl rfl rfl rfl rfl (decide_eq_true (rfl)) (AOp.move (.int .i64 2) rfl rfl ?_)
 refine AOps.yes rfl rfl rfl rfl rfl rfl rfl (decide_eq_true (rfl)) (AOp.bin (.bool (decide (2 = 2))) rfl rfl rfl ieq ?_)
 refine AOps.cons rfl rfl (AOp.pickT (.bool (decide (2 = 2))) rfl rfl (decide_eq_true (rfl)) rfl ?_)
 refine AOps.cons rfl rfl (AOp.move (.bool (decide (2 = 2))) rfl rfl ?_)
 refine AOps.yes rfl rfl rfl rfl rfl rfl rfl (decide_eq_true (by decide)) (AOp.move (.int .i64 10) rfl rfl ?_)
 refine AOps.yes rfl rfl rfl rfl rfl rfl rfl (decide_eq_true (by decide)) (AOp.bin (.bool (decide (10 = 10))) rfl rfl rfl ieq ?_)
 refine AOps.cons rfl rfl (AOp.pickT (.bool (decide (10 = 10))) rfl rfl (decide_eq_true (by decide)) rfl ?_)
 refine AOps.cons rfl rfl (AOp.move (.bool (decide (10 = 10))) rfl rfl ?_)
 refine AOps.yes rfl rfl rfl rfl rfl rfl rfl (decide_eq_true (by decide)) (AOp.move (.int .i64 0) rfl rfl ?_)
 refine AOps.yes rfl rfl rfl rfl rfl rfl rfl (decide_eq_true (by decide)) (AOp.bin (.bool (decide (0 = 0))) rfl rfl rfl ieq ?_)
 refine AOps.cons rfl rfl (AOp.pickT (.bool (decide (0 = 0))) rfl rfl (decide_eq_true (by decide)) rfl ?_)
 refine AOps.cons rfl rfl (AOp.move (.bool (decide (0 = 0))) rfl rfl ?_)
 refine AOps.yes rfl rfl rfl rfl rfl rfl rfl (decide_eq_true (by decide)) (AOp.move (.int .i64 15) rfl rfl ?_)
 refine AOps.yes rfl rfl rfl rfl rfl rfl rfl (decide_eq_true (by decide)) (AOp.bin (.bool (decide (15 = 15))) rfl rfl rfl ieq ?_)
 refine AOps.cons rfl rfl (AOp.pickT (.bool (decide (15 = 15))) rfl rfl (decide_eq_true (by decide)) rfl ?_)
 refine AOps.cons rfl rfl (AOp.assign (.bool (decide (15 = 15))) rfl rfl ?_)
 refine AOps.nil ?_
 change AWP _ _ _ _ _ _
 refine AWP.ret ?_
 refine ⟨_, _, Ghost.refl, .inr rfl, _, Res.one rfl rfl, ?_, m53⟩
 exact (congrArg AV.bool (show (decide (15 = 15) : Bool) = true from by decide))
end Go.Proofs.S
namespace Go.Proofs.S
open Go Go.AH Go.Proofs.L
set_option maxRecDepth 4000
set_option maxHeartbeats 4000000
set_option linter.unusedSimpArgs false
set_option linter.unusedVariables false
set_option linter.unusedSectionVars false
variable [LexG]
theorem c_SceneCages (s : ByteArray) : PC Tryd.prog 6 [.str s] (.bool true) := by
 intro H0
 refine ACalls.of_body' (n := 142) rfl rfl rfl rfl ?_
 have m0 := Mono.refl H0
 refine AWP.seq ?_
 refine AWP.region (l := [0]) rfl ?_
 refine AOps.cons rfl rfl (AOp.assign (.bool false) rfl rfl ?_)
 refine AOps.nil ?_
 change AWP _ _ _ _ _ _
 refine AWP.seq ?_
 refine AWP.seq ?_
 refine AWP.region (l := [0, 1]) rfl ?_
 refine AOps.cons rfl rfl (AOp.pcall («as» := []) rfl rfl (rfl) tf_7 (c_alive) ?_)
 intro H1 m2
 have m3 := m0.trans m2
 refine AOps.cons rfl rfl (AOp.not rfl rfl ?_)
 refine AOps.nil ?_
 change AWP _ _ _ _ _ _
 refine AWP.condF rfl rfl ?_
 refine AWP.skip ?_
 change AWP _ _ _ _ _ _
 refine AWP.seq ?_
 refine AWP.seq ?_
 refine AWP.region (l := [0, 1, 2]) rfl ?_
 refine AOps.cons rfl rfl (AOp.move (.str s) rfl rfl ?_)
 refine AOps.cons rfl rfl (AOp.lenStr rfl rfl u_9 ?_)
 refine AOps.cons rfl rfl (AOp.bin (.bool (decide ((s.size : Int) > 8000))) rfl rfl rfl rfl ?_)
 refine AOps.nil ?_
 change AWP _ _ _ _ _ _
 by_cases b4 : (s.size : Int) > 8000
 ·
  refine AWP.condT rfl (decide_eq_true b4) ?_
  refine AWP.seq ?_
  refine AWP.region (l := [0]) rfl ?_
  refine AOps.cons rfl rfl (AOp.assign (.bool true) rfl rfl ?_)
  refine AOps.nil ?_
  change AWP _ _ _ _ _ _
  refine AWP.ret ?_
  refine ⟨_, _, Ghost.refl, .inr rfl, _, Res.one rfl rfl, ?_, m3⟩
  exact rfl
 ·
  refine AWP.condF rfl (decide_eq_false b4) ?_
  refine AWP.skip ?_
  change AWP _ _ _ _ _ _
  refine AWP.seq ?_
  refine AWP.region (l := [0, 1, 2, 3, 4, 5, 6, 7, 8, 9]) rfl ?_
  refine AOps.cons rfl rfl (AOp.move (.str s) rfl rfl ?_)
  refine AOps.cons rfl rfl (AOp.pcall («as» := [.str s]) rfl rfl (rfl) tf_8 (c_Parse s) ?_)
  intro H5 m6
  have m7 := m3.trans m6
  refine AOps.cons rfl rfl (AOp.move (.tup [.agg [.int .i64 (((((parseR s).1).Camera).Eye).X), .int .i64 (((((parseR s).1).Camera).Eye).Y), .int .i64 (((((parseR s).1).Camera).Eye).Z), .int .i64 (((((parseR s).1).Camera).First).X), .int .i64 (((((parseR s).1).Camera).First).Y), .int .i64 (((((parseR s).1).Camera).First).Z), .int .i64 (((((parseR s).1).Camera).Right).X), .int .i64 (((((parseR s).1).Camera).Right).Y), .int .i64 (((((parseR s).1).Camera).Right).Z), .int .i64 (((((parseR s).1).Camera).Down).X), .int .i64 (((((parseR s).1).Camera).Down).Y), .int .i64 (((((parseR s).1).Camera).Down).Z), .int .i64 ((((parseR s).1).Camera).W), .int .i64 ((((parseR s).1).Camera).H), .int .i64 ((((parseR s).1).Camera).Grid), .int .i64 ((((parseR s).1).Camera).Depth), .int .i64 ((((parseR s).1).Sky).R), .int .i64 ((((parseR s).1).Sky).G), .int .i64 ((((parseR s).1).Sky).B), .sl (((parseR s).1).Lights).length ((((parseR s).1).Lights).flatMap eLight), .sl (((parseR s).1).Mats).length ((((parseR s).1).Mats).flatMap eMat), .sl (((parseR s).1).Texs).length ((((parseR s).1).Texs).flatMap eTex), .sl (((parseR s).1).Skins).length ((((parseR s).1).Skins).flatMap eSkin), .sl (((parseR s).1).Cages).length ((((parseR s).1).Cages).flatMap eCage)], .int .i64 ((parseR s).2.1), .int .i64 ((parseR s).2.2)]) rfl rfl ?_)
  refine AOps.cons rfl rfl (AOp.extract (.agg [.int .i64 (((((parseR s).1).Camera).Eye).X), .int .i64 (((((parseR s).1).Camera).Eye).Y), .int .i64 (((((parseR s).1).Camera).Eye).Z), .int .i64 (((((parseR s).1).Camera).First).X), .int .i64 (((((parseR s).1).Camera).First).Y), .int .i64 (((((parseR s).1).Camera).First).Z), .int .i64 (((((parseR s).1).Camera).Right).X), .int .i64 (((((parseR s).1).Camera).Right).Y), .int .i64 (((((parseR s).1).Camera).Right).Z), .int .i64 (((((parseR s).1).Camera).Down).X), .int .i64 (((((parseR s).1).Camera).Down).Y), .int .i64 (((((parseR s).1).Camera).Down).Z), .int .i64 ((((parseR s).1).Camera).W), .int .i64 ((((parseR s).1).Camera).H), .int .i64 ((((parseR s).1).Camera).Grid), .int .i64 ((((parseR s).1).Camera).Depth), .int .i64 ((((parseR s).1).Sky).R), .int .i64 ((((parseR s).1).Sky).G), .int .i64 ((((parseR s).1).Sky).B), .sl (((parseR s).1).Lights).length ((((parseR s).1).Lights).flatMap eLight), .sl (((parseR s).1).Mats).length ((((parseR s).1).Mats).flatMap eMat), .sl (((parseR s).1).Texs).length ((((parseR s).1).Texs).flatMap eTex), .sl (((parseR s).1).Skins).length ((((parseR s).1).Skins).flatMap eSkin), .sl (((parseR s).1).Cages).length ((((parseR s).1).Cages).flatMap eCage)]) rfl rfl rfl ?_)
  refine AOps.cons rfl rfl (AOp.extract (.int .i64 ((parseR s).2.1)) rfl rfl rfl ?_)
  refine AOps.cons rfl rfl (AOp.extract (.int .i64 ((parseR s).2.2)) rfl rfl rfl ?_)
  refine AOps.cons rfl rfl (AOp.alloc rfl tz_35 ?_)
  intro i8 H9 n10 h11 k12
  have z13 := Mono.free m7 n10
  have m14 := Mono.new m7 n10 k12
  refine AOps.cons rfl rfl (AOp.store' (cells' := [.int .i64 (((((parseR s).1).Camera).Eye).X), .int .i64 (((((parseR s).1).Camera).Eye).Y), .int .i64 (((((parseR s).1).Camera).Eye).Z), .int .i64 (((((parseR s).1).Camera).First).X), .int .i64 (((((parseR s).1).Camera).First).Y), .int .i64 (((((parseR s).1).Camera).First).Z), .int .i64 (((((parseR s).1).Camera).Right).X), .int .i64 (((((parseR s).1).Camera).Right).Y), .int .i64 (((((parseR s).1).Camera).Right).Z), .int .i64 (((((parseR s).1).Camera).Down).X), .int .i64 (((((parseR s).1).Camera).Down).Y), .int .i64 (((((parseR s).1).Camera).Down).Z), .int .i64 ((((parseR s).1).Camera).W), .int .i64 ((((parseR s).1).Camera).H), .int .i64 ((((parseR s).1).Camera).Grid), .int .i64 ((((parseR s).1).Camera).Depth), .int .i64 ((((parseR s).1).Sky).R), .int .i64 ((((parseR s).1).Sky).G), .int .i64 ((((parseR s).1).Sky).B), .sl (((parseR s).1).Lights).length ((((parseR s).1).Lights).flatMap eLight), .sl (((parseR s).1).Mats).length ((((parseR s).1).Mats).flatMap eMat), .sl (((parseR s).1).Texs).length ((((parseR s).1).Texs).flatMap eTex), .sl (((parseR s).1).Skins).length ((((parseR s).1).Skins).flatMap eSkin), .sl (((parseR s).1).Cages).length ((((parseR s).1).Cages).flatMap eCage)]) (.agg [.int .i64 (((((parseR s).1).Camera).Eye).X), .int .i64 (((((parseR s).1).Camera).Eye).Y), .int .i64 (((((parseR s).1).Camera).Eye).Z), .int .i64 (((((parseR s).1).Camera).First).X), .int .i64 (((((parseR s).1).Camera).First).Y), .int .i64 (((((parseR s).1).Camera).First).Z), .int .i64 (((((parseR s).1).Camera).Right).X), .int .i64 (((((parseR s).1).Camera).Right).Y), .int .i64 (((((parseR s).1).Camera).Right).Z), .int .i64 (((((parseR s).1).Camera).Down).X), .int .i64 (((((parseR s).1).Camera).Down).Y), .int .i64 (((((parseR s).1).Camera).Down).Z), .int .i64 ((((parseR s).1).Camera).W), .int .i64 ((((parseR s).1).Camera).H), .int .i64 ((((parseR s).1).Camera).Grid), .int .i64 ((((parseR s).1).Camera).Depth), .int .i64 ((((parseR s).1).Sky).R), .int .i64 ((((parseR s).1).Sky).G), .int .i64 ((((parseR s).1).Sky).B), .sl (((parseR s).1).Lights).length ((((parseR s).1).Lights).flatMap eLight), .sl (((parseR s).1).Mats).length ((((parseR s).1).Mats).flatMap eMat), .sl (((parseR s).1).Texs).length ((((parseR s).1).Texs).flatMap eTex), .sl (((parseR s).1).Skins).length ((((parseR s).1).Skins).flatMap eSkin), .sl (((parseR s).1).Cages).length ((((parseR s).1).Cages).flatMap eCage)]) rfl rfl ts_35 h11 rfl rfl rfl rfl ?_)
  intro H15 h16 k17
  have m19 := Mono.set m14 z13 k17
  refine AOps.cons rfl rfl (AOp.assign (.int .i64 ((parseR s).2.1)) rfl rfl ?_)
  refine AOps.cons rfl rfl (AOp.assign (.int .i64 ((parseR s).2.2)) rfl rfl ?_)
  refine AOps.nil ?_
  change AWP _ _ _ _ _ _
  refine AWP.seq ?_
  refine AWP.frzP 3 h16 z13 rfl m19 fun H20 m21 k22 => ?_
  refine AWP.region (l := [0, 1, 2, 3, 4, 5, 6, 7, 8]) rfl ?_
  refine AOps.cons rfl rfl (AOp.move (.str s) rfl rfl ?_)
  refine AOps.cons rfl rfl (AOp.pcall («as» := [.str s]) rfl rfl (rfl) tf_9 (c_lex_Lines _) ?_)
  intro H23 m24
  have m25 := m21.trans m24
  refine AOps.cons rfl rfl (AOp.move (.tup [.sl ((linesR s).1).length (((linesR s).1).flatMap eLine), .int .i64 ((linesR s).2.1), .int .i64 ((linesR s).2.2)]) rfl rfl ?_)
  refine AOps.cons rfl rfl (AOp.extract (.sl ((linesR s).1).length (((linesR s).1).flatMap eLine)) rfl rfl rfl ?_)
  refine AOps.cons rfl rfl (AOp.extract (.int .i64 ((linesR s).2.1)) rfl rfl rfl ?_)
  refine AOps.cons rfl rfl (AOp.extract (.int .i64 ((linesR s).2.2)) rfl rfl rfl ?_)
  refine AOps.cons rfl rfl (AOp.assign (.sl ((linesR s).1).length (((linesR s).1).flatMap eLine)) rfl rfl ?_)
  refine AOps.cons rfl rfl (AOp.assign (.int .i64 ((linesR s).2.1)) rfl rfl ?_)
  refine AOps.cons rfl rfl (AOp.assign (.int .i64 ((linesR s).2.2)) rfl rfl ?_)
  refine AOps.nil ?_
  change AWP _ _ _ _ _ _
  refine AWP.seq ?_
  refine AWP.seq ?_
  refine AWP.region (l := [0, 1, 2, 3, 4, 5]) rfl ?_
  refine AOps.cons rfl rfl (AOp.move (.int .i64 ((parseR s).2.2)) rfl rfl ?_)
  refine AOps.cons rfl rfl (AOp.bin (.bool (!decide ((parseR s).2.2 = 0))) rfl rfl rfl ine ?_)
  refine AOps.cons rfl rfl (AOp.move (.bool (!decide ((parseR s).2.2 = 0))) rfl rfl ?_)
  by_cases b26 : (parseR s).2.2 = 0
  ·
   refine AOps.yes rfl rfl rfl rfl rfl rfl rfl (nb (decide_eq_true b26)) (AOp.move (.int .i64 ((linesR s).2.2)) rfl rfl ?_)
   refine AOps.yes rfl rfl rfl rfl rfl rfl rfl (nb (decide_eq_true b26)) (AOp.bin (.bool (!decide ((linesR s).2.2 = 0))) rfl rfl rfl ine ?_)
   refine AOps.cons rfl rfl (AOp.pickF (.bool (!decide ((linesR s).2.2 = 0))) rfl rfl (nb (decide_eq_true b26)) rfl ?_)
   refine AOps.nil ?_
   change AWP _ _ _ _ _ _
   by_cases b27 : (linesR s).2.2 = 0
   ·
    refine AWP.condF rfl (nb (decide_eq_true b27)) ?_
    refine AWP.skip ?_
    change AWP _ _ _ _ _ _
    refine AWP.seq ?_
    have hG := cagesI b26 b27
    have hll := lines_len' s
    refine AWP.region (l := [0, 1]) rfl ?_
    refine AOps.cons rfl rfl (AOp.makeMap rfl ?_)
    intro i28 H29 n30 h31 k32
    have z33 := Mono.free m25 n30
    have m34 := Mono.new m25 n30 k32
    refine AOps.cons rfl rfl (AOp.assign (.map i28) rfl rfl ?_)
    refine AOps.nil ?_
    change AWP _ _ _ _ _ _
    refine AWP.seq ?_
    refine AWP.seq ?_
    refine AWP.region (l := [0]) rfl ?_
    refine AOps.cons rfl rfl (AOp.assign (.int .i64 0) rfl rfl ?_)
    refine AOps.nil ?_
    change AWP _ _ _ _ _ _
    refine AWP.block ?_
    refine AWP.loop (fun q35 fq Hq => ∃ (i : Int), q35 = (((((linesR s).1).length : Int) : Int) - i).toNat ∧ fq 10 = .int .i64 i ∧ fq 2 = .bool false ∧ fq 3 = .fptr [.int .i64 (((((parseR s).1).Camera).Eye).X), .int .i64 (((((parseR s).1).Camera).Eye).Y), .int .i64 (((((parseR s).1).Camera).Eye).Z), .int .i64 (((((parseR s).1).Camera).First).X), .int .i64 (((((parseR s).1).Camera).First).Y), .int .i64 (((((parseR s).1).Camera).First).Z), .int .i64 (((((parseR s).1).Camera).Right).X), .int .i64 (((((parseR s).1).Camera).Right).Y), .int .i64 (((((parseR s).1).Camera).Right).Z), .int .i64 (((((parseR s).1).Camera).Down).X), .int .i64 (((((parseR s).1).Camera).Down).Y), .int .i64 (((((parseR s).1).Camera).Down).Z), .int .i64 ((((parseR s).1).Camera).W), .int .i64 ((((parseR s).1).Camera).H), .int .i64 ((((parseR s).1).Camera).Grid), .int .i64 ((((parseR s).1).Camera).Depth), .int .i64 ((((parseR s).1).Sky).R), .int .i64 ((((parseR s).1).Sky).G), .int .i64 ((((parseR s).1).Sky).B), .sl (((parseR s).1).Lights).length ((((parseR s).1).Lights).flatMap eLight), .sl (((parseR s).1).Mats).length ((((parseR s).1).Mats).flatMap eMat), .sl (((parseR s).1).Texs).length ((((parseR s).1).Texs).flatMap eTex), .sl (((parseR s).1).Skins).length ((((parseR s).1).Skins).flatMap eSkin), .sl (((parseR s).1).Cages).length ((((parseR s).1).Cages).flatMap eCage)] 0 ∧ fq 6 = .sl ((linesR s).1).length (((linesR s).1).flatMap eLine) ∧ fq 9 = .map i28 ∧ Hq i28 = some (.map (mcl ((linesR s).1.take i.toNat))) ∧ Mono H0 Hq ∧ (0 ≤ i) ∧ (i ≤ (((linesR s).1).length : Int))) (k := (((((linesR s).1).length : Int) : Int) - 0).toNat) ?_ ?_
    ·
     exact ⟨0, rfl, rfl, rfl, rfl, rfl, rfl, (h31.trans (congrArg (fun l : List (AV × AV) => some (AB.map l)) (show (([] : List (AV × AV)) : List (AV × AV)) = mcl ((linesR s).1.take (0 : Int).toNat) from by first | rfl | simp [mcl, mcnt, mcntF]))), m34, by omega, by omega⟩
    ·
     rintro _ f37 H36 ⟨i, rfl, s38, s39, s40, s41, s42, h43, m44, hi0, hi1⟩
     refine AWP.seq ?_
     refine AWP.seq ?_
     refine AWP.region (l := [0, 1, 2, 3]) rfl ?_
     refine AOps.cons rfl rfl (AOp.move (.int .i64 i) rfl s38 ?_)
     refine AOps.cons rfl rfl (AOp.move (.sl ((linesR s).1).length (((linesR s).1).flatMap eLine)) rfl s41 ?_)
     refine AOps.cons rfl rfl (AOp.len (m := ((linesR s).1).length) rfl rfl (.inr (.inl ⟨_, rfl⟩)) u_49 ?_)
     refine AOps.cons rfl rfl (AOp.bin (.bool (decide (i < ((((linesR s).1).length) : Int)))) rfl rfl rfl rfl ?_)
     refine AOps.nil ?_
     change AWP _ _ _ _ _ _
     by_cases b45 : i < ((((linesR s).1).length) : Int)
     ·
      refine AWP.condT rfl (decide_eq_true b45) ?_
      refine AWP.skip ?_
      change AWP _ _ _ _ _ _
      refine AWP.seq ?_
      refine AWP.block ?_
      have hkx := line_key (s := s) (by omega) (P := Tryd.prog) (t := 9) rfl _ (List.mem_map.2 ⟨_, at_mem (l := (linesR s).1) (i := i) hi0 (by omega), rfl⟩)
      have hwd := (lines_short (s := s) (by omega) _ (at_mem hi0 (by omega))).1
      have hwl := lines_words s _ (at_mem hi0 (by omega))
      have hkt := kc_take (linesR s).1 (at_ (at_ (linesR s).1 i).Words 0) i hi0
      have hks := mcl_keys (s := s) (by omega) (P := Tryd.prog) (t := 9) rfl i.toNat
      refine AWP.region (l := [0, 1, 2, 3, 4, 5, 6, 7, 8, 9, 10]) rfl ?_
      refine AOps.cons rfl rfl (AOp.move (.map i28) rfl s42 ?_)
      refine AOps.cons rfl rfl (AOp.move (.sl ((linesR s).1).length (((linesR s).1).flatMap eLine)) rfl s41 ?_)
      refine AOps.cons rfl rfl (AOp.move (.int .i64 i) rfl s38 ?_)
      refine AOps.cons rfl rfl (AOp.indexAddrS rfl rfl rfl sl_49 (by omega) (by omega) ?_)
      refine AOps.cons rfl rfl (AOp.fieldAddrF rfl rfl fl_54_1 ?_)
      refine AOps.cons rfl rfl (AOp.loadF (.sl ((at_ ((linesR s).1) i).Words).length (((at_ ((linesR s).1) i).Words).map eStr)) rfl rfl ty_52 (ldF eLine_len (by omega) (by omega) rfl (by decide)) ?_)
      refine AOps.cons rfl rfl (AOp.indexAddrS rfl rfl rfl sl_52 (by omega) (by omega) ?_)
      refine AOps.cons rfl rfl (AOp.loadF (.str (at_ ((at_ ((linesR s).1) i).Words) 0)) rfl rfl ty_9 (ld1 (by omega) (by omega)) ?_)
      refine AOps.cons rfl rfl (AOp.lookup' rfl rfl h43 rfl hkx hks tm56 tzv_3 (mcl_get _ _) ?_)
      refine AOps.cons rfl rfl (AOp.bin (.int .i64 (((kc ((linesR s).1.take i.toNat) (at_ ((at_ ((linesR s).1) i).Words) 0) : Nat) : Int) + 1)) rfl rfl rfl (iadd (by omega)) ?_)
      refine AOps.cons rfl rfl (AOp.mapUpdate2 (es' := mcl ((linesR s).1.take (i + 1).toNat)) rfl h43 rfl hkx hks tm56 rfl (mcl_step hi0 (by omega)) ?_)
      intro H46 h47 k48
      have m50 := Mono.set m44 z33 k48
      refine AOps.nil ?_
      change AWP _ _ _ _ _ _
      refine AWP.region (l := [0, 1, 2]) rfl ?_
      refine AOps.cons rfl rfl (AOp.move (.int .i64 i) rfl s38 ?_)
      refine AOps.cons rfl rfl (AOp.bin (.int .i64 (i + 1)) rfl rfl rfl (iadd (by omega)) ?_)
      refine AOps.cons rfl rfl (AOp.assign (.int .i64 (i + 1)) rfl rfl ?_)
      refine AOps.nil ?_
      exact ⟨_, by omega, i + 1, rfl, rfl, s39, s40, s41, s42, h47, m50, by omega, by omega⟩
     ·
      refine AWP.condF rfl (decide_eq_false b45) ?_
      refine AWP.exit ?_
      change AWP _ _ _ _ _ _
      refine AWP.seq ?_
      have hti : (linesR s).1.take i.toNat = (linesR s).1 := List.take_of_length_le (by omega)
      have hnc := cages_bd s
      refine AWP.region (l := [0]) rfl ?_
      refine AOps.cons rfl rfl (AOp.assign (.int .i64 0) rfl rfl ?_)
      refine AOps.nil ?_
      change AWP _ _ _ _ _ _
      refine AWP.seq ?_
      refine AWP.region (l := [0]) rfl ?_
      refine AOps.cons rfl rfl (AOp.assign (.int .i64 0) rfl rfl ?_)
      refine AOps.nil ?_
      change AWP _ _ _ _ _ _
      refine AWP.seq ?_
      refine AWP.region (l := [0]) rfl ?_
      refine AOps.cons rfl rfl (AOp.assign (.int .i64 0) rfl rfl ?_)
      refine AOps.nil ?_
      change AWP _ _ _ _ _ _
      refine AWP.seq ?_
      refine AWP.seq ?_
      refine AWP.region (l := [0]) rfl ?_
      refine AOps.cons rfl rfl (AOp.assign (.int .i64 0) rfl rfl ?_)
      refine AOps.nil ?_
      change AWP _ _ _ _ _ _
      refine AWP.block ?_
      refine AWP.loop (fun q51 fq Hq => ∃ (c : Int), q51 = (((((parseR s).1.Cages).length : Int) : Int) - c).toNat ∧ fq 14 = .int .i64 c ∧ fq 11 = .int .i64 ((sumV ((parseR s).1.Cages.take c.toNat) : Nat) : Int) ∧ fq 12 = .int .i64 ((sumF ((parseR s).1.Cages.take c.toNat) : Nat) : Int) ∧ fq 13 = .int .i64 ((sumC ((parseR s).1.Cages.take c.toNat) : Nat) : Int) ∧ fq 2 = .bool false ∧ fq 3 = .fptr [.int .i64 (((((parseR s).1).Camera).Eye).X), .int .i64 (((((parseR s).1).Camera).Eye).Y), .int .i64 (((((parseR s).1).Camera).Eye).Z), .int .i64 (((((parseR s).1).Camera).First).X), .int .i64 (((((parseR s).1).Camera).First).Y), .int .i64 (((((parseR s).1).Camera).First).Z), .int .i64 (((((parseR s).1).Camera).Right).X), .int .i64 (((((parseR s).1).Camera).Right).Y), .int .i64 (((((parseR s).1).Camera).Right).Z), .int .i64 (((((parseR s).1).Camera).Down).X), .int .i64 (((((parseR s).1).Camera).Down).Y), .int .i64 (((((parseR s).1).Camera).Down).Z), .int .i64 ((((parseR s).1).Camera).W), .int .i64 ((((parseR s).1).Camera).H), .int .i64 ((((parseR s).1).Camera).Grid), .int .i64 ((((parseR s).1).Camera).Depth), .int .i64 ((((parseR s).1).Sky).R), .int .i64 ((((parseR s).1).Sky).G), .int .i64 ((((parseR s).1).Sky).B), .sl (((parseR s).1).Lights).length ((((parseR s).1).Lights).flatMap eLight), .sl (((parseR s).1).Mats).length ((((parseR s).1).Mats).flatMap eMat), .sl (((parseR s).1).Texs).length ((((parseR s).1).Texs).flatMap eTex), .sl (((parseR s).1).Skins).length ((((parseR s).1).Skins).flatMap eSkin), .sl (((parseR s).1).Cages).length ((((parseR s).1).Cages).flatMap eCage)] 0 ∧ fq 9 = .map i28 ∧ Hq i28 = some (.map (mcl ((linesR s).1.take i.toNat))) ∧ Mono H0 Hq ∧ (0 ≤ c) ∧ (c ≤ (((parseR s).1.Cages).length : Int))) (k := (((((parseR s).1.Cages).length : Int) : Int) - 0).toNat) ?_ ?_
      ·
       exact ⟨0, rfl, rfl, (congrArg (AV.int .i64) (show (0 : Int) = ((sumV ((parseR s).1.Cages.take (0 : Int).toNat) : Nat) : Int) from by rfl)), (congrArg (AV.int .i64) (show (0 : Int) = ((sumF ((parseR s).1.Cages.take (0 : Int).toNat) : Nat) : Int) from by rfl)), (congrArg (AV.int .i64) (show (0 : Int) = ((sumC ((parseR s).1.Cages.take (0 : Int).toNat) : Nat) : Int) from by rfl)), s39, s40, s42, h43, m44, by omega, by omega⟩
      ·
       rintro _ f53 H52 ⟨c, rfl, s54, s55, s56, s57, s58, s59, s60, h61, m62, hc0, hc1⟩
       refine AWP.seq ?_
       refine AWP.seq ?_
       refine AWP.region (l := [0, 1, 2, 3, 4]) rfl ?_
       refine AOps.cons rfl rfl (AOp.move (.int .i64 c) rfl s54 ?_)
       refine AOps.cons rfl rfl (AOp.fieldAddrF rfl s59 fl_35_6 ?_)
       refine AOps.cons rfl rfl (AOp.loadF (.sl (((parseR s).1).Cages).length ((((parseR s).1).Cages).flatMap eCage)) rfl rfl ty_33 rfl ?_)
       refine AOps.cons rfl rfl (AOp.len (m := (((parseR s).1).Cages).length) rfl rfl (.inr (.inl ⟨_, rfl⟩)) u_33 ?_)
       refine AOps.cons rfl rfl (AOp.bin (.bool (decide (c < (((((parseR s).1).Cages).length) : Int)))) rfl rfl rfl rfl ?_)
       refine AOps.nil ?_
       change AWP _ _ _ _ _ _
       by_cases b63 : c < (((((parseR s).1).Cages).length) : Int)
       ·
        refine AWP.condT rfl (decide_eq_true b63) ?_
        refine AWP.skip ?_
        change AWP _ _ _ _ _ _
        refine AWP.seq ?_
        refine AWP.block ?_
        refine AWP.seq ?_
        have hcs := sums_bd s c hc0 hc1
        have hcb := hnc.2 _ (at_mem hc0 (by omega))
        refine AWP.region (l := [0, 1, 2, 3, 4, 5, 6, 7, 8, 9]) rfl ?_
        refine AOps.cons rfl rfl (AOp.move (.int .i64 ((sumV ((parseR s).1.Cages.take c.toNat) : Nat) : Int)) rfl s55 ?_)
        refine AOps.cons rfl rfl (AOp.fieldAddrF rfl s59 fl_35_6 ?_)
        refine AOps.cons rfl rfl (AOp.loadF (.sl (((parseR s).1).Cages).length ((((parseR s).1).Cages).flatMap eCage)) rfl rfl ty_33 rfl ?_)
        refine AOps.cons rfl rfl (AOp.move (.int .i64 c) rfl s54 ?_)
        refine AOps.cons rfl rfl (AOp.indexAddrS rfl rfl rfl sl_33 (by omega) (by omega) ?_)
        refine AOps.cons rfl rfl (AOp.fieldAddrF rfl rfl fl_46_0 ?_)
        refine AOps.cons rfl rfl (AOp.loadF (.sl ((at_ (((parseR s).1).Cages) c).Verts).length (((at_ (((parseR s).1).Cages) c).Verts).flatMap eV)) rfl rfl ty_42 (ldF eCage_len (by omega) (by omega) rfl (by decide)) ?_)
        refine AOps.cons rfl rfl (AOp.len (m := ((at_ (((parseR s).1).Cages) c).Verts).length) rfl rfl (.inr (.inl ⟨_, rfl⟩)) u_42 ?_)
        refine AOps.cons rfl rfl (AOp.bin (.int .i64 (((sumV ((parseR s).1.Cages.take c.toNat) : Nat) : Int) + ((((at_ (((parseR s).1).Cages) c).Verts).length) : Int))) rfl rfl rfl (iadd (by omega)) ?_)
        refine AOps.cons rfl rfl (AOp.assign (.int .i64 (((sumV ((parseR s).1.Cages.take c.toNat) : Nat) : Int) + ((((at_ (((parseR s).1).Cages) c).Verts).length) : Int))) rfl rfl ?_)
        refine AOps.nil ?_
        change AWP _ _ _ _ _ _
        refine AWP.seq ?_
        refine AWP.region (l := [0, 1, 2, 3, 4, 5, 6, 7, 8, 9]) rfl ?_
        refine AOps.cons rfl rfl (AOp.move (.int .i64 ((sumF ((parseR s).1.Cages.take c.toNat) : Nat) : Int)) rfl s56 ?_)
        refine AOps.cons rfl rfl (AOp.fieldAddrF rfl s59 fl_35_6 ?_)
        refine AOps.cons rfl rfl (AOp.loadF (.sl (((parseR s).1).Cages).length ((((parseR s).1).Cages).flatMap eCage)) rfl rfl ty_33 rfl ?_)
        refine AOps.cons rfl rfl (AOp.move (.int .i64 c) rfl s54 ?_)
        refine AOps.cons rfl rfl (AOp.indexAddrS rfl rfl rfl sl_33 (by omega) (by omega) ?_)
        refine AOps.cons rfl rfl (AOp.fieldAddrF rfl rfl fl_46_1 ?_)
        refine AOps.cons rfl rfl (AOp.loadF (.sl ((at_ (((parseR s).1).Cages) c).Faces).length (((at_ (((parseR s).1).Cages) c).Faces).map eF)) rfl rfl ty_43 (ldF eCage_len (by omega) (by omega) rfl (by decide)) ?_)
        refine AOps.cons rfl rfl (AOp.len (m := ((at_ (((parseR s).1).Cages) c).Faces).length) rfl rfl (.inr (.inl ⟨_, rfl⟩)) u_43 ?_)
        refine AOps.cons rfl rfl (AOp.bin (.int .i64 (((sumF ((parseR s).1.Cages.take c.toNat) : Nat) : Int) + ((((at_ (((parseR s).1).Cages) c).Faces).length) : Int))) rfl rfl rfl (iadd (by omega)) ?_)
        refine AOps.cons rfl rfl (AOp.assign (.int .i64 (((sumF ((parseR s).1.Cages.take c.toNat) : Nat) : Int) + ((((at_ (((parseR s).1).Cages) c).Faces).length) : Int))) rfl rfl ?_)
        refine AOps.nil ?_
        change AWP _ _ _ _ _ _
        refine AWP.region (l := [0, 1, 2, 3, 4, 5, 6, 7, 8, 9]) rfl ?_
        refine AOps.cons rfl rfl (AOp.move (.int .i64 ((sumC ((parseR s).1.Cages.take c.toNat) : Nat) : Int)) rfl s57 ?_)
        refine AOps.cons rfl rfl (AOp.fieldAddrF rfl s59 fl_35_6 ?_)
        refine AOps.cons rfl rfl (AOp.loadF (.sl (((parseR s).1).Cages).length ((((parseR s).1).Cages).flatMap eCage)) rfl rfl ty_33 rfl ?_)
        refine AOps.cons rfl rfl (AOp.move (.int .i64 c) rfl s54 ?_)
        refine AOps.cons rfl rfl (AOp.indexAddrS rfl rfl rfl sl_33 (by omega) (by omega) ?_)
        refine AOps.cons rfl rfl (AOp.fieldAddrF rfl rfl fl_46_2 ?_)
        refine AOps.cons rfl rfl (AOp.loadF (.sl ((at_ (((parseR s).1).Cages) c).Creases).length (((at_ (((parseR s).1).Cages) c).Creases).flatMap eCr)) rfl rfl ty_44 (ldF eCage_len (by omega) (by omega) rfl (by decide)) ?_)
        refine AOps.cons rfl rfl (AOp.len (m := ((at_ (((parseR s).1).Cages) c).Creases).length) rfl rfl (.inr (.inl ⟨_, rfl⟩)) u_44 ?_)
        refine AOps.cons rfl rfl (AOp.bin (.int .i64 (((sumC ((parseR s).1.Cages.take c.toNat) : Nat) : Int) + ((((at_ (((parseR s).1).Cages) c).Creases).length) : Int))) rfl rfl rfl (iadd (by omega)) ?_)
        refine AOps.cons rfl rfl (AOp.assign (.int .i64 (((sumC ((parseR s).1.Cages.take c.toNat) : Nat) : Int) + ((((at_ (((parseR s).1).Cages) c).Creases).length) : Int))) rfl rfl ?_)
        refine AOps.nil ?_
        change AWP _ _ _ _ _ _
        refine AWP.region (l := [0, 1, 2]) rfl ?_
        refine AOps.cons rfl rfl (AOp.move (.int .i64 c) rfl s54 ?_)
        refine AOps.cons rfl rfl (AOp.bin (.int .i64 (c + 1)) rfl rfl rfl (iadd (by omega)) ?_)
        refine AOps.cons rfl rfl (AOp.assign (.int .i64 (c + 1)) rfl rfl ?_)
        refine AOps.nil ?_
        exact ⟨_, by omega, c + 1, rfl, rfl, (congrArg (AV.int .i64) (show (((sumV ((parseR s).1.Cages.take c.toNat) : Nat) : Int) + ((((at_ (((parseR s).1).Cages) c).Verts).length) : Int) : Int) = ((sumV ((parseR s).1.Cages.take (c + 1).toNat) : Nat) : Int) from by exact (sum_step (g := fun c : CageT => c.Verts.length) hc0 (by omega)).symm)), (congrArg (AV.int .i64) (show (((sumF ((parseR s).1.Cages.take c.toNat) : Nat) : Int) + ((((at_ (((parseR s).1).Cages) c).Faces).length) : Int) : Int) = ((sumF ((parseR s).1.Cages.take (c + 1).toNat) : Nat) : Int) from by exact (sum_step (g := fun c : CageT => c.Faces.length) hc0 (by omega)).symm)), (congrArg (AV.int .i64) (show (((sumC ((parseR s).1.Cages.take c.toNat) : Nat) : Int) + ((((at_ (((parseR s).1).Cages) c).Creases).length) : Int) : Int) = ((sumC ((parseR s).1.Cages.take (c + 1).toNat) : Nat) : Int) from by exact (sum_step (g := fun c : CageT => c.Creases.length) hc0 (by omega)).symm)), s58, s59, s60, h61, m62, by omega, by omega⟩
       ·
        refine AWP.condF rfl (decide_eq_false b63) ?_
        refine AWP.exit ?_
        change AWP _ _ _ _ _ _
        refine AWP.seq ?_
        have htc : (parseR s).1.Cages.take c.toNat = (parseR s).1.Cages := List.take_of_length_le (by omega)
        have hks := mcl_keys (s := s) (by omega) (P := Tryd.prog) (t := 9) rfl i.toNat
        refine AWP.region (l := [0, 1, 2, 3, 4, 5, 6, 7, 8, 9, 10, 11, 12, 13, 14, 15, 16, 17, 18, 19, 20, 21, 22, 23, 24, 25, 26, 27, 28, 29, 30, 31, 32, 33, 34, 35, 36, 37, 38, 39, 40, 41, 42, 43, 44, 45, 46, 47, 48, 49, 50, 51, 52, 53]) rfl ?_
        refine AOps.cons rfl rfl (AOp.move (.map i28) rfl s60 ?_)
        refine AOps.cons rfl rfl (AOp.lookup' rfl rfl h61 rfl (KOK.str_ rfl (by decide)) hks tm56 tzv_3 (mcl_get _ _) ?_)
        refine AOps.cons rfl rfl (AOp.bin (.bool (decide (((kc ((linesR s).1.take i.toNat) ⟨#[99, 97, 109, 101, 114, 97]⟩ : Nat) : Int) = 1))) rfl rfl rfl ieq ?_)
        refine AOps.cons rfl rfl (AOp.move (.bool (decide (((kc ((linesR s).1.take i.toNat) ⟨#[99, 97, 109, 101, 114, 97]⟩ : Nat) : Int) = 1))) rfl rfl ?_)
        refine AOps.yes rfl rfl rfl rfl rfl rfl rfl (decide_eq_true (by rw [hti]; exact hG.1.1)) (AOp.move (.map i28) rfl s60 ?_)
        refine AOps.yes rfl rfl rfl rfl rfl rfl rfl (decide_eq_true (by rw [hti]; exact hG.1.1)) (AOp.lookup' rfl rfl h61 rfl (KOK.str_ rfl (by decide)) hks tm56 tzv_3 (mcl_get _ _) ?_)
        refine AOps.yes rfl rfl rfl rfl rfl rfl rfl (decide_eq_true (by rw [hti]; exact hG.1.1)) (AOp.fieldAddrF rfl s59 fl_35_2 ?_)
        refine AOps.yes rfl rfl rfl rfl rfl rfl rfl (decide_eq_true (by rw [hti]; exact hG.1.1)) (AOp.loadF (.sl (((parseR s).1).Lights).length ((((parseR s).1).Lights).flatMap eLight)) rfl rfl ty_29 rfl ?_)
        refine AOps.yes rfl rfl rfl rfl rfl rfl rfl (decide_eq_true (by rw [hti]; exact hG.1.1)) (AOp.len (m := (((parseR s).1).Lights).length) rfl rfl (.inr (.inl ⟨_, rfl⟩)) u_29 ?_)
        refine AOps.yes rfl rfl rfl rfl rfl rfl rfl (decide_eq_true (by rw [hti]; exact hG.1.1)) (AOp.bin (.bool (decide (((kc ((linesR s).1.take i.toNat) ⟨#[108, 105, 103, 104, 116]⟩ : Nat) : Int) = (((((parseR s).1).Lights).length) : Int)))) rfl rfl rfl ieq ?_)
        refine AOps.cons rfl rfl (AOp.pickT (.bool (decide (((kc ((linesR s).1.take i.toNat) ⟨#[108, 105, 103, 104, 116]⟩ : Nat) : Int) = (((((parseR s).1).Lights).length) : Int)))) rfl rfl (decide_eq_true (by rw [hti]; exact hG.1.1)) rfl ?_)
        refine AOps.cons rfl rfl (AOp.move (.bool (decide (((kc ((linesR s).1.take i.toNat) ⟨#[108, 105, 103, 104, 116]⟩ : Nat) : Int) = (((((parseR s).1).Lights).length) : Int)))) rfl rfl ?_)
        refine AOps.yes rfl rfl rfl rfl rfl rfl rfl (decide_eq_true (by rw [hti]; exact hG.1.2.1)) (AOp.move (.map i28) rfl s60 ?_)
        refine AOps.yes rfl rfl rfl rfl rfl rfl rfl (decide_eq_true (by rw [hti]; exact hG.1.2.1)) (AOp.lookup' rfl rfl h61 rfl (KOK.str_ rfl (by decide)) hks tm56 tzv_3 (mcl_get _ _) ?_)
        refine AOps.yes rfl rfl rfl rfl rfl rfl rfl (decide_eq_true (by rw [hti]; exact hG.1.2.1)) (AOp.fieldAddrF rfl s59 fl_35_4 ?_)
        refine AOps.yes rfl rfl rfl rfl rfl rfl rfl (decide_eq_true (by rw [hti]; exact hG.1.2.1)) (AOp.loadF (.sl (((parseR s).1).Texs).length ((((parseR s).1).Texs).flatMap eTex)) rfl rfl ty_31 rfl ?_)
        refine AOps.yes rfl rfl rfl rfl rfl rfl rfl (decide_eq_true (by rw [hti]; exact hG.1.2.1)) (AOp.len (m := (((parseR s).1).Texs).length) rfl rfl (.inr (.inl ⟨_, rfl⟩)) u_31 ?_)
        refine AOps.yes rfl rfl rfl rfl rfl rfl rfl (decide_eq_true (by rw [hti]; exact hG.1.2.1)) (AOp.bin (.bool (decide (((kc ((linesR s).1.take i.toNat) ⟨#[116, 101, 120, 116, 117, 114, 101]⟩ : Nat) : Int) = (((((parseR s).1).Texs).length) : Int)))) rfl rfl rfl ieq ?_)
        refine AOps.cons rfl rfl (AOp.pickT (.bool (decide (((kc ((linesR s).1.take i.toNat) ⟨#[116, 101, 120, 116, 117, 114, 101]⟩ : Nat) : Int) = (((((parseR s).1).Texs).length) : Int)))) rfl rfl (decide_eq_true (by rw [hti]; exact hG.1.2.1)) rfl ?_)
        refine AOps.cons rfl rfl (AOp.move (.bool (decide (((kc ((linesR s).1.take i.toNat) ⟨#[116, 101, 120, 116, 117, 114, 101]⟩ : Nat) : Int) = (((((parseR s).1).Texs).length) : Int)))) rfl rfl ?_)
        refine AOps.yes rfl rfl rfl rfl rfl rfl rfl (decide_eq_true (by rw [hti]; exact hG.1.2.2.1)) (AOp.move (.map i28) rfl s60 ?_)
        refine AOps.yes rfl rfl rfl rfl rfl rfl rfl (decide_eq_true (by rw [hti]; exact hG.1.2.2.1)) (AOp.lookup' rfl rfl h61 rfl (KOK.str_ rfl (by decide)) hks tm56 tzv_3 (mcl_get _ _) ?_)
        refine AOps.yes rfl rfl rfl rfl rfl rfl rfl (decide_eq_true (by rw [hti]; exact hG.1.2.2.1)) (AOp.fieldAddrF rfl s59 fl_35_3 ?_)
        refine AOps.yes rfl rfl rfl rfl rfl rfl rfl (decide_eq_true (by rw [hti]; exact hG.1.2.2.1)) (AOp.loadF (.sl (((parseR s).1).Mats).length ((((parseR s).1).Mats).flatMap eMat)) rfl rfl ty_30 rfl ?_)
        refine AOps.yes rfl rfl rfl rfl rfl rfl rfl (decide_eq_true (by rw [hti]; exact hG.1.2.2.1)) (AOp.len (m := (((parseR s).1).Mats).length) rfl rfl (.inr (.inl ⟨_, rfl⟩)) u_30 ?_)
        refine AOps.yes rfl rfl rfl rfl rfl rfl rfl (decide_eq_true (by rw [hti]; exact hG.1.2.2.1)) (AOp.bin (.bool (decide (((kc ((linesR s).1.take i.toNat) ⟨#[109, 97, 116, 101, 114, 105, 97, 108]⟩ : Nat) : Int) = (((((parseR s).1).Mats).length) : Int)))) rfl rfl rfl ieq ?_)
        refine AOps.cons rfl rfl (AOp.pickT (.bool (decide (((kc ((linesR s).1.take i.toNat) ⟨#[109, 97, 116, 101, 114, 105, 97, 108]⟩ : Nat) : Int) = (((((parseR s).1).Mats).length) : Int)))) rfl rfl (decide_eq_true (by rw [hti]; exact hG.1.2.2.1)) rfl ?_)
        refine AOps.cons rfl rfl (AOp.move (.bool (decide (((kc ((linesR s).1.take i.toNat) ⟨#[109, 97, 116, 101, 114, 105, 97, 108]⟩ : Nat) : Int) = (((((parseR s).1).Mats).length) : Int)))) rfl rfl ?_)
        refine AOps.yes rfl rfl rfl rfl rfl rfl rfl (decide_eq_true (by rw [hti]; exact hG.1.2.2.2)) (AOp.move (.map i28) rfl s60 ?_)
        refine AOps.yes rfl rfl rfl rfl rfl rfl rfl (decide_eq_true (by rw [hti]; exact hG.1.2.2.2)) (AOp.lookup' rfl rfl h61 rfl (KOK.str_ rfl (by decide)) hks tm56 tzv_3 (mcl_get _ _) ?_)
        refine AOps.yes rfl rfl rfl rfl rfl rfl rfl (decide_eq_true (by rw [hti]; exact hG.1.2.2.2)) (AOp.fieldAddrF rfl s59 fl_35_6 ?_)
        refine AOps.yes rfl rfl rfl rfl rfl rfl rfl (decide_eq_true (by rw [hti]; exact hG.1.2.2.2)) (AOp.loadF (.sl (((parseR s).1).Cages).length ((((parseR s).1).Cages).flatMap eCage)) rfl rfl ty_33 rfl ?_)
        refine AOps.yes rfl rfl rfl rfl rfl rfl rfl (decide_eq_true (by rw [hti]; exact hG.1.2.2.2)) (AOp.len (m := (((parseR s).1).Cages).length) rfl rfl (.inr (.inl ⟨_, rfl⟩)) u_33 ?_)
        refine AOps.yes rfl rfl rfl rfl rfl rfl rfl (decide_eq_true (by rw [hti]; exact hG.1.2.2.2)) (AOp.bin (.bool (decide (((kc ((linesR s).1.take i.toNat) ⟨#[99, 97, 103, 101]⟩ : Nat) : Int) = (((((parseR s).1).Cages).length) : Int)))) rfl rfl rfl ieq ?_)
        refine AOps.cons rfl rfl (AOp.pickT (.bool (decide (((kc ((linesR s).1.take i.toNat) ⟨#[99, 97, 103, 101]⟩ : Nat) : Int) = (((((parseR s).1).Cages).length) : Int)))) rfl rfl (decide_eq_true (by rw [hti]; exact hG.1.2.2.2)) rfl ?_)
        refine AOps.cons rfl rfl (AOp.move (.bool (decide (((kc ((linesR s).1.take i.toNat) ⟨#[99, 97, 103, 101]⟩ : Nat) : Int) = (((((parseR s).1).Cages).length) : Int)))) rfl rfl ?_)
        refine AOps.yes rfl rfl rfl rfl rfl rfl rfl (decide_eq_true (by rw [hti]; exact hG.2.1)) (AOp.move (.map i28) rfl s60 ?_)
        refine AOps.yes rfl rfl rfl rfl rfl rfl rfl (decide_eq_true (by rw [hti]; exact hG.2.1)) (AOp.lookup' rfl rfl h61 rfl (KOK.str_ rfl (by decide)) hks tm56 tzv_3 (mcl_get _ _) ?_)
        refine AOps.yes rfl rfl rfl rfl rfl rfl rfl (decide_eq_true (by rw [hti]; exact hG.2.1)) (AOp.move (.int .i64 ((sumV ((parseR s).1.Cages.take c.toNat) : Nat) : Int)) rfl s55 ?_)
        refine AOps.yes rfl rfl rfl rfl rfl rfl rfl (decide_eq_true (by rw [hti]; exact hG.2.1)) (AOp.bin (.bool (decide (((kc ((linesR s).1.take i.toNat) ⟨#[118]⟩ : Nat) : Int) = ((sumV ((parseR s).1.Cages.take c.toNat) : Nat) : Int)))) rfl rfl rfl ieq ?_)
        refine AOps.cons rfl rfl (AOp.pickT (.bool (decide (((kc ((linesR s).1.take i.toNat) ⟨#[118]⟩ : Nat) : Int) = ((sumV ((parseR s).1.Cages.take c.toNat) : Nat) : Int)))) rfl rfl (decide_eq_true (by rw [hti]; exact hG.2.1)) rfl ?_)
        refine AOps.cons rfl rfl (AOp.move (.bool (decide (((kc ((linesR s).1.take i.toNat) ⟨#[118]⟩ : Nat) : Int) = ((sumV ((parseR s).1.Cages.take c.toNat) : Nat) : Int)))) rfl rfl ?_)
        refine AOps.yes rfl rfl rfl rfl rfl rfl rfl (decide_eq_true (by rw [hti, htc]; exact hG.2.2.1)) (AOp.move (.map i28) rfl s60 ?_)
        refine AOps.yes rfl rfl rfl rfl rfl rfl rfl (decide_eq_true (by rw [hti, htc]; exact hG.2.2.1)) (AOp.lookup' rfl rfl h61 rfl (KOK.str_ rfl (by decide)) hks tm56 tzv_3 (mcl_get _ _) ?_)
        refine AOps.yes rfl rfl rfl rfl rfl rfl rfl (decide_eq_true (by rw [hti, htc]; exact hG.2.2.1)) (AOp.move (.int .i64 ((sumF ((parseR s).1.Cages.take c.toNat) : Nat) : Int)) rfl s56 ?_)
        refine AOps.yes rfl rfl rfl rfl rfl rfl rfl (decide_eq_true (by rw [hti, htc]; exact hG.2.2.1)) (AOp.bin (.bool (decide (((kc ((linesR s).1.take i.toNat) ⟨#[102]⟩ : Nat) : Int) = ((sumF ((parseR s).1.Cages.take c.toNat) : Nat) : Int)))) rfl rfl rfl ieq ?_)
        refine AOps.cons rfl rfl (AOp.pickT (.bool (decide (((kc ((linesR s).1.take i.toNat) ⟨#[102]⟩ : Nat) : Int) = ((sumF ((parseR s).1.Cages.take c.toNat) : Nat) : Int)))) rfl rfl (decide_eq_true (by rw [hti, htc]; exact hG.2.2.1)) rfl ?_)
        refine AOps.cons rfl rfl (AOp.move (.bool (decide (((kc ((linesR s).1.take i.toNat) ⟨#[102]⟩ : Nat) : Int) = ((sumF ((parseR s).1.Cages.take c.toNat) : Nat) : Int)))) rfl rfl ?_)
        refine AOps.yes rfl rfl rfl rfl rfl rfl rfl (decide_eq_true (by rw [hti, htc]; exact hG.2.2.2.1)) (AOp.move (.map i28) rfl s60 ?_)
        refine AOps.yes rfl rfl rfl rfl rfl rfl rfl (decide_eq_true (by rw [hti, htc]; exact hG.2.2.2.1)) (AOp.lookup' rfl rfl h61 rfl (KOK.str_ rfl (by decide)) hks tm56 tzv_3 (mcl_get _ _) ?_)
        refine AOps.yes rfl rfl rfl rfl rfl rfl rfl (decide_eq_true (by rw [hti, htc]; exact hG.2.2.2.1)) (AOp.move (.int .i64 ((sumC ((parseR s).1.Cages.take c.toNat) : Nat) : Int)) rfl s57 ?_)
        refine AOps.yes rfl rfl rfl rfl rfl rfl rfl (decide_eq_true (by rw [hti, htc]; exact hG.2.2.2.1)) (AOp.bin (.bool (decide (((kc ((linesR s).1.take i.toNat) ⟨#[99, 114, 101, 97, 115, 101]⟩ : Nat) : Int) = ((sumC ((parseR s).1.Cages.take c.toNat) : Nat) : Int)))) rfl rfl rfl ieq ?_)
        refine AOps.cons rfl rfl (AOp.pickT (.bool (decide (((kc ((linesR s).1.take i.toNat) ⟨#[99, 114, 101, 97, 115, 101]⟩ : Nat) : Int) = ((sumC ((parseR s).1.Cages.take c.toNat) : Nat) : Int)))) rfl rfl (decide_eq_true (by rw [hti, htc]; exact hG.2.2.2.1)) rfl ?_)
        refine AOps.cons rfl rfl (AOp.assign (.bool (decide (((kc ((linesR s).1.take i.toNat) ⟨#[99, 114, 101, 97, 115, 101]⟩ : Nat) : Int) = ((sumC ((parseR s).1.Cages.take c.toNat) : Nat) : Int)))) rfl rfl ?_)
        refine AOps.nil ?_
        change AWP _ _ _ _ _ _
        refine AWP.ret ?_
        refine ⟨_, _, Ghost.refl, .inr rfl, _, Res.one rfl rfl, ?_, m62⟩
        exact (congrArg AV.bool (show (decide (((kc ((linesR s).1.take i.toNat) ⟨#[99, 114, 101, 97, 115, 101]⟩ : Nat) : Int) = ((sumC ((parseR s).1.Cages.take c.toNat) : Nat) : Int)) : Bool) = true from by first | rfl | exact decide_eq_true (by rw [hti, htc]; exact hG.2.2.2.2) | (exfalso; omega)))
   ·
    refine AWP.condT rfl (nb (decide_eq_false b27)) ?_
    refine AWP.seq ?_
    refine AWP.region (l := [0]) rfl ?_
    refine AOps.cons rfl rfl (AOp.assign (.bool true) rfl rfl ?_)
    refine AOps.nil ?_
    change AWP _ _ _ _ _ _
    refine AWP.ret ?_
    refine ⟨_, _, Ghost.refl, .inr rfl, _, Res.one rfl rfl, ?_, m25⟩
    exact rfl
  ·
   refine AOps.no rfl rfl rfl rfl rfl rfl rfl (ble_of (nb (decide_eq_false b26)) (by decide)) ?_
   refine AOps.no rfl rfl rfl rfl rfl rfl rfl (ble_of (nb (decide_eq_false b26)) (by decide)) ?_
   refine AOps.cons rfl rfl (AOp.pickT (.bool true) rfl rfl (nb (decide_eq_false b26)) rfl ?_)
   refine AOps.nil ?_
   change AWP _ _ _ _ _ _
   refine AWP.condT rfl rfl ?_
   refine AWP.seq ?_
   refine AWP.region (l := [0]) rfl ?_
   refine AOps.cons rfl rfl (AOp.assign (.bool true) rfl rfl ?_)
   refine AOps.nil ?_
   change AWP _ _ _ _ _ _
   refine AWP.ret ?_
   refine ⟨_, _, Ghost.refl, .inr rfl, _, Res.one rfl rfl, ?_, m25⟩
   exact rfl
end Go.Proofs.S
