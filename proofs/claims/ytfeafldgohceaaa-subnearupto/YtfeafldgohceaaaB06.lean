/- A part of the proof that a law answers true for every input of its row: own work, by an AI agent. -/
import Derived.Test.YtfeafldgohceaaaB05
set_option linter.unusedSimpArgs false
set_option linter.unusedVariables false
set_option linter.defProp false
namespace Go.Proofs.U
open Go Go.AH Go.Proofs.T
set_option maxRecDepth 4000
set_option linter.unusedSimpArgs false
set_option linter.unusedVariables false
set_option maxHeartbeats 4000000
theorem c_near (x n d : Int) (h : nearZ x n d) (hx : -2305843009213693952 ≤ x * d ∧ x * d ≤ 2305843009213693952) (hn : -2305843009213693952 ≤ n ∧ n ≤ 2305843009213693952) : PC Try.prog 45 [.int .i64 x, .int .i64 n, .int .i64 d] (.bool true) := by
 intro H0
 refine ACalls.of_body' (n := 23) rfl rfl rfl rfl ?_
 have m0 := Mono.refl H0
 refine AWP.seq ?_
 refine AWP.region (l := [0]) rfl ?_
 refine AOps.cons rfl rfl (AOp.assign (.bool false) rfl rfl ?_)
 refine AOps.nil ?_
 change AWP _ _ _ _ _ _
 refine AWP.seq ?_
 refine AWP.region (l := [0, 1, 2, 3, 4, 5, 6, 7, 8, 9, 10, 11, 12, 13, 14, 15, 16]) rfl ?_
 refine AOps.cons rfl rfl (AOp.move (.int .i64 x) rfl rfl ?_)
 refine AOps.cons rfl rfl (AOp.move (.int .i64 d) rfl rfl ?_)
 refine AOps.cons rfl rfl (AOp.bin (.int .i64 (x * d)) rfl rfl rfl (imul (by omega)) ?_)
 refine AOps.cons rfl rfl (AOp.move (.int .i64 n) rfl rfl ?_)
 refine AOps.cons rfl rfl (AOp.bin (.int .i64 (x * d - n)) rfl rfl rfl (isub (by omega)) ?_)
 refine AOps.cons rfl rfl (AOp.move (.int .i64 d) rfl rfl ?_)
 refine AOps.cons rfl rfl (AOp.bin (.bool (decide (x * d - n ≤ d))) rfl rfl rfl rfl ?_)
 refine AOps.cons rfl rfl (AOp.move (.bool (decide (x * d - n ≤ d))) rfl rfl ?_)
 refine AOps.yes rfl rfl rfl rfl rfl rfl rfl (decide_eq_true (h.1)) (AOp.move (.int .i64 n) rfl rfl ?_)
 refine AOps.yes rfl rfl rfl rfl rfl rfl rfl (decide_eq_true (h.1)) (AOp.move (.int .i64 x) rfl rfl ?_)
 refine AOps.yes rfl rfl rfl rfl rfl rfl rfl (decide_eq_true (h.1)) (AOp.move (.int .i64 d) rfl rfl ?_)
 refine AOps.yes rfl rfl rfl rfl rfl rfl rfl (decide_eq_true (h.1)) (AOp.bin (.int .i64 (x * d)) rfl rfl rfl (imul (by omega)) ?_)
 refine AOps.yes rfl rfl rfl rfl rfl rfl rfl (decide_eq_true (h.1)) (AOp.bin (.int .i64 (n - (x * d))) rfl rfl rfl (isub (by omega)) ?_)
 refine AOps.yes rfl rfl rfl rfl rfl rfl rfl (decide_eq_true (h.1)) (AOp.move (.int .i64 d) rfl rfl ?_)
 refine AOps.yes rfl rfl rfl rfl rfl rfl rfl (decide_eq_true (h.1)) (AOp.bin (.bool (decide (n - (x * d) ≤ d))) rfl rfl rfl rfl ?_)
 refine AOps.cons rfl rfl (AOp.pickT (.bool (decide (n - (x * d) ≤ d))) rfl rfl (decide_eq_true (h.1)) rfl ?_)
 refine AOps.cons rfl rfl (AOp.assign (.bool (decide (n - (x * d) ≤ d))) rfl rfl ?_)
 refine AOps.nil ?_
 change AWP _ _ _ _ _ _
 refine AWP.ret ?_
 refine ⟨_, _, Ghost.refl, .inr rfl, _, Res.one rfl rfl, ?_, m0⟩
 exact (congrArg AV.bool (show (decide (n - (x * d) ≤ d) : Bool) = true from by first | rfl | exact decide_eq_true h.2))
theorem c_nearV (x n : VT) (d : Int) (h : nearT x n d) (hx : inV 2305843009213693952 (scaleV x d)) (hn : inV 2305843009213693952 n) : PC Try.prog 20 [.agg [.int .i64 x.X, .int .i64 x.Y, .int .i64 x.Z], .agg [.int .i64 n.X, .int .i64 n.Y, .int .i64 n.Z], .int .i64 d] (.bool true) := by
 intro H0
 refine ACalls.of_body' (n := 29) rfl rfl rfl rfl ?_
 have m0 := Mono.refl H0
 refine AWP.seq ?_
 refine AWP.region (l := [0, 1, 2]) rfl ?_
 refine AOps.cons rfl rfl (AOp.box (.agg [.int .i64 x.X, .int .i64 x.Y, .int .i64 x.Z]) rfl rfl rfl ?_)
 intro i1 H2 n3 h4 k5
 have z6 := Mono.free m0 n3
 have m7 := Mono.new m0 n3 k5
 refine AOps.cons rfl rfl (AOp.box (.agg [.int .i64 n.X, .int .i64 n.Y, .int .i64 n.Z]) rfl rfl rfl ?_)
 intro i8 H9 n10 h11 k12
 have e13 := ne_new h4 n10
 have z14 := Mono.free m7 n10
 have h15 := keep k12 (ne_new h4 n10) h4
 have m16 := Mono.new m7 n10 k12
 refine AOps.cons rfl rfl (AOp.assign (.bool false) rfl rfl ?_)
 refine AOps.nil ?_
 change AWP _ _ _ _ _ _
 refine AWP.seq ?_
 refine AWP.frzP 3 h15 z6 rfl m16 fun H17 m18 k19 => ?_
 have h20 := (k19 _ (Ne.symm e13)).trans h11
 refine AWP.frzP 4 h20 z14 rfl m18 fun H21 m22 k23 => ?_
 refine AWP.region (l := [0, 1, 2, 3, 4, 5, 6, 7, 8, 9, 10, 11, 12, 13, 14, 15, 16, 17, 18, 19, 20, 21, 22]) rfl ?_
 refine AOps.cons rfl rfl (AOp.fieldAddrF rfl rfl fl_42_0 ?_)
 refine AOps.cons rfl rfl (AOp.loadF (.int .i64 x.X) rfl rfl ty_3 rfl ?_)
 refine AOps.cons rfl rfl (AOp.fieldAddrF rfl rfl fl_42_0 ?_)
 refine AOps.cons rfl rfl (AOp.loadF (.int .i64 n.X) rfl rfl ty_3 rfl ?_)
 refine AOps.cons rfl rfl (AOp.move (.int .i64 d) rfl rfl ?_)
 refine AOps.cons rfl rfl (AOp.pcall («as» := [.int .i64 x.X, .int .i64 n.X, .int .i64 d]) rfl rfl (rfl) tf_45 (c_near _ _ _ h.1 hx.1 hn.1) ?_)
 intro H24 m25
 have m26 := m22.trans m25
 refine AOps.cons rfl rfl (AOp.move (.bool true) rfl rfl ?_)
 refine AOps.yes rfl rfl rfl rfl rfl rfl rfl rfl (AOp.fieldAddrF rfl rfl fl_42_1 ?_)
 refine AOps.yes rfl rfl rfl rfl rfl rfl rfl rfl (AOp.loadF (.int .i64 x.Y) rfl rfl ty_3 rfl ?_)
 refine AOps.yes rfl rfl rfl rfl rfl rfl rfl rfl (AOp.fieldAddrF rfl rfl fl_42_1 ?_)
 refine AOps.yes rfl rfl rfl rfl rfl rfl rfl rfl (AOp.loadF (.int .i64 n.Y) rfl rfl ty_3 rfl ?_)
 refine AOps.yes rfl rfl rfl rfl rfl rfl rfl rfl (AOp.move (.int .i64 d) rfl rfl ?_)
 refine AOps.yes rfl rfl rfl rfl rfl rfl rfl rfl (AOp.pcall («as» := [.int .i64 x.Y, .int .i64 n.Y, .int .i64 d]) rfl rfl (rfl) tf_45 (c_near _ _ _ h.2.1 hx.2.1 hn.2.1) ?_)
 intro H27 m28
 have m29 := m26.trans m28
 refine AOps.cons rfl rfl (AOp.pickT (.bool true) rfl rfl rfl rfl ?_)
 refine AOps.cons rfl rfl (AOp.move (.bool true) rfl rfl ?_)
 refine AOps.yes rfl rfl rfl rfl rfl rfl rfl rfl (AOp.fieldAddrF rfl rfl fl_42_2 ?_)
 refine AOps.yes rfl rfl rfl rfl rfl rfl rfl rfl (AOp.loadF (.int .i64 x.Z) rfl rfl ty_3 rfl ?_)
 refine AOps.yes rfl rfl rfl rfl rfl rfl rfl rfl (AOp.fieldAddrF rfl rfl fl_42_2 ?_)
 refine AOps.yes rfl rfl rfl rfl rfl rfl rfl rfl (AOp.loadF (.int .i64 n.Z) rfl rfl ty_3 rfl ?_)
 refine AOps.yes rfl rfl rfl rfl rfl rfl rfl rfl (AOp.move (.int .i64 d) rfl rfl ?_)
 refine AOps.yes rfl rfl rfl rfl rfl rfl rfl rfl (AOp.pcall («as» := [.int .i64 x.Z, .int .i64 n.Z, .int .i64 d]) rfl rfl (rfl) tf_45 (c_near _ _ _ h.2.2 hx.2.2 hn.2.2) ?_)
 intro H30 m31
 have m32 := m29.trans m31
 refine AOps.cons rfl rfl (AOp.pickT (.bool true) rfl rfl rfl rfl ?_)
 refine AOps.cons rfl rfl (AOp.assign (.bool true) rfl rfl ?_)
 refine AOps.nil ?_
 change AWP _ _ _ _ _ _
 refine AWP.ret ?_
 refine ⟨_, _, Ghost.refl, .inr rfl, _, Res.one rfl rfl, ?_, m32⟩
 exact rfl
theorem c_SubNear (vs : List VT) (fs : List (List Int)) (cr : List CrT) (hvl : vs.length ≤ 1048576) (hfl : fs.length ≤ 1048576) (hfs : ∀ l ∈ fs, l.length ≤ 1048576) (hcl : cr.length ≤ 1048576) (hcS : ∀ c ∈ cr, c.S ≤ 9223372036854775807)  : PC Try.prog 4 [.agg [.sl vs.length (vs.flatMap eV), .sl fs.length (fs.map eF), .sl cr.length (cr.flatMap eCr)]] (.bool true) := by
 intro H0
 refine ACalls.of_body' (n := 318) rfl rfl rfl rfl ?_
 have m0 := Mono.refl H0
 refine AWP.seq ?_
 refine AWP.region (l := [0, 1]) rfl ?_
 refine AOps.cons rfl rfl (AOp.box (.agg [.sl vs.length (vs.flatMap eV), .sl fs.length (fs.map eF), .sl cr.length (cr.flatMap eCr)]) rfl rfl rfl ?_)
 intro i1 H2 n3 h4 k5
 have z6 := Mono.free m0 n3
 have m7 := Mono.new m0 n3 k5
 refine AOps.cons rfl rfl (AOp.assign (.bool false) rfl rfl ?_)
 refine AOps.nil ?_
 change AWP _ _ _ _ _ _
 refine AWP.seq ?_
 refine AWP.seq ?_
 refine AWP.frzP 1 h4 z6 rfl m7 fun H8 m9 k10 => ?_
 refine AWP.region (l := [0, 1]) rfl ?_
 refine AOps.cons rfl rfl (AOp.pcall («as» := []) rfl rfl (rfl) tf_13 (c_alive) ?_)
 intro H11 m12
 have m13 := m9.trans m12
 refine AOps.cons rfl rfl (AOp.not rfl rfl ?_)
 refine AOps.nil ?_
 change AWP _ _ _ _ _ _
 refine AWP.condF rfl rfl ?_
 refine AWP.skip ?_
 change AWP _ _ _ _ _ _
 refine AWP.seq ?_
 refine AWP.seq ?_
 refine AWP.region (l := [0, 1]) rfl ?_
 refine AOps.cons rfl rfl (AOp.loadF (.agg [.sl vs.length (vs.flatMap eV), .sl fs.length (fs.map eF), .sl cr.length (cr.flatMap eCr)]) rfl rfl ty_26 rfl ?_)
 refine AOps.cons rfl rfl (AOp.pcall («as» := [.agg [.sl vs.length (vs.flatMap eV), .sl fs.length (fs.map eF), .sl cr.length (cr.flatMap eCr)]]) rfl rfl (rfl) tf_14 (c_Great _ _ _ (by omega) (by omega) (by assumption) (by omega)) ?_)
 intro H14 m15
 have m16 := m13.trans m15
 refine AOps.nil ?_
 change AWP _ _ _ _ _ _
 by_cases b17 : greatP vs fs cr
 ·
  refine AWP.condT rfl (decide_eq_true b17) ?_
  refine AWP.seq ?_
  refine AWP.region (l := [0]) rfl ?_
  refine AOps.cons rfl rfl (AOp.assign (.bool true) rfl rfl ?_)
  refine AOps.nil ?_
  change AWP _ _ _ _ _ _
  refine AWP.ret ?_
  refine ⟨_, _, Ghost.refl, .inr rfl, _, Res.one rfl rfl, ?_, m16⟩
  exact rfl
 ·
  refine AWP.condF rfl (decide_eq_false b17) ?_
  refine AWP.skip ?_
  change AWP _ _ _ _ _ _
  refine AWP.seq ?_
  refine AWP.seq ?_
  obtain ⟨s1, s2, s3, s4, s5⟩ := great_small b17
  refine AWP.region (l := [0]) rfl ?_
  refine AOps.cons rfl rfl (AOp.assign (.int .i64 0) rfl rfl ?_)
  refine AOps.nil ?_
  change AWP _ _ _ _ _ _
  refine AWP.block ?_
  refine AWP.loop (fun q18 fq Hq => ∃ (i : Int), q18 = (((fs.length : Int) : Int) - i).toNat ∧ fq 3 = .int .i64 i ∧ fq 1 = .fptr [.sl vs.length (vs.flatMap eV), .sl fs.length (fs.map eF), .sl cr.length (cr.flatMap eCr)] 0 ∧ Mono H0 Hq ∧ (0 ≤ i) ∧ (i ≤ (fs.length : Int)) ∧ (∀ f : Int, 0 ≤ f → f < i → (at_ fs f).length ≤ 8)) (k := (((fs.length : Int) : Int) - 0).toNat) ?_ ?_
  ·
   exact ⟨0, rfl, rfl, rfl, m16, by omega, by omega, by intro f; omega⟩
  ·
   rintro _ f20 H19 ⟨i, rfl, s21, s22, m23, hi0, hi1, h8_⟩
   refine AWP.seq ?_
   refine AWP.seq ?_
   refine AWP.region (l := [0, 1, 2, 3, 4]) rfl ?_
   refine AOps.cons rfl rfl (AOp.move (.int .i64 i) rfl s21 ?_)
   refine AOps.cons rfl rfl (AOp.fieldAddrF rfl s22 fl_26_1 ?_)
   refine AOps.cons rfl rfl (AOp.loadF (.sl fs.length (fs.map eF)) rfl rfl ty_23 rfl ?_)
   refine AOps.cons rfl rfl (AOp.len (m := fs.length) rfl rfl (.inr (.inl ⟨_, rfl⟩)) u_23 ?_)
   refine AOps.cons rfl rfl (AOp.bin (.bool (decide (i < (fs.length : Int)))) rfl rfl rfl rfl ?_)
   refine AOps.nil ?_
   change AWP _ _ _ _ _ _
   by_cases b24 : i < (fs.length : Int)
   ·
    refine AWP.condT rfl (decide_eq_true b24) ?_
    refine AWP.skip ?_
    change AWP _ _ _ _ _ _
    refine AWP.seq ?_
    refine AWP.block ?_
    refine AWP.seq ?_
    refine AWP.region (l := [0, 1, 2, 3, 4, 5, 6]) rfl ?_
    refine AOps.cons rfl rfl (AOp.fieldAddrF rfl s22 fl_26_1 ?_)
    refine AOps.cons rfl rfl (AOp.loadF (.sl fs.length (fs.map eF)) rfl rfl ty_23 rfl ?_)
    refine AOps.cons rfl rfl (AOp.move (.int .i64 i) rfl s21 ?_)
    refine AOps.cons rfl rfl (AOp.indexAddrS rfl rfl rfl sl_23 (by omega) (by omega) ?_)
    refine AOps.cons rfl rfl (AOp.loadF (.sl (at_ fs i).length ((at_ fs i).map eI)) rfl rfl ty_38 (ld1 (by omega) (by omega)) ?_)
    refine AOps.cons rfl rfl (AOp.len (m := (at_ fs i).length) rfl rfl (.inr (.inl ⟨_, rfl⟩)) u_38 ?_)
    refine AOps.cons rfl rfl (AOp.bin (.bool (decide ((((at_ fs i).length) : Int) > 8))) rfl rfl rfl rfl ?_)
    refine AOps.nil ?_
    change AWP _ _ _ _ _ _
    by_cases b25 : (((at_ fs i).length) : Int) > 8
    ·
     refine AWP.condT rfl (decide_eq_true b25) ?_
     refine AWP.seq ?_
     refine AWP.region (l := [0]) rfl ?_
     refine AOps.cons rfl rfl (AOp.assign (.bool true) rfl rfl ?_)
     refine AOps.nil ?_
     change AWP _ _ _ _ _ _
     refine AWP.ret ?_
     refine ⟨_, _, Ghost.refl, .inr rfl, _, Res.one rfl rfl, ?_, m23⟩
     exact rfl
    ·
     refine AWP.condF rfl (decide_eq_false b25) ?_
     refine AWP.skip ?_
     change AWP _ _ _ _ _ _
     refine AWP.region (l := [0, 1, 2]) rfl ?_
     refine AOps.cons rfl rfl (AOp.move (.int .i64 i) rfl s21 ?_)
     refine AOps.cons rfl rfl (AOp.bin (.int .i64 (i + 1)) rfl rfl rfl (iadd (by omega)) ?_)
     refine AOps.cons rfl rfl (AOp.assign (.int .i64 (i + 1)) rfl rfl ?_)
     refine AOps.nil ?_
     exact ⟨_, by omega, i + 1, rfl, rfl, s22, m23, by omega, by omega, by exact fun g g0 g1 => if e : g = i then (by subst e; omega) else h8_ g g0 (by omega)⟩
   ·
    refine AWP.condF rfl (decide_eq_false b24) ?_
    refine AWP.exit ?_
    change AWP _ _ _ _ _ _
    refine AWP.seq ?_
    refine AWP.region (l := [0, 1, 2, 3, 4, 5, 6, 7]) rfl ?_
    refine AOps.cons rfl rfl (AOp.loadF (.agg [.sl vs.length (vs.flatMap eV), .sl fs.length (fs.map eF), .sl cr.length (cr.flatMap eCr)]) rfl s22 ty_26 rfl ?_)
    refine AOps.cons rfl rfl (AOp.pcall («as» := [.agg [.sl vs.length (vs.flatMap eV), .sl fs.length (fs.map eF), .sl cr.length (cr.flatMap eCr)]]) rfl rfl (rfl) tf_15 (c_Level vs fs cr (by omega) (by omega) (fun l hl => Nat.le_trans (s5 l hl) (by decide)) (by omega) (by omega) hcS) ?_)
    intro H26 m27
    have m28 := m23.trans m27
    refine AOps.cons rfl rfl (AOp.move (.tup [.agg [.sl ((levelR vs fs cr).1.Verts).length (((levelR vs fs cr).1.Verts).flatMap eV), .sl ((levelR vs fs cr).1.Faces).length (((levelR vs fs cr).1.Faces).map eF), .sl ((levelR vs fs cr).1.Creases).length (((levelR vs fs cr).1.Creases).flatMap eCr)], .int .i64 ((levelR vs fs cr).2)]) rfl rfl ?_)
    refine AOps.cons rfl rfl (AOp.extract (.agg [.sl ((levelR vs fs cr).1.Verts).length (((levelR vs fs cr).1.Verts).flatMap eV), .sl ((levelR vs fs cr).1.Faces).length (((levelR vs fs cr).1.Faces).map eF), .sl ((levelR vs fs cr).1.Creases).length (((levelR vs fs cr).1.Creases).flatMap eCr)]) rfl rfl rfl ?_)
    refine AOps.cons rfl rfl (AOp.extract (.int .i64 ((levelR vs fs cr).2)) rfl rfl rfl ?_)
    refine AOps.cons rfl rfl (AOp.alloc rfl tz_26 ?_)
    intro i29 H30 n31 h32 k33
    have z34 := Mono.free m28 n31
    have m35 := Mono.new m28 n31 k33
    refine AOps.cons rfl rfl (AOp.store' (cells' := [.sl ((levelR vs fs cr).1.Verts).length (((levelR vs fs cr).1.Verts).flatMap eV), .sl ((levelR vs fs cr).1.Faces).length (((levelR vs fs cr).1.Faces).map eF), .sl ((levelR vs fs cr).1.Creases).length (((levelR vs fs cr).1.Creases).flatMap eCr)]) (.agg [.sl ((levelR vs fs cr).1.Verts).length (((levelR vs fs cr).1.Verts).flatMap eV), .sl ((levelR vs fs cr).1.Faces).length (((levelR vs fs cr).1.Faces).map eF), .sl ((levelR vs fs cr).1.Creases).length (((levelR vs fs cr).1.Creases).flatMap eCr)]) rfl rfl ts_26 h32 rfl rfl rfl rfl ?_)
    intro H36 h37 k38
    have m40 := Mono.set m35 z34 k38
    refine AOps.cons rfl rfl (AOp.assign (.int .i64 ((levelR vs fs cr).2)) rfl rfl ?_)
    refine AOps.nil ?_
    change AWP _ _ _ _ _ _
    refine AWP.seq ?_
    refine AWP.frzP 4 h37 z34 rfl m40 fun H41 m42 k43 => ?_
    refine AWP.region (l := [0, 1, 2, 3, 4, 5, 6, 7, 8, 9, 10, 11]) rfl ?_
    refine AOps.cons rfl rfl (AOp.fieldAddrF rfl s22 fl_26_0 ?_)
    refine AOps.cons rfl rfl (AOp.loadF (.sl vs.length (vs.flatMap eV)) rfl rfl ty_22 rfl ?_)
    refine AOps.cons rfl rfl (AOp.len (m := vs.length) rfl rfl (.inr (.inl ⟨_, rfl⟩)) u_22 ?_)
    refine AOps.cons rfl rfl (AOp.fieldAddrF rfl s22 fl_26_1 ?_)
    refine AOps.cons rfl rfl (AOp.loadF (.sl fs.length (fs.map eF)) rfl rfl ty_23 rfl ?_)
    refine AOps.cons rfl rfl (AOp.pcall («as» := [.int .i64 (vs.length : Int), .sl fs.length (fs.map eF)]) rfl rfl (rfl) tf_16 (c12 _ (by omega) (fun l hl => Nat.le_trans (s5 l hl) (by decide)) _ (by omega) (by omega)) ?_)
    intro H44 m45
    have m46 := m42.trans m45
    refine AOps.cons rfl rfl (AOp.move (.tup [.agg [.sl ((buildT vs.length fs).ed).length (((buildT vs.length fs).ed).flatMap eE), .sl ((buildT vs.length fs).fan).length (((buildT vs.length fs).fan).map eF), .sl ((buildT vs.length fs).rnd).length (((buildT vs.length fs).rnd).map eBo)], .int .i64 (buildE vs.length fs)]) rfl rfl ?_)
    refine AOps.cons rfl rfl (AOp.extract (.agg [.sl ((buildT vs.length fs).ed).length (((buildT vs.length fs).ed).flatMap eE), .sl ((buildT vs.length fs).fan).length (((buildT vs.length fs).fan).map eF), .sl ((buildT vs.length fs).rnd).length (((buildT vs.length fs).rnd).map eBo)]) rfl rfl rfl ?_)
    refine AOps.cons rfl rfl (AOp.extract (.int .i64 (buildE vs.length fs)) rfl rfl rfl ?_)
    refine AOps.cons rfl rfl (AOp.alloc rfl tz_35 ?_)
    intro i47 H48 n49 h50 k51
    have z52 := Mono.free m46 n49
    have m53 := Mono.new m46 n49 k51
    refine AOps.cons rfl rfl (AOp.store' (cells' := [.sl ((buildT vs.length fs).ed).length (((buildT vs.length fs).ed).flatMap eE), .sl ((buildT vs.length fs).fan).length (((buildT vs.length fs).fan).map eF), .sl ((buildT vs.length fs).rnd).length (((buildT vs.length fs).rnd).map eBo)]) (.agg [.sl ((buildT vs.length fs).ed).length (((buildT vs.length fs).ed).flatMap eE), .sl ((buildT vs.length fs).fan).length (((buildT vs.length fs).fan).map eF), .sl ((buildT vs.length fs).rnd).length (((buildT vs.length fs).rnd).map eBo)]) rfl rfl ts_35 h50 rfl rfl rfl rfl ?_)
    intro H54 h55 k56
    have m58 := Mono.set m53 z52 k56
    refine AOps.cons rfl rfl (AOp.assign (.int .i64 (buildE vs.length fs)) rfl rfl ?_)
    refine AOps.nil ?_
    change AWP _ _ _ _ _ _
    refine AWP.seq ?_
    refine AWP.seq ?_
    refine AWP.frzP 6 h55 z52 rfl m58 fun H59 m60 k61 => ?_
    refine AWP.region (l := [0, 1, 2, 3, 4, 5]) rfl ?_
    refine AOps.cons rfl rfl (AOp.move (.int .i64 ((levelR vs fs cr).2)) rfl rfl ?_)
    refine AOps.cons rfl rfl (AOp.bin (.bool (!decide ((levelR vs fs cr).2 = 0))) rfl rfl rfl ine ?_)
    refine AOps.cons rfl rfl (AOp.move (.bool (!decide ((levelR vs fs cr).2 = 0))) rfl rfl ?_)
    by_cases b62 : (levelR vs fs cr).2 = 0
    ·
     refine AOps.yes rfl rfl rfl rfl rfl rfl rfl (nb (decide_eq_true b62)) (AOp.move (.int .i64 (buildE vs.length fs)) rfl rfl ?_)
     refine AOps.yes rfl rfl rfl rfl rfl rfl rfl (nb (decide_eq_true b62)) (AOp.bin (.bool (!decide (buildE vs.length fs = 0))) rfl rfl rfl ine ?_)
     refine AOps.cons rfl rfl (AOp.pickF (.bool (!decide (buildE vs.length fs = 0))) rfl rfl (nb (decide_eq_true b62)) rfl ?_)
     refine AOps.nil ?_
     change AWP _ _ _ _ _ _
     by_cases b63 : buildE vs.length fs = 0
     ·
      refine AWP.condF rfl (nb (decide_eq_true b63)) ?_
      refine AWP.skip ?_
      change AWP _ _ _ _ _ _
      refine AWP.seq ?_
      have h8 : ∀ f : Int, 0 ≤ f → f < fs.length → (at_ fs f).length ≤ 8 := fun f g0 g1 => by have := h8_ f g0 (by omega); omega
      have N := nearF hcS ⟨s1, s2, s3, s4, s5⟩ b62 h8
      have hvln := level_vlen N.h
      have hel := N.tf.el
      have hfln := N.tf.fl
      have hshl := N.sf.len
      refine AWP.region (l := [0, 1, 2, 3, 4, 5, 6, 7]) rfl ?_
      refine AOps.cons rfl rfl (AOp.loadF (.agg [.sl vs.length (vs.flatMap eV), .sl fs.length (fs.map eF), .sl cr.length (cr.flatMap eCr)]) rfl s22 ty_26 rfl ?_)
      refine AOps.cons rfl rfl (AOp.loadF (.agg [.sl ((buildT vs.length fs).ed).length (((buildT vs.length fs).ed).flatMap eE), .sl ((buildT vs.length fs).fan).length (((buildT vs.length fs).fan).map eF), .sl ((buildT vs.length fs).rnd).length (((buildT vs.length fs).rnd).map eBo)]) rfl rfl ty_35 rfl ?_)
      refine AOps.cons rfl rfl (AOp.pcall («as» := [.agg [.sl vs.length (vs.flatMap eV), .sl fs.length (fs.map eF), .sl cr.length (cr.flatMap eCr)], .agg [.sl ((buildT vs.length fs).ed).length (((buildT vs.length fs).ed).flatMap eE), .sl ((buildT vs.length fs).fan).length (((buildT vs.length fs).fan).map eF), .sl ((buildT vs.length fs).rnd).length (((buildT vs.length fs).rnd).map eBo)]]) rfl rfl (rfl) tf_17 (c_Sharp _ _ _ _ (by omega) (by have := N.tf.el; omega) N.tf.se) ?_)
      intro H64 m65
      have m66 := m60.trans m65
      refine AOps.cons rfl rfl (AOp.move (.tup [.sl ((sharpR (buildT vs.length fs) cr).1).length (((sharpR (buildT vs.length fs) cr).1).map eI), .int .i64 ((sharpR (buildT vs.length fs) cr).2)]) rfl rfl ?_)
      refine AOps.cons rfl rfl (AOp.extract (.sl ((sharpR (buildT vs.length fs) cr).1).length (((sharpR (buildT vs.length fs) cr).1).map eI)) rfl rfl rfl ?_)
      refine AOps.cons rfl rfl (AOp.extract (.int .i64 ((sharpR (buildT vs.length fs) cr).2)) rfl rfl rfl ?_)
      refine AOps.cons rfl rfl (AOp.assign (.sl ((sharpR (buildT vs.length fs) cr).1).length (((sharpR (buildT vs.length fs) cr).1).map eI)) rfl rfl ?_)
      refine AOps.cons rfl rfl (AOp.assign (.int .i64 ((sharpR (buildT vs.length fs) cr).2)) rfl rfl ?_)
      refine AOps.nil ?_
      change AWP _ _ _ _ _ _
      refine AWP.seq ?_
      refine AWP.region (l := [0, 1]) rfl ?_
      refine AOps.cons rfl rfl (AOp.buildSlice (cells := []) rfl u_22 ts_42 tz_42 rfl rfl rfl ?_)
      intro i67 H68 n69 h70 k71
      have z72 := Mono.free m66 n69
      have m73 := Mono.new m66 n69 k71
      obtain ⟨v74, e75⟩ : ∃ v : AV, v = .slm i67 0 3 0 0 := ⟨_, rfl⟩
      have o76 : Own H0 H68 3 v74 0 [] := .inr ⟨_, _, e75, h70, z72, rfl⟩
      refine AOps.cons rfl rfl (AOp.assign (v74) rfl e75.symm ?_)
      refine AOps.nil ?_
      change AWP _ _ _ _ _ _
      refine AWP.seq ?_
      refine AWP.seq ?_
      refine AWP.region (l := [0]) rfl ?_
      refine AOps.cons rfl rfl (AOp.assign (.int .i64 0) rfl rfl ?_)
      refine AOps.nil ?_
      change AWP _ _ _ _ _ _
      refine AWP.block ?_
      refine AWP.loop (fun q77 fq Hq => ∃ (f : Int) (w10 : AV), q77 = (((fs.length : Int) : Int) - f).toNat ∧ fq 11 = .int .i64 f ∧ fq 1 = .fptr [.sl vs.length (vs.flatMap eV), .sl fs.length (fs.map eF), .sl cr.length (cr.flatMap eCr)] 0 ∧ fq 4 = .fptr [.sl ((levelR vs fs cr).1.Verts).length (((levelR vs fs cr).1.Verts).flatMap eV), .sl ((levelR vs fs cr).1.Faces).length (((levelR vs fs cr).1.Faces).map eF), .sl ((levelR vs fs cr).1.Creases).length (((levelR vs fs cr).1.Creases).flatMap eCr)] 0 ∧ fq 6 = .fptr [.sl ((buildT vs.length fs).ed).length (((buildT vs.length fs).ed).flatMap eE), .sl ((buildT vs.length fs).fan).length (((buildT vs.length fs).fan).map eF), .sl ((buildT vs.length fs).rnd).length (((buildT vs.length fs).rnd).map eBo)] 0 ∧ fq 8 = .sl ((sharpR (buildT vs.length fs) cr).1).length (((sharpR (buildT vs.length fs) cr).1).map eI) ∧ fq 10 = w10 ∧ Own H0 Hq 3 w10 ((sumsU vs fs f)).length (((sumsU vs fs f)).flatMap eV) ∧ Mono H0 Hq ∧ (0 ≤ f) ∧ (f ≤ (fs.length : Int))) (k := (((fs.length : Int) : Int) - 0).toNat) ?_ ?_
      ·
       exact ⟨0, v74, rfl, rfl, s22, rfl, rfl, rfl, rfl, (have hx : ([] : List VT) = (sumsU vs fs 0) := (by rfl); Own.re o76 (congrArg List.length hx) (congrArg (fun l : List VT => l.flatMap eV) hx)), m73, by omega, by omega⟩
      ·
       rintro _ f79 H78 ⟨f, w10, rfl, s80, s81, s82, s83, s84, s85, o86, m87, hf0, hf1⟩
       refine AWP.seq ?_
       refine AWP.seq ?_
       have hsul : (sumsU vs fs f).length = f.toNat := U_len _ _
       refine AWP.region (l := [0, 1, 2, 3, 4]) rfl ?_
       refine AOps.cons rfl rfl (AOp.move (.int .i64 f) rfl s80 ?_)
       refine AOps.cons rfl rfl (AOp.fieldAddrF rfl s81 fl_26_1 ?_)
       refine AOps.cons rfl rfl (AOp.loadF (.sl fs.length (fs.map eF)) rfl rfl ty_23 rfl ?_)
       refine AOps.cons rfl rfl (AOp.len (m := fs.length) rfl rfl (.inr (.inl ⟨_, rfl⟩)) u_23 ?_)
       refine AOps.cons rfl rfl (AOp.bin (.bool (decide (f < (fs.length : Int)))) rfl rfl rfl rfl ?_)
       refine AOps.nil ?_
       change AWP _ _ _ _ _ _
       by_cases b88 : f < (fs.length : Int)
       ·
        refine AWP.condT rfl (decide_eq_true b88) ?_
        refine AWP.skip ?_
        change AWP _ _ _ _ _ _
        refine AWP.seq ?_
        refine AWP.block ?_
        refine AWP.seq ?_
        have hfl8 := N.l f hf0 (by omega)
        refine AWP.region (l := [0, 1, 2]) rfl ?_
        refine AOps.cons rfl rfl (AOp.build (cells := [.int .i64 0, .int .i64 0, .int .i64 0]) rfl tz_42 pl_42 rfl rfl ?_)
        refine AOps.cons rfl rfl (AOp.alloc rfl tz_42 ?_)
        intro i89 H90 n91 h92 k93
        have z94 := Mono.free m87 n91
        have o95 := Own.keep o86 k93 (Own.notnew o86 n91)
        have no96 := Own.notnew o86 n91
        have m97 := Mono.new m87 n91 k93
        refine AOps.cons rfl rfl (AOp.store' (cells' := [.int .i64 0, .int .i64 0, .int .i64 0]) (.agg [.int .i64 0, .int .i64 0, .int .i64 0]) rfl rfl ts_42 h92 rfl rfl rfl rfl ?_)
        intro H98 h99 k100
        have o102 := Own.keep o95 k100 no96
        have m103 := Mono.set m97 z94 k100
        refine AOps.nil ?_
        change AWP _ _ _ _ _ _
        refine AWP.seq ?_
        refine AWP.seq ?_
        refine AWP.region (l := [0]) rfl ?_
        refine AOps.cons rfl rfl (AOp.assign (.int .i64 0) rfl rfl ?_)
        refine AOps.nil ?_
        change AWP _ _ _ _ _ _
        refine AWP.block ?_
        refine AWP.loop (fun q104 fq Hq => ∃ (y : Int), q104 = ((((at_ fs f).length : Int) : Int) - y).toNat ∧ fq 13 = .int .i64 y ∧ fq 11 = .int .i64 f ∧ fq 1 = .fptr [.sl vs.length (vs.flatMap eV), .sl fs.length (fs.map eF), .sl cr.length (cr.flatMap eCr)] 0 ∧ fq 4 = .fptr [.sl ((levelR vs fs cr).1.Verts).length (((levelR vs fs cr).1.Verts).flatMap eV), .sl ((levelR vs fs cr).1.Faces).length (((levelR vs fs cr).1.Faces).map eF), .sl ((levelR vs fs cr).1.Creases).length (((levelR vs fs cr).1.Creases).flatMap eCr)] 0 ∧ fq 6 = .fptr [.sl ((buildT vs.length fs).ed).length (((buildT vs.length fs).ed).flatMap eE), .sl ((buildT vs.length fs).fan).length (((buildT vs.length fs).fan).map eF), .sl ((buildT vs.length fs).rnd).length (((buildT vs.length fs).rnd).map eBo)] 0 ∧ fq 8 = .sl ((sharpR (buildT vs.length fs) cr).1).length (((sharpR (buildT vs.length fs) cr).1).map eI) ∧ fq 10 = w10 ∧ fq 12 = .ptr i89 0 0 ∧ Own H0 Hq 3 w10 (((sumsU vs fs f)).length) (((sumsU vs fs f)).flatMap eV) ∧ NotId w10 i89 ∧ Hq i89 = some (.row 0 ([.int .i64 ((sumL (((at_ fs f).take y.toNat).map fun k => at_ vs k)).X), .int .i64 ((sumL (((at_ fs f).take y.toNat).map fun k => at_ vs k)).Y), .int .i64 ((sumL (((at_ fs f).take y.toNat).map fun k => at_ vs k)).Z)])) ∧ Mono H0 Hq ∧ (0 ≤ y) ∧ (y ≤ ((at_ fs f).length : Int)) ∧ (inV (65536 * y) (sumL (((at_ fs f).take y.toNat).map fun k => at_ vs k)))) (k := ((((at_ fs f).length : Int) : Int) - 0).toNat) ?_ ?_
        ·
         exact ⟨0, rfl, rfl, s80, s81, s82, s83, s84, s85, rfl, o102, no96, (h99.trans (congrArg (fun c => some (AB.row 0 c)) (show ([.int .i64 0, .int .i64 0, .int .i64 0] : List AV) = [.int .i64 ((sumL (((at_ fs f).take (0 : Int).toNat).map fun k => at_ vs k)).X), .int .i64 ((sumL (((at_ fs f).take (0 : Int).toNat).map fun k => at_ vs k)).Y), .int .i64 ((sumL (((at_ fs f).take (0 : Int).toNat).map fun k => at_ vs k)).Z)] from by first | rfl | (rw [← sum_step hy0 (by omega), addL_1])))), m103, by omega, by omega, by exact z_in (by omega)⟩
        ·
         rintro _ f106 H105 ⟨y, rfl, s107, s108, s109, s110, s111, s112, s113, s114, o115, no116, h117, m118, hy0, hy1, hin⟩
         refine AWP.seq ?_
         refine AWP.seq ?_
         refine AWP.region (l := [0, 1, 2, 3, 4, 5, 6, 7]) rfl ?_
         refine AOps.cons rfl rfl (AOp.move (.int .i64 y) rfl s107 ?_)
         refine AOps.cons rfl rfl (AOp.fieldAddrF rfl s109 fl_26_1 ?_)
         refine AOps.cons rfl rfl (AOp.loadF (.sl fs.length (fs.map eF)) rfl rfl ty_23 rfl ?_)
         refine AOps.cons rfl rfl (AOp.move (.int .i64 f) rfl s108 ?_)
         refine AOps.cons rfl rfl (AOp.indexAddrS rfl rfl rfl sl_23 (by omega) (by omega) ?_)
         refine AOps.cons rfl rfl (AOp.loadF (.sl (at_ fs f).length ((at_ fs f).map eI)) rfl rfl ty_38 (ld1 (by omega) (by omega)) ?_)
         refine AOps.cons rfl rfl (AOp.len (m := (at_ fs f).length) rfl rfl (.inr (.inl ⟨_, rfl⟩)) u_38 ?_)
         refine AOps.cons rfl rfl (AOp.bin (.bool (decide (y < (((at_ fs f).length) : Int)))) rfl rfl rfl rfl ?_)
         refine AOps.nil ?_
         change AWP _ _ _ _ _ _
         by_cases b119 : y < (((at_ fs f).length) : Int)
         ·
          refine AWP.condT rfl (decide_eq_true b119) ?_
          refine AWP.skip ?_
          change AWP _ _ _ _ _ _
          refine AWP.seq ?_
          refine AWP.block ?_
          have hkr := N.r _ (at_mem (l := fs) hf0 (by omega)) _ (at_mem (l := at_ fs f) hy0 (by omega))
          have hA23 : inV 2305843009213693952 (sumL (((at_ fs f).take y.toNat).map fun k => at_ vs k)) := inV_le hin (by omega)
          have hB23_ := N.v _ (at_mem (l := vs) hkr.1 hkr.2)
          have hB23 := inV_le (b := 2305843009213693952) hB23_ (by decide)
          refine AWP.region_quiet mixed (by kernel_rfl) 14 [14] rfl (by kernel_rfl) (Mono H105) (Mono.refl _) ?_
          refine QE.op rfl rfl (.inl ⟨rfl, fun f' H' hf hM => AOp.load (.agg [.int .i64 ((sumL (((at_ fs f).take y.toNat).map fun k => at_ vs k)).X), .int .i64 ((sumL (((at_ fs f).take y.toNat).map fun k => at_ vs k)).Y), .int .i64 ((sumL (((at_ fs f).take y.toNat).map fun k => at_ vs k)).Z)]) rfl ((hf 12 rfl).trans s114) ty_42 (hM _ _ h117) rfl ⟨rfl, hM⟩⟩) ?_
          refine QE.op rfl rfl (.inl ⟨rfl, fun f' H' hf hM => AOp.fieldAddrF rfl ((hf 1 rfl).trans s109) fl_26_0 ⟨rfl, hM⟩⟩) ?_
          refine QE.op rfl rfl (.inl ⟨rfl, fun f' H' hf hM => AOp.loadF (.sl vs.length (vs.flatMap eV)) rfl ((hf 89 rfl).trans rfl) ty_22 rfl ⟨rfl, hM⟩⟩) ?_
          refine QE.op rfl rfl (.inl ⟨rfl, fun f' H' hf hM => AOp.fieldAddrF rfl ((hf 1 rfl).trans s109) fl_26_1 ⟨rfl, hM⟩⟩) ?_
          refine QE.op rfl rfl (.inl ⟨rfl, fun f' H' hf hM => AOp.loadF (.sl fs.length (fs.map eF)) rfl ((hf 91 rfl).trans rfl) ty_23 rfl ⟨rfl, hM⟩⟩) ?_
          refine QE.op rfl rfl (.inl ⟨rfl, fun f' H' hf hM => AOp.move (.int .i64 f) rfl ((hf 11 rfl).trans s108) ⟨rfl, hM⟩⟩) ?_
          refine QE.op rfl rfl (.inl ⟨rfl, fun f' H' hf hM => AOp.indexAddrS rfl ((hf 92 rfl).trans rfl) ((hf 93 rfl).trans rfl) sl_23 (by omega) (by omega) ⟨rfl, hM⟩⟩) ?_
          refine QE.op rfl rfl (.inl ⟨rfl, fun f' H' hf hM => AOp.loadF (.sl (at_ fs f).length ((at_ fs f).map eI)) rfl ((hf 94 rfl).trans rfl) ty_38 (ld1 (by omega) (by omega)) ⟨rfl, hM⟩⟩) ?_
          refine QE.op rfl rfl (.inl ⟨rfl, fun f' H' hf hM => AOp.move (.int .i64 y) rfl ((hf 13 rfl).trans s107) ⟨rfl, hM⟩⟩) ?_
          refine QE.op rfl rfl (.inl ⟨rfl, fun f' H' hf hM => AOp.indexAddrS rfl ((hf 95 rfl).trans rfl) ((hf 96 rfl).trans rfl) sl_38 (by omega) (by omega) ⟨rfl, hM⟩⟩) ?_
          refine QE.op rfl rfl (.inl ⟨rfl, fun f' H' hf hM => AOp.loadF (.int .i64 (at_ (at_ fs f) y)) rfl ((hf 97 rfl).trans rfl) ty_3 (ld1 (by omega) (by omega)) ⟨rfl, hM⟩⟩) ?_
          refine QE.op rfl rfl (.inl ⟨rfl, fun f' H' hf hM => AOp.indexAddrS rfl ((hf 90 rfl).trans rfl) ((hf 98 rfl).trans rfl) sl_22 (by omega) (by omega) ⟨rfl, hM⟩⟩) ?_
          refine QE.op rfl rfl (.inl ⟨rfl, fun f' H' hf hM => AOp.loadF (.agg [.int .i64 ((at_ vs (at_ (at_ fs f) y)).X), .int .i64 ((at_ vs (at_ (at_ fs f) y)).Y), .int .i64 ((at_ vs (at_ (at_ fs f) y)).Z)]) rfl ((hf 99 rfl).trans rfl) ty_42 (ldM eV_len (by omega) (by omega)) ⟨rfl, hM⟩⟩) ?_
          refine QE.op rfl rfl (.inl ⟨rfl, fun f' H' hf hM => AOp.pcall («as» := [.agg [.int .i64 ((sumL (((at_ fs f).take y.toNat).map fun k => at_ vs k)).X), .int .i64 ((sumL (((at_ fs f).take y.toNat).map fun k => at_ vs k)).Y), .int .i64 ((sumL (((at_ fs f).take y.toNat).map fun k => at_ vs k)).Z)], .agg [.int .i64 ((at_ vs (at_ (at_ fs f) y)).X), .int .i64 ((at_ vs (at_ (at_ fs f) y)).Y), .int .i64 ((at_ vs (at_ (at_ fs f) y)).Z)]]) rfl rfl (lapp (lcons ((hf 88 rfl).trans rfl) (lcons ((hf 100 rfl).trans rfl) rfl)) rfl) tf_18 (c_rAdd (sumL (((at_ fs f).take y.toNat).map fun k => at_ vs k)) (at_ vs (at_ (at_ fs f) y)) (by assumption) (by assumption)) fun H2 m2 => ⟨rfl, hM.trans m2⟩⟩) ?_
          refine QE.done fun H120 m121 => ?_
          have h122 := m121 _ _ h117
          have o123 := Own.mono o115 m121
          have m124 := m118.trans m121
          refine AOps.cons rfl rfl (AOp.store' (cells' := [.int .i64 ((addV (sumL (((at_ fs f).take y.toNat).map fun k => at_ vs k)) (at_ vs (at_ (at_ fs f) y))).X), .int .i64 ((addV (sumL (((at_ fs f).take y.toNat).map fun k => at_ vs k)) (at_ vs (at_ (at_ fs f) y))).Y), .int .i64 ((addV (sumL (((at_ fs f).take y.toNat).map fun k => at_ vs k)) (at_ vs (at_ (at_ fs f) y))).Z)]) (.agg [.int .i64 ((addV (sumL (((at_ fs f).take y.toNat).map fun k => at_ vs k)) (at_ vs (at_ (at_ fs f) y))).X), .int .i64 ((addV (sumL (((at_ fs f).take y.toNat).map fun k => at_ vs k)) (at_ vs (at_ (at_ fs f) y))).Y), .int .i64 ((addV (sumL (((at_ fs f).take y.toNat).map fun k => at_ vs k)) (at_ vs (at_ (at_ fs f) y))).Z)]) s114 rfl ts_42 h122 rfl rfl rfl rfl ?_)
          intro H125 h126 k127
          have o129 := Own.keep o123 k127 no116
          have m130 := Mono.set m124 z94 k127
          refine AOps.nil ?_
          change AWP _ _ _ _ _ _
          refine AWP.region (l := [0, 1, 2]) rfl ?_
          refine AOps.cons rfl rfl (AOp.move (.int .i64 y) rfl s107 ?_)
          refine AOps.cons rfl rfl (AOp.bin (.int .i64 (y + 1)) rfl rfl rfl (iadd (by omega)) ?_)
          refine AOps.cons rfl rfl (AOp.assign (.int .i64 (y + 1)) rfl rfl ?_)
          refine AOps.nil ?_
          exact ⟨_, by omega, y + 1, rfl, rfl, s108, s109, s110, s111, s112, s113, s114, o129, no116, (h126.trans (congrArg (fun c => some (AB.row 0 c)) (show ([.int .i64 ((addV (sumL (((at_ fs f).take y.toNat).map fun k => at_ vs k)) (at_ vs (at_ (at_ fs f) y))).X), .int .i64 ((addV (sumL (((at_ fs f).take y.toNat).map fun k => at_ vs k)) (at_ vs (at_ (at_ fs f) y))).Y), .int .i64 ((addV (sumL (((at_ fs f).take y.toNat).map fun k => at_ vs k)) (at_ vs (at_ (at_ fs f) y))).Z)] : List AV) = [.int .i64 ((sumL (((at_ fs f).take (y + 1).toNat).map fun k => at_ vs k)).X), .int .i64 ((sumL (((at_ fs f).take (y + 1).toNat).map fun k => at_ vs k)).Y), .int .i64 ((sumL (((at_ fs f).take (y + 1).toNat).map fun k => at_ vs k)).Z)] from by first | rfl | (rw [← sum_step hy0 (by omega), addL_1])))), m130, by omega, by omega, by exact sum_inG hy0 (by omega) hin hB23_⟩
         ·
          refine AWP.condF rfl (decide_eq_false b119) ?_
          refine AWP.exit ?_
          change AWP _ _ _ _ _ _
          refine AWP.seq ?_
          refine AWP.region (l := [0, 1, 2, 3, 4, 5, 6]) rfl ?_
          refine AOps.cons rfl rfl (AOp.fieldAddrF rfl s109 fl_26_1 ?_)
          refine AOps.cons rfl rfl (AOp.loadF (.sl fs.length (fs.map eF)) rfl rfl ty_23 rfl ?_)
          refine AOps.cons rfl rfl (AOp.move (.int .i64 f) rfl s108 ?_)
          refine AOps.cons rfl rfl (AOp.indexAddrS rfl rfl rfl sl_23 (by omega) (by omega) ?_)
          refine AOps.cons rfl rfl (AOp.loadF (.sl (at_ fs f).length ((at_ fs f).map eI)) rfl rfl ty_38 (ld1 (by omega) (by omega)) ?_)
          refine AOps.cons rfl rfl (AOp.len (m := (at_ fs f).length) rfl rfl (.inr (.inl ⟨_, rfl⟩)) u_38 ?_)
          refine AOps.cons rfl rfl (AOp.assign (.int .i64 (((at_ fs f).length) : Int)) rfl rfl ?_)
          refine AOps.nil ?_
          change AWP _ _ _ _ _ _
          refine AWP.seq ?_
          have hq8 := tdiv840 (n := ((at_ fs f).length : Int)) (by omega)
          have hS25 : inV 2305843009213693952 (scaleV (sumL (((at_ fs f).take y.toNat).map fun k => at_ vs k)) (Int.tdiv 840 ((at_ fs f).length : Int))) := inV_le (inV_scale (c := 840) hin (by omega)) (by omega)
          refine AWP.region_str mixed (by kernel_rfl) [(0, none), (1, none), (2, none), (3, none), (4, none), (5, some [0])] [6, 7] (by kernel_rfl) ?_
          refine STR.op rfl rfl (.inl ⟨rfl, fun H1 f' H' hf hN hM => AOp.move (w10) rfl ((hf 10 rfl).trans s113) ⟨rfl, hN⟩⟩) ?_
          refine STR.op rfl rfl (.inl ⟨rfl, fun H1 f' H' hf hN hM => AOp.load (.agg [.int .i64 ((sumL (((at_ fs f).take y.toNat).map fun k => at_ vs k)).X), .int .i64 ((sumL (((at_ fs f).take y.toNat).map fun k => at_ vs k)).Y), .int .i64 ((sumL (((at_ fs f).take y.toNat).map fun k => at_ vs k)).Z)]) rfl ((hf 12 rfl).trans s114) ty_42 (hM _ _ h117) rfl ⟨rfl, hN⟩⟩) ?_
          refine STR.op rfl rfl (.inl ⟨rfl, fun H1 f' H' hf hN hM => AOp.move (.int .i64 (((at_ fs f).length) : Int)) rfl ((hf 14 rfl).trans rfl) ⟨rfl, hN⟩⟩) ?_
          refine STR.op rfl rfl (.inl ⟨rfl, fun H1 f' H' hf hN hM => AOp.quoT rfl rfl ((hf 110 rfl).trans rfl) (by omega) (by omega) ⟨rfl, hN⟩⟩) ?_
          refine STR.op rfl rfl (.inl ⟨rfl, fun H1 f' H' hf hN hM => AOp.pcall («as» := [.agg [.int .i64 ((sumL (((at_ fs f).take y.toNat).map fun k => at_ vs k)).X), .int .i64 ((sumL (((at_ fs f).take y.toNat).map fun k => at_ vs k)).Y), .int .i64 ((sumL (((at_ fs f).take y.toNat).map fun k => at_ vs k)).Z)], .int .i64 (Int.tdiv 840 (((at_ fs f).length) : Int))]) rfl rfl (lapp (lcons ((hf 109 rfl).trans rfl) (lcons ((hf 111 rfl).trans rfl) rfl)) rfl) tf_19 (c_rScale (sumL (((at_ fs f).take y.toNat).map fun k => at_ vs k)) (Int.tdiv 840 (((at_ fs f).length) : Int)) (by first | assumption | exact hS25)) fun H2 m2 => ⟨rfl, hN.trans m2⟩⟩) ?_
          refine STR.eff rfl rfl rfl fun f131 H132 hf133 m134 => ?_
          have h135 := m134 _ _ h117
          have o136 := Own.mono o115 m134
          have m137 := m118.trans m134
          refine AOp.buildSlice (cells := [.int .i64 ((scaleV (sumL (((at_ fs f).take y.toNat).map fun k => at_ vs k)) (Int.tdiv 840 (((at_ fs f).length) : Int))).X), .int .i64 ((scaleV (sumL (((at_ fs f).take y.toNat).map fun k => at_ vs k)) (Int.tdiv 840 (((at_ fs f).length) : Int))).Y), .int .i64 ((scaleV (sumL (((at_ fs f).take y.toNat).map fun k => at_ vs k)) (Int.tdiv 840 (((at_ fs f).length) : Int))).Z)]) rfl u_22 ts_42 tz_42 rfl (lconsP ((hf133 112 rfl).trans rfl) rfl) rfl ?_
          intro i138 H139 n140 h141 k142
          have e143 := ne_new h135 n140
          have z144 := Mono.free m137 n140
          have h145 := keep k142 (ne_new h135 n140) h135
          have o146 := Own.keep o136 k142 (Own.notnew o136 n140)
          have no147 := Own.notnew o136 n140
          have m148 := Mono.new m137 n140 k142
          refine ⟨_, rfl, .inl (Mono.new (Mono.refl _) n140 k142), ?_⟩
          refine STR.done fun H149 m150 => ?_
          have h151 := m150 _ _ h145
          have h152 := m150 _ _ h141
          have o153 := Own.mono o146 m150
          have m154 := m148.trans m150
          refine AOps.cons rfl rfl (AOp.append_own (es := 3) (m := 1) (len := (((sumsU vs fs f)).length)) (old := ((sumsU vs fs f)).flatMap eV) (cells := [.int .i64 ((scaleV (sumL (((at_ fs f).take y.toNat).map fun k => at_ vs k)) (Int.tdiv 840 (((at_ fs f).length) : Int))).X), .int .i64 ((scaleV (sumL (((at_ fs f).take y.toNat).map fun k => at_ vs k)) (Int.tdiv 840 (((at_ fs f).length) : Int))).Y), .int .i64 ((scaleV (sumL (((at_ fs f).take y.toNat).map fun k => at_ vs k)) (Int.tdiv 840 (((at_ fs f).length) : Int))).Z)]) rfl u_22 ts_42 tzn_42 tb_42 (by decide) ni_22 rfl o153 m154 rfl (.slm h152 rfl) (one_of rfl) (by decide) (by first | omega | (simp; omega)) ?_)
          intro v155 H156 o157 m158 k159 j160
          have o161 := Own.snocM (xs := (((sumsU vs fs f)) : List VT)) (y := (scaleV (sumL (((at_ fs f).take y.toNat).map fun k => at_ vs k)) (Int.tdiv 840 (((at_ fs f).length) : Int)))) (e := eV) (by simp) o157
          have h162 := (k159 _ no116 (by rw [h151]; simp)).trans h151
          have no163 := j160 _ no116 (by rw [h151]; simp)
          refine AOps.cons rfl rfl (AOp.assign (v155) rfl rfl ?_)
          refine AOps.nil ?_
          change AWP _ _ _ _ _ _
          refine AWP.seq ?_
          have hn26 := N.face (k := (vs.length : Int) + (buildT vs.length fs).ed.length + f) (i := y) hf0 (by omega) (by omega) rfl
          have hA26 : inV 2305843009213693952 (sumL (((at_ fs f).take y.toNat).map fun k => at_ vs k)) := inV_le hin (by omega)
          have hx26 := near_x (e := 2305843009213693952) hn26 hin (by omega) (by omega)
          refine AWP.region_quiet mixed (by kernel_rfl) 17 [] rfl (by kernel_rfl) (Mono H156) (Mono.refl _) ?_
          refine QE.op rfl rfl (.inl ⟨rfl, fun f' H' hf hM => AOp.fieldAddrF rfl ((hf 4 rfl).trans s110) fl_26_0 ⟨rfl, hM⟩⟩) ?_
          refine QE.op rfl rfl (.inl ⟨rfl, fun f' H' hf hM => AOp.loadF (.sl ((levelR vs fs cr).1.Verts).length (((levelR vs fs cr).1.Verts).flatMap eV)) rfl ((hf 115 rfl).trans rfl) ty_22 rfl ⟨rfl, hM⟩⟩) ?_
          refine QE.op rfl rfl (.inl ⟨rfl, fun f' H' hf hM => AOp.fieldAddrF rfl ((hf 1 rfl).trans s109) fl_26_0 ⟨rfl, hM⟩⟩) ?_
          refine QE.op rfl rfl (.inl ⟨rfl, fun f' H' hf hM => AOp.loadF (.sl vs.length (vs.flatMap eV)) rfl ((hf 117 rfl).trans rfl) ty_22 rfl ⟨rfl, hM⟩⟩) ?_
          refine QE.op rfl rfl (.inl ⟨rfl, fun f' H' hf hM => AOp.len (m := vs.length) rfl ((hf 118 rfl).trans rfl) (.inr (.inl ⟨_, rfl⟩)) u_22 ⟨rfl, hM⟩⟩) ?_
          refine QE.op rfl rfl (.inl ⟨rfl, fun f' H' hf hM => AOp.fieldAddrF rfl ((hf 6 rfl).trans s111) fl_35_0 ⟨rfl, hM⟩⟩) ?_
          refine QE.op rfl rfl (.inl ⟨rfl, fun f' H' hf hM => AOp.loadF (.sl ((buildT vs.length fs).ed).length (((buildT vs.length fs).ed).flatMap eE)) rfl ((hf 120 rfl).trans rfl) ty_32 rfl ⟨rfl, hM⟩⟩) ?_
          refine QE.op rfl rfl (.inl ⟨rfl, fun f' H' hf hM => AOp.len (m := ((buildT vs.length fs).ed).length) rfl ((hf 121 rfl).trans rfl) (.inr (.inl ⟨_, rfl⟩)) u_32 ⟨rfl, hM⟩⟩) ?_
          refine QE.op rfl rfl (.inl ⟨rfl, fun f' H' hf hM => AOp.bin (.int .i64 ((vs.length : Int) + ((((buildT vs.length fs).ed).length) : Int))) rfl ((hf 119 rfl).trans rfl) ((hf 122 rfl).trans rfl) (iadd (by omega)) ⟨rfl, hM⟩⟩) ?_
          refine QE.op rfl rfl (.inl ⟨rfl, fun f' H' hf hM => AOp.move (.int .i64 f) rfl ((hf 11 rfl).trans s108) ⟨rfl, hM⟩⟩) ?_
          refine QE.op rfl rfl (.inl ⟨rfl, fun f' H' hf hM => AOp.bin (.int .i64 ((vs.length : Int) + ((((buildT vs.length fs).ed).length) : Int) + f)) rfl ((hf 123 rfl).trans rfl) ((hf 124 rfl).trans rfl) (iadd (by omega)) ⟨rfl, hM⟩⟩) ?_
          refine QE.op rfl rfl (.inl ⟨rfl, fun f' H' hf hM => AOp.indexAddrS rfl ((hf 116 rfl).trans rfl) ((hf 125 rfl).trans rfl) sl_22 (by omega) (by omega) ⟨rfl, hM⟩⟩) ?_
          refine QE.op rfl rfl (.inl ⟨rfl, fun f' H' hf hM => AOp.loadF (.agg [.int .i64 ((at_ ((levelR vs fs cr).1.Verts) ((vs.length : Int) + ((((buildT vs.length fs).ed).length) : Int) + f)).X), .int .i64 ((at_ ((levelR vs fs cr).1.Verts) ((vs.length : Int) + ((((buildT vs.length fs).ed).length) : Int) + f)).Y), .int .i64 ((at_ ((levelR vs fs cr).1.Verts) ((vs.length : Int) + ((((buildT vs.length fs).ed).length) : Int) + f)).Z)]) rfl ((hf 126 rfl).trans rfl) ty_42 (ldM eV_len (by omega) (by omega)) ⟨rfl, hM⟩⟩) ?_
          refine QE.op rfl rfl (.inl ⟨rfl, fun f' H' hf hM => AOp.load (.agg [.int .i64 ((sumL (((at_ fs f).take y.toNat).map fun k => at_ vs k)).X), .int .i64 ((sumL (((at_ fs f).take y.toNat).map fun k => at_ vs k)).Y), .int .i64 ((sumL (((at_ fs f).take y.toNat).map fun k => at_ vs k)).Z)]) rfl ((hf 12 rfl).trans s114) ty_42 (hM _ _ h162) rfl ⟨rfl, hM⟩⟩) ?_
          refine QE.op rfl rfl (.inl ⟨rfl, fun f' H' hf hM => AOp.move (.int .i64 (((at_ fs f).length) : Int)) rfl ((hf 14 rfl).trans rfl) ⟨rfl, hM⟩⟩) ?_
          refine QE.op rfl rfl (.inl ⟨rfl, fun f' H' hf hM => AOp.pcall («as» := [.agg [.int .i64 ((at_ ((levelR vs fs cr).1.Verts) ((vs.length : Int) + ((((buildT vs.length fs).ed).length) : Int) + f)).X), .int .i64 ((at_ ((levelR vs fs cr).1.Verts) ((vs.length : Int) + ((((buildT vs.length fs).ed).length) : Int) + f)).Y), .int .i64 ((at_ ((levelR vs fs cr).1.Verts) ((vs.length : Int) + ((((buildT vs.length fs).ed).length) : Int) + f)).Z)], .agg [.int .i64 ((sumL (((at_ fs f).take y.toNat).map fun k => at_ vs k)).X), .int .i64 ((sumL (((at_ fs f).take y.toNat).map fun k => at_ vs k)).Y), .int .i64 ((sumL (((at_ fs f).take y.toNat).map fun k => at_ vs k)).Z)], .int .i64 (((at_ fs f).length) : Int)]) rfl rfl (lapp (lcons ((hf 127 rfl).trans rfl) (lcons ((hf 128 rfl).trans rfl) (lcons ((hf 129 rfl).trans rfl) rfl))) rfl) tf_20 (c_nearV _ _ _ hn26 hx26 hA26) fun H2 m2 => ⟨rfl, hM.trans m2⟩⟩) ?_
          refine QE.op rfl rfl (.inl ⟨rfl, fun f' H' hf hM => AOp.not rfl ((hf 130 rfl).trans rfl) ⟨rfl, hM⟩⟩) ?_
          refine QE.done fun H164 m165 => ?_
          have h166 := m165 _ _ h162
          have o167 := Own.mono o161 m165
          have m168 := m158.trans m165
          refine AOps.nil ?_
          change AWP _ _ _ _ _ _
          refine AWP.condF rfl rfl ?_
          refine AWP.skip ?_
          change AWP _ _ _ _ _ _
          refine AWP.region (l := [0, 1, 2]) rfl ?_
          refine AOps.cons rfl rfl (AOp.move (.int .i64 f) rfl s108 ?_)
          refine AOps.cons rfl rfl (AOp.bin (.int .i64 (f + 1)) rfl rfl rfl (iadd (by omega)) ?_)
          refine AOps.cons rfl rfl (AOp.assign (.int .i64 (f + 1)) rfl rfl ?_)
          refine AOps.nil ?_
          exact ⟨_, by omega, f + 1, v155, rfl, rfl, s109, s110, s111, s112, rfl, (have hx : ((((sumsU vs fs f)) ++ [(scaleV (sumL (((at_ fs f).take y.toNat).map fun k => at_ vs k)) (Int.tdiv 840 (((at_ fs f).length) : Int)))]) : List VT) = (sumsU vs fs (f + 1)) := (by rw [take_all (by omega)]; exact U_step (f := fun f => meanS vs (at_ fs f)) hf0); Own.re o167 (congrArg List.length hx) (congrArg (fun l : List VT => l.flatMap eV) hx)), m168, by omega, by omega⟩
       ·
        refine AWP.condF rfl (decide_eq_false b88) ?_
        refine AWP.exit ?_
        change AWP _ _ _ _ _ _
        refine AWP.seq ?_
        refine AWP.seq ?_
        refine AWP.frz 10 o86 s85 m87 fun H169 m170 k171 => ?_
        refine AWP.region (l := [0]) rfl ?_
        refine AOps.cons rfl rfl (AOp.assign (.int .i64 0) rfl rfl ?_)
        refine AOps.nil ?_
        change AWP _ _ _ _ _ _
        refine AWP.block ?_
        refine AWP.loop (fun q172 fq Hq => ∃ (e : Int), q172 = (((((buildT vs.length fs).ed).length : Int) : Int) - e).toNat ∧ fq 15 = .int .i64 e ∧ fq 1 = .fptr [.sl vs.length (vs.flatMap eV), .sl fs.length (fs.map eF), .sl cr.length (cr.flatMap eCr)] 0 ∧ fq 4 = .fptr [.sl ((levelR vs fs cr).1.Verts).length (((levelR vs fs cr).1.Verts).flatMap eV), .sl ((levelR vs fs cr).1.Faces).length (((levelR vs fs cr).1.Faces).map eF), .sl ((levelR vs fs cr).1.Creases).length (((levelR vs fs cr).1.Creases).flatMap eCr)] 0 ∧ fq 6 = .fptr [.sl ((buildT vs.length fs).ed).length (((buildT vs.length fs).ed).flatMap eE), .sl ((buildT vs.length fs).fan).length (((buildT vs.length fs).fan).map eF), .sl ((buildT vs.length fs).rnd).length (((buildT vs.length fs).rnd).map eBo)] 0 ∧ fq 8 = .sl ((sharpR (buildT vs.length fs) cr).1).length (((sharpR (buildT vs.length fs) cr).1).map eI) ∧ fq 10 = .sl ((sumsU vs fs f)).length (((sumsU vs fs f)).flatMap eV) ∧ Mono H0 Hq ∧ (0 ≤ e) ∧ (e ≤ (((buildT vs.length fs).ed).length : Int))) (k := (((((buildT vs.length fs).ed).length : Int) : Int) - 0).toNat) ?_ ?_
        ·
         exact ⟨0, rfl, rfl, s81, s82, s83, s84, rfl, m170, by omega, by omega⟩
        ·
         rintro _ f174 H173 ⟨e, rfl, s175, s176, s177, s178, s179, s180, m181, he0, he1⟩
         refine AWP.seq ?_
         refine AWP.seq ?_
         refine AWP.region (l := [0, 1, 2, 3, 4]) rfl ?_
         refine AOps.cons rfl rfl (AOp.move (.int .i64 e) rfl s175 ?_)
         refine AOps.cons rfl rfl (AOp.fieldAddrF rfl s178 fl_35_0 ?_)
         refine AOps.cons rfl rfl (AOp.loadF (.sl ((buildT vs.length fs).ed).length (((buildT vs.length fs).ed).flatMap eE)) rfl rfl ty_32 rfl ?_)
         refine AOps.cons rfl rfl (AOp.len (m := ((buildT vs.length fs).ed).length) rfl rfl (.inr (.inl ⟨_, rfl⟩)) u_32 ?_)
         refine AOps.cons rfl rfl (AOp.bin (.bool (decide (e < ((((buildT vs.length fs).ed).length) : Int)))) rfl rfl rfl rfl ?_)
         refine AOps.nil ?_
         change AWP _ _ _ _ _ _
         by_cases b182 : e < ((((buildT vs.length fs).ed).length) : Int)
         ·
          refine AWP.condT rfl (decide_eq_true b182) ?_
          refine AWP.skip ?_
          change AWP _ _ _ _ _ _
          refine AWP.seq ?_
          refine AWP.block ?_
          refine AWP.seq ?_
          have hab := N.tf.ab _ (at_mem (l := (buildT vs.length fs).ed) he0 (by omega))
          have hvA := N.v _ (at_mem (l := vs) hab.1.1 hab.1.2)
          have hvB := N.v _ (at_mem (l := vs) hab.2.1 hab.2.2)
          have hvA2 := inV_le (b := 2305843009213693952) hvA (by decide)
          have hvB2 := inV_le (b := 2305843009213693952) hvB (by decide)
          have hi3 := inV_scale (c := 840) (k := 840) (inV_add hvA hvB) (by decide)
          have hi3b := inV_le (b := 2305843009213693952) hi3 (by decide)
          refine AWP.region (l := [0, 1, 2, 3, 4, 5, 6]) rfl ?_
          refine AOps.cons rfl rfl (AOp.fieldAddrF rfl s178 fl_35_0 ?_)
          refine AOps.cons rfl rfl (AOp.loadF (.sl ((buildT vs.length fs).ed).length (((buildT vs.length fs).ed).flatMap eE)) rfl rfl ty_32 rfl ?_)
          refine AOps.cons rfl rfl (AOp.move (.int .i64 e) rfl s175 ?_)
          refine AOps.cons rfl rfl (AOp.indexAddrS rfl rfl rfl sl_32 (by omega) (by omega) ?_)
          refine AOps.cons rfl rfl (AOp.loadF (.agg [.int .i64 ((at_ ((buildT vs.length fs).ed) e).A), .int .i64 ((at_ ((buildT vs.length fs).ed) e).B), .int .i64 ((at_ ((buildT vs.length fs).ed) e).F), .int .i64 ((at_ ((buildT vs.length fs).ed) e).G)]) rfl rfl ty_47 (ldM eE_len (by omega) (by omega)) ?_)
          refine AOps.cons rfl rfl (AOp.alloc rfl tz_47 ?_)
          intro i183 H184 n185 h186 k187
          have z188 := Mono.free m181 n185
          have m189 := Mono.new m181 n185 k187
          refine AOps.cons rfl rfl (AOp.store' (cells' := [.int .i64 ((at_ ((buildT vs.length fs).ed) e).A), .int .i64 ((at_ ((buildT vs.length fs).ed) e).B), .int .i64 ((at_ ((buildT vs.length fs).ed) e).F), .int .i64 ((at_ ((buildT vs.length fs).ed) e).G)]) (.agg [.int .i64 ((at_ ((buildT vs.length fs).ed) e).A), .int .i64 ((at_ ((buildT vs.length fs).ed) e).B), .int .i64 ((at_ ((buildT vs.length fs).ed) e).F), .int .i64 ((at_ ((buildT vs.length fs).ed) e).G)]) rfl rfl ts_47 h186 rfl rfl rfl rfl ?_)
          intro H190 h191 k192
          have m194 := Mono.set m189 z188 k192
          refine AOps.nil ?_
          change AWP _ _ _ _ _ _
          refine AWP.seq ?_
          refine AWP.frzP 16 h191 z188 rfl m194 fun H195 m196 k197 => ?_
          refine AWP.region_quietA mixed (by kernel_rfl) 14 15 [15] rfl (by kernel_rfl) (B := .row 0 ([.int .i64 0, .int .i64 0, .int .i64 0])) (va := fun i => .ptr i 0 0) (by decide) fun i198 n199 _ hs200 => ?_
          refine QEA.op rfl rfl rfl (.inl ⟨rfl, fun H1 f' H' hf hN hM => AOp.fieldAddrF rfl ((hf 1 rfl).trans s176) fl_26_0 ⟨rfl, hN⟩⟩) ?_
          refine QEA.op rfl rfl rfl (.inl ⟨rfl, fun H1 f' H' hf hN hM => AOp.loadF (.sl vs.length (vs.flatMap eV)) rfl ((hf 144 rfl).trans rfl) ty_22 rfl ⟨rfl, hN⟩⟩) ?_
          refine QEA.op rfl rfl rfl (.inl ⟨rfl, fun H1 f' H' hf hN hM => AOp.fieldAddrF rfl ((hf 16 rfl).trans rfl) fl_47_0 ⟨rfl, hN⟩⟩) ?_
          refine QEA.op rfl rfl rfl (.inl ⟨rfl, fun H1 f' H' hf hN hM => AOp.loadF (.int .i64 ((at_ ((buildT vs.length fs).ed) e).A)) rfl ((hf 146 rfl).trans rfl) ty_3 rfl ⟨rfl, hN⟩⟩) ?_
          refine QEA.op rfl rfl rfl (.inl ⟨rfl, fun H1 f' H' hf hN hM => AOp.indexAddrS rfl ((hf 145 rfl).trans rfl) ((hf 147 rfl).trans rfl) sl_22 (by omega) (by omega) ⟨rfl, hN⟩⟩) ?_
          refine QEA.op rfl rfl rfl (.inl ⟨rfl, fun H1 f' H' hf hN hM => AOp.loadF (.agg [.int .i64 ((at_ vs ((at_ ((buildT vs.length fs).ed) e).A)).X), .int .i64 ((at_ vs ((at_ ((buildT vs.length fs).ed) e).A)).Y), .int .i64 ((at_ vs ((at_ ((buildT vs.length fs).ed) e).A)).Z)]) rfl ((hf 148 rfl).trans rfl) ty_42 (ldM eV_len (by omega) (by omega)) ⟨rfl, hN⟩⟩) ?_
          refine QEA.op rfl rfl rfl (.inl ⟨rfl, fun H1 f' H' hf hN hM => AOp.fieldAddrF rfl ((hf 1 rfl).trans s176) fl_26_0 ⟨rfl, hN⟩⟩) ?_
          refine QEA.op rfl rfl rfl (.inl ⟨rfl, fun H1 f' H' hf hN hM => AOp.loadF (.sl vs.length (vs.flatMap eV)) rfl ((hf 150 rfl).trans rfl) ty_22 rfl ⟨rfl, hN⟩⟩) ?_
          refine QEA.op rfl rfl rfl (.inl ⟨rfl, fun H1 f' H' hf hN hM => AOp.fieldAddrF rfl ((hf 16 rfl).trans rfl) fl_47_1 ⟨rfl, hN⟩⟩) ?_
          refine QEA.op rfl rfl rfl (.inl ⟨rfl, fun H1 f' H' hf hN hM => AOp.loadF (.int .i64 ((at_ ((buildT vs.length fs).ed) e).B)) rfl ((hf 152 rfl).trans rfl) ty_3 rfl ⟨rfl, hN⟩⟩) ?_
          refine QEA.op rfl rfl rfl (.inl ⟨rfl, fun H1 f' H' hf hN hM => AOp.indexAddrS rfl ((hf 151 rfl).trans rfl) ((hf 153 rfl).trans rfl) sl_22 (by omega) (by omega) ⟨rfl, hN⟩⟩) ?_
          refine QEA.op rfl rfl rfl (.inl ⟨rfl, fun H1 f' H' hf hN hM => AOp.loadF (.agg [.int .i64 ((at_ vs ((at_ ((buildT vs.length fs).ed) e).B)).X), .int .i64 ((at_ vs ((at_ ((buildT vs.length fs).ed) e).B)).Y), .int .i64 ((at_ vs ((at_ ((buildT vs.length fs).ed) e).B)).Z)]) rfl ((hf 154 rfl).trans rfl) ty_42 (ldM eV_len (by omega) (by omega)) ⟨rfl, hN⟩⟩) ?_
          refine QEA.op rfl rfl rfl (.inl ⟨rfl, fun H1 f' H' hf hN hM => AOp.pcall («as» := [.agg [.int .i64 ((at_ vs ((at_ ((buildT vs.length fs).ed) e).A)).X), .int .i64 ((at_ vs ((at_ ((buildT vs.length fs).ed) e).A)).Y), .int .i64 ((at_ vs ((at_ ((buildT vs.length fs).ed) e).A)).Z)], .agg [.int .i64 ((at_ vs ((at_ ((buildT vs.length fs).ed) e).B)).X), .int .i64 ((at_ vs ((at_ ((buildT vs.length fs).ed) e).B)).Y), .int .i64 ((at_ vs ((at_ ((buildT vs.length fs).ed) e).B)).Z)]]) rfl rfl (lapp (lcons ((hf 149 rfl).trans rfl) (lcons ((hf 155 rfl).trans rfl) rfl)) rfl) tf_18 (c_rAdd (at_ vs ((at_ ((buildT vs.length fs).ed) e).A)) (at_ vs ((at_ ((buildT vs.length fs).ed) e).B)) (by assumption) (by assumption)) fun H2 m2 => ⟨rfl, hN.trans m2⟩⟩) ?_
          refine QEA.op rfl rfl rfl (.inl ⟨rfl, fun H1 f' H' hf hN hM => AOp.pcall («as» := [.agg [.int .i64 ((addV (at_ vs ((at_ ((buildT vs.length fs).ed) e).A)) (at_ vs ((at_ ((buildT vs.length fs).ed) e).B))).X), .int .i64 ((addV (at_ vs ((at_ ((buildT vs.length fs).ed) e).A)) (at_ vs ((at_ ((buildT vs.length fs).ed) e).B))).Y), .int .i64 ((addV (at_ vs ((at_ ((buildT vs.length fs).ed) e).A)) (at_ vs ((at_ ((buildT vs.length fs).ed) e).B))).Z)], .int .i64 840]) rfl rfl (lapp (lcons ((hf 156 rfl).trans rfl) (lcons rfl rfl)) rfl) tf_19 (c_rScale (addV (at_ vs ((at_ ((buildT vs.length fs).ed) e).A)) (at_ vs ((at_ ((buildT vs.length fs).ed) e).B))) 840 (by first | assumption | exact hS25)) fun H2 m2 => ⟨rfl, hN.trans m2⟩⟩) ?_
          refine QEA.alloc rfl rfl rfl rfl rfl tz_42 ?_
          refine QEA.done fun H201 m203 => ?_
          have m202 := hs200 _ m203
          have z204 := Mono.free m196 n199
          have m205 := m196.trans m202
          have h206 : H201 i198 = some (.row 0 ([.int .i64 0, .int .i64 0, .int .i64 0])) := m203 i198 _ (updH_same _ _ _)
          refine AOps.cons rfl rfl (AOp.store' (cells' := [.int .i64 ((scaleV (addV (at_ vs ((at_ ((buildT vs.length fs).ed) e).A)) (at_ vs ((at_ ((buildT vs.length fs).ed) e).B))) 840).X), .int .i64 ((scaleV (addV (at_ vs ((at_ ((buildT vs.length fs).ed) e).A)) (at_ vs ((at_ ((buildT vs.length fs).ed) e).B))) 840).Y), .int .i64 ((scaleV (addV (at_ vs ((at_ ((buildT vs.length fs).ed) e).A)) (at_ vs ((at_ ((buildT vs.length fs).ed) e).B))) 840).Z)]) (.agg [.int .i64 ((scaleV (addV (at_ vs ((at_ ((buildT vs.length fs).ed) e).A)) (at_ vs ((at_ ((buildT vs.length fs).ed) e).B))) 840).X), .int .i64 ((scaleV (addV (at_ vs ((at_ ((buildT vs.length fs).ed) e).A)) (at_ vs ((at_ ((buildT vs.length fs).ed) e).B))) 840).Y), .int .i64 ((scaleV (addV (at_ vs ((at_ ((buildT vs.length fs).ed) e).A)) (at_ vs ((at_ ((buildT vs.length fs).ed) e).B))) 840).Z)]) rfl rfl ts_42 h206 rfl rfl rfl rfl ?_)
          intro H207 h208 k209
          have m211 := Mono.set m205 z204 k209
          refine AOps.nil ?_
          change AWP _ _ _ _ _ _
          refine AWP.seq ?_
          refine AWP.region (l := [0]) rfl ?_
          refine AOps.cons rfl rfl (AOp.assign (.int .i64 1680) rfl rfl ?_)
          refine AOps.nil ?_
          change AWP _ _ _ _ _ _
          refine AWP.seq ?_
          refine AWP.seq ?_
          refine AWP.region (l := [0, 1, 2, 3, 4]) rfl ?_
          refine AOps.cons rfl rfl (AOp.move (.sl ((sharpR (buildT vs.length fs) cr).1).length (((sharpR (buildT vs.length fs) cr).1).map eI)) rfl s179 ?_)
          refine AOps.cons rfl rfl (AOp.move (.int .i64 e) rfl s175 ?_)
          refine AOps.cons rfl rfl (AOp.indexAddrS rfl rfl rfl sl_38 (by omega) (by omega) ?_)
          refine AOps.cons rfl rfl (AOp.loadF (.int .i64 (at_ ((sharpR (buildT vs.length fs) cr).1) e)) rfl rfl ty_3 (ld1 (by omega) (by omega)) ?_)
          refine AOps.cons rfl rfl (AOp.bin (.bool (decide (at_ ((sharpR (buildT vs.length fs) cr).1) e = 0))) rfl rfl rfl ieq ?_)
          refine AOps.nil ?_
          change AWP _ _ _ _ _ _
          by_cases b212 : at_ ((sharpR (buildT vs.length fs) cr).1) e = 0
          ·
           refine AWP.condT rfl (decide_eq_true b212) ?_
           refine AWP.seq ?_
           have hfg := N.fg he0 (by omega) b212
           have hsF := N.sum (i := f) hfg.1.1 (by omega) (by omega)
           have hsG := N.sum (i := f) hfg.2.1 (by omega) (by omega)
           have hsF2 := inV_le (b := 2305843009213693952) hsF (by decide)
           have hsG2 := inV_le (b := 2305843009213693952) hsG (by decide)
           have hi4 := inV_add hsF hsG
           have hi4b := inV_le (b := 2305843009213693952) hi4 (by decide)
           refine AWP.region_quiet mixed (by kernel_rfl) 13 [13] rfl (by kernel_rfl) (Mono H207) (Mono.refl _) ?_
           refine QE.op rfl rfl (.inl ⟨rfl, fun f' H' hf hM => AOp.load (.agg [.int .i64 ((scaleV (addV (at_ vs ((at_ ((buildT vs.length fs).ed) e).A)) (at_ vs ((at_ ((buildT vs.length fs).ed) e).B))) 840).X), .int .i64 ((scaleV (addV (at_ vs ((at_ ((buildT vs.length fs).ed) e).A)) (at_ vs ((at_ ((buildT vs.length fs).ed) e).B))) 840).Y), .int .i64 ((scaleV (addV (at_ vs ((at_ ((buildT vs.length fs).ed) e).A)) (at_ vs ((at_ ((buildT vs.length fs).ed) e).B))) 840).Z)]) rfl ((hf 17 rfl).trans rfl) ty_42 (hM _ _ h208) rfl ⟨rfl, hM⟩⟩) ?_
           refine QE.op rfl rfl (.inl ⟨rfl, fun f' H' hf hM => AOp.move (.sl ((sumsU vs fs f)).length (((sumsU vs fs f)).flatMap eV)) rfl ((hf 10 rfl).trans s180) ⟨rfl, hM⟩⟩) ?_
           refine QE.op rfl rfl (.inl ⟨rfl, fun f' H' hf hM => AOp.fieldAddrF rfl ((hf 16 rfl).trans rfl) fl_47_2 ⟨rfl, hM⟩⟩) ?_
           refine QE.op rfl rfl (.inl ⟨rfl, fun f' H' hf hM => AOp.loadF (.int .i64 ((at_ ((buildT vs.length fs).ed) e).F)) rfl ((hf 165 rfl).trans rfl) ty_3 rfl ⟨rfl, hM⟩⟩) ?_
           refine QE.op rfl rfl (.inl ⟨rfl, fun f' H' hf hM => AOp.indexAddrS rfl ((hf 164 rfl).trans rfl) ((hf 166 rfl).trans rfl) sl_22 (by omega) (by omega) ⟨rfl, hM⟩⟩) ?_
           refine QE.op rfl rfl (.inl ⟨rfl, fun f' H' hf hM => AOp.loadF (.agg [.int .i64 ((at_ ((sumsU vs fs f)) ((at_ ((buildT vs.length fs).ed) e).F)).X), .int .i64 ((at_ ((sumsU vs fs f)) ((at_ ((buildT vs.length fs).ed) e).F)).Y), .int .i64 ((at_ ((sumsU vs fs f)) ((at_ ((buildT vs.length fs).ed) e).F)).Z)]) rfl ((hf 167 rfl).trans rfl) ty_42 (ldM eV_len (by omega) (by omega)) ⟨rfl, hM⟩⟩) ?_
           refine QE.op rfl rfl (.inl ⟨rfl, fun f' H' hf hM => AOp.move (.sl ((sumsU vs fs f)).length (((sumsU vs fs f)).flatMap eV)) rfl ((hf 10 rfl).trans s180) ⟨rfl, hM⟩⟩) ?_
           refine QE.op rfl rfl (.inl ⟨rfl, fun f' H' hf hM => AOp.fieldAddrF rfl ((hf 16 rfl).trans rfl) fl_47_3 ⟨rfl, hM⟩⟩) ?_
           refine QE.op rfl rfl (.inl ⟨rfl, fun f' H' hf hM => AOp.loadF (.int .i64 ((at_ ((buildT vs.length fs).ed) e).G)) rfl ((hf 170 rfl).trans rfl) ty_3 rfl ⟨rfl, hM⟩⟩) ?_
           refine QE.op rfl rfl (.inl ⟨rfl, fun f' H' hf hM => AOp.indexAddrS rfl ((hf 169 rfl).trans rfl) ((hf 171 rfl).trans rfl) sl_22 (by omega) (by omega) ⟨rfl, hM⟩⟩) ?_
           refine QE.op rfl rfl (.inl ⟨rfl, fun f' H' hf hM => AOp.loadF (.agg [.int .i64 ((at_ ((sumsU vs fs f)) ((at_ ((buildT vs.length fs).ed) e).G)).X), .int .i64 ((at_ ((sumsU vs fs f)) ((at_ ((buildT vs.length fs).ed) e).G)).Y), .int .i64 ((at_ ((sumsU vs fs f)) ((at_ ((buildT vs.length fs).ed) e).G)).Z)]) rfl ((hf 172 rfl).trans rfl) ty_42 (ldM eV_len (by omega) (by omega)) ⟨rfl, hM⟩⟩) ?_
           refine QE.op rfl rfl (.inl ⟨rfl, fun f' H' hf hM => AOp.pcall («as» := [.agg [.int .i64 ((at_ ((sumsU vs fs f)) ((at_ ((buildT vs.length fs).ed) e).F)).X), .int .i64 ((at_ ((sumsU vs fs f)) ((at_ ((buildT vs.length fs).ed) e).F)).Y), .int .i64 ((at_ ((sumsU vs fs f)) ((at_ ((buildT vs.length fs).ed) e).F)).Z)], .agg [.int .i64 ((at_ ((sumsU vs fs f)) ((at_ ((buildT vs.length fs).ed) e).G)).X), .int .i64 ((at_ ((sumsU vs fs f)) ((at_ ((buildT vs.length fs).ed) e).G)).Y), .int .i64 ((at_ ((sumsU vs fs f)) ((at_ ((buildT vs.length fs).ed) e).G)).Z)]]) rfl rfl (lapp (lcons ((hf 168 rfl).trans rfl) (lcons ((hf 173 rfl).trans rfl) rfl)) rfl) tf_18 (c_rAdd (at_ ((sumsU vs fs f)) ((at_ ((buildT vs.length fs).ed) e).F)) (at_ ((sumsU vs fs f)) ((at_ ((buildT vs.length fs).ed) e).G)) (by assumption) (by assumption)) fun H2 m2 => ⟨rfl, hM.trans m2⟩⟩) ?_
           refine QE.op rfl rfl (.inl ⟨rfl, fun f' H' hf hM => AOp.pcall («as» := [.agg [.int .i64 ((scaleV (addV (at_ vs ((at_ ((buildT vs.length fs).ed) e).A)) (at_ vs ((at_ ((buildT vs.length fs).ed) e).B))) 840).X), .int .i64 ((scaleV (addV (at_ vs ((at_ ((buildT vs.length fs).ed) e).A)) (at_ vs ((at_ ((buildT vs.length fs).ed) e).B))) 840).Y), .int .i64 ((scaleV (addV (at_ vs ((at_ ((buildT vs.length fs).ed) e).A)) (at_ vs ((at_ ((buildT vs.length fs).ed) e).B))) 840).Z)], .agg [.int .i64 ((addV (at_ ((sumsU vs fs f)) ((at_ ((buildT vs.length fs).ed) e).F)) (at_ ((sumsU vs fs f)) ((at_ ((buildT vs.length fs).ed) e).G))).X), .int .i64 ((addV (at_ ((sumsU vs fs f)) ((at_ ((buildT vs.length fs).ed) e).F)) (at_ ((sumsU vs fs f)) ((at_ ((buildT vs.length fs).ed) e).G))).Y), .int .i64 ((addV (at_ ((sumsU vs fs f)) ((at_ ((buildT vs.length fs).ed) e).F)) (at_ ((sumsU vs fs f)) ((at_ ((buildT vs.length fs).ed) e).G))).Z)]]) rfl rfl (lapp (lcons ((hf 163 rfl).trans rfl) (lcons ((hf 174 rfl).trans rfl) rfl)) rfl) tf_18 (c_rAdd (scaleV (addV (at_ vs ((at_ ((buildT vs.length fs).ed) e).A)) (at_ vs ((at_ ((buildT vs.length fs).ed) e).B))) 840) (addV (at_ ((sumsU vs fs f)) ((at_ ((buildT vs.length fs).ed) e).F)) (at_ ((sumsU vs fs f)) ((at_ ((buildT vs.length fs).ed) e).G))) (by assumption) (by assumption)) fun H2 m2 => ⟨rfl, hM.trans m2⟩⟩) ?_
           refine QE.done fun H213 m214 => ?_
           have h215 := m214 _ _ h208
           have m216 := m211.trans m214
           refine AOps.cons rfl rfl (AOp.store' (cells' := [.int .i64 ((addV (scaleV (addV (at_ vs ((at_ ((buildT vs.length fs).ed) e).A)) (at_ vs ((at_ ((buildT vs.length fs).ed) e).B))) 840) (addV (at_ ((sumsU vs fs f)) ((at_ ((buildT vs.length fs).ed) e).F)) (at_ ((sumsU vs fs f)) ((at_ ((buildT vs.length fs).ed) e).G)))).X), .int .i64 ((addV (scaleV (addV (at_ vs ((at_ ((buildT vs.length fs).ed) e).A)) (at_ vs ((at_ ((buildT vs.length fs).ed) e).B))) 840) (addV (at_ ((sumsU vs fs f)) ((at_ ((buildT vs.length fs).ed) e).F)) (at_ ((sumsU vs fs f)) ((at_ ((buildT vs.length fs).ed) e).G)))).Y), .int .i64 ((addV (scaleV (addV (at_ vs ((at_ ((buildT vs.length fs).ed) e).A)) (at_ vs ((at_ ((buildT vs.length fs).ed) e).B))) 840) (addV (at_ ((sumsU vs fs f)) ((at_ ((buildT vs.length fs).ed) e).F)) (at_ ((sumsU vs fs f)) ((at_ ((buildT vs.length fs).ed) e).G)))).Z)]) (.agg [.int .i64 ((addV (scaleV (addV (at_ vs ((at_ ((buildT vs.length fs).ed) e).A)) (at_ vs ((at_ ((buildT vs.length fs).ed) e).B))) 840) (addV (at_ ((sumsU vs fs f)) ((at_ ((buildT vs.length fs).ed) e).F)) (at_ ((sumsU vs fs f)) ((at_ ((buildT vs.length fs).ed) e).G)))).X), .int .i64 ((addV (scaleV (addV (at_ vs ((at_ ((buildT vs.length fs).ed) e).A)) (at_ vs ((at_ ((buildT vs.length fs).ed) e).B))) 840) (addV (at_ ((sumsU vs fs f)) ((at_ ((buildT vs.length fs).ed) e).F)) (at_ ((sumsU vs fs f)) ((at_ ((buildT vs.length fs).ed) e).G)))).Y), .int .i64 ((addV (scaleV (addV (at_ vs ((at_ ((buildT vs.length fs).ed) e).A)) (at_ vs ((at_ ((buildT vs.length fs).ed) e).B))) 840) (addV (at_ ((sumsU vs fs f)) ((at_ ((buildT vs.length fs).ed) e).F)) (at_ ((sumsU vs fs f)) ((at_ ((buildT vs.length fs).ed) e).G)))).Z)]) rfl rfl ts_42 h215 rfl rfl rfl rfl ?_)
           intro H217 h218 k219
           have m221 := Mono.set m216 z204 k219
           refine AOps.nil ?_
           change AWP _ _ _ _ _ _
           refine AWP.region (l := [0]) rfl ?_
           refine AOps.cons rfl rfl (AOp.assign (.int .i64 3360) rfl rfl ?_)
           refine AOps.nil ?_
           change AWP _ _ _ _ _ _
           refine AWP.seq ?_
           have hn37 := N.edge0 (i := f) (k := (vs.length : Int) + e) he0 (by omega) (by omega) rfl b212
           have hA37 : inV 2305843009213693952 _ := inV_le (inV_add hi3 hi4) (by decide)
           have hx37 := near_x (e := 2305843009213693952) hn37 (inV_add hi3 hi4) (by omega) (by decide)
           skip
           refine AWP.region_quiet mixed (by kernel_rfl) 13 [] rfl (by kernel_rfl) (Mono H217) (Mono.refl _) ?_
           refine QE.op rfl rfl (.inl ⟨rfl, fun f' H' hf hM => AOp.fieldAddrF rfl ((hf 4 rfl).trans s177) fl_26_0 ⟨rfl, hM⟩⟩) ?_
           refine QE.op rfl rfl (.inl ⟨rfl, fun f' H' hf hM => AOp.loadF (.sl ((levelR vs fs cr).1.Verts).length (((levelR vs fs cr).1.Verts).flatMap eV)) rfl ((hf 176 rfl).trans rfl) ty_22 rfl ⟨rfl, hM⟩⟩) ?_
           refine QE.op rfl rfl (.inl ⟨rfl, fun f' H' hf hM => AOp.fieldAddrF rfl ((hf 1 rfl).trans s176) fl_26_0 ⟨rfl, hM⟩⟩) ?_
           refine QE.op rfl rfl (.inl ⟨rfl, fun f' H' hf hM => AOp.loadF (.sl vs.length (vs.flatMap eV)) rfl ((hf 178 rfl).trans rfl) ty_22 rfl ⟨rfl, hM⟩⟩) ?_
           refine QE.op rfl rfl (.inl ⟨rfl, fun f' H' hf hM => AOp.len (m := vs.length) rfl ((hf 179 rfl).trans rfl) (.inr (.inl ⟨_, rfl⟩)) u_22 ⟨rfl, hM⟩⟩) ?_
           refine QE.op rfl rfl (.inl ⟨rfl, fun f' H' hf hM => AOp.move (.int .i64 e) rfl ((hf 15 rfl).trans s175) ⟨rfl, hM⟩⟩) ?_
           refine QE.op rfl rfl (.inl ⟨rfl, fun f' H' hf hM => AOp.bin (.int .i64 ((vs.length : Int) + e)) rfl ((hf 180 rfl).trans rfl) ((hf 181 rfl).trans rfl) (iadd (by omega)) ⟨rfl, hM⟩⟩) ?_
           refine QE.op rfl rfl (.inl ⟨rfl, fun f' H' hf hM => AOp.indexAddrS rfl ((hf 177 rfl).trans rfl) ((hf 182 rfl).trans rfl) sl_22 (by omega) (by omega) ⟨rfl, hM⟩⟩) ?_
           refine QE.op rfl rfl (.inl ⟨rfl, fun f' H' hf hM => AOp.loadF (.agg [.int .i64 ((at_ ((levelR vs fs cr).1.Verts) ((vs.length : Int) + e)).X), .int .i64 ((at_ ((levelR vs fs cr).1.Verts) ((vs.length : Int) + e)).Y), .int .i64 ((at_ ((levelR vs fs cr).1.Verts) ((vs.length : Int) + e)).Z)]) rfl ((hf 183 rfl).trans rfl) ty_42 (ldM eV_len (by omega) (by omega)) ⟨rfl, hM⟩⟩) ?_
           refine QE.op rfl rfl (.inl ⟨rfl, fun f' H' hf hM => AOp.load (.agg [.int .i64 ((addV (scaleV (addV (at_ vs ((at_ ((buildT vs.length fs).ed) e).A)) (at_ vs ((at_ ((buildT vs.length fs).ed) e).B))) 840) (addV (at_ ((sumsU vs fs f)) ((at_ ((buildT vs.length fs).ed) e).F)) (at_ ((sumsU vs fs f)) ((at_ ((buildT vs.length fs).ed) e).G)))).X), .int .i64 ((addV (scaleV (addV (at_ vs ((at_ ((buildT vs.length fs).ed) e).A)) (at_ vs ((at_ ((buildT vs.length fs).ed) e).B))) 840) (addV (at_ ((sumsU vs fs f)) ((at_ ((buildT vs.length fs).ed) e).F)) (at_ ((sumsU vs fs f)) ((at_ ((buildT vs.length fs).ed) e).G)))).Y), .int .i64 ((addV (scaleV (addV (at_ vs ((at_ ((buildT vs.length fs).ed) e).A)) (at_ vs ((at_ ((buildT vs.length fs).ed) e).B))) 840) (addV (at_ ((sumsU vs fs f)) ((at_ ((buildT vs.length fs).ed) e).F)) (at_ ((sumsU vs fs f)) ((at_ ((buildT vs.length fs).ed) e).G)))).Z)]) rfl ((hf 17 rfl).trans rfl) ty_42 (hM _ _ h218) rfl ⟨rfl, hM⟩⟩) ?_
           refine QE.op rfl rfl (.inl ⟨rfl, fun f' H' hf hM => AOp.move (.int .i64 3360) rfl ((hf 18 rfl).trans rfl) ⟨rfl, hM⟩⟩) ?_
           refine QE.op rfl rfl (.inl ⟨rfl, fun f' H' hf hM => AOp.pcall («as» := [.agg [.int .i64 ((at_ ((levelR vs fs cr).1.Verts) ((vs.length : Int) + e)).X), .int .i64 ((at_ ((levelR vs fs cr).1.Verts) ((vs.length : Int) + e)).Y), .int .i64 ((at_ ((levelR vs fs cr).1.Verts) ((vs.length : Int) + e)).Z)], .agg [.int .i64 ((addV (scaleV (addV (at_ vs ((at_ ((buildT vs.length fs).ed) e).A)) (at_ vs ((at_ ((buildT vs.length fs).ed) e).B))) 840) (addV (at_ ((sumsU vs fs f)) ((at_ ((buildT vs.length fs).ed) e).F)) (at_ ((sumsU vs fs f)) ((at_ ((buildT vs.length fs).ed) e).G)))).X), .int .i64 ((addV (scaleV (addV (at_ vs ((at_ ((buildT vs.length fs).ed) e).A)) (at_ vs ((at_ ((buildT vs.length fs).ed) e).B))) 840) (addV (at_ ((sumsU vs fs f)) ((at_ ((buildT vs.length fs).ed) e).F)) (at_ ((sumsU vs fs f)) ((at_ ((buildT vs.length fs).ed) e).G)))).Y), .int .i64 ((addV (scaleV (addV (at_ vs ((at_ ((buildT vs.length fs).ed) e).A)) (at_ vs ((at_ ((buildT vs.length fs).ed) e).B))) 840) (addV (at_ ((sumsU vs fs f)) ((at_ ((buildT vs.length fs).ed) e).F)) (at_ ((sumsU vs fs f)) ((at_ ((buildT vs.length fs).ed) e).G)))).Z)], .int .i64 3360]) rfl rfl (lapp (lcons ((hf 184 rfl).trans rfl) (lcons ((hf 185 rfl).trans rfl) (lcons ((hf 186 rfl).trans rfl) rfl))) rfl) tf_20 (c_nearV _ _ _ hn37 hx37 hA37) fun H2 m2 => ⟨rfl, hM.trans m2⟩⟩) ?_
           refine QE.op rfl rfl (.inl ⟨rfl, fun f' H' hf hM => AOp.not rfl ((hf 187 rfl).trans rfl) ⟨rfl, hM⟩⟩) ?_
           refine QE.done fun H222 m223 => ?_
           have h224 := m223 _ _ h218
           have m225 := m221.trans m223
           refine AOps.nil ?_
           change AWP _ _ _ _ _ _
           refine AWP.condF rfl rfl ?_
           refine AWP.skip ?_
           change AWP _ _ _ _ _ _
           refine AWP.region (l := [0, 1, 2]) rfl ?_
           refine AOps.cons rfl rfl (AOp.move (.int .i64 e) rfl s175 ?_)
           refine AOps.cons rfl rfl (AOp.bin (.int .i64 (e + 1)) rfl rfl rfl (iadd (by omega)) ?_)
           refine AOps.cons rfl rfl (AOp.assign (.int .i64 (e + 1)) rfl rfl ?_)
           refine AOps.nil ?_
           exact ⟨_, by omega, e + 1, rfl, rfl, s176, s177, s178, s179, s180, m225, by omega, by omega⟩
          ·
           refine AWP.condF rfl (decide_eq_false b212) ?_
           refine AWP.skip ?_
           change AWP _ _ _ _ _ _
           refine AWP.seq ?_
           have hn37 := N.edge1 (k := (vs.length : Int) + e) he0 (by omega) rfl b212
           have hA37 := inV_le (b := 2305843009213693952) hi3 (by decide)
           have hx37 := near_x (e := 2305843009213693952) hn37 hi3 (by omega) (by decide)
           skip
           refine AWP.region_quiet mixed (by kernel_rfl) 13 [] rfl (by kernel_rfl) (Mono H207) (Mono.refl _) ?_
           refine QE.op rfl rfl (.inl ⟨rfl, fun f' H' hf hM => AOp.fieldAddrF rfl ((hf 4 rfl).trans s177) fl_26_0 ⟨rfl, hM⟩⟩) ?_
           refine QE.op rfl rfl (.inl ⟨rfl, fun f' H' hf hM => AOp.loadF (.sl ((levelR vs fs cr).1.Verts).length (((levelR vs fs cr).1.Verts).flatMap eV)) rfl ((hf 176 rfl).trans rfl) ty_22 rfl ⟨rfl, hM⟩⟩) ?_
           refine QE.op rfl rfl (.inl ⟨rfl, fun f' H' hf hM => AOp.fieldAddrF rfl ((hf 1 rfl).trans s176) fl_26_0 ⟨rfl, hM⟩⟩) ?_
           refine QE.op rfl rfl (.inl ⟨rfl, fun f' H' hf hM => AOp.loadF (.sl vs.length (vs.flatMap eV)) rfl ((hf 178 rfl).trans rfl) ty_22 rfl ⟨rfl, hM⟩⟩) ?_
           refine QE.op rfl rfl (.inl ⟨rfl, fun f' H' hf hM => AOp.len (m := vs.length) rfl ((hf 179 rfl).trans rfl) (.inr (.inl ⟨_, rfl⟩)) u_22 ⟨rfl, hM⟩⟩) ?_
           refine QE.op rfl rfl (.inl ⟨rfl, fun f' H' hf hM => AOp.move (.int .i64 e) rfl ((hf 15 rfl).trans s175) ⟨rfl, hM⟩⟩) ?_
           refine QE.op rfl rfl (.inl ⟨rfl, fun f' H' hf hM => AOp.bin (.int .i64 ((vs.length : Int) + e)) rfl ((hf 180 rfl).trans rfl) ((hf 181 rfl).trans rfl) (iadd (by omega)) ⟨rfl, hM⟩⟩) ?_
           refine QE.op rfl rfl (.inl ⟨rfl, fun f' H' hf hM => AOp.indexAddrS rfl ((hf 177 rfl).trans rfl) ((hf 182 rfl).trans rfl) sl_22 (by omega) (by omega) ⟨rfl, hM⟩⟩) ?_
           refine QE.op rfl rfl (.inl ⟨rfl, fun f' H' hf hM => AOp.loadF (.agg [.int .i64 ((at_ ((levelR vs fs cr).1.Verts) ((vs.length : Int) + e)).X), .int .i64 ((at_ ((levelR vs fs cr).1.Verts) ((vs.length : Int) + e)).Y), .int .i64 ((at_ ((levelR vs fs cr).1.Verts) ((vs.length : Int) + e)).Z)]) rfl ((hf 183 rfl).trans rfl) ty_42 (ldM eV_len (by omega) (by omega)) ⟨rfl, hM⟩⟩) ?_
           refine QE.op rfl rfl (.inl ⟨rfl, fun f' H' hf hM => AOp.load (.agg [.int .i64 ((scaleV (addV (at_ vs ((at_ ((buildT vs.length fs).ed) e).A)) (at_ vs ((at_ ((buildT vs.length fs).ed) e).B))) 840).X), .int .i64 ((scaleV (addV (at_ vs ((at_ ((buildT vs.length fs).ed) e).A)) (at_ vs ((at_ ((buildT vs.length fs).ed) e).B))) 840).Y), .int .i64 ((scaleV (addV (at_ vs ((at_ ((buildT vs.length fs).ed) e).A)) (at_ vs ((at_ ((buildT vs.length fs).ed) e).B))) 840).Z)]) rfl ((hf 17 rfl).trans rfl) ty_42 (hM _ _ h208) rfl ⟨rfl, hM⟩⟩) ?_
           refine QE.op rfl rfl (.inl ⟨rfl, fun f' H' hf hM => AOp.move (.int .i64 1680) rfl ((hf 18 rfl).trans rfl) ⟨rfl, hM⟩⟩) ?_
           refine QE.op rfl rfl (.inl ⟨rfl, fun f' H' hf hM => AOp.pcall («as» := [.agg [.int .i64 ((at_ ((levelR vs fs cr).1.Verts) ((vs.length : Int) + e)).X), .int .i64 ((at_ ((levelR vs fs cr).1.Verts) ((vs.length : Int) + e)).Y), .int .i64 ((at_ ((levelR vs fs cr).1.Verts) ((vs.length : Int) + e)).Z)], .agg [.int .i64 ((scaleV (addV (at_ vs ((at_ ((buildT vs.length fs).ed) e).A)) (at_ vs ((at_ ((buildT vs.length fs).ed) e).B))) 840).X), .int .i64 ((scaleV (addV (at_ vs ((at_ ((buildT vs.length fs).ed) e).A)) (at_ vs ((at_ ((buildT vs.length fs).ed) e).B))) 840).Y), .int .i64 ((scaleV (addV (at_ vs ((at_ ((buildT vs.length fs).ed) e).A)) (at_ vs ((at_ ((buildT vs.length fs).ed) e).B))) 840).Z)], .int .i64 1680]) rfl rfl (lapp (lcons ((hf 184 rfl).trans rfl) (lcons ((hf 185 rfl).trans rfl) (lcons ((hf 186 rfl).trans rfl) rfl))) rfl) tf_20 (c_nearV _ _ _ hn37 hx37 hA37) fun H2 m2 => ⟨rfl, hM.trans m2⟩⟩) ?_
           refine QE.op rfl rfl (.inl ⟨rfl, fun f' H' hf hM => AOp.not rfl ((hf 187 rfl).trans rfl) ⟨rfl, hM⟩⟩) ?_
           refine QE.done fun H226 m227 => ?_
           have h228 := m227 _ _ h208
           have m229 := m211.trans m227
           refine AOps.nil ?_
           change AWP _ _ _ _ _ _
           refine AWP.condF rfl rfl ?_
           refine AWP.skip ?_
           change AWP _ _ _ _ _ _
           refine AWP.region (l := [0, 1, 2]) rfl ?_
           refine AOps.cons rfl rfl (AOp.move (.int .i64 e) rfl s175 ?_)
           refine AOps.cons rfl rfl (AOp.bin (.int .i64 (e + 1)) rfl rfl rfl (iadd (by omega)) ?_)
           refine AOps.cons rfl rfl (AOp.assign (.int .i64 (e + 1)) rfl rfl ?_)
           refine AOps.nil ?_
           exact ⟨_, by omega, e + 1, rfl, rfl, s176, s177, s178, s179, s180, m229, by omega, by omega⟩
         ·
          refine AWP.condF rfl (decide_eq_false b182) ?_
          refine AWP.exit ?_
          change AWP _ _ _ _ _ _
          refine AWP.seq ?_
          refine AWP.seq ?_
          refine AWP.region (l := [0]) rfl ?_
          refine AOps.cons rfl rfl (AOp.assign (.int .i64 0) rfl rfl ?_)
          refine AOps.nil ?_
          change AWP _ _ _ _ _ _
          refine AWP.block ?_
          refine AWP.loop (fun q230 fq Hq => ∃ (v : Int), q230 = (((vs.length : Int) : Int) - v).toNat ∧ fq 19 = .int .i64 v ∧ fq 1 = .fptr [.sl vs.length (vs.flatMap eV), .sl fs.length (fs.map eF), .sl cr.length (cr.flatMap eCr)] 0 ∧ fq 4 = .fptr [.sl ((levelR vs fs cr).1.Verts).length (((levelR vs fs cr).1.Verts).flatMap eV), .sl ((levelR vs fs cr).1.Faces).length (((levelR vs fs cr).1.Faces).map eF), .sl ((levelR vs fs cr).1.Creases).length (((levelR vs fs cr).1.Creases).flatMap eCr)] 0 ∧ fq 6 = .fptr [.sl ((buildT vs.length fs).ed).length (((buildT vs.length fs).ed).flatMap eE), .sl ((buildT vs.length fs).fan).length (((buildT vs.length fs).fan).map eF), .sl ((buildT vs.length fs).rnd).length (((buildT vs.length fs).rnd).map eBo)] 0 ∧ fq 8 = .sl ((sharpR (buildT vs.length fs) cr).1).length (((sharpR (buildT vs.length fs) cr).1).map eI) ∧ fq 10 = .sl ((sumsU vs fs f)).length (((sumsU vs fs f)).flatMap eV) ∧ Mono H0 Hq ∧ (0 ≤ v) ∧ (v ≤ (vs.length : Int))) (k := (((vs.length : Int) : Int) - 0).toNat) ?_ ?_
          ·
           exact ⟨0, rfl, rfl, s176, s177, s178, s179, s180, m181, by omega, by omega⟩
          ·
           rintro _ f232 H231 ⟨v, rfl, s233, s234, s235, s236, s237, s238, m239, hv0, hv1⟩
           refine AWP.seq ?_
           refine AWP.seq ?_
           refine AWP.region (l := [0, 1, 2, 3, 4]) rfl ?_
           refine AOps.cons rfl rfl (AOp.move (.int .i64 v) rfl s233 ?_)
           refine AOps.cons rfl rfl (AOp.fieldAddrF rfl s234 fl_26_0 ?_)
           refine AOps.cons rfl rfl (AOp.loadF (.sl vs.length (vs.flatMap eV)) rfl rfl ty_22 rfl ?_)
           refine AOps.cons rfl rfl (AOp.len (m := vs.length) rfl rfl (.inr (.inl ⟨_, rfl⟩)) u_22 ?_)
           refine AOps.cons rfl rfl (AOp.bin (.bool (decide (v < (vs.length : Int)))) rfl rfl rfl rfl ?_)
           refine AOps.nil ?_
           change AWP _ _ _ _ _ _
           by_cases b240 : v < (vs.length : Int)
           ·
            refine AWP.condT rfl (decide_eq_true b240) ?_
            refine AWP.skip ?_
            change AWP _ _ _ _ _ _
            refine AWP.seq ?_
            refine AWP.block ?_
            refine AWP.seq ?_
            have hfan := N.tf.fan v hv0 (by omega)
            have hvv := N.v _ (at_mem (l := vs) hv0 (by omega))
            refine AWP.region (l := [0, 1, 2, 3, 4, 5, 6]) rfl ?_
            refine AOps.cons rfl rfl (AOp.fieldAddrF rfl s236 fl_35_1 ?_)
            refine AOps.cons rfl rfl (AOp.loadF (.sl ((buildT vs.length fs).fan).length (((buildT vs.length fs).fan).map eF)) rfl rfl ty_23 rfl ?_)
            refine AOps.cons rfl rfl (AOp.move (.int .i64 v) rfl s233 ?_)
            refine AOps.cons rfl rfl (AOp.indexAddrS rfl rfl rfl sl_23 (by omega) (by omega) ?_)
            refine AOps.cons rfl rfl (AOp.loadF (.sl (at_ ((buildT vs.length fs).fan) v).length ((at_ ((buildT vs.length fs).fan) v).map eI)) rfl rfl ty_38 (ld1 (by omega) (by omega)) ?_)
            refine AOps.cons rfl rfl (AOp.len (m := (at_ ((buildT vs.length fs).fan) v).length) rfl rfl (.inr (.inl ⟨_, rfl⟩)) u_38 ?_)
            refine AOps.cons rfl rfl (AOp.assign (.int .i64 (((at_ ((buildT vs.length fs).fan) v).length) : Int)) rfl rfl ?_)
            refine AOps.nil ?_
            change AWP _ _ _ _ _ _
            refine AWP.seq ?_
            refine AWP.region (l := [0]) rfl ?_
            refine AOps.cons rfl rfl (AOp.assign (.int .i64 0) rfl rfl ?_)
            refine AOps.nil ?_
            change AWP _ _ _ _ _ _
            refine AWP.seq ?_
            have hq1 := mul_rng (x := 840 * ((at_ (buildT vs.length fs).fan v).length : Int)) (k := ((at_ (buildT vs.length fs).fan v).length : Int) - 2) (a := 840000) (c := 1000) (by omega) (by omega)
            have hS44 := inV_scale (c := 840000 * 1000) hvv hq1
            have hS44b := inV_le (b := 2305843009213693952) hS44 (by decide)
            refine AWP.region (l := [0, 1, 2, 3, 4, 5, 6, 7, 8, 9, 10, 11, 12]) rfl ?_
            refine AOps.cons rfl rfl (AOp.fieldAddrF rfl s234 fl_26_0 ?_)
            refine AOps.cons rfl rfl (AOp.loadF (.sl vs.length (vs.flatMap eV)) rfl rfl ty_22 rfl ?_)
            refine AOps.cons rfl rfl (AOp.move (.int .i64 v) rfl s233 ?_)
            refine AOps.cons rfl rfl (AOp.indexAddrS rfl rfl rfl sl_22 (by omega) (by omega) ?_)
            refine AOps.cons rfl rfl (AOp.loadF (.agg [.int .i64 ((at_ vs v).X), .int .i64 ((at_ vs v).Y), .int .i64 ((at_ vs v).Z)]) rfl rfl ty_42 (ldM eV_len (by omega) (by omega)) ?_)
            refine AOps.cons rfl rfl (AOp.move (.int .i64 (((at_ ((buildT vs.length fs).fan) v).length) : Int)) rfl rfl ?_)
            refine AOps.cons rfl rfl (AOp.bin (.int .i64 (840 * (((at_ ((buildT vs.length fs).fan) v).length) : Int))) rfl rfl rfl (imul (by omega)) ?_)
            refine AOps.cons rfl rfl (AOp.move (.int .i64 (((at_ ((buildT vs.length fs).fan) v).length) : Int)) rfl rfl ?_)
            refine AOps.cons rfl rfl (AOp.bin (.int .i64 ((((at_ ((buildT vs.length fs).fan) v).length) : Int) - 2)) rfl rfl rfl (isub (by omega)) ?_)
            refine AOps.cons rfl rfl (AOp.bin (.int .i64 ((840 * (((at_ ((buildT vs.length fs).fan) v).length) : Int)) * ((((at_ ((buildT vs.length fs).fan) v).length) : Int) - 2))) rfl rfl rfl (imul (by omega)) ?_)
            refine AOps.cons rfl rfl (AOp.pcall («as» := [.agg [.int .i64 ((at_ vs v).X), .int .i64 ((at_ vs v).Y), .int .i64 ((at_ vs v).Z)], .int .i64 ((840 * (((at_ ((buildT vs.length fs).fan) v).length) : Int)) * ((((at_ ((buildT vs.length fs).fan) v).length) : Int) - 2))]) rfl rfl (rfl) tf_19 (c_rScale (at_ vs v) ((840 * (((at_ ((buildT vs.length fs).fan) v).length) : Int)) * ((((at_ ((buildT vs.length fs).fan) v).length) : Int) - 2)) (by first | assumption | exact hS25)) ?_)
            intro H241 m242
            have m243 := m239.trans m242
            refine AOps.cons rfl rfl (AOp.alloc rfl tz_42 ?_)
            intro i244 H245 n246 h247 k248
            have z249 := Mono.free m243 n246
            have m250 := Mono.new m243 n246 k248
            refine AOps.cons rfl rfl (AOp.store' (cells' := [.int .i64 ((scaleV (at_ vs v) ((840 * (((at_ ((buildT vs.length fs).fan) v).length) : Int)) * ((((at_ ((buildT vs.length fs).fan) v).length) : Int) - 2))).X), .int .i64 ((scaleV (at_ vs v) ((840 * (((at_ ((buildT vs.length fs).fan) v).length) : Int)) * ((((at_ ((buildT vs.length fs).fan) v).length) : Int) - 2))).Y), .int .i64 ((scaleV (at_ vs v) ((840 * (((at_ ((buildT vs.length fs).fan) v).length) : Int)) * ((((at_ ((buildT vs.length fs).fan) v).length) : Int) - 2))).Z)]) (.agg [.int .i64 ((scaleV (at_ vs v) ((840 * (((at_ ((buildT vs.length fs).fan) v).length) : Int)) * ((((at_ ((buildT vs.length fs).fan) v).length) : Int) - 2))).X), .int .i64 ((scaleV (at_ vs v) ((840 * (((at_ ((buildT vs.length fs).fan) v).length) : Int)) * ((((at_ ((buildT vs.length fs).fan) v).length) : Int) - 2))).Y), .int .i64 ((scaleV (at_ vs v) ((840 * (((at_ ((buildT vs.length fs).fan) v).length) : Int)) * ((((at_ ((buildT vs.length fs).fan) v).length) : Int) - 2))).Z)]) rfl rfl ts_42 h247 rfl rfl rfl rfl ?_)
            intro H251 h252 k253
            have m255 := Mono.set m250 z249 k253
            refine AOps.nil ?_
            change AWP _ _ _ _ _ _
            refine AWP.seq ?_
            refine AWP.seq ?_
            refine AWP.region (l := [0]) rfl ?_
            refine AOps.cons rfl rfl (AOp.assign (.int .i64 0) rfl rfl ?_)
            refine AOps.nil ?_
            change AWP _ _ _ _ _ _
            refine AWP.block ?_
            refine AWP.loop (fun q256 fq Hq => ∃ (m : Int), q256 = (((((buildT vs.length fs).ed).length : Int) : Int) - m).toNat ∧ fq 23 = .int .i64 m ∧ fq 21 = .int .i64 ((hardF (sharpR (buildT vs.length fs) cr).1 (adjU (buildT vs.length fs).ed m v)).length : Int) ∧ fq 19 = .int .i64 v ∧ fq 1 = .fptr [.sl vs.length (vs.flatMap eV), .sl fs.length (fs.map eF), .sl cr.length (cr.flatMap eCr)] 0 ∧ fq 4 = .fptr [.sl ((levelR vs fs cr).1.Verts).length (((levelR vs fs cr).1.Verts).flatMap eV), .sl ((levelR vs fs cr).1.Faces).length (((levelR vs fs cr).1.Faces).map eF), .sl ((levelR vs fs cr).1.Creases).length (((levelR vs fs cr).1.Creases).flatMap eCr)] 0 ∧ fq 6 = .fptr [.sl ((buildT vs.length fs).ed).length (((buildT vs.length fs).ed).flatMap eE), .sl ((buildT vs.length fs).fan).length (((buildT vs.length fs).fan).map eF), .sl ((buildT vs.length fs).rnd).length (((buildT vs.length fs).rnd).map eBo)] 0 ∧ fq 8 = .sl ((sharpR (buildT vs.length fs) cr).1).length (((sharpR (buildT vs.length fs) cr).1).map eI) ∧ fq 10 = .sl ((sumsU vs fs f)).length (((sumsU vs fs f)).flatMap eV) ∧ fq 20 = .int .i64 (((at_ ((buildT vs.length fs).fan) v).length) : Int) ∧ fq 22 = .ptr i244 0 0 ∧ Hq i244 = some (.row 0 ([.int .i64 ((vertA vs (buildT vs.length fs).ed ((at_ (buildT vs.length fs).fan v).length : Int) v m).X), .int .i64 ((vertA vs (buildT vs.length fs).ed ((at_ (buildT vs.length fs).fan v).length : Int) v m).Y), .int .i64 ((vertA vs (buildT vs.length fs).ed ((at_ (buildT vs.length fs).fan v).length : Int) v m).Z)])) ∧ Mono H0 Hq ∧ (0 ≤ m) ∧ (m ≤ (((buildT vs.length fs).ed).length : Int)) ∧ (inV (55050240000000 + 55050240 * m) (vertA vs (buildT vs.length fs).ed ((at_ (buildT vs.length fs).fan v).length : Int) v m))) (k := (((((buildT vs.length fs).ed).length : Int) : Int) - 0).toNat) ?_ ?_
            ·
             exact ⟨0, rfl, rfl, (congrArg (AV.int .i64) (show (0 : Int) = ((hardF (sharpR (buildT vs.length fs) cr).1 (adjU (buildT vs.length fs).ed 0 v)).length : Int) from by rfl)), s233, s234, s235, s236, s237, s238, rfl, rfl, (h252.trans (congrArg (fun c => some (AB.row 0 c)) (show ([.int .i64 ((scaleV (at_ vs v) ((840 * (((at_ ((buildT vs.length fs).fan) v).length) : Int)) * ((((at_ ((buildT vs.length fs).fan) v).length) : Int) - 2))).X), .int .i64 ((scaleV (at_ vs v) ((840 * (((at_ ((buildT vs.length fs).fan) v).length) : Int)) * ((((at_ ((buildT vs.length fs).fan) v).length) : Int) - 2))).Y), .int .i64 ((scaleV (at_ vs v) ((840 * (((at_ ((buildT vs.length fs).fan) v).length) : Int)) * ((((at_ ((buildT vs.length fs).fan) v).length) : Int) - 2))).Z)] : List AV) = [.int .i64 ((vertA vs (buildT vs.length fs).ed ((at_ (buildT vs.length fs).fan v).length : Int) v 0).X), .int .i64 ((vertA vs (buildT vs.length fs).ed ((at_ (buildT vs.length fs).fan v).length : Int) v 0).Y), .int .i64 ((vertA vs (buildT vs.length fs).ed ((at_ (buildT vs.length fs).fan v).length : Int) v 0).Z)] from by first | (rw [addV_assoc, ← sum_step hj0 (by omega), addL_1]) | exact (addV_zero _).symm | (rw [addV_zero]) | (simp only [Int.toNat_zero, List.take_zero, List.map_nil, sumL_nil, addV_zero]) | rfl | exact vertA_0 | (rw [vertA_0])))), m255, by omega, by omega, by rw [← vertA_0]; exact inV_le hS44 (by omega)⟩
            ·
             rintro _ f258 H257 ⟨m, rfl, s259, s260, s261, s262, s263, s264, s265, s266, s267, s268, h269, m270, hm0, hm1, hin2⟩
             refine AWP.seq ?_
             refine AWP.seq ?_
             refine AWP.region (l := [0, 1, 2, 3, 4]) rfl ?_
             refine AOps.cons rfl rfl (AOp.move (.int .i64 m) rfl s259 ?_)
             refine AOps.cons rfl rfl (AOp.fieldAddrF rfl s264 fl_35_0 ?_)
             refine AOps.cons rfl rfl (AOp.loadF (.sl ((buildT vs.length fs).ed).length (((buildT vs.length fs).ed).flatMap eE)) rfl rfl ty_32 rfl ?_)
             refine AOps.cons rfl rfl (AOp.len (m := ((buildT vs.length fs).ed).length) rfl rfl (.inr (.inl ⟨_, rfl⟩)) u_32 ?_)
             refine AOps.cons rfl rfl (AOp.bin (.bool (decide (m < ((((buildT vs.length fs).ed).length) : Int)))) rfl rfl rfl rfl ?_)
             refine AOps.nil ?_
             change AWP _ _ _ _ _ _
             by_cases b271 : m < ((((buildT vs.length fs).ed).length) : Int)
             ·
              refine AWP.condT rfl (decide_eq_true b271) ?_
              refine AWP.skip ?_
              change AWP _ _ _ _ _ _
              refine AWP.seq ?_
              refine AWP.block ?_
              refine AWP.seq ?_
              have hne := N.ne _ (at_mem (l := (buildT vs.length fs).ed) hm0 (by omega))
              have hab := N.tf.ab _ (at_mem (l := (buildT vs.length fs).ed) hm0 (by omega))
              have hle9 := hardF_le (sharpR (buildT vs.length fs) cr).1 (adjU (buildT vs.length fs).ed m v)
              have hle8 := adj_len (buildT vs.length fs).ed m v
              refine AWP.region (l := [0, 1, 2, 3, 4, 5, 6, 7, 8, 9, 10, 11, 12, 13, 14, 15, 16, 17]) rfl ?_
              refine AOps.cons rfl rfl (AOp.fieldAddrF rfl s264 fl_35_0 ?_)
              refine AOps.cons rfl rfl (AOp.loadF (.sl ((buildT vs.length fs).ed).length (((buildT vs.length fs).ed).flatMap eE)) rfl rfl ty_32 rfl ?_)
              refine AOps.cons rfl rfl (AOp.move (.int .i64 m) rfl s259 ?_)
              refine AOps.cons rfl rfl (AOp.indexAddrS rfl rfl rfl sl_32 (by omega) (by omega) ?_)
              refine AOps.cons rfl rfl (AOp.fieldAddrF rfl rfl fl_47_0 ?_)
              refine AOps.cons rfl rfl (AOp.loadF (.int .i64 ((at_ ((buildT vs.length fs).ed) m).A)) rfl rfl ty_3 (ldF eE_len (by omega) (by omega) rfl (by decide)) ?_)
              refine AOps.cons rfl rfl (AOp.move (.int .i64 v) rfl s261 ?_)
              refine AOps.cons rfl rfl (AOp.bin (.bool (decide ((at_ ((buildT vs.length fs).ed) m).A = v))) rfl rfl rfl ieq ?_)
              refine AOps.cons rfl rfl (AOp.move (.bool (decide ((at_ ((buildT vs.length fs).ed) m).A = v))) rfl rfl ?_)
              by_cases b272 : (at_ ((buildT vs.length fs).ed) m).A = v
              ·
               refine AOps.no rfl rfl rfl rfl rfl rfl rfl (ble_of (decide_eq_true b272) (by decide)) ?_
               refine AOps.no rfl rfl rfl rfl rfl rfl rfl (ble_of (decide_eq_true b272) (by decide)) ?_
               refine AOps.no rfl rfl rfl rfl rfl rfl rfl (ble_of (decide_eq_true b272) (by decide)) ?_
               refine AOps.no rfl rfl rfl rfl rfl rfl rfl (ble_of (decide_eq_true b272) (by decide)) ?_
               refine AOps.no rfl rfl rfl rfl rfl rfl rfl (ble_of (decide_eq_true b272) (by decide)) ?_
               refine AOps.no rfl rfl rfl rfl rfl rfl rfl (ble_of (decide_eq_true b272) (by decide)) ?_
               refine AOps.no rfl rfl rfl rfl rfl rfl rfl (ble_of (decide_eq_true b272) (by decide)) ?_
               refine AOps.no rfl rfl rfl rfl rfl rfl rfl (ble_of (decide_eq_true b272) (by decide)) ?_
               refine AOps.cons rfl rfl (AOp.pickT (.bool true) rfl rfl (decide_eq_true b272) rfl ?_)
               refine AOps.nil ?_
               change AWP _ _ _ _ _ _
               refine AWP.condT rfl rfl ?_
               refine AWP.seq ?_
               have hov : inV 65536 (othV vs (at_ (buildT vs.length fs).ed m) v) := N.v _ (at_mem (l := vs) (by have := (show (at_ (buildT vs.length fs).ed m).A = v ∨ (at_ (buildT vs.length fs).ed m).B = v from (.inl b272)); omega) (by have := (show (at_ (buildT vs.length fs).ed m).A = v ∨ (at_ (buildT vs.length fs).ed m).B = v from (.inl b272)); omega))
               have hsc := inV_scale (c := 840) (k := 840) hov (by decide)
               have hscb : inV 2305843009213693952 (scaleV (at_ vs ((at_ (buildT vs.length fs).ed m).A + (at_ (buildT vs.length fs).ed m).B - v)) 840) := inV_le hsc (by decide)
               have hA49 := inV_le (b := 2305843009213693952) hin2 (by omega)
               refine AWP.region_quiet mixed (by kernel_rfl) 22 [22] rfl (by kernel_rfl) (Mono H257) (Mono.refl _) ?_
               refine QE.op rfl rfl (.inl ⟨rfl, fun f' H' hf hM => AOp.load (.agg [.int .i64 ((vertA vs (buildT vs.length fs).ed ((at_ (buildT vs.length fs).fan v).length : Int) v m).X), .int .i64 ((vertA vs (buildT vs.length fs).ed ((at_ (buildT vs.length fs).fan v).length : Int) v m).Y), .int .i64 ((vertA vs (buildT vs.length fs).ed ((at_ (buildT vs.length fs).fan v).length : Int) v m).Z)]) rfl ((hf 22 rfl).trans s268) ty_42 (hM _ _ h269) rfl ⟨rfl, hM⟩⟩) ?_
               refine QE.op rfl rfl (.inl ⟨rfl, fun f' H' hf hM => AOp.fieldAddrF rfl ((hf 1 rfl).trans s262) fl_26_0 ⟨rfl, hM⟩⟩) ?_
               refine QE.op rfl rfl (.inl ⟨rfl, fun f' H' hf hM => AOp.loadF (.sl vs.length (vs.flatMap eV)) rfl ((hf 239 rfl).trans rfl) ty_22 rfl ⟨rfl, hM⟩⟩) ?_
               refine QE.op rfl rfl (.inl ⟨rfl, fun f' H' hf hM => AOp.fieldAddrF rfl ((hf 6 rfl).trans s264) fl_35_0 ⟨rfl, hM⟩⟩) ?_
               refine QE.op rfl rfl (.inl ⟨rfl, fun f' H' hf hM => AOp.loadF (.sl ((buildT vs.length fs).ed).length (((buildT vs.length fs).ed).flatMap eE)) rfl ((hf 241 rfl).trans rfl) ty_32 rfl ⟨rfl, hM⟩⟩) ?_
               refine QE.op rfl rfl (.inl ⟨rfl, fun f' H' hf hM => AOp.move (.int .i64 m) rfl ((hf 23 rfl).trans s259) ⟨rfl, hM⟩⟩) ?_
               refine QE.op rfl rfl (.inl ⟨rfl, fun f' H' hf hM => AOp.indexAddrS rfl ((hf 242 rfl).trans rfl) ((hf 243 rfl).trans rfl) sl_32 (by omega) (by omega) ⟨rfl, hM⟩⟩) ?_
               refine QE.op rfl rfl (.inl ⟨rfl, fun f' H' hf hM => AOp.fieldAddrF rfl ((hf 244 rfl).trans rfl) fl_47_0 ⟨rfl, hM⟩⟩) ?_
               refine QE.op rfl rfl (.inl ⟨rfl, fun f' H' hf hM => AOp.loadF (.int .i64 ((at_ ((buildT vs.length fs).ed) m).A)) rfl ((hf 245 rfl).trans rfl) ty_3 (ldF eE_len (by omega) (by omega) rfl (by decide)) ⟨rfl, hM⟩⟩) ?_
               refine QE.op rfl rfl (.inl ⟨rfl, fun f' H' hf hM => AOp.fieldAddrF rfl ((hf 6 rfl).trans s264) fl_35_0 ⟨rfl, hM⟩⟩) ?_
               refine QE.op rfl rfl (.inl ⟨rfl, fun f' H' hf hM => AOp.loadF (.sl ((buildT vs.length fs).ed).length (((buildT vs.length fs).ed).flatMap eE)) rfl ((hf 247 rfl).trans rfl) ty_32 rfl ⟨rfl, hM⟩⟩) ?_
               refine QE.op rfl rfl (.inl ⟨rfl, fun f' H' hf hM => AOp.move (.int .i64 m) rfl ((hf 23 rfl).trans s259) ⟨rfl, hM⟩⟩) ?_
               refine QE.op rfl rfl (.inl ⟨rfl, fun f' H' hf hM => AOp.indexAddrS rfl ((hf 248 rfl).trans rfl) ((hf 249 rfl).trans rfl) sl_32 (by omega) (by omega) ⟨rfl, hM⟩⟩) ?_
               refine QE.op rfl rfl (.inl ⟨rfl, fun f' H' hf hM => AOp.fieldAddrF rfl ((hf 250 rfl).trans rfl) fl_47_1 ⟨rfl, hM⟩⟩) ?_
               refine QE.op rfl rfl (.inl ⟨rfl, fun f' H' hf hM => AOp.loadF (.int .i64 ((at_ ((buildT vs.length fs).ed) m).B)) rfl ((hf 251 rfl).trans rfl) ty_3 (ldF eE_len (by omega) (by omega) rfl (by decide)) ⟨rfl, hM⟩⟩) ?_
               refine QE.op rfl rfl (.inl ⟨rfl, fun f' H' hf hM => AOp.bin (.int .i64 ((at_ ((buildT vs.length fs).ed) m).A + ((at_ ((buildT vs.length fs).ed) m).B))) rfl ((hf 246 rfl).trans rfl) ((hf 252 rfl).trans rfl) (iadd (by omega)) ⟨rfl, hM⟩⟩) ?_
               refine QE.op rfl rfl (.inl ⟨rfl, fun f' H' hf hM => AOp.move (.int .i64 v) rfl ((hf 19 rfl).trans s261) ⟨rfl, hM⟩⟩) ?_
               refine QE.op rfl rfl (.inl ⟨rfl, fun f' H' hf hM => AOp.bin (.int .i64 ((at_ ((buildT vs.length fs).ed) m).A + ((at_ ((buildT vs.length fs).ed) m).B) - v)) rfl ((hf 253 rfl).trans rfl) ((hf 254 rfl).trans rfl) (isub (by omega)) ⟨rfl, hM⟩⟩) ?_
               refine QE.op rfl rfl (.inl ⟨rfl, fun f' H' hf hM => AOp.indexAddrS rfl ((hf 240 rfl).trans rfl) ((hf 255 rfl).trans rfl) sl_22 (by omega) (by omega) ⟨rfl, hM⟩⟩) ?_
               refine QE.op rfl rfl (.inl ⟨rfl, fun f' H' hf hM => AOp.loadF (.agg [.int .i64 ((at_ vs ((at_ ((buildT vs.length fs).ed) m).A + ((at_ ((buildT vs.length fs).ed) m).B) - v)).X), .int .i64 ((at_ vs ((at_ ((buildT vs.length fs).ed) m).A + ((at_ ((buildT vs.length fs).ed) m).B) - v)).Y), .int .i64 ((at_ vs ((at_ ((buildT vs.length fs).ed) m).A + ((at_ ((buildT vs.length fs).ed) m).B) - v)).Z)]) rfl ((hf 256 rfl).trans rfl) ty_42 (ldM eV_len (by omega) (by omega)) ⟨rfl, hM⟩⟩) ?_
               refine QE.op rfl rfl (.inl ⟨rfl, fun f' H' hf hM => AOp.pcall («as» := [.agg [.int .i64 ((at_ vs ((at_ ((buildT vs.length fs).ed) m).A + ((at_ ((buildT vs.length fs).ed) m).B) - v)).X), .int .i64 ((at_ vs ((at_ ((buildT vs.length fs).ed) m).A + ((at_ ((buildT vs.length fs).ed) m).B) - v)).Y), .int .i64 ((at_ vs ((at_ ((buildT vs.length fs).ed) m).A + ((at_ ((buildT vs.length fs).ed) m).B) - v)).Z)], .int .i64 840]) rfl rfl (lapp (lcons ((hf 257 rfl).trans rfl) (lcons rfl rfl)) rfl) tf_19 (c_rScale (at_ vs ((at_ ((buildT vs.length fs).ed) m).A + ((at_ ((buildT vs.length fs).ed) m).B) - v)) 840 (by first | assumption | exact hS25)) fun H2 m2 => ⟨rfl, hM.trans m2⟩⟩) ?_
               refine QE.op rfl rfl (.inl ⟨rfl, fun f' H' hf hM => AOp.pcall («as» := [.agg [.int .i64 ((vertA vs (buildT vs.length fs).ed ((at_ (buildT vs.length fs).fan v).length : Int) v m).X), .int .i64 ((vertA vs (buildT vs.length fs).ed ((at_ (buildT vs.length fs).fan v).length : Int) v m).Y), .int .i64 ((vertA vs (buildT vs.length fs).ed ((at_ (buildT vs.length fs).fan v).length : Int) v m).Z)], .agg [.int .i64 ((scaleV (at_ vs ((at_ ((buildT vs.length fs).ed) m).A + ((at_ ((buildT vs.length fs).ed) m).B) - v)) 840).X), .int .i64 ((scaleV (at_ vs ((at_ ((buildT vs.length fs).ed) m).A + ((at_ ((buildT vs.length fs).ed) m).B) - v)) 840).Y), .int .i64 ((scaleV (at_ vs ((at_ ((buildT vs.length fs).ed) m).A + ((at_ ((buildT vs.length fs).ed) m).B) - v)) 840).Z)]]) rfl rfl (lapp (lcons ((hf 238 rfl).trans rfl) (lcons ((hf 258 rfl).trans rfl) rfl)) rfl) tf_18 (c_rAdd (vertA vs (buildT vs.length fs).ed ((at_ (buildT vs.length fs).fan v).length : Int) v m) (scaleV (at_ vs ((at_ ((buildT vs.length fs).ed) m).A + ((at_ ((buildT vs.length fs).ed) m).B) - v)) 840) (by assumption) (by assumption)) fun H2 m2 => ⟨rfl, hM.trans m2⟩⟩) ?_
               refine QE.done fun H273 m274 => ?_
               have h275 := m274 _ _ h269
               have m276 := m270.trans m274
               refine AOps.cons rfl rfl (AOp.store' (cells' := [.int .i64 ((addV (vertA vs (buildT vs.length fs).ed ((at_ (buildT vs.length fs).fan v).length : Int) v m) (scaleV (at_ vs ((at_ ((buildT vs.length fs).ed) m).A + ((at_ ((buildT vs.length fs).ed) m).B) - v)) 840)).X), .int .i64 ((addV (vertA vs (buildT vs.length fs).ed ((at_ (buildT vs.length fs).fan v).length : Int) v m) (scaleV (at_ vs ((at_ ((buildT vs.length fs).ed) m).A + ((at_ ((buildT vs.length fs).ed) m).B) - v)) 840)).Y), .int .i64 ((addV (vertA vs (buildT vs.length fs).ed ((at_ (buildT vs.length fs).fan v).length : Int) v m) (scaleV (at_ vs ((at_ ((buildT vs.length fs).ed) m).A + ((at_ ((buildT vs.length fs).ed) m).B) - v)) 840)).Z)]) (.agg [.int .i64 ((addV (vertA vs (buildT vs.length fs).ed ((at_ (buildT vs.length fs).fan v).length : Int) v m) (scaleV (at_ vs ((at_ ((buildT vs.length fs).ed) m).A + ((at_ ((buildT vs.length fs).ed) m).B) - v)) 840)).X), .int .i64 ((addV (vertA vs (buildT vs.length fs).ed ((at_ (buildT vs.length fs).fan v).length : Int) v m) (scaleV (at_ vs ((at_ ((buildT vs.length fs).ed) m).A + ((at_ ((buildT vs.length fs).ed) m).B) - v)) 840)).Y), .int .i64 ((addV (vertA vs (buildT vs.length fs).ed ((at_ (buildT vs.length fs).fan v).length : Int) v m) (scaleV (at_ vs ((at_ ((buildT vs.length fs).ed) m).A + ((at_ ((buildT vs.length fs).ed) m).B) - v)) 840)).Z)]) s268 rfl ts_42 h275 rfl rfl rfl rfl ?_)
               intro H277 h278 k279
               have m281 := Mono.set m276 z249 k279
               refine AOps.nil ?_
               change AWP _ _ _ _ _ _
               refine AWP.seq ?_
               refine AWP.region (l := [0, 1, 2, 3, 4]) rfl ?_
               refine AOps.cons rfl rfl (AOp.move (.sl ((sharpR (buildT vs.length fs) cr).1).length (((sharpR (buildT vs.length fs) cr).1).map eI)) rfl s265 ?_)
               refine AOps.cons rfl rfl (AOp.move (.int .i64 m) rfl s259 ?_)
               refine AOps.cons rfl rfl (AOp.indexAddrS rfl rfl rfl sl_38 (by omega) (by omega) ?_)
               refine AOps.cons rfl rfl (AOp.loadF (.int .i64 (at_ ((sharpR (buildT vs.length fs) cr).1) m)) rfl rfl ty_3 (ld1 (by omega) (by omega)) ?_)
               refine AOps.cons rfl rfl (AOp.bin (.bool (!decide (at_ ((sharpR (buildT vs.length fs) cr).1) m = 0))) rfl rfl rfl ine ?_)
               refine AOps.nil ?_
               change AWP _ _ _ _ _ _
               by_cases b282 : at_ ((sharpR (buildT vs.length fs) cr).1) m = 0
               ·
                refine AWP.condF rfl (nb (decide_eq_true b282)) ?_
                refine AWP.skip ?_
                change AWP _ _ _ _ _ _
                refine AWP.region (l := [0, 1, 2]) rfl ?_
                refine AOps.cons rfl rfl (AOp.move (.int .i64 m) rfl s259 ?_)
                refine AOps.cons rfl rfl (AOp.bin (.int .i64 (m + 1)) rfl rfl rfl (iadd (by omega)) ?_)
                refine AOps.cons rfl rfl (AOp.assign (.int .i64 (m + 1)) rfl rfl ?_)
                refine AOps.nil ?_
                exact ⟨_, by omega, m + 1, rfl, rfl, (s260.trans (congrArg (AV.int .i64) (show (((hardF (sharpR (buildT vs.length fs) cr).1 (adjU (buildT vs.length fs).ed m v)).length : Int) : Int) = ((hardF (sharpR (buildT vs.length fs) cr).1 (adjU (buildT vs.length fs).ed (m + 1) v)).length : Int) from by exact hadj_Z hm0 hne (.inl b272) b282))), s261, s262, s263, s264, s265, s266, s267, s268, (h278.trans (congrArg (fun c => some (AB.row 0 c)) (show ([.int .i64 ((addV (vertA vs (buildT vs.length fs).ed ((at_ (buildT vs.length fs).fan v).length : Int) v m) (scaleV (at_ vs ((at_ ((buildT vs.length fs).ed) m).A + ((at_ ((buildT vs.length fs).ed) m).B) - v)) 840)).X), .int .i64 ((addV (vertA vs (buildT vs.length fs).ed ((at_ (buildT vs.length fs).fan v).length : Int) v m) (scaleV (at_ vs ((at_ ((buildT vs.length fs).ed) m).A + ((at_ ((buildT vs.length fs).ed) m).B) - v)) 840)).Y), .int .i64 ((addV (vertA vs (buildT vs.length fs).ed ((at_ (buildT vs.length fs).fan v).length : Int) v m) (scaleV (at_ vs ((at_ ((buildT vs.length fs).ed) m).A + ((at_ ((buildT vs.length fs).ed) m).B) - v)) 840)).Z)] : List AV) = [.int .i64 ((vertA vs (buildT vs.length fs).ed ((at_ (buildT vs.length fs).fan v).length : Int) v (m + 1)).X), .int .i64 ((vertA vs (buildT vs.length fs).ed ((at_ (buildT vs.length fs).fan v).length : Int) v (m + 1)).Y), .int .i64 ((vertA vs (buildT vs.length fs).ed ((at_ (buildT vs.length fs).fan v).length : Int) v (m + 1)).Z)] from by first | (rw [addV_assoc, ← sum_step hj0 (by omega), addL_1]) | exact (addV_zero _).symm | (rw [addV_zero]) | (simp only [Int.toNat_zero, List.take_zero, List.map_nil, sumL_nil, addV_zero]) | rfl | (rw [← vertA_T hm0 hne (.inl b272)]; first | done | rfl)))), m281, by omega, by omega, by rw [← vertA_T hm0 hne (.inl b272)]; exact inV_le (inV_add hin2 hsc) (by omega)⟩
               ·
                refine AWP.condT rfl (nb (decide_eq_false b282)) ?_
                refine AWP.region (l := [0, 1, 2]) rfl ?_
                refine AOps.cons rfl rfl (AOp.move (.int .i64 ((hardF (sharpR (buildT vs.length fs) cr).1 (adjU (buildT vs.length fs).ed m v)).length : Int)) rfl s260 ?_)
                refine AOps.cons rfl rfl (AOp.bin (.int .i64 (((hardF (sharpR (buildT vs.length fs) cr).1 (adjU (buildT vs.length fs).ed m v)).length : Int) + 1)) rfl rfl rfl (iadd (by omega)) ?_)
                refine AOps.cons rfl rfl (AOp.assign (.int .i64 (((hardF (sharpR (buildT vs.length fs) cr).1 (adjU (buildT vs.length fs).ed m v)).length : Int) + 1)) rfl rfl ?_)
                refine AOps.nil ?_
                change AWP _ _ _ _ _ _
                refine AWP.region (l := [0, 1, 2]) rfl ?_
                refine AOps.cons rfl rfl (AOp.move (.int .i64 m) rfl s259 ?_)
                refine AOps.cons rfl rfl (AOp.bin (.int .i64 (m + 1)) rfl rfl rfl (iadd (by omega)) ?_)
                refine AOps.cons rfl rfl (AOp.assign (.int .i64 (m + 1)) rfl rfl ?_)
                refine AOps.nil ?_
                exact ⟨_, by omega, m + 1, rfl, rfl, (congrArg (AV.int .i64) (show (((hardF (sharpR (buildT vs.length fs) cr).1 (adjU (buildT vs.length fs).ed m v)).length : Int) + 1 : Int) = ((hardF (sharpR (buildT vs.length fs) cr).1 (adjU (buildT vs.length fs).ed (m + 1) v)).length : Int) from by exact hadj_T hm0 hne (.inl b272) b282)), s261, s262, s263, s264, s265, s266, s267, s268, (h278.trans (congrArg (fun c => some (AB.row 0 c)) (show ([.int .i64 ((addV (vertA vs (buildT vs.length fs).ed ((at_ (buildT vs.length fs).fan v).length : Int) v m) (scaleV (at_ vs ((at_ ((buildT vs.length fs).ed) m).A + ((at_ ((buildT vs.length fs).ed) m).B) - v)) 840)).X), .int .i64 ((addV (vertA vs (buildT vs.length fs).ed ((at_ (buildT vs.length fs).fan v).length : Int) v m) (scaleV (at_ vs ((at_ ((buildT vs.length fs).ed) m).A + ((at_ ((buildT vs.length fs).ed) m).B) - v)) 840)).Y), .int .i64 ((addV (vertA vs (buildT vs.length fs).ed ((at_ (buildT vs.length fs).fan v).length : Int) v m) (scaleV (at_ vs ((at_ ((buildT vs.length fs).ed) m).A + ((at_ ((buildT vs.length fs).ed) m).B) - v)) 840)).Z)] : List AV) = [.int .i64 ((vertA vs (buildT vs.length fs).ed ((at_ (buildT vs.length fs).fan v).length : Int) v (m + 1)).X), .int .i64 ((vertA vs (buildT vs.length fs).ed ((at_ (buildT vs.length fs).fan v).length : Int) v (m + 1)).Y), .int .i64 ((vertA vs (buildT vs.length fs).ed ((at_ (buildT vs.length fs).fan v).length : Int) v (m + 1)).Z)] from by first | (rw [addV_assoc, ← sum_step hj0 (by omega), addL_1]) | exact (addV_zero _).symm | (rw [addV_zero]) | (simp only [Int.toNat_zero, List.take_zero, List.map_nil, sumL_nil, addV_zero]) | rfl | (rw [← vertA_T hm0 hne (.inl b272)]; first | done | rfl)))), m281, by omega, by omega, by rw [← vertA_T hm0 hne (.inl b272)]; exact inV_le (inV_add hin2 hsc) (by omega)⟩
              ·
               refine AOps.yes rfl rfl rfl rfl rfl rfl rfl (decide_eq_false b272) (AOp.fieldAddrF rfl s264 fl_35_0 ?_)
               refine AOps.yes rfl rfl rfl rfl rfl rfl rfl (decide_eq_false b272) (AOp.loadF (.sl ((buildT vs.length fs).ed).length (((buildT vs.length fs).ed).flatMap eE)) rfl rfl ty_32 rfl ?_)
               refine AOps.yes rfl rfl rfl rfl rfl rfl rfl (decide_eq_false b272) (AOp.move (.int .i64 m) rfl s259 ?_)
               refine AOps.yes rfl rfl rfl rfl rfl rfl rfl (decide_eq_false b272) (AOp.indexAddrS rfl rfl rfl sl_32 (by omega) (by omega) ?_)
               refine AOps.yes rfl rfl rfl rfl rfl rfl rfl (decide_eq_false b272) (AOp.fieldAddrF rfl rfl fl_47_1 ?_)
               refine AOps.yes rfl rfl rfl rfl rfl rfl rfl (decide_eq_false b272) (AOp.loadF (.int .i64 ((at_ ((buildT vs.length fs).ed) m).B)) rfl rfl ty_3 (ldF eE_len (by omega) (by omega) rfl (by decide)) ?_)
               refine AOps.yes rfl rfl rfl rfl rfl rfl rfl (decide_eq_false b272) (AOp.move (.int .i64 v) rfl s261 ?_)
               refine AOps.yes rfl rfl rfl rfl rfl rfl rfl (decide_eq_false b272) (AOp.bin (.bool (decide ((at_ ((buildT vs.length fs).ed) m).B = v))) rfl rfl rfl ieq ?_)
               refine AOps.cons rfl rfl (AOp.pickF (.bool (decide ((at_ ((buildT vs.length fs).ed) m).B = v))) rfl rfl (decide_eq_false b272) rfl ?_)
               refine AOps.nil ?_
               change AWP _ _ _ _ _ _
               by_cases b283 : (at_ ((buildT vs.length fs).ed) m).B = v
               ·
                refine AWP.condT rfl (decide_eq_true b283) ?_
                refine AWP.seq ?_
                have hov : inV 65536 (othV vs (at_ (buildT vs.length fs).ed m) v) := N.v _ (at_mem (l := vs) (by have := (show (at_ (buildT vs.length fs).ed m).A = v ∨ (at_ (buildT vs.length fs).ed m).B = v from (.inr b283)); omega) (by have := (show (at_ (buildT vs.length fs).ed m).A = v ∨ (at_ (buildT vs.length fs).ed m).B = v from (.inr b283)); omega))
                have hsc := inV_scale (c := 840) (k := 840) hov (by decide)
                have hscb : inV 2305843009213693952 (scaleV (at_ vs ((at_ (buildT vs.length fs).ed m).A + (at_ (buildT vs.length fs).ed m).B - v)) 840) := inV_le hsc (by decide)
                have hA49 := inV_le (b := 2305843009213693952) hin2 (by omega)
                refine AWP.region_quiet mixed (by kernel_rfl) 22 [22] rfl (by kernel_rfl) (Mono H257) (Mono.refl _) ?_
                refine QE.op rfl rfl (.inl ⟨rfl, fun f' H' hf hM => AOp.load (.agg [.int .i64 ((vertA vs (buildT vs.length fs).ed ((at_ (buildT vs.length fs).fan v).length : Int) v m).X), .int .i64 ((vertA vs (buildT vs.length fs).ed ((at_ (buildT vs.length fs).fan v).length : Int) v m).Y), .int .i64 ((vertA vs (buildT vs.length fs).ed ((at_ (buildT vs.length fs).fan v).length : Int) v m).Z)]) rfl ((hf 22 rfl).trans s268) ty_42 (hM _ _ h269) rfl ⟨rfl, hM⟩⟩) ?_
                refine QE.op rfl rfl (.inl ⟨rfl, fun f' H' hf hM => AOp.fieldAddrF rfl ((hf 1 rfl).trans s262) fl_26_0 ⟨rfl, hM⟩⟩) ?_
                refine QE.op rfl rfl (.inl ⟨rfl, fun f' H' hf hM => AOp.loadF (.sl vs.length (vs.flatMap eV)) rfl ((hf 239 rfl).trans rfl) ty_22 rfl ⟨rfl, hM⟩⟩) ?_
                refine QE.op rfl rfl (.inl ⟨rfl, fun f' H' hf hM => AOp.fieldAddrF rfl ((hf 6 rfl).trans s264) fl_35_0 ⟨rfl, hM⟩⟩) ?_
                refine QE.op rfl rfl (.inl ⟨rfl, fun f' H' hf hM => AOp.loadF (.sl ((buildT vs.length fs).ed).length (((buildT vs.length fs).ed).flatMap eE)) rfl ((hf 241 rfl).trans rfl) ty_32 rfl ⟨rfl, hM⟩⟩) ?_
                refine QE.op rfl rfl (.inl ⟨rfl, fun f' H' hf hM => AOp.move (.int .i64 m) rfl ((hf 23 rfl).trans s259) ⟨rfl, hM⟩⟩) ?_
                refine QE.op rfl rfl (.inl ⟨rfl, fun f' H' hf hM => AOp.indexAddrS rfl ((hf 242 rfl).trans rfl) ((hf 243 rfl).trans rfl) sl_32 (by omega) (by omega) ⟨rfl, hM⟩⟩) ?_
                refine QE.op rfl rfl (.inl ⟨rfl, fun f' H' hf hM => AOp.fieldAddrF rfl ((hf 244 rfl).trans rfl) fl_47_0 ⟨rfl, hM⟩⟩) ?_
                refine QE.op rfl rfl (.inl ⟨rfl, fun f' H' hf hM => AOp.loadF (.int .i64 ((at_ ((buildT vs.length fs).ed) m).A)) rfl ((hf 245 rfl).trans rfl) ty_3 (ldF eE_len (by omega) (by omega) rfl (by decide)) ⟨rfl, hM⟩⟩) ?_
                refine QE.op rfl rfl (.inl ⟨rfl, fun f' H' hf hM => AOp.fieldAddrF rfl ((hf 6 rfl).trans s264) fl_35_0 ⟨rfl, hM⟩⟩) ?_
                refine QE.op rfl rfl (.inl ⟨rfl, fun f' H' hf hM => AOp.loadF (.sl ((buildT vs.length fs).ed).length (((buildT vs.length fs).ed).flatMap eE)) rfl ((hf 247 rfl).trans rfl) ty_32 rfl ⟨rfl, hM⟩⟩) ?_
                refine QE.op rfl rfl (.inl ⟨rfl, fun f' H' hf hM => AOp.move (.int .i64 m) rfl ((hf 23 rfl).trans s259) ⟨rfl, hM⟩⟩) ?_
                refine QE.op rfl rfl (.inl ⟨rfl, fun f' H' hf hM => AOp.indexAddrS rfl ((hf 248 rfl).trans rfl) ((hf 249 rfl).trans rfl) sl_32 (by omega) (by omega) ⟨rfl, hM⟩⟩) ?_
                refine QE.op rfl rfl (.inl ⟨rfl, fun f' H' hf hM => AOp.fieldAddrF rfl ((hf 250 rfl).trans rfl) fl_47_1 ⟨rfl, hM⟩⟩) ?_
                refine QE.op rfl rfl (.inl ⟨rfl, fun f' H' hf hM => AOp.loadF (.int .i64 ((at_ ((buildT vs.length fs).ed) m).B)) rfl ((hf 251 rfl).trans rfl) ty_3 (ldF eE_len (by omega) (by omega) rfl (by decide)) ⟨rfl, hM⟩⟩) ?_
                refine QE.op rfl rfl (.inl ⟨rfl, fun f' H' hf hM => AOp.bin (.int .i64 ((at_ ((buildT vs.length fs).ed) m).A + ((at_ ((buildT vs.length fs).ed) m).B))) rfl ((hf 246 rfl).trans rfl) ((hf 252 rfl).trans rfl) (iadd (by omega)) ⟨rfl, hM⟩⟩) ?_
                refine QE.op rfl rfl (.inl ⟨rfl, fun f' H' hf hM => AOp.move (.int .i64 v) rfl ((hf 19 rfl).trans s261) ⟨rfl, hM⟩⟩) ?_
                refine QE.op rfl rfl (.inl ⟨rfl, fun f' H' hf hM => AOp.bin (.int .i64 ((at_ ((buildT vs.length fs).ed) m).A + ((at_ ((buildT vs.length fs).ed) m).B) - v)) rfl ((hf 253 rfl).trans rfl) ((hf 254 rfl).trans rfl) (isub (by omega)) ⟨rfl, hM⟩⟩) ?_
                refine QE.op rfl rfl (.inl ⟨rfl, fun f' H' hf hM => AOp.indexAddrS rfl ((hf 240 rfl).trans rfl) ((hf 255 rfl).trans rfl) sl_22 (by omega) (by omega) ⟨rfl, hM⟩⟩) ?_
                refine QE.op rfl rfl (.inl ⟨rfl, fun f' H' hf hM => AOp.loadF (.agg [.int .i64 ((at_ vs ((at_ ((buildT vs.length fs).ed) m).A + ((at_ ((buildT vs.length fs).ed) m).B) - v)).X), .int .i64 ((at_ vs ((at_ ((buildT vs.length fs).ed) m).A + ((at_ ((buildT vs.length fs).ed) m).B) - v)).Y), .int .i64 ((at_ vs ((at_ ((buildT vs.length fs).ed) m).A + ((at_ ((buildT vs.length fs).ed) m).B) - v)).Z)]) rfl ((hf 256 rfl).trans rfl) ty_42 (ldM eV_len (by omega) (by omega)) ⟨rfl, hM⟩⟩) ?_
                refine QE.op rfl rfl (.inl ⟨rfl, fun f' H' hf hM => AOp.pcall («as» := [.agg [.int .i64 ((at_ vs ((at_ ((buildT vs.length fs).ed) m).A + ((at_ ((buildT vs.length fs).ed) m).B) - v)).X), .int .i64 ((at_ vs ((at_ ((buildT vs.length fs).ed) m).A + ((at_ ((buildT vs.length fs).ed) m).B) - v)).Y), .int .i64 ((at_ vs ((at_ ((buildT vs.length fs).ed) m).A + ((at_ ((buildT vs.length fs).ed) m).B) - v)).Z)], .int .i64 840]) rfl rfl (lapp (lcons ((hf 257 rfl).trans rfl) (lcons rfl rfl)) rfl) tf_19 (c_rScale (at_ vs ((at_ ((buildT vs.length fs).ed) m).A + ((at_ ((buildT vs.length fs).ed) m).B) - v)) 840 (by first | assumption | exact hS25)) fun H2 m2 => ⟨rfl, hM.trans m2⟩⟩) ?_
                refine QE.op rfl rfl (.inl ⟨rfl, fun f' H' hf hM => AOp.pcall («as» := [.agg [.int .i64 ((vertA vs (buildT vs.length fs).ed ((at_ (buildT vs.length fs).fan v).length : Int) v m).X), .int .i64 ((vertA vs (buildT vs.length fs).ed ((at_ (buildT vs.length fs).fan v).length : Int) v m).Y), .int .i64 ((vertA vs (buildT vs.length fs).ed ((at_ (buildT vs.length fs).fan v).length : Int) v m).Z)], .agg [.int .i64 ((scaleV (at_ vs ((at_ ((buildT vs.length fs).ed) m).A + ((at_ ((buildT vs.length fs).ed) m).B) - v)) 840).X), .int .i64 ((scaleV (at_ vs ((at_ ((buildT vs.length fs).ed) m).A + ((at_ ((buildT vs.length fs).ed) m).B) - v)) 840).Y), .int .i64 ((scaleV (at_ vs ((at_ ((buildT vs.length fs).ed) m).A + ((at_ ((buildT vs.length fs).ed) m).B) - v)) 840).Z)]]) rfl rfl (lapp (lcons ((hf 238 rfl).trans rfl) (lcons ((hf 258 rfl).trans rfl) rfl)) rfl) tf_18 (c_rAdd (vertA vs (buildT vs.length fs).ed ((at_ (buildT vs.length fs).fan v).length : Int) v m) (scaleV (at_ vs ((at_ ((buildT vs.length fs).ed) m).A + ((at_ ((buildT vs.length fs).ed) m).B) - v)) 840) (by assumption) (by assumption)) fun H2 m2 => ⟨rfl, hM.trans m2⟩⟩) ?_
                refine QE.done fun H284 m285 => ?_
                have h286 := m285 _ _ h269
                have m287 := m270.trans m285
                refine AOps.cons rfl rfl (AOp.store' (cells' := [.int .i64 ((addV (vertA vs (buildT vs.length fs).ed ((at_ (buildT vs.length fs).fan v).length : Int) v m) (scaleV (at_ vs ((at_ ((buildT vs.length fs).ed) m).A + ((at_ ((buildT vs.length fs).ed) m).B) - v)) 840)).X), .int .i64 ((addV (vertA vs (buildT vs.length fs).ed ((at_ (buildT vs.length fs).fan v).length : Int) v m) (scaleV (at_ vs ((at_ ((buildT vs.length fs).ed) m).A + ((at_ ((buildT vs.length fs).ed) m).B) - v)) 840)).Y), .int .i64 ((addV (vertA vs (buildT vs.length fs).ed ((at_ (buildT vs.length fs).fan v).length : Int) v m) (scaleV (at_ vs ((at_ ((buildT vs.length fs).ed) m).A + ((at_ ((buildT vs.length fs).ed) m).B) - v)) 840)).Z)]) (.agg [.int .i64 ((addV (vertA vs (buildT vs.length fs).ed ((at_ (buildT vs.length fs).fan v).length : Int) v m) (scaleV (at_ vs ((at_ ((buildT vs.length fs).ed) m).A + ((at_ ((buildT vs.length fs).ed) m).B) - v)) 840)).X), .int .i64 ((addV (vertA vs (buildT vs.length fs).ed ((at_ (buildT vs.length fs).fan v).length : Int) v m) (scaleV (at_ vs ((at_ ((buildT vs.length fs).ed) m).A + ((at_ ((buildT vs.length fs).ed) m).B) - v)) 840)).Y), .int .i64 ((addV (vertA vs (buildT vs.length fs).ed ((at_ (buildT vs.length fs).fan v).length : Int) v m) (scaleV (at_ vs ((at_ ((buildT vs.length fs).ed) m).A + ((at_ ((buildT vs.length fs).ed) m).B) - v)) 840)).Z)]) s268 rfl ts_42 h286 rfl rfl rfl rfl ?_)
                intro H288 h289 k290
                have m292 := Mono.set m287 z249 k290
                refine AOps.nil ?_
                change AWP _ _ _ _ _ _
                refine AWP.seq ?_
                refine AWP.region (l := [0, 1, 2, 3, 4]) rfl ?_
                refine AOps.cons rfl rfl (AOp.move (.sl ((sharpR (buildT vs.length fs) cr).1).length (((sharpR (buildT vs.length fs) cr).1).map eI)) rfl s265 ?_)
                refine AOps.cons rfl rfl (AOp.move (.int .i64 m) rfl s259 ?_)
                refine AOps.cons rfl rfl (AOp.indexAddrS rfl rfl rfl sl_38 (by omega) (by omega) ?_)
                refine AOps.cons rfl rfl (AOp.loadF (.int .i64 (at_ ((sharpR (buildT vs.length fs) cr).1) m)) rfl rfl ty_3 (ld1 (by omega) (by omega)) ?_)
                refine AOps.cons rfl rfl (AOp.bin (.bool (!decide (at_ ((sharpR (buildT vs.length fs) cr).1) m = 0))) rfl rfl rfl ine ?_)
                refine AOps.nil ?_
                change AWP _ _ _ _ _ _
                by_cases b293 : at_ ((sharpR (buildT vs.length fs) cr).1) m = 0
                ·
                 refine AWP.condF rfl (nb (decide_eq_true b293)) ?_
                 refine AWP.skip ?_
                 change AWP _ _ _ _ _ _
                 refine AWP.region (l := [0, 1, 2]) rfl ?_
                 refine AOps.cons rfl rfl (AOp.move (.int .i64 m) rfl s259 ?_)
                 refine AOps.cons rfl rfl (AOp.bin (.int .i64 (m + 1)) rfl rfl rfl (iadd (by omega)) ?_)
                 refine AOps.cons rfl rfl (AOp.assign (.int .i64 (m + 1)) rfl rfl ?_)
                 refine AOps.nil ?_
                 exact ⟨_, by omega, m + 1, rfl, rfl, (s260.trans (congrArg (AV.int .i64) (show (((hardF (sharpR (buildT vs.length fs) cr).1 (adjU (buildT vs.length fs).ed m v)).length : Int) : Int) = ((hardF (sharpR (buildT vs.length fs) cr).1 (adjU (buildT vs.length fs).ed (m + 1) v)).length : Int) from by exact hadj_Z hm0 hne (.inr b283) b293))), s261, s262, s263, s264, s265, s266, s267, s268, (h289.trans (congrArg (fun c => some (AB.row 0 c)) (show ([.int .i64 ((addV (vertA vs (buildT vs.length fs).ed ((at_ (buildT vs.length fs).fan v).length : Int) v m) (scaleV (at_ vs ((at_ ((buildT vs.length fs).ed) m).A + ((at_ ((buildT vs.length fs).ed) m).B) - v)) 840)).X), .int .i64 ((addV (vertA vs (buildT vs.length fs).ed ((at_ (buildT vs.length fs).fan v).length : Int) v m) (scaleV (at_ vs ((at_ ((buildT vs.length fs).ed) m).A + ((at_ ((buildT vs.length fs).ed) m).B) - v)) 840)).Y), .int .i64 ((addV (vertA vs (buildT vs.length fs).ed ((at_ (buildT vs.length fs).fan v).length : Int) v m) (scaleV (at_ vs ((at_ ((buildT vs.length fs).ed) m).A + ((at_ ((buildT vs.length fs).ed) m).B) - v)) 840)).Z)] : List AV) = [.int .i64 ((vertA vs (buildT vs.length fs).ed ((at_ (buildT vs.length fs).fan v).length : Int) v (m + 1)).X), .int .i64 ((vertA vs (buildT vs.length fs).ed ((at_ (buildT vs.length fs).fan v).length : Int) v (m + 1)).Y), .int .i64 ((vertA vs (buildT vs.length fs).ed ((at_ (buildT vs.length fs).fan v).length : Int) v (m + 1)).Z)] from by first | (rw [addV_assoc, ← sum_step hj0 (by omega), addL_1]) | exact (addV_zero _).symm | (rw [addV_zero]) | (simp only [Int.toNat_zero, List.take_zero, List.map_nil, sumL_nil, addV_zero]) | rfl | (rw [← vertA_T hm0 hne (.inr b283)]; first | done | rfl)))), m292, by omega, by omega, by rw [← vertA_T hm0 hne (.inr b283)]; exact inV_le (inV_add hin2 hsc) (by omega)⟩
                ·
                 refine AWP.condT rfl (nb (decide_eq_false b293)) ?_
                 refine AWP.region (l := [0, 1, 2]) rfl ?_
                 refine AOps.cons rfl rfl (AOp.move (.int .i64 ((hardF (sharpR (buildT vs.length fs) cr).1 (adjU (buildT vs.length fs).ed m v)).length : Int)) rfl s260 ?_)
                 refine AOps.cons rfl rfl (AOp.bin (.int .i64 (((hardF (sharpR (buildT vs.length fs) cr).1 (adjU (buildT vs.length fs).ed m v)).length : Int) + 1)) rfl rfl rfl (iadd (by omega)) ?_)
                 refine AOps.cons rfl rfl (AOp.assign (.int .i64 (((hardF (sharpR (buildT vs.length fs) cr).1 (adjU (buildT vs.length fs).ed m v)).length : Int) + 1)) rfl rfl ?_)
                 refine AOps.nil ?_
                 change AWP _ _ _ _ _ _
                 refine AWP.region (l := [0, 1, 2]) rfl ?_
                 refine AOps.cons rfl rfl (AOp.move (.int .i64 m) rfl s259 ?_)
                 refine AOps.cons rfl rfl (AOp.bin (.int .i64 (m + 1)) rfl rfl rfl (iadd (by omega)) ?_)
                 refine AOps.cons rfl rfl (AOp.assign (.int .i64 (m + 1)) rfl rfl ?_)
                 refine AOps.nil ?_
                 exact ⟨_, by omega, m + 1, rfl, rfl, (congrArg (AV.int .i64) (show (((hardF (sharpR (buildT vs.length fs) cr).1 (adjU (buildT vs.length fs).ed m v)).length : Int) + 1 : Int) = ((hardF (sharpR (buildT vs.length fs) cr).1 (adjU (buildT vs.length fs).ed (m + 1) v)).length : Int) from by exact hadj_T hm0 hne (.inr b283) b293)), s261, s262, s263, s264, s265, s266, s267, s268, (h289.trans (congrArg (fun c => some (AB.row 0 c)) (show ([.int .i64 ((addV (vertA vs (buildT vs.length fs).ed ((at_ (buildT vs.length fs).fan v).length : Int) v m) (scaleV (at_ vs ((at_ ((buildT vs.length fs).ed) m).A + ((at_ ((buildT vs.length fs).ed) m).B) - v)) 840)).X), .int .i64 ((addV (vertA vs (buildT vs.length fs).ed ((at_ (buildT vs.length fs).fan v).length : Int) v m) (scaleV (at_ vs ((at_ ((buildT vs.length fs).ed) m).A + ((at_ ((buildT vs.length fs).ed) m).B) - v)) 840)).Y), .int .i64 ((addV (vertA vs (buildT vs.length fs).ed ((at_ (buildT vs.length fs).fan v).length : Int) v m) (scaleV (at_ vs ((at_ ((buildT vs.length fs).ed) m).A + ((at_ ((buildT vs.length fs).ed) m).B) - v)) 840)).Z)] : List AV) = [.int .i64 ((vertA vs (buildT vs.length fs).ed ((at_ (buildT vs.length fs).fan v).length : Int) v (m + 1)).X), .int .i64 ((vertA vs (buildT vs.length fs).ed ((at_ (buildT vs.length fs).fan v).length : Int) v (m + 1)).Y), .int .i64 ((vertA vs (buildT vs.length fs).ed ((at_ (buildT vs.length fs).fan v).length : Int) v (m + 1)).Z)] from by first | (rw [addV_assoc, ← sum_step hj0 (by omega), addL_1]) | exact (addV_zero _).symm | (rw [addV_zero]) | (simp only [Int.toNat_zero, List.take_zero, List.map_nil, sumL_nil, addV_zero]) | rfl | (rw [← vertA_T hm0 hne (.inr b283)]; first | done | rfl)))), m292, by omega, by omega, by rw [← vertA_T hm0 hne (.inr b283)]; exact inV_le (inV_add hin2 hsc) (by omega)⟩
               ·
                refine AWP.condF rfl (decide_eq_false b283) ?_
                refine AWP.skip ?_
                change AWP _ _ _ _ _ _
                refine AWP.region (l := [0, 1, 2]) rfl ?_
                refine AOps.cons rfl rfl (AOp.move (.int .i64 m) rfl s259 ?_)
                refine AOps.cons rfl rfl (AOp.bin (.int .i64 (m + 1)) rfl rfl rfl (iadd (by omega)) ?_)
                refine AOps.cons rfl rfl (AOp.assign (.int .i64 (m + 1)) rfl rfl ?_)
                refine AOps.nil ?_
                exact ⟨_, by omega, m + 1, rfl, rfl, (s260.trans (congrArg (AV.int .i64) (show (((hardF (sharpR (buildT vs.length fs) cr).1 (adjU (buildT vs.length fs).ed m v)).length : Int) : Int) = ((hardF (sharpR (buildT vs.length fs) cr).1 (adjU (buildT vs.length fs).ed (m + 1) v)).length : Int) from by exact hadj_F hm0 b272 b283))), s261, s262, s263, s264, s265, s266, s267, s268, (h269.trans (congrArg (fun c => some (AB.row 0 c)) (show ([.int .i64 ((vertA vs (buildT vs.length fs).ed ((at_ (buildT vs.length fs).fan v).length : Int) v m).X), .int .i64 ((vertA vs (buildT vs.length fs).ed ((at_ (buildT vs.length fs).fan v).length : Int) v m).Y), .int .i64 ((vertA vs (buildT vs.length fs).ed ((at_ (buildT vs.length fs).fan v).length : Int) v m).Z)] : List AV) = [.int .i64 ((vertA vs (buildT vs.length fs).ed ((at_ (buildT vs.length fs).fan v).length : Int) v (m + 1)).X), .int .i64 ((vertA vs (buildT vs.length fs).ed ((at_ (buildT vs.length fs).fan v).length : Int) v (m + 1)).Y), .int .i64 ((vertA vs (buildT vs.length fs).ed ((at_ (buildT vs.length fs).fan v).length : Int) v (m + 1)).Z)] from by first | (rw [addV_assoc, ← sum_step hj0 (by omega), addL_1]) | exact (addV_zero _).symm | (rw [addV_zero]) | (simp only [Int.toNat_zero, List.take_zero, List.map_nil, sumL_nil, addV_zero]) | rfl | (rw [vertA_F hm0 b272 b283]; first | done | rfl)))), m270, by omega, by omega, by rw [← vertA_F hm0 b272 b283]; exact inV_le hin2 (by omega)⟩
             ·
              refine AWP.condF rfl (decide_eq_false b271) ?_
              refine AWP.exit ?_
              change AWP _ _ _ _ _ _
              refine AWP.seq ?_
              refine AWP.seq ?_
              refine AWP.region (l := [0]) rfl ?_
              refine AOps.cons rfl rfl (AOp.assign (.int .i64 0) rfl rfl ?_)
              refine AOps.nil ?_
              change AWP _ _ _ _ _ _
              refine AWP.block ?_
              refine AWP.loop (fun q294 fq Hq => ∃ (j : Int), q294 = ((((at_ (buildT vs.length fs).fan v).length : Int) : Int) - j).toNat ∧ fq 24 = .int .i64 j ∧ fq 21 = .int .i64 ((hardF (sharpR (buildT vs.length fs) cr).1 (adjU (buildT vs.length fs).ed m v)).length : Int) ∧ fq 19 = .int .i64 v ∧ fq 1 = .fptr [.sl vs.length (vs.flatMap eV), .sl fs.length (fs.map eF), .sl cr.length (cr.flatMap eCr)] 0 ∧ fq 4 = .fptr [.sl ((levelR vs fs cr).1.Verts).length (((levelR vs fs cr).1.Verts).flatMap eV), .sl ((levelR vs fs cr).1.Faces).length (((levelR vs fs cr).1.Faces).map eF), .sl ((levelR vs fs cr).1.Creases).length (((levelR vs fs cr).1.Creases).flatMap eCr)] 0 ∧ fq 6 = .fptr [.sl ((buildT vs.length fs).ed).length (((buildT vs.length fs).ed).flatMap eE), .sl ((buildT vs.length fs).fan).length (((buildT vs.length fs).fan).map eF), .sl ((buildT vs.length fs).rnd).length (((buildT vs.length fs).rnd).map eBo)] 0 ∧ fq 8 = .sl ((sharpR (buildT vs.length fs) cr).1).length (((sharpR (buildT vs.length fs) cr).1).map eI) ∧ fq 10 = .sl ((sumsU vs fs f)).length (((sumsU vs fs f)).flatMap eV) ∧ fq 20 = .int .i64 (((at_ ((buildT vs.length fs).fan) v).length) : Int) ∧ fq 22 = .ptr i244 0 0 ∧ Hq i244 = some (.row 0 ([.int .i64 ((addV (vertA vs (buildT vs.length fs).ed ((at_ (buildT vs.length fs).fan v).length : Int) v m) (sumL (((at_ (buildT vs.length fs).fan v).take j.toNat).map fun k => at_ (sumsU vs fs f) k))).X), .int .i64 ((addV (vertA vs (buildT vs.length fs).ed ((at_ (buildT vs.length fs).fan v).length : Int) v m) (sumL (((at_ (buildT vs.length fs).fan v).take j.toNat).map fun k => at_ (sumsU vs fs f) k))).Y), .int .i64 ((addV (vertA vs (buildT vs.length fs).ed ((at_ (buildT vs.length fs).fan v).length : Int) v m) (sumL (((at_ (buildT vs.length fs).fan v).take j.toNat).map fun k => at_ (sumsU vs fs f) k))).Z)])) ∧ Mono H0 Hq ∧ (0 ≤ j) ∧ (j ≤ ((at_ (buildT vs.length fs).fan v).length : Int)) ∧ (inV (440401920 * j) (sumL (((at_ (buildT vs.length fs).fan v).take j.toNat).map fun k => at_ (sumsU vs fs f) k)))) (k := ((((at_ (buildT vs.length fs).fan v).length : Int) : Int) - 0).toNat) ?_ ?_
              ·
               exact ⟨0, rfl, rfl, s260, s261, s262, s263, s264, s265, s266, s267, s268, (h269.trans (congrArg (fun c => some (AB.row 0 c)) (show ([.int .i64 ((vertA vs (buildT vs.length fs).ed ((at_ (buildT vs.length fs).fan v).length : Int) v m).X), .int .i64 ((vertA vs (buildT vs.length fs).ed ((at_ (buildT vs.length fs).fan v).length : Int) v m).Y), .int .i64 ((vertA vs (buildT vs.length fs).ed ((at_ (buildT vs.length fs).fan v).length : Int) v m).Z)] : List AV) = [.int .i64 ((addV (vertA vs (buildT vs.length fs).ed ((at_ (buildT vs.length fs).fan v).length : Int) v m) (sumL (((at_ (buildT vs.length fs).fan v).take (0 : Int).toNat).map fun k => at_ (sumsU vs fs f) k))).X), .int .i64 ((addV (vertA vs (buildT vs.length fs).ed ((at_ (buildT vs.length fs).fan v).length : Int) v m) (sumL (((at_ (buildT vs.length fs).fan v).take (0 : Int).toNat).map fun k => at_ (sumsU vs fs f) k))).Y), .int .i64 ((addV (vertA vs (buildT vs.length fs).ed ((at_ (buildT vs.length fs).fan v).length : Int) v m) (sumL (((at_ (buildT vs.length fs).fan v).take (0 : Int).toNat).map fun k => at_ (sumsU vs fs f) k))).Z)] from by first | (rw [addV_assoc, ← sum_step hj0 (by omega), addL_1]) | exact (addV_zero _).symm | (rw [addV_zero]) | (simp only [Int.toNat_zero, List.take_zero, List.map_nil, sumL_nil, addV_zero]) | rfl | exact vertA_0 | (rw [vertA_0])))), m270, by omega, by omega, by exact z_in (by omega)⟩
              ·
               rintro _ f296 H295 ⟨j, rfl, s297, s298, s299, s300, s301, s302, s303, s304, s305, s306, h307, m308, hj0, hj1, hin3⟩
               refine AWP.seq ?_
               refine AWP.seq ?_
               refine AWP.region (l := [0, 1, 2]) rfl ?_
               refine AOps.cons rfl rfl (AOp.move (.int .i64 j) rfl s297 ?_)
               refine AOps.cons rfl rfl (AOp.move (.int .i64 (((at_ ((buildT vs.length fs).fan) v).length) : Int)) rfl s305 ?_)
               refine AOps.cons rfl rfl (AOp.bin (.bool (decide (j < (((at_ ((buildT vs.length fs).fan) v).length) : Int)))) rfl rfl rfl rfl ?_)
               refine AOps.nil ?_
               change AWP _ _ _ _ _ _
               by_cases b309 : j < (((at_ ((buildT vs.length fs).fan) v).length) : Int)
               ·
                refine AWP.condT rfl (decide_eq_true b309) ?_
                refine AWP.skip ?_
                change AWP _ _ _ _ _ _
                refine AWP.seq ?_
                refine AWP.block ?_
                have hfr := hfan.2 _ (at_mem (l := (at_ (buildT vs.length fs).fan v)) hj0 (by omega))
                have hsj := N.sum (i := f) hfr.1 (by omega) (by omega)
                have hsj2 := inV_le (b := 2305843009213693952) hsj (by decide)
                have hA55 : inV 2305843009213693952 (addV (vertA vs (buildT vs.length fs).ed ((at_ (buildT vs.length fs).fan v).length : Int) v m) (sumL (((at_ (buildT vs.length fs).fan v).take j.toNat).map fun k => at_ (sumsU vs fs f) k))) := inV_le (inV_add hin2 hin3) (by omega)
                refine AWP.region_quiet mixed (by kernel_rfl) 13 [13] rfl (by kernel_rfl) (Mono H295) (Mono.refl _) ?_
                refine QE.op rfl rfl (.inl ⟨rfl, fun f' H' hf hM => AOp.load (.agg [.int .i64 ((addV (vertA vs (buildT vs.length fs).ed ((at_ (buildT vs.length fs).fan v).length : Int) v m) (sumL (((at_ (buildT vs.length fs).fan v).take j.toNat).map fun k => at_ (sumsU vs fs f) k))).X), .int .i64 ((addV (vertA vs (buildT vs.length fs).ed ((at_ (buildT vs.length fs).fan v).length : Int) v m) (sumL (((at_ (buildT vs.length fs).fan v).take j.toNat).map fun k => at_ (sumsU vs fs f) k))).Y), .int .i64 ((addV (vertA vs (buildT vs.length fs).ed ((at_ (buildT vs.length fs).fan v).length : Int) v m) (sumL (((at_ (buildT vs.length fs).fan v).take j.toNat).map fun k => at_ (sumsU vs fs f) k))).Z)]) rfl ((hf 22 rfl).trans s306) ty_42 (hM _ _ h307) rfl ⟨rfl, hM⟩⟩) ?_
                refine QE.op rfl rfl (.inl ⟨rfl, fun f' H' hf hM => AOp.move (.sl ((sumsU vs fs f)).length (((sumsU vs fs f)).flatMap eV)) rfl ((hf 10 rfl).trans s304) ⟨rfl, hM⟩⟩) ?_
                refine QE.op rfl rfl (.inl ⟨rfl, fun f' H' hf hM => AOp.fieldAddrF rfl ((hf 6 rfl).trans s302) fl_35_1 ⟨rfl, hM⟩⟩) ?_
                refine QE.op rfl rfl (.inl ⟨rfl, fun f' H' hf hM => AOp.loadF (.sl ((buildT vs.length fs).fan).length (((buildT vs.length fs).fan).map eF)) rfl ((hf 274 rfl).trans rfl) ty_23 rfl ⟨rfl, hM⟩⟩) ?_
                refine QE.op rfl rfl (.inl ⟨rfl, fun f' H' hf hM => AOp.move (.int .i64 v) rfl ((hf 19 rfl).trans s299) ⟨rfl, hM⟩⟩) ?_
                refine QE.op rfl rfl (.inl ⟨rfl, fun f' H' hf hM => AOp.indexAddrS rfl ((hf 275 rfl).trans rfl) ((hf 276 rfl).trans rfl) sl_23 (by omega) (by omega) ⟨rfl, hM⟩⟩) ?_
                refine QE.op rfl rfl (.inl ⟨rfl, fun f' H' hf hM => AOp.loadF (.sl (at_ ((buildT vs.length fs).fan) v).length ((at_ ((buildT vs.length fs).fan) v).map eI)) rfl ((hf 277 rfl).trans rfl) ty_38 (ld1 (by omega) (by omega)) ⟨rfl, hM⟩⟩) ?_
                refine QE.op rfl rfl (.inl ⟨rfl, fun f' H' hf hM => AOp.move (.int .i64 j) rfl ((hf 24 rfl).trans s297) ⟨rfl, hM⟩⟩) ?_
                refine QE.op rfl rfl (.inl ⟨rfl, fun f' H' hf hM => AOp.indexAddrS rfl ((hf 278 rfl).trans rfl) ((hf 279 rfl).trans rfl) sl_38 (by omega) (by omega) ⟨rfl, hM⟩⟩) ?_
                refine QE.op rfl rfl (.inl ⟨rfl, fun f' H' hf hM => AOp.loadF (.int .i64 (at_ (at_ ((buildT vs.length fs).fan) v) j)) rfl ((hf 280 rfl).trans rfl) ty_3 (ld1 (by omega) (by omega)) ⟨rfl, hM⟩⟩) ?_
                refine QE.op rfl rfl (.inl ⟨rfl, fun f' H' hf hM => AOp.indexAddrS rfl ((hf 273 rfl).trans rfl) ((hf 281 rfl).trans rfl) sl_22 (by omega) (by omega) ⟨rfl, hM⟩⟩) ?_
                refine QE.op rfl rfl (.inl ⟨rfl, fun f' H' hf hM => AOp.loadF (.agg [.int .i64 ((at_ ((sumsU vs fs f)) (at_ (at_ ((buildT vs.length fs).fan) v) j)).X), .int .i64 ((at_ ((sumsU vs fs f)) (at_ (at_ ((buildT vs.length fs).fan) v) j)).Y), .int .i64 ((at_ ((sumsU vs fs f)) (at_ (at_ ((buildT vs.length fs).fan) v) j)).Z)]) rfl ((hf 282 rfl).trans rfl) ty_42 (ldM eV_len (by omega) (by omega)) ⟨rfl, hM⟩⟩) ?_
                refine QE.op rfl rfl (.inl ⟨rfl, fun f' H' hf hM => AOp.pcall («as» := [.agg [.int .i64 ((addV (vertA vs (buildT vs.length fs).ed ((at_ (buildT vs.length fs).fan v).length : Int) v m) (sumL (((at_ (buildT vs.length fs).fan v).take j.toNat).map fun k => at_ (sumsU vs fs f) k))).X), .int .i64 ((addV (vertA vs (buildT vs.length fs).ed ((at_ (buildT vs.length fs).fan v).length : Int) v m) (sumL (((at_ (buildT vs.length fs).fan v).take j.toNat).map fun k => at_ (sumsU vs fs f) k))).Y), .int .i64 ((addV (vertA vs (buildT vs.length fs).ed ((at_ (buildT vs.length fs).fan v).length : Int) v m) (sumL (((at_ (buildT vs.length fs).fan v).take j.toNat).map fun k => at_ (sumsU vs fs f) k))).Z)], .agg [.int .i64 ((at_ ((sumsU vs fs f)) (at_ (at_ ((buildT vs.length fs).fan) v) j)).X), .int .i64 ((at_ ((sumsU vs fs f)) (at_ (at_ ((buildT vs.length fs).fan) v) j)).Y), .int .i64 ((at_ ((sumsU vs fs f)) (at_ (at_ ((buildT vs.length fs).fan) v) j)).Z)]]) rfl rfl (lapp (lcons ((hf 272 rfl).trans rfl) (lcons ((hf 283 rfl).trans rfl) rfl)) rfl) tf_18 (c_rAdd (addV (vertA vs (buildT vs.length fs).ed ((at_ (buildT vs.length fs).fan v).length : Int) v m) (sumL (((at_ (buildT vs.length fs).fan v).take j.toNat).map fun k => at_ (sumsU vs fs f) k))) (at_ ((sumsU vs fs f)) (at_ (at_ ((buildT vs.length fs).fan) v) j)) (by assumption) (by assumption)) fun H2 m2 => ⟨rfl, hM.trans m2⟩⟩) ?_
                refine QE.done fun H310 m311 => ?_
                have h312 := m311 _ _ h307
                have m313 := m308.trans m311
                refine AOps.cons rfl rfl (AOp.store' (cells' := [.int .i64 ((addV (addV (vertA vs (buildT vs.length fs).ed ((at_ (buildT vs.length fs).fan v).length : Int) v m) (sumL (((at_ (buildT vs.length fs).fan v).take j.toNat).map fun k => at_ (sumsU vs fs f) k))) (at_ ((sumsU vs fs f)) (at_ (at_ ((buildT vs.length fs).fan) v) j))).X), .int .i64 ((addV (addV (vertA vs (buildT vs.length fs).ed ((at_ (buildT vs.length fs).fan v).length : Int) v m) (sumL (((at_ (buildT vs.length fs).fan v).take j.toNat).map fun k => at_ (sumsU vs fs f) k))) (at_ ((sumsU vs fs f)) (at_ (at_ ((buildT vs.length fs).fan) v) j))).Y), .int .i64 ((addV (addV (vertA vs (buildT vs.length fs).ed ((at_ (buildT vs.length fs).fan v).length : Int) v m) (sumL (((at_ (buildT vs.length fs).fan v).take j.toNat).map fun k => at_ (sumsU vs fs f) k))) (at_ ((sumsU vs fs f)) (at_ (at_ ((buildT vs.length fs).fan) v) j))).Z)]) (.agg [.int .i64 ((addV (addV (vertA vs (buildT vs.length fs).ed ((at_ (buildT vs.length fs).fan v).length : Int) v m) (sumL (((at_ (buildT vs.length fs).fan v).take j.toNat).map fun k => at_ (sumsU vs fs f) k))) (at_ ((sumsU vs fs f)) (at_ (at_ ((buildT vs.length fs).fan) v) j))).X), .int .i64 ((addV (addV (vertA vs (buildT vs.length fs).ed ((at_ (buildT vs.length fs).fan v).length : Int) v m) (sumL (((at_ (buildT vs.length fs).fan v).take j.toNat).map fun k => at_ (sumsU vs fs f) k))) (at_ ((sumsU vs fs f)) (at_ (at_ ((buildT vs.length fs).fan) v) j))).Y), .int .i64 ((addV (addV (vertA vs (buildT vs.length fs).ed ((at_ (buildT vs.length fs).fan v).length : Int) v m) (sumL (((at_ (buildT vs.length fs).fan v).take j.toNat).map fun k => at_ (sumsU vs fs f) k))) (at_ ((sumsU vs fs f)) (at_ (at_ ((buildT vs.length fs).fan) v) j))).Z)]) s306 rfl ts_42 h312 rfl rfl rfl rfl ?_)
                intro H314 h315 k316
                have m318 := Mono.set m313 z249 k316
                refine AOps.nil ?_
                change AWP _ _ _ _ _ _
                refine AWP.region (l := [0, 1, 2]) rfl ?_
                refine AOps.cons rfl rfl (AOp.move (.int .i64 j) rfl s297 ?_)
                refine AOps.cons rfl rfl (AOp.bin (.int .i64 (j + 1)) rfl rfl rfl (iadd (by omega)) ?_)
                refine AOps.cons rfl rfl (AOp.assign (.int .i64 (j + 1)) rfl rfl ?_)
                refine AOps.nil ?_
                exact ⟨_, by omega, j + 1, rfl, rfl, s298, s299, s300, s301, s302, s303, s304, s305, s306, (h315.trans (congrArg (fun c => some (AB.row 0 c)) (show ([.int .i64 ((addV (addV (vertA vs (buildT vs.length fs).ed ((at_ (buildT vs.length fs).fan v).length : Int) v m) (sumL (((at_ (buildT vs.length fs).fan v).take j.toNat).map fun k => at_ (sumsU vs fs f) k))) (at_ ((sumsU vs fs f)) (at_ (at_ ((buildT vs.length fs).fan) v) j))).X), .int .i64 ((addV (addV (vertA vs (buildT vs.length fs).ed ((at_ (buildT vs.length fs).fan v).length : Int) v m) (sumL (((at_ (buildT vs.length fs).fan v).take j.toNat).map fun k => at_ (sumsU vs fs f) k))) (at_ ((sumsU vs fs f)) (at_ (at_ ((buildT vs.length fs).fan) v) j))).Y), .int .i64 ((addV (addV (vertA vs (buildT vs.length fs).ed ((at_ (buildT vs.length fs).fan v).length : Int) v m) (sumL (((at_ (buildT vs.length fs).fan v).take j.toNat).map fun k => at_ (sumsU vs fs f) k))) (at_ ((sumsU vs fs f)) (at_ (at_ ((buildT vs.length fs).fan) v) j))).Z)] : List AV) = [.int .i64 ((addV (vertA vs (buildT vs.length fs).ed ((at_ (buildT vs.length fs).fan v).length : Int) v m) (sumL (((at_ (buildT vs.length fs).fan v).take (j + 1).toNat).map fun k => at_ (sumsU vs fs f) k))).X), .int .i64 ((addV (vertA vs (buildT vs.length fs).ed ((at_ (buildT vs.length fs).fan v).length : Int) v m) (sumL (((at_ (buildT vs.length fs).fan v).take (j + 1).toNat).map fun k => at_ (sumsU vs fs f) k))).Y), .int .i64 ((addV (vertA vs (buildT vs.length fs).ed ((at_ (buildT vs.length fs).fan v).length : Int) v m) (sumL (((at_ (buildT vs.length fs).fan v).take (j + 1).toNat).map fun k => at_ (sumsU vs fs f) k))).Z)] from by first | (rw [addV_assoc, ← sum_step hj0 (by omega), addL_1]) | exact (addV_zero _).symm | (rw [addV_zero]) | (simp only [Int.toNat_zero, List.take_zero, List.map_nil, sumL_nil, addV_zero]) | rfl | exact vertA_0 | (rw [vertA_0])))), m318, by omega, by omega, by exact sum_inG hj0 (by omega) hin3 hsj⟩
               ·
                refine AWP.condF rfl (decide_eq_false b309) ?_
                refine AWP.exit ?_
                change AWP _ _ _ _ _ _
                refine AWP.seq ?_
                have hA56 : inV 2305843009213693952 (addV (vertA vs (buildT vs.length fs).ed ((at_ (buildT vs.length fs).fan v).length : Int) v m) (sumL (((at_ (buildT vs.length fs).fan v).take j.toNat).map fun k => at_ (sumsU vs fs f) k))) := inV_le (inV_add hin2 hin3) (by omega)
                have hq2 := mul_rng (x := 840 * ((at_ (buildT vs.length fs).fan v).length : Int)) (k := ((at_ (buildT vs.length fs).fan v).length : Int)) (a := 840000) (c := 1000) (by omega) (by omega)
                have hq3 := Int.mul_nonneg (a := 840 * ((at_ (buildT vs.length fs).fan v).length : Int)) (b := ((at_ (buildT vs.length fs).fan v).length : Int)) (by omega) (by omega)
                have hn56_ := fun g => N.vert (v := v) (m := m) (j := j) (i := f) hv0 (by omega) (by omega) (by omega) (by omega) g
                have hpv := N.p _ (at_mem (l := (levelR vs fs cr).1.Verts) hv0 (by omega))
                have hvv2 := N.v _ (at_mem (l := vs) hv0 (by omega))
                skip
                refine AWP.region_quiet mixed (by kernel_rfl) 33 [] rfl (by kernel_rfl) (Mono H295) (Mono.refl _) ?_
                refine QE.op rfl rfl (.inl ⟨rfl, fun f' H' hf hM => AOp.move (.int .i64 ((hardF (sharpR (buildT vs.length fs) cr).1 (adjU (buildT vs.length fs).ed m v)).length : Int)) rfl ((hf 21 rfl).trans s298) ⟨rfl, hM⟩⟩) ?_
                refine QE.op rfl rfl (.inl ⟨rfl, fun f' H' hf hM => AOp.bin (.bool (decide (((hardF (sharpR (buildT vs.length fs) cr).1 (adjU (buildT vs.length fs).ed m v)).length : Int) < 2))) rfl ((hf 285 rfl).trans rfl) rfl rfl ⟨rfl, hM⟩⟩) ?_
                refine QE.op rfl rfl (.inl ⟨rfl, fun f' H' hf hM => AOp.move (.bool (decide (((hardF (sharpR (buildT vs.length fs) cr).1 (adjU (buildT vs.length fs).ed m v)).length : Int) < 2))) rfl ((hf 286 rfl).trans rfl) ⟨rfl, hM⟩⟩) ?_
                by_cases b319 : ((hardF (sharpR (buildT vs.length fs) cr).1 (adjU (buildT vs.length fs).ed m v)).length : Int) < 2
                ·
                 refine QE.op rfl rfl (QOp.yes rfl rfl rfl rfl (decide_eq_true b319) fun f' H' hf hM => AOp.fieldAddrF rfl ((hf 4 rfl).trans s301) fl_26_0 ⟨rfl, hM⟩) ?_
                 refine QE.op rfl rfl (QOp.yes rfl rfl rfl rfl (decide_eq_true b319) fun f' H' hf hM => AOp.loadF (.sl ((levelR vs fs cr).1.Verts).length (((levelR vs fs cr).1.Verts).flatMap eV)) rfl ((hf 288 rfl).trans rfl) ty_22 rfl ⟨rfl, hM⟩) ?_
                 refine QE.op rfl rfl (QOp.yes rfl rfl rfl rfl (decide_eq_true b319) fun f' H' hf hM => AOp.move (.int .i64 v) rfl ((hf 19 rfl).trans s299) ⟨rfl, hM⟩) ?_
                 refine QE.op rfl rfl (QOp.yes rfl rfl rfl rfl (decide_eq_true b319) fun f' H' hf hM => AOp.indexAddrS rfl ((hf 289 rfl).trans rfl) ((hf 290 rfl).trans rfl) sl_22 (by omega) (by omega) ⟨rfl, hM⟩) ?_
                 refine QE.op rfl rfl (QOp.yes rfl rfl rfl rfl (decide_eq_true b319) fun f' H' hf hM => AOp.loadF (.agg [.int .i64 ((at_ ((levelR vs fs cr).1.Verts) v).X), .int .i64 ((at_ ((levelR vs fs cr).1.Verts) v).Y), .int .i64 ((at_ ((levelR vs fs cr).1.Verts) v).Z)]) rfl ((hf 291 rfl).trans rfl) ty_42 (ldM eV_len (by omega) (by omega)) ⟨rfl, hM⟩) ?_
                 refine QE.op rfl rfl (QOp.yes rfl rfl rfl rfl (decide_eq_true b319) fun f' H' hf hM => AOp.load (.agg [.int .i64 ((addV (vertA vs (buildT vs.length fs).ed ((at_ (buildT vs.length fs).fan v).length : Int) v m) (sumL (((at_ (buildT vs.length fs).fan v).take j.toNat).map fun k => at_ (sumsU vs fs f) k))).X), .int .i64 ((addV (vertA vs (buildT vs.length fs).ed ((at_ (buildT vs.length fs).fan v).length : Int) v m) (sumL (((at_ (buildT vs.length fs).fan v).take j.toNat).map fun k => at_ (sumsU vs fs f) k))).Y), .int .i64 ((addV (vertA vs (buildT vs.length fs).ed ((at_ (buildT vs.length fs).fan v).length : Int) v m) (sumL (((at_ (buildT vs.length fs).fan v).take j.toNat).map fun k => at_ (sumsU vs fs f) k))).Z)]) rfl ((hf 22 rfl).trans s306) ty_42 (hM _ _ h307) rfl ⟨rfl, hM⟩) ?_
                 refine QE.op rfl rfl (QOp.yes rfl rfl rfl rfl (decide_eq_true b319) fun f' H' hf hM => AOp.move (.int .i64 (((at_ ((buildT vs.length fs).fan) v).length) : Int)) rfl ((hf 20 rfl).trans s305) ⟨rfl, hM⟩) ?_
                 refine QE.op rfl rfl (QOp.yes rfl rfl rfl rfl (decide_eq_true b319) fun f' H' hf hM => AOp.bin (.int .i64 (840 * (((at_ ((buildT vs.length fs).fan) v).length) : Int))) rfl rfl ((hf 294 rfl).trans rfl) (imul (by omega)) ⟨rfl, hM⟩) ?_
                 refine QE.op rfl rfl (QOp.yes rfl rfl rfl rfl (decide_eq_true b319) fun f' H' hf hM => AOp.move (.int .i64 (((at_ ((buildT vs.length fs).fan) v).length) : Int)) rfl ((hf 20 rfl).trans s305) ⟨rfl, hM⟩) ?_
                 refine QE.op rfl rfl (QOp.yes rfl rfl rfl rfl (decide_eq_true b319) fun f' H' hf hM => AOp.bin (.int .i64 ((840 * (((at_ ((buildT vs.length fs).fan) v).length) : Int)) * (((at_ ((buildT vs.length fs).fan) v).length) : Int))) rfl ((hf 295 rfl).trans rfl) ((hf 296 rfl).trans rfl) (imul (by omega)) ⟨rfl, hM⟩) ?_
                 refine QE.op rfl rfl (QOp.yes rfl rfl rfl rfl (decide_eq_true b319) fun f' H' hf hM => AOp.pcall («as» := [.agg [.int .i64 ((at_ ((levelR vs fs cr).1.Verts) v).X), .int .i64 ((at_ ((levelR vs fs cr).1.Verts) v).Y), .int .i64 ((at_ ((levelR vs fs cr).1.Verts) v).Z)], .agg [.int .i64 ((addV (vertA vs (buildT vs.length fs).ed ((at_ (buildT vs.length fs).fan v).length : Int) v m) (sumL (((at_ (buildT vs.length fs).fan v).take j.toNat).map fun k => at_ (sumsU vs fs f) k))).X), .int .i64 ((addV (vertA vs (buildT vs.length fs).ed ((at_ (buildT vs.length fs).fan v).length : Int) v m) (sumL (((at_ (buildT vs.length fs).fan v).take j.toNat).map fun k => at_ (sumsU vs fs f) k))).Y), .int .i64 ((addV (vertA vs (buildT vs.length fs).ed ((at_ (buildT vs.length fs).fan v).length : Int) v m) (sumL (((at_ (buildT vs.length fs).fan v).take j.toNat).map fun k => at_ (sumsU vs fs f) k))).Z)], .int .i64 ((840 * (((at_ ((buildT vs.length fs).fan) v).length) : Int)) * (((at_ ((buildT vs.length fs).fan) v).length) : Int))]) rfl rfl (lapp (lcons ((hf 292 rfl).trans rfl) (lcons ((hf 293 rfl).trans rfl) (lcons ((hf 297 rfl).trans rfl) rfl))) rfl) tf_20 (c_nearV _ _ _ (hn56_ b319) (near_x (hn56_ b319) (inV_add hin2 hin3) (by omega) (by omega)) hA56) fun H2 m2 => ⟨rfl, hM.trans m2⟩) ?_
                 refine QE.op rfl rfl (QOp.yes rfl rfl rfl rfl (decide_eq_true b319) fun f' H' hf hM => AOp.not rfl ((hf 298 rfl).trans rfl) ⟨rfl, hM⟩) ?_
                 refine QE.op rfl rfl (.inl ⟨rfl, fun f' H' hf hM => AOp.pickT (.bool (!true)) rfl ((hf 287 rfl).trans rfl) (decide_eq_true b319) ((hf 299 rfl).trans rfl) ⟨rfl, hM⟩⟩) ?_
                 refine QE.op rfl rfl (.inl ⟨rfl, fun f' H' hf hM => AOp.move (.bool (!true)) rfl ((hf 300 rfl).trans rfl) ⟨rfl, hM⟩⟩) ?_
                 refine QE.op rfl rfl (QOp.yes rfl rfl rfl rfl rfl fun f' H' hf hM => AOp.move (.int .i64 ((hardF (sharpR (buildT vs.length fs) cr).1 (adjU (buildT vs.length fs).ed m v)).length : Int)) rfl ((hf 21 rfl).trans s298) ⟨rfl, hM⟩) ?_
                 refine QE.op rfl rfl (QOp.yes rfl rfl rfl rfl rfl fun f' H' hf hM => AOp.bin (.bool (decide (((hardF (sharpR (buildT vs.length fs) cr).1 (adjU (buildT vs.length fs).ed m v)).length : Int) > 2))) rfl ((hf 302 rfl).trans rfl) rfl rfl ⟨rfl, hM⟩) ?_
                 refine QE.op rfl rfl (QOp.yes rfl rfl rfl rfl rfl fun f' H' hf hM => AOp.move (.bool (decide (((hardF (sharpR (buildT vs.length fs) cr).1 (adjU (buildT vs.length fs).ed m v)).length : Int) > 2))) rfl ((hf 303 rfl).trans rfl) ⟨rfl, hM⟩) ?_
                 by_cases b320 : ((hardF (sharpR (buildT vs.length fs) cr).1 (adjU (buildT vs.length fs).ed m v)).length : Int) > 2
                 ·
                  refine QE.op rfl rfl (QOp.yes rfl rfl rfl rfl (decide_eq_true b320) fun f' H' hf hM => AOp.fieldAddrF rfl ((hf 4 rfl).trans s301) fl_26_0 ⟨rfl, hM⟩) ?_
                  refine QE.op rfl rfl (QOp.yes rfl rfl rfl rfl (decide_eq_true b320) fun f' H' hf hM => AOp.loadF (.sl ((levelR vs fs cr).1.Verts).length (((levelR vs fs cr).1.Verts).flatMap eV)) rfl ((hf 305 rfl).trans rfl) ty_22 rfl ⟨rfl, hM⟩) ?_
                  refine QE.op rfl rfl (QOp.yes rfl rfl rfl rfl (decide_eq_true b320) fun f' H' hf hM => AOp.move (.int .i64 v) rfl ((hf 19 rfl).trans s299) ⟨rfl, hM⟩) ?_
                  refine QE.op rfl rfl (QOp.yes rfl rfl rfl rfl (decide_eq_true b320) fun f' H' hf hM => AOp.indexAddrS rfl ((hf 306 rfl).trans rfl) ((hf 307 rfl).trans rfl) sl_22 (by omega) (by omega) ⟨rfl, hM⟩) ?_
                  refine QE.op rfl rfl (QOp.yes rfl rfl rfl rfl (decide_eq_true b320) fun f' H' hf hM => AOp.loadF (.agg [.int .i64 ((at_ ((levelR vs fs cr).1.Verts) v).X), .int .i64 ((at_ ((levelR vs fs cr).1.Verts) v).Y), .int .i64 ((at_ ((levelR vs fs cr).1.Verts) v).Z)]) rfl ((hf 308 rfl).trans rfl) ty_42 (ldM eV_len (by omega) (by omega)) ⟨rfl, hM⟩) ?_
                  refine QE.op rfl rfl (QOp.yes rfl rfl rfl rfl (decide_eq_true b320) fun f' H' hf hM => AOp.fieldAddrF rfl ((hf 1 rfl).trans s300) fl_26_0 ⟨rfl, hM⟩) ?_
                  refine QE.op rfl rfl (QOp.yes rfl rfl rfl rfl (decide_eq_true b320) fun f' H' hf hM => AOp.loadF (.sl vs.length (vs.flatMap eV)) rfl ((hf 310 rfl).trans rfl) ty_22 rfl ⟨rfl, hM⟩) ?_
                  refine QE.op rfl rfl (QOp.yes rfl rfl rfl rfl (decide_eq_true b320) fun f' H' hf hM => AOp.move (.int .i64 v) rfl ((hf 19 rfl).trans s299) ⟨rfl, hM⟩) ?_
                  refine QE.op rfl rfl (QOp.yes rfl rfl rfl rfl (decide_eq_true b320) fun f' H' hf hM => AOp.indexAddrS rfl ((hf 311 rfl).trans rfl) ((hf 312 rfl).trans rfl) sl_22 (by omega) (by omega) ⟨rfl, hM⟩) ?_
                  refine QE.op rfl rfl (QOp.yes rfl rfl rfl rfl (decide_eq_true b320) fun f' H' hf hM => AOp.loadF (.agg [.int .i64 ((at_ vs v).X), .int .i64 ((at_ vs v).Y), .int .i64 ((at_ vs v).Z)]) rfl ((hf 313 rfl).trans rfl) ty_42 (ldM eV_len (by omega) (by omega)) ⟨rfl, hM⟩) ?_
                  refine QE.op rfl rfl (QOp.yes rfl rfl rfl rfl (decide_eq_true b320) fun f' H' hf hM => AOp.neAggD rfl ((hf 309 rfl).trans rfl) ((hf 314 rfl).trans rfl) teq42 (kokV (v := (at_ ((levelR vs fs cr).1.Verts) v)) (by have h1 := hpv; have h2 := hvv2; unfold inV at h1 h2; exact ⟨by unfold inR; omega, by unfold inR; omega, by unfold inR; omega⟩)) (kokV (v := (at_ vs v)) (by have h1 := hpv; have h2 := hvv2; unfold inV at h1 h2; exact ⟨by unfold inR; omega, by unfold inR; omega, by unfold inR; omega⟩)) (eV_iff (at_ ((levelR vs fs cr).1.Verts) v) (at_ vs v)) ⟨rfl, hM⟩) ?_
                  refine QE.op rfl rfl (QOp.yes rfl rfl rfl rfl rfl fun f' H' hf hM => AOp.pickT (.bool (!decide ((at_ ((levelR vs fs cr).1.Verts) v) = (at_ vs v)))) rfl ((hf 304 rfl).trans rfl) (decide_eq_true b320) ((hf 315 rfl).trans rfl) ⟨rfl, hM⟩) ?_
                  refine QE.op rfl rfl (.inl ⟨rfl, fun f' H' hf hM => AOp.pickF (.bool (!decide ((at_ ((levelR vs fs cr).1.Verts) v) = (at_ vs v)))) rfl ((hf 301 rfl).trans rfl) rfl ((hf 316 rfl).trans rfl) ⟨rfl, hM⟩⟩) ?_
                  refine QE.done fun H321 m322 => ?_
                  have h323 := m322 _ _ h307
                  have m324 := m308.trans m322
                  refine AOps.nil ?_
                  change AWP _ _ _ _ _ _
                  by_cases b325 : (at_ ((levelR vs fs cr).1.Verts) v) = (at_ vs v)
                  ·
                   refine AWP.condF rfl (nb (decide_eq_true b325)) ?_
                   refine AWP.skip ?_
                   change AWP _ _ _ _ _ _
                   refine AWP.region (l := [0, 1, 2]) rfl ?_
                   refine AOps.cons rfl rfl (AOp.move (.int .i64 v) rfl s299 ?_)
                   refine AOps.cons rfl rfl (AOp.bin (.int .i64 (v + 1)) rfl rfl rfl (iadd (by omega)) ?_)
                   refine AOps.cons rfl rfl (AOp.assign (.int .i64 (v + 1)) rfl rfl ?_)
                   refine AOps.nil ?_
                   exact ⟨_, by omega, v + 1, rfl, rfl, s300, s301, s302, s303, s304, m324, by omega, by omega⟩
                  ·
                   refine AWP.condT rfl (nb (decide_eq_false b325)) ?_
                   refine AWP.seq ?_
                   refine AWP.region (l := [0]) rfl ?_
                   refine AOps.cons rfl rfl (AOp.assign (.bool false) rfl rfl ?_)
                   refine AOps.nil ?_
                   change AWP _ _ _ _ _ _
                   refine AWP.ret ?_
                   refine ⟨_, _, Ghost.refl, .inr rfl, _, Res.one rfl rfl, ?_, m324⟩
                   exact (congrArg AV.bool (show (false : Bool) = true from by exact absurd (N.stay (m := m) hv0 (by omega) (by omega) b320) b325))
                 ·
                  refine QE.op rfl rfl (QOp.no rfl rfl rfl rfl (ble_of (decide_eq_false b320) (by decide)) rfl) ?_
                  refine QE.op rfl rfl (QOp.no rfl rfl rfl rfl (ble_of (decide_eq_false b320) (by decide)) rfl) ?_
                  refine QE.op rfl rfl (QOp.no rfl rfl rfl rfl (ble_of (decide_eq_false b320) (by decide)) rfl) ?_
                  refine QE.op rfl rfl (QOp.no rfl rfl rfl rfl (ble_of (decide_eq_false b320) (by decide)) rfl) ?_
                  refine QE.op rfl rfl (QOp.no rfl rfl rfl rfl (ble_of (decide_eq_false b320) (by decide)) rfl) ?_
                  refine QE.op rfl rfl (QOp.no rfl rfl rfl rfl (ble_of (decide_eq_false b320) (by decide)) rfl) ?_
                  refine QE.op rfl rfl (QOp.no rfl rfl rfl rfl (ble_of (decide_eq_false b320) (by decide)) rfl) ?_
                  refine QE.op rfl rfl (QOp.no rfl rfl rfl rfl (ble_of (decide_eq_false b320) (by decide)) rfl) ?_
                  refine QE.op rfl rfl (QOp.no rfl rfl rfl rfl (ble_of (decide_eq_false b320) (by decide)) rfl) ?_
                  refine QE.op rfl rfl (QOp.no rfl rfl rfl rfl (ble_of (decide_eq_false b320) (by decide)) rfl) ?_
                  refine QE.op rfl rfl (QOp.no rfl rfl rfl rfl (ble_of (decide_eq_false b320) (by decide)) rfl) ?_
                  refine QE.op rfl rfl (QOp.yes rfl rfl rfl rfl rfl fun f' H' hf hM => AOp.pickF (.bool false) rfl ((hf 304 rfl).trans rfl) (decide_eq_false b320) rfl ⟨rfl, hM⟩) ?_
                  refine QE.op rfl rfl (.inl ⟨rfl, fun f' H' hf hM => AOp.pickF (.bool false) rfl ((hf 301 rfl).trans rfl) rfl ((hf 316 rfl).trans rfl) ⟨rfl, hM⟩⟩) ?_
                  refine QE.done fun H326 m327 => ?_
                  have h328 := m327 _ _ h307
                  have m329 := m308.trans m327
                  refine AOps.nil ?_
                  change AWP _ _ _ _ _ _
                  refine AWP.condF rfl rfl ?_
                  refine AWP.skip ?_
                  change AWP _ _ _ _ _ _
                  refine AWP.region (l := [0, 1, 2]) rfl ?_
                  refine AOps.cons rfl rfl (AOp.move (.int .i64 v) rfl s299 ?_)
                  refine AOps.cons rfl rfl (AOp.bin (.int .i64 (v + 1)) rfl rfl rfl (iadd (by omega)) ?_)
                  refine AOps.cons rfl rfl (AOp.assign (.int .i64 (v + 1)) rfl rfl ?_)
                  refine AOps.nil ?_
                  exact ⟨_, by omega, v + 1, rfl, rfl, s300, s301, s302, s303, s304, m329, by omega, by omega⟩
                ·
                 refine QE.op rfl rfl (QOp.no rfl rfl rfl rfl (ble_of (decide_eq_false b319) (by decide)) rfl) ?_
                 refine QE.op rfl rfl (QOp.no rfl rfl rfl rfl (ble_of (decide_eq_false b319) (by decide)) rfl) ?_
                 refine QE.op rfl rfl (QOp.no rfl rfl rfl rfl (ble_of (decide_eq_false b319) (by decide)) rfl) ?_
                 refine QE.op rfl rfl (QOp.no rfl rfl rfl rfl (ble_of (decide_eq_false b319) (by decide)) rfl) ?_
                 refine QE.op rfl rfl (QOp.no rfl rfl rfl rfl (ble_of (decide_eq_false b319) (by decide)) rfl) ?_
                 refine QE.op rfl rfl (QOp.no rfl rfl rfl rfl (ble_of (decide_eq_false b319) (by decide)) rfl) ?_
                 refine QE.op rfl rfl (QOp.no rfl rfl rfl rfl (ble_of (decide_eq_false b319) (by decide)) rfl) ?_
                 refine QE.op rfl rfl (QOp.no rfl rfl rfl rfl (ble_of (decide_eq_false b319) (by decide)) rfl) ?_
                 refine QE.op rfl rfl (QOp.no rfl rfl rfl rfl (ble_of (decide_eq_false b319) (by decide)) rfl) ?_
                 refine QE.op rfl rfl (QOp.no rfl rfl rfl rfl (ble_of (decide_eq_false b319) (by decide)) rfl) ?_
                 refine QE.op rfl rfl (QOp.no rfl rfl rfl rfl (ble_of (decide_eq_false b319) (by decide)) rfl) ?_
                 refine QE.op rfl rfl (QOp.no rfl rfl rfl rfl (ble_of (decide_eq_false b319) (by decide)) rfl) ?_
                 refine QE.op rfl rfl (.inl ⟨rfl, fun f' H' hf hM => AOp.pickF (.bool false) rfl ((hf 287 rfl).trans rfl) (decide_eq_false b319) rfl ⟨rfl, hM⟩⟩) ?_
                 refine QE.op rfl rfl (.inl ⟨rfl, fun f' H' hf hM => AOp.move (.bool false) rfl ((hf 300 rfl).trans rfl) ⟨rfl, hM⟩⟩) ?_
                 refine QE.op rfl rfl (QOp.yes rfl rfl rfl rfl rfl fun f' H' hf hM => AOp.move (.int .i64 ((hardF (sharpR (buildT vs.length fs) cr).1 (adjU (buildT vs.length fs).ed m v)).length : Int)) rfl ((hf 21 rfl).trans s298) ⟨rfl, hM⟩) ?_
                 refine QE.op rfl rfl (QOp.yes rfl rfl rfl rfl rfl fun f' H' hf hM => AOp.bin (.bool (decide (((hardF (sharpR (buildT vs.length fs) cr).1 (adjU (buildT vs.length fs).ed m v)).length : Int) > 2))) rfl ((hf 302 rfl).trans rfl) rfl rfl ⟨rfl, hM⟩) ?_
                 refine QE.op rfl rfl (QOp.yes rfl rfl rfl rfl rfl fun f' H' hf hM => AOp.move (.bool (decide (((hardF (sharpR (buildT vs.length fs) cr).1 (adjU (buildT vs.length fs).ed m v)).length : Int) > 2))) rfl ((hf 303 rfl).trans rfl) ⟨rfl, hM⟩) ?_
                 by_cases b330 : ((hardF (sharpR (buildT vs.length fs) cr).1 (adjU (buildT vs.length fs).ed m v)).length : Int) > 2
                 ·
                  refine QE.op rfl rfl (QOp.yes rfl rfl rfl rfl (decide_eq_true b330) fun f' H' hf hM => AOp.fieldAddrF rfl ((hf 4 rfl).trans s301) fl_26_0 ⟨rfl, hM⟩) ?_
                  refine QE.op rfl rfl (QOp.yes rfl rfl rfl rfl (decide_eq_true b330) fun f' H' hf hM => AOp.loadF (.sl ((levelR vs fs cr).1.Verts).length (((levelR vs fs cr).1.Verts).flatMap eV)) rfl ((hf 305 rfl).trans rfl) ty_22 rfl ⟨rfl, hM⟩) ?_
                  refine QE.op rfl rfl (QOp.yes rfl rfl rfl rfl (decide_eq_true b330) fun f' H' hf hM => AOp.move (.int .i64 v) rfl ((hf 19 rfl).trans s299) ⟨rfl, hM⟩) ?_
                  refine QE.op rfl rfl (QOp.yes rfl rfl rfl rfl (decide_eq_true b330) fun f' H' hf hM => AOp.indexAddrS rfl ((hf 306 rfl).trans rfl) ((hf 307 rfl).trans rfl) sl_22 (by omega) (by omega) ⟨rfl, hM⟩) ?_
                  refine QE.op rfl rfl (QOp.yes rfl rfl rfl rfl (decide_eq_true b330) fun f' H' hf hM => AOp.loadF (.agg [.int .i64 ((at_ ((levelR vs fs cr).1.Verts) v).X), .int .i64 ((at_ ((levelR vs fs cr).1.Verts) v).Y), .int .i64 ((at_ ((levelR vs fs cr).1.Verts) v).Z)]) rfl ((hf 308 rfl).trans rfl) ty_42 (ldM eV_len (by omega) (by omega)) ⟨rfl, hM⟩) ?_
                  refine QE.op rfl rfl (QOp.yes rfl rfl rfl rfl (decide_eq_true b330) fun f' H' hf hM => AOp.fieldAddrF rfl ((hf 1 rfl).trans s300) fl_26_0 ⟨rfl, hM⟩) ?_
                  refine QE.op rfl rfl (QOp.yes rfl rfl rfl rfl (decide_eq_true b330) fun f' H' hf hM => AOp.loadF (.sl vs.length (vs.flatMap eV)) rfl ((hf 310 rfl).trans rfl) ty_22 rfl ⟨rfl, hM⟩) ?_
                  refine QE.op rfl rfl (QOp.yes rfl rfl rfl rfl (decide_eq_true b330) fun f' H' hf hM => AOp.move (.int .i64 v) rfl ((hf 19 rfl).trans s299) ⟨rfl, hM⟩) ?_
                  refine QE.op rfl rfl (QOp.yes rfl rfl rfl rfl (decide_eq_true b330) fun f' H' hf hM => AOp.indexAddrS rfl ((hf 311 rfl).trans rfl) ((hf 312 rfl).trans rfl) sl_22 (by omega) (by omega) ⟨rfl, hM⟩) ?_
                  refine QE.op rfl rfl (QOp.yes rfl rfl rfl rfl (decide_eq_true b330) fun f' H' hf hM => AOp.loadF (.agg [.int .i64 ((at_ vs v).X), .int .i64 ((at_ vs v).Y), .int .i64 ((at_ vs v).Z)]) rfl ((hf 313 rfl).trans rfl) ty_42 (ldM eV_len (by omega) (by omega)) ⟨rfl, hM⟩) ?_
                  refine QE.op rfl rfl (QOp.yes rfl rfl rfl rfl (decide_eq_true b330) fun f' H' hf hM => AOp.neAggD rfl ((hf 309 rfl).trans rfl) ((hf 314 rfl).trans rfl) teq42 (kokV (v := (at_ ((levelR vs fs cr).1.Verts) v)) (by have h1 := hpv; have h2 := hvv2; unfold inV at h1 h2; exact ⟨by unfold inR; omega, by unfold inR; omega, by unfold inR; omega⟩)) (kokV (v := (at_ vs v)) (by have h1 := hpv; have h2 := hvv2; unfold inV at h1 h2; exact ⟨by unfold inR; omega, by unfold inR; omega, by unfold inR; omega⟩)) (eV_iff (at_ ((levelR vs fs cr).1.Verts) v) (at_ vs v)) ⟨rfl, hM⟩) ?_
                  refine QE.op rfl rfl (QOp.yes rfl rfl rfl rfl rfl fun f' H' hf hM => AOp.pickT (.bool (!decide ((at_ ((levelR vs fs cr).1.Verts) v) = (at_ vs v)))) rfl ((hf 304 rfl).trans rfl) (decide_eq_true b330) ((hf 315 rfl).trans rfl) ⟨rfl, hM⟩) ?_
                  refine QE.op rfl rfl (.inl ⟨rfl, fun f' H' hf hM => AOp.pickF (.bool (!decide ((at_ ((levelR vs fs cr).1.Verts) v) = (at_ vs v)))) rfl ((hf 301 rfl).trans rfl) rfl ((hf 316 rfl).trans rfl) ⟨rfl, hM⟩⟩) ?_
                  refine QE.done fun H331 m332 => ?_
                  have h333 := m332 _ _ h307
                  have m334 := m308.trans m332
                  refine AOps.nil ?_
                  change AWP _ _ _ _ _ _
                  by_cases b335 : (at_ ((levelR vs fs cr).1.Verts) v) = (at_ vs v)
                  ·
                   refine AWP.condF rfl (nb (decide_eq_true b335)) ?_
                   refine AWP.skip ?_
                   change AWP _ _ _ _ _ _
                   refine AWP.region (l := [0, 1, 2]) rfl ?_
                   refine AOps.cons rfl rfl (AOp.move (.int .i64 v) rfl s299 ?_)
                   refine AOps.cons rfl rfl (AOp.bin (.int .i64 (v + 1)) rfl rfl rfl (iadd (by omega)) ?_)
                   refine AOps.cons rfl rfl (AOp.assign (.int .i64 (v + 1)) rfl rfl ?_)
                   refine AOps.nil ?_
                   exact ⟨_, by omega, v + 1, rfl, rfl, s300, s301, s302, s303, s304, m334, by omega, by omega⟩
                  ·
                   refine AWP.condT rfl (nb (decide_eq_false b335)) ?_
                   refine AWP.seq ?_
                   refine AWP.region (l := [0]) rfl ?_
                   refine AOps.cons rfl rfl (AOp.assign (.bool false) rfl rfl ?_)
                   refine AOps.nil ?_
                   change AWP _ _ _ _ _ _
                   refine AWP.ret ?_
                   refine ⟨_, _, Ghost.refl, .inr rfl, _, Res.one rfl rfl, ?_, m334⟩
                   exact (congrArg AV.bool (show (false : Bool) = true from by exact absurd (N.stay (m := m) hv0 (by omega) (by omega) b330) b335))
                 ·
                  refine QE.op rfl rfl (QOp.no rfl rfl rfl rfl (ble_of (decide_eq_false b330) (by decide)) rfl) ?_
                  refine QE.op rfl rfl (QOp.no rfl rfl rfl rfl (ble_of (decide_eq_false b330) (by decide)) rfl) ?_
                  refine QE.op rfl rfl (QOp.no rfl rfl rfl rfl (ble_of (decide_eq_false b330) (by decide)) rfl) ?_
                  refine QE.op rfl rfl (QOp.no rfl rfl rfl rfl (ble_of (decide_eq_false b330) (by decide)) rfl) ?_
                  refine QE.op rfl rfl (QOp.no rfl rfl rfl rfl (ble_of (decide_eq_false b330) (by decide)) rfl) ?_
                  refine QE.op rfl rfl (QOp.no rfl rfl rfl rfl (ble_of (decide_eq_false b330) (by decide)) rfl) ?_
                  refine QE.op rfl rfl (QOp.no rfl rfl rfl rfl (ble_of (decide_eq_false b330) (by decide)) rfl) ?_
                  refine QE.op rfl rfl (QOp.no rfl rfl rfl rfl (ble_of (decide_eq_false b330) (by decide)) rfl) ?_
                  refine QE.op rfl rfl (QOp.no rfl rfl rfl rfl (ble_of (decide_eq_false b330) (by decide)) rfl) ?_
                  refine QE.op rfl rfl (QOp.no rfl rfl rfl rfl (ble_of (decide_eq_false b330) (by decide)) rfl) ?_
                  refine QE.op rfl rfl (QOp.no rfl rfl rfl rfl (ble_of (decide_eq_false b330) (by decide)) rfl) ?_
                  refine QE.op rfl rfl (QOp.yes rfl rfl rfl rfl rfl fun f' H' hf hM => AOp.pickF (.bool false) rfl ((hf 304 rfl).trans rfl) (decide_eq_false b330) rfl ⟨rfl, hM⟩) ?_
                  refine QE.op rfl rfl (.inl ⟨rfl, fun f' H' hf hM => AOp.pickF (.bool false) rfl ((hf 301 rfl).trans rfl) rfl ((hf 316 rfl).trans rfl) ⟨rfl, hM⟩⟩) ?_
                  refine QE.done fun H336 m337 => ?_
                  have h338 := m337 _ _ h307
                  have m339 := m308.trans m337
                  refine AOps.nil ?_
                  change AWP _ _ _ _ _ _
                  refine AWP.condF rfl rfl ?_
                  refine AWP.skip ?_
                  change AWP _ _ _ _ _ _
                  refine AWP.region (l := [0, 1, 2]) rfl ?_
                  refine AOps.cons rfl rfl (AOp.move (.int .i64 v) rfl s299 ?_)
                  refine AOps.cons rfl rfl (AOp.bin (.int .i64 (v + 1)) rfl rfl rfl (iadd (by omega)) ?_)
                  refine AOps.cons rfl rfl (AOp.assign (.int .i64 (v + 1)) rfl rfl ?_)
                  refine AOps.nil ?_
                  exact ⟨_, by omega, v + 1, rfl, rfl, s300, s301, s302, s303, s304, m339, by omega, by omega⟩
           ·
            refine AWP.condF rfl (decide_eq_false b240) ?_
            refine AWP.exit ?_
            change AWP _ _ _ _ _ _
            refine AWP.seq ?_
            refine AWP.region (l := [0]) rfl ?_
            refine AOps.cons rfl rfl (AOp.assign (.bool true) rfl rfl ?_)
            refine AOps.nil ?_
            change AWP _ _ _ _ _ _
            refine AWP.ret ?_
            refine ⟨_, _, Ghost.refl, .inr rfl, _, Res.one rfl rfl, ?_, m239⟩
            exact rfl
     ·
      refine AWP.condT rfl (nb (decide_eq_false b63)) ?_
      refine AWP.seq ?_
      refine AWP.region (l := [0]) rfl ?_
      refine AOps.cons rfl rfl (AOp.assign (.bool true) rfl rfl ?_)
      refine AOps.nil ?_
      change AWP _ _ _ _ _ _
      refine AWP.ret ?_
      refine ⟨_, _, Ghost.refl, .inr rfl, _, Res.one rfl rfl, ?_, m60⟩
      exact rfl
    ·
     refine AOps.no rfl rfl rfl rfl rfl rfl rfl (ble_of (nb (decide_eq_false b62)) (by decide)) ?_
     refine AOps.no rfl rfl rfl rfl rfl rfl rfl (ble_of (nb (decide_eq_false b62)) (by decide)) ?_
     refine AOps.cons rfl rfl (AOp.pickT (.bool true) rfl rfl (nb (decide_eq_false b62)) rfl ?_)
     refine AOps.nil ?_
     change AWP _ _ _ _ _ _
     refine AWP.condT rfl rfl ?_
     refine AWP.seq ?_
     refine AWP.region (l := [0]) rfl ?_
     refine AOps.cons rfl rfl (AOp.assign (.bool true) rfl rfl ?_)
     refine AOps.nil ?_
     change AWP _ _ _ _ _ _
     refine AWP.ret ?_
     refine ⟨_, _, Ghost.refl, .inr rfl, _, Res.one rfl rfl, ?_, m60⟩
     exact rfl
end Go.Proofs.U
