/- A part of the proof that a law answers true for every input of its row: own work, by an AI agent. -/
import Derived.Test.YtcpepibkopbhgaaDoorB01
set_option linter.unusedSimpArgs false
set_option linter.unusedVariables false
namespace Go.Proofs.L
open Go Go.AH
set_option maxRecDepth 4000
set_option linter.unusedSimpArgs false
set_option linter.unusedVariables false
variable [LexG]
theorem c_LexBehind (s t : ByteArray) : PC Tryd.prog 6 [.str s, .str t] (.bool true) := by
 intro H0
 refine ACalls.of_body' (n := 101) rfl rfl rfl rfl ?_
 have m0 := Mono.refl H0
 refine AWP.seq ?_
 refine AWP.region (l := [0]) rfl ?_
 refine AOps.cons rfl rfl (AOp.assign (.bool false) rfl rfl ?_)
 refine AOps.nil ?_
 change AWP _ _ _ _ _ _
 refine AWP.seq ?_
 refine AWP.seq ?_
 refine AWP.region (l := [0, 1]) rfl ?_
 refine AOps.cons rfl rfl (AOp.pcall («as» := []) rfl rfl (rfl) tf_9 (c_alive) ?_)
 intro H1 m2
 have m3 := m0.trans m2
 refine AOps.cons rfl rfl (AOp.not rfl rfl ?_)
 refine AOps.nil ?_
 change AWP _ _ _ _ _ _
 refine AWP.condF rfl rfl ?_
 refine AWP.skip ?_
 change AWP _ _ _ _ _ _
 refine AWP.seq ?_
 refine AWP.seq ?_
 refine AWP.region (l := [0, 1, 2, 3, 4, 5, 6, 7]) rfl ?_
 refine AOps.cons rfl rfl (AOp.move (.str s) rfl rfl ?_)
 refine AOps.cons rfl rfl (AOp.lenStr rfl rfl u_9 ?_)
 refine AOps.cons rfl rfl (AOp.bin (.bool (decide ((s.size : Int) > 3000))) rfl rfl rfl rfl ?_)
 refine AOps.cons rfl rfl (AOp.move (.bool (decide ((s.size : Int) > 3000))) rfl rfl ?_)
 by_cases b4 : (s.size : Int) > 3000
 ·
  refine AOps.no rfl rfl rfl rfl rfl rfl rfl (ble_of (decide_eq_true b4) (by decide)) ?_
  refine AOps.no rfl rfl rfl rfl rfl rfl rfl (ble_of (decide_eq_true b4) (by decide)) ?_
  refine AOps.no rfl rfl rfl rfl rfl rfl rfl (ble_of (decide_eq_true b4) (by decide)) ?_
  refine AOps.cons rfl rfl (AOp.pickT (.bool true) rfl rfl (decide_eq_true b4) rfl ?_)
  refine AOps.nil ?_
  change AWP _ _ _ _ _ _
  refine AWP.condT rfl rfl ?_
  refine AWP.seq ?_
  refine AWP.region (l := [0]) rfl ?_
  refine AOps.cons rfl rfl (AOp.assign (.bool true) rfl rfl ?_)
  refine AOps.nil ?_
  change AWP _ _ _ _ _ _
  refine AWP.ret ?_
  refine ⟨_, _, Ghost.refl, .inr rfl, _, Res.one rfl rfl, ?_, m3⟩
  exact rfl
 ·
  refine AOps.yes rfl rfl rfl rfl rfl rfl rfl (decide_eq_false b4) (AOp.move (.str t) rfl rfl ?_)
  refine AOps.yes rfl rfl rfl rfl rfl rfl rfl (decide_eq_false b4) (AOp.lenStr rfl rfl u_9 ?_)
  refine AOps.yes rfl rfl rfl rfl rfl rfl rfl (decide_eq_false b4) (AOp.bin (.bool (decide ((t.size : Int) > 3000))) rfl rfl rfl rfl ?_)
  refine AOps.cons rfl rfl (AOp.pickF (.bool (decide ((t.size : Int) > 3000))) rfl rfl (decide_eq_false b4) rfl ?_)
  refine AOps.nil ?_
  change AWP _ _ _ _ _ _
  by_cases b5 : (t.size : Int) > 3000
  ·
   refine AWP.condT rfl (decide_eq_true b5) ?_
   refine AWP.seq ?_
   refine AWP.region (l := [0]) rfl ?_
   refine AOps.cons rfl rfl (AOp.assign (.bool true) rfl rfl ?_)
   refine AOps.nil ?_
   change AWP _ _ _ _ _ _
   refine AWP.ret ?_
   refine ⟨_, _, Ghost.refl, .inr rfl, _, Res.one rfl rfl, ?_, m3⟩
   exact rfl
  ·
   refine AWP.condF rfl (decide_eq_false b5) ?_
   refine AWP.skip ?_
   change AWP _ _ _ _ _ _
   refine AWP.seq ?_
   refine AWP.region (l := [0, 1, 2, 3, 4, 5, 6, 7, 8]) rfl ?_
   refine AOps.cons rfl rfl (AOp.move (.str s) rfl rfl ?_)
   refine AOps.cons rfl rfl (AOp.xcall («as» := [.str s]) rfl rfl (rfl) tf_10 (c_lex_LinesO s) ?_)
   rintro _ H7 ⟨v6, o8, rfl, m9⟩
   have o10 := Own.base o8 m3
   have m11 := m3.trans m9
   refine AOps.cons rfl rfl (AOp.move (.tup [v6, .int .i64 ((linesR s).2.1), .int .i64 ((linesR s).2.2)]) rfl rfl ?_)
   refine AOps.cons rfl rfl (AOp.extract (v6) rfl rfl rfl ?_)
   refine AOps.cons rfl rfl (AOp.extract (.int .i64 ((linesR s).2.1)) rfl rfl rfl ?_)
   refine AOps.cons rfl rfl (AOp.extract (.int .i64 ((linesR s).2.2)) rfl rfl rfl ?_)
   refine AOps.cons rfl rfl (AOp.assign (v6) rfl rfl ?_)
   refine AOps.cons rfl rfl (AOp.assign (.int .i64 ((linesR s).2.1)) rfl rfl ?_)
   refine AOps.cons rfl rfl (AOp.assign (.int .i64 ((linesR s).2.2)) rfl rfl ?_)
   refine AOps.nil ?_
   change AWP _ _ _ _ _ _
   refine AWP.seq ?_
   refine AWP.region (l := [0, 1, 2, 3, 4, 5, 6, 7, 8]) rfl ?_
   refine AOps.cons rfl rfl (AOp.move (.str t) rfl rfl ?_)
   refine AOps.cons rfl rfl (AOp.xcall («as» := [.str t]) rfl rfl (rfl) tf_10 (c_lex_LinesO t) ?_)
   rintro _ H13 ⟨v12, o14, rfl, m15⟩
   have sp16 : Sep v12 v6 := (Sep.fresh o10 o14).symm
   have o17 := Own.base o14 m11
   have o18 := Own.mono o10 m15
   have m19 := m11.trans m15
   refine AOps.cons rfl rfl (AOp.move (.tup [v12, .int .i64 ((linesR t).2.1), .int .i64 ((linesR t).2.2)]) rfl rfl ?_)
   refine AOps.cons rfl rfl (AOp.extract (v12) rfl rfl rfl ?_)
   refine AOps.cons rfl rfl (AOp.extract (.int .i64 ((linesR t).2.1)) rfl rfl rfl ?_)
   refine AOps.cons rfl rfl (AOp.extract (.int .i64 ((linesR t).2.2)) rfl rfl rfl ?_)
   refine AOps.cons rfl rfl (AOp.assign (v12) rfl rfl ?_)
   refine AOps.cons rfl rfl (AOp.assign (.int .i64 ((linesR t).2.1)) rfl rfl ?_)
   refine AOps.cons rfl rfl (AOp.assign (.int .i64 ((linesR t).2.2)) rfl rfl ?_)
   refine AOps.nil ?_
   change AWP _ _ _ _ _ _
   refine AWP.seq ?_
   have hz1 : (⟨#[10]⟩ : ByteArray).size = 1 := rfl
   have hz2 : (s ++ ⟨#[10]⟩).size = s.size + 1 := ByteArray.size_append
   refine AWP.region (l := [0, 1, 2, 3, 4, 5, 6, 7, 8, 9, 10, 11]) rfl ?_
   refine AOps.cons rfl rfl (AOp.move (.str s) rfl rfl ?_)
   refine AOps.cons rfl rfl (AOp.sadd rfl rfl rfl (by omega) ?_)
   refine AOps.cons rfl rfl (AOp.move (.str t) rfl rfl ?_)
   refine AOps.cons rfl rfl (AOp.sadd rfl rfl rfl (by omega) ?_)
   refine AOps.cons rfl rfl (AOp.pcall («as» := [.str ((s ++ ⟨#[10]⟩) ++ t)]) rfl rfl (rfl) tf_10 (c_lines_join s t) ?_)
   intro H20 m21
   have o22 := Own.mono o18 m21
   have o23 := Own.mono o17 m21
   have m24 := m19.trans m21
   refine AOps.cons rfl rfl (AOp.move (.tup [.sl ((linesR (joinB s t)).1).length (((linesR (joinB s t)).1).flatMap eLine), .int .i64 ((linesR (joinB s t)).2.1), .int .i64 ((linesR (joinB s t)).2.2)]) rfl rfl ?_)
   refine AOps.cons rfl rfl (AOp.extract (.sl ((linesR (joinB s t)).1).length (((linesR (joinB s t)).1).flatMap eLine)) rfl rfl rfl ?_)
   refine AOps.cons rfl rfl (AOp.extract (.int .i64 ((linesR (joinB s t)).2.1)) rfl rfl rfl ?_)
   refine AOps.cons rfl rfl (AOp.extract (.int .i64 ((linesR (joinB s t)).2.2)) rfl rfl rfl ?_)
   refine AOps.cons rfl rfl (AOp.assign (.sl ((linesR (joinB s t)).1).length (((linesR (joinB s t)).1).flatMap eLine)) rfl rfl ?_)
   refine AOps.cons rfl rfl (AOp.assign (.int .i64 ((linesR (joinB s t)).2.1)) rfl rfl ?_)
   refine AOps.cons rfl rfl (AOp.assign (.int .i64 ((linesR (joinB s t)).2.2)) rfl rfl ?_)
   refine AOps.nil ?_
   change AWP _ _ _ _ _ _
   refine AWP.seq ?_
   refine AWP.seq ?_
   refine AWP.region (l := [0, 1]) rfl ?_
   refine AOps.cons rfl rfl (AOp.move (.int .i64 ((linesR s).2.2)) rfl rfl ?_)
   refine AOps.cons rfl rfl (AOp.bin (.bool (!decide ((linesR s).2.2 = 0))) rfl rfl rfl ine ?_)
   refine AOps.nil ?_
   change AWP _ _ _ _ _ _
   by_cases b25 : (linesR s).2.2 = 0
   ·
    refine AWP.condF rfl (nb (decide_eq_true b25)) ?_
    refine AWP.skip ?_
    change AWP _ _ _ _ _ _
    refine AWP.seq ?_
    refine AWP.region (l := [0]) rfl ?_
    refine AOps.cons rfl rfl (AOp.assign (.int .i64 1) rfl rfl ?_)
    refine AOps.nil ?_
    change AWP _ _ _ _ _ _
    refine AWP.seq ?_
    refine AWP.seq ?_
    refine AWP.region (l := [0]) rfl ?_
    refine AOps.cons rfl rfl (AOp.assign (.int .i64 0) rfl rfl ?_)
    refine AOps.nil ?_
    change AWP _ _ _ _ _ _
    refine AWP.block ?_
    refine AWP.loop (fun q26 fq Hq => ∃ (i : Int) (by_ : Int), q26 = ((s.size : Int) - i).toNat ∧ fq 15 = .int .i64 i ∧ fq 14 = .int .i64 by_ ∧ fq 0 = .str s ∧ fq 4 = .bool false ∧ fq 5 = v6 ∧ fq 8 = v12 ∧ fq 9 = .int .i64 ((linesR t).2.1) ∧ fq 10 = .int .i64 ((linesR t).2.2) ∧ fq 11 = .sl ((linesR (joinB s t)).1).length (((linesR (joinB s t)).1).flatMap eLine) ∧ fq 12 = .int .i64 ((linesR (joinB s t)).2.1) ∧ fq 13 = .int .i64 ((linesR (joinB s t)).2.2) ∧ Own H0 Hq 2 v6 ((((linesR s).1)).length) ((((linesR s).1)).flatMap eLine) ∧ Own H0 Hq 2 v12 ((((linesR t).1)).length) ((((linesR t).1)).flatMap eLine) ∧ Sep v6 v12 ∧ Mono H0 Hq ∧ (0 ≤ i) ∧ (i ≤ s.size) ∧ (by_ = cnt10 s i.toNat) ∧ (1 ≤ by_ ∧ by_ ≤ i + 1)) (k := ((s.size : Int) - 0).toNat) ?_ ?_
    ·
     exact ⟨0, 1, rfl, rfl, rfl, rfl, rfl, rfl, rfl, rfl, rfl, rfl, rfl, rfl, o22, o23, (Sep.symm sp16), m24, by omega, by omega, by rfl, by omega⟩
    ·
     rintro _ f28 H27 ⟨i, by_, rfl, s29, s30, s31, s32, s33, s34, s35, s36, s37, s38, s39, o40, o41, sp42, m43, hi0, hi1, hby, hbr⟩
     refine AWP.seq ?_
     refine AWP.seq ?_
     refine AWP.region (l := [0, 1, 2, 3]) rfl ?_
     refine AOps.cons rfl rfl (AOp.move (.int .i64 i) rfl s29 ?_)
     refine AOps.cons rfl rfl (AOp.move (.str s) rfl s31 ?_)
     refine AOps.cons rfl rfl (AOp.lenStr rfl rfl u_9 ?_)
     refine AOps.cons rfl rfl (AOp.bin (.bool (decide (i < (s.size : Int)))) rfl rfl rfl rfl ?_)
     refine AOps.nil ?_
     change AWP _ _ _ _ _ _
     by_cases b44 : i < (s.size : Int)
     ·
      refine AWP.condT rfl (decide_eq_true b44) ?_
      refine AWP.skip ?_
      change AWP _ _ _ _ _ _
      refine AWP.seq ?_
      refine AWP.block ?_
      refine AWP.seq ?_
      refine AWP.region (l := [0, 1, 2, 3]) rfl ?_
      refine AOps.cons rfl rfl (AOp.move (.str s) rfl s31 ?_)
      refine AOps.cons rfl rfl (AOp.move (.int .i64 i) rfl s29 ?_)
      have hb45 := byt_rng s i
      refine AOps.cons rfl rfl (AOp.indexB rfl rfl rfl u_9 (by omega) (by omega) ?_)
      refine AOps.cons rfl rfl (AOp.bin (.bool (decide (byt s i = 10))) rfl rfl rfl ieq ?_)
      refine AOps.nil ?_
      change AWP _ _ _ _ _ _
      by_cases b46 : byt s i = 10
      ·
       refine AWP.condT rfl (decide_eq_true b46) ?_
       refine AWP.region (l := [0, 1, 2]) rfl ?_
       refine AOps.cons rfl rfl (AOp.move (.int .i64 by_) rfl s30 ?_)
       refine AOps.cons rfl rfl (AOp.bin (.int .i64 (by_ + 1)) rfl rfl rfl (iadd (by omega)) ?_)
       refine AOps.cons rfl rfl (AOp.assign (.int .i64 (by_ + 1)) rfl rfl ?_)
       refine AOps.nil ?_
       change AWP _ _ _ _ _ _
       refine AWP.region (l := [0, 1, 2]) rfl ?_
       refine AOps.cons rfl rfl (AOp.move (.int .i64 i) rfl s29 ?_)
       refine AOps.cons rfl rfl (AOp.bin (.int .i64 (i + 1)) rfl rfl rfl (iadd (by omega)) ?_)
       refine AOps.cons rfl rfl (AOp.assign (.int .i64 (i + 1)) rfl rfl ?_)
       refine AOps.nil ?_
       exact ⟨_, by omega, i + 1, by_ + 1, rfl, rfl, rfl, s31, s32, s33, s34, s35, s36, s37, s38, s39, o40, o41, sp42, m43, by omega, by omega, by rw [hby]; exact cnt10_T hi0 (by omega) b46, by omega⟩
      ·
       refine AWP.condF rfl (decide_eq_false b46) ?_
       refine AWP.skip ?_
       change AWP _ _ _ _ _ _
       refine AWP.region (l := [0, 1, 2]) rfl ?_
       refine AOps.cons rfl rfl (AOp.move (.int .i64 i) rfl s29 ?_)
       refine AOps.cons rfl rfl (AOp.bin (.int .i64 (i + 1)) rfl rfl rfl (iadd (by omega)) ?_)
       refine AOps.cons rfl rfl (AOp.assign (.int .i64 (i + 1)) rfl rfl ?_)
       refine AOps.nil ?_
       exact ⟨_, by omega, i + 1, by_, rfl, rfl, s30, s31, s32, s33, s34, s35, s36, s37, s38, s39, o40, o41, sp42, m43, by omega, by omega, by rw [hby]; exact cnt10_F hi0 (by omega) b46, by omega⟩
     ·
      refine AWP.condF rfl (decide_eq_false b44) ?_
      refine AWP.exit ?_
      change AWP _ _ _ _ _ _
      refine AWP.seq ?_
      refine AWP.seq ?_
      refine AWP.region (l := [0, 1]) rfl ?_
      refine AOps.cons rfl rfl (AOp.move (.int .i64 ((linesR t).2.2)) rfl s36 ?_)
      refine AOps.cons rfl rfl (AOp.bin (.bool (!decide ((linesR t).2.2 = 0))) rfl rfl rfl ine ?_)
      refine AOps.nil ?_
      change AWP _ _ _ _ _ _
      by_cases b47 : (linesR t).2.2 = 0
      ·
       refine AWP.condF rfl (nb (decide_eq_true b47)) ?_
       refine AWP.skip ?_
       change AWP _ _ _ _ _ _
       refine AWP.seq ?_
       refine AWP.seq ?_
       refine AWP.region (l := [0]) rfl ?_
       refine AOps.cons rfl rfl (AOp.assign (.int .i64 0) rfl rfl ?_)
       refine AOps.nil ?_
       change AWP _ _ _ _ _ _
       refine AWP.block ?_
       refine AWP.loop (fun q48 fq Hq => ∃ (k : Int) (w8 : AV), q48 = ((((linesR t).1).length : Int) - k).toNat ∧ fq 16 = .int .i64 k ∧ fq 14 = .int .i64 by_ ∧ fq 4 = .bool false ∧ fq 5 = v6 ∧ fq 11 = .sl ((linesR (joinB s t)).1).length (((linesR (joinB s t)).1).flatMap eLine) ∧ fq 13 = .int .i64 ((linesR (joinB s t)).2.2) ∧ fq 8 = w8 ∧ Own H0 Hq 2 w8 (bumpI ((linesR t).1) by_ k).length ((bumpI ((linesR t).1) by_ k).flatMap eLine) ∧ Own H0 Hq 2 v6 ((((linesR s).1)).length) ((((linesR s).1)).flatMap eLine) ∧ Sep w8 v6 ∧ Mono H0 Hq ∧ (0 ≤ k) ∧ (k ≤ ((linesR t).1).length)) (k := ((((linesR t).1).length : Int) - 0).toNat) ?_ ?_
       ·
        exact ⟨0, v12, rfl, rfl, s30, s32, s33, s37, s39, s34, (have hx : ((((linesR t).1)) : List LineT) = bumpI ((linesR t).1) by_ 0 := (by exact (bumpI_0 _ _).symm); Own.re o41 (congrArg List.length hx) (congrArg (fun l : List LineT => l.flatMap eLine) hx)), o40, (Sep.symm sp42), m43, by omega, by omega⟩
       ·
        rintro _ f50 H49 ⟨k, w8, rfl, s51, s52, s53, s54, s55, s56, s57, o58, o59, sp60, m61, hk0, hk1⟩
        refine AWP.seq ?_
        refine AWP.seq ?_
        refine AWP.region (l := [0, 1, 2, 3]) rfl ?_
        refine AOps.cons rfl rfl (AOp.move (.int .i64 k) rfl s51 ?_)
        refine AOps.cons rfl rfl (AOp.move (w8) rfl s57 ?_)
        refine AOps.cons rfl rfl (AOp.len_own (m := ((bumpI ((linesR t).1) by_ k).length)) rfl rfl o58 u_23 ?_)
        refine AOps.cons rfl rfl (AOp.bin (.bool (decide (k < (((bumpI ((linesR t).1) by_ k).length) : Int)))) rfl rfl rfl rfl ?_)
        refine AOps.nil ?_
        change AWP _ _ _ _ _ _
        by_cases b62 : k < (((bumpI ((linesR t).1) by_ k).length) : Int)
        ·
         refine AWP.condT rfl (decide_eq_true b62) ?_
         refine AWP.skip ?_
         change AWP _ _ _ _ _ _
         refine AWP.seq ?_
         refine AWP.block ?_
         have hbl2 := lines_len' t
         have hbk := bumpI_len ((linesR t).1) by_ k
         have hno := line_no (t := t) (b := by_) (i := k) (by omega) hk0 (by omega)
         refine AWP.region (l := [0, 1, 2, 3, 4, 5, 6, 7, 8, 9]) rfl ?_
         refine AOps.cons rfl rfl (AOp.move (w8) rfl s57 ?_)
         refine AOps.cons rfl rfl (AOp.move (.int .i64 k) rfl s51 ?_)
         obtain ⟨i63, ver64, e65, h66, _, _⟩ := Own.pos o58 (by omega)
         refine AOps.cons rfl rfl (AOp.indexAddrO rfl (Eq.trans rfl e65) rfl sl_23 (by omega) (by omega) h66 ?_)
         refine AOps.cons rfl rfl (AOp.fieldAddr rfl rfl fl_35_0 ?_ (hid := ⟨_, h66⟩))
         refine AOps.cons rfl rfl (AOp.load (.int .i64 ((at_ (bumpI ((linesR t).1) by_ k) k).No)) rfl rfl ty_3 h66 (ldF eLine_len (by omega) (by omega) rfl (by decide)) ?_)
         refine AOps.cons rfl rfl (AOp.move (.int .i64 by_) rfl s52 ?_)
         refine AOps.cons rfl rfl (AOp.bin (.int .i64 ((at_ (bumpI ((linesR t).1) by_ k) k).No + by_)) rfl rfl rfl (iadd (by omega)) ?_)
         obtain ⟨i67, ver68, e69, h70, _, _⟩ := Own.pos o58 (by omega)
         refine AOps.cons rfl rfl (AOp.indexAddrO rfl (Eq.trans rfl e69) rfl sl_23 (by omega) (by omega) h70 ?_)
         refine AOps.cons rfl rfl (AOp.fieldAddr rfl rfl fl_35_0 ?_ (hid := ⟨_, h70⟩))
         refine AOps.cons rfl rfl (AOp.store' (cells' := ((bumpI ((linesR t).1) by_ k).set k.toNat (LineT.mk ((at_ (bumpI ((linesR t).1) by_ k) k).No + by_) ((at_ (bumpI ((linesR t).1) by_ k) k).Words))).flatMap eLine) (.int .i64 ((at_ (bumpI ((linesR t).1) by_ k) k).No + by_)) rfl rfl ts_3 (Own.at_ e69 o58).1 rfl rfl (blelen (flatMap_length eLine_len _) (by omega)) (wr_fldM eLine_len (by omega) (by omega) (show 0 + 1 ≤ 2 by decide) rfl) ?_)
         intro H71 h72 k73
         have o74 := Own.store e69 o58 h72 (len' := (((bumpI ((linesR t).1) by_ k).set k.toNat (LineT.mk ((at_ (bumpI ((linesR t).1) by_ k) k).No + by_) ((at_ (bumpI ((linesR t).1) by_ k) k).Words)))).length) (by rw [List.length_set]) (by rw [flatMap_length eLine_len, List.length_set])
         have m75 := Mono.set m61 (Own.at_ e69 o58).2.1 k73
         have o76 := Own.stay o59 (Sep.symm sp60) (fun i hi _ => k73 i (NotId.ne hi e69))
         refine AOps.nil ?_
         change AWP _ _ _ _ _ _
         refine AWP.region (l := [0, 1, 2]) rfl ?_
         refine AOps.cons rfl rfl (AOp.move (.int .i64 k) rfl s51 ?_)
         refine AOps.cons rfl rfl (AOp.bin (.int .i64 (k + 1)) rfl rfl rfl (iadd (by omega)) ?_)
         refine AOps.cons rfl rfl (AOp.assign (.int .i64 (k + 1)) rfl rfl ?_)
         refine AOps.nil ?_
         exact ⟨_, by omega, k + 1, w8, rfl, rfl, s52, s53, s54, s55, s56, s57, (have hx : ((((bumpI ((linesR t).1) by_ k).set k.toNat (LineT.mk ((at_ (bumpI ((linesR t).1) by_ k) k).No + by_) ((at_ (bumpI ((linesR t).1) by_ k) k).Words)))) : List LineT) = bumpI ((linesR t).1) by_ (k + 1) := (by exact bumpI_step hk0 (by omega)); Own.re o74 (congrArg List.length hx) (congrArg (fun l : List LineT => l.flatMap eLine) hx)), o76, sp60, m75, by omega, by omega⟩
        ·
         refine AWP.condF rfl (decide_eq_false b62) ?_
         refine AWP.exit ?_
         change AWP _ _ _ _ _ _
         refine AWP.seq ?_
         refine AWP.frz 8 o58 s57 m61 fun H77 m78 k79 => ?_
         have o80 := Own.stay o59 (Sep.symm sp60) (fun i hi _ => k79 i hi)
         skip
         have hbk := bumpI_len ((linesR t).1) by_ k
         have hal := lines_len' s
         have hbl2 := lines_len' t
         have hbl : by_ = cnt10 s s.size := by rw [hby]; congr 1; omega
         have hbe := behind_ok (s := s) (t := t) (by omega) (by omega) b25 b47
         have hwb := behind_words (s := s) (t := t) (b := by_) (k := k)
         refine AWP.region (l := [0, 1, 2, 3, 4, 5, 6, 7, 8, 9]) rfl ?_
         refine AOps.cons rfl rfl (AOp.move (.int .i64 ((linesR (joinB s t)).2.2)) rfl s56 ?_)
         refine AOps.cons rfl rfl (AOp.bin (.bool (decide ((linesR (joinB s t)).2.2 = 0))) rfl rfl rfl ieq ?_)
         refine AOps.cons rfl rfl (AOp.move (.bool (decide ((linesR (joinB s t)).2.2 = 0))) rfl rfl ?_)
         by_cases b81 : (linesR (joinB s t)).2.2 = 0
         ·
          refine AOps.yes rfl rfl rfl rfl rfl rfl rfl (decide_eq_true b81) (AOp.move (.sl ((linesR (joinB s t)).1).length (((linesR (joinB s t)).1).flatMap eLine)) rfl s55 ?_)
          refine AOps.yes rfl rfl rfl rfl rfl rfl rfl (decide_eq_true b81) (AOp.move (v6) rfl s54 ?_)
          refine AOps.yes rfl rfl rfl rfl rfl rfl rfl (decide_eq_true b81) (AOp.move (.sl (bumpI ((linesR t).1) by_ k).length ((bumpI ((linesR t).1) by_ k).flatMap eLine)) rfl rfl ?_)
          refine AOps.yes rfl rfl rfl rfl rfl rfl rfl (decide_eq_true b81) (AOp.append_any (es := 2) (m := (bumpI ((linesR t).1) by_ k).length) (len := ((((linesR s).1)).length)) (old := (((linesR s).1)).flatMap eLine) (cells := (bumpI ((linesR t).1) by_ k).flatMap eLine) rfl u_23 ts_35 tzn_35 tb_35 (by decide) ni_23 rfl o80 m78 rfl (.sl (flatMap_length eLine_len _)) (by exact one_flat eLine_one)  (by first | omega | (simp; omega)) ?_)
          intro v82 H83 o84 m85 k86 j87
          have o88 := Own.appM (xs := ((((linesR s).1)) : List LineT)) (ys := (bumpI ((linesR t).1) by_ k)) (e := eLine) (by simp) o84
          refine AOps.yes rfl rfl rfl rfl rfl rfl rfl (decide_eq_true b81) ?_
          refine AOp.frz 98 o88 rfl m85 fun H89 m90 k91 => ?_
          refine AOp.pcall («as» := [.sl ((linesR (joinB s t)).1).length (((linesR (joinB s t)).1).flatMap eLine), .sl ((((linesR s).1)) ++ (bumpI ((linesR t).1) by_ k)).length (((((linesR s).1)) ++ (bumpI ((linesR t).1) by_ k)).flatMap eLine)]) rfl rfl (rfl) tf_12 (c_same ((linesR (joinB s t)).1) ((((linesR s).1)) ++ (bumpI ((linesR t).1) by_ k)) (lines_len _) (by rw [List.length_append]; omega) (lines_words _) hwb) ?_
          intro H92 m93
          have m94 := m90.trans m93
          refine AOps.cons rfl rfl (AOp.pickT (.bool (decide ((linesR (joinB s t)).1 = ((((linesR s).1)) ++ (bumpI ((linesR t).1) by_ k))))) rfl rfl (decide_eq_true b81) rfl ?_)
          refine AOps.cons rfl rfl (AOp.assign (.bool (decide ((linesR (joinB s t)).1 = ((((linesR s).1)) ++ (bumpI ((linesR t).1) by_ k))))) rfl rfl ?_)
          refine AOps.nil ?_
          change AWP _ _ _ _ _ _
          refine AWP.ret ?_
          refine ⟨_, _, Ghost.refl, .inr rfl, _, Res.one rfl rfl, ?_, m94⟩
          exact (congrArg AV.bool (show (decide ((linesR (joinB s t)).1 = ((((linesR s).1)) ++ (bumpI ((linesR t).1) by_ k))) : Bool) = true from by exact decide_eq_true (by rw [hbl, bumpI_all (by omega)]; exact hbe.2)))
         ·
          refine AOps.no rfl rfl rfl rfl rfl rfl rfl (ble_of (decide_eq_false b81) (by decide)) ?_
          refine AOps.no rfl rfl rfl rfl rfl rfl rfl (ble_of (decide_eq_false b81) (by decide)) ?_
          refine AOps.no rfl rfl rfl rfl rfl rfl rfl (ble_of (decide_eq_false b81) (by decide)) ?_
          refine AOps.no rfl rfl rfl rfl rfl rfl rfl (ble_of (decide_eq_false b81) (by decide)) ?_
          refine AOps.no rfl rfl rfl rfl rfl rfl rfl (ble_of (decide_eq_false b81) (by decide)) ?_
          refine AOps.cons rfl rfl (AOp.pickF (.bool false) rfl rfl (decide_eq_false b81) rfl ?_)
          refine AOps.cons rfl rfl (AOp.assign (.bool false) rfl rfl ?_)
          refine AOps.nil ?_
          change AWP _ _ _ _ _ _
          refine AWP.ret ?_
          refine ⟨_, _, Ghost.refl, .inr rfl, _, Res.one rfl rfl, ?_, m78⟩
          exact (congrArg AV.bool (show (false : Bool) = true from by exact absurd hbe.1 b81))
      ·
       refine AWP.condT rfl (nb (decide_eq_false b47)) ?_
       refine AWP.seq ?_
       have hbe := behind_bad2 (s := s) (t := t) (by omega) (by omega) b25 b47
       have hbl : by_ = cnt10 s s.size := by rw [hby]; congr 1; omega
       have hnm := line_num (t := t) (by omega)
       refine AWP.region (l := [0, 1, 2, 3, 4, 5, 6, 7, 8, 9, 10]) rfl ?_
       refine AOps.cons rfl rfl (AOp.move (.int .i64 ((linesR (joinB s t)).2.2)) rfl s39 ?_)
       refine AOps.cons rfl rfl (AOp.move (.int .i64 ((linesR t).2.2)) rfl s36 ?_)
       refine AOps.cons rfl rfl (AOp.bin (.bool (decide ((linesR (joinB s t)).2.2 = (linesR t).2.2))) rfl rfl rfl ieq ?_)
       refine AOps.cons rfl rfl (AOp.move (.bool (decide ((linesR (joinB s t)).2.2 = (linesR t).2.2))) rfl rfl ?_)
       by_cases b95 : (linesR (joinB s t)).2.2 = (linesR t).2.2
       ·
        refine AOps.yes rfl rfl rfl rfl rfl rfl rfl (decide_eq_true b95) (AOp.move (.int .i64 ((linesR (joinB s t)).2.1)) rfl s38 ?_)
        refine AOps.yes rfl rfl rfl rfl rfl rfl rfl (decide_eq_true b95) (AOp.move (.int .i64 ((linesR t).2.1)) rfl s35 ?_)
        refine AOps.yes rfl rfl rfl rfl rfl rfl rfl (decide_eq_true b95) (AOp.move (.int .i64 by_) rfl s30 ?_)
        refine AOps.yes rfl rfl rfl rfl rfl rfl rfl (decide_eq_true b95) (AOp.bin (.int .i64 ((linesR t).2.1 + by_)) rfl rfl rfl (iadd (by omega)) ?_)
        refine AOps.yes rfl rfl rfl rfl rfl rfl rfl (decide_eq_true b95) (AOp.bin (.bool (decide ((linesR (joinB s t)).2.1 = (linesR t).2.1 + by_))) rfl rfl rfl ieq ?_)
        refine AOps.cons rfl rfl (AOp.pickT (.bool (decide ((linesR (joinB s t)).2.1 = (linesR t).2.1 + by_))) rfl rfl (decide_eq_true b95) rfl ?_)
        refine AOps.cons rfl rfl (AOp.assign (.bool (decide ((linesR (joinB s t)).2.1 = (linesR t).2.1 + by_))) rfl rfl ?_)
        refine AOps.nil ?_
        change AWP _ _ _ _ _ _
        refine AWP.ret ?_
        refine ⟨_, _, Ghost.refl, .inr rfl, _, Res.one rfl rfl, ?_, m43⟩
        exact (congrArg AV.bool (show (decide ((linesR (joinB s t)).2.1 = (linesR t).2.1 + by_) : Bool) = true from by exact decide_eq_true (by rw [hbl]; exact hbe.2)))
       ·
        refine AOps.no rfl rfl rfl rfl rfl rfl rfl (ble_of (decide_eq_false b95) (by decide)) ?_
        refine AOps.no rfl rfl rfl rfl rfl rfl rfl (ble_of (decide_eq_false b95) (by decide)) ?_
        refine AOps.no rfl rfl rfl rfl rfl rfl rfl (ble_of (decide_eq_false b95) (by decide)) ?_
        refine AOps.no rfl rfl rfl rfl rfl rfl rfl (ble_of (decide_eq_false b95) (by decide)) ?_
        refine AOps.no rfl rfl rfl rfl rfl rfl rfl (ble_of (decide_eq_false b95) (by decide)) ?_
        refine AOps.cons rfl rfl (AOp.pickF (.bool false) rfl rfl (decide_eq_false b95) rfl ?_)
        refine AOps.cons rfl rfl (AOp.assign (.bool false) rfl rfl ?_)
        refine AOps.nil ?_
        change AWP _ _ _ _ _ _
        refine AWP.ret ?_
        refine ⟨_, _, Ghost.refl, .inr rfl, _, Res.one rfl rfl, ?_, m43⟩
        exact (congrArg AV.bool (show (false : Bool) = true from by exact absurd hbe.1 b95))
   ·
    refine AWP.condT rfl (nb (decide_eq_false b25)) ?_
    refine AWP.seq ?_
    have hbe := behind_bad (s := s) (t := t) (by omega) (by omega) b25
    refine AWP.region (l := [0, 1, 2, 3]) rfl ?_
    refine AOps.cons rfl rfl (AOp.move (.int .i64 ((linesR (joinB s t)).2.2)) rfl rfl ?_)
    refine AOps.cons rfl rfl (AOp.move (.int .i64 ((linesR s).2.2)) rfl rfl ?_)
    refine AOps.cons rfl rfl (AOp.bin (.bool (decide ((linesR (joinB s t)).2.2 = (linesR s).2.2))) rfl rfl rfl ieq ?_)
    refine AOps.cons rfl rfl (AOp.assign (.bool (decide ((linesR (joinB s t)).2.2 = (linesR s).2.2))) rfl rfl ?_)
    refine AOps.nil ?_
    change AWP _ _ _ _ _ _
    refine AWP.ret ?_
    refine ⟨_, _, Ghost.refl, .inr rfl, _, Res.one rfl rfl, ?_, m24⟩
    exact (congrArg AV.bool (show (decide ((linesR (joinB s t)).2.2 = (linesR s).2.2) : Bool) = true from by exact decide_eq_true hbe))
end Go.Proofs.L
