/- A part of the proof that a law of the edges and fans of faces answers true for every input of its bulk: own work, by an AI agent. -/
import Derived.Test.YtfgfalidpbbkhaaTTy
import Derived.Test.YtfgfalidpbbkhaaTSpec5
import Derived.Test.YtfgfalidpbbkhaaTKey
import Derived.KernelRfl
import Derived.Test.YtfgfalidpbbkhaaT2
namespace Go.Proofs.T
open Go Go.AH
set_option maxRecDepth 4000
set_option linter.unusedSimpArgs false
set_option linter.unusedVariables false
theorem c28 (fs : List (List Int)) (hfs : fs.length ≤ 1048576) (hfss : ∀ l ∈ fs, l.length ≤ 1048576) (n v : Int) (hg : goodS n fs) : PC Try.prog 28 [.sl fs.length (fs.map eF), .int .i64 v] (.tup [.sl (fanL fs v).length ((fanL fs v).map eI), .bool (fanR fs v), .bool (fanOK fs v)]) := by
  intro H0
  refine ACalls.of_body' (n := 85) rfl rfl rfl rfl ?_
  have m0 := Mono.refl H0
  refine AWP.seq ?_
  refine AWP.region (l := [0, 1, 2]) rfl ?_
  refine AOps.cons rfl rfl (AOp.assign (.snil) rfl rfl ?_)
  refine AOps.cons rfl rfl (AOp.assign (.bool false) rfl rfl ?_)
  refine AOps.cons rfl rfl (AOp.assign (.bool false) rfl rfl ?_)
  refine AOps.nil ?_
  change AWP _ _ _ _ _ _
  refine AWP.seq ?_
  refine AWP.region (l := [0, 1]) rfl ?_
  refine AOps.cons rfl rfl (AOp.buildSlice (cells := []) rfl u_35 ts_3 tz_3 rfl rfl rfl ?_)
  intro i1 H2 n3 h4 k5
  have z6 := Mono.free m0 n3
  have m7 := Mono.new m0 n3 k5
  obtain ⟨v8, e9⟩ : ∃ v : AV, v = .slm i1 0 1 0 0 := ⟨_, rfl⟩
  have o10 : Own H0 H2 1 v8 0 [] := .inr ⟨_, _, e9, h4, z6, rfl⟩
  refine AOps.cons rfl rfl (AOp.assign (v8) rfl e9.symm ?_)
  refine AOps.nil ?_
  change AWP _ _ _ _ _ _
  refine AWP.seq ?_
  refine AWP.region (l := [0]) rfl ?_
  refine AOps.cons rfl rfl (AOp.assign (.int .i64 (-1)) rfl rfl ?_)
  refine AOps.nil ?_
  change AWP _ _ _ _ _ _
  refine AWP.seq ?_
  refine AWP.seq ?_
  refine AWP.region (l := [0]) rfl ?_
  refine AOps.cons rfl rfl (AOp.assign (.int .i64 0) rfl rfl ?_)
  refine AOps.nil ?_
  change AWP _ _ _ _ _ _
  refine AWP.block ?_
  refine AWP.loop (fun q11 fq Hq => ∃ (i : Int) (w7 : AV), q11 = (((fs.length : Int) : Int) - i).toNat ∧ fq 9 = .int .i64 i ∧ fq 8 = .int .i64 (firstN fs v i.toNat) ∧ fq 0 = .sl fs.length (fs.map eF) ∧ fq 1 = .int .i64 v ∧ fq 4 = .snil ∧ fq 5 = .bool false ∧ fq 6 = .bool false ∧ fq 7 = w7 ∧ Own H0 Hq 1 w7 (mineU fs v i).length ((mineU fs v i).map eI) ∧ Mono H0 Hq ∧ (0 ≤ i) ∧ (i ≤ (fs.length : Int)) ∧ (((mineU fs v i).length : Int) ≤ i)) (k := (((fs.length : Int) : Int) - 0).toNat) ?_ ?_
  ·
    exact ⟨0, v8, rfl, rfl, by first | rfl | (show AV.int _ _ = AV.int _ _; congr 1; omega), rfl, rfl, rfl, rfl, rfl, rfl, (have hx : ([] : List Int) = mineU fs v 0 := (by first | rfl | simp); Own.re o10 (congrArg List.length hx) (congrArg (fun l : List Int => l.map eI) hx)), m7, by omega, by omega, by simp [mineU]⟩
  ·
    rintro _ f13 H12 ⟨i, w7, rfl, s14, s15, s16, s17, s18, s19, s20, s21, o22, m23, hi0, hi1, hlm⟩
    refine AWP.seq ?_
    refine AWP.seq ?_
    refine AWP.region (l := [0, 1, 2, 3]) rfl ?_
    refine AOps.cons rfl rfl (AOp.move (.int .i64 i) rfl s14 ?_)
    refine AOps.cons rfl rfl (AOp.move (.sl fs.length (fs.map eF)) rfl s16 ?_)
    refine AOps.cons rfl rfl (AOp.len (m := fs.length) rfl rfl (.inr (.inl ⟨_, rfl⟩)) u_22 ?_)
    refine AOps.cons rfl rfl (AOp.bin (.bool (decide (i < (fs.length : Int)))) rfl rfl rfl rfl ?_)
    refine AOps.nil ?_
    change AWP _ _ _ _ _ _
    by_cases b24 : i < (fs.length : Int)
    ·
      refine AWP.condT rfl (decide_eq_true b24) ?_
      refine AWP.skip ?_
      change AWP _ _ _ _ _ _
      refine AWP.seq ?_
      refine AWP.block ?_
      refine AWP.seq ?_
      have hq : (at_ fs i).length ≤ 1048576 := hfss _ (at_mem (by omega) (by omega))
      have hnn := next_nn (fun x hx => (good_nn hg hi0 (by omega) x hx).1) v 1
      refine AWP.region (l := [0, 1, 2, 3, 4, 5, 6]) rfl ?_
      refine AOps.cons rfl rfl (AOp.move (.sl fs.length (fs.map eF)) rfl s16 ?_)
      refine AOps.cons rfl rfl (AOp.move (.int .i64 i) rfl s14 ?_)
      refine AOps.cons rfl rfl (AOp.indexAddrS rfl rfl rfl sl_22 (by omega) (by omega) ?_)
      refine AOps.cons rfl rfl (AOp.loadF (.sl (at_ fs i).length ((at_ fs i).map eI)) rfl rfl ty_35 (ld1 (by omega) (by omega)) ?_)
      refine AOps.cons rfl rfl (AOp.move (.int .i64 v) rfl s17 ?_)
      refine AOps.cons rfl rfl (AOp.pcall («as» := [.sl (at_ fs i).length ((at_ fs i).map eI), .int .i64 v, .int .i64 1]) rfl rfl (rfl) tf_39 (c39 _ (by first | omega | assumption) _ _ (by omega)) ?_)
      intro H25 m26
      have o27 := Own.mono o22 m26
      have m28 := m23.trans m26
      refine AOps.cons rfl rfl (AOp.bin (.bool (decide (nextS (at_ fs i) v 1 ≥ 0))) rfl rfl rfl rfl ?_)
      refine AOps.nil ?_
      change AWP _ _ _ _ _ _
      by_cases b29 : nextS (at_ fs i) v 1 ≥ 0
      ·
        refine AWP.condT rfl (decide_eq_true b29) ?_
        refine AWP.seq ?_
        refine AWP.region (l := [0, 1, 2, 3, 4]) rfl ?_
        refine AOps.cons rfl rfl (AOp.move (w7) rfl s21 ?_)
        refine AOps.cons rfl rfl (AOp.move (.int .i64 i) rfl s14 ?_)
        refine AOps.cons rfl rfl (AOp.buildSlice (cells := [.int .i64 i]) rfl u_35 ts_3 tz_3 rfl rfl rfl ?_)
        intro i30 H31 n32 h33 k34
        have z35 := Mono.free m28 n32
        have o36 := Own.keep o27 k34 (Own.notnew o27 n32)
        have no37 := Own.notnew o27 n32
        have m38 := Mono.new m28 n32 k34
        refine AOps.cons rfl rfl (AOp.append_own (es := 1) (m := 1) (len := ((mineU fs v i).length)) (old := (mineU fs v i).map eI) (cells := [.int .i64 i]) rfl u_35 ts_3 tzn_3 tb_3 (by decide) ni_35 rfl o36 m38 rfl (.slm h33 rfl) (one_of rfl) (by decide) (by first | omega | (simp; omega)) ?_)
        intro v39 H40 o41 m42 k43 j44
        have o45 := Own.snoc1 (xs := ((mineU fs v i) : List Int)) (y := i) (e := eI) (by simp) o41
        refine AOps.cons rfl rfl (AOp.assign (v39) rfl rfl ?_)
        refine AOps.nil ?_
        change AWP _ _ _ _ _ _
        refine AWP.seq ?_
        refine AWP.region (l := [0, 1, 2, 3, 4, 5, 6, 7, 8, 9]) rfl ?_
        refine AOps.cons rfl rfl (AOp.move (.sl fs.length (fs.map eF)) rfl s16 ?_)
        refine AOps.cons rfl rfl (AOp.move (.sl fs.length (fs.map eF)) rfl s16 ?_)
        refine AOps.cons rfl rfl (AOp.move (.int .i64 i) rfl s14 ?_)
        refine AOps.cons rfl rfl (AOp.indexAddrS rfl rfl rfl sl_22 (by omega) (by omega) ?_)
        refine AOps.cons rfl rfl (AOp.loadF (.sl (at_ fs i).length ((at_ fs i).map eI)) rfl rfl ty_35 (ld1 (by omega) (by omega)) ?_)
        refine AOps.cons rfl rfl (AOp.move (.int .i64 v) rfl s17 ?_)
        refine AOps.cons rfl rfl (AOp.pcall («as» := [.sl (at_ fs i).length ((at_ fs i).map eI), .int .i64 v, .int .i64 1]) rfl rfl (rfl) tf_39 (c39 _ (by first | omega | assumption) _ _ (by omega)) ?_)
        intro H46 m47
        have o48 := Own.mono o45 m47
        have m49 := m42.trans m47
        refine AOps.cons rfl rfl (AOp.move (.int .i64 v) rfl s17 ?_)
        refine AOps.cons rfl rfl (AOp.pcall («as» := [.sl fs.length (fs.map eF), .int .i64 (nextS (at_ fs i) v 1), .int .i64 v]) rfl rfl (rfl) tf_27 (c27 _ (by assumption) (by assumption) _ _) ?_)
        intro H50 m51
        have o52 := Own.mono o48 m51
        have m53 := m49.trans m51
        refine AOps.cons rfl rfl (AOp.bin (.bool (decide (alongS fs (nextS (at_ fs i) v 1) v < 0))) rfl rfl rfl rfl ?_)
        refine AOps.nil ?_
        change AWP _ _ _ _ _ _
        by_cases b54 : alongS fs (nextS (at_ fs i) v 1) v < 0
        ·
          refine AWP.condT rfl (decide_eq_true b54) ?_
          refine AWP.region (l := [0, 1]) rfl ?_
          refine AOps.cons rfl rfl (AOp.move (.int .i64 i) rfl s14 ?_)
          refine AOps.cons rfl rfl (AOp.assign (.int .i64 i) rfl rfl ?_)
          refine AOps.nil ?_
          change AWP _ _ _ _ _ _
          refine AWP.region (l := [0, 1, 2]) rfl ?_
          refine AOps.cons rfl rfl (AOp.move (.int .i64 i) rfl s14 ?_)
          refine AOps.cons rfl rfl (AOp.bin (.int .i64 (i + 1)) rfl rfl rfl (iadd (by omega)) ?_)
          refine AOps.cons rfl rfl (AOp.assign (.int .i64 (i + 1)) rfl rfl ?_)
          refine AOps.nil ?_
          exact ⟨_, by omega, i + 1, v39, rfl, rfl, (congrArg (AV.int .i64) (show (i : Int) = firstN fs v (i + 1).toNat from by exact (first_T hi0 (hnn.1 b29) b54).symm)), s16, s17, s18, s19, s20, rfl, (have hx : (((mineU fs v i) ++ [i]) : List Int) = mineU fs v (i + 1) := (by rw [mine_T hi0 (hnn.1 b29)]); Own.re o52 (congrArg List.length hx) (congrArg (fun l : List Int => l.map eI) hx)), m53, by omega, by omega, by have := mine_le fs v (i + 1).toNat; rw [Int.toNat_of_nonneg (by omega)] at this; omega⟩
        ·
          refine AWP.condF rfl (decide_eq_false b54) ?_
          refine AWP.skip ?_
          change AWP _ _ _ _ _ _
          refine AWP.region (l := [0, 1, 2]) rfl ?_
          refine AOps.cons rfl rfl (AOp.move (.int .i64 i) rfl s14 ?_)
          refine AOps.cons rfl rfl (AOp.bin (.int .i64 (i + 1)) rfl rfl rfl (iadd (by omega)) ?_)
          refine AOps.cons rfl rfl (AOp.assign (.int .i64 (i + 1)) rfl rfl ?_)
          refine AOps.nil ?_
          exact ⟨_, by omega, i + 1, v39, rfl, rfl, (s15.trans (congrArg (AV.int .i64) (show (firstN fs v i.toNat : Int) = firstN fs v (i + 1).toNat from by exact (first_F hi0 (fun g => b54 g.2)).symm))), s16, s17, s18, s19, s20, rfl, (have hx : (((mineU fs v i) ++ [i]) : List Int) = mineU fs v (i + 1) := (by rw [mine_T hi0 (hnn.1 b29)]); Own.re o52 (congrArg List.length hx) (congrArg (fun l : List Int => l.map eI) hx)), m53, by omega, by omega, by have := mine_le fs v (i + 1).toNat; rw [Int.toNat_of_nonneg (by omega)] at this; omega⟩
      ·
        refine AWP.condF rfl (decide_eq_false b29) ?_
        refine AWP.skip ?_
        change AWP _ _ _ _ _ _
        refine AWP.region (l := [0, 1, 2]) rfl ?_
        refine AOps.cons rfl rfl (AOp.move (.int .i64 i) rfl s14 ?_)
        refine AOps.cons rfl rfl (AOp.bin (.int .i64 (i + 1)) rfl rfl rfl (iadd (by omega)) ?_)
        refine AOps.cons rfl rfl (AOp.assign (.int .i64 (i + 1)) rfl rfl ?_)
        refine AOps.nil ?_
        exact ⟨_, by omega, i + 1, w7, rfl, rfl, (s15.trans (congrArg (AV.int .i64) (show (firstN fs v i.toNat : Int) = firstN fs v (i + 1).toNat from by exact (first_F hi0 (fun g => b29 (hnn.2 g.1))).symm))), s16, s17, s18, s19, s20, s21, (have hx : ((mineU fs v i) : List Int) = mineU fs v (i + 1) := (by rw [mine_F hi0 (fun g => b29 (hnn.2 g))]); Own.re o27 (congrArg List.length hx) (congrArg (fun l : List Int => l.map eI) hx)), m28, by omega, by omega, by have := mine_le fs v (i + 1).toNat; rw [Int.toNat_of_nonneg (by omega)] at this; omega⟩
    ·
      refine AWP.condF rfl (decide_eq_false b24) ?_
      refine AWP.exit ?_
      change AWP _ _ _ _ _ _
      refine AWP.seq ?_
      refine AWP.seq ?_
      have hie : i = fs.length := by omega
      have hie2 : i.toNat = fs.length := by omega
      refine AWP.region (l := [0, 1, 2]) rfl ?_
      refine AOps.cons rfl rfl (AOp.move (w7) rfl s21 ?_)
      refine AOps.cons rfl rfl (AOp.len_own (m := ((mineU fs v i).length)) rfl rfl o22 u_35 ?_)
      refine AOps.cons rfl rfl (AOp.bin (.bool (decide ((((mineU fs v i).length) : Int) = 0))) rfl rfl rfl ieq ?_)
      refine AOps.nil ?_
      change AWP _ _ _ _ _ _
      by_cases b55 : (((mineU fs v i).length) : Int) = 0
      ·
        refine AWP.condT rfl (decide_eq_true b55) ?_
        refine AWP.seq ?_
        have he : mineU fs v fs.length = [] := by rw [← hie]; exact List.eq_nil_of_length_eq_zero (by omega)
        refine AWP.region (l := [0, 1, 2]) rfl ?_
        refine AOps.cons rfl rfl (AOp.assign (.snil) rfl rfl ?_)
        refine AOps.cons rfl rfl (AOp.assign (.bool false) rfl rfl ?_)
        refine AOps.cons rfl rfl (AOp.assign (.bool false) rfl rfl ?_)
        refine AOps.nil ?_
        change AWP _ _ _ _ _ _
        refine AWP.ret ?_
        refine Fin.frz 4 (Own.nil H0 H12 1) rfl m23 fun H56 m57 k58 => ?_
        have o59 := Own.stay o22 (Sep.nilR _) (fun i hi _ => k58 i hi)
        refine ⟨_, _, Ghost.refl, .inr rfl, _, Res.three rfl rfl rfl rfl, ?_, m57⟩
        exact congrArg AV.tup (lc (congrArg (fun l : List Int => AV.sl l.length (l.map eI)) (show ([] : List Int) = fanL fs v from by unfold fanL; rw [if_pos he])) (lc (congrArg AV.bool (show (false : Bool) = fanR fs v from by unfold fanR; rw [if_pos he])) (lc (congrArg AV.bool (show (false : Bool) = fanOK fs v from by unfold fanOK; rw [if_pos he])) rfl)))
      ·
        refine AWP.condF rfl (decide_eq_false b55) ?_
        refine AWP.skip ?_
        change AWP _ _ _ _ _ _
        refine AWP.seq ?_
        have hne : mineU fs v fs.length ≠ [] := fun e => by have h0 := congrArg List.length e; rw [← hie] at h0; simp only [List.length_nil] at h0; omega
        have hx := mem_mineU.1 (head_mem hne)
        refine AWP.region (l := [0, 1, 2]) rfl ?_
        refine AOps.cons rfl rfl (AOp.move (.int .i64 (firstN fs v i.toNat)) rfl s15 ?_)
        refine AOps.cons rfl rfl (AOp.bin (.bool (decide (firstN fs v i.toNat < 0))) rfl rfl rfl rfl ?_)
        refine AOps.cons rfl rfl (AOp.assign (.bool (decide (firstN fs v i.toNat < 0))) rfl rfl ?_)
        refine AOps.nil ?_
        change AWP _ _ _ _ _ _
        refine AWP.seq ?_
        refine AWP.seq ?_
        refine AWP.region (l := [0]) rfl ?_
        refine AOps.cons rfl rfl (AOp.move (.bool (decide (firstN fs v i.toNat < 0))) rfl rfl ?_)
        refine AOps.nil ?_
        change AWP _ _ _ _ _ _
        by_cases b60 : firstN fs v i.toNat < 0
        ·
          refine AWP.condT rfl (decide_eq_true b60) ?_
          refine AWP.region (l := [0, 1, 2, 3]) rfl ?_
          refine AOps.cons rfl rfl (AOp.move (w7) rfl s21 ?_)
          obtain ⟨i61, ver62, e63, h64, _, _⟩ := Own.pos o22 (by omega)
          refine AOps.cons rfl rfl (AOp.indexAddrO rfl (Eq.trans rfl e63) rfl sl_35 (by omega) (by omega) h64 ?_)
          refine AOps.cons rfl rfl (AOp.load (.int .i64 (at_ (mineU fs v i) 0)) rfl rfl ty_3 h64 (ld1 (by omega) (by omega)) ?_)
          refine AOps.cons rfl rfl (AOp.assign (.int .i64 (at_ (mineU fs v i) 0)) rfl rfl ?_)
          refine AOps.nil ?_
          change AWP _ _ _ _ _ _
          refine AWP.seq ?_
          have hh : headS fs v = at_ (mineU fs v i) 0 := by unfold headS; rw [← hie2, if_pos b60, hie2, hie]
          refine AWP.region (l := [0, 1]) rfl ?_
          refine AOps.cons rfl rfl (AOp.buildSlice (cells := []) rfl u_35 ts_3 tz_3 rfl rfl rfl ?_)
          intro i65 H66 n67 h68 k69
          have z70 := Mono.free m23 n67
          have o71 := Own.keep o22 k69 (Own.notnew o22 n67)
          have no72 := Own.notnew o22 n67
          have m73 := Mono.new m23 n67 k69
          obtain ⟨v74, e75⟩ : ∃ v : AV, v = .slm i65 0 1 0 0 := ⟨_, rfl⟩
          have o76 : Own H0 H66 1 v74 0 [] := .inr ⟨_, _, e75, h68, z70, rfl⟩
          have sp77 : Sep v74 w7 := by rw [e75]; exact Sep.ofNotId no72
          refine AOps.cons rfl rfl (AOp.assign (v74) rfl e75.symm ?_)
          refine AOps.nil ?_
          change AWP _ _ _ _ _ _
          refine AWP.seq ?_
          refine AWP.region (l := [0, 1]) rfl ?_
          refine AOps.cons rfl rfl (AOp.move (.int .i64 (at_ (mineU fs v i) 0)) rfl rfl ?_)
          refine AOps.cons rfl rfl (AOp.assign (.int .i64 (at_ (mineU fs v i) 0)) rfl rfl ?_)
          refine AOps.nil ?_
          change AWP _ _ _ _ _ _
          refine AWP.seq ?_
          refine AWP.block ?_
          refine AWP.loop (fun q78 fq Hq => ∃ (k : Nat) (w11 : AV), q78 = fs.length + 1 - k ∧ fq 12 = .int .i64 (iterS (stepS fs v) (headS fs v) k) ∧ fq 8 = .int .i64 (headS fs v) ∧ fq 10 = .bool (roundB fs v) ∧ fq 0 = .sl fs.length (fs.map eF) ∧ fq 1 = .int .i64 v ∧ fq 4 = .snil ∧ fq 5 = .bool false ∧ fq 6 = .bool false ∧ fq 7 = w7 ∧ fq 11 = w11 ∧ Own H0 Hq 1 w11 (orbS fs v (headS fs v) k).length ((orbS fs v (headS fs v) k).map eI) ∧ Own H0 Hq 1 w7 ((mineU fs v i).length) ((mineU fs v i).map eI) ∧ Sep w11 w7 ∧ Mono H0 Hq ∧ (Runs fs v (headS fs v) k)) (k := fs.length + 1 - 0) ?_ ?_
          ·
            exact ⟨0, v74, rfl, (congrArg (AV.int .i64) (show (at_ (mineU fs v i) 0 : Int) = iterS (stepS fs v) (headS fs v) 0 from by exact hh.symm)), (congrArg (AV.int .i64) (show (at_ (mineU fs v i) 0 : Int) = headS fs v from by exact hh.symm)), (congrArg AV.bool (show (decide (firstN fs v i.toNat < 0) : Bool) = roundB fs v from by unfold roundB; rw [← hie2])), s16, s17, s18, s19, s20, s21, rfl, (have hx : ([] : List Int) = orbS fs v (headS fs v) 0 := (by rfl); Own.re o76 (congrArg List.length hx) (congrArg (fun l : List Int => l.map eI) hx)), o71, sp77, m73, by intro i hi; omega⟩
          ·
            rintro _ f80 H79 ⟨k, w11, rfl, s81, s82, s83, s84, s85, s86, s87, s88, s89, s90, o91, o92, sp93, m94, hr⟩
            refine AWP.seq ?_
            refine AWP.seq ?_
            refine AWP.region (l := [0, 1, 2, 3, 4, 5, 6, 7, 8, 9, 10, 11]) rfl ?_
            refine AOps.cons rfl rfl (AOp.move (.int .i64 (iterS (stepS fs v) (headS fs v) k)) rfl s81 ?_)
            refine AOps.cons rfl rfl (AOp.bin (.bool (decide (iterS (stepS fs v) (headS fs v) k ≥ 0))) rfl rfl rfl rfl ?_)
            refine AOps.cons rfl rfl (AOp.move (.bool (decide (iterS (stepS fs v) (headS fs v) k ≥ 0))) rfl rfl ?_)
            by_cases b95 : iterS (stepS fs v) (headS fs v) k ≥ 0
            ·
              refine AOps.yes rfl rfl rfl rfl rfl rfl rfl (decide_eq_true b95) (AOp.move (w11) rfl s90 ?_)
              refine AOps.yes rfl rfl rfl rfl rfl rfl rfl (decide_eq_true b95) (AOp.len_own (m := ((orbS fs v (headS fs v) k).length)) rfl rfl o91 u_35 ?_)
              refine AOps.yes rfl rfl rfl rfl rfl rfl rfl (decide_eq_true b95) (AOp.bin (.bool (decide ((((orbS fs v (headS fs v) k).length) : Int) = 0))) rfl rfl rfl ieq ?_)
              refine AOps.yes rfl rfl rfl rfl rfl rfl rfl (decide_eq_true b95) (AOp.move (.bool (decide ((((orbS fs v (headS fs v) k).length) : Int) = 0))) rfl rfl ?_)
              by_cases b96 : (((orbS fs v (headS fs v) k).length) : Int) = 0
              ·
                refine AOps.no rfl rfl rfl rfl rfl rfl rfl (ble_of (decide_eq_true b96) (by decide)) ?_
                refine AOps.no rfl rfl rfl rfl rfl rfl rfl (ble_of (decide_eq_true b96) (by decide)) ?_
                refine AOps.no rfl rfl rfl rfl rfl rfl rfl (ble_of (decide_eq_true b96) (by decide)) ?_
                refine AOps.yes rfl rfl rfl rfl rfl rfl rfl (decide_eq_true b95) (AOp.pickT (.bool true) rfl rfl (decide_eq_true b96) rfl ?_)
                refine AOps.cons rfl rfl (AOp.pickT (.bool true) rfl rfl (decide_eq_true b95) rfl ?_)
                refine AOps.nil ?_
                change AWP _ _ _ _ _ _
                refine AWP.condT rfl rfl ?_
                refine AWP.skip ?_
                change AWP _ _ _ _ _ _
                refine AWP.block ?_
                refine AWP.seq ?_
                have hr2 := runs_step hr b95 (.inl (by have := b96; rw [orb_len] at this; omega))
                have hmm := run_mem hg hx.1 hx.2.1 hx.2.2 hr2 k (by omega)
                have hle := run_le hg hx.1 hx.2.1 hx.2.2 hr2
                have hml := mine_le fs v fs.length
                have hol := orb_len fs v (headS fs v) k
                have hq : (at_ fs (iterS (stepS fs v) (headS fs v) k)).length ≤ 1048576 := hfss _ (at_mem (by omega) (by omega))
                refine AWP.region (l := [0, 1, 2, 3, 4]) rfl ?_
                refine AOps.cons rfl rfl (AOp.move (w11) rfl s90 ?_)
                refine AOps.cons rfl rfl (AOp.move (.int .i64 (iterS (stepS fs v) (headS fs v) k)) rfl s81 ?_)
                refine AOps.cons rfl rfl (AOp.buildSlice (cells := [.int .i64 (iterS (stepS fs v) (headS fs v) k)]) rfl u_35 ts_3 tz_3 rfl rfl rfl ?_)
                intro i97 H98 n99 h100 k101
                have z102 := Mono.free m94 n99
                have o103 := Own.keep o91 k101 (Own.notnew o91 n99)
                have no104 := Own.notnew o91 n99
                have o105 := Own.keep o92 k101 (Own.notnew o92 n99)
                have no106 := Own.notnew o92 n99
                have m107 := Mono.new m94 n99 k101
                refine AOps.cons rfl rfl (AOp.append_own (es := 1) (m := 1) (len := ((orbS fs v (headS fs v) k).length)) (old := (orbS fs v (headS fs v) k).map eI) (cells := [.int .i64 (iterS (stepS fs v) (headS fs v) k)]) rfl u_35 ts_3 tzn_3 tb_3 (by decide) ni_35 rfl o103 m107 rfl (.slm h100 rfl) (one_of rfl) (by decide) (by first | omega | (simp; omega)) ?_)
                intro v108 H109 o110 m111 k112 j113
                have o114 := Own.snoc1 (xs := ((orbS fs v (headS fs v) k) : List Int)) (y := iterS (stepS fs v) (headS fs v) k) (e := eI) (by simp) o110
                have sp116 := Own.sep o105 (Sep.symm sp93) j113
                have o115 := Own.stay o105 (Sep.symm sp93) k112
                refine AOps.cons rfl rfl (AOp.assign (v108) rfl rfl ?_)
                refine AOps.nil ?_
                change AWP _ _ _ _ _ _
                refine AWP.region (l := [0, 1, 2, 3, 4, 5, 6, 7, 8, 9]) rfl ?_
                refine AOps.cons rfl rfl (AOp.move (.sl fs.length (fs.map eF)) rfl s84 ?_)
                refine AOps.cons rfl rfl (AOp.move (.int .i64 v) rfl s85 ?_)
                refine AOps.cons rfl rfl (AOp.move (.sl fs.length (fs.map eF)) rfl s84 ?_)
                refine AOps.cons rfl rfl (AOp.move (.int .i64 (iterS (stepS fs v) (headS fs v) k)) rfl s81 ?_)
                refine AOps.cons rfl rfl (AOp.indexAddrS rfl rfl rfl sl_22 (by omega) (by omega) ?_)
                refine AOps.cons rfl rfl (AOp.loadF (.sl (at_ fs (iterS (stepS fs v) (headS fs v) k)).length ((at_ fs (iterS (stepS fs v) (headS fs v) k)).map eI)) rfl rfl ty_35 (ld1 (by omega) (by omega)) ?_)
                refine AOps.cons rfl rfl (AOp.move (.int .i64 v) rfl s85 ?_)
                refine AOps.cons rfl rfl (AOp.pcall («as» := [.sl (at_ fs (iterS (stepS fs v) (headS fs v) k)).length ((at_ fs (iterS (stepS fs v) (headS fs v) k)).map eI), .int .i64 v, .int .i64 (-1)]) rfl rfl (rfl) tf_39 (c39 _ (by first | omega | assumption) _ _ (by omega)) ?_)
                intro H117 m118
                have o119 := Own.mono o115 m118
                have o120 := Own.mono o114 m118
                have m121 := m111.trans m118
                refine AOps.cons rfl rfl (AOp.pcall («as» := [.sl fs.length (fs.map eF), .int .i64 v, .int .i64 (nextS (at_ fs (iterS (stepS fs v) (headS fs v) k)) v (-1))]) rfl rfl (rfl) tf_27 (c27 _ (by assumption) (by assumption) _ _) ?_)
                intro H122 m123
                have o124 := Own.mono o119 m123
                have o125 := Own.mono o120 m123
                have m126 := m121.trans m123
                refine AOps.cons rfl rfl (AOp.assign (.int .i64 (alongS fs v (nextS (at_ fs (iterS (stepS fs v) (headS fs v) k)) v (-1)))) rfl rfl ?_)
                refine AOps.nil ?_
                exact ⟨_, by omega, k + 1, v108, rfl, (congrArg (AV.int .i64) (show (alongS fs v (nextS (at_ fs (iterS (stepS fs v) (headS fs v) k)) v (-1)) : Int) = iterS (stepS fs v) (headS fs v) (k + 1) from by rfl)), s82, s83, s84, s85, s86, s87, s88, s89, rfl, (have hx : (((orbS fs v (headS fs v) k) ++ [iterS (stepS fs v) (headS fs v) k]) : List Int) = orbS fs v (headS fs v) (k + 1) := (by rw [orb_step]); Own.re o125 (congrArg List.length hx) (congrArg (fun l : List Int => l.map eI) hx)), o124, (Sep.symm sp116), m126, by exact hr2⟩
              ·
                refine AOps.yes rfl rfl rfl rfl rfl rfl rfl (decide_eq_false b96) (AOp.move (.int .i64 (iterS (stepS fs v) (headS fs v) k)) rfl s81 ?_)
                refine AOps.yes rfl rfl rfl rfl rfl rfl rfl (decide_eq_false b96) (AOp.move (.int .i64 (headS fs v)) rfl s82 ?_)
                refine AOps.yes rfl rfl rfl rfl rfl rfl rfl (decide_eq_false b96) (AOp.bin (.bool (!decide (iterS (stepS fs v) (headS fs v) k = headS fs v))) rfl rfl rfl ine ?_)
                refine AOps.yes rfl rfl rfl rfl rfl rfl rfl (decide_eq_true b95) (AOp.pickF (.bool (!decide (iterS (stepS fs v) (headS fs v) k = headS fs v))) rfl rfl (decide_eq_false b96) rfl ?_)
                refine AOps.cons rfl rfl (AOp.pickT (.bool (!decide (iterS (stepS fs v) (headS fs v) k = headS fs v))) rfl rfl (decide_eq_true b95) rfl ?_)
                refine AOps.nil ?_
                change AWP _ _ _ _ _ _
                by_cases b127 : iterS (stepS fs v) (headS fs v) k = headS fs v
                ·
                  refine AWP.condF rfl (nb (decide_eq_true b127)) ?_
                  refine AWP.exit ?_
                  change AWP _ _ _ _ _ _
                  refine AWP.seq ?_
                  have hst : isStop fs v (headS fs v) k := ⟨by have := b96; rw [orb_len] at this; omega, .inr b127⟩
                  have hle := run_le hg hx.1 hx.2.1 hx.2.2 hr
                  have hml := mine_le fs v fs.length
                  have hfl : fanL fs v = orbS fs v (headS fs v) k := by unfold fanL; rw [if_neg hne, ← stop_of (by omega) hr hst]
                  refine AWP.region (l := [0, 1, 2, 3, 4, 5, 6, 7, 8, 9]) rfl ?_
                  refine AOps.cons rfl rfl (AOp.move (w11) rfl s90 ?_)
                  refine AOps.cons rfl rfl (AOp.move (.bool (roundB fs v)) rfl s83 ?_)
                  refine AOps.cons rfl rfl (AOp.move (w11) rfl s90 ?_)
                  refine AOps.cons rfl rfl (AOp.len_own (m := ((orbS fs v (headS fs v) k).length)) rfl rfl o91 u_35 ?_)
                  refine AOps.cons rfl rfl (AOp.move (w7) rfl s89 ?_)
                  refine AOps.cons rfl rfl (AOp.len_own (m := ((mineU fs v i).length)) rfl rfl o92 u_35 ?_)
                  refine AOps.cons rfl rfl (AOp.bin (.bool (decide ((((orbS fs v (headS fs v) k).length) : Int) = (((mineU fs v i).length) : Int)))) rfl rfl rfl ieq ?_)
                  refine AOps.cons rfl rfl (AOp.assign (w11) rfl rfl ?_)
                  refine AOps.cons rfl rfl (AOp.assign (.bool (roundB fs v)) rfl rfl ?_)
                  refine AOps.cons rfl rfl (AOp.assign (.bool (decide ((((orbS fs v (headS fs v) k).length) : Int) = (((mineU fs v i).length) : Int)))) rfl rfl ?_)
                  refine AOps.nil ?_
                  change AWP _ _ _ _ _ _
                  refine AWP.ret ?_
                  refine Fin.frz 4 o91 rfl m94 fun H128 m129 k130 => ?_
                  have o131 := Own.stay o92 (Sep.symm sp93) (fun i hi _ => k130 i hi)
                  refine ⟨_, _, Ghost.refl, .inr rfl, _, Res.three rfl rfl rfl rfl, ?_, m129⟩
                  exact congrArg AV.tup (lc (congrArg (fun l : List Int => AV.sl l.length (l.map eI)) (show ((orbS fs v (headS fs v) k) : List Int) = fanL fs v from by rw [hfl])) (lc (congrArg AV.bool (show (roundB fs v : Bool) = fanR fs v from by unfold fanR; rw [if_neg hne])) (lc (congrArg AV.bool (show (decide ((((orbS fs v (headS fs v) k).length) : Int) = (((mineU fs v i).length) : Int)) : Bool) = fanOK fs v from by unfold fanOK; rw [if_neg hne, hfl, ← hie]; exact decide_eq_decide.2 (by omega))) rfl)))
                ·
                  refine AWP.condT rfl (nb (decide_eq_false b127)) ?_
                  refine AWP.skip ?_
                  change AWP _ _ _ _ _ _
                  refine AWP.block ?_
                  refine AWP.seq ?_
                  have hr2 := runs_step hr b95 (.inr b127)
                  have hmm := run_mem hg hx.1 hx.2.1 hx.2.2 hr2 k (by omega)
                  have hle := run_le hg hx.1 hx.2.1 hx.2.2 hr2
                  have hml := mine_le fs v fs.length
                  have hol := orb_len fs v (headS fs v) k
                  have hq : (at_ fs (iterS (stepS fs v) (headS fs v) k)).length ≤ 1048576 := hfss _ (at_mem (by omega) (by omega))
                  refine AWP.region (l := [0, 1, 2, 3, 4]) rfl ?_
                  refine AOps.cons rfl rfl (AOp.move (w11) rfl s90 ?_)
                  refine AOps.cons rfl rfl (AOp.move (.int .i64 (iterS (stepS fs v) (headS fs v) k)) rfl s81 ?_)
                  refine AOps.cons rfl rfl (AOp.buildSlice (cells := [.int .i64 (iterS (stepS fs v) (headS fs v) k)]) rfl u_35 ts_3 tz_3 rfl rfl rfl ?_)
                  intro i132 H133 n134 h135 k136
                  have z137 := Mono.free m94 n134
                  have o138 := Own.keep o91 k136 (Own.notnew o91 n134)
                  have no139 := Own.notnew o91 n134
                  have o140 := Own.keep o92 k136 (Own.notnew o92 n134)
                  have no141 := Own.notnew o92 n134
                  have m142 := Mono.new m94 n134 k136
                  refine AOps.cons rfl rfl (AOp.append_own (es := 1) (m := 1) (len := ((orbS fs v (headS fs v) k).length)) (old := (orbS fs v (headS fs v) k).map eI) (cells := [.int .i64 (iterS (stepS fs v) (headS fs v) k)]) rfl u_35 ts_3 tzn_3 tb_3 (by decide) ni_35 rfl o138 m142 rfl (.slm h135 rfl) (one_of rfl) (by decide) (by first | omega | (simp; omega)) ?_)
                  intro v143 H144 o145 m146 k147 j148
                  have o149 := Own.snoc1 (xs := ((orbS fs v (headS fs v) k) : List Int)) (y := iterS (stepS fs v) (headS fs v) k) (e := eI) (by simp) o145
                  have sp151 := Own.sep o140 (Sep.symm sp93) j148
                  have o150 := Own.stay o140 (Sep.symm sp93) k147
                  refine AOps.cons rfl rfl (AOp.assign (v143) rfl rfl ?_)
                  refine AOps.nil ?_
                  change AWP _ _ _ _ _ _
                  refine AWP.region (l := [0, 1, 2, 3, 4, 5, 6, 7, 8, 9]) rfl ?_
                  refine AOps.cons rfl rfl (AOp.move (.sl fs.length (fs.map eF)) rfl s84 ?_)
                  refine AOps.cons rfl rfl (AOp.move (.int .i64 v) rfl s85 ?_)
                  refine AOps.cons rfl rfl (AOp.move (.sl fs.length (fs.map eF)) rfl s84 ?_)
                  refine AOps.cons rfl rfl (AOp.move (.int .i64 (iterS (stepS fs v) (headS fs v) k)) rfl s81 ?_)
                  refine AOps.cons rfl rfl (AOp.indexAddrS rfl rfl rfl sl_22 (by omega) (by omega) ?_)
                  refine AOps.cons rfl rfl (AOp.loadF (.sl (at_ fs (iterS (stepS fs v) (headS fs v) k)).length ((at_ fs (iterS (stepS fs v) (headS fs v) k)).map eI)) rfl rfl ty_35 (ld1 (by omega) (by omega)) ?_)
                  refine AOps.cons rfl rfl (AOp.move (.int .i64 v) rfl s85 ?_)
                  refine AOps.cons rfl rfl (AOp.pcall («as» := [.sl (at_ fs (iterS (stepS fs v) (headS fs v) k)).length ((at_ fs (iterS (stepS fs v) (headS fs v) k)).map eI), .int .i64 v, .int .i64 (-1)]) rfl rfl (rfl) tf_39 (c39 _ (by first | omega | assumption) _ _ (by omega)) ?_)
                  intro H152 m153
                  have o154 := Own.mono o150 m153
                  have o155 := Own.mono o149 m153
                  have m156 := m146.trans m153
                  refine AOps.cons rfl rfl (AOp.pcall («as» := [.sl fs.length (fs.map eF), .int .i64 v, .int .i64 (nextS (at_ fs (iterS (stepS fs v) (headS fs v) k)) v (-1))]) rfl rfl (rfl) tf_27 (c27 _ (by assumption) (by assumption) _ _) ?_)
                  intro H157 m158
                  have o159 := Own.mono o154 m158
                  have o160 := Own.mono o155 m158
                  have m161 := m156.trans m158
                  refine AOps.cons rfl rfl (AOp.assign (.int .i64 (alongS fs v (nextS (at_ fs (iterS (stepS fs v) (headS fs v) k)) v (-1)))) rfl rfl ?_)
                  refine AOps.nil ?_
                  exact ⟨_, by omega, k + 1, v143, rfl, (congrArg (AV.int .i64) (show (alongS fs v (nextS (at_ fs (iterS (stepS fs v) (headS fs v) k)) v (-1)) : Int) = iterS (stepS fs v) (headS fs v) (k + 1) from by rfl)), s82, s83, s84, s85, s86, s87, s88, s89, rfl, (have hx : (((orbS fs v (headS fs v) k) ++ [iterS (stepS fs v) (headS fs v) k]) : List Int) = orbS fs v (headS fs v) (k + 1) := (by rw [orb_step]); Own.re o160 (congrArg List.length hx) (congrArg (fun l : List Int => l.map eI) hx)), o159, (Sep.symm sp151), m161, by exact hr2⟩
            ·
              refine AOps.no rfl rfl rfl rfl rfl rfl rfl (ble_of (decide_eq_false b95) (by decide)) ?_
              refine AOps.no rfl rfl rfl rfl rfl rfl rfl (ble_of (decide_eq_false b95) (by decide)) ?_
              refine AOps.no rfl rfl rfl rfl rfl rfl rfl (ble_of (decide_eq_false b95) (by decide)) ?_
              refine AOps.no rfl rfl rfl rfl rfl rfl rfl (ble_of (decide_eq_false b95) (by decide)) ?_
              refine AOps.un rfl rfl rfl rfl rfl rfl rfl ?_
              refine AOps.un rfl rfl rfl rfl rfl rfl rfl ?_
              refine AOps.un rfl rfl rfl rfl rfl rfl rfl ?_
              refine AOps.no rfl rfl rfl rfl rfl rfl rfl (ble_of (decide_eq_false b95) (by decide)) ?_
              refine AOps.cons rfl rfl (AOp.pickF (.bool false) rfl rfl (decide_eq_false b95) rfl ?_)
              refine AOps.nil ?_
              change AWP _ _ _ _ _ _
              refine AWP.condF rfl rfl ?_
              refine AWP.exit ?_
              change AWP _ _ _ _ _ _
              refine AWP.seq ?_
              have hst : isStop fs v (headS fs v) k := ⟨by have hk1 : k ≠ 0 := (by rintro rfl; exact b95 hx.1); omega, .inl (by omega)⟩
              have hle := run_le hg hx.1 hx.2.1 hx.2.2 hr
              have hml := mine_le fs v fs.length
              have hfl : fanL fs v = orbS fs v (headS fs v) k := by unfold fanL; rw [if_neg hne, ← stop_of (by omega) hr hst]
              refine AWP.region (l := [0, 1, 2, 3, 4, 5, 6, 7, 8, 9]) rfl ?_
              refine AOps.cons rfl rfl (AOp.move (w11) rfl s90 ?_)
              refine AOps.cons rfl rfl (AOp.move (.bool (roundB fs v)) rfl s83 ?_)
              refine AOps.cons rfl rfl (AOp.move (w11) rfl s90 ?_)
              refine AOps.cons rfl rfl (AOp.len_own (m := ((orbS fs v (headS fs v) k).length)) rfl rfl o91 u_35 ?_)
              refine AOps.cons rfl rfl (AOp.move (w7) rfl s89 ?_)
              refine AOps.cons rfl rfl (AOp.len_own (m := ((mineU fs v i).length)) rfl rfl o92 u_35 ?_)
              refine AOps.cons rfl rfl (AOp.bin (.bool (decide ((((orbS fs v (headS fs v) k).length) : Int) = (((mineU fs v i).length) : Int)))) rfl rfl rfl ieq ?_)
              refine AOps.cons rfl rfl (AOp.assign (w11) rfl rfl ?_)
              refine AOps.cons rfl rfl (AOp.assign (.bool (roundB fs v)) rfl rfl ?_)
              refine AOps.cons rfl rfl (AOp.assign (.bool (decide ((((orbS fs v (headS fs v) k).length) : Int) = (((mineU fs v i).length) : Int)))) rfl rfl ?_)
              refine AOps.nil ?_
              change AWP _ _ _ _ _ _
              refine AWP.ret ?_
              refine Fin.frz 4 o91 rfl m94 fun H162 m163 k164 => ?_
              have o165 := Own.stay o92 (Sep.symm sp93) (fun i hi _ => k164 i hi)
              refine ⟨_, _, Ghost.refl, .inr rfl, _, Res.three rfl rfl rfl rfl, ?_, m163⟩
              exact congrArg AV.tup (lc (congrArg (fun l : List Int => AV.sl l.length (l.map eI)) (show ((orbS fs v (headS fs v) k) : List Int) = fanL fs v from by rw [hfl])) (lc (congrArg AV.bool (show (roundB fs v : Bool) = fanR fs v from by unfold fanR; rw [if_neg hne])) (lc (congrArg AV.bool (show (decide ((((orbS fs v (headS fs v) k).length) : Int) = (((mineU fs v i).length) : Int)) : Bool) = fanOK fs v from by unfold fanOK; rw [if_neg hne, hfl, ← hie]; exact decide_eq_decide.2 (by omega))) rfl)))
        ·
          refine AWP.condF rfl (decide_eq_false b60) ?_
          refine AWP.skip ?_
          change AWP _ _ _ _ _ _
          refine AWP.seq ?_
          have hh : headS fs v = firstN fs v i.toNat := by unfold headS; rw [← hie2, if_neg b60]
          refine AWP.region (l := [0, 1]) rfl ?_
          refine AOps.cons rfl rfl (AOp.buildSlice (cells := []) rfl u_35 ts_3 tz_3 rfl rfl rfl ?_)
          intro i166 H167 n168 h169 k170
          have z171 := Mono.free m23 n168
          have o172 := Own.keep o22 k170 (Own.notnew o22 n168)
          have no173 := Own.notnew o22 n168
          have m174 := Mono.new m23 n168 k170
          obtain ⟨v175, e176⟩ : ∃ v : AV, v = .slm i166 0 1 0 0 := ⟨_, rfl⟩
          have o177 : Own H0 H167 1 v175 0 [] := .inr ⟨_, _, e176, h169, z171, rfl⟩
          have sp178 : Sep v175 w7 := by rw [e176]; exact Sep.ofNotId no173
          refine AOps.cons rfl rfl (AOp.assign (v175) rfl e176.symm ?_)
          refine AOps.nil ?_
          change AWP _ _ _ _ _ _
          refine AWP.seq ?_
          refine AWP.region (l := [0, 1]) rfl ?_
          refine AOps.cons rfl rfl (AOp.move (.int .i64 (firstN fs v i.toNat)) rfl s15 ?_)
          refine AOps.cons rfl rfl (AOp.assign (.int .i64 (firstN fs v i.toNat)) rfl rfl ?_)
          refine AOps.nil ?_
          change AWP _ _ _ _ _ _
          refine AWP.seq ?_
          refine AWP.block ?_
          refine AWP.loop (fun q179 fq Hq => ∃ (k : Nat) (w11 : AV), q179 = fs.length + 1 - k ∧ fq 12 = .int .i64 (iterS (stepS fs v) (headS fs v) k) ∧ fq 8 = .int .i64 (headS fs v) ∧ fq 10 = .bool (roundB fs v) ∧ fq 0 = .sl fs.length (fs.map eF) ∧ fq 1 = .int .i64 v ∧ fq 4 = .snil ∧ fq 5 = .bool false ∧ fq 6 = .bool false ∧ fq 7 = w7 ∧ fq 11 = w11 ∧ Own H0 Hq 1 w11 (orbS fs v (headS fs v) k).length ((orbS fs v (headS fs v) k).map eI) ∧ Own H0 Hq 1 w7 ((mineU fs v i).length) ((mineU fs v i).map eI) ∧ Sep w11 w7 ∧ Mono H0 Hq ∧ (Runs fs v (headS fs v) k)) (k := fs.length + 1 - 0) ?_ ?_
          ·
            exact ⟨0, v175, rfl, (congrArg (AV.int .i64) (show (firstN fs v i.toNat : Int) = iterS (stepS fs v) (headS fs v) 0 from by exact hh.symm)), (s15.trans (congrArg (AV.int .i64) (show (firstN fs v i.toNat : Int) = headS fs v from by exact hh.symm))), (congrArg AV.bool (show (decide (firstN fs v i.toNat < 0) : Bool) = roundB fs v from by unfold roundB; rw [← hie2])), s16, s17, s18, s19, s20, s21, rfl, (have hx : ([] : List Int) = orbS fs v (headS fs v) 0 := (by rfl); Own.re o177 (congrArg List.length hx) (congrArg (fun l : List Int => l.map eI) hx)), o172, sp178, m174, by intro i hi; omega⟩
          ·
            rintro _ f181 H180 ⟨k, w11, rfl, s182, s183, s184, s185, s186, s187, s188, s189, s190, s191, o192, o193, sp194, m195, hr⟩
            refine AWP.seq ?_
            refine AWP.seq ?_
            refine AWP.region (l := [0, 1, 2, 3, 4, 5, 6, 7, 8, 9, 10, 11]) rfl ?_
            refine AOps.cons rfl rfl (AOp.move (.int .i64 (iterS (stepS fs v) (headS fs v) k)) rfl s182 ?_)
            refine AOps.cons rfl rfl (AOp.bin (.bool (decide (iterS (stepS fs v) (headS fs v) k ≥ 0))) rfl rfl rfl rfl ?_)
            refine AOps.cons rfl rfl (AOp.move (.bool (decide (iterS (stepS fs v) (headS fs v) k ≥ 0))) rfl rfl ?_)
            by_cases b196 : iterS (stepS fs v) (headS fs v) k ≥ 0
            ·
              refine AOps.yes rfl rfl rfl rfl rfl rfl rfl (decide_eq_true b196) (AOp.move (w11) rfl s191 ?_)
              refine AOps.yes rfl rfl rfl rfl rfl rfl rfl (decide_eq_true b196) (AOp.len_own (m := ((orbS fs v (headS fs v) k).length)) rfl rfl o192 u_35 ?_)
              refine AOps.yes rfl rfl rfl rfl rfl rfl rfl (decide_eq_true b196) (AOp.bin (.bool (decide ((((orbS fs v (headS fs v) k).length) : Int) = 0))) rfl rfl rfl ieq ?_)
              refine AOps.yes rfl rfl rfl rfl rfl rfl rfl (decide_eq_true b196) (AOp.move (.bool (decide ((((orbS fs v (headS fs v) k).length) : Int) = 0))) rfl rfl ?_)
              by_cases b197 : (((orbS fs v (headS fs v) k).length) : Int) = 0
              ·
                refine AOps.no rfl rfl rfl rfl rfl rfl rfl (ble_of (decide_eq_true b197) (by decide)) ?_
                refine AOps.no rfl rfl rfl rfl rfl rfl rfl (ble_of (decide_eq_true b197) (by decide)) ?_
                refine AOps.no rfl rfl rfl rfl rfl rfl rfl (ble_of (decide_eq_true b197) (by decide)) ?_
                refine AOps.yes rfl rfl rfl rfl rfl rfl rfl (decide_eq_true b196) (AOp.pickT (.bool true) rfl rfl (decide_eq_true b197) rfl ?_)
                refine AOps.cons rfl rfl (AOp.pickT (.bool true) rfl rfl (decide_eq_true b196) rfl ?_)
                refine AOps.nil ?_
                change AWP _ _ _ _ _ _
                refine AWP.condT rfl rfl ?_
                refine AWP.skip ?_
                change AWP _ _ _ _ _ _
                refine AWP.block ?_
                refine AWP.seq ?_
                have hr2 := runs_step hr b196 (.inl (by have := b197; rw [orb_len] at this; omega))
                have hmm := run_mem hg hx.1 hx.2.1 hx.2.2 hr2 k (by omega)
                have hle := run_le hg hx.1 hx.2.1 hx.2.2 hr2
                have hml := mine_le fs v fs.length
                have hol := orb_len fs v (headS fs v) k
                have hq : (at_ fs (iterS (stepS fs v) (headS fs v) k)).length ≤ 1048576 := hfss _ (at_mem (by omega) (by omega))
                refine AWP.region (l := [0, 1, 2, 3, 4]) rfl ?_
                refine AOps.cons rfl rfl (AOp.move (w11) rfl s191 ?_)
                refine AOps.cons rfl rfl (AOp.move (.int .i64 (iterS (stepS fs v) (headS fs v) k)) rfl s182 ?_)
                refine AOps.cons rfl rfl (AOp.buildSlice (cells := [.int .i64 (iterS (stepS fs v) (headS fs v) k)]) rfl u_35 ts_3 tz_3 rfl rfl rfl ?_)
                intro i198 H199 n200 h201 k202
                have z203 := Mono.free m195 n200
                have o204 := Own.keep o192 k202 (Own.notnew o192 n200)
                have no205 := Own.notnew o192 n200
                have o206 := Own.keep o193 k202 (Own.notnew o193 n200)
                have no207 := Own.notnew o193 n200
                have m208 := Mono.new m195 n200 k202
                refine AOps.cons rfl rfl (AOp.append_own (es := 1) (m := 1) (len := ((orbS fs v (headS fs v) k).length)) (old := (orbS fs v (headS fs v) k).map eI) (cells := [.int .i64 (iterS (stepS fs v) (headS fs v) k)]) rfl u_35 ts_3 tzn_3 tb_3 (by decide) ni_35 rfl o204 m208 rfl (.slm h201 rfl) (one_of rfl) (by decide) (by first | omega | (simp; omega)) ?_)
                intro v209 H210 o211 m212 k213 j214
                have o215 := Own.snoc1 (xs := ((orbS fs v (headS fs v) k) : List Int)) (y := iterS (stepS fs v) (headS fs v) k) (e := eI) (by simp) o211
                have sp217 := Own.sep o206 (Sep.symm sp194) j214
                have o216 := Own.stay o206 (Sep.symm sp194) k213
                refine AOps.cons rfl rfl (AOp.assign (v209) rfl rfl ?_)
                refine AOps.nil ?_
                change AWP _ _ _ _ _ _
                refine AWP.region (l := [0, 1, 2, 3, 4, 5, 6, 7, 8, 9]) rfl ?_
                refine AOps.cons rfl rfl (AOp.move (.sl fs.length (fs.map eF)) rfl s185 ?_)
                refine AOps.cons rfl rfl (AOp.move (.int .i64 v) rfl s186 ?_)
                refine AOps.cons rfl rfl (AOp.move (.sl fs.length (fs.map eF)) rfl s185 ?_)
                refine AOps.cons rfl rfl (AOp.move (.int .i64 (iterS (stepS fs v) (headS fs v) k)) rfl s182 ?_)
                refine AOps.cons rfl rfl (AOp.indexAddrS rfl rfl rfl sl_22 (by omega) (by omega) ?_)
                refine AOps.cons rfl rfl (AOp.loadF (.sl (at_ fs (iterS (stepS fs v) (headS fs v) k)).length ((at_ fs (iterS (stepS fs v) (headS fs v) k)).map eI)) rfl rfl ty_35 (ld1 (by omega) (by omega)) ?_)
                refine AOps.cons rfl rfl (AOp.move (.int .i64 v) rfl s186 ?_)
                refine AOps.cons rfl rfl (AOp.pcall («as» := [.sl (at_ fs (iterS (stepS fs v) (headS fs v) k)).length ((at_ fs (iterS (stepS fs v) (headS fs v) k)).map eI), .int .i64 v, .int .i64 (-1)]) rfl rfl (rfl) tf_39 (c39 _ (by first | omega | assumption) _ _ (by omega)) ?_)
                intro H218 m219
                have o220 := Own.mono o216 m219
                have o221 := Own.mono o215 m219
                have m222 := m212.trans m219
                refine AOps.cons rfl rfl (AOp.pcall («as» := [.sl fs.length (fs.map eF), .int .i64 v, .int .i64 (nextS (at_ fs (iterS (stepS fs v) (headS fs v) k)) v (-1))]) rfl rfl (rfl) tf_27 (c27 _ (by assumption) (by assumption) _ _) ?_)
                intro H223 m224
                have o225 := Own.mono o220 m224
                have o226 := Own.mono o221 m224
                have m227 := m222.trans m224
                refine AOps.cons rfl rfl (AOp.assign (.int .i64 (alongS fs v (nextS (at_ fs (iterS (stepS fs v) (headS fs v) k)) v (-1)))) rfl rfl ?_)
                refine AOps.nil ?_
                exact ⟨_, by omega, k + 1, v209, rfl, (congrArg (AV.int .i64) (show (alongS fs v (nextS (at_ fs (iterS (stepS fs v) (headS fs v) k)) v (-1)) : Int) = iterS (stepS fs v) (headS fs v) (k + 1) from by rfl)), s183, s184, s185, s186, s187, s188, s189, s190, rfl, (have hx : (((orbS fs v (headS fs v) k) ++ [iterS (stepS fs v) (headS fs v) k]) : List Int) = orbS fs v (headS fs v) (k + 1) := (by rw [orb_step]); Own.re o226 (congrArg List.length hx) (congrArg (fun l : List Int => l.map eI) hx)), o225, (Sep.symm sp217), m227, by exact hr2⟩
              ·
                refine AOps.yes rfl rfl rfl rfl rfl rfl rfl (decide_eq_false b197) (AOp.move (.int .i64 (iterS (stepS fs v) (headS fs v) k)) rfl s182 ?_)
                refine AOps.yes rfl rfl rfl rfl rfl rfl rfl (decide_eq_false b197) (AOp.move (.int .i64 (headS fs v)) rfl s183 ?_)
                refine AOps.yes rfl rfl rfl rfl rfl rfl rfl (decide_eq_false b197) (AOp.bin (.bool (!decide (iterS (stepS fs v) (headS fs v) k = headS fs v))) rfl rfl rfl ine ?_)
                refine AOps.yes rfl rfl rfl rfl rfl rfl rfl (decide_eq_true b196) (AOp.pickF (.bool (!decide (iterS (stepS fs v) (headS fs v) k = headS fs v))) rfl rfl (decide_eq_false b197) rfl ?_)
                refine AOps.cons rfl rfl (AOp.pickT (.bool (!decide (iterS (stepS fs v) (headS fs v) k = headS fs v))) rfl rfl (decide_eq_true b196) rfl ?_)
                refine AOps.nil ?_
                change AWP _ _ _ _ _ _
                by_cases b228 : iterS (stepS fs v) (headS fs v) k = headS fs v
                ·
                  refine AWP.condF rfl (nb (decide_eq_true b228)) ?_
                  refine AWP.exit ?_
                  change AWP _ _ _ _ _ _
                  refine AWP.seq ?_
                  have hst : isStop fs v (headS fs v) k := ⟨by have := b197; rw [orb_len] at this; omega, .inr b228⟩
                  have hle := run_le hg hx.1 hx.2.1 hx.2.2 hr
                  have hml := mine_le fs v fs.length
                  have hfl : fanL fs v = orbS fs v (headS fs v) k := by unfold fanL; rw [if_neg hne, ← stop_of (by omega) hr hst]
                  refine AWP.region (l := [0, 1, 2, 3, 4, 5, 6, 7, 8, 9]) rfl ?_
                  refine AOps.cons rfl rfl (AOp.move (w11) rfl s191 ?_)
                  refine AOps.cons rfl rfl (AOp.move (.bool (roundB fs v)) rfl s184 ?_)
                  refine AOps.cons rfl rfl (AOp.move (w11) rfl s191 ?_)
                  refine AOps.cons rfl rfl (AOp.len_own (m := ((orbS fs v (headS fs v) k).length)) rfl rfl o192 u_35 ?_)
                  refine AOps.cons rfl rfl (AOp.move (w7) rfl s190 ?_)
                  refine AOps.cons rfl rfl (AOp.len_own (m := ((mineU fs v i).length)) rfl rfl o193 u_35 ?_)
                  refine AOps.cons rfl rfl (AOp.bin (.bool (decide ((((orbS fs v (headS fs v) k).length) : Int) = (((mineU fs v i).length) : Int)))) rfl rfl rfl ieq ?_)
                  refine AOps.cons rfl rfl (AOp.assign (w11) rfl rfl ?_)
                  refine AOps.cons rfl rfl (AOp.assign (.bool (roundB fs v)) rfl rfl ?_)
                  refine AOps.cons rfl rfl (AOp.assign (.bool (decide ((((orbS fs v (headS fs v) k).length) : Int) = (((mineU fs v i).length) : Int)))) rfl rfl ?_)
                  refine AOps.nil ?_
                  change AWP _ _ _ _ _ _
                  refine AWP.ret ?_
                  refine Fin.frz 4 o192 rfl m195 fun H229 m230 k231 => ?_
                  have o232 := Own.stay o193 (Sep.symm sp194) (fun i hi _ => k231 i hi)
                  refine ⟨_, _, Ghost.refl, .inr rfl, _, Res.three rfl rfl rfl rfl, ?_, m230⟩
                  exact congrArg AV.tup (lc (congrArg (fun l : List Int => AV.sl l.length (l.map eI)) (show ((orbS fs v (headS fs v) k) : List Int) = fanL fs v from by rw [hfl])) (lc (congrArg AV.bool (show (roundB fs v : Bool) = fanR fs v from by unfold fanR; rw [if_neg hne])) (lc (congrArg AV.bool (show (decide ((((orbS fs v (headS fs v) k).length) : Int) = (((mineU fs v i).length) : Int)) : Bool) = fanOK fs v from by unfold fanOK; rw [if_neg hne, hfl, ← hie]; exact decide_eq_decide.2 (by omega))) rfl)))
                ·
                  refine AWP.condT rfl (nb (decide_eq_false b228)) ?_
                  refine AWP.skip ?_
                  change AWP _ _ _ _ _ _
                  refine AWP.block ?_
                  refine AWP.seq ?_
                  have hr2 := runs_step hr b196 (.inr b228)
                  have hmm := run_mem hg hx.1 hx.2.1 hx.2.2 hr2 k (by omega)
                  have hle := run_le hg hx.1 hx.2.1 hx.2.2 hr2
                  have hml := mine_le fs v fs.length
                  have hol := orb_len fs v (headS fs v) k
                  have hq : (at_ fs (iterS (stepS fs v) (headS fs v) k)).length ≤ 1048576 := hfss _ (at_mem (by omega) (by omega))
                  refine AWP.region (l := [0, 1, 2, 3, 4]) rfl ?_
                  refine AOps.cons rfl rfl (AOp.move (w11) rfl s191 ?_)
                  refine AOps.cons rfl rfl (AOp.move (.int .i64 (iterS (stepS fs v) (headS fs v) k)) rfl s182 ?_)
                  refine AOps.cons rfl rfl (AOp.buildSlice (cells := [.int .i64 (iterS (stepS fs v) (headS fs v) k)]) rfl u_35 ts_3 tz_3 rfl rfl rfl ?_)
                  intro i233 H234 n235 h236 k237
                  have z238 := Mono.free m195 n235
                  have o239 := Own.keep o192 k237 (Own.notnew o192 n235)
                  have no240 := Own.notnew o192 n235
                  have o241 := Own.keep o193 k237 (Own.notnew o193 n235)
                  have no242 := Own.notnew o193 n235
                  have m243 := Mono.new m195 n235 k237
                  refine AOps.cons rfl rfl (AOp.append_own (es := 1) (m := 1) (len := ((orbS fs v (headS fs v) k).length)) (old := (orbS fs v (headS fs v) k).map eI) (cells := [.int .i64 (iterS (stepS fs v) (headS fs v) k)]) rfl u_35 ts_3 tzn_3 tb_3 (by decide) ni_35 rfl o239 m243 rfl (.slm h236 rfl) (one_of rfl) (by decide) (by first | omega | (simp; omega)) ?_)
                  intro v244 H245 o246 m247 k248 j249
                  have o250 := Own.snoc1 (xs := ((orbS fs v (headS fs v) k) : List Int)) (y := iterS (stepS fs v) (headS fs v) k) (e := eI) (by simp) o246
                  have sp252 := Own.sep o241 (Sep.symm sp194) j249
                  have o251 := Own.stay o241 (Sep.symm sp194) k248
                  refine AOps.cons rfl rfl (AOp.assign (v244) rfl rfl ?_)
                  refine AOps.nil ?_
                  change AWP _ _ _ _ _ _
                  refine AWP.region (l := [0, 1, 2, 3, 4, 5, 6, 7, 8, 9]) rfl ?_
                  refine AOps.cons rfl rfl (AOp.move (.sl fs.length (fs.map eF)) rfl s185 ?_)
                  refine AOps.cons rfl rfl (AOp.move (.int .i64 v) rfl s186 ?_)
                  refine AOps.cons rfl rfl (AOp.move (.sl fs.length (fs.map eF)) rfl s185 ?_)
                  refine AOps.cons rfl rfl (AOp.move (.int .i64 (iterS (stepS fs v) (headS fs v) k)) rfl s182 ?_)
                  refine AOps.cons rfl rfl (AOp.indexAddrS rfl rfl rfl sl_22 (by omega) (by omega) ?_)
                  refine AOps.cons rfl rfl (AOp.loadF (.sl (at_ fs (iterS (stepS fs v) (headS fs v) k)).length ((at_ fs (iterS (stepS fs v) (headS fs v) k)).map eI)) rfl rfl ty_35 (ld1 (by omega) (by omega)) ?_)
                  refine AOps.cons rfl rfl (AOp.move (.int .i64 v) rfl s186 ?_)
                  refine AOps.cons rfl rfl (AOp.pcall («as» := [.sl (at_ fs (iterS (stepS fs v) (headS fs v) k)).length ((at_ fs (iterS (stepS fs v) (headS fs v) k)).map eI), .int .i64 v, .int .i64 (-1)]) rfl rfl (rfl) tf_39 (c39 _ (by first | omega | assumption) _ _ (by omega)) ?_)
                  intro H253 m254
                  have o255 := Own.mono o251 m254
                  have o256 := Own.mono o250 m254
                  have m257 := m247.trans m254
                  refine AOps.cons rfl rfl (AOp.pcall («as» := [.sl fs.length (fs.map eF), .int .i64 v, .int .i64 (nextS (at_ fs (iterS (stepS fs v) (headS fs v) k)) v (-1))]) rfl rfl (rfl) tf_27 (c27 _ (by assumption) (by assumption) _ _) ?_)
                  intro H258 m259
                  have o260 := Own.mono o255 m259
                  have o261 := Own.mono o256 m259
                  have m262 := m257.trans m259
                  refine AOps.cons rfl rfl (AOp.assign (.int .i64 (alongS fs v (nextS (at_ fs (iterS (stepS fs v) (headS fs v) k)) v (-1)))) rfl rfl ?_)
                  refine AOps.nil ?_
                  exact ⟨_, by omega, k + 1, v244, rfl, (congrArg (AV.int .i64) (show (alongS fs v (nextS (at_ fs (iterS (stepS fs v) (headS fs v) k)) v (-1)) : Int) = iterS (stepS fs v) (headS fs v) (k + 1) from by rfl)), s183, s184, s185, s186, s187, s188, s189, s190, rfl, (have hx : (((orbS fs v (headS fs v) k) ++ [iterS (stepS fs v) (headS fs v) k]) : List Int) = orbS fs v (headS fs v) (k + 1) := (by rw [orb_step]); Own.re o261 (congrArg List.length hx) (congrArg (fun l : List Int => l.map eI) hx)), o260, (Sep.symm sp252), m262, by exact hr2⟩
            ·
              refine AOps.no rfl rfl rfl rfl rfl rfl rfl (ble_of (decide_eq_false b196) (by decide)) ?_
              refine AOps.no rfl rfl rfl rfl rfl rfl rfl (ble_of (decide_eq_false b196) (by decide)) ?_
              refine AOps.no rfl rfl rfl rfl rfl rfl rfl (ble_of (decide_eq_false b196) (by decide)) ?_
              refine AOps.no rfl rfl rfl rfl rfl rfl rfl (ble_of (decide_eq_false b196) (by decide)) ?_
              refine AOps.un rfl rfl rfl rfl rfl rfl rfl ?_
              refine AOps.un rfl rfl rfl rfl rfl rfl rfl ?_
              refine AOps.un rfl rfl rfl rfl rfl rfl rfl ?_
              refine AOps.no rfl rfl rfl rfl rfl rfl rfl (ble_of (decide_eq_false b196) (by decide)) ?_
              refine AOps.cons rfl rfl (AOp.pickF (.bool false) rfl rfl (decide_eq_false b196) rfl ?_)
              refine AOps.nil ?_
              change AWP _ _ _ _ _ _
              refine AWP.condF rfl rfl ?_
              refine AWP.exit ?_
              change AWP _ _ _ _ _ _
              refine AWP.seq ?_
              have hst : isStop fs v (headS fs v) k := ⟨by have hk1 : k ≠ 0 := (by rintro rfl; exact b196 hx.1); omega, .inl (by omega)⟩
              have hle := run_le hg hx.1 hx.2.1 hx.2.2 hr
              have hml := mine_le fs v fs.length
              have hfl : fanL fs v = orbS fs v (headS fs v) k := by unfold fanL; rw [if_neg hne, ← stop_of (by omega) hr hst]
              refine AWP.region (l := [0, 1, 2, 3, 4, 5, 6, 7, 8, 9]) rfl ?_
              refine AOps.cons rfl rfl (AOp.move (w11) rfl s191 ?_)
              refine AOps.cons rfl rfl (AOp.move (.bool (roundB fs v)) rfl s184 ?_)
              refine AOps.cons rfl rfl (AOp.move (w11) rfl s191 ?_)
              refine AOps.cons rfl rfl (AOp.len_own (m := ((orbS fs v (headS fs v) k).length)) rfl rfl o192 u_35 ?_)
              refine AOps.cons rfl rfl (AOp.move (w7) rfl s190 ?_)
              refine AOps.cons rfl rfl (AOp.len_own (m := ((mineU fs v i).length)) rfl rfl o193 u_35 ?_)
              refine AOps.cons rfl rfl (AOp.bin (.bool (decide ((((orbS fs v (headS fs v) k).length) : Int) = (((mineU fs v i).length) : Int)))) rfl rfl rfl ieq ?_)
              refine AOps.cons rfl rfl (AOp.assign (w11) rfl rfl ?_)
              refine AOps.cons rfl rfl (AOp.assign (.bool (roundB fs v)) rfl rfl ?_)
              refine AOps.cons rfl rfl (AOp.assign (.bool (decide ((((orbS fs v (headS fs v) k).length) : Int) = (((mineU fs v i).length) : Int)))) rfl rfl ?_)
              refine AOps.nil ?_
              change AWP _ _ _ _ _ _
              refine AWP.ret ?_
              refine Fin.frz 4 o192 rfl m195 fun H263 m264 k265 => ?_
              have o266 := Own.stay o193 (Sep.symm sp194) (fun i hi _ => k265 i hi)
              refine ⟨_, _, Ghost.refl, .inr rfl, _, Res.three rfl rfl rfl rfl, ?_, m264⟩
              exact congrArg AV.tup (lc (congrArg (fun l : List Int => AV.sl l.length (l.map eI)) (show ((orbS fs v (headS fs v) k) : List Int) = fanL fs v from by rw [hfl])) (lc (congrArg AV.bool (show (roundB fs v : Bool) = fanR fs v from by unfold fanR; rw [if_neg hne])) (lc (congrArg AV.bool (show (decide ((((orbS fs v (headS fs v) k).length) : Int) = (((mineU fs v i).length) : Int)) : Bool) = fanOK fs v from by unfold fanOK; rw [if_neg hne, hfl, ← hie]; exact decide_eq_decide.2 (by omega))) rfl)))

theorem c13 (v : Int) (hv : v ≤ 1000) (fs : List (List Int)) (hfs : fs.length ≤ 1048576) (hfss : ∀ l ∈ fs, l.length ≤ 1048576) : PC Try.prog 13 [.int .i64 v, .sl fs.length (fs.map eF)] (.tup [.agg [.sl ((buildT v fs).ed).length (((buildT v fs).ed).flatMap eE), .sl ((buildT v fs).fan).length (((buildT v fs).fan).map eF), .sl ((buildT v fs).rnd).length (((buildT v fs).rnd).map eBo)], .int .i64 (buildE v fs)]) := by
  intro H0
  refine ACalls.of_body' (n := 89) rfl rfl rfl rfl ?_
  have m0 := Mono.refl H0
  refine AWP.seq ?_
  refine AWP.region (l := [0, 1]) rfl ?_
  refine AOps.cons rfl rfl (AOp.alloc rfl tz_29 ?_)
  intro i1 H2 n3 h4 k5
  have z6 := Mono.free m0 n3
  have m7 := Mono.new m0 n3 k5
  refine AOps.cons rfl rfl (AOp.assign (.int .i64 0) rfl rfl ?_)
  refine AOps.nil ?_
  change AWP _ _ _ _ _ _
  refine AWP.seq ?_
  refine AWP.seq ?_
  refine AWP.region (l := [0, 1, 2, 3, 4, 5, 6, 7]) rfl ?_
  refine AOps.cons rfl rfl (AOp.move (.int .i64 v) rfl rfl ?_)
  refine AOps.cons rfl rfl (AOp.bin (.bool (decide (v < 0))) rfl rfl rfl rfl ?_)
  refine AOps.cons rfl rfl (AOp.move (.bool (decide (v < 0))) rfl rfl ?_)
  by_cases b8 : v < 0
  ·
    refine AOps.no rfl rfl rfl rfl rfl rfl rfl (ble_of (decide_eq_true b8) (by decide)) ?_
    refine AOps.no rfl rfl rfl rfl rfl rfl rfl (ble_of (decide_eq_true b8) (by decide)) ?_
    refine AOps.no rfl rfl rfl rfl rfl rfl rfl (ble_of (decide_eq_true b8) (by decide)) ?_
    refine AOps.no rfl rfl rfl rfl rfl rfl rfl (ble_of (decide_eq_true b8) (by decide)) ?_
    refine AOps.cons rfl rfl (AOp.pickT (.bool true) rfl rfl (decide_eq_true b8) rfl ?_)
    refine AOps.nil ?_
    change AWP _ _ _ _ _ _
    refine AWP.condT rfl rfl ?_
    refine AWP.seq ?_
    refine AWP.region (l := [0, 1, 2]) rfl ?_
    refine AOps.cons rfl rfl (AOp.build (cells := [.snil, .snil, .snil]) rfl tz_29 pl_29 rfl rfl ?_)
    refine AOps.cons rfl rfl (AOp.store' (cells' := [.snil, .snil, .snil]) (.agg [.snil, .snil, .snil]) rfl rfl ts_29 h4 rfl rfl rfl rfl ?_)
    intro H9 h10 k11
    have m13 := Mono.set m7 z6 k11
    refine AOps.cons rfl rfl (AOp.assign (.int .i64 14) rfl rfl ?_)
    refine AOps.nil ?_
    change AWP _ _ _ _ _ _
    refine AWP.ret ?_
    refine Fin.frzCell 0 (Own.nil H0 H9 1) h10 z6 rfl (NotId.nil _) m13 fun H14 h15 m16 k17 => ?_
    have h18 : H14 i1 = some (.row 0 ([.sl 0 ([]), .snil, .snil])) := h15
    refine Fin.frzCell 1 (Own.nil H0 H14 1) h18 z6 rfl (NotId.nil _) m16 fun H19 h20 m21 k22 => ?_
    have h23 : H19 i1 = some (.row 0 ([.sl 0 ([]), .sl 0 ([]), .snil])) := h20
    refine Fin.frzCell 2 (Own.nil H0 H19 1) h23 z6 rfl (NotId.nil _) m21 fun H24 h25 m26 k27 => ?_
    have h28 : H24 i1 = some (.row 0 ([.sl 0 ([]), .sl 0 ([]), .sl 0 ([])])) := h25
    refine ⟨_, _, Ghost.refl, .inr rfl, _, Res.list rfl rfl (.cell (v := .agg [.sl 0 ([]), .sl 0 ([]), .sl 0 ([])]) rfl ty_29 h28 rfl (.tmp rfl (.nil))), ?_, m26⟩
    exact congrArg AV.tup (lc (congrArg AV.agg (lc (congrArg (fun l : List Ed => AV.sl l.length (l.flatMap eE)) (show ([] : List Ed) = (buildT v fs).ed from by rw [(build_no (fun h => absurd h.1 (by omega))).1])) (lc (congrArg (fun l : List (List Int) => AV.sl l.length (l.map eF)) (show ([] : List (List Int)) = (buildT v fs).fan from by rw [(build_no (fun h => absurd h.1 (by omega))).1])) (lc (congrArg (fun l : List Bool => AV.sl l.length (l.map eBo)) (show ([] : List Bool) = (buildT v fs).rnd from by rw [(build_no (fun h => absurd h.1 (by omega))).1])) rfl)))) (lc (congrArg (AV.int .i64) (show (14 : Int) = buildE v fs from by rw [(build_no (fun h => absurd h.1 (by omega))).2])) rfl))
  ·
    refine AOps.yes rfl rfl rfl rfl rfl rfl rfl (decide_eq_false b8) (AOp.move (.int .i64 v) rfl rfl ?_)
    refine AOps.yes rfl rfl rfl rfl rfl rfl rfl (decide_eq_false b8) (AOp.move (.sl fs.length (fs.map eF)) rfl rfl ?_)
    refine AOps.yes rfl rfl rfl rfl rfl rfl rfl (decide_eq_false b8) (AOp.pcall («as» := [.int .i64 v, .sl fs.length (fs.map eF)]) rfl rfl (rfl) tf_26 (c26 _ _ (by assumption) (by assumption)) ?_)
    intro H29 m30
    have h31 := m30 _ _ h4
    have m32 := m7.trans m30
    refine AOps.yes rfl rfl rfl rfl rfl rfl rfl (decide_eq_false b8) (AOp.not rfl rfl ?_)
    refine AOps.cons rfl rfl (AOp.pickF (.bool (!(decide (goodS v fs)))) rfl rfl (decide_eq_false b8) rfl ?_)
    refine AOps.nil ?_
    change AWP _ _ _ _ _ _
    by_cases b33 : goodS v fs
    ·
      refine AWP.condF rfl (nb (decide_eq_true b33)) ?_
      refine AWP.skip ?_
      change AWP _ _ _ _ _ _
      refine AWP.seq ?_
      refine AWP.region (l := [0, 1, 2]) rfl ?_
      refine AOps.cons rfl rfl (AOp.build (cells := [.snil, .snil, .snil]) rfl tz_29 pl_29 rfl rfl ?_)
      refine AOps.cons rfl rfl (AOp.alloc rfl tz_29 ?_)
      intro i34 H35 n36 h37 k38
      have e39 := ne_new h31 n36
      have z40 := Mono.free m32 n36
      have h41 := keep k38 (ne_new h31 n36) h31
      have m42 := Mono.new m32 n36 k38
      refine AOps.cons rfl rfl (AOp.store' (cells' := [.snil, .snil, .snil]) (.agg [.snil, .snil, .snil]) rfl rfl ts_29 h37 rfl rfl rfl rfl ?_)
      intro H43 h44 k45
      have h46 := keep k45 e39 h41
      have m48 := Mono.set m42 z40 k45
      refine AOps.nil ?_
      change AWP _ _ _ _ _ _
      refine AWP.seq ?_
      refine AWP.seq ?_
      refine AWP.region (l := [0]) rfl ?_
      refine AOps.cons rfl rfl (AOp.assign (.int .i64 0) rfl rfl ?_)
      refine AOps.nil ?_
      change AWP _ _ _ _ _ _
      refine AWP.block ?_
      refine AWP.loop (fun q49 fq Hq => ∃ (a : Int) (w6_0 : AV), q49 = (v - a).toNat ∧ fq 7 = .int .i64 a ∧ fq 0 = .int .i64 v ∧ fq 1 = .sl fs.length (fs.map eF) ∧ fq 4 = .ptr i1 0 0 ∧ fq 5 = .int .i64 0 ∧ fq 6 = .ptr i34 0 0 ∧ Own H0 Hq 4 w6_0 (eOut fs v a).length ((eOut fs v a).flatMap eE) ∧ NotId w6_0 i1 ∧ NotId w6_0 i34 ∧ Hq i1 = some (.row 0 ([.snil, .snil, .snil])) ∧ Hq i34 = some (.row 0 ([w6_0, .snil, .snil])) ∧ Mono H0 Hq ∧ (0 ≤ a) ∧ (a ≤ v)) (k := (v - 0).toNat) ?_ ?_
      ·
        exact ⟨0, .snil, rfl, rfl, rfl, rfl, rfl, rfl, rfl, Own.nil _ _ _, (NotId.nil _), (NotId.nil _), h46, h44, m48, by omega, by omega⟩
      ·
        rintro _ f51 H50 ⟨a, w6_0, rfl, s52, s53, s54, s55, s56, s57, o58, no59, no60, h61, h62, m63, ha0, ha1⟩
        refine AWP.seq ?_
        refine AWP.seq ?_
        refine AWP.region (l := [0, 1, 2]) rfl ?_
        refine AOps.cons rfl rfl (AOp.move (.int .i64 a) rfl s52 ?_)
        refine AOps.cons rfl rfl (AOp.move (.int .i64 v) rfl s53 ?_)
        refine AOps.cons rfl rfl (AOp.bin (.bool (decide (a < v))) rfl rfl rfl rfl ?_)
        refine AOps.nil ?_
        change AWP _ _ _ _ _ _
        by_cases b64 : a < v
        ·
          refine AWP.condT rfl (decide_eq_true b64) ?_
          refine AWP.skip ?_
          change AWP _ _ _ _ _ _
          refine AWP.seq ?_
          refine AWP.block ?_
          refine AWP.seq ?_
          refine AWP.region (l := [0, 1, 2]) rfl ?_
          refine AOps.cons rfl rfl (AOp.move (.int .i64 a) rfl s52 ?_)
          refine AOps.cons rfl rfl (AOp.bin (.int .i64 (a + 1)) rfl rfl rfl (iadd (by omega)) ?_)
          refine AOps.cons rfl rfl (AOp.assign (.int .i64 (a + 1)) rfl rfl ?_)
          refine AOps.nil ?_
          change AWP _ _ _ _ _ _
          refine AWP.block ?_
          refine AWP.loop (fun q65 fq Hq => ∃ (b : Int) (w6_0 : AV), q65 = (v - b).toNat ∧ fq 8 = .int .i64 b ∧ fq 7 = .int .i64 a ∧ fq 0 = .int .i64 v ∧ fq 1 = .sl fs.length (fs.map eF) ∧ fq 4 = .ptr i1 0 0 ∧ fq 5 = .int .i64 0 ∧ fq 6 = .ptr i34 0 0 ∧ Own H0 Hq 4 w6_0 (eOut fs v a ++ eIn fs a b).length ((eOut fs v a ++ eIn fs a b).flatMap eE) ∧ NotId w6_0 i1 ∧ NotId w6_0 i34 ∧ Hq i1 = some (.row 0 ([.snil, .snil, .snil])) ∧ Hq i34 = some (.row 0 ([w6_0, .snil, .snil])) ∧ Mono H0 Hq ∧ (a < b) ∧ (b ≤ v)) (k := (v - (a + 1)).toNat) ?_ ?_
          ·
            exact ⟨a + 1, w6_0, rfl, rfl, s52, s53, s54, s55, s56, s57, (have hx : ((eOut fs v a) : List Ed) = eOut fs v a ++ eIn fs a (a + 1) := (by rw [eIn_start ha0, List.append_nil]); Own.re o58 (congrArg List.length hx) (congrArg (fun l : List Ed => l.flatMap eE) hx)), no59, no60, h61, h62, m63, by omega, by omega⟩
          ·
            rintro _ f67 H66 ⟨b, w6_0, rfl, s68, s69, s70, s71, s72, s73, s74, o75, no76, no77, h78, h79, m80, hb0, hb1⟩
            refine AWP.seq ?_
            refine AWP.seq ?_
            refine AWP.region (l := [0, 1, 2]) rfl ?_
            refine AOps.cons rfl rfl (AOp.move (.int .i64 b) rfl s68 ?_)
            refine AOps.cons rfl rfl (AOp.move (.int .i64 v) rfl s70 ?_)
            refine AOps.cons rfl rfl (AOp.bin (.bool (decide (b < v))) rfl rfl rfl rfl ?_)
            refine AOps.nil ?_
            change AWP _ _ _ _ _ _
            by_cases b81 : b < v
            ·
              refine AWP.condT rfl (decide_eq_true b81) ?_
              refine AWP.skip ?_
              change AWP _ _ _ _ _ _
              refine AWP.seq ?_
              refine AWP.block ?_
              refine AWP.seq ?_
              refine AWP.region (l := [0, 1, 2, 3, 4]) rfl ?_
              refine AOps.cons rfl rfl (AOp.move (.sl fs.length (fs.map eF)) rfl s71 ?_)
              refine AOps.cons rfl rfl (AOp.move (.int .i64 a) rfl s69 ?_)
              refine AOps.cons rfl rfl (AOp.move (.int .i64 b) rfl s68 ?_)
              refine AOps.cons rfl rfl (AOp.pcall («as» := [.sl fs.length (fs.map eF), .int .i64 a, .int .i64 b]) rfl rfl (rfl) tf_27 (c27 _ (by assumption) (by assumption) _ _) ?_)
              intro H82 m83
              have h84 := m83 _ _ h78
              have h85 := m83 _ _ h79
              have o86 := Own.mono o75 m83
              have m87 := m80.trans m83
              refine AOps.cons rfl rfl (AOp.assign (.int .i64 (alongS fs a b)) rfl rfl ?_)
              refine AOps.nil ?_
              change AWP _ _ _ _ _ _
              refine AWP.seq ?_
              refine AWP.region (l := [0, 1, 2, 3, 4]) rfl ?_
              refine AOps.cons rfl rfl (AOp.move (.sl fs.length (fs.map eF)) rfl s71 ?_)
              refine AOps.cons rfl rfl (AOp.move (.int .i64 b) rfl s68 ?_)
              refine AOps.cons rfl rfl (AOp.move (.int .i64 a) rfl s69 ?_)
              refine AOps.cons rfl rfl (AOp.pcall («as» := [.sl fs.length (fs.map eF), .int .i64 b, .int .i64 a]) rfl rfl (rfl) tf_27 (c27 _ (by assumption) (by assumption) _ _) ?_)
              intro H88 m89
              have h90 := m89 _ _ h84
              have h91 := m89 _ _ h85
              have o92 := Own.mono o86 m89
              have m93 := m87.trans m89
              refine AOps.cons rfl rfl (AOp.assign (.int .i64 (alongS fs b a)) rfl rfl ?_)
              refine AOps.nil ?_
              change AWP _ _ _ _ _ _
              refine AWP.seq ?_
              refine AWP.region (l := [0, 1, 2, 3, 4, 5]) rfl ?_
              refine AOps.cons rfl rfl (AOp.move (.int .i64 (alongS fs a b)) rfl rfl ?_)
              refine AOps.cons rfl rfl (AOp.bin (.bool (decide (alongS fs a b ≥ 0))) rfl rfl rfl rfl ?_)
              refine AOps.cons rfl rfl (AOp.move (.bool (decide (alongS fs a b ≥ 0))) rfl rfl ?_)
              by_cases b94 : alongS fs a b ≥ 0
              ·
                refine AOps.no rfl rfl rfl rfl rfl rfl rfl (ble_of (decide_eq_true b94) (by decide)) ?_
                refine AOps.no rfl rfl rfl rfl rfl rfl rfl (ble_of (decide_eq_true b94) (by decide)) ?_
                refine AOps.cons rfl rfl (AOp.pickT (.bool true) rfl rfl (decide_eq_true b94) rfl ?_)
                refine AOps.nil ?_
                change AWP _ _ _ _ _ _
                refine AWP.condT rfl rfl ?_
                have hl1 := eOut_len (fs := fs) (n := v) (a := a) hv
                have hl2 := eIn_len fs a b
                refine AWP.region (l := [0, 1, 2, 3, 4, 5, 6, 7, 8, 9, 10]) rfl ?_
                refine AOps.cons rfl rfl (AOp.fieldAddr rfl s74 fl_29_0 ?_ (hid := ⟨_, h91⟩))
                refine AOps.cons rfl rfl (AOp.load (w6_0) rfl rfl ty_26 h91 rfl ?_)
                refine AOps.cons rfl rfl (AOp.move (.int .i64 a) rfl s69 ?_)
                refine AOps.cons rfl rfl (AOp.move (.int .i64 b) rfl s68 ?_)
                refine AOps.cons rfl rfl (AOp.move (.int .i64 (alongS fs a b)) rfl rfl ?_)
                refine AOps.cons rfl rfl (AOp.move (.int .i64 (alongS fs b a)) rfl rfl ?_)
                refine AOps.cons rfl rfl (AOp.build (cells := [.int .i64 a, .int .i64 b, .int .i64 (alongS fs a b), .int .i64 (alongS fs b a)]) rfl tz_37 pl_37 rfl rfl ?_)
                refine AOps.cons rfl rfl (AOp.buildSlice (cells := [.int .i64 a, .int .i64 b, .int .i64 (alongS fs a b), .int .i64 (alongS fs b a)]) rfl u_26 ts_37 tz_37 rfl rfl rfl ?_)
                intro i95 H96 n97 h98 k99
                have e100 := ne_new h90 n97
                have e101 := ne_new h91 n97
                have z102 := Mono.free m93 n97
                have h103 := keep k99 (ne_new h90 n97) h90
                have h104 := keep k99 (ne_new h91 n97) h91
                have o105 := Own.keep o92 k99 (Own.notnew o92 n97)
                have no106 := Own.notnew o92 n97
                have m107 := Mono.new m93 n97 k99
                refine AOps.cons rfl rfl (AOp.append_own (es := 4) (m := 1) (len := ((eOut fs v a ++ eIn fs a b).length)) (old := (eOut fs v a ++ eIn fs a b).flatMap eE) (cells := [.int .i64 a, .int .i64 b, .int .i64 (alongS fs a b), .int .i64 (alongS fs b a)]) rfl u_26 ts_37 tzn_37 tb_37 (by decide) ni_26 rfl o105 m107 rfl (.slm h98 rfl) (one_of rfl) (by decide) (by first | omega | (simp; omega)) ?_)
                intro v108 H109 o110 m111 k112 j113
                have o114 := Own.snocM (xs := ((eOut fs v a ++ eIn fs a b) : List Ed)) (y := (Ed.mk a b (alongS fs a b) (alongS fs b a))) (e := eE) (by simp) o110
                have h115 := (k112 _ no76 (by rw [h103]; simp)).trans h103
                have no116 := j113 _ no76 (by rw [h103]; simp)
                have h117 := (k112 _ no77 (by rw [h104]; simp)).trans h104
                have no118 := j113 _ no77 (by rw [h104]; simp)
                refine AOps.cons rfl rfl (AOp.fieldAddr rfl s74 fl_29_0 ?_ (hid := ⟨_, h117⟩))
                refine AOps.cons rfl rfl (AOp.storeO (cells' := [v108, .snil, .snil]) rfl rfl o114 ts_26 h117 rfl rfl ?_)
                intro H119 h120 k121
                have h122 := keep k121 e39 h115
                have o124 := Own.keep o114 k121 no118
                have m125 := Mono.set m111 z40 k121
                refine AOps.nil ?_
                change AWP _ _ _ _ _ _
                refine AWP.region (l := [0, 1, 2]) rfl ?_
                refine AOps.cons rfl rfl (AOp.move (.int .i64 b) rfl s68 ?_)
                refine AOps.cons rfl rfl (AOp.bin (.int .i64 (b + 1)) rfl rfl rfl (iadd (by omega)) ?_)
                refine AOps.cons rfl rfl (AOp.assign (.int .i64 (b + 1)) rfl rfl ?_)
                refine AOps.nil ?_
                exact ⟨_, by omega, b + 1, v108, rfl, rfl, s69, s70, s71, s72, s73, s74, (have hx : (((eOut fs v a ++ eIn fs a b) ++ [(Ed.mk a b (alongS fs a b) (alongS fs b a))]) : List Ed) = eOut fs v a ++ eIn fs a (b + 1) := (by rw [eIn_T (by omega) (by omega) (.inl b94), List.append_assoc]); Own.re o124 (congrArg List.length hx) (congrArg (fun l : List Ed => l.flatMap eE) hx)), no116, no118, h122, h120, m125, by omega, by omega⟩
              ·
                refine AOps.yes rfl rfl rfl rfl rfl rfl rfl (decide_eq_false b94) (AOp.move (.int .i64 (alongS fs b a)) rfl rfl ?_)
                refine AOps.yes rfl rfl rfl rfl rfl rfl rfl (decide_eq_false b94) (AOp.bin (.bool (decide (alongS fs b a ≥ 0))) rfl rfl rfl rfl ?_)
                refine AOps.cons rfl rfl (AOp.pickF (.bool (decide (alongS fs b a ≥ 0))) rfl rfl (decide_eq_false b94) rfl ?_)
                refine AOps.nil ?_
                change AWP _ _ _ _ _ _
                by_cases b126 : alongS fs b a ≥ 0
                ·
                  refine AWP.condT rfl (decide_eq_true b126) ?_
                  have hl1 := eOut_len (fs := fs) (n := v) (a := a) hv
                  have hl2 := eIn_len fs a b
                  refine AWP.region (l := [0, 1, 2, 3, 4, 5, 6, 7, 8, 9, 10]) rfl ?_
                  refine AOps.cons rfl rfl (AOp.fieldAddr rfl s74 fl_29_0 ?_ (hid := ⟨_, h91⟩))
                  refine AOps.cons rfl rfl (AOp.load (w6_0) rfl rfl ty_26 h91 rfl ?_)
                  refine AOps.cons rfl rfl (AOp.move (.int .i64 a) rfl s69 ?_)
                  refine AOps.cons rfl rfl (AOp.move (.int .i64 b) rfl s68 ?_)
                  refine AOps.cons rfl rfl (AOp.move (.int .i64 (alongS fs a b)) rfl rfl ?_)
                  refine AOps.cons rfl rfl (AOp.move (.int .i64 (alongS fs b a)) rfl rfl ?_)
                  refine AOps.cons rfl rfl (AOp.build (cells := [.int .i64 a, .int .i64 b, .int .i64 (alongS fs a b), .int .i64 (alongS fs b a)]) rfl tz_37 pl_37 rfl rfl ?_)
                  refine AOps.cons rfl rfl (AOp.buildSlice (cells := [.int .i64 a, .int .i64 b, .int .i64 (alongS fs a b), .int .i64 (alongS fs b a)]) rfl u_26 ts_37 tz_37 rfl rfl rfl ?_)
                  intro i127 H128 n129 h130 k131
                  have e132 := ne_new h90 n129
                  have e133 := ne_new h91 n129
                  have z134 := Mono.free m93 n129
                  have h135 := keep k131 (ne_new h90 n129) h90
                  have h136 := keep k131 (ne_new h91 n129) h91
                  have o137 := Own.keep o92 k131 (Own.notnew o92 n129)
                  have no138 := Own.notnew o92 n129
                  have m139 := Mono.new m93 n129 k131
                  refine AOps.cons rfl rfl (AOp.append_own (es := 4) (m := 1) (len := ((eOut fs v a ++ eIn fs a b).length)) (old := (eOut fs v a ++ eIn fs a b).flatMap eE) (cells := [.int .i64 a, .int .i64 b, .int .i64 (alongS fs a b), .int .i64 (alongS fs b a)]) rfl u_26 ts_37 tzn_37 tb_37 (by decide) ni_26 rfl o137 m139 rfl (.slm h130 rfl) (one_of rfl) (by decide) (by first | omega | (simp; omega)) ?_)
                  intro v140 H141 o142 m143 k144 j145
                  have o146 := Own.snocM (xs := ((eOut fs v a ++ eIn fs a b) : List Ed)) (y := (Ed.mk a b (alongS fs a b) (alongS fs b a))) (e := eE) (by simp) o142
                  have h147 := (k144 _ no76 (by rw [h135]; simp)).trans h135
                  have no148 := j145 _ no76 (by rw [h135]; simp)
                  have h149 := (k144 _ no77 (by rw [h136]; simp)).trans h136
                  have no150 := j145 _ no77 (by rw [h136]; simp)
                  refine AOps.cons rfl rfl (AOp.fieldAddr rfl s74 fl_29_0 ?_ (hid := ⟨_, h149⟩))
                  refine AOps.cons rfl rfl (AOp.storeO (cells' := [v140, .snil, .snil]) rfl rfl o146 ts_26 h149 rfl rfl ?_)
                  intro H151 h152 k153
                  have h154 := keep k153 e39 h147
                  have o156 := Own.keep o146 k153 no150
                  have m157 := Mono.set m143 z40 k153
                  refine AOps.nil ?_
                  change AWP _ _ _ _ _ _
                  refine AWP.region (l := [0, 1, 2]) rfl ?_
                  refine AOps.cons rfl rfl (AOp.move (.int .i64 b) rfl s68 ?_)
                  refine AOps.cons rfl rfl (AOp.bin (.int .i64 (b + 1)) rfl rfl rfl (iadd (by omega)) ?_)
                  refine AOps.cons rfl rfl (AOp.assign (.int .i64 (b + 1)) rfl rfl ?_)
                  refine AOps.nil ?_
                  exact ⟨_, by omega, b + 1, v140, rfl, rfl, s69, s70, s71, s72, s73, s74, (have hx : (((eOut fs v a ++ eIn fs a b) ++ [(Ed.mk a b (alongS fs a b) (alongS fs b a))]) : List Ed) = eOut fs v a ++ eIn fs a (b + 1) := (by rw [eIn_T (by omega) (by omega) (.inr b126), List.append_assoc]); Own.re o156 (congrArg List.length hx) (congrArg (fun l : List Ed => l.flatMap eE) hx)), no148, no150, h154, h152, m157, by omega, by omega⟩
                ·
                  refine AWP.condF rfl (decide_eq_false b126) ?_
                  refine AWP.skip ?_
                  change AWP _ _ _ _ _ _
                  refine AWP.region (l := [0, 1, 2]) rfl ?_
                  refine AOps.cons rfl rfl (AOp.move (.int .i64 b) rfl s68 ?_)
                  refine AOps.cons rfl rfl (AOp.bin (.int .i64 (b + 1)) rfl rfl rfl (iadd (by omega)) ?_)
                  refine AOps.cons rfl rfl (AOp.assign (.int .i64 (b + 1)) rfl rfl ?_)
                  refine AOps.nil ?_
                  exact ⟨_, by omega, b + 1, w6_0, rfl, rfl, s69, s70, s71, s72, s73, s74, (have hx : ((eOut fs v a ++ eIn fs a b) : List Ed) = eOut fs v a ++ eIn fs a (b + 1) := (by rw [eIn_F (by omega) (by omega) (fun h => h.elim b94 b126)]); Own.re o92 (congrArg List.length hx) (congrArg (fun l : List Ed => l.flatMap eE) hx)), no76, no77, h90, h91, m93, by omega, by omega⟩
            ·
              refine AWP.condF rfl (decide_eq_false b81) ?_
              refine AWP.exit ?_
              change AWP _ _ _ _ _ _
              refine AWP.region (l := [0, 1, 2]) rfl ?_
              refine AOps.cons rfl rfl (AOp.move (.int .i64 a) rfl s69 ?_)
              refine AOps.cons rfl rfl (AOp.bin (.int .i64 (a + 1)) rfl rfl rfl (iadd (by omega)) ?_)
              refine AOps.cons rfl rfl (AOp.assign (.int .i64 (a + 1)) rfl rfl ?_)
              refine AOps.nil ?_
              exact ⟨_, by omega, a + 1, w6_0, rfl, rfl, s70, s71, s72, s73, s74, (have hx : ((eOut fs v a ++ eIn fs a b) : List Ed) = eOut fs v (a + 1) := (by rw [eOut_step ha0, show b = v by omega]); Own.re o75 (congrArg List.length hx) (congrArg (fun l : List Ed => l.flatMap eE) hx)), no76, no77, h78, h79, m80, by omega, by omega⟩
        ·
          refine AWP.condF rfl (decide_eq_false b64) ?_
          refine AWP.exit ?_
          change AWP _ _ _ _ _ _
          refine AWP.seq ?_
          refine AWP.seq ?_
          refine AWP.region (l := [0]) rfl ?_
          refine AOps.cons rfl rfl (AOp.assign (.int .i64 0) rfl rfl ?_)
          refine AOps.nil ?_
          change AWP _ _ _ _ _ _
          refine AWP.block ?_
          refine AWP.loop (fun q158 fq Hq => ∃ (c : Int) (w6_1 : AV) (w6_2 : AV), q158 = (v - c).toNat ∧ fq 11 = .int .i64 c ∧ fq 0 = .int .i64 v ∧ fq 1 = .sl fs.length (fs.map eF) ∧ fq 4 = .ptr i1 0 0 ∧ fq 6 = .ptr i34 0 0 ∧ Own H0 Hq 1 w6_1 (fansU fs c).length ((fansU fs c).map eF) ∧ Own H0 Hq 1 w6_2 (rndU fs c).length ((rndU fs c).map eBo) ∧ Own H0 Hq 4 w6_0 ((eOut fs v a).length) ((eOut fs v a).flatMap eE) ∧ NotId w6_1 i1 ∧ NotId w6_1 i34 ∧ NotId w6_2 i1 ∧ NotId w6_2 i34 ∧ NotId w6_0 i1 ∧ NotId w6_0 i34 ∧ Sep w6_1 w6_2 ∧ Sep w6_1 w6_0 ∧ Sep w6_2 w6_0 ∧ Hq i1 = some (.row 0 ([.snil, .snil, .snil])) ∧ Hq i34 = some (.row 0 ([w6_0, w6_1, w6_2])) ∧ Mono H0 Hq ∧ (0 ≤ c) ∧ (c ≤ v) ∧ (∀ j : Int, 0 ≤ j → j < c → fanOK fs j = true)) (k := (v - 0).toNat) ?_ ?_
          ·
            exact ⟨0, .snil, .snil, rfl, rfl, s53, s54, s55, s57, Own.nil _ _ _, Own.nil _ _ _, o58, (NotId.nil _), (NotId.nil _), (NotId.nil _), (NotId.nil _), no59, no60, (Sep.nilL _), (Sep.nilL _), (Sep.nilL _), h61, h62, m63, by omega, by omega, by intro j; omega⟩
          ·
            rintro _ f160 H159 ⟨c, w6_1, w6_2, rfl, s161, s162, s163, s164, s165, o166, o167, o168, no169, no170, no171, no172, no173, no174, sp175, sp176, sp177, h178, h179, m180, hc0, hc1, hf⟩
            refine AWP.seq ?_
            refine AWP.seq ?_
            refine AWP.region (l := [0, 1, 2]) rfl ?_
            refine AOps.cons rfl rfl (AOp.move (.int .i64 c) rfl s161 ?_)
            refine AOps.cons rfl rfl (AOp.move (.int .i64 v) rfl s162 ?_)
            refine AOps.cons rfl rfl (AOp.bin (.bool (decide (c < v))) rfl rfl rfl rfl ?_)
            refine AOps.nil ?_
            change AWP _ _ _ _ _ _
            by_cases b181 : c < v
            ·
              refine AWP.condT rfl (decide_eq_true b181) ?_
              refine AWP.skip ?_
              change AWP _ _ _ _ _ _
              refine AWP.seq ?_
              refine AWP.block ?_
              refine AWP.seq ?_
              have hg : goodS v fs := b33
              refine AWP.region (l := [0, 1, 2, 3, 4, 5, 6, 7, 8, 9]) rfl ?_
              refine AOps.cons rfl rfl (AOp.move (.sl fs.length (fs.map eF)) rfl s163 ?_)
              refine AOps.cons rfl rfl (AOp.move (.int .i64 c) rfl s161 ?_)
              refine AOps.cons rfl rfl (AOp.pcall («as» := [.sl fs.length (fs.map eF), .int .i64 c]) rfl rfl (rfl) tf_28 (c28 _ (by assumption) (by assumption) _ _ (by assumption)) ?_)
              intro H182 m183
              have h184 := m183 _ _ h178
              have h185 := m183 _ _ h179
              have o186 := Own.mono o166 m183
              have o187 := Own.mono o167 m183
              have o188 := Own.mono o168 m183
              have m189 := m180.trans m183
              refine AOps.cons rfl rfl (AOp.move (.tup [.sl (fanL fs c).length ((fanL fs c).map eI), .bool (fanR fs c), .bool (fanOK fs c)]) rfl rfl ?_)
              refine AOps.cons rfl rfl (AOp.extract (.sl (fanL fs c).length ((fanL fs c).map eI)) rfl rfl rfl ?_)
              refine AOps.cons rfl rfl (AOp.extract (.bool (fanR fs c)) rfl rfl rfl ?_)
              refine AOps.cons rfl rfl (AOp.extract (.bool (fanOK fs c)) rfl rfl rfl ?_)
              refine AOps.cons rfl rfl (AOp.assign (.sl (fanL fs c).length ((fanL fs c).map eI)) rfl rfl ?_)
              refine AOps.cons rfl rfl (AOp.assign (.bool (fanR fs c)) rfl rfl ?_)
              refine AOps.cons rfl rfl (AOp.assign (.bool (fanOK fs c)) rfl rfl ?_)
              refine AOps.nil ?_
              change AWP _ _ _ _ _ _
              refine AWP.seq ?_
              refine AWP.seq ?_
              refine AWP.region (l := [0, 1]) rfl ?_
              refine AOps.cons rfl rfl (AOp.move (.bool (fanOK fs c)) rfl rfl ?_)
              refine AOps.cons rfl rfl (AOp.not rfl rfl ?_)
              refine AOps.nil ?_
              change AWP _ _ _ _ _ _
              rcases Bool.eq_false_or_eq_true (fanOK fs c) with b190 | b190
              ·
                refine AWP.condF rfl (nb b190) ?_
                refine AWP.skip ?_
                change AWP _ _ _ _ _ _
                refine AWP.seq ?_
                have hl3 : (fansU fs c).length ≤ 1000 := by simp [fansU]; omega
                have hl4 : (rndU fs c).length ≤ 1000 := by simp [rndU]; omega
                refine AWP.region (l := [0, 1, 2, 3, 4, 5, 6]) rfl ?_
                refine AOps.cons rfl rfl (AOp.fieldAddr rfl s165 fl_29_1 ?_ (hid := ⟨_, h185⟩))
                refine AOps.cons rfl rfl (AOp.load (w6_1) rfl rfl ty_22 h185 rfl ?_)
                refine AOps.cons rfl rfl (AOp.move (.sl (fanL fs c).length ((fanL fs c).map eI)) rfl rfl ?_)
                refine AOps.cons rfl rfl (AOp.buildSlice (cells := [.sl (fanL fs c).length ((fanL fs c).map eI)]) rfl u_22 ts_35 tz_35 rfl rfl rfl ?_)
                intro i191 H192 n193 h194 k195
                have e196 := ne_new h184 n193
                have e197 := ne_new h185 n193
                have z198 := Mono.free m189 n193
                have h199 := keep k195 (ne_new h184 n193) h184
                have h200 := keep k195 (ne_new h185 n193) h185
                have o201 := Own.keep o186 k195 (Own.notnew o186 n193)
                have no202 := Own.notnew o186 n193
                have o203 := Own.keep o187 k195 (Own.notnew o187 n193)
                have no204 := Own.notnew o187 n193
                have o205 := Own.keep o188 k195 (Own.notnew o188 n193)
                have no206 := Own.notnew o188 n193
                have m207 := Mono.new m189 n193 k195
                refine AOps.cons rfl rfl (AOp.append_own (es := 1) (m := 1) (len := ((fansU fs c).length)) (old := (fansU fs c).map eF) (cells := [.sl (fanL fs c).length ((fanL fs c).map eI)]) rfl u_22 ts_35 tzn_35 tb_35 (by decide) ni_22 rfl o201 m207 rfl (.slm h194 rfl) (one_of rfl) (by decide) (by first | omega | (simp; omega)) ?_)
                intro v208 H209 o210 m211 k212 j213
                have o214 := Own.snoc1 (xs := ((fansU fs c) : List (List Int))) (y := fanL fs c) (e := eF) (by simp) o210
                have h215 := (k212 _ no169 (by rw [h199]; simp)).trans h199
                have no216 := j213 _ no169 (by rw [h199]; simp)
                have h217 := (k212 _ no170 (by rw [h200]; simp)).trans h200
                have no218 := j213 _ no170 (by rw [h200]; simp)
                have sp220 := Own.sep o203 (Sep.symm sp175) j213
                have o219 := Own.stay o203 (Sep.symm sp175) k212
                have sp222 := Own.sep o205 (Sep.symm sp176) j213
                have o221 := Own.stay o205 (Sep.symm sp176) k212
                refine AOps.cons rfl rfl (AOp.fieldAddr rfl s165 fl_29_1 ?_ (hid := ⟨_, h217⟩))
                refine AOps.cons rfl rfl (AOp.storeO (cells' := [w6_0, v208, w6_2]) rfl rfl o214 ts_22 h217 rfl rfl ?_)
                intro H223 h224 k225
                have h226 := keep k225 e39 h215
                have o228 := Own.keep o219 k225 no172
                have o229 := Own.keep o221 k225 no174
                have o230 := Own.keep o214 k225 no218
                have m231 := Mono.set m211 z40 k225
                refine AOps.nil ?_
                change AWP _ _ _ _ _ _
                refine AWP.region (l := [0, 1, 2, 3, 4, 5, 6]) rfl ?_
                refine AOps.cons rfl rfl (AOp.fieldAddr rfl s165 fl_29_2 ?_ (hid := ⟨_, h224⟩))
                refine AOps.cons rfl rfl (AOp.load (w6_2) rfl rfl ty_27 h224 rfl ?_)
                refine AOps.cons rfl rfl (AOp.move (.bool (fanR fs c)) rfl rfl ?_)
                refine AOps.cons rfl rfl (AOp.buildSlice (cells := [.bool (fanR fs c)]) rfl u_27 ts_4 tz_4 rfl rfl rfl ?_)
                intro i232 H233 n234 h235 k236
                have e237 := ne_new h226 n234
                have e238 := ne_new h224 n234
                have z239 := Mono.free m231 n234
                have h240 := keep k236 (ne_new h226 n234) h226
                have h241 := keep k236 (ne_new h224 n234) h224
                have o242 := Own.keep o228 k236 (Own.notnew o228 n234)
                have no243 := Own.notnew o228 n234
                have o244 := Own.keep o229 k236 (Own.notnew o229 n234)
                have no245 := Own.notnew o229 n234
                have o246 := Own.keep o230 k236 (Own.notnew o230 n234)
                have no247 := Own.notnew o230 n234
                have m248 := Mono.new m231 n234 k236
                refine AOps.cons rfl rfl (AOp.append_own (es := 1) (m := 1) (len := ((rndU fs c).length)) (old := (rndU fs c).map eBo) (cells := [.bool (fanR fs c)]) rfl u_27 ts_4 tzn_4 tb_4 (by decide) ni_27 rfl o242 m248 rfl (.slm h235 rfl) (one_of rfl) (by decide) (by first | omega | (simp; omega)) ?_)
                intro v249 H250 o251 m252 k253 j254
                have o255 := Own.snoc1 (xs := ((rndU fs c) : List Bool)) (y := fanR fs c) (e := eBo) (by simp) o251
                have h256 := (k253 _ no171 (by rw [h240]; simp)).trans h240
                have no257 := j254 _ no171 (by rw [h240]; simp)
                have h258 := (k253 _ no172 (by rw [h241]; simp)).trans h241
                have no259 := j254 _ no172 (by rw [h241]; simp)
                have sp261 := Own.sep o244 (Sep.symm sp177) j254
                have o260 := Own.stay o244 (Sep.symm sp177) k253
                have sp263 := Own.sep o246 (Sep.symm sp220) j254
                have o262 := Own.stay o246 (Sep.symm sp220) k253
                refine AOps.cons rfl rfl (AOp.fieldAddr rfl s165 fl_29_2 ?_ (hid := ⟨_, h258⟩))
                refine AOps.cons rfl rfl (AOp.storeO (cells' := [w6_0, v208, v249]) rfl rfl o255 ts_27 h258 rfl rfl ?_)
                intro H264 h265 k266
                have h267 := keep k266 e39 h256
                have o269 := Own.keep o260 k266 no174
                have o270 := Own.keep o262 k266 no218
                have o271 := Own.keep o255 k266 no259
                have m272 := Mono.set m252 z40 k266
                refine AOps.nil ?_
                change AWP _ _ _ _ _ _
                refine AWP.region (l := [0, 1, 2]) rfl ?_
                refine AOps.cons rfl rfl (AOp.move (.int .i64 c) rfl s161 ?_)
                refine AOps.cons rfl rfl (AOp.bin (.int .i64 (c + 1)) rfl rfl rfl (iadd (by omega)) ?_)
                refine AOps.cons rfl rfl (AOp.assign (.int .i64 (c + 1)) rfl rfl ?_)
                refine AOps.nil ?_
                exact ⟨_, by omega, c + 1, v208, v249, rfl, rfl, s162, s163, s164, s165, (have hx : (((fansU fs c) ++ [fanL fs c]) : List (List Int)) = fansU fs (c + 1) := (by rw [fansU_step hc0]); Own.re o270 (congrArg List.length hx) (congrArg (fun l : List (List Int) => l.map eF) hx)), (have hx : (((rndU fs c) ++ [fanR fs c]) : List Bool) = rndU fs (c + 1) := (by rw [rndU_step hc0]); Own.re o271 (congrArg List.length hx) (congrArg (fun l : List Bool => l.map eBo) hx)), o269, no216, no218, no257, no259, no173, no174, sp263, (Sep.symm sp222), (Sep.symm sp261), h267, h265, m272, by omega, by omega, by exact fa_step hf b190⟩
              ·
                refine AWP.condT rfl (nb b190) ?_
                refine AWP.seq ?_
                refine AWP.region (l := [0, 1, 2]) rfl ?_
                refine AOps.cons rfl rfl (AOp.build (cells := [.snil, .snil, .snil]) rfl tz_29 pl_29 rfl rfl ?_)
                refine AOps.cons rfl rfl (AOp.store' (cells' := [.snil, .snil, .snil]) (.agg [.snil, .snil, .snil]) s164 rfl ts_29 h184 rfl rfl rfl rfl ?_)
                intro H273 h274 k275
                have h277 := keep k275 (Ne.symm e39) h185
                have o278 := Own.keep o186 k275 no169
                have o279 := Own.keep o187 k275 no171
                have o280 := Own.keep o188 k275 no173
                have m281 := Mono.set m189 z6 k275
                refine AOps.cons rfl rfl (AOp.assign (.int .i64 14) rfl rfl ?_)
                refine AOps.nil ?_
                change AWP _ _ _ _ _ _
                refine AWP.ret ?_
                refine Fin.frzCell 0 (Own.nil H0 H273 1) h274 z6 rfl (NotId.nil _) m281 fun H282 h283 m284 k285 => ?_
                have h286 := (k285 _ (Ne.symm e39) (NotId.nil _)).trans h277
                have o287 := Own.stay2 o278 (Sep.nilR _) no169 k285
                have o288 := Own.stay2 o279 (Sep.nilR _) no171 k285
                have o289 := Own.stay2 o280 (Sep.nilR _) no173 k285
                have h290 : H282 i1 = some (.row 0 ([.sl 0 ([]), .snil, .snil])) := h283
                refine Fin.frzCell 1 (Own.nil H0 H282 1) h290 z6 rfl (NotId.nil _) m284 fun H291 h292 m293 k294 => ?_
                have h295 := (k294 _ (Ne.symm e39) (NotId.nil _)).trans h286
                have o296 := Own.stay2 o287 (Sep.nilR _) no169 k294
                have o297 := Own.stay2 o288 (Sep.nilR _) no171 k294
                have o298 := Own.stay2 o289 (Sep.nilR _) no173 k294
                have h299 : H291 i1 = some (.row 0 ([.sl 0 ([]), .sl 0 ([]), .snil])) := h292
                refine Fin.frzCell 2 (Own.nil H0 H291 1) h299 z6 rfl (NotId.nil _) m293 fun H300 h301 m302 k303 => ?_
                have h304 := (k303 _ (Ne.symm e39) (NotId.nil _)).trans h295
                have o305 := Own.stay2 o296 (Sep.nilR _) no169 k303
                have o306 := Own.stay2 o297 (Sep.nilR _) no171 k303
                have o307 := Own.stay2 o298 (Sep.nilR _) no173 k303
                have h308 : H300 i1 = some (.row 0 ([.sl 0 ([]), .sl 0 ([]), .sl 0 ([])])) := h301
                refine ⟨_, _, Ghost.refl, .inr rfl, _, Res.list rfl rfl (.cell (v := .agg [.sl 0 ([]), .sl 0 ([]), .sl 0 ([])]) s164 ty_29 h308 rfl (.tmp rfl (.nil))), ?_, m302⟩
                exact congrArg AV.tup (lc (congrArg AV.agg (lc (congrArg (fun l : List Ed => AV.sl l.length (l.flatMap eE)) (show ([] : List Ed) = (buildT v fs).ed from by rw [(build_no (fun h => absurd (h.2.2 c hc0 (by omega)) (by simp [b190]))).1])) (lc (congrArg (fun l : List (List Int) => AV.sl l.length (l.map eF)) (show ([] : List (List Int)) = (buildT v fs).fan from by rw [(build_no (fun h => absurd (h.2.2 c hc0 (by omega)) (by simp [b190]))).1])) (lc (congrArg (fun l : List Bool => AV.sl l.length (l.map eBo)) (show ([] : List Bool) = (buildT v fs).rnd from by rw [(build_no (fun h => absurd (h.2.2 c hc0 (by omega)) (by simp [b190]))).1])) rfl)))) (lc (congrArg (AV.int .i64) (show (14 : Int) = buildE v fs from by rw [(build_no (fun h => absurd (h.2.2 c hc0 (by omega)) (by simp [b190]))).2])) rfl))
            ·
              refine AWP.condF rfl (decide_eq_false b181) ?_
              refine AWP.exit ?_
              change AWP _ _ _ _ _ _
              refine AWP.seq ?_
              have hcv : c = v := by omega
              have hok : okS v fs := ⟨by omega, b33, fun j h1 h2 => hf j h1 (by omega)⟩
              have hav : a = v := by omega
              refine AWP.region (l := [0, 1, 2]) rfl ?_
              refine AOps.cons rfl rfl (AOp.load (.agg [w6_0, w6_1, w6_2]) rfl s165 ty_29 h179 rfl ?_)
              refine AOps.cons rfl rfl (AOp.store' (cells' := [w6_0, w6_1, w6_2]) (.agg [w6_0, w6_1, w6_2]) s164 rfl ts_29 h178 (by simp only [AV.cells, List.all_cons, List.all_nil, Own.one_ o168, Own.one_ o166, Own.one_ o167]; rfl) rfl rfl rfl ?_)
              intro H309 h310 k311
              have h313 := keep k311 (Ne.symm e39) h179
              have o314 := Own.keep o166 k311 no169
              have o315 := Own.keep o167 k311 no171
              have o316 := Own.keep o168 k311 no173
              have m317 := Mono.set m180 z6 k311
              refine AOps.cons rfl rfl (AOp.assign (.int .i64 0) rfl rfl ?_)
              refine AOps.nil ?_
              change AWP _ _ _ _ _ _
              refine AWP.ret ?_
              refine Fin.frzCell 0 o316 h310 z6 rfl no173 m317 fun H318 h319 m320 k321 => ?_
              have h322 := (k321 _ (Ne.symm e39) no174).trans h313
              have o323 := Own.stay2 o314 sp176 no169 k321
              have o324 := Own.stay2 o315 sp177 no171 k321
              have h325 : H318 i1 = some (.row 0 ([.sl (eOut fs v a).length ((eOut fs v a).flatMap eE), w6_1, w6_2])) := h319
              refine Fin.frzCell 1 o323 h325 z6 rfl no169 m320 fun H326 h327 m328 k329 => ?_
              have h330 := (k329 _ (Ne.symm e39) no170).trans h322
              have o331 := Own.stay2 o324 (Sep.symm sp175) no171 k329
              have h332 : H326 i1 = some (.row 0 ([.sl (eOut fs v a).length ((eOut fs v a).flatMap eE), .sl (fansU fs c).length ((fansU fs c).map eF), w6_2])) := h327
              refine Fin.frzCell 2 o331 h332 z6 rfl no171 m328 fun H333 h334 m335 k336 => ?_
              have h337 := (k336 _ (Ne.symm e39) no172).trans h330
              have h338 : H333 i1 = some (.row 0 ([.sl (eOut fs v a).length ((eOut fs v a).flatMap eE), .sl (fansU fs c).length ((fansU fs c).map eF), .sl (rndU fs c).length ((rndU fs c).map eBo)])) := h334
              refine ⟨_, _, Ghost.refl, .inr rfl, _, Res.list rfl rfl (.cell (v := .agg [.sl (eOut fs v a).length ((eOut fs v a).flatMap eE), .sl (fansU fs c).length ((fansU fs c).map eF), .sl (rndU fs c).length ((rndU fs c).map eBo)]) s164 ty_29 h338 rfl (.tmp rfl (.nil))), ?_, m335⟩
              exact congrArg AV.tup (lc (congrArg AV.agg (lc (congrArg (fun l : List Ed => AV.sl l.length (l.flatMap eE)) (show ((eOut fs v a) : List Ed) = (buildT v fs).ed from by simp only [(build_ok hok).1, hcv, hav])) (lc (congrArg (fun l : List (List Int) => AV.sl l.length (l.map eF)) (show ((fansU fs c) : List (List Int)) = (buildT v fs).fan from by simp only [(build_ok hok).1, hcv, hav])) (lc (congrArg (fun l : List Bool => AV.sl l.length (l.map eBo)) (show ((rndU fs c) : List Bool) = (buildT v fs).rnd from by simp only [(build_ok hok).1, hcv, hav])) rfl)))) (lc (congrArg (AV.int .i64) (show (0 : Int) = buildE v fs from by simp only [(build_ok hok).2, hcv, hav])) rfl))
    ·
      refine AWP.condT rfl (nb (decide_eq_false b33)) ?_
      refine AWP.seq ?_
      refine AWP.region (l := [0, 1, 2]) rfl ?_
      refine AOps.cons rfl rfl (AOp.build (cells := [.snil, .snil, .snil]) rfl tz_29 pl_29 rfl rfl ?_)
      refine AOps.cons rfl rfl (AOp.store' (cells' := [.snil, .snil, .snil]) (.agg [.snil, .snil, .snil]) rfl rfl ts_29 h31 rfl rfl rfl rfl ?_)
      intro H339 h340 k341
      have m343 := Mono.set m32 z6 k341
      refine AOps.cons rfl rfl (AOp.assign (.int .i64 14) rfl rfl ?_)
      refine AOps.nil ?_
      change AWP _ _ _ _ _ _
      refine AWP.ret ?_
      refine Fin.frzCell 0 (Own.nil H0 H339 1) h340 z6 rfl (NotId.nil _) m343 fun H344 h345 m346 k347 => ?_
      have h348 : H344 i1 = some (.row 0 ([.sl 0 ([]), .snil, .snil])) := h345
      refine Fin.frzCell 1 (Own.nil H0 H344 1) h348 z6 rfl (NotId.nil _) m346 fun H349 h350 m351 k352 => ?_
      have h353 : H349 i1 = some (.row 0 ([.sl 0 ([]), .sl 0 ([]), .snil])) := h350
      refine Fin.frzCell 2 (Own.nil H0 H349 1) h353 z6 rfl (NotId.nil _) m351 fun H354 h355 m356 k357 => ?_
      have h358 : H354 i1 = some (.row 0 ([.sl 0 ([]), .sl 0 ([]), .sl 0 ([])])) := h355
      refine ⟨_, _, Ghost.refl, .inr rfl, _, Res.list rfl rfl (.cell (v := .agg [.sl 0 ([]), .sl 0 ([]), .sl 0 ([])]) rfl ty_29 h358 rfl (.tmp rfl (.nil))), ?_, m356⟩
      exact congrArg AV.tup (lc (congrArg AV.agg (lc (congrArg (fun l : List Ed => AV.sl l.length (l.flatMap eE)) (show ([] : List Ed) = (buildT v fs).ed from by rw [(build_no (fun h => b33 h.2.1)).1])) (lc (congrArg (fun l : List (List Int) => AV.sl l.length (l.map eF)) (show ([] : List (List Int)) = (buildT v fs).fan from by rw [(build_no (fun h => b33 h.2.1)).1])) (lc (congrArg (fun l : List Bool => AV.sl l.length (l.map eBo)) (show ([] : List Bool) = (buildT v fs).rnd from by rw [(build_no (fun h => b33 h.2.1)).1])) rfl)))) (lc (congrArg (AV.int .i64) (show (14 : Int) = buildE v fs from by rw [(build_no (fun h => b33 h.2.1)).2])) rfl))
end Go.Proofs.T
