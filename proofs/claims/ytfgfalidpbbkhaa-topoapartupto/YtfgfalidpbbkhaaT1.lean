/- A part of the proof that a law of the edges and fans of faces answers true for every input of its bulk: own work, by an AI agent. -/
import Derived.Test.YtfgfalidpbbkhaaTTy
import Derived.Test.YtfgfalidpbbkhaaTSpec5
import Derived.Test.YtfgfalidpbbkhaaTKey
import Derived.KernelRfl
namespace Go.Proofs.T
open Go Go.AH
set_option maxRecDepth 4000
set_option linter.unusedSimpArgs false
set_option linter.unusedVariables false
theorem c40 (x : Int) : PC Try.prog 40 [.int .i64 x] (.bool false) := by
  intro H0
  refine ACalls.of_body' (n := 6) rfl rfl rfl rfl ?_
  have m0 := Mono.refl H0
  refine AWP.seq ?_
  refine AWP.region (l := [0]) rfl ?_
  refine AOps.cons rfl rfl (AOp.assign (.bool false) rfl rfl ?_)
  refine AOps.nil ?_
  change AWP _ _ _ _ _ _
  refine AWP.seq ?_
  refine AWP.region (l := [0, 1, 2, 3]) rfl ?_
  refine AOps.cons rfl rfl (AOp.move (.int .i64 x) rfl rfl ?_)
  refine AOps.cons rfl rfl (AOp.move (.int .i64 x) rfl rfl ?_)
  refine AOps.cons rfl rfl (AOp.bin (.bool (!decide (x = x))) rfl rfl rfl ine ?_)
  refine AOps.cons rfl rfl (AOp.assign (.bool (!decide (x = x))) rfl rfl ?_)
  refine AOps.nil ?_
  change AWP _ _ _ _ _ _
  refine AWP.ret ?_
  refine ⟨_, _, Ghost.refl, .inr rfl, _, Res.one rfl rfl, ?_, m0⟩
  exact (congrArg AV.bool (show (!decide (x = x) : Bool) = false from by first | rfl | omega | simp_all))

theorem c32 (x y : Int) : PC Try.prog 32 [.int .i64 x, .int .i64 y] (.int .i64 (cmpI x y)) := by
  intro H0
  refine ACalls.of_body' (n := 20) rfl rfl rfl rfl ?_
  have m0 := Mono.refl H0
  refine AWP.seq ?_
  refine AWP.region (l := [0]) rfl ?_
  refine AOps.cons rfl rfl (AOp.assign (.int .i64 0) rfl rfl ?_)
  refine AOps.nil ?_
  change AWP _ _ _ _ _ _
  refine AWP.seq ?_
  refine AWP.region (l := [0, 1, 2]) rfl ?_
  refine AOps.cons rfl rfl (AOp.move (.int .i64 x) rfl rfl ?_)
  refine AOps.cons rfl rfl (AOp.pcall («as» := [.int .i64 x]) rfl rfl (rfl) tf_40 (c40 _) ?_)
  intro H1 m2
  have m3 := m0.trans m2
  refine AOps.cons rfl rfl (AOp.assign (.bool false) rfl rfl ?_)
  refine AOps.nil ?_
  change AWP _ _ _ _ _ _
  refine AWP.seq ?_
  refine AWP.region (l := [0, 1, 2]) rfl ?_
  refine AOps.cons rfl rfl (AOp.move (.int .i64 y) rfl rfl ?_)
  refine AOps.cons rfl rfl (AOp.pcall («as» := [.int .i64 y]) rfl rfl (rfl) tf_40 (c40 _) ?_)
  intro H4 m5
  have m6 := m3.trans m5
  refine AOps.cons rfl rfl (AOp.assign (.bool false) rfl rfl ?_)
  refine AOps.nil ?_
  change AWP _ _ _ _ _ _
  refine AWP.seq ?_
  refine AWP.seq ?_
  refine AWP.region (l := [0]) rfl ?_
  refine AOps.cons rfl rfl (AOp.move (.bool false) rfl rfl ?_)
  refine AOps.nil ?_
  change AWP _ _ _ _ _ _
  refine AWP.condF rfl rfl ?_
  refine AWP.skip ?_
  change AWP _ _ _ _ _ _
  refine AWP.seq ?_
  refine AWP.seq ?_
  refine AWP.region (l := [0]) rfl ?_
  refine AOps.cons rfl rfl (AOp.move (.bool false) rfl rfl ?_)
  refine AOps.nil ?_
  change AWP _ _ _ _ _ _
  refine AWP.condF rfl rfl ?_
  refine AWP.skip ?_
  change AWP _ _ _ _ _ _
  refine AWP.seq ?_
  refine AWP.seq ?_
  refine AWP.region (l := [0, 1, 2]) rfl ?_
  refine AOps.cons rfl rfl (AOp.move (.int .i64 x) rfl rfl ?_)
  refine AOps.cons rfl rfl (AOp.move (.int .i64 y) rfl rfl ?_)
  refine AOps.cons rfl rfl (AOp.bin (.bool (decide (x < y))) rfl rfl rfl rfl ?_)
  refine AOps.nil ?_
  change AWP _ _ _ _ _ _
  by_cases b7 : x < y
  ·
    refine AWP.condT rfl (decide_eq_true b7) ?_
    refine AWP.seq ?_
    refine AWP.region (l := [0]) rfl ?_
    refine AOps.cons rfl rfl (AOp.assign (.int .i64 (-1)) rfl rfl ?_)
    refine AOps.nil ?_
    change AWP _ _ _ _ _ _
    refine AWP.ret ?_
    refine ⟨_, _, Ghost.refl, .inr rfl, _, Res.one rfl rfl, ?_, m6⟩
    exact (congrArg (AV.int .i64) (show (-1 : Int) = cmpI x y from by unfold cmpI; split <;> (try split) <;> omega))
  ·
    refine AWP.condF rfl (decide_eq_false b7) ?_
    refine AWP.skip ?_
    change AWP _ _ _ _ _ _
    refine AWP.seq ?_
    refine AWP.seq ?_
    refine AWP.region (l := [0, 1, 2]) rfl ?_
    refine AOps.cons rfl rfl (AOp.move (.int .i64 x) rfl rfl ?_)
    refine AOps.cons rfl rfl (AOp.move (.int .i64 y) rfl rfl ?_)
    refine AOps.cons rfl rfl (AOp.bin (.bool (decide (x > y))) rfl rfl rfl rfl ?_)
    refine AOps.nil ?_
    change AWP _ _ _ _ _ _
    by_cases b8 : x > y
    ·
      refine AWP.condT rfl (decide_eq_true b8) ?_
      refine AWP.seq ?_
      refine AWP.region (l := [0]) rfl ?_
      refine AOps.cons rfl rfl (AOp.assign (.int .i64 1) rfl rfl ?_)
      refine AOps.nil ?_
      change AWP _ _ _ _ _ _
      refine AWP.ret ?_
      refine ⟨_, _, Ghost.refl, .inr rfl, _, Res.one rfl rfl, ?_, m6⟩
      exact (congrArg (AV.int .i64) (show (1 : Int) = cmpI x y from by unfold cmpI; split <;> (try split) <;> omega))
    ·
      refine AWP.condF rfl (decide_eq_false b8) ?_
      refine AWP.skip ?_
      change AWP _ _ _ _ _ _
      refine AWP.seq ?_
      refine AWP.region (l := [0]) rfl ?_
      refine AOps.cons rfl rfl (AOp.assign (.int .i64 0) rfl rfl ?_)
      refine AOps.nil ?_
      change AWP _ _ _ _ _ _
      refine AWP.ret ?_
      refine ⟨_, _, Ghost.refl, .inr rfl, _, Res.one rfl rfl, ?_, m6⟩
      exact (congrArg (AV.int .i64) (show (0 : Int) = cmpI x y from by unfold cmpI; split <;> (try split) <;> omega))

theorem c31 (l : List Int) (hl : l.length ≤ 1048576) : PC Try.prog 31 [.sl l.length (l.map eI)] (.int .i64 (orI l)) := by
  intro H0
  refine ACalls.of_body' (n := 18) rfl rfl rfl rfl ?_
  have m0 := Mono.refl H0
  refine AWP.seq ?_
  refine AWP.region (l := [0]) rfl ?_
  refine AOps.cons rfl rfl (AOp.assign (.int .i64 0) rfl rfl ?_)
  refine AOps.nil ?_
  change AWP _ _ _ _ _ _
  refine AWP.seq ?_
  refine AWP.region (l := [0]) rfl ?_
  refine AOps.cons rfl rfl (AOp.assign (.int .i64 0) rfl rfl ?_)
  refine AOps.nil ?_
  change AWP _ _ _ _ _ _
  refine AWP.seq ?_
  refine AWP.seq ?_
  refine AWP.region (l := [0, 1, 2]) rfl ?_
  refine AOps.cons rfl rfl (AOp.move (.sl l.length (l.map eI)) rfl rfl ?_)
  refine AOps.cons rfl rfl (AOp.len (m := l.length) rfl rfl (.inr (.inl ⟨_, rfl⟩)) u_35 ?_)
  refine AOps.cons rfl rfl (AOp.move (.int .i64 0) rfl rfl ?_)
  refine AOps.nil ?_
  change AWP _ _ _ _ _ _
  refine AWP.block ?_
  refine AWP.loop (fun q1 fq Hq => ∃ (i : Int), q1 = (((l.length : Int) : Int) - i).toNat ∧ fq 8 = .int .i64 i ∧ fq 3 = .int .i64 0 ∧ fq 6 = .sl l.length (l.map eI) ∧ fq 7 = .int .i64 (l.length : Int) ∧ Mono H0 Hq ∧ (0 ≤ i) ∧ (i ≤ (l.length : Int)) ∧ (∀ j : Int, 0 ≤ j → j < i → at_ l j = 0)) (k := (((l.length : Int) : Int) - 0).toNat) ?_ ?_
  ·
    exact ⟨0, rfl, rfl, rfl, rfl, rfl, m0, by omega, by omega, by intro j; omega⟩
  ·
    rintro _ f3 H2 ⟨i, rfl, s4, s5, s6, s7, m8, hi0, hi1, pre⟩
    refine AWP.seq ?_
    refine AWP.region (l := [0]) rfl ?_
    refine AOps.cons rfl rfl (AOp.bin (.bool (decide (i < (l.length : Int)))) rfl s4 s7 rfl ?_)
    refine AOps.nil ?_
    change AWP _ _ _ _ _ _
    refine AWP.seq ?_
    by_cases b9 : i < (l.length : Int)
    ·
      refine AWP.condT rfl (decide_eq_true b9) ?_
      refine AWP.skip ?_
      change AWP _ _ _ _ _ _
      refine AWP.seq ?_
      refine AWP.block ?_
      refine AWP.seq ?_
      refine AWP.region (l := [0, 1, 2]) rfl ?_
      refine AOps.cons rfl rfl (AOp.indexAddrS rfl s6 s4 sl_35 (by omega) (by omega) ?_)
      refine AOps.cons rfl rfl (AOp.loadF (.int .i64 (at_ l i)) rfl rfl ty_3 (ld1 (by omega) (by omega)) ?_)
      refine AOps.cons rfl rfl (AOp.assign (.int .i64 (at_ l i)) rfl rfl ?_)
      refine AOps.nil ?_
      change AWP _ _ _ _ _ _
      refine AWP.seq ?_
      refine AWP.region (l := [0, 1, 2]) rfl ?_
      refine AOps.cons rfl rfl (AOp.move (.int .i64 (at_ l i)) rfl rfl ?_)
      refine AOps.cons rfl rfl (AOp.move (.int .i64 0) rfl s5 ?_)
      refine AOps.cons rfl rfl (AOp.bin (.bool (!decide (at_ l i = 0))) rfl rfl rfl ine ?_)
      refine AOps.nil ?_
      change AWP _ _ _ _ _ _
      by_cases b10 : at_ l i = 0
      ·
        refine AWP.condF rfl (nb (decide_eq_true b10)) ?_
        refine AWP.skip ?_
        change AWP _ _ _ _ _ _
        refine AWP.region (l := [0, 1]) rfl ?_
        refine AOps.cons rfl rfl (AOp.bin (.int .i64 (i + 1)) rfl s4 rfl (iadd (by omega)) ?_)
        refine AOps.cons rfl rfl (AOp.move (.int .i64 (i + 1)) rfl rfl ?_)
        refine AOps.nil ?_
        exact ⟨_, by omega, i + 1, rfl, rfl, s5, s6, s7, m8, by omega, by omega, by exact fa_step pre b10⟩
      ·
        refine AWP.condT rfl (nb (decide_eq_false b10)) ?_
        refine AWP.seq ?_
        refine AWP.region (l := [0, 1]) rfl ?_
        refine AOps.cons rfl rfl (AOp.move (.int .i64 (at_ l i)) rfl rfl ?_)
        refine AOps.cons rfl rfl (AOp.assign (.int .i64 (at_ l i)) rfl rfl ?_)
        refine AOps.nil ?_
        change AWP _ _ _ _ _ _
        refine AWP.ret ?_
        refine ⟨_, _, Ghost.refl, .inr rfl, _, Res.one rfl rfl, ?_, m8⟩
        exact (congrArg (AV.int .i64) (show (at_ l i : Int) = orI l from by exact or_hit hi0 (by omega) pre b10))
    ·
      refine AWP.condF rfl (decide_eq_false b9) ?_
      refine AWP.exit ?_
      change AWP _ _ _ _ _ _
      refine AWP.seq ?_
      refine AWP.region (l := [0, 1]) rfl ?_
      refine AOps.cons rfl rfl (AOp.move (.int .i64 0) rfl s5 ?_)
      refine AOps.cons rfl rfl (AOp.assign (.int .i64 0) rfl rfl ?_)
      refine AOps.nil ?_
      change AWP _ _ _ _ _ _
      refine AWP.ret ?_
      refine ⟨_, _, Ghost.refl, .inr rfl, _, Res.one rfl rfl, ?_, m8⟩
      exact (congrArg (AV.int .i64) (show (0 : Int) = orI l from by exact or_miss (fun j h1 h2 => pre j h1 (by omega))))

theorem c41 (l : List Int) (hl : l.length ≤ 1048576) (v : Int) : PC Try.prog 41 [.sl l.length (l.map eI), .int .i64 v] (.int .i64 (ixI l v)) := by
  intro H0
  refine ACalls.of_body' (n := 19) rfl rfl rfl rfl ?_
  have m0 := Mono.refl H0
  refine AWP.seq ?_
  refine AWP.region (l := [0]) rfl ?_
  refine AOps.cons rfl rfl (AOp.assign (.int .i64 0) rfl rfl ?_)
  refine AOps.nil ?_
  change AWP _ _ _ _ _ _
  refine AWP.seq ?_
  refine AWP.seq ?_
  refine AWP.region (l := [0, 1, 2]) rfl ?_
  refine AOps.cons rfl rfl (AOp.move (.sl l.length (l.map eI)) rfl rfl ?_)
  refine AOps.cons rfl rfl (AOp.len (m := l.length) rfl rfl (.inr (.inl ⟨_, rfl⟩)) u_35 ?_)
  refine AOps.cons rfl rfl (AOp.move (.int .i64 0) rfl rfl ?_)
  refine AOps.nil ?_
  change AWP _ _ _ _ _ _
  refine AWP.block ?_
  refine AWP.loop (fun q1 fq Hq => ∃ (i : Int), q1 = (((l.length : Int) : Int) - i).toNat ∧ fq 8 = .int .i64 i ∧ fq 0 = .sl l.length (l.map eI) ∧ fq 1 = .int .i64 v ∧ fq 7 = .int .i64 (l.length : Int) ∧ Mono H0 Hq ∧ (0 ≤ i) ∧ (i ≤ (l.length : Int)) ∧ (∀ j : Int, 0 ≤ j → j < i → v ≠ at_ l j)) (k := (((l.length : Int) : Int) - 0).toNat) ?_ ?_
  ·
    exact ⟨0, rfl, rfl, rfl, rfl, rfl, m0, by omega, by omega, by intro j; omega⟩
  ·
    rintro _ f3 H2 ⟨i, rfl, s4, s5, s6, s7, m8, hi0, hi1, pre⟩
    refine AWP.seq ?_
    refine AWP.region (l := [0]) rfl ?_
    refine AOps.cons rfl rfl (AOp.bin (.bool (decide (i < (l.length : Int)))) rfl s4 s7 rfl ?_)
    refine AOps.nil ?_
    change AWP _ _ _ _ _ _
    refine AWP.seq ?_
    by_cases b9 : i < (l.length : Int)
    ·
      refine AWP.condT rfl (decide_eq_true b9) ?_
      refine AWP.skip ?_
      change AWP _ _ _ _ _ _
      refine AWP.seq ?_
      refine AWP.block ?_
      refine AWP.seq ?_
      refine AWP.region (l := [0, 1]) rfl ?_
      refine AOps.cons rfl rfl (AOp.move (.int .i64 i) rfl s4 ?_)
      refine AOps.cons rfl rfl (AOp.assign (.int .i64 i) rfl rfl ?_)
      refine AOps.nil ?_
      change AWP _ _ _ _ _ _
      refine AWP.seq ?_
      refine AWP.region (l := [0, 1, 2, 3, 4, 5]) rfl ?_
      refine AOps.cons rfl rfl (AOp.move (.int .i64 v) rfl s6 ?_)
      refine AOps.cons rfl rfl (AOp.move (.sl l.length (l.map eI)) rfl s5 ?_)
      refine AOps.cons rfl rfl (AOp.move (.int .i64 i) rfl rfl ?_)
      refine AOps.cons rfl rfl (AOp.indexAddrS rfl rfl rfl sl_35 (by omega) (by omega) ?_)
      refine AOps.cons rfl rfl (AOp.loadF (.int .i64 (at_ l i)) rfl rfl ty_3 (ld1 (by omega) (by omega)) ?_)
      refine AOps.cons rfl rfl (AOp.bin (.bool (decide (v = at_ l i))) rfl rfl rfl ieq ?_)
      refine AOps.nil ?_
      change AWP _ _ _ _ _ _
      by_cases b10 : v = at_ l i
      ·
        refine AWP.condT rfl (decide_eq_true b10) ?_
        refine AWP.seq ?_
        refine AWP.region (l := [0, 1]) rfl ?_
        refine AOps.cons rfl rfl (AOp.move (.int .i64 i) rfl rfl ?_)
        refine AOps.cons rfl rfl (AOp.assign (.int .i64 i) rfl rfl ?_)
        refine AOps.nil ?_
        change AWP _ _ _ _ _ _
        refine AWP.ret ?_
        refine ⟨_, _, Ghost.refl, .inr rfl, _, Res.one rfl rfl, ?_, m8⟩
        exact (congrArg (AV.int .i64) (show (i : Int) = ixI l v from by exact ix_hit hi0 (by omega) b10 pre))
      ·
        refine AWP.condF rfl (decide_eq_false b10) ?_
        refine AWP.skip ?_
        change AWP _ _ _ _ _ _
        refine AWP.region (l := [0, 1]) rfl ?_
        refine AOps.cons rfl rfl (AOp.bin (.int .i64 (i + 1)) rfl s4 rfl (iadd (by omega)) ?_)
        refine AOps.cons rfl rfl (AOp.move (.int .i64 (i + 1)) rfl rfl ?_)
        refine AOps.nil ?_
        exact ⟨_, by omega, i + 1, rfl, rfl, s5, s6, s7, m8, by omega, by omega, by exact fa_step pre b10⟩
    ·
      refine AWP.condF rfl (decide_eq_false b9) ?_
      refine AWP.exit ?_
      change AWP _ _ _ _ _ _
      refine AWP.seq ?_
      refine AWP.region (l := [0]) rfl ?_
      refine AOps.cons rfl rfl (AOp.assign (.int .i64 (-1)) rfl rfl ?_)
      refine AOps.nil ?_
      change AWP _ _ _ _ _ _
      refine AWP.ret ?_
      refine ⟨_, _, Ghost.refl, .inr rfl, _, Res.one rfl rfl, ?_, m8⟩
      exact (congrArg (AV.int .i64) (show (-1 : Int) = ixI l v from by exact ix_miss (fun j h1 h2 => pre j h1 (by omega))))

theorem c33 (l : List Int) (hl : l.length ≤ 1048576) (v : Int) : PC Try.prog 33 [.sl l.length (l.map eI), .int .i64 v] (.bool (decide (v ∈ l))) := by
  intro H0
  refine ACalls.of_body' (n := 9) rfl rfl rfl rfl ?_
  have m0 := Mono.refl H0
  refine AWP.seq ?_
  refine AWP.region (l := [0]) rfl ?_
  refine AOps.cons rfl rfl (AOp.assign (.bool false) rfl rfl ?_)
  refine AOps.nil ?_
  change AWP _ _ _ _ _ _
  refine AWP.seq ?_
  refine AWP.region (l := [0, 1, 2, 3, 4]) rfl ?_
  refine AOps.cons rfl rfl (AOp.move (.sl l.length (l.map eI)) rfl rfl ?_)
  refine AOps.cons rfl rfl (AOp.move (.int .i64 v) rfl rfl ?_)
  refine AOps.cons rfl rfl (AOp.pcall («as» := [.sl l.length (l.map eI), .int .i64 v]) rfl rfl (rfl) tf_41 (c41 _ (by first | omega | (simp; omega)) _) ?_)
  intro H1 m2
  have m3 := m0.trans m2
  refine AOps.cons rfl rfl (AOp.bin (.bool (decide (ixI l v ≥ 0))) rfl rfl rfl rfl ?_)
  refine AOps.cons rfl rfl (AOp.assign (.bool (decide (ixI l v ≥ 0))) rfl rfl ?_)
  refine AOps.nil ?_
  change AWP _ _ _ _ _ _
  refine AWP.ret ?_
  refine ⟨_, _, Ghost.refl, .inr rfl, _, Res.one rfl rfl, ?_, m3⟩
  exact (congrArg AV.bool (show (decide (ixI l v ≥ 0) : Bool) = decide (v ∈ l) from by exact ix_dec))

theorem c34 (l : List Int) (hl : l.length ≤ 1048576) : PC Try.prog 34 [.sl l.length (l.map eI)] (.sl (wayF l).length ((wayF l).flatMap eW)) := by
  intro H0
  refine ACalls.of_body' (n := 28) rfl rfl rfl rfl ?_
  have m0 := Mono.refl H0
  refine AWP.seq ?_
  refine AWP.region (l := [0]) rfl ?_
  refine AOps.cons rfl rfl (AOp.assign (.snil) rfl rfl ?_)
  refine AOps.nil ?_
  change AWP _ _ _ _ _ _
  refine AWP.seq ?_
  refine AWP.region (l := [0]) rfl ?_
  refine AOps.cons rfl rfl (AOp.assign (.snil) rfl rfl ?_)
  refine AOps.nil ?_
  change AWP _ _ _ _ _ _
  refine AWP.seq ?_
  refine AWP.seq ?_
  refine AWP.region (l := [0, 1, 2]) rfl ?_
  refine AOps.cons rfl rfl (AOp.move (.sl l.length (l.map eI)) rfl rfl ?_)
  refine AOps.cons rfl rfl (AOp.len (m := l.length) rfl rfl (.inr (.inl ⟨_, rfl⟩)) u_35 ?_)
  refine AOps.cons rfl rfl (AOp.move (.int .i64 0) rfl rfl ?_)
  refine AOps.nil ?_
  change AWP _ _ _ _ _ _
  refine AWP.block ?_
  refine AWP.loop (fun q1 fq Hq => ∃ (i : Int) (w3 : AV), q1 = (((l.length : Int) : Int) - i).toNat ∧ fq 8 = .int .i64 i ∧ fq 0 = .sl l.length (l.map eI) ∧ fq 2 = .snil ∧ fq 6 = .sl l.length (l.map eI) ∧ fq 7 = .int .i64 (l.length : Int) ∧ fq 3 = w3 ∧ Own H0 Hq 2 w3 ((wayF l).take i.toNat).length (((wayF l).take i.toNat).flatMap eW) ∧ Mono H0 Hq ∧ (0 ≤ i) ∧ (i ≤ (l.length : Int))) (k := (((l.length : Int) : Int) - 0).toNat) ?_ ?_
  ·
    exact ⟨0, .snil, rfl, rfl, rfl, rfl, rfl, rfl, rfl, Own.nil _ _ _, m0, by omega, by omega⟩
  ·
    rintro _ f3 H2 ⟨i, w3, rfl, s4, s5, s6, s7, s8, s9, o10, m11, hi0, hi1⟩
    refine AWP.seq ?_
    refine AWP.region (l := [0]) rfl ?_
    refine AOps.cons rfl rfl (AOp.bin (.bool (decide (i < (l.length : Int)))) rfl s4 s8 rfl ?_)
    refine AOps.nil ?_
    change AWP _ _ _ _ _ _
    refine AWP.seq ?_
    by_cases b12 : i < (l.length : Int)
    ·
      refine AWP.condT rfl (decide_eq_true b12) ?_
      refine AWP.skip ?_
      change AWP _ _ _ _ _ _
      refine AWP.seq ?_
      refine AWP.block ?_
      refine AWP.seq ?_
      refine AWP.region (l := [0, 1, 2, 3, 4]) rfl ?_
      refine AOps.cons rfl rfl (AOp.move (.int .i64 i) rfl s4 ?_)
      refine AOps.cons rfl rfl (AOp.indexAddrS rfl s7 s4 sl_35 (by omega) (by omega) ?_)
      refine AOps.cons rfl rfl (AOp.loadF (.int .i64 (at_ l i)) rfl rfl ty_3 (ld1 (by omega) (by omega)) ?_)
      refine AOps.cons rfl rfl (AOp.assign (.int .i64 i) rfl rfl ?_)
      refine AOps.cons rfl rfl (AOp.assign (.int .i64 (at_ l i)) rfl rfl ?_)
      refine AOps.nil ?_
      change AWP _ _ _ _ _ _
      refine AWP.region (l := [0, 1, 2, 3, 4, 5, 6, 7, 8, 9, 10, 11, 12, 13]) rfl ?_
      refine AOps.cons rfl rfl (AOp.move (w3) rfl s9 ?_)
      refine AOps.cons rfl rfl (AOp.move (.int .i64 (at_ l i)) rfl rfl ?_)
      refine AOps.cons rfl rfl (AOp.move (.sl l.length (l.map eI)) rfl s5 ?_)
      refine AOps.cons rfl rfl (AOp.move (.int .i64 i) rfl rfl ?_)
      refine AOps.cons rfl rfl (AOp.bin (.int .i64 (i + 1)) rfl rfl rfl (iadd (by omega)) ?_)
      refine AOps.cons rfl rfl (AOp.move (.sl l.length (l.map eI)) rfl s5 ?_)
      refine AOps.cons rfl rfl (AOp.len (m := l.length) rfl rfl (.inr (.inl ⟨_, rfl⟩)) u_35 ?_)
      have r13 := mod_in (x := i + 1) (y := (l.length : Int)) (by omega)
      refine AOps.cons rfl rfl (AOp.remP rfl rfl rfl (by omega) (by omega) ?_)
      refine AOps.cons rfl rfl (AOp.indexAddrS rfl rfl rfl sl_35 (by omega) (by omega) ?_)
      refine AOps.cons rfl rfl (AOp.loadF (.int .i64 (at_ l ((i + 1) % (l.length : Int)))) rfl rfl ty_3 (ld1 (by omega) (by omega)) ?_)
      refine AOps.cons rfl rfl (AOp.build (cells := [.int .i64 (at_ l i), .int .i64 (at_ l ((i + 1) % (l.length : Int)))]) rfl tz_63 pl_63 rfl rfl ?_)
      refine AOps.cons rfl rfl (AOp.buildSlice (cells := [.int .i64 (at_ l i), .int .i64 (at_ l ((i + 1) % (l.length : Int)))]) rfl u_69 ts_63 tz_63 rfl rfl rfl ?_)
      intro i14 H15 n16 h17 k18
      have z19 := Mono.free m11 n16
      have o20 := Own.keep o10 k18 (Own.notnew o10 n16)
      have no21 := Own.notnew o10 n16
      have m22 := Mono.new m11 n16 k18
      refine AOps.cons rfl rfl (AOp.append_own (es := 2) (m := 1) (len := (((wayF l).take i.toNat).length)) (old := ((wayF l).take i.toNat).flatMap eW) (cells := [.int .i64 (at_ l i), .int .i64 (at_ l ((i + 1) % (l.length : Int)))]) rfl u_69 ts_63 tzn_63 tb_63 (by decide) ni_69 rfl o20 m22 rfl (.slm h17 rfl) (one_of rfl) (by decide) (by first | omega | (simp; omega)) ?_)
      intro v23 H24 o25 m26 k27 j28
      have o29 := Own.snocM (xs := (((wayF l).take i.toNat) : List (Int × Int))) (y := (at_ l i, at_ l ((i + 1) % (l.length : Int)))) (e := eW) (by simp) o25
      refine AOps.cons rfl rfl (AOp.assign (v23) rfl rfl ?_)
      refine AOps.nil ?_
      change AWP _ _ _ _ _ _
      refine AWP.region (l := [0, 1]) rfl ?_
      refine AOps.cons rfl rfl (AOp.bin (.int .i64 (i + 1)) rfl s4 rfl (iadd (by omega)) ?_)
      refine AOps.cons rfl rfl (AOp.move (.int .i64 (i + 1)) rfl rfl ?_)
      refine AOps.nil ?_
      exact ⟨_, by omega, i + 1, v23, rfl, rfl, s5, s6, s7, s8, rfl, (have hx : ((((wayF l).take i.toNat) ++ [(at_ l i, at_ l ((i + 1) % (l.length : Int)))]) : List (Int × Int)) = (wayF l).take (i + 1).toNat := (by (rw [take_step (l := wayF l) hi0 (by rw [wayF_len]; omega), at_wayF hi0 (by omega)])); Own.re o29 (congrArg List.length hx) (congrArg (fun l : List (Int × Int) => l.flatMap eW) hx)), m26, by omega, by omega⟩
    ·
      refine AWP.condF rfl (decide_eq_false b12) ?_
      refine AWP.exit ?_
      change AWP _ _ _ _ _ _
      refine AWP.seq ?_
      refine AWP.region (l := [0, 1]) rfl ?_
      refine AOps.cons rfl rfl (AOp.move (w3) rfl s9 ?_)
      refine AOps.cons rfl rfl (AOp.assign (w3) rfl rfl ?_)
      refine AOps.nil ?_
      change AWP _ _ _ _ _ _
      refine AWP.ret ?_
      refine Fin.frz 2 o10 rfl m11 fun H30 m31 k32 => ?_
      refine ⟨_, _, Ghost.refl, .inr rfl, _, Res.one rfl rfl, ?_, m31⟩
      exact (congrArg (fun l : List (Int × Int) => AV.sl l.length (l.flatMap eW)) (show (((wayF l).take i.toNat) : List (Int × Int)) = wayF l from by exact take_all (by rw [wayF_len]; omega)))

theorem c22 (l : List Int) (hl : l.length ≤ 1048576) : PC Try.prog 22 [.sl l.length (l.map eI)] (.sl l.length (l.map eI)) := by
  intro H0
  refine ACalls.of_body' (n := 9) rfl rfl rfl rfl ?_
  have m0 := Mono.refl H0
  refine AWP.seq ?_
  refine AWP.region (l := [0]) rfl ?_
  refine AOps.cons rfl rfl (AOp.assign (.snil) rfl rfl ?_)
  refine AOps.nil ?_
  change AWP _ _ _ _ _ _
  refine AWP.seq ?_
  refine AWP.region (l := [0, 1]) rfl ?_
  refine AOps.cons rfl rfl (AOp.buildSlice (cells := []) rfl u_35 ts_3 tz_3 rfl rfl rfl ?_)
  intro i1 H2 n3 h4 k5
  have z6 := Mono.free m0 n3
  have m7 := Mono.new m0 n3 k5
  obtain ⟨v8, e9⟩ : ∃ v : AV, v = .slm i1 0 1 0 0 := ⟨_, rfl⟩
  have o10 : Own H0 H2 1 v8 0 [] := .inr ⟨_, _, e9, h4, z6, rfl⟩
  refine AOps.cons rfl rfl (AOp.assign (v8) rfl e9.symm ?_)
  refine AOps.nil ?_
  change AWP _ _ _ _ _ _
  refine AWP.seq ?_
  refine AWP.region (l := [0, 1, 2, 3]) rfl ?_
  refine AOps.cons rfl rfl (AOp.move (v8) rfl rfl ?_)
  refine AOps.cons rfl rfl (AOp.move (.sl l.length (l.map eI)) rfl rfl ?_)
  refine AOps.cons rfl rfl (AOp.append_any (es := 1) (m := l.length) (len := 0) (old := []) (cells := l.map eI) rfl u_35 ts_3 tzn_3 tb_3 (by decide) ni_35 rfl o10 m7 rfl (.sl (by simp)) (by exact one_map eI_one)  (by first | omega | (simp; omega)) ?_)
  intro v11 H12 o13 m14 k15 j16
  have o17 := Own.app1 (xs := ([] : List Int)) (ys := l) (e := eI) (by simp) o13
  refine AOps.cons rfl rfl (AOp.assign (v11) rfl rfl ?_)
  refine AOps.nil ?_
  change AWP _ _ _ _ _ _
  refine AWP.seq ?_
  refine AWP.region (l := [0, 1]) rfl ?_
  refine AOps.cons rfl rfl (AOp.move (v11) rfl rfl ?_)
  refine AOps.cons rfl rfl (AOp.assign (v11) rfl rfl ?_)
  refine AOps.nil ?_
  change AWP _ _ _ _ _ _
  refine AWP.ret ?_
  refine Fin.frz 2 o17 rfl m14 fun H18 m19 k20 => ?_
  refine ⟨_, _, Ghost.refl, .inr rfl, _, Res.one rfl rfl, ?_, m19⟩
  exact (congrArg (fun l : List Int => AV.sl l.length (l.map eI)) (show ((([]) ++ l) : List Int) = l from by simp))

theorem c11 (fs : List (List Int)) (hfs : fs.length ≤ 1048576) (hfss : ∀ l ∈ fs, l.length ≤ 1048576) : PC Try.prog 11 [.sl fs.length (fs.map eF)] (.sl fs.length (fs.map eF)) := by
  intro H0
  refine ACalls.of_body' (n := 21) rfl rfl rfl rfl ?_
  have m0 := Mono.refl H0
  refine AWP.seq ?_
  refine AWP.region (l := [0]) rfl ?_
  refine AOps.cons rfl rfl (AOp.assign (.snil) rfl rfl ?_)
  refine AOps.nil ?_
  change AWP _ _ _ _ _ _
  refine AWP.seq ?_
  refine AWP.region (l := [0, 1]) rfl ?_
  refine AOps.cons rfl rfl (AOp.buildSlice (cells := []) rfl u_22 ts_35 tz_35 rfl rfl rfl ?_)
  intro i1 H2 n3 h4 k5
  have z6 := Mono.free m0 n3
  have m7 := Mono.new m0 n3 k5
  obtain ⟨v8, e9⟩ : ∃ v : AV, v = .slm i1 0 1 0 0 := ⟨_, rfl⟩
  have o10 : Own H0 H2 1 v8 0 [] := .inr ⟨_, _, e9, h4, z6, rfl⟩
  refine AOps.cons rfl rfl (AOp.assign (v8) rfl e9.symm ?_)
  refine AOps.nil ?_
  change AWP _ _ _ _ _ _
  refine AWP.seq ?_
  refine AWP.seq ?_
  refine AWP.region (l := [0]) rfl ?_
  refine AOps.cons rfl rfl (AOp.assign (.int .i64 0) rfl rfl ?_)
  refine AOps.nil ?_
  change AWP _ _ _ _ _ _
  refine AWP.block ?_
  refine AWP.loop (fun q11 fq Hq => ∃ (i : Int) (w3 : AV), q11 = (((fs.length : Int) : Int) - i).toNat ∧ fq 4 = .int .i64 i ∧ fq 0 = .sl fs.length (fs.map eF) ∧ fq 2 = .snil ∧ fq 3 = w3 ∧ Own H0 Hq 1 w3 (fs.take i.toNat).length ((fs.take i.toNat).map eF) ∧ Mono H0 Hq ∧ (0 ≤ i) ∧ (i ≤ (fs.length : Int))) (k := (((fs.length : Int) : Int) - 0).toNat) ?_ ?_
  ·
    exact ⟨0, v8, rfl, rfl, rfl, rfl, rfl, (have hx : ([] : List (List Int)) = fs.take (0 : Int).toNat := (by first | rfl | simp); Own.re o10 (congrArg List.length hx) (congrArg (fun l : List (List Int) => l.map eF) hx)), m7, by omega, by omega⟩
  ·
    rintro _ f13 H12 ⟨i, w3, rfl, s14, s15, s16, s17, o18, m19, hi0, hi1⟩
    refine AWP.seq ?_
    refine AWP.seq ?_
    refine AWP.region (l := [0, 1, 2, 3]) rfl ?_
    refine AOps.cons rfl rfl (AOp.move (.int .i64 i) rfl s14 ?_)
    refine AOps.cons rfl rfl (AOp.move (.sl fs.length (fs.map eF)) rfl s15 ?_)
    refine AOps.cons rfl rfl (AOp.len (m := fs.length) rfl rfl (.inr (.inl ⟨_, rfl⟩)) u_22 ?_)
    refine AOps.cons rfl rfl (AOp.bin (.bool (decide (i < (fs.length : Int)))) rfl rfl rfl rfl ?_)
    refine AOps.nil ?_
    change AWP _ _ _ _ _ _
    by_cases b20 : i < (fs.length : Int)
    ·
      refine AWP.condT rfl (decide_eq_true b20) ?_
      refine AWP.skip ?_
      change AWP _ _ _ _ _ _
      refine AWP.seq ?_
      refine AWP.block ?_
      have hq : (at_ fs i).length ≤ 1048576 := hfss _ (at_mem (by omega) (by omega))
      refine AWP.region (l := [0, 1, 2, 3, 4, 5, 6, 7, 8]) rfl ?_
      refine AOps.cons rfl rfl (AOp.move (w3) rfl s17 ?_)
      refine AOps.cons rfl rfl (AOp.move (.sl fs.length (fs.map eF)) rfl s15 ?_)
      refine AOps.cons rfl rfl (AOp.move (.int .i64 i) rfl s14 ?_)
      refine AOps.cons rfl rfl (AOp.indexAddrS rfl rfl rfl sl_22 (by omega) (by omega) ?_)
      refine AOps.cons rfl rfl (AOp.loadF (.sl (at_ fs i).length ((at_ fs i).map eI)) rfl rfl ty_35 (ld1 (by omega) (by omega)) ?_)
      refine AOps.cons rfl rfl (AOp.pcall («as» := [.sl (at_ fs i).length ((at_ fs i).map eI)]) rfl rfl (rfl) tf_22 (c22 _ (by omega)) ?_)
      intro H21 m22
      have o23 := Own.mono o18 m22
      have m24 := m19.trans m22
      refine AOps.cons rfl rfl (AOp.buildSlice (cells := [.sl (at_ fs i).length ((at_ fs i).map eI)]) rfl u_22 ts_35 tz_35 rfl rfl rfl ?_)
      intro i25 H26 n27 h28 k29
      have z30 := Mono.free m24 n27
      have o31 := Own.keep o23 k29 (Own.notnew o23 n27)
      have no32 := Own.notnew o23 n27
      have m33 := Mono.new m24 n27 k29
      refine AOps.cons rfl rfl (AOp.append_own (es := 1) (m := 1) (len := ((fs.take i.toNat).length)) (old := (fs.take i.toNat).map eF) (cells := [.sl (at_ fs i).length ((at_ fs i).map eI)]) rfl u_22 ts_35 tzn_35 tb_35 (by decide) ni_22 rfl o31 m33 rfl (.slm h28 rfl) (one_of rfl) (by decide) (by first | omega | (simp; omega)) ?_)
      intro v34 H35 o36 m37 k38 j39
      have o40 := Own.snoc1 (xs := ((fs.take i.toNat) : List (List Int))) (y := at_ fs i) (e := eF) (by simp) o36
      refine AOps.cons rfl rfl (AOp.assign (v34) rfl rfl ?_)
      refine AOps.nil ?_
      change AWP _ _ _ _ _ _
      refine AWP.region (l := [0, 1, 2]) rfl ?_
      refine AOps.cons rfl rfl (AOp.move (.int .i64 i) rfl s14 ?_)
      refine AOps.cons rfl rfl (AOp.bin (.int .i64 (i + 1)) rfl rfl rfl (iadd (by omega)) ?_)
      refine AOps.cons rfl rfl (AOp.assign (.int .i64 (i + 1)) rfl rfl ?_)
      refine AOps.nil ?_
      exact ⟨_, by omega, i + 1, v34, rfl, rfl, s15, s16, rfl, (have hx : (((fs.take i.toNat) ++ [at_ fs i]) : List (List Int)) = fs.take (i + 1).toNat := (by rw [take_step hi0 (by omega)]); Own.re o40 (congrArg List.length hx) (congrArg (fun l : List (List Int) => l.map eF) hx)), m37, by omega, by omega⟩
    ·
      refine AWP.condF rfl (decide_eq_false b20) ?_
      refine AWP.exit ?_
      change AWP _ _ _ _ _ _
      refine AWP.seq ?_
      refine AWP.region (l := [0, 1]) rfl ?_
      refine AOps.cons rfl rfl (AOp.move (w3) rfl s17 ?_)
      refine AOps.cons rfl rfl (AOp.assign (w3) rfl rfl ?_)
      refine AOps.nil ?_
      change AWP _ _ _ _ _ _
      refine AWP.ret ?_
      refine Fin.frz 2 o18 rfl m19 fun H41 m42 k43 => ?_
      refine ⟨_, _, Ghost.refl, .inr rfl, _, Res.one rfl rfl, ?_, m42⟩
      exact (congrArg (fun l : List (List Int) => AV.sl l.length (l.map eF)) (show ((fs.take i.toNat) : List (List Int)) = fs from by exact take_all (by omega)))

theorem c16 (a : List Int) (ha : a.length ≤ 1048576) (b : List Int) (hb : b.length ≤ 1048576) : PC Try.prog 16 [.sl a.length (a.map eI), .sl b.length (b.map eI)] (.bool (decide (a = b))) := by
  intro H0
  refine ACalls.of_body' (n := 26) rfl rfl rfl rfl ?_
  have m0 := Mono.refl H0
  refine AWP.seq ?_
  refine AWP.region (l := [0]) rfl ?_
  refine AOps.cons rfl rfl (AOp.assign (.bool false) rfl rfl ?_)
  refine AOps.nil ?_
  change AWP _ _ _ _ _ _
  refine AWP.seq ?_
  refine AWP.seq ?_
  refine AWP.region (l := [0, 1, 2, 3, 4]) rfl ?_
  refine AOps.cons rfl rfl (AOp.move (.sl a.length (a.map eI)) rfl rfl ?_)
  refine AOps.cons rfl rfl (AOp.len (m := a.length) rfl rfl (.inr (.inl ⟨_, rfl⟩)) u_35 ?_)
  refine AOps.cons rfl rfl (AOp.move (.sl b.length (b.map eI)) rfl rfl ?_)
  refine AOps.cons rfl rfl (AOp.len (m := b.length) rfl rfl (.inr (.inl ⟨_, rfl⟩)) u_35 ?_)
  refine AOps.cons rfl rfl (AOp.bin (.bool (!decide ((a.length : Int) = (b.length : Int)))) rfl rfl rfl ine ?_)
  refine AOps.nil ?_
  change AWP _ _ _ _ _ _
  by_cases b1 : (a.length : Int) = (b.length : Int)
  ·
    refine AWP.condF rfl (nb (decide_eq_true b1)) ?_
    refine AWP.skip ?_
    change AWP _ _ _ _ _ _
    refine AWP.seq ?_
    refine AWP.seq ?_
    refine AWP.region (l := [0]) rfl ?_
    refine AOps.cons rfl rfl (AOp.assign (.int .i64 0) rfl rfl ?_)
    refine AOps.nil ?_
    change AWP _ _ _ _ _ _
    refine AWP.block ?_
    refine AWP.loop (fun q2 fq Hq => ∃ (i : Int), q2 = (((a.length : Int) : Int) - i).toNat ∧ fq 5 = .int .i64 i ∧ fq 0 = .sl a.length (a.map eI) ∧ fq 1 = .sl b.length (b.map eI) ∧ Mono H0 Hq ∧ (0 ≤ i) ∧ (i ≤ (a.length : Int)) ∧ ((a.length : Int) = b.length) ∧ (∀ j : Int, 0 ≤ j → j < i → at_ a j = at_ b j)) (k := (((a.length : Int) : Int) - 0).toNat) ?_ ?_
    ·
      exact ⟨0, rfl, rfl, rfl, rfl, m0, by omega, by omega, by assumption, by intro j; omega⟩
    ·
      rintro _ f4 H3 ⟨i, rfl, s5, s6, s7, m8, hi0, hi1, hl, pre⟩
      refine AWP.seq ?_
      refine AWP.seq ?_
      refine AWP.region (l := [0, 1, 2, 3]) rfl ?_
      refine AOps.cons rfl rfl (AOp.move (.int .i64 i) rfl s5 ?_)
      refine AOps.cons rfl rfl (AOp.move (.sl a.length (a.map eI)) rfl s6 ?_)
      refine AOps.cons rfl rfl (AOp.len (m := a.length) rfl rfl (.inr (.inl ⟨_, rfl⟩)) u_35 ?_)
      refine AOps.cons rfl rfl (AOp.bin (.bool (decide (i < (a.length : Int)))) rfl rfl rfl rfl ?_)
      refine AOps.nil ?_
      change AWP _ _ _ _ _ _
      by_cases b9 : i < (a.length : Int)
      ·
        refine AWP.condT rfl (decide_eq_true b9) ?_
        refine AWP.skip ?_
        change AWP _ _ _ _ _ _
        refine AWP.seq ?_
        refine AWP.block ?_
        refine AWP.seq ?_
        refine AWP.region_quiet mixed (by kernel_rfl) 9 [] rfl (by kernel_rfl) (Mono H3) (Mono.refl _) ?_
        refine QE.op rfl rfl (.inl ⟨rfl, fun f' H' hf hM => AOp.move (.sl a.length (a.map eI)) rfl ((hf 0 rfl).trans s6) ⟨rfl, hM⟩⟩) ?_
        refine QE.op rfl rfl (.inl ⟨rfl, fun f' H' hf hM => AOp.move (.int .i64 i) rfl ((hf 5 rfl).trans s5) ⟨rfl, hM⟩⟩) ?_
        refine QE.op rfl rfl (.inl ⟨rfl, fun f' H' hf hM => AOp.indexAddrS rfl ((hf 17 rfl).trans rfl) ((hf 18 rfl).trans rfl) sl_35 (by omega) (by omega) ⟨rfl, hM⟩⟩) ?_
        refine QE.op rfl rfl (.inl ⟨rfl, fun f' H' hf hM => AOp.loadF (.int .i64 (at_ a i)) rfl ((hf 19 rfl).trans rfl) ty_3 (ld1 (by omega) (by omega)) ⟨rfl, hM⟩⟩) ?_
        refine QE.op rfl rfl (.inl ⟨rfl, fun f' H' hf hM => AOp.move (.sl b.length (b.map eI)) rfl ((hf 1 rfl).trans s7) ⟨rfl, hM⟩⟩) ?_
        refine QE.op rfl rfl (.inl ⟨rfl, fun f' H' hf hM => AOp.move (.int .i64 i) rfl ((hf 5 rfl).trans s5) ⟨rfl, hM⟩⟩) ?_
        refine QE.op rfl rfl (.inl ⟨rfl, fun f' H' hf hM => AOp.indexAddrS rfl ((hf 21 rfl).trans rfl) ((hf 22 rfl).trans rfl) sl_35 (by omega) (by omega) ⟨rfl, hM⟩⟩) ?_
        refine QE.op rfl rfl (.inl ⟨rfl, fun f' H' hf hM => AOp.loadF (.int .i64 (at_ b i)) rfl ((hf 23 rfl).trans rfl) ty_3 (ld1 (by omega) (by omega)) ⟨rfl, hM⟩⟩) ?_
        refine QE.op rfl rfl (.inl ⟨rfl, fun f' H' hf hM => AOp.bin (.bool (!decide (at_ a i = at_ b i))) rfl ((hf 20 rfl).trans rfl) ((hf 24 rfl).trans rfl) ine ⟨rfl, hM⟩⟩) ?_
        refine QE.done fun H10 m11 => ?_
        have m12 := m8.trans m11
        refine AOps.nil ?_
        change AWP _ _ _ _ _ _
        by_cases b13 : at_ a i = at_ b i
        ·
          refine AWP.condF rfl (nb (decide_eq_true b13)) ?_
          refine AWP.skip ?_
          change AWP _ _ _ _ _ _
          refine AWP.region (l := [0, 1, 2]) rfl ?_
          refine AOps.cons rfl rfl (AOp.move (.int .i64 i) rfl s5 ?_)
          refine AOps.cons rfl rfl (AOp.bin (.int .i64 (i + 1)) rfl rfl rfl (iadd (by omega)) ?_)
          refine AOps.cons rfl rfl (AOp.assign (.int .i64 (i + 1)) rfl rfl ?_)
          refine AOps.nil ?_
          exact ⟨_, by omega, i + 1, rfl, rfl, s6, s7, m12, by omega, by omega, by assumption, by exact pre_step pre (b13)⟩
        ·
          refine AWP.condT rfl (nb (decide_eq_false b13)) ?_
          refine AWP.seq ?_
          refine AWP.region (l := [0]) rfl ?_
          refine AOps.cons rfl rfl (AOp.assign (.bool false) rfl rfl ?_)
          refine AOps.nil ?_
          change AWP _ _ _ _ _ _
          refine AWP.ret ?_
          refine ⟨_, _, Ghost.refl, .inr rfl, _, Res.one rfl rfl, ?_, m12⟩
          exact (congrArg AV.bool (rfl.trans (decide_eq_false (show ¬ (a = b) from by rintro rfl; first | omega | (exact absurd rfl b13))).symm))
      ·
        refine AWP.condF rfl (decide_eq_false b9) ?_
        refine AWP.exit ?_
        change AWP _ _ _ _ _ _
        refine AWP.seq ?_
        refine AWP.region (l := [0]) rfl ?_
        refine AOps.cons rfl rfl (AOp.assign (.bool true) rfl rfl ?_)
        refine AOps.nil ?_
        change AWP _ _ _ _ _ _
        refine AWP.ret ?_
        refine ⟨_, _, Ghost.refl, .inr rfl, _, Res.one rfl rfl, ?_, m8⟩
        exact (congrArg AV.bool (rfl.trans (decide_eq_true (show a = b from by exact ext_at (by omega) (fun j h1 h2 => pre j h1 (by omega)))).symm))
  ·
    refine AWP.condT rfl (nb (decide_eq_false b1)) ?_
    refine AWP.seq ?_
    refine AWP.region (l := [0]) rfl ?_
    refine AOps.cons rfl rfl (AOp.assign (.bool false) rfl rfl ?_)
    refine AOps.nil ?_
    change AWP _ _ _ _ _ _
    refine AWP.ret ?_
    refine ⟨_, _, Ghost.refl, .inr rfl, _, Res.one rfl rfl, ?_, m0⟩
    exact (congrArg AV.bool (rfl.trans (decide_eq_false (show ¬ (a = b) from by rintro rfl; first | omega | (exact absurd rfl b1))).symm))

theorem c15 (a : List (List Int)) (ha : a.length ≤ 1048576) (has : ∀ l ∈ a, l.length ≤ 1048576) (b : List (List Int)) (hb : b.length ≤ 1048576) (hbs : ∀ l ∈ b, l.length ≤ 1048576) : PC Try.prog 15 [.sl a.length (a.map eF), .sl b.length (b.map eF)] (.bool (decide (a = b))) := by
  intro H0
  refine ACalls.of_body' (n := 27) rfl rfl rfl rfl ?_
  have m0 := Mono.refl H0
  refine AWP.seq ?_
  refine AWP.region (l := [0]) rfl ?_
  refine AOps.cons rfl rfl (AOp.assign (.bool false) rfl rfl ?_)
  refine AOps.nil ?_
  change AWP _ _ _ _ _ _
  refine AWP.seq ?_
  refine AWP.seq ?_
  refine AWP.region (l := [0, 1, 2, 3, 4]) rfl ?_
  refine AOps.cons rfl rfl (AOp.move (.sl a.length (a.map eF)) rfl rfl ?_)
  refine AOps.cons rfl rfl (AOp.len (m := a.length) rfl rfl (.inr (.inl ⟨_, rfl⟩)) u_22 ?_)
  refine AOps.cons rfl rfl (AOp.move (.sl b.length (b.map eF)) rfl rfl ?_)
  refine AOps.cons rfl rfl (AOp.len (m := b.length) rfl rfl (.inr (.inl ⟨_, rfl⟩)) u_22 ?_)
  refine AOps.cons rfl rfl (AOp.bin (.bool (!decide ((a.length : Int) = (b.length : Int)))) rfl rfl rfl ine ?_)
  refine AOps.nil ?_
  change AWP _ _ _ _ _ _
  by_cases b1 : (a.length : Int) = (b.length : Int)
  ·
    refine AWP.condF rfl (nb (decide_eq_true b1)) ?_
    refine AWP.skip ?_
    change AWP _ _ _ _ _ _
    refine AWP.seq ?_
    refine AWP.seq ?_
    refine AWP.region (l := [0]) rfl ?_
    refine AOps.cons rfl rfl (AOp.assign (.int .i64 0) rfl rfl ?_)
    refine AOps.nil ?_
    change AWP _ _ _ _ _ _
    refine AWP.block ?_
    refine AWP.loop (fun q2 fq Hq => ∃ (i : Int), q2 = (((a.length : Int) : Int) - i).toNat ∧ fq 5 = .int .i64 i ∧ fq 0 = .sl a.length (a.map eF) ∧ fq 1 = .sl b.length (b.map eF) ∧ Mono H0 Hq ∧ (0 ≤ i) ∧ (i ≤ (a.length : Int)) ∧ ((a.length : Int) = b.length) ∧ (∀ j : Int, 0 ≤ j → j < i → at_ a j = at_ b j)) (k := (((a.length : Int) : Int) - 0).toNat) ?_ ?_
    ·
      exact ⟨0, rfl, rfl, rfl, rfl, m0, by omega, by omega, by assumption, by intro j; omega⟩
    ·
      rintro _ f4 H3 ⟨i, rfl, s5, s6, s7, m8, hi0, hi1, hl, pre⟩
      refine AWP.seq ?_
      refine AWP.seq ?_
      refine AWP.region (l := [0, 1, 2, 3]) rfl ?_
      refine AOps.cons rfl rfl (AOp.move (.int .i64 i) rfl s5 ?_)
      refine AOps.cons rfl rfl (AOp.move (.sl a.length (a.map eF)) rfl s6 ?_)
      refine AOps.cons rfl rfl (AOp.len (m := a.length) rfl rfl (.inr (.inl ⟨_, rfl⟩)) u_22 ?_)
      refine AOps.cons rfl rfl (AOp.bin (.bool (decide (i < (a.length : Int)))) rfl rfl rfl rfl ?_)
      refine AOps.nil ?_
      change AWP _ _ _ _ _ _
      by_cases b9 : i < (a.length : Int)
      ·
        refine AWP.condT rfl (decide_eq_true b9) ?_
        refine AWP.skip ?_
        change AWP _ _ _ _ _ _
        refine AWP.seq ?_
        refine AWP.block ?_
        refine AWP.seq ?_
        have hq : (at_ a i).length ≤ 1048576 := has _ (at_mem (by omega) (by omega))
        have hq2 : (at_ b i).length ≤ 1048576 := hbs _ (at_mem (by omega) (by omega))
        refine AWP.region_quiet mixed (by kernel_rfl) 10 [] rfl (by kernel_rfl) (Mono H3) (Mono.refl _) ?_
        refine QE.op rfl rfl (.inl ⟨rfl, fun f' H' hf hM => AOp.move (.sl a.length (a.map eF)) rfl ((hf 0 rfl).trans s6) ⟨rfl, hM⟩⟩) ?_
        refine QE.op rfl rfl (.inl ⟨rfl, fun f' H' hf hM => AOp.move (.int .i64 i) rfl ((hf 5 rfl).trans s5) ⟨rfl, hM⟩⟩) ?_
        refine QE.op rfl rfl (.inl ⟨rfl, fun f' H' hf hM => AOp.indexAddrS rfl ((hf 17 rfl).trans rfl) ((hf 18 rfl).trans rfl) sl_22 (by omega) (by omega) ⟨rfl, hM⟩⟩) ?_
        refine QE.op rfl rfl (.inl ⟨rfl, fun f' H' hf hM => AOp.loadF (.sl (at_ a i).length ((at_ a i).map eI)) rfl ((hf 19 rfl).trans rfl) ty_35 (ld1 (by omega) (by omega)) ⟨rfl, hM⟩⟩) ?_
        refine QE.op rfl rfl (.inl ⟨rfl, fun f' H' hf hM => AOp.move (.sl b.length (b.map eF)) rfl ((hf 1 rfl).trans s7) ⟨rfl, hM⟩⟩) ?_
        refine QE.op rfl rfl (.inl ⟨rfl, fun f' H' hf hM => AOp.move (.int .i64 i) rfl ((hf 5 rfl).trans s5) ⟨rfl, hM⟩⟩) ?_
        refine QE.op rfl rfl (.inl ⟨rfl, fun f' H' hf hM => AOp.indexAddrS rfl ((hf 21 rfl).trans rfl) ((hf 22 rfl).trans rfl) sl_22 (by omega) (by omega) ⟨rfl, hM⟩⟩) ?_
        refine QE.op rfl rfl (.inl ⟨rfl, fun f' H' hf hM => AOp.loadF (.sl (at_ b i).length ((at_ b i).map eI)) rfl ((hf 23 rfl).trans rfl) ty_35 (ld1 (by omega) (by omega)) ⟨rfl, hM⟩⟩) ?_
        refine QE.op rfl rfl (.inl ⟨rfl, fun f' H' hf hM => AOp.pcall («as» := [.sl (at_ a i).length ((at_ a i).map eI), .sl (at_ b i).length ((at_ b i).map eI)]) rfl rfl (lapp (lcons ((hf 20 rfl).trans rfl) (lcons ((hf 24 rfl).trans rfl) rfl)) rfl) tf_16 (c16 _ (by omega) _ (by omega)) fun H2 m2 => ⟨rfl, hM.trans m2⟩⟩) ?_
        refine QE.op rfl rfl (.inl ⟨rfl, fun f' H' hf hM => AOp.not rfl ((hf 25 rfl).trans rfl) ⟨rfl, hM⟩⟩) ?_
        refine QE.done fun H10 m11 => ?_
        have m12 := m8.trans m11
        refine AOps.nil ?_
        change AWP _ _ _ _ _ _
        by_cases b13 : at_ a i = at_ b i
        ·
          refine AWP.condF rfl (nb (decide_eq_true b13)) ?_
          refine AWP.skip ?_
          change AWP _ _ _ _ _ _
          refine AWP.region (l := [0, 1, 2]) rfl ?_
          refine AOps.cons rfl rfl (AOp.move (.int .i64 i) rfl s5 ?_)
          refine AOps.cons rfl rfl (AOp.bin (.int .i64 (i + 1)) rfl rfl rfl (iadd (by omega)) ?_)
          refine AOps.cons rfl rfl (AOp.assign (.int .i64 (i + 1)) rfl rfl ?_)
          refine AOps.nil ?_
          exact ⟨_, by omega, i + 1, rfl, rfl, s6, s7, m12, by omega, by omega, by assumption, by exact pre_step pre (b13)⟩
        ·
          refine AWP.condT rfl (nb (decide_eq_false b13)) ?_
          refine AWP.seq ?_
          refine AWP.region (l := [0]) rfl ?_
          refine AOps.cons rfl rfl (AOp.assign (.bool false) rfl rfl ?_)
          refine AOps.nil ?_
          change AWP _ _ _ _ _ _
          refine AWP.ret ?_
          refine ⟨_, _, Ghost.refl, .inr rfl, _, Res.one rfl rfl, ?_, m12⟩
          exact (congrArg AV.bool (rfl.trans (decide_eq_false (show ¬ (a = b) from by rintro rfl; first | omega | (exact absurd rfl b13))).symm))
      ·
        refine AWP.condF rfl (decide_eq_false b9) ?_
        refine AWP.exit ?_
        change AWP _ _ _ _ _ _
        refine AWP.seq ?_
        refine AWP.region (l := [0]) rfl ?_
        refine AOps.cons rfl rfl (AOp.assign (.bool true) rfl rfl ?_)
        refine AOps.nil ?_
        change AWP _ _ _ _ _ _
        refine AWP.ret ?_
        refine ⟨_, _, Ghost.refl, .inr rfl, _, Res.one rfl rfl, ?_, m8⟩
        exact (congrArg AV.bool (rfl.trans (decide_eq_true (show a = b from by exact ext_at (by omega) (fun j h1 h2 => pre j h1 (by omega)))).symm))
  ·
    refine AWP.condT rfl (nb (decide_eq_false b1)) ?_
    refine AWP.seq ?_
    refine AWP.region (l := [0]) rfl ?_
    refine AOps.cons rfl rfl (AOp.assign (.bool false) rfl rfl ?_)
    refine AOps.nil ?_
    change AWP _ _ _ _ _ _
    refine AWP.ret ?_
    refine ⟨_, _, Ghost.refl, .inr rfl, _, Res.one rfl rfl, ?_, m0⟩
    exact (congrArg AV.bool (rfl.trans (decide_eq_false (show ¬ (a = b) from by rintro rfl; first | omega | (exact absurd rfl b1))).symm))

theorem c39 (l : List Int) (hl : l.length ≤ 1048576) (v b : Int) (hb : -1 ≤ b ∧ b ≤ 1) : PC Try.prog 39 [.sl l.length (l.map eI), .int .i64 v, .int .i64 b] (.int .i64 (nextS l v b)) := by
  intro H0
  refine ACalls.of_body' (n := 32) rfl rfl rfl rfl ?_
  have m0 := Mono.refl H0
  refine AWP.seq ?_
  refine AWP.region (l := [0]) rfl ?_
  refine AOps.cons rfl rfl (AOp.assign (.int .i64 0) rfl rfl ?_)
  refine AOps.nil ?_
  change AWP _ _ _ _ _ _
  refine AWP.seq ?_
  refine AWP.seq ?_
  refine AWP.region (l := [0]) rfl ?_
  refine AOps.cons rfl rfl (AOp.assign (.int .i64 0) rfl rfl ?_)
  refine AOps.nil ?_
  change AWP _ _ _ _ _ _
  refine AWP.block ?_
  refine AWP.loop (fun q1 fq Hq => ∃ (i : Int), q1 = (((l.length : Int) : Int) - i).toNat ∧ fq 7 = .int .i64 i ∧ fq 0 = .sl l.length (l.map eI) ∧ fq 1 = .int .i64 v ∧ fq 2 = .int .i64 b ∧ Mono H0 Hq ∧ (0 ≤ i) ∧ (i ≤ (l.length : Int)) ∧ (∀ j : Int, 0 ≤ j → j < i → at_ l j ≠ v)) (k := (((l.length : Int) : Int) - 0).toNat) ?_ ?_
  ·
    exact ⟨0, rfl, rfl, rfl, rfl, rfl, m0, by omega, by omega, by intro j; omega⟩
  ·
    rintro _ f3 H2 ⟨i, rfl, s4, s5, s6, s7, m8, hi0, hi1, pre⟩
    refine AWP.seq ?_
    refine AWP.seq ?_
    refine AWP.region (l := [0, 1, 2, 3]) rfl ?_
    refine AOps.cons rfl rfl (AOp.move (.int .i64 i) rfl s4 ?_)
    refine AOps.cons rfl rfl (AOp.move (.sl l.length (l.map eI)) rfl s5 ?_)
    refine AOps.cons rfl rfl (AOp.len (m := l.length) rfl rfl (.inr (.inl ⟨_, rfl⟩)) u_35 ?_)
    refine AOps.cons rfl rfl (AOp.bin (.bool (decide (i < (l.length : Int)))) rfl rfl rfl rfl ?_)
    refine AOps.nil ?_
    change AWP _ _ _ _ _ _
    by_cases b9 : i < (l.length : Int)
    ·
      refine AWP.condT rfl (decide_eq_true b9) ?_
      refine AWP.skip ?_
      change AWP _ _ _ _ _ _
      refine AWP.seq ?_
      refine AWP.block ?_
      refine AWP.seq ?_
      refine AWP.region (l := [0, 1, 2, 3, 4, 5]) rfl ?_
      refine AOps.cons rfl rfl (AOp.move (.sl l.length (l.map eI)) rfl s5 ?_)
      refine AOps.cons rfl rfl (AOp.move (.int .i64 i) rfl s4 ?_)
      refine AOps.cons rfl rfl (AOp.indexAddrS rfl rfl rfl sl_35 (by omega) (by omega) ?_)
      refine AOps.cons rfl rfl (AOp.loadF (.int .i64 (at_ l i)) rfl rfl ty_3 (ld1 (by omega) (by omega)) ?_)
      refine AOps.cons rfl rfl (AOp.move (.int .i64 v) rfl s6 ?_)
      refine AOps.cons rfl rfl (AOp.bin (.bool (decide (at_ l i = v))) rfl rfl rfl ieq ?_)
      refine AOps.nil ?_
      change AWP _ _ _ _ _ _
      by_cases b10 : at_ l i = v
      ·
        refine AWP.condT rfl (decide_eq_true b10) ?_
        refine AWP.seq ?_
        refine AWP.region (l := [0, 1, 2, 3, 4, 5, 6, 7, 8, 9, 10, 11, 12]) rfl ?_
        refine AOps.cons rfl rfl (AOp.move (.sl l.length (l.map eI)) rfl s5 ?_)
        refine AOps.cons rfl rfl (AOp.move (.int .i64 i) rfl s4 ?_)
        refine AOps.cons rfl rfl (AOp.move (.sl l.length (l.map eI)) rfl s5 ?_)
        refine AOps.cons rfl rfl (AOp.len (m := l.length) rfl rfl (.inr (.inl ⟨_, rfl⟩)) u_35 ?_)
        refine AOps.cons rfl rfl (AOp.bin (.int .i64 (i + (l.length : Int))) rfl rfl rfl (iadd (by omega)) ?_)
        refine AOps.cons rfl rfl (AOp.move (.int .i64 b) rfl s7 ?_)
        refine AOps.cons rfl rfl (AOp.bin (.int .i64 (i + (l.length : Int) + b)) rfl rfl rfl (iadd (by omega)) ?_)
        refine AOps.cons rfl rfl (AOp.move (.sl l.length (l.map eI)) rfl s5 ?_)
        refine AOps.cons rfl rfl (AOp.len (m := l.length) rfl rfl (.inr (.inl ⟨_, rfl⟩)) u_35 ?_)
        have r11 := mod_in (x := i + (l.length : Int) + b) (y := (l.length : Int)) (by omega)
        refine AOps.cons rfl rfl (AOp.remP rfl rfl rfl (by omega) (by omega) ?_)
        refine AOps.cons rfl rfl (AOp.indexAddrS rfl rfl rfl sl_35 (by omega) (by omega) ?_)
        refine AOps.cons rfl rfl (AOp.loadF (.int .i64 (at_ l ((i + (l.length : Int) + b) % (l.length : Int)))) rfl rfl ty_3 (ld1 (by omega) (by omega)) ?_)
        refine AOps.cons rfl rfl (AOp.assign (.int .i64 (at_ l ((i + (l.length : Int) + b) % (l.length : Int)))) rfl rfl ?_)
        refine AOps.nil ?_
        change AWP _ _ _ _ _ _
        refine AWP.ret ?_
        refine ⟨_, _, Ghost.refl, .inr rfl, _, Res.one rfl rfl, ?_, m8⟩
        exact (congrArg (AV.int .i64) (show (at_ l ((i + (l.length : Int) + b) % (l.length : Int)) : Int) = nextS l v b from by exact next_hit hi0 (by omega) b10 pre))
      ·
        refine AWP.condF rfl (decide_eq_false b10) ?_
        refine AWP.skip ?_
        change AWP _ _ _ _ _ _
        refine AWP.region (l := [0, 1, 2]) rfl ?_
        refine AOps.cons rfl rfl (AOp.move (.int .i64 i) rfl s4 ?_)
        refine AOps.cons rfl rfl (AOp.bin (.int .i64 (i + 1)) rfl rfl rfl (iadd (by omega)) ?_)
        refine AOps.cons rfl rfl (AOp.assign (.int .i64 (i + 1)) rfl rfl ?_)
        refine AOps.nil ?_
        exact ⟨_, by omega, i + 1, rfl, rfl, s5, s6, s7, m8, by omega, by omega, by exact fa_step pre b10⟩
    ·
      refine AWP.condF rfl (decide_eq_false b9) ?_
      refine AWP.exit ?_
      change AWP _ _ _ _ _ _
      refine AWP.seq ?_
      refine AWP.region (l := [0]) rfl ?_
      refine AOps.cons rfl rfl (AOp.assign (.int .i64 (-1)) rfl rfl ?_)
      refine AOps.nil ?_
      change AWP _ _ _ _ _ _
      refine AWP.ret ?_
      refine ⟨_, _, Ghost.refl, .inr rfl, _, Res.one rfl rfl, ?_, m8⟩
      exact (congrArg (AV.int .i64) (show (-1 : Int) = nextS l v b from by exact next_miss (fun j h1 h2 => pre j h1 (by omega))))

theorem c27 (fs : List (List Int)) (hfs : fs.length ≤ 1048576) (hfss : ∀ l ∈ fs, l.length ≤ 1048576) (a b : Int) : PC Try.prog 27 [.sl fs.length (fs.map eF), .int .i64 a, .int .i64 b] (.int .i64 (alongS fs a b)) := by
  intro H0
  refine ACalls.of_body' (n := 54) rfl rfl rfl rfl ?_
  have m0 := Mono.refl H0
  refine AWP.seq ?_
  refine AWP.region (l := [0]) rfl ?_
  refine AOps.cons rfl rfl (AOp.assign (.int .i64 0) rfl rfl ?_)
  refine AOps.nil ?_
  change AWP _ _ _ _ _ _
  refine AWP.seq ?_
  refine AWP.region (l := [0]) rfl ?_
  refine AOps.cons rfl rfl (AOp.assign (.int .i64 (-1)) rfl rfl ?_)
  refine AOps.nil ?_
  change AWP _ _ _ _ _ _
  refine AWP.seq ?_
  refine AWP.seq ?_
  refine AWP.region (l := [0]) rfl ?_
  refine AOps.cons rfl rfl (AOp.assign (.int .i64 0) rfl rfl ?_)
  refine AOps.nil ?_
  change AWP _ _ _ _ _ _
  refine AWP.block ?_
  refine AWP.loop (fun q1 fq Hq => ∃ (f : Int) (o : Int), q1 = (((fs.length : Int) : Int) - f).toNat ∧ fq 8 = .int .i64 f ∧ fq 7 = .int .i64 o ∧ fq 0 = .sl fs.length (fs.map eF) ∧ fq 1 = .int .i64 a ∧ fq 2 = .int .i64 b ∧ Mono H0 Hq ∧ (0 ≤ f) ∧ (f ≤ (fs.length : Int)) ∧ (o = alongL (psides fs f 0) a b) ∧ (-1 ≤ o)) (k := (((fs.length : Int) : Int) - 0).toNat) ?_ ?_
  ·
    exact ⟨0, -1, rfl, rfl, rfl, rfl, rfl, rfl, m0, by omega, by omega, by exact alongL_nil, by omega⟩
  ·
    rintro _ f3 H2 ⟨f, o, rfl, s4, s5, s6, s7, s8, m9, hf0, hf1, ho, ho1⟩
    refine AWP.seq ?_
    refine AWP.seq ?_
    refine AWP.region (l := [0, 1, 2, 3]) rfl ?_
    refine AOps.cons rfl rfl (AOp.move (.int .i64 f) rfl s4 ?_)
    refine AOps.cons rfl rfl (AOp.move (.sl fs.length (fs.map eF)) rfl s6 ?_)
    refine AOps.cons rfl rfl (AOp.len (m := fs.length) rfl rfl (.inr (.inl ⟨_, rfl⟩)) u_22 ?_)
    refine AOps.cons rfl rfl (AOp.bin (.bool (decide (f < (fs.length : Int)))) rfl rfl rfl rfl ?_)
    refine AOps.nil ?_
    change AWP _ _ _ _ _ _
    by_cases b10 : f < (fs.length : Int)
    ·
      refine AWP.condT rfl (decide_eq_true b10) ?_
      refine AWP.skip ?_
      change AWP _ _ _ _ _ _
      refine AWP.seq ?_
      refine AWP.block ?_
      refine AWP.seq ?_
      have hq : (at_ fs f).length ≤ 1048576 := hfss _ (at_mem (by omega) (by omega))
      refine AWP.region (l := [0, 1, 2, 3, 4, 5]) rfl ?_
      refine AOps.cons rfl rfl (AOp.move (.sl fs.length (fs.map eF)) rfl s6 ?_)
      refine AOps.cons rfl rfl (AOp.move (.int .i64 f) rfl s4 ?_)
      refine AOps.cons rfl rfl (AOp.indexAddrS rfl rfl rfl sl_22 (by omega) (by omega) ?_)
      refine AOps.cons rfl rfl (AOp.loadF (.sl (at_ fs f).length ((at_ fs f).map eI)) rfl rfl ty_35 (ld1 (by omega) (by omega)) ?_)
      refine AOps.cons rfl rfl (AOp.len (m := (at_ fs f).length) rfl rfl (.inr (.inl ⟨_, rfl⟩)) u_35 ?_)
      refine AOps.cons rfl rfl (AOp.assign (.int .i64 (((at_ fs f).length) : Int)) rfl rfl ?_)
      refine AOps.nil ?_
      change AWP _ _ _ _ _ _
      refine AWP.seq ?_
      refine AWP.region (l := [0]) rfl ?_
      refine AOps.cons rfl rfl (AOp.assign (.int .i64 0) rfl rfl ?_)
      refine AOps.nil ?_
      change AWP _ _ _ _ _ _
      refine AWP.block ?_
      refine AWP.loop (fun q11 fq Hq => ∃ (i : Int) (o : Int), q11 = ((((at_ fs f).length : Int) : Int) - i).toNat ∧ fq 10 = .int .i64 i ∧ fq 7 = .int .i64 o ∧ fq 8 = .int .i64 f ∧ fq 0 = .sl fs.length (fs.map eF) ∧ fq 1 = .int .i64 a ∧ fq 2 = .int .i64 b ∧ fq 9 = .int .i64 (((at_ fs f).length) : Int) ∧ Mono H0 Hq ∧ (0 ≤ i) ∧ (i ≤ ((at_ fs f).length : Int)) ∧ (o = alongL (psides fs f i) a b) ∧ (-1 ≤ o)) (k := ((((at_ fs f).length : Int) : Int) - 0).toNat) ?_ ?_
      ·
        exact ⟨0, o, rfl, rfl, s5, s4, s6, s7, s8, rfl, m9, by omega, by omega, by exact ho, by exact ho1⟩
      ·
        rintro _ f13 H12 ⟨i, o, rfl, s14, s15, s16, s17, s18, s19, s20, m21, hi0, hi1, ho, ho1⟩
        refine AWP.seq ?_
        refine AWP.seq ?_
        refine AWP.region (l := [0, 1, 2]) rfl ?_
        refine AOps.cons rfl rfl (AOp.move (.int .i64 i) rfl s14 ?_)
        refine AOps.cons rfl rfl (AOp.move (.int .i64 (((at_ fs f).length) : Int)) rfl s20 ?_)
        refine AOps.cons rfl rfl (AOp.bin (.bool (decide (i < (((at_ fs f).length) : Int)))) rfl rfl rfl rfl ?_)
        refine AOps.nil ?_
        change AWP _ _ _ _ _ _
        by_cases b22 : i < (((at_ fs f).length) : Int)
        ·
          refine AWP.condT rfl (decide_eq_true b22) ?_
          refine AWP.skip ?_
          change AWP _ _ _ _ _ _
          refine AWP.seq ?_
          refine AWP.block ?_
          refine AWP.seq ?_
          refine AWP.region_quiet mixed (by kernel_rfl) 23 [] rfl (by kernel_rfl) (Mono H12) (Mono.refl _) ?_
          refine QE.op rfl rfl (.inl ⟨rfl, fun f' H' hf hM => AOp.move (.sl fs.length (fs.map eF)) rfl ((hf 0 rfl).trans s17) ⟨rfl, hM⟩⟩) ?_
          refine QE.op rfl rfl (.inl ⟨rfl, fun f' H' hf hM => AOp.move (.int .i64 f) rfl ((hf 8 rfl).trans s16) ⟨rfl, hM⟩⟩) ?_
          refine QE.op rfl rfl (.inl ⟨rfl, fun f' H' hf hM => AOp.indexAddrS rfl ((hf 27 rfl).trans rfl) ((hf 28 rfl).trans rfl) sl_22 (by omega) (by omega) ⟨rfl, hM⟩⟩) ?_
          refine QE.op rfl rfl (.inl ⟨rfl, fun f' H' hf hM => AOp.loadF (.sl (at_ fs f).length ((at_ fs f).map eI)) rfl ((hf 29 rfl).trans rfl) ty_35 (ld1 (by omega) (by omega)) ⟨rfl, hM⟩⟩) ?_
          refine QE.op rfl rfl (.inl ⟨rfl, fun f' H' hf hM => AOp.move (.int .i64 i) rfl ((hf 10 rfl).trans s14) ⟨rfl, hM⟩⟩) ?_
          refine QE.op rfl rfl (.inl ⟨rfl, fun f' H' hf hM => AOp.indexAddrS rfl ((hf 30 rfl).trans rfl) ((hf 31 rfl).trans rfl) sl_35 (by omega) (by omega) ⟨rfl, hM⟩⟩) ?_
          refine QE.op rfl rfl (.inl ⟨rfl, fun f' H' hf hM => AOp.loadF (.int .i64 (at_ (at_ fs f) i)) rfl ((hf 32 rfl).trans rfl) ty_3 (ld1 (by omega) (by omega)) ⟨rfl, hM⟩⟩) ?_
          refine QE.op rfl rfl (.inl ⟨rfl, fun f' H' hf hM => AOp.move (.int .i64 a) rfl ((hf 1 rfl).trans s18) ⟨rfl, hM⟩⟩) ?_
          refine QE.op rfl rfl (.inl ⟨rfl, fun f' H' hf hM => AOp.bin (.bool (decide (at_ (at_ fs f) i = a))) rfl ((hf 33 rfl).trans rfl) ((hf 34 rfl).trans rfl) ieq ⟨rfl, hM⟩⟩) ?_
          refine QE.op rfl rfl (.inl ⟨rfl, fun f' H' hf hM => AOp.move (.bool (decide (at_ (at_ fs f) i = a))) rfl ((hf 35 rfl).trans rfl) ⟨rfl, hM⟩⟩) ?_
          by_cases b23 : at_ (at_ fs f) i = a
          ·
            refine QE.op rfl rfl (QOp.yes rfl rfl rfl rfl (decide_eq_true b23) fun f' H' hf hM => AOp.move (.sl fs.length (fs.map eF)) rfl ((hf 0 rfl).trans s17) ⟨rfl, hM⟩) ?_
            refine QE.op rfl rfl (QOp.yes rfl rfl rfl rfl (decide_eq_true b23) fun f' H' hf hM => AOp.move (.int .i64 f) rfl ((hf 8 rfl).trans s16) ⟨rfl, hM⟩) ?_
            refine QE.op rfl rfl (QOp.yes rfl rfl rfl rfl (decide_eq_true b23) fun f' H' hf hM => AOp.indexAddrS rfl ((hf 37 rfl).trans rfl) ((hf 38 rfl).trans rfl) sl_22 (by omega) (by omega) ⟨rfl, hM⟩) ?_
            refine QE.op rfl rfl (QOp.yes rfl rfl rfl rfl (decide_eq_true b23) fun f' H' hf hM => AOp.loadF (.sl (at_ fs f).length ((at_ fs f).map eI)) rfl ((hf 39 rfl).trans rfl) ty_35 (ld1 (by omega) (by omega)) ⟨rfl, hM⟩) ?_
            refine QE.op rfl rfl (QOp.yes rfl rfl rfl rfl (decide_eq_true b23) fun f' H' hf hM => AOp.move (.int .i64 i) rfl ((hf 10 rfl).trans s14) ⟨rfl, hM⟩) ?_
            refine QE.op rfl rfl (QOp.yes rfl rfl rfl rfl (decide_eq_true b23) fun f' H' hf hM => AOp.bin (.int .i64 (i + 1)) rfl ((hf 41 rfl).trans rfl) rfl (iadd (by omega)) ⟨rfl, hM⟩) ?_
            refine QE.op rfl rfl (QOp.yes rfl rfl rfl rfl (decide_eq_true b23) fun f' H' hf hM => AOp.move (.int .i64 (((at_ fs f).length) : Int)) rfl ((hf 9 rfl).trans s20) ⟨rfl, hM⟩) ?_
            have r24 := mod_in (x := i + 1) (y := (((at_ fs f).length) : Int)) (by omega)
            refine QE.op rfl rfl (QOp.yes rfl rfl rfl rfl (decide_eq_true b23) fun f' H' hf hM => AOp.remP rfl ((hf 42 rfl).trans rfl) ((hf 43 rfl).trans rfl) (by omega) (by omega) ⟨rfl, hM⟩) ?_
            refine QE.op rfl rfl (QOp.yes rfl rfl rfl rfl (decide_eq_true b23) fun f' H' hf hM => AOp.indexAddrS rfl ((hf 40 rfl).trans rfl) ((hf 44 rfl).trans rfl) sl_35 (by omega) (by omega) ⟨rfl, hM⟩) ?_
            refine QE.op rfl rfl (QOp.yes rfl rfl rfl rfl (decide_eq_true b23) fun f' H' hf hM => AOp.loadF (.int .i64 (at_ (at_ fs f) ((i + 1) % (((at_ fs f).length) : Int)))) rfl ((hf 45 rfl).trans rfl) ty_3 (ld1 (by omega) (by omega)) ⟨rfl, hM⟩) ?_
            refine QE.op rfl rfl (QOp.yes rfl rfl rfl rfl (decide_eq_true b23) fun f' H' hf hM => AOp.move (.int .i64 b) rfl ((hf 2 rfl).trans s19) ⟨rfl, hM⟩) ?_
            refine QE.op rfl rfl (QOp.yes rfl rfl rfl rfl (decide_eq_true b23) fun f' H' hf hM => AOp.bin (.bool (decide (at_ (at_ fs f) ((i + 1) % (((at_ fs f).length) : Int)) = b))) rfl ((hf 46 rfl).trans rfl) ((hf 47 rfl).trans rfl) ieq ⟨rfl, hM⟩) ?_
            refine QE.op rfl rfl (.inl ⟨rfl, fun f' H' hf hM => AOp.pickT (.bool (decide (at_ (at_ fs f) ((i + 1) % (((at_ fs f).length) : Int)) = b))) rfl ((hf 36 rfl).trans rfl) (decide_eq_true b23) ((hf 48 rfl).trans rfl) ⟨rfl, hM⟩⟩) ?_
            refine QE.done fun H25 m26 => ?_
            have m27 := m21.trans m26
            refine AOps.nil ?_
            change AWP _ _ _ _ _ _
            by_cases b28 : at_ (at_ fs f) ((i + 1) % (((at_ fs f).length) : Int)) = b
            ·
              refine AWP.condT rfl (decide_eq_true b28) ?_
              refine AWP.seq ?_
              refine AWP.seq ?_
              refine AWP.region (l := [0, 1]) rfl ?_
              refine AOps.cons rfl rfl (AOp.move (.int .i64 o) rfl s15 ?_)
              refine AOps.cons rfl rfl (AOp.bin (.bool (!decide (o = -1))) rfl rfl rfl ine ?_)
              refine AOps.nil ?_
              change AWP _ _ _ _ _ _
              by_cases b29 : o = -1
              ·
                refine AWP.condF rfl (nb (decide_eq_true b29)) ?_
                refine AWP.skip ?_
                change AWP _ _ _ _ _ _
                refine AWP.region (l := [0, 1]) rfl ?_
                refine AOps.cons rfl rfl (AOp.move (.int .i64 f) rfl s16 ?_)
                refine AOps.cons rfl rfl (AOp.assign (.int .i64 f) rfl rfl ?_)
                refine AOps.nil ?_
                change AWP _ _ _ _ _ _
                refine AWP.region (l := [0, 1, 2]) rfl ?_
                refine AOps.cons rfl rfl (AOp.move (.int .i64 i) rfl s14 ?_)
                refine AOps.cons rfl rfl (AOp.bin (.int .i64 (i + 1)) rfl rfl rfl (iadd (by omega)) ?_)
                refine AOps.cons rfl rfl (AOp.assign (.int .i64 (i + 1)) rfl rfl ?_)
                refine AOps.nil ?_
                exact ⟨_, by omega, i + 1, f, rfl, rfl, rfl, s16, s17, s18, s19, s20, m27, by omega, by omega, by rw [psides_step hi0 (by omega), alongL_yes (by rw [b23, b28]) (by omega)]; omega, by omega⟩
              ·
                refine AWP.condT rfl (nb (decide_eq_false b29)) ?_
                refine AWP.seq ?_
                refine AWP.region (l := [0]) rfl ?_
                refine AOps.cons rfl rfl (AOp.assign (.int .i64 (-2)) rfl rfl ?_)
                refine AOps.nil ?_
                change AWP _ _ _ _ _ _
                refine AWP.ret ?_
                refine ⟨_, _, Ghost.refl, .inr rfl, _, Res.one rfl rfl, ?_, m27⟩
                exact (congrArg (AV.int .i64) (show (-2 : Int) = alongS fs a b from by exact along_two (i := i + 1) hf0 (by omega) (by rw [psides_step hi0 (by omega), alongL_two (by rw [b23, b28]) (by omega)])))
            ·
              refine AWP.condF rfl (decide_eq_false b28) ?_
              refine AWP.skip ?_
              change AWP _ _ _ _ _ _
              refine AWP.region (l := [0, 1, 2]) rfl ?_
              refine AOps.cons rfl rfl (AOp.move (.int .i64 i) rfl s14 ?_)
              refine AOps.cons rfl rfl (AOp.bin (.int .i64 (i + 1)) rfl rfl rfl (iadd (by omega)) ?_)
              refine AOps.cons rfl rfl (AOp.assign (.int .i64 (i + 1)) rfl rfl ?_)
              refine AOps.nil ?_
              exact ⟨_, by omega, i + 1, o, rfl, rfl, s15, s16, s17, s18, s19, s20, m27, by omega, by omega, by rw [psides_step hi0 (by omega), alongL_no (fun e => b28 (congrArg Prod.snd e))]; exact ho, by omega⟩
          ·
            refine QE.op rfl rfl (QOp.no rfl rfl rfl rfl (ble_of (decide_eq_false b23) (by decide)) rfl) ?_
            refine QE.op rfl rfl (QOp.no rfl rfl rfl rfl (ble_of (decide_eq_false b23) (by decide)) rfl) ?_
            refine QE.op rfl rfl (QOp.no rfl rfl rfl rfl (ble_of (decide_eq_false b23) (by decide)) rfl) ?_
            refine QE.op rfl rfl (QOp.no rfl rfl rfl rfl (ble_of (decide_eq_false b23) (by decide)) rfl) ?_
            refine QE.op rfl rfl (QOp.no rfl rfl rfl rfl (ble_of (decide_eq_false b23) (by decide)) rfl) ?_
            refine QE.op rfl rfl (QOp.no rfl rfl rfl rfl (ble_of (decide_eq_false b23) (by decide)) rfl) ?_
            refine QE.op rfl rfl (QOp.no rfl rfl rfl rfl (ble_of (decide_eq_false b23) (by decide)) rfl) ?_
            refine QE.op rfl rfl (QOp.no rfl rfl rfl rfl (ble_of (decide_eq_false b23) (by decide)) rfl) ?_
            refine QE.op rfl rfl (QOp.no rfl rfl rfl rfl (ble_of (decide_eq_false b23) (by decide)) rfl) ?_
            refine QE.op rfl rfl (QOp.no rfl rfl rfl rfl (ble_of (decide_eq_false b23) (by decide)) rfl) ?_
            refine QE.op rfl rfl (QOp.no rfl rfl rfl rfl (ble_of (decide_eq_false b23) (by decide)) rfl) ?_
            refine QE.op rfl rfl (QOp.no rfl rfl rfl rfl (ble_of (decide_eq_false b23) (by decide)) rfl) ?_
            refine QE.op rfl rfl (.inl ⟨rfl, fun f' H' hf hM => AOp.pickF (.bool false) rfl ((hf 36 rfl).trans rfl) (decide_eq_false b23) rfl ⟨rfl, hM⟩⟩) ?_
            refine QE.done fun H30 m31 => ?_
            have m32 := m21.trans m31
            refine AOps.nil ?_
            change AWP _ _ _ _ _ _
            refine AWP.condF rfl rfl ?_
            refine AWP.skip ?_
            change AWP _ _ _ _ _ _
            refine AWP.region (l := [0, 1, 2]) rfl ?_
            refine AOps.cons rfl rfl (AOp.move (.int .i64 i) rfl s14 ?_)
            refine AOps.cons rfl rfl (AOp.bin (.int .i64 (i + 1)) rfl rfl rfl (iadd (by omega)) ?_)
            refine AOps.cons rfl rfl (AOp.assign (.int .i64 (i + 1)) rfl rfl ?_)
            refine AOps.nil ?_
            exact ⟨_, by omega, i + 1, o, rfl, rfl, s15, s16, s17, s18, s19, s20, m32, by omega, by omega, by rw [psides_step hi0 (by omega), alongL_no (fun e => b23 (congrArg Prod.fst e))]; exact ho, by omega⟩
        ·
          refine AWP.condF rfl (decide_eq_false b22) ?_
          refine AWP.exit ?_
          change AWP _ _ _ _ _ _
          refine AWP.region (l := [0, 1, 2]) rfl ?_
          refine AOps.cons rfl rfl (AOp.move (.int .i64 f) rfl s16 ?_)
          refine AOps.cons rfl rfl (AOp.bin (.int .i64 (f + 1)) rfl rfl rfl (iadd (by omega)) ?_)
          refine AOps.cons rfl rfl (AOp.assign (.int .i64 (f + 1)) rfl rfl ?_)
          refine AOps.nil ?_
          exact ⟨_, by omega, f + 1, o, rfl, rfl, s15, s17, s18, s19, m21, by omega, by omega, by rw [psides_0, ← psides_end (i := i) hf0 (by omega) (by omega)]; exact ho, by exact ho1⟩
    ·
      refine AWP.condF rfl (decide_eq_false b10) ?_
      refine AWP.exit ?_
      change AWP _ _ _ _ _ _
      refine AWP.seq ?_
      refine AWP.region (l := [0, 1]) rfl ?_
      refine AOps.cons rfl rfl (AOp.move (.int .i64 o) rfl s5 ?_)
      refine AOps.cons rfl rfl (AOp.assign (.int .i64 o) rfl rfl ?_)
      refine AOps.nil ?_
      change AWP _ _ _ _ _ _
      refine AWP.ret ?_
      refine ⟨_, _, Ghost.refl, .inr rfl, _, Res.one rfl rfl, ?_, m9⟩
      exact (congrArg (AV.int .i64) (show (o : Int) = alongS fs a b from by rw [ho]; exact along_all (by omega)))

theorem c17 (t : Tp) (ht : t.rnd.length ≤ 1048576) : PC Try.prog 17 [.agg [.sl t.ed.length (t.ed.flatMap eE), .sl t.fan.length (t.fan.map eF), .sl t.rnd.length (t.rnd.map eBo)]] (.sl (roundsS t.rnd t.rnd.length).length ((roundsS t.rnd t.rnd.length).map eI)) := by
  intro H0
  refine ACalls.of_body' (n := 23) rfl rfl rfl rfl ?_
  have m0 := Mono.refl H0
  refine AWP.seq ?_
  refine AWP.region (l := [0, 1]) rfl ?_
  refine AOps.cons rfl rfl (AOp.box (.agg [.sl t.ed.length (t.ed.flatMap eE), .sl t.fan.length (t.fan.map eF), .sl t.rnd.length (t.rnd.map eBo)]) rfl rfl rfl ?_)
  intro i1 H2 n3 h4 k5
  have z6 := Mono.free m0 n3
  have m7 := Mono.new m0 n3 k5
  refine AOps.cons rfl rfl (AOp.assign (.snil) rfl rfl ?_)
  refine AOps.nil ?_
  change AWP _ _ _ _ _ _
  refine AWP.seq ?_
  refine AWP.region (l := [0, 1]) rfl ?_
  refine AOps.cons rfl rfl (AOp.buildSlice (cells := []) rfl u_35 ts_3 tz_3 rfl rfl rfl ?_)
  intro i8 H9 n10 h11 k12
  have e13 := ne_new h4 n10
  have z14 := Mono.free m7 n10
  have h15 := keep k12 (ne_new h4 n10) h4
  have m16 := Mono.new m7 n10 k12
  obtain ⟨v17, e18⟩ : ∃ v : AV, v = .slm i8 0 1 0 0 := ⟨_, rfl⟩
  have o19 : Own H0 H9 1 v17 0 [] := .inr ⟨_, _, e18, h11, z14, rfl⟩
  have no20 : NotId v17 i1 := by rw [e18]; exact NotId.slm e13
  refine AOps.cons rfl rfl (AOp.assign (v17) rfl e18.symm ?_)
  refine AOps.nil ?_
  change AWP _ _ _ _ _ _
  refine AWP.seq ?_
  refine AWP.seq ?_
  refine AWP.region (l := [0]) rfl ?_
  refine AOps.cons rfl rfl (AOp.assign (.int .i64 0) rfl rfl ?_)
  refine AOps.nil ?_
  change AWP _ _ _ _ _ _
  refine AWP.block ?_
  refine AWP.loop (fun q21 fq Hq => ∃ (i : Int) (w3 : AV), q21 = (((t.rnd.length : Int) : Int) - i).toNat ∧ fq 4 = .int .i64 i ∧ fq 1 = .ptr i1 0 0 ∧ fq 2 = .snil ∧ fq 3 = w3 ∧ Own H0 Hq 1 w3 (roundsS t.rnd i).length ((roundsS t.rnd i).map eI) ∧ NotId w3 i1 ∧ Hq i1 = some (.row 0 ([.sl t.ed.length (t.ed.flatMap eE), .sl t.fan.length (t.fan.map eF), .sl t.rnd.length (t.rnd.map eBo)])) ∧ Mono H0 Hq ∧ (0 ≤ i) ∧ (i ≤ (t.rnd.length : Int)) ∧ ((roundsS t.rnd i).length ≤ i)) (k := (((t.rnd.length : Int) : Int) - 0).toNat) ?_ ?_
  ·
    exact ⟨0, v17, rfl, rfl, rfl, rfl, rfl, (have hx : ([] : List Int) = roundsS t.rnd 0 := (by first | rfl | simp); Own.re o19 (congrArg List.length hx) (congrArg (fun l : List Int => l.map eI) hx)), no20, h15, m16, by omega, by omega, by simp [roundsS]⟩
  ·
    rintro _ f23 H22 ⟨i, w3, rfl, s24, s25, s26, s27, o28, no29, h30, m31, hi0, hi1, hlr⟩
    refine AWP.seq ?_
    refine AWP.seq ?_
    refine AWP.region (l := [0, 1, 2, 3, 4]) rfl ?_
    refine AOps.cons rfl rfl (AOp.move (.int .i64 i) rfl s24 ?_)
    refine AOps.cons rfl rfl (AOp.fieldAddr rfl s25 fl_29_2 ?_ (hid := ⟨_, h30⟩))
    refine AOps.cons rfl rfl (AOp.load (.sl t.rnd.length (t.rnd.map eBo)) rfl rfl ty_27 h30 rfl ?_)
    refine AOps.cons rfl rfl (AOp.len (m := t.rnd.length) rfl rfl (.inr (.inl ⟨_, rfl⟩)) u_27 ?_)
    refine AOps.cons rfl rfl (AOp.bin (.bool (decide (i < (t.rnd.length : Int)))) rfl rfl rfl rfl ?_)
    refine AOps.nil ?_
    change AWP _ _ _ _ _ _
    by_cases b32 : i < (t.rnd.length : Int)
    ·
      refine AWP.condT rfl (decide_eq_true b32) ?_
      refine AWP.skip ?_
      change AWP _ _ _ _ _ _
      refine AWP.seq ?_
      refine AWP.block ?_
      refine AWP.seq ?_
      refine AWP.region (l := [0, 1, 2, 3, 4]) rfl ?_
      refine AOps.cons rfl rfl (AOp.fieldAddr rfl s25 fl_29_2 ?_ (hid := ⟨_, h30⟩))
      refine AOps.cons rfl rfl (AOp.load (.sl t.rnd.length (t.rnd.map eBo)) rfl rfl ty_27 h30 rfl ?_)
      refine AOps.cons rfl rfl (AOp.move (.int .i64 i) rfl s24 ?_)
      refine AOps.cons rfl rfl (AOp.indexAddrS rfl rfl rfl sl_27 (by omega) (by omega) ?_)
      refine AOps.cons rfl rfl (AOp.loadF (.bool (at_ t.rnd i)) rfl rfl ty_4 (ld1 (by omega) (by omega)) ?_)
      refine AOps.nil ?_
      change AWP _ _ _ _ _ _
      rcases Bool.eq_false_or_eq_true (at_ t.rnd i) with b33 | b33
      ·
        refine AWP.condT rfl b33 ?_
        refine AWP.region (l := [0, 1, 2, 3, 4]) rfl ?_
        refine AOps.cons rfl rfl (AOp.move (w3) rfl s27 ?_)
        refine AOps.cons rfl rfl (AOp.move (.int .i64 i) rfl s24 ?_)
        refine AOps.cons rfl rfl (AOp.buildSlice (cells := [.int .i64 i]) rfl u_35 ts_3 tz_3 rfl rfl rfl ?_)
        intro i34 H35 n36 h37 k38
        have e39 := ne_new h30 n36
        have z40 := Mono.free m31 n36
        have h41 := keep k38 (ne_new h30 n36) h30
        have o42 := Own.keep o28 k38 (Own.notnew o28 n36)
        have no43 := Own.notnew o28 n36
        have m44 := Mono.new m31 n36 k38
        refine AOps.cons rfl rfl (AOp.append_own (es := 1) (m := 1) (len := ((roundsS t.rnd i).length)) (old := (roundsS t.rnd i).map eI) (cells := [.int .i64 i]) rfl u_35 ts_3 tzn_3 tb_3 (by decide) ni_35 rfl o42 m44 rfl (.slm h37 rfl) (one_of rfl) (by decide) (by first | omega | (simp; omega)) ?_)
        intro v45 H46 o47 m48 k49 j50
        have o51 := Own.snoc1 (xs := ((roundsS t.rnd i) : List Int)) (y := i) (e := eI) (by simp) o47
        have h52 := (k49 _ no29 (by rw [h41]; simp)).trans h41
        have no53 := j50 _ no29 (by rw [h41]; simp)
        refine AOps.cons rfl rfl (AOp.assign (v45) rfl rfl ?_)
        refine AOps.nil ?_
        change AWP _ _ _ _ _ _
        refine AWP.region (l := [0, 1, 2]) rfl ?_
        refine AOps.cons rfl rfl (AOp.move (.int .i64 i) rfl s24 ?_)
        refine AOps.cons rfl rfl (AOp.bin (.int .i64 (i + 1)) rfl rfl rfl (iadd (by omega)) ?_)
        refine AOps.cons rfl rfl (AOp.assign (.int .i64 (i + 1)) rfl rfl ?_)
        refine AOps.nil ?_
        exact ⟨_, by omega, i + 1, v45, rfl, rfl, s25, s26, rfl, (have hx : (((roundsS t.rnd i) ++ [i]) : List Int) = roundsS t.rnd (i + 1) := (by rw [rounds_T hi0 b33]); Own.re o51 (congrArg List.length hx) (congrArg (fun l : List Int => l.map eI) hx)), no53, h52, m48, by omega, by omega, by rw [rounds_T hi0 b33]; simp; omega⟩
      ·
        refine AWP.condF rfl b33 ?_
        refine AWP.skip ?_
        change AWP _ _ _ _ _ _
        refine AWP.region (l := [0, 1, 2]) rfl ?_
        refine AOps.cons rfl rfl (AOp.move (.int .i64 i) rfl s24 ?_)
        refine AOps.cons rfl rfl (AOp.bin (.int .i64 (i + 1)) rfl rfl rfl (iadd (by omega)) ?_)
        refine AOps.cons rfl rfl (AOp.assign (.int .i64 (i + 1)) rfl rfl ?_)
        refine AOps.nil ?_
        exact ⟨_, by omega, i + 1, w3, rfl, rfl, s25, s26, s27, (have hx : ((roundsS t.rnd i) : List Int) = roundsS t.rnd (i + 1) := (by rw [rounds_F hi0 b33]); Own.re o28 (congrArg List.length hx) (congrArg (fun l : List Int => l.map eI) hx)), no29, h30, m31, by omega, by omega, by rw [rounds_F hi0 b33]; omega⟩
    ·
      refine AWP.condF rfl (decide_eq_false b32) ?_
      refine AWP.exit ?_
      change AWP _ _ _ _ _ _
      refine AWP.seq ?_
      refine AWP.region (l := [0, 1]) rfl ?_
      refine AOps.cons rfl rfl (AOp.move (w3) rfl s27 ?_)
      refine AOps.cons rfl rfl (AOp.assign (w3) rfl rfl ?_)
      refine AOps.nil ?_
      change AWP _ _ _ _ _ _
      refine AWP.ret ?_
      refine Fin.frz 2 o28 rfl m31 fun H54 m55 k56 => ?_
      have h57 := (k56 _ no29).trans h30
      refine ⟨_, _, Ghost.refl, .inr rfl, _, Res.one rfl rfl, ?_, m55⟩
      exact (congrArg (fun l : List Int => AV.sl l.length (l.map eI)) (show ((roundsS t.rnd i) : List Int) = roundsS t.rnd t.rnd.length from by congr 1; omega))

theorem c18 (t : Tp) (e : Int) (ht : t.ed.length ≤ 1048576) : PC Try.prog 18 [.agg [.sl t.ed.length (t.ed.flatMap eE), .sl t.fan.length (t.fan.map eF), .sl t.rnd.length (t.rnd.map eBo)], .int .i64 e] (.bool (edgedS t e)) := by
  intro H0
  refine ACalls.of_body' (n := 30) rfl rfl rfl rfl ?_
  have m0 := Mono.refl H0
  refine AWP.seq ?_
  refine AWP.region (l := [0, 1]) rfl ?_
  refine AOps.cons rfl rfl (AOp.box (.agg [.sl t.ed.length (t.ed.flatMap eE), .sl t.fan.length (t.fan.map eF), .sl t.rnd.length (t.rnd.map eBo)]) rfl rfl rfl ?_)
  intro i1 H2 n3 h4 k5
  have z6 := Mono.free m0 n3
  have m7 := Mono.new m0 n3 k5
  refine AOps.cons rfl rfl (AOp.assign (.bool false) rfl rfl ?_)
  refine AOps.nil ?_
  change AWP _ _ _ _ _ _
  refine AWP.seq ?_
  refine AWP.region_quiet mixed (by kernel_rfl) 26 [] rfl (by kernel_rfl) (Mono H2) (Mono.refl _) ?_
  refine QE.op rfl rfl (.inl ⟨rfl, fun f' H' hf hM => AOp.move (.int .i64 e) rfl ((hf 1 rfl).trans rfl) ⟨rfl, hM⟩⟩) ?_
  refine QE.op rfl rfl (.inl ⟨rfl, fun f' H' hf hM => AOp.bin (.bool (decide (e ≥ 0))) rfl ((hf 5 rfl).trans rfl) rfl rfl ⟨rfl, hM⟩⟩) ?_
  refine QE.op rfl rfl (.inl ⟨rfl, fun f' H' hf hM => AOp.move (.bool (decide (e ≥ 0))) rfl ((hf 6 rfl).trans rfl) ⟨rfl, hM⟩⟩) ?_
  by_cases b8 : e ≥ 0
  ·
    refine QE.op rfl rfl (QOp.yes rfl rfl rfl rfl (decide_eq_true b8) fun f' H' hf hM => AOp.move (.int .i64 e) rfl ((hf 1 rfl).trans rfl) ⟨rfl, hM⟩) ?_
    refine QE.op rfl rfl (QOp.yes rfl rfl rfl rfl (decide_eq_true b8) fun f' H' hf hM => AOp.fieldAddr rfl ((hf 2 rfl).trans rfl) fl_29_0 ⟨rfl, hM⟩ (hid := ⟨_, (hM _ _ h4)⟩)) ?_
    refine QE.op rfl rfl (QOp.yes rfl rfl rfl rfl (decide_eq_true b8) fun f' H' hf hM => AOp.load (.sl t.ed.length (t.ed.flatMap eE)) rfl ((hf 9 rfl).trans rfl) ty_26 (hM _ _ h4) rfl ⟨rfl, hM⟩) ?_
    refine QE.op rfl rfl (QOp.yes rfl rfl rfl rfl (decide_eq_true b8) fun f' H' hf hM => AOp.len (m := t.ed.length) rfl ((hf 10 rfl).trans rfl) (.inr (.inl ⟨_, rfl⟩)) u_26 ⟨rfl, hM⟩) ?_
    refine QE.op rfl rfl (QOp.yes rfl rfl rfl rfl (decide_eq_true b8) fun f' H' hf hM => AOp.bin (.bool (decide (e < (t.ed.length : Int)))) rfl ((hf 8 rfl).trans rfl) ((hf 11 rfl).trans rfl) rfl ⟨rfl, hM⟩) ?_
    refine QE.op rfl rfl (.inl ⟨rfl, fun f' H' hf hM => AOp.pickT (.bool (decide (e < (t.ed.length : Int)))) rfl ((hf 7 rfl).trans rfl) (decide_eq_true b8) ((hf 12 rfl).trans rfl) ⟨rfl, hM⟩⟩) ?_
    refine QE.op rfl rfl (.inl ⟨rfl, fun f' H' hf hM => AOp.move (.bool (decide (e < (t.ed.length : Int)))) rfl ((hf 13 rfl).trans rfl) ⟨rfl, hM⟩⟩) ?_
    by_cases b9 : e < (t.ed.length : Int)
    ·
      refine QE.op rfl rfl (QOp.yes rfl rfl rfl rfl (decide_eq_true b9) fun f' H' hf hM => AOp.fieldAddr rfl ((hf 2 rfl).trans rfl) fl_29_0 ⟨rfl, hM⟩ (hid := ⟨_, (hM _ _ h4)⟩)) ?_
      refine QE.op rfl rfl (QOp.yes rfl rfl rfl rfl (decide_eq_true b9) fun f' H' hf hM => AOp.load (.sl t.ed.length (t.ed.flatMap eE)) rfl ((hf 15 rfl).trans rfl) ty_26 (hM _ _ h4) rfl ⟨rfl, hM⟩) ?_
      refine QE.op rfl rfl (QOp.yes rfl rfl rfl rfl (decide_eq_true b9) fun f' H' hf hM => AOp.move (.int .i64 e) rfl ((hf 1 rfl).trans rfl) ⟨rfl, hM⟩) ?_
      refine QE.op rfl rfl (QOp.yes rfl rfl rfl rfl (decide_eq_true b9) fun f' H' hf hM => AOp.indexAddrS rfl ((hf 16 rfl).trans rfl) ((hf 17 rfl).trans rfl) sl_26 (by omega) (by omega) ⟨rfl, hM⟩) ?_
      refine QE.op rfl rfl (QOp.yes rfl rfl rfl rfl (decide_eq_true b9) fun f' H' hf hM => AOp.fieldAddrF rfl ((hf 18 rfl).trans rfl) fl_37_2 ⟨rfl, hM⟩) ?_
      refine QE.op rfl rfl (QOp.yes rfl rfl rfl rfl (decide_eq_true b9) fun f' H' hf hM => AOp.loadF (.int .i64 ((at_ t.ed e).F)) rfl ((hf 19 rfl).trans rfl) ty_3 (ldF eE_len (by omega) (by omega) rfl (by decide)) ⟨rfl, hM⟩) ?_
      refine QE.op rfl rfl (QOp.yes rfl rfl rfl rfl (decide_eq_true b9) fun f' H' hf hM => AOp.fieldAddr rfl ((hf 2 rfl).trans rfl) fl_29_0 ⟨rfl, hM⟩ (hid := ⟨_, (hM _ _ h4)⟩)) ?_
      refine QE.op rfl rfl (QOp.yes rfl rfl rfl rfl (decide_eq_true b9) fun f' H' hf hM => AOp.load (.sl t.ed.length (t.ed.flatMap eE)) rfl ((hf 21 rfl).trans rfl) ty_26 (hM _ _ h4) rfl ⟨rfl, hM⟩) ?_
      refine QE.op rfl rfl (QOp.yes rfl rfl rfl rfl (decide_eq_true b9) fun f' H' hf hM => AOp.move (.int .i64 e) rfl ((hf 1 rfl).trans rfl) ⟨rfl, hM⟩) ?_
      refine QE.op rfl rfl (QOp.yes rfl rfl rfl rfl (decide_eq_true b9) fun f' H' hf hM => AOp.indexAddrS rfl ((hf 22 rfl).trans rfl) ((hf 23 rfl).trans rfl) sl_26 (by omega) (by omega) ⟨rfl, hM⟩) ?_
      refine QE.op rfl rfl (QOp.yes rfl rfl rfl rfl (decide_eq_true b9) fun f' H' hf hM => AOp.fieldAddrF rfl ((hf 24 rfl).trans rfl) fl_37_3 ⟨rfl, hM⟩) ?_
      refine QE.op rfl rfl (QOp.yes rfl rfl rfl rfl (decide_eq_true b9) fun f' H' hf hM => AOp.loadF (.int .i64 ((at_ t.ed e).G)) rfl ((hf 25 rfl).trans rfl) ty_3 (ldF eE_len (by omega) (by omega) rfl (by decide)) ⟨rfl, hM⟩) ?_
      refine QE.op rfl rfl (QOp.yes rfl rfl rfl rfl (decide_eq_true b9) fun f' H' hf hM => AOp.min2 rfl ((hf 20 rfl).trans rfl) ((hf 26 rfl).trans rfl) ⟨rfl, hM⟩) ?_
      refine QE.op rfl rfl (QOp.yes rfl rfl rfl rfl (decide_eq_true b9) fun f' H' hf hM => AOp.bin (.bool (decide (min ((at_ t.ed e).F) ((at_ t.ed e).G) < 0))) rfl ((hf 27 rfl).trans rfl) rfl rfl ⟨rfl, hM⟩) ?_
      refine QE.op rfl rfl (.inl ⟨rfl, fun f' H' hf hM => AOp.pickT (.bool (decide (min ((at_ t.ed e).F) ((at_ t.ed e).G) < 0))) rfl ((hf 14 rfl).trans rfl) (decide_eq_true b9) ((hf 28 rfl).trans rfl) ⟨rfl, hM⟩⟩) ?_
      refine QE.op rfl rfl (.inl ⟨rfl, fun f' H' hf hM => AOp.assign (.bool (decide (min ((at_ t.ed e).F) ((at_ t.ed e).G) < 0))) rfl ((hf 29 rfl).trans rfl) ⟨rfl, hM⟩⟩) ?_
      refine QE.done fun H10 m11 => ?_
      have h12 := m11 _ _ h4
      have m13 := m7.trans m11
      refine AOps.nil ?_
      change AWP _ _ _ _ _ _
      refine AWP.ret ?_
      refine ⟨_, _, Ghost.refl, .inr rfl, _, Res.one rfl rfl, ?_, m13⟩
      exact (congrArg AV.bool (show (decide (min ((at_ t.ed e).F) ((at_ t.ed e).G) < 0) : Bool) = edgedS t e from by unfold edgedS; first | exact decide_eq_decide.2 (by omega) | exact (decide_eq_false (by omega)).symm))
    ·
      refine QE.op rfl rfl (QOp.no rfl rfl rfl rfl (ble_of (decide_eq_false b9) (by decide)) rfl) ?_
      refine QE.op rfl rfl (QOp.no rfl rfl rfl rfl (ble_of (decide_eq_false b9) (by decide)) rfl) ?_
      refine QE.op rfl rfl (QOp.no rfl rfl rfl rfl (ble_of (decide_eq_false b9) (by decide)) rfl) ?_
      refine QE.op rfl rfl (QOp.no rfl rfl rfl rfl (ble_of (decide_eq_false b9) (by decide)) rfl) ?_
      refine QE.op rfl rfl (QOp.no rfl rfl rfl rfl (ble_of (decide_eq_false b9) (by decide)) rfl) ?_
      refine QE.op rfl rfl (QOp.no rfl rfl rfl rfl (ble_of (decide_eq_false b9) (by decide)) rfl) ?_
      refine QE.op rfl rfl (QOp.no rfl rfl rfl rfl (ble_of (decide_eq_false b9) (by decide)) rfl) ?_
      refine QE.op rfl rfl (QOp.no rfl rfl rfl rfl (ble_of (decide_eq_false b9) (by decide)) rfl) ?_
      refine QE.op rfl rfl (QOp.no rfl rfl rfl rfl (ble_of (decide_eq_false b9) (by decide)) rfl) ?_
      refine QE.op rfl rfl (QOp.no rfl rfl rfl rfl (ble_of (decide_eq_false b9) (by decide)) rfl) ?_
      refine QE.op rfl rfl (QOp.no rfl rfl rfl rfl (ble_of (decide_eq_false b9) (by decide)) rfl) ?_
      refine QE.op rfl rfl (QOp.no rfl rfl rfl rfl (ble_of (decide_eq_false b9) (by decide)) rfl) ?_
      refine QE.op rfl rfl (QOp.no rfl rfl rfl rfl (ble_of (decide_eq_false b9) (by decide)) rfl) ?_
      refine QE.op rfl rfl (QOp.no rfl rfl rfl rfl (ble_of (decide_eq_false b9) (by decide)) rfl) ?_
      refine QE.op rfl rfl (.inl ⟨rfl, fun f' H' hf hM => AOp.pickF (.bool false) rfl ((hf 14 rfl).trans rfl) (decide_eq_false b9) rfl ⟨rfl, hM⟩⟩) ?_
      refine QE.op rfl rfl (.inl ⟨rfl, fun f' H' hf hM => AOp.assign (.bool false) rfl ((hf 29 rfl).trans rfl) ⟨rfl, hM⟩⟩) ?_
      refine QE.done fun H14 m15 => ?_
      have h16 := m15 _ _ h4
      have m17 := m7.trans m15
      refine AOps.nil ?_
      change AWP _ _ _ _ _ _
      refine AWP.ret ?_
      refine ⟨_, _, Ghost.refl, .inr rfl, _, Res.one rfl rfl, ?_, m17⟩
      exact (congrArg AV.bool (show (false : Bool) = edgedS t e from by unfold edgedS; first | exact decide_eq_decide.2 (by omega) | exact (decide_eq_false (by omega)).symm))
  ·
    refine QE.op rfl rfl (QOp.no rfl rfl rfl rfl (ble_of (decide_eq_false b8) (by decide)) rfl) ?_
    refine QE.op rfl rfl (QOp.no rfl rfl rfl rfl (ble_of (decide_eq_false b8) (by decide)) rfl) ?_
    refine QE.op rfl rfl (QOp.no rfl rfl rfl rfl (ble_of (decide_eq_false b8) (by decide)) rfl) ?_
    refine QE.op rfl rfl (QOp.no rfl rfl rfl rfl (ble_of (decide_eq_false b8) (by decide)) rfl) ?_
    refine QE.op rfl rfl (QOp.no rfl rfl rfl rfl (ble_of (decide_eq_false b8) (by decide)) rfl) ?_
    refine QE.op rfl rfl (.inl ⟨rfl, fun f' H' hf hM => AOp.pickF (.bool false) rfl ((hf 7 rfl).trans rfl) (decide_eq_false b8) rfl ⟨rfl, hM⟩⟩) ?_
    refine QE.op rfl rfl (.inl ⟨rfl, fun f' H' hf hM => AOp.move (.bool false) rfl ((hf 13 rfl).trans rfl) ⟨rfl, hM⟩⟩) ?_
    refine QE.op rfl rfl (QOp.no rfl rfl rfl rfl (ble_of rfl (by decide)) rfl) ?_
    refine QE.op rfl rfl (QOp.no rfl rfl rfl rfl (ble_of rfl (by decide)) rfl) ?_
    refine QE.op rfl rfl (QOp.no rfl rfl rfl rfl (ble_of rfl (by decide)) rfl) ?_
    refine QE.op rfl rfl (QOp.no rfl rfl rfl rfl (ble_of rfl (by decide)) rfl) ?_
    refine QE.op rfl rfl (QOp.no rfl rfl rfl rfl (ble_of rfl (by decide)) rfl) ?_
    refine QE.op rfl rfl (QOp.no rfl rfl rfl rfl (ble_of rfl (by decide)) rfl) ?_
    refine QE.op rfl rfl (QOp.no rfl rfl rfl rfl (ble_of rfl (by decide)) rfl) ?_
    refine QE.op rfl rfl (QOp.no rfl rfl rfl rfl (ble_of rfl (by decide)) rfl) ?_
    refine QE.op rfl rfl (QOp.no rfl rfl rfl rfl (ble_of rfl (by decide)) rfl) ?_
    refine QE.op rfl rfl (QOp.no rfl rfl rfl rfl (ble_of rfl (by decide)) rfl) ?_
    refine QE.op rfl rfl (QOp.no rfl rfl rfl rfl (ble_of rfl (by decide)) rfl) ?_
    refine QE.op rfl rfl (QOp.no rfl rfl rfl rfl (ble_of rfl (by decide)) rfl) ?_
    refine QE.op rfl rfl (QOp.no rfl rfl rfl rfl (ble_of rfl (by decide)) rfl) ?_
    refine QE.op rfl rfl (QOp.no rfl rfl rfl rfl (ble_of rfl (by decide)) rfl) ?_
    refine QE.op rfl rfl (.inl ⟨rfl, fun f' H' hf hM => AOp.pickF (.bool false) rfl ((hf 14 rfl).trans rfl) rfl rfl ⟨rfl, hM⟩⟩) ?_
    refine QE.op rfl rfl (.inl ⟨rfl, fun f' H' hf hM => AOp.assign (.bool false) rfl ((hf 29 rfl).trans rfl) ⟨rfl, hM⟩⟩) ?_
    refine QE.done fun H18 m19 => ?_
    have h20 := m19 _ _ h4
    have m21 := m7.trans m19
    refine AOps.nil ?_
    change AWP _ _ _ _ _ _
    refine AWP.ret ?_
    refine ⟨_, _, Ghost.refl, .inr rfl, _, Res.one rfl rfl, ?_, m21⟩
    exact (congrArg AV.bool (show (false : Bool) = edgedS t e from by unfold edgedS; first | exact decide_eq_decide.2 (by omega) | exact (decide_eq_false (by omega)).symm))

theorem c20 (t : Tp) (a b : Int) (ht : t.ed.length ≤ 1048576) : PC Try.prog 20 [.agg [.sl t.ed.length (t.ed.flatMap eE), .sl t.fan.length (t.fan.map eF), .sl t.rnd.length (t.rnd.map eBo)], .int .i64 a, .int .i64 b] (.tup [.int .i64 (optI (findS t a b)), .bool ((findS t a b).isSome)]) := by
  intro H0
  refine ACalls.of_body' (n := 39) rfl rfl rfl rfl ?_
  have m0 := Mono.refl H0
  refine AWP.seq ?_
  refine AWP.region (l := [0, 1, 2]) rfl ?_
  refine AOps.cons rfl rfl (AOp.box (.agg [.sl t.ed.length (t.ed.flatMap eE), .sl t.fan.length (t.fan.map eF), .sl t.rnd.length (t.rnd.map eBo)]) rfl rfl rfl ?_)
  intro i1 H2 n3 h4 k5
  have z6 := Mono.free m0 n3
  have m7 := Mono.new m0 n3 k5
  refine AOps.cons rfl rfl (AOp.assign (.int .i64 0) rfl rfl ?_)
  refine AOps.cons rfl rfl (AOp.assign (.bool false) rfl rfl ?_)
  refine AOps.nil ?_
  change AWP _ _ _ _ _ _
  refine AWP.seq ?_
  refine AWP.seq ?_
  refine AWP.region (l := [0]) rfl ?_
  refine AOps.cons rfl rfl (AOp.assign (.int .i64 0) rfl rfl ?_)
  refine AOps.nil ?_
  change AWP _ _ _ _ _ _
  refine AWP.block ?_
  refine AWP.loop (fun q8 fq Hq => ∃ (i : Int), q8 = (((t.ed.length : Int) : Int) - i).toNat ∧ fq 8 = .int .i64 i ∧ fq 1 = .int .i64 a ∧ fq 2 = .int .i64 b ∧ fq 3 = .ptr i1 0 0 ∧ Hq i1 = some (.row 0 ([.sl t.ed.length (t.ed.flatMap eE), .sl t.fan.length (t.fan.map eF), .sl t.rnd.length (t.rnd.map eBo)])) ∧ Mono H0 Hq ∧ (0 ≤ i) ∧ (i ≤ (t.ed.length : Int)) ∧ (∀ j : Int, 0 ≤ j → j < i → ¬ ((at_ t.ed j).A = min a b ∧ (at_ t.ed j).B = max a b))) (k := (((t.ed.length : Int) : Int) - 0).toNat) ?_ ?_
  ·
    exact ⟨0, rfl, rfl, rfl, rfl, rfl, h4, m7, by omega, by omega, by intro j; omega⟩
  ·
    rintro _ f10 H9 ⟨i, rfl, s11, s12, s13, s14, h15, m16, hi0, hi1, pre⟩
    refine AWP.seq ?_
    refine AWP.seq ?_
    refine AWP.region (l := [0, 1, 2, 3, 4]) rfl ?_
    refine AOps.cons rfl rfl (AOp.move (.int .i64 i) rfl s11 ?_)
    refine AOps.cons rfl rfl (AOp.fieldAddr rfl s14 fl_29_0 ?_ (hid := ⟨_, h15⟩))
    refine AOps.cons rfl rfl (AOp.load (.sl t.ed.length (t.ed.flatMap eE)) rfl rfl ty_26 h15 rfl ?_)
    refine AOps.cons rfl rfl (AOp.len (m := t.ed.length) rfl rfl (.inr (.inl ⟨_, rfl⟩)) u_26 ?_)
    refine AOps.cons rfl rfl (AOp.bin (.bool (decide (i < (t.ed.length : Int)))) rfl rfl rfl rfl ?_)
    refine AOps.nil ?_
    change AWP _ _ _ _ _ _
    by_cases b17 : i < (t.ed.length : Int)
    ·
      refine AWP.condT rfl (decide_eq_true b17) ?_
      refine AWP.skip ?_
      change AWP _ _ _ _ _ _
      refine AWP.seq ?_
      refine AWP.block ?_
      refine AWP.seq ?_
      refine AWP.region (l := [0, 1, 2, 3, 4, 5, 6, 7, 8, 9, 10, 11, 12, 13, 14, 15, 16, 17, 18, 19, 20, 21]) rfl ?_
      refine AOps.cons rfl rfl (AOp.fieldAddr rfl s14 fl_29_0 ?_ (hid := ⟨_, h15⟩))
      refine AOps.cons rfl rfl (AOp.load (.sl t.ed.length (t.ed.flatMap eE)) rfl rfl ty_26 h15 rfl ?_)
      refine AOps.cons rfl rfl (AOp.move (.int .i64 i) rfl s11 ?_)
      refine AOps.cons rfl rfl (AOp.indexAddrS rfl rfl rfl sl_26 (by omega) (by omega) ?_)
      refine AOps.cons rfl rfl (AOp.fieldAddrF rfl rfl fl_37_0 ?_)
      refine AOps.cons rfl rfl (AOp.loadF (.int .i64 ((at_ t.ed i).A)) rfl rfl ty_3 (ldF eE_len (by omega) (by omega) rfl (by decide)) ?_)
      refine AOps.cons rfl rfl (AOp.move (.int .i64 a) rfl s12 ?_)
      refine AOps.cons rfl rfl (AOp.move (.int .i64 b) rfl s13 ?_)
      refine AOps.cons rfl rfl (AOp.min2 rfl rfl rfl ?_)
      refine AOps.cons rfl rfl (AOp.bin (.bool (decide ((at_ t.ed i).A = min a b))) rfl rfl rfl ieq ?_)
      refine AOps.cons rfl rfl (AOp.move (.bool (decide ((at_ t.ed i).A = min a b))) rfl rfl ?_)
      by_cases b18 : (at_ t.ed i).A = min a b
      ·
        refine AOps.yes rfl rfl rfl rfl rfl rfl rfl (decide_eq_true b18) (AOp.fieldAddr rfl s14 fl_29_0 ?_ (hid := ⟨_, h15⟩))
        refine AOps.yes rfl rfl rfl rfl rfl rfl rfl (decide_eq_true b18) (AOp.load (.sl t.ed.length (t.ed.flatMap eE)) rfl rfl ty_26 h15 rfl ?_)
        refine AOps.yes rfl rfl rfl rfl rfl rfl rfl (decide_eq_true b18) (AOp.move (.int .i64 i) rfl s11 ?_)
        refine AOps.yes rfl rfl rfl rfl rfl rfl rfl (decide_eq_true b18) (AOp.indexAddrS rfl rfl rfl sl_26 (by omega) (by omega) ?_)
        refine AOps.yes rfl rfl rfl rfl rfl rfl rfl (decide_eq_true b18) (AOp.fieldAddrF rfl rfl fl_37_1 ?_)
        refine AOps.yes rfl rfl rfl rfl rfl rfl rfl (decide_eq_true b18) (AOp.loadF (.int .i64 ((at_ t.ed i).B)) rfl rfl ty_3 (ldF eE_len (by omega) (by omega) rfl (by decide)) ?_)
        refine AOps.yes rfl rfl rfl rfl rfl rfl rfl (decide_eq_true b18) (AOp.move (.int .i64 a) rfl s12 ?_)
        refine AOps.yes rfl rfl rfl rfl rfl rfl rfl (decide_eq_true b18) (AOp.move (.int .i64 b) rfl s13 ?_)
        refine AOps.yes rfl rfl rfl rfl rfl rfl rfl (decide_eq_true b18) (AOp.max2 rfl rfl rfl ?_)
        refine AOps.yes rfl rfl rfl rfl rfl rfl rfl (decide_eq_true b18) (AOp.bin (.bool (decide ((at_ t.ed i).B = max a b))) rfl rfl rfl ieq ?_)
        refine AOps.cons rfl rfl (AOp.pickT (.bool (decide ((at_ t.ed i).B = max a b))) rfl rfl (decide_eq_true b18) rfl ?_)
        refine AOps.nil ?_
        change AWP _ _ _ _ _ _
        by_cases b19 : (at_ t.ed i).B = max a b
        ·
          refine AWP.condT rfl (decide_eq_true b19) ?_
          refine AWP.seq ?_
          refine AWP.region (l := [0, 1, 2]) rfl ?_
          refine AOps.cons rfl rfl (AOp.move (.int .i64 i) rfl s11 ?_)
          refine AOps.cons rfl rfl (AOp.assign (.int .i64 i) rfl rfl ?_)
          refine AOps.cons rfl rfl (AOp.assign (.bool true) rfl rfl ?_)
          refine AOps.nil ?_
          change AWP _ _ _ _ _ _
          refine AWP.ret ?_
          refine ⟨_, _, Ghost.refl, .inr rfl, _, Res.two rfl rfl rfl, ?_, m16⟩
          exact congrArg AV.tup (lc (congrArg (AV.int .i64) (show (i : Int) = optI (findS t a b) from by rw [find_hit hi0 (by omega) b18 b19 pre]; first | rfl | (simp only [optI]; omega))) (lc (congrArg AV.bool (show (true : Bool) = (findS t a b).isSome from by rw [find_hit hi0 (by omega) b18 b19 pre]; rfl)) rfl))
        ·
          refine AWP.condF rfl (decide_eq_false b19) ?_
          refine AWP.skip ?_
          change AWP _ _ _ _ _ _
          refine AWP.region (l := [0, 1, 2]) rfl ?_
          refine AOps.cons rfl rfl (AOp.move (.int .i64 i) rfl s11 ?_)
          refine AOps.cons rfl rfl (AOp.bin (.int .i64 (i + 1)) rfl rfl rfl (iadd (by omega)) ?_)
          refine AOps.cons rfl rfl (AOp.assign (.int .i64 (i + 1)) rfl rfl ?_)
          refine AOps.nil ?_
          exact ⟨_, by omega, i + 1, rfl, rfl, s12, s13, s14, h15, m16, by omega, by omega, by exact fa_step pre (fun e => b19 e.2)⟩
      ·
        refine AOps.no rfl rfl rfl rfl rfl rfl rfl (ble_of (decide_eq_false b18) (by decide)) ?_
        refine AOps.no rfl rfl rfl rfl rfl rfl rfl (ble_of (decide_eq_false b18) (by decide)) ?_
        refine AOps.no rfl rfl rfl rfl rfl rfl rfl (ble_of (decide_eq_false b18) (by decide)) ?_
        refine AOps.no rfl rfl rfl rfl rfl rfl rfl (ble_of (decide_eq_false b18) (by decide)) ?_
        refine AOps.no rfl rfl rfl rfl rfl rfl rfl (ble_of (decide_eq_false b18) (by decide)) ?_
        refine AOps.no rfl rfl rfl rfl rfl rfl rfl (ble_of (decide_eq_false b18) (by decide)) ?_
        refine AOps.no rfl rfl rfl rfl rfl rfl rfl (ble_of (decide_eq_false b18) (by decide)) ?_
        refine AOps.no rfl rfl rfl rfl rfl rfl rfl (ble_of (decide_eq_false b18) (by decide)) ?_
        refine AOps.no rfl rfl rfl rfl rfl rfl rfl (ble_of (decide_eq_false b18) (by decide)) ?_
        refine AOps.no rfl rfl rfl rfl rfl rfl rfl (ble_of (decide_eq_false b18) (by decide)) ?_
        refine AOps.cons rfl rfl (AOp.pickF (.bool false) rfl rfl (decide_eq_false b18) rfl ?_)
        refine AOps.nil ?_
        change AWP _ _ _ _ _ _
        refine AWP.condF rfl rfl ?_
        refine AWP.skip ?_
        change AWP _ _ _ _ _ _
        refine AWP.region (l := [0, 1, 2]) rfl ?_
        refine AOps.cons rfl rfl (AOp.move (.int .i64 i) rfl s11 ?_)
        refine AOps.cons rfl rfl (AOp.bin (.int .i64 (i + 1)) rfl rfl rfl (iadd (by omega)) ?_)
        refine AOps.cons rfl rfl (AOp.assign (.int .i64 (i + 1)) rfl rfl ?_)
        refine AOps.nil ?_
        exact ⟨_, by omega, i + 1, rfl, rfl, s12, s13, s14, h15, m16, by omega, by omega, by exact fa_step pre (fun e => b18 e.1)⟩
    ·
      refine AWP.condF rfl (decide_eq_false b17) ?_
      refine AWP.exit ?_
      change AWP _ _ _ _ _ _
      refine AWP.seq ?_
      refine AWP.region (l := [0, 1]) rfl ?_
      refine AOps.cons rfl rfl (AOp.assign (.int .i64 0) rfl rfl ?_)
      refine AOps.cons rfl rfl (AOp.assign (.bool false) rfl rfl ?_)
      refine AOps.nil ?_
      change AWP _ _ _ _ _ _
      refine AWP.ret ?_
      refine ⟨_, _, Ghost.refl, .inr rfl, _, Res.two rfl rfl rfl, ?_, m16⟩
      exact congrArg AV.tup (lc (congrArg (AV.int .i64) (show (0 : Int) = optI (findS t a b) from by rw [find_miss (fun j h1 h2 => pre j h1 (by omega))]; first | rfl | (simp only [optI]; omega))) (lc (congrArg AV.bool (show (false : Bool) = (findS t a b).isSome from by rw [find_miss (fun j h1 h2 => pre j h1 (by omega))]; rfl)) rfl))

theorem c21 (fs : List (List Int)) (hfs : fs.length ≤ 1048576) (hfss : ∀ l ∈ fs, l.length ≤ 1048576) (m : Int) (hm : 0 ≤ m ∧ m ≤ 1000) : PC Try.prog 21 [.agg [.snil, .sl fs.length (fs.map eF), .snil], .int .i64 m] (.int .i64 (weighC fs m)) := by
  intro H0
  refine ACalls.of_body' (n := 60) rfl rfl rfl rfl ?_
  have m0 := Mono.refl H0
  refine AWP.seq ?_
  refine AWP.region (l := [0, 1]) rfl ?_
  refine AOps.cons rfl rfl (AOp.box (.agg [.snil, .sl fs.length (fs.map eF), .snil]) rfl rfl rfl ?_)
  intro i1 H2 n3 h4 k5
  have z6 := Mono.free m0 n3
  have m7 := Mono.new m0 n3 k5
  refine AOps.cons rfl rfl (AOp.assign (.int .i64 0) rfl rfl ?_)
  refine AOps.nil ?_
  change AWP _ _ _ _ _ _
  refine AWP.seq ?_
  refine AWP.seq ?_
  refine AWP.region (l := [0, 1, 2, 3, 4, 5, 6, 7, 8, 9, 10, 11, 12, 13, 14, 15, 16, 17, 18]) rfl ?_
  refine AOps.cons rfl rfl (AOp.fieldAddr rfl rfl fl_49_0 ?_ (hid := ⟨_, h4⟩))
  refine AOps.cons rfl rfl (AOp.load (.snil) rfl rfl ty_46 h4 rfl ?_)
  refine AOps.cons rfl rfl (AOp.len (m := 0) rfl rfl (.inl ⟨rfl, rfl⟩) u_46 ?_)
  refine AOps.cons rfl rfl (AOp.move (.int .i64 m) rfl rfl ?_)
  refine AOps.cons rfl rfl (AOp.bin (.bool (decide (0 > m))) rfl rfl rfl rfl ?_)
  refine AOps.cons rfl rfl (AOp.move (.bool (decide (0 > m))) rfl rfl ?_)
  by_cases b8 : 0 > m
  ·
    refine AOps.no rfl rfl rfl rfl rfl rfl rfl (ble_of (decide_eq_true b8) (by decide)) ?_
    refine AOps.no rfl rfl rfl rfl rfl rfl rfl (ble_of (decide_eq_true b8) (by decide)) ?_
    refine AOps.no rfl rfl rfl rfl rfl rfl rfl (ble_of (decide_eq_true b8) (by decide)) ?_
    refine AOps.no rfl rfl rfl rfl rfl rfl rfl (ble_of (decide_eq_true b8) (by decide)) ?_
    refine AOps.no rfl rfl rfl rfl rfl rfl rfl (ble_of (decide_eq_true b8) (by decide)) ?_
    refine AOps.cons rfl rfl (AOp.pickT (.bool true) rfl rfl (decide_eq_true b8) rfl ?_)
    refine AOps.cons rfl rfl (AOp.move (.bool true) rfl rfl ?_)
    refine AOps.no rfl rfl rfl rfl rfl rfl rfl (ble_of rfl (by decide)) ?_
    refine AOps.no rfl rfl rfl rfl rfl rfl rfl (ble_of rfl (by decide)) ?_
    refine AOps.no rfl rfl rfl rfl rfl rfl rfl (ble_of rfl (by decide)) ?_
    refine AOps.no rfl rfl rfl rfl rfl rfl rfl (ble_of rfl (by decide)) ?_
    refine AOps.no rfl rfl rfl rfl rfl rfl rfl (ble_of rfl (by decide)) ?_
    refine AOps.cons rfl rfl (AOp.pickT (.bool true) rfl rfl rfl rfl ?_)
    refine AOps.nil ?_
    change AWP _ _ _ _ _ _
    refine AWP.condT rfl rfl ?_
    refine AWP.seq ?_
    refine AWP.region (l := [0, 1, 2]) rfl ?_
    refine AOps.cons rfl rfl (AOp.move (.int .i64 m) rfl rfl ?_)
    refine AOps.cons rfl rfl (AOp.bin (.int .i64 (m + 1)) rfl rfl rfl (iadd (by omega)) ?_)
    refine AOps.cons rfl rfl (AOp.assign (.int .i64 (m + 1)) rfl rfl ?_)
    refine AOps.nil ?_
    change AWP _ _ _ _ _ _
    refine AWP.ret ?_
    refine ⟨_, _, Ghost.refl, .inr rfl, _, Res.one rfl rfl, ?_, m7⟩
    exact (congrArg (AV.int .i64) (show (m + 1 : Int) = weighC fs m from by unfold weighC; rw [if_pos (by omega)]))
  ·
    refine AOps.yes rfl rfl rfl rfl rfl rfl rfl (decide_eq_false b8) (AOp.fieldAddr rfl rfl fl_49_2 ?_ (hid := ⟨_, h4⟩))
    refine AOps.yes rfl rfl rfl rfl rfl rfl rfl (decide_eq_false b8) (AOp.load (.snil) rfl rfl ty_47 h4 rfl ?_)
    refine AOps.yes rfl rfl rfl rfl rfl rfl rfl (decide_eq_false b8) (AOp.len (m := 0) rfl rfl (.inl ⟨rfl, rfl⟩) u_47 ?_)
    refine AOps.yes rfl rfl rfl rfl rfl rfl rfl (decide_eq_false b8) (AOp.move (.int .i64 m) rfl rfl ?_)
    refine AOps.yes rfl rfl rfl rfl rfl rfl rfl (decide_eq_false b8) (AOp.bin (.bool (decide (0 > m))) rfl rfl rfl rfl ?_)
    refine AOps.cons rfl rfl (AOp.pickF (.bool (decide (0 > m))) rfl rfl (decide_eq_false b8) rfl ?_)
    refine AOps.cons rfl rfl (AOp.move (.bool (decide (0 > m))) rfl rfl ?_)
    refine AOps.yes rfl rfl rfl rfl rfl rfl rfl (decide_eq_false b8) (AOp.fieldAddr rfl rfl fl_49_1 ?_ (hid := ⟨_, h4⟩))
    refine AOps.yes rfl rfl rfl rfl rfl rfl rfl (decide_eq_false b8) (AOp.load (.sl fs.length (fs.map eF)) rfl rfl ty_22 h4 rfl ?_)
    refine AOps.yes rfl rfl rfl rfl rfl rfl rfl (decide_eq_false b8) (AOp.len (m := fs.length) rfl rfl (.inr (.inl ⟨_, rfl⟩)) u_22 ?_)
    refine AOps.yes rfl rfl rfl rfl rfl rfl rfl (decide_eq_false b8) (AOp.move (.int .i64 m) rfl rfl ?_)
    refine AOps.yes rfl rfl rfl rfl rfl rfl rfl (decide_eq_false b8) (AOp.bin (.bool (decide ((fs.length : Int) > m))) rfl rfl rfl rfl ?_)
    refine AOps.cons rfl rfl (AOp.pickF (.bool (decide ((fs.length : Int) > m))) rfl rfl (decide_eq_false b8) rfl ?_)
    refine AOps.nil ?_
    change AWP _ _ _ _ _ _
    by_cases b9 : (fs.length : Int) > m
    ·
      refine AWP.condT rfl (decide_eq_true b9) ?_
      refine AWP.seq ?_
      refine AWP.region (l := [0, 1, 2]) rfl ?_
      refine AOps.cons rfl rfl (AOp.move (.int .i64 m) rfl rfl ?_)
      refine AOps.cons rfl rfl (AOp.bin (.int .i64 (m + 1)) rfl rfl rfl (iadd (by omega)) ?_)
      refine AOps.cons rfl rfl (AOp.assign (.int .i64 (m + 1)) rfl rfl ?_)
      refine AOps.nil ?_
      change AWP _ _ _ _ _ _
      refine AWP.ret ?_
      refine ⟨_, _, Ghost.refl, .inr rfl, _, Res.one rfl rfl, ?_, m7⟩
      exact (congrArg (AV.int .i64) (show (m + 1 : Int) = weighC fs m from by unfold weighC; rw [if_pos (by omega)]))
    ·
      refine AWP.condF rfl (decide_eq_false b9) ?_
      refine AWP.skip ?_
      change AWP _ _ _ _ _ _
      refine AWP.seq ?_
      refine AWP.region (l := [0, 1, 2, 3, 4, 5, 6, 7, 8, 9, 10, 11]) rfl ?_
      refine AOps.cons rfl rfl (AOp.fieldAddr rfl rfl fl_49_0 ?_ (hid := ⟨_, h4⟩))
      refine AOps.cons rfl rfl (AOp.load (.snil) rfl rfl ty_46 h4 rfl ?_)
      refine AOps.cons rfl rfl (AOp.len (m := 0) rfl rfl (.inl ⟨rfl, rfl⟩) u_46 ?_)
      refine AOps.cons rfl rfl (AOp.fieldAddr rfl rfl fl_49_2 ?_ (hid := ⟨_, h4⟩))
      refine AOps.cons rfl rfl (AOp.load (.snil) rfl rfl ty_47 h4 rfl ?_)
      refine AOps.cons rfl rfl (AOp.len (m := 0) rfl rfl (.inl ⟨rfl, rfl⟩) u_47 ?_)
      refine AOps.cons rfl rfl (AOp.bin (.int .i64 0) rfl rfl rfl (iadd (by omega)) ?_)
      refine AOps.cons rfl rfl (AOp.fieldAddr rfl rfl fl_49_1 ?_ (hid := ⟨_, h4⟩))
      refine AOps.cons rfl rfl (AOp.load (.sl fs.length (fs.map eF)) rfl rfl ty_22 h4 rfl ?_)
      refine AOps.cons rfl rfl (AOp.len (m := fs.length) rfl rfl (.inr (.inl ⟨_, rfl⟩)) u_22 ?_)
      refine AOps.cons rfl rfl (AOp.bin (.int .i64 (0 + (fs.length : Int))) rfl rfl rfl (iadd (by omega)) ?_)
      refine AOps.cons rfl rfl (AOp.assign (.int .i64 (0 + (fs.length : Int))) rfl rfl ?_)
      refine AOps.nil ?_
      change AWP _ _ _ _ _ _
      refine AWP.seq ?_
      refine AWP.seq ?_
      refine AWP.region (l := [0]) rfl ?_
      refine AOps.cons rfl rfl (AOp.assign (.int .i64 0) rfl rfl ?_)
      refine AOps.nil ?_
      change AWP _ _ _ _ _ _
      refine AWP.block ?_
      refine AWP.loop (fun q10 fq Hq => ∃ (i : Int) (n : Int), q10 = (((fs.length : Int) : Int) - i).toNat ∧ fq 6 = .int .i64 i ∧ fq 5 = .int .i64 n ∧ fq 1 = .int .i64 m ∧ fq 2 = .ptr i1 0 0 ∧ fq 4 = .int .i64 0 ∧ Hq i1 = some (.row 0 ([.snil, .sl fs.length (fs.map eF), .snil])) ∧ Mono H0 Hq ∧ (0 ≤ i) ∧ (i ≤ (fs.length : Int)) ∧ (0 ≤ n ∧ n ≤ 3000000) ∧ (weighS m fs fs.length = weighS m (fs.drop i.toNat) n)) (k := (((fs.length : Int) : Int) - 0).toNat) ?_ ?_
      ·
        exact ⟨0, (fs.length : Int), rfl, rfl, by first | rfl | (show AV.int _ _ = AV.int _ _; congr 1; omega), rfl, rfl, rfl, h4, m7, by omega, by omega, by omega, by rfl⟩
      ·
        rintro _ f12 H11 ⟨i, n, rfl, s13, s14, s15, s16, s17, h18, m19, hi0, hi1, hn, hw⟩
        refine AWP.seq ?_
        refine AWP.seq ?_
        refine AWP.region (l := [0, 1, 2, 3, 4, 5, 6, 7, 8, 9]) rfl ?_
        refine AOps.cons rfl rfl (AOp.move (.int .i64 i) rfl s13 ?_)
        refine AOps.cons rfl rfl (AOp.fieldAddr rfl s16 fl_49_1 ?_ (hid := ⟨_, h18⟩))
        refine AOps.cons rfl rfl (AOp.load (.sl fs.length (fs.map eF)) rfl rfl ty_22 h18 rfl ?_)
        refine AOps.cons rfl rfl (AOp.len (m := fs.length) rfl rfl (.inr (.inl ⟨_, rfl⟩)) u_22 ?_)
        refine AOps.cons rfl rfl (AOp.bin (.bool (decide (i < (fs.length : Int)))) rfl rfl rfl rfl ?_)
        refine AOps.cons rfl rfl (AOp.move (.bool (decide (i < (fs.length : Int)))) rfl rfl ?_)
        by_cases b20 : i < (fs.length : Int)
        ·
          refine AOps.yes rfl rfl rfl rfl rfl rfl rfl (decide_eq_true b20) (AOp.move (.int .i64 n) rfl s14 ?_)
          refine AOps.yes rfl rfl rfl rfl rfl rfl rfl (decide_eq_true b20) (AOp.move (.int .i64 m) rfl s15 ?_)
          refine AOps.yes rfl rfl rfl rfl rfl rfl rfl (decide_eq_true b20) (AOp.bin (.bool (decide (n ≤ m))) rfl rfl rfl rfl ?_)
          refine AOps.cons rfl rfl (AOp.pickT (.bool (decide (n ≤ m))) rfl rfl (decide_eq_true b20) rfl ?_)
          refine AOps.nil ?_
          change AWP _ _ _ _ _ _
          by_cases b21 : n ≤ m
          ·
            refine AWP.condT rfl (decide_eq_true b21) ?_
            refine AWP.skip ?_
            change AWP _ _ _ _ _ _
            refine AWP.seq ?_
            refine AWP.block ?_
            have hq : (at_ fs i).length ≤ 1048576 := hfss _ (at_mem (by omega) (by omega))
            refine AWP.region (l := [0, 1, 2, 3, 4, 5, 6, 7, 8]) rfl ?_
            refine AOps.cons rfl rfl (AOp.move (.int .i64 n) rfl s14 ?_)
            refine AOps.cons rfl rfl (AOp.fieldAddr rfl s16 fl_49_1 ?_ (hid := ⟨_, h18⟩))
            refine AOps.cons rfl rfl (AOp.load (.sl fs.length (fs.map eF)) rfl rfl ty_22 h18 rfl ?_)
            refine AOps.cons rfl rfl (AOp.move (.int .i64 i) rfl s13 ?_)
            refine AOps.cons rfl rfl (AOp.indexAddrS rfl rfl rfl sl_22 (by omega) (by omega) ?_)
            refine AOps.cons rfl rfl (AOp.loadF (.sl (at_ fs i).length ((at_ fs i).map eI)) rfl rfl ty_35 (ld1 (by omega) (by omega)) ?_)
            refine AOps.cons rfl rfl (AOp.len (m := (at_ fs i).length) rfl rfl (.inr (.inl ⟨_, rfl⟩)) u_35 ?_)
            refine AOps.cons rfl rfl (AOp.bin (.int .i64 (n + (((at_ fs i).length) : Int))) rfl rfl rfl (iadd (by omega)) ?_)
            refine AOps.cons rfl rfl (AOp.assign (.int .i64 (n + (((at_ fs i).length) : Int))) rfl rfl ?_)
            refine AOps.nil ?_
            change AWP _ _ _ _ _ _
            refine AWP.region (l := [0, 1, 2]) rfl ?_
            refine AOps.cons rfl rfl (AOp.move (.int .i64 i) rfl s13 ?_)
            refine AOps.cons rfl rfl (AOp.bin (.int .i64 (i + 1)) rfl rfl rfl (iadd (by omega)) ?_)
            refine AOps.cons rfl rfl (AOp.assign (.int .i64 (i + 1)) rfl rfl ?_)
            refine AOps.nil ?_
            exact ⟨_, by omega, i + 1, n + ((at_ fs i).length : Int), rfl, rfl, rfl, s15, s16, s17, h18, m19, by omega, by omega, by omega, by rw [hw, weigh_step hi0 (by omega) (by omega)]⟩
          ·
            refine AWP.condF rfl (decide_eq_false b21) ?_
            refine AWP.exit ?_
            change AWP _ _ _ _ _ _
            refine AWP.seq ?_
            refine AWP.region (l := [0, 1]) rfl ?_
            refine AOps.cons rfl rfl (AOp.move (.int .i64 n) rfl s14 ?_)
            refine AOps.cons rfl rfl (AOp.assign (.int .i64 n) rfl rfl ?_)
            refine AOps.nil ?_
            change AWP _ _ _ _ _ _
            refine AWP.ret ?_
            refine ⟨_, _, Ghost.refl, .inr rfl, _, Res.one rfl rfl, ?_, m19⟩
            exact (congrArg (AV.int .i64) (show (n : Int) = weighC fs m from by unfold weighC; rw [if_neg (by omega), hw, weigh_stop (by omega)]))
        ·
          refine AOps.no rfl rfl rfl rfl rfl rfl rfl (ble_of (decide_eq_false b20) (by decide)) ?_
          refine AOps.no rfl rfl rfl rfl rfl rfl rfl (ble_of (decide_eq_false b20) (by decide)) ?_
          refine AOps.no rfl rfl rfl rfl rfl rfl rfl (ble_of (decide_eq_false b20) (by decide)) ?_
          refine AOps.cons rfl rfl (AOp.pickF (.bool false) rfl rfl (decide_eq_false b20) rfl ?_)
          refine AOps.nil ?_
          change AWP _ _ _ _ _ _
          refine AWP.condF rfl rfl ?_
          refine AWP.exit ?_
          change AWP _ _ _ _ _ _
          refine AWP.seq ?_
          refine AWP.region (l := [0, 1]) rfl ?_
          refine AOps.cons rfl rfl (AOp.move (.int .i64 n) rfl s14 ?_)
          refine AOps.cons rfl rfl (AOp.assign (.int .i64 n) rfl rfl ?_)
          refine AOps.nil ?_
          change AWP _ _ _ _ _ _
          refine AWP.ret ?_
          refine ⟨_, _, Ghost.refl, .inr rfl, _, Res.one rfl rfl, ?_, m19⟩
          exact (congrArg (AV.int .i64) (show (n : Int) = weighC fs m from by unfold weighC; rw [if_neg (by omega), hw, List.drop_of_length_le (by omega)]; rfl))

theorem c10 (v : Int) (fs : List (List Int)) (hfs : fs.length ≤ 1048576) (hfss : ∀ l ∈ fs, l.length ≤ 1048576) : PC Try.prog 10 [.int .i64 v, .sl fs.length (fs.map eF)] (.bool (decide (greatS v fs))) := by
  intro H0
  refine ACalls.of_body' (n := 13) rfl rfl rfl rfl ?_
  have m0 := Mono.refl H0
  refine AWP.seq ?_
  refine AWP.region (l := [0]) rfl ?_
  refine AOps.cons rfl rfl (AOp.assign (.bool false) rfl rfl ?_)
  refine AOps.nil ?_
  change AWP _ _ _ _ _ _
  refine AWP.seq ?_
  refine AWP.region (l := [0, 1, 2, 3, 4, 5, 6, 7, 8]) rfl ?_
  refine AOps.cons rfl rfl (AOp.move (.int .i64 v) rfl rfl ?_)
  refine AOps.cons rfl rfl (AOp.bin (.bool (decide (v > 60))) rfl rfl rfl rfl ?_)
  refine AOps.cons rfl rfl (AOp.move (.bool (decide (v > 60))) rfl rfl ?_)
  by_cases b1 : v > 60
  ·
    refine AOps.no rfl rfl rfl rfl rfl rfl rfl (ble_of (decide_eq_true b1) (by decide)) ?_
    refine AOps.no rfl rfl rfl rfl rfl rfl rfl (ble_of (decide_eq_true b1) (by decide)) ?_
    refine AOps.no rfl rfl rfl rfl rfl rfl rfl (ble_of (decide_eq_true b1) (by decide)) ?_
    refine AOps.no rfl rfl rfl rfl rfl rfl rfl (ble_of (decide_eq_true b1) (by decide)) ?_
    refine AOps.cons rfl rfl (AOp.pickT (.bool true) rfl rfl (decide_eq_true b1) rfl ?_)
    refine AOps.cons rfl rfl (AOp.assign (.bool true) rfl rfl ?_)
    refine AOps.nil ?_
    change AWP _ _ _ _ _ _
    refine AWP.ret ?_
    refine ⟨_, _, Ghost.refl, .inr rfl, _, Res.one rfl rfl, ?_, m0⟩
    exact (congrArg AV.bool (rfl.trans (decide_eq_true (show greatS v fs from by first | (unfold greatS; omega) | exact decide_eq_decide.2 (by unfold greatS; omega))).symm))
  ·
    refine AOps.yes rfl rfl rfl rfl rfl rfl rfl (decide_eq_false b1) (AOp.move (.sl fs.length (fs.map eF)) rfl rfl ?_)
    refine AOps.yes rfl rfl rfl rfl rfl rfl rfl (decide_eq_false b1) (AOp.build (cells := [.snil, .sl fs.length (fs.map eF), .snil]) rfl tz_49 pl_49 rfl rfl ?_)
    refine AOps.yes rfl rfl rfl rfl rfl rfl rfl (decide_eq_false b1) (AOp.pcall («as» := [.agg [.snil, .sl fs.length (fs.map eF), .snil], .int .i64 300]) rfl rfl (rfl) tf_21 (c21 _ (by assumption) (by assumption) _ (by omega)) ?_)
    intro H2 m3
    have m4 := m0.trans m3
    refine AOps.yes rfl rfl rfl rfl rfl rfl rfl (decide_eq_false b1) (AOp.bin (.bool (decide (weighC fs 300 > 300))) rfl rfl rfl rfl ?_)
    refine AOps.cons rfl rfl (AOp.pickF (.bool (decide (weighC fs 300 > 300))) rfl rfl (decide_eq_false b1) rfl ?_)
    refine AOps.cons rfl rfl (AOp.assign (.bool (decide (weighC fs 300 > 300))) rfl rfl ?_)
    refine AOps.nil ?_
    change AWP _ _ _ _ _ _
    refine AWP.ret ?_
    refine ⟨_, _, Ghost.refl, .inr rfl, _, Res.one rfl rfl, ?_, m4⟩
    exact (congrArg AV.bool (show (decide (weighC fs 300 > 300) : Bool) = decide (greatS v fs) from by first | (unfold greatS; omega) | exact decide_eq_decide.2 (by unfold greatS; omega)))
end Go.Proofs.T
