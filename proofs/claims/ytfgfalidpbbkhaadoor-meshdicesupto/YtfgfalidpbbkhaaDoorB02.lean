/- A part of the proof that a law answers true for every input of its row: own work, by an AI agent. -/
import Derived.Test.YtfgfalidpbbkhaaDoorB01
set_option linter.unusedSimpArgs false
set_option linter.unusedVariables false
set_option linter.defProp false
namespace Go.Proofs.M
open Go Go.AH
set_option maxRecDepth 4000
set_option linter.unusedSimpArgs false
set_option linter.unusedVariables false
theorem c_Max (l : (List Int)) (h_l : l.length ≤ 1048576) (h1 : 1 ≤ l.length) : PC Tryd.prog 26 [.sl l.length (l.map eI)] (J (maxL l)) := by
 intro H0
 refine ACalls.of_body' (n := 25) rfl rfl rfl rfl ?_
 have m0 := Mono.refl H0
 refine Sr ?_
 refine A rfl rfl ?_
 refine AWP.seq ?_
 refine Sr ?_
 refine V rfl rfl (C rfl (AOp.len (m := l.length) rfl rfl (.inr (.inl ⟨_, rfl⟩)) u_63 (B rfl rfl rfl rfl ?_)))
 refine cf_ rfl (decide_eq_false ((by omega))) ?_
 refine AWP.skip ?_
 refine Sr ?_
 refine V rfl rfl (C rfl (iS_ rfl rfl rfl sl_63 (by omega) (by omega) (L rfl rfl ty_3 (ld1 (by omega) (by omega)) (A rfl rfl ?_))))
 refine AWP.seq ?_
 refine Sr ?_
 refine A rfl rfl ?_
 refine bk_ ?_
 refine AWP.loop (fun q1 fq Hq => ∃ (i : Int), q1 = (((l.length : Int) : Int) - i).toNat ∧ fq 4 = J i ∧ fq 3 = J ((l.take i.toNat).foldl max (at_ l 0)) ∧ fq 0 = .sl l.length (l.map eI) ∧ fq 2 = J 0 ∧ Mono H0 Hq ∧ (0 ≤ i) ∧ (i ≤ (l.length : Int))) (k := (((l.length : Int) : Int) - 1).toNat) ?_ ?_
 exact ⟨1, rfl, rfl, (congrArg (AV.int .i64) (show (at_ l 0 : Int) = (l.take (1 : Int).toNat).foldl max (at_ l 0) from by exact fold_one (fun x => by omega) h1)), rfl, rfl, m0, by omega, by omega⟩
 rintro _ f3 H2 ⟨i, rfl, s4, s5, s6, s7, m8, hi0, hi1⟩
 refine AWP.seq ?_
 refine Sr ?_
 refine V rfl s4 (V rfl s6 (C rfl (AOp.len (m := l.length) rfl rfl (.inr (.inl ⟨_, rfl⟩)) u_63 (B rfl rfl rfl rfl ?_))))
 refine AOps.nil ?_
 change AWP _ _ _ _ _ _
 by_cases b9 : i < (l.length : Int)
 refine ct_ rfl (decide_eq_true b9) ?_
 refine AWP.skip ?_
 refine AWP.seq ?_
 refine bk_ ?_
 refine AWP.region rfl ?_
 refine V rfl s5 (V rfl s6 (V rfl s4 (C rfl (iS_ rfl rfl rfl sl_63 (by omega) (by omega) (L rfl rfl ty_3 (ld1 (by omega) (by omega)) (C rfl (AOp.max2 rfl rfl rfl (A rfl rfl ?_))))))))
 refine AWP.region rfl ?_
 refine V rfl s4 (B rfl rfl rfl (iadd (by omega)) (A rfl rfl ?_))
 refine AOps.nil ?_
 exact ⟨_, by omega, i + 1, rfl, rfl, (congrArg (AV.int .i64) (show (max ((l.take i.toNat).foldl max (at_ l 0)) (at_ l i) : Int) = (l.take (i + 1).toNat).foldl max (at_ l 0) from by exact fold_step hi0 (by omega))), s6, s7, m8, by omega, by omega⟩
 refine cf_ rfl (decide_eq_false b9) ?_
 refine AWP.exit ?_
 change AWP _ _ _ _ _ _
 refine Sr ?_
 refine V rfl s5 (A rfl rfl ?_)
 refine rt_ ?_
 refine Rr (Res.one rfl rfl) ?_ m8
 exact (congrArg (AV.int .i64) (show ((l.take i.toNat).foldl max (at_ l 0) : Int) = maxL l from by exact fold_all (by omega)))
theorem c_Min (l : (List Int)) (h_l : l.length ≤ 1048576) (h1 : 1 ≤ l.length) : PC Tryd.prog 40 [.sl l.length (l.map eI)] (J (minL l)) := by
 intro H0
 refine ACalls.of_body' (n := 25) rfl rfl rfl rfl ?_
 have m0 := Mono.refl H0
 refine Sr ?_
 refine A rfl rfl ?_
 refine AWP.seq ?_
 refine Sr ?_
 refine V rfl rfl (C rfl (AOp.len (m := l.length) rfl rfl (.inr (.inl ⟨_, rfl⟩)) u_63 (B rfl rfl rfl rfl ?_)))
 refine cf_ rfl (decide_eq_false ((by omega))) ?_
 refine AWP.skip ?_
 refine Sr ?_
 refine V rfl rfl (C rfl (iS_ rfl rfl rfl sl_63 (by omega) (by omega) (L rfl rfl ty_3 (ld1 (by omega) (by omega)) (A rfl rfl ?_))))
 refine AWP.seq ?_
 refine Sr ?_
 refine A rfl rfl ?_
 refine bk_ ?_
 refine AWP.loop (fun q1 fq Hq => ∃ (i : Int), q1 = (((l.length : Int) : Int) - i).toNat ∧ fq 4 = J i ∧ fq 3 = J ((l.take i.toNat).foldl min (at_ l 0)) ∧ fq 0 = .sl l.length (l.map eI) ∧ fq 2 = J 0 ∧ Mono H0 Hq ∧ (0 ≤ i) ∧ (i ≤ (l.length : Int))) (k := (((l.length : Int) : Int) - 1).toNat) ?_ ?_
 exact ⟨1, rfl, rfl, (congrArg (AV.int .i64) (show (at_ l 0 : Int) = (l.take (1 : Int).toNat).foldl min (at_ l 0) from by exact fold_one (fun x => by omega) h1)), rfl, rfl, m0, by omega, by omega⟩
 rintro _ f3 H2 ⟨i, rfl, s4, s5, s6, s7, m8, hi0, hi1⟩
 refine AWP.seq ?_
 refine Sr ?_
 refine V rfl s4 (V rfl s6 (C rfl (AOp.len (m := l.length) rfl rfl (.inr (.inl ⟨_, rfl⟩)) u_63 (B rfl rfl rfl rfl ?_))))
 refine AOps.nil ?_
 change AWP _ _ _ _ _ _
 by_cases b9 : i < (l.length : Int)
 refine ct_ rfl (decide_eq_true b9) ?_
 refine AWP.skip ?_
 refine AWP.seq ?_
 refine bk_ ?_
 refine AWP.region rfl ?_
 refine V rfl s5 (V rfl s6 (V rfl s4 (C rfl (iS_ rfl rfl rfl sl_63 (by omega) (by omega) (L rfl rfl ty_3 (ld1 (by omega) (by omega)) (C rfl (AOp.min2 rfl rfl rfl (A rfl rfl ?_))))))))
 refine AWP.region rfl ?_
 refine V rfl s4 (B rfl rfl rfl (iadd (by omega)) (A rfl rfl ?_))
 refine AOps.nil ?_
 exact ⟨_, by omega, i + 1, rfl, rfl, (congrArg (AV.int .i64) (show (min ((l.take i.toNat).foldl min (at_ l 0)) (at_ l i) : Int) = (l.take (i + 1).toNat).foldl min (at_ l 0) from by exact fold_step hi0 (by omega))), s6, s7, m8, by omega, by omega⟩
 refine cf_ rfl (decide_eq_false b9) ?_
 refine AWP.exit ?_
 change AWP _ _ _ _ _ _
 refine Sr ?_
 refine V rfl s5 (A rfl rfl ?_)
 refine rt_ ?_
 refine Rr (Res.one rfl rfl) ?_ m8
 exact (congrArg (AV.int .i64) (show ((l.take i.toNat).foldl min (at_ l 0) : Int) = minL l from by exact fold_all (by omega)))
def R_relief_of (n : VT) (d : Int) : VT :=
  (VT.mk (R_vec_Round n.X d) (R_vec_Round n.Y d) (R_vec_Round n.Z d))
theorem c_relief_of (n : VT) (d : Int) (hn : inV 2305843009213693952 n) (hd : d ≤ 2305843009213693952) : PC Tryd.prog 58 [.agg [J n.X, J n.Y, J n.Z], J d] (.agg [J ((R_relief_of n d).X), J ((R_relief_of n d).Y), J ((R_relief_of n d).Z)]) := by
 intro H0
 refine ACalls.of_body' (n := 18) rfl rfl rfl rfl ?_
 have m0 := Mono.refl H0
 refine Sr ?_
 refine C rfl (bx_ (.agg [J n.X, J n.Y, J n.Z]) rfl rfl rfl ?_)
 intro i1 H2 n3 h4 k5
 have z6 := Mono.free m0 n3
 have m7 := Mono.new m0 n3 k5
 refine C rfl (al_ rfl tz_23 ?_)
 intro i8 H9 n10 h11 k12
 have e13 := ne_new h4 n10
 have z14 := Mono.free m7 n10
 have h15 := keep k12 (ne_new h4 n10) h4
 have m16 := Mono.new m7 n10 k12
 refine AWP.seq ?_
 refine fz_ 2 h15 z6 rfl m16 fun H17 m18 k19 => ?_
 have h20 := (k19 _ (Ne.symm e13)).trans h11
 refine AWP.region_quiet mixed (by kernel_rfl) 13 [13] rfl (by kernel_rfl) (Mono H17) (Mono.refl _) ?_
 refine QF rfl rfl fl_23_0 (QL rfl rfl ty_3 rfl (QV rfl rfl (Q rfl (fun _ _ φ ψ => Pc («as» := [J n.X, J d]) rfl rfl (lapp (lcons (φ 6 rfl) (lcons (φ 7 rfl) rfl)) rfl) tf_57 (c_vec_Round n.X d (by first | omega | assumption | (constructor <;> omega) | simp) (by first | omega | assumption | (constructor <;> omega) | simp)) fun H2 m2 => ⟨rfl, ψ.trans m2⟩) (QF rfl rfl fl_23_1 (QL rfl rfl ty_3 rfl (QV rfl rfl (Q rfl (fun _ _ φ ψ => Pc («as» := [J n.Y, J d]) rfl rfl (lapp (lcons (φ 10 rfl) (lcons (φ 11 rfl) rfl)) rfl) tf_57 (c_vec_Round n.Y d (by first | omega | assumption | (constructor <;> omega) | simp) (by first | omega | assumption | (constructor <;> omega) | simp)) fun H2 m2 => ⟨rfl, ψ.trans m2⟩) (QF rfl rfl fl_23_2 (QL rfl rfl ty_3 rfl (QV rfl rfl (Q rfl (fun _ _ φ ψ => Pc («as» := [J n.Z, J d]) rfl rfl (lapp (lcons (φ 14 rfl) (lcons (φ 15 rfl) rfl)) rfl) tf_57 (c_vec_Round n.Z d (by first | omega | assumption | (constructor <;> omega) | simp) (by first | omega | assumption | (constructor <;> omega) | simp)) fun H2 m2 => ⟨rfl, ψ.trans m2⟩) (Q rfl (fun _ _ φ ψ => Bl (cells := [J (R_vec_Round n.X d), J (R_vec_Round n.Y d), J (R_vec_Round n.Z d)]) rfl tz_23 pl_23 (lconsP (φ 8 rfl) (lconsP (φ 12 rfl) (lconsP (φ 16 rfl) rfl))) rfl ⟨rfl, ψ⟩) ?_))))))))))))
 refine QE.done fun H21 m22 => ?_
 have h23 := m22 _ _ h20
 have m24 := m18.trans m22
 refine C rfl (Sw rfl rfl ts_23 h23 rfl rfl rfl ?_)
 intro H25 h26 k27
 have m29 := Mono.set m24 z14 k27
 refine rt_ ?_
 refine Rr (Res.list1 rfl (.cell (v := .agg [J (R_vec_Round n.X d), J (R_vec_Round n.Y d), J (R_vec_Round n.Z d)]) rfl ty_23 h26 rfl (.nil))) ?_ m29
 have hR : R_relief_of n d = (VT.mk (R_vec_Round n.X d) (R_vec_Round n.Y d) (R_vec_Round n.Z d)) := rfl
 exact (congrArg (fun r : VT => (.agg [J r.X, J r.Y, J r.Z] : AV)) hR).symm
def R_ref09_Of (n : VT) (d : Int) : VT :=
  (VT.mk (R_ref02_Round n.X d) (R_ref02_Round n.Y d) (R_ref02_Round n.Z d))
theorem c_ref09_Of (n : VT) (d : Int) (hn : inV 2305843009213693952 n) (hd : d ≤ 2305843009213693952) : PC Tryd.prog 74 [.agg [J n.X, J n.Y, J n.Z], J d] (.agg [J ((R_ref09_Of n d).X), J ((R_ref09_Of n d).Y), J ((R_ref09_Of n d).Z)]) := by
 intro H0
 refine ACalls.of_body' (n := 18) rfl rfl rfl rfl ?_
 have m0 := Mono.refl H0
 refine Sr ?_
 refine C rfl (bx_ (.agg [J n.X, J n.Y, J n.Z]) rfl rfl rfl ?_)
 intro i1 H2 n3 h4 k5
 have z6 := Mono.free m0 n3
 have m7 := Mono.new m0 n3 k5
 refine C rfl (al_ rfl tz_23 ?_)
 intro i8 H9 n10 h11 k12
 have e13 := ne_new h4 n10
 have z14 := Mono.free m7 n10
 have h15 := keep k12 (ne_new h4 n10) h4
 have m16 := Mono.new m7 n10 k12
 refine AWP.seq ?_
 refine fz_ 2 h15 z6 rfl m16 fun H17 m18 k19 => ?_
 have h20 := (k19 _ (Ne.symm e13)).trans h11
 refine AWP.region_quiet mixed (by kernel_rfl) 13 [13] rfl (by kernel_rfl) (Mono H17) (Mono.refl _) ?_
 refine QF rfl rfl fl_23_0 (QL rfl rfl ty_3 rfl (QV rfl rfl (Q rfl (fun _ _ φ ψ => Pc («as» := [J n.X, J d]) rfl rfl (lapp (lcons (φ 6 rfl) (lcons (φ 7 rfl) rfl)) rfl) tf_73 (c_ref02_Round n.X d (by first | omega | assumption | (constructor <;> omega) | simp) (by first | omega | assumption | (constructor <;> omega) | simp)) fun H2 m2 => ⟨rfl, ψ.trans m2⟩) (QF rfl rfl fl_23_1 (QL rfl rfl ty_3 rfl (QV rfl rfl (Q rfl (fun _ _ φ ψ => Pc («as» := [J n.Y, J d]) rfl rfl (lapp (lcons (φ 10 rfl) (lcons (φ 11 rfl) rfl)) rfl) tf_73 (c_ref02_Round n.Y d (by first | omega | assumption | (constructor <;> omega) | simp) (by first | omega | assumption | (constructor <;> omega) | simp)) fun H2 m2 => ⟨rfl, ψ.trans m2⟩) (QF rfl rfl fl_23_2 (QL rfl rfl ty_3 rfl (QV rfl rfl (Q rfl (fun _ _ φ ψ => Pc («as» := [J n.Z, J d]) rfl rfl (lapp (lcons (φ 14 rfl) (lcons (φ 15 rfl) rfl)) rfl) tf_73 (c_ref02_Round n.Z d (by first | omega | assumption | (constructor <;> omega) | simp) (by first | omega | assumption | (constructor <;> omega) | simp)) fun H2 m2 => ⟨rfl, ψ.trans m2⟩) (Q rfl (fun _ _ φ ψ => Bl (cells := [J (R_ref02_Round n.X d), J (R_ref02_Round n.Y d), J (R_ref02_Round n.Z d)]) rfl tz_23 pl_23 (lconsP (φ 8 rfl) (lconsP (φ 12 rfl) (lconsP (φ 16 rfl) rfl))) rfl ⟨rfl, ψ⟩) ?_))))))))))))
 refine QE.done fun H21 m22 => ?_
 have h23 := m22 _ _ h20
 have m24 := m18.trans m22
 refine C rfl (Sw rfl rfl ts_23 h23 rfl rfl rfl ?_)
 intro H25 h26 k27
 have m29 := Mono.set m24 z14 k27
 refine rt_ ?_
 refine Rr (Res.list1 rfl (.cell (v := .agg [J (R_ref02_Round n.X d), J (R_ref02_Round n.Y d), J (R_ref02_Round n.Z d)]) rfl ty_23 h26 rfl (.nil))) ?_ m29
 have hR : R_ref09_Of n d = (VT.mk (R_ref02_Round n.X d) (R_ref02_Round n.Y d) (R_ref02_Round n.Z d)) := rfl
 exact (congrArg (fun r : VT => (.agg [J r.X, J r.Y, J r.Z] : AV)) hR).symm
def R_relief_step (n : Int) (m : Int) : Int :=
  if Int.tmod (n / 16) m < 0 then Int.tmod (n / 16) m + m else Int.tmod (n / 16) m
theorem c_relief_step (n : Int) (m : Int) (hm : 1 ≤ m ∧ m ≤ 16) (hn : -1048576 ≤ n ∧ n ≤ 1048576) : PC Tryd.prog 56 [J n, J m] (J (R_relief_step n m)) := by
 intro H0
 refine ACalls.of_body' (n := 16) rfl rfl rfl rfl ?_
 have m0 := Mono.refl H0
 refine Sr ?_
 refine A rfl rfl ?_
 refine Sr ?_
 refine V rfl rfl (C rfl (AOp.shrK (D := 16) rfl rfl rfl (by decide) (by decide) (by decide) (V rfl rfl (C rfl (AOp.rem rfl rfl rfl (by omega) (A rfl rfl ?_))))))
 refine AWP.seq ?_
 refine AWP.seq ?_
 have hr := tmod_rng (n := n / 16) (show 1 ≤ m by omega)
 refine AWP.region rfl ?_
 refine V rfl rfl (B rfl rfl rfl rfl ?_)
 refine AOps.nil ?_
 change AWP _ _ _ _ _ _
 by_cases b1 : Int.tmod (n / 16) m < 0
 refine ct_ rfl (decide_eq_true b1) ?_
 refine AWP.region rfl ?_
 refine V rfl rfl (V rfl rfl (B rfl rfl rfl (iadd (by omega)) (A rfl rfl ?_)))
 refine Sr ?_
 refine V rfl rfl (A rfl rfl ?_)
 refine rt_ ?_
 refine Rr (Res.one rfl rfl) ?_ m0
 have hR : R_relief_step n m = Int.tmod (n / 16) m + m := by unfold R_relief_step; rw [if_pos b1]
 exact (congrArg (fun r : Int => (J r : AV)) hR).symm
 refine cf_ rfl (decide_eq_false b1) ?_
 refine AWP.skip ?_
 refine Sr ?_
 refine V rfl rfl (A rfl rfl ?_)
 refine rt_ ?_
 refine Rr (Res.one rfl rfl) ?_ m0
 have hR : R_relief_step n m = Int.tmod (n / 16) m := by unfold R_relief_step; rw [if_neg b1]
 exact (congrArg (fun r : Int => (J r : AV)) hR).symm
def R_ref14_step (n : Int) (m : Int) : Int :=
  if n < 0 then (if Int.tmod n 16 = 0 then (if Int.tmod (Int.tdiv n 16) m < 0 then Int.tmod (Int.tdiv n 16) m + m else Int.tmod (Int.tdiv n 16) m) else (if Int.tmod (Int.tdiv n 16 - 1) m < 0 then Int.tmod (Int.tdiv n 16 - 1) m + m else Int.tmod (Int.tdiv n 16 - 1) m)) else (if Int.tmod (Int.tdiv n 16) m < 0 then Int.tmod (Int.tdiv n 16) m + m else Int.tmod (Int.tdiv n 16) m)
def Tref14_step (r : Int) : AV := J r
theorem c_ref14_step (n : Int) (m : Int) (hm : 1 ≤ m ∧ m ≤ 16) (hn : -1048576 ≤ n ∧ n ≤ 1048576) : PC Tryd.prog 72 [J n, J m] (J (R_ref14_step n m)) := by
 intro H0
 refine ACalls.of_body' (n := 27) rfl rfl rfl rfl ?_
 have m0 := Mono.refl H0
 refine Sr ?_
 refine A rfl rfl ?_
 refine Sr ?_
 refine V rfl rfl (C rfl (AOp.quoT rfl rfl rfl (by omega) (by have := tdiv_rng (d := 16) hn (by omega); omega) (A rfl rfl ?_)))
 refine AWP.seq ?_
 refine AWP.seq ?_
 have hq := tdiv_rng (d := 16) hn (by omega)
 refine AWP.region rfl ?_
 refine V rfl rfl (B rfl rfl rfl rfl (V rfl rfl ?_))
 by_cases b1 : n < 0
 refine Y rfl rfl rfl (decide_eq_true b1) (Mv _ rfl rfl (Y rfl rfl rfl (decide_eq_true b1) (AOp.rem rfl rfl rfl (by omega) (Y rfl rfl rfl (decide_eq_true b1) (Bi _ rfl rfl rfl ine (C rfl (Pt _ rfl rfl (decide_eq_true b1) rfl ?_)))))))
 refine AOps.nil ?_
 change AWP _ _ _ _ _ _
 by_cases b2 : Int.tmod n 16 = 0
 refine cf_ rfl (nb (decide_eq_true b2)) ?_
 refine AWP.skip ?_
 refine Sr ?_
 refine V rfl rfl (V rfl rfl (C rfl (AOp.rem rfl rfl rfl (by omega) (A rfl rfl ?_))))
 refine AWP.seq ?_
 refine AWP.seq ?_
 have hr := tmod_rng (n := Int.tdiv n 16) (show 1 ≤ m by omega)
 refine AWP.region rfl ?_
 refine V rfl rfl (B rfl rfl rfl rfl ?_)
 refine AOps.nil ?_
 change AWP _ _ _ _ _ _
 by_cases b3 : Int.tmod (Int.tdiv n 16) m < 0
 refine ct_ rfl (decide_eq_true b3) ?_
 refine AWP.region rfl ?_
 refine V rfl rfl (V rfl rfl (B rfl rfl rfl (iadd (by omega)) (A rfl rfl ?_)))
 refine Sr ?_
 refine V rfl rfl (A rfl rfl ?_)
 refine rt_ ?_
 refine Rr (Res.one rfl rfl) ?_ m0
 have hR : R_ref14_step n m = Int.tmod (Int.tdiv n 16) m + m := by unfold R_ref14_step; rw [if_pos b1, if_pos b2, if_pos b3]
 exact (congrArg Tref14_step hR).symm
 refine cf_ rfl (decide_eq_false b3) ?_
 refine AWP.skip ?_
 refine Sr ?_
 refine V rfl rfl (A rfl rfl ?_)
 refine rt_ ?_
 refine Rr (Res.one rfl rfl) ?_ m0
 have hR : R_ref14_step n m = Int.tmod (Int.tdiv n 16) m := by unfold R_ref14_step; rw [if_pos b1, if_pos b2, if_neg b3]
 exact (congrArg Tref14_step hR).symm
 refine ct_ rfl (nb (decide_eq_false b2)) ?_
 refine AWP.region rfl ?_
 refine V rfl rfl (B rfl rfl rfl (isub (by omega)) (A rfl rfl ?_))
 refine Sr ?_
 refine V rfl rfl (V rfl rfl (C rfl (AOp.rem rfl rfl rfl (by omega) (A rfl rfl ?_))))
 refine AWP.seq ?_
 refine AWP.seq ?_
 have hr := tmod_rng (n := Int.tdiv n 16 - 1) (show 1 ≤ m by omega)
 refine AWP.region rfl ?_
 refine V rfl rfl (B rfl rfl rfl rfl ?_)
 refine AOps.nil ?_
 change AWP _ _ _ _ _ _
 by_cases b4 : Int.tmod (Int.tdiv n 16 - 1) m < 0
 refine ct_ rfl (decide_eq_true b4) ?_
 refine AWP.region rfl ?_
 refine V rfl rfl (V rfl rfl (B rfl rfl rfl (iadd (by omega)) (A rfl rfl ?_)))
 refine Sr ?_
 refine V rfl rfl (A rfl rfl ?_)
 refine rt_ ?_
 refine Rr (Res.one rfl rfl) ?_ m0
 have hR : R_ref14_step n m = Int.tmod (Int.tdiv n 16 - 1) m + m := by unfold R_ref14_step; rw [if_pos b1, if_neg b2, if_pos b4]
 exact (congrArg Tref14_step hR).symm
 refine cf_ rfl (decide_eq_false b4) ?_
 refine AWP.skip ?_
 refine Sr ?_
 refine V rfl rfl (A rfl rfl ?_)
 refine rt_ ?_
 refine Rr (Res.one rfl rfl) ?_ m0
 have hR : R_ref14_step n m = Int.tmod (Int.tdiv n 16 - 1) m := by unfold R_ref14_step; rw [if_pos b1, if_neg b2, if_neg b4]
 exact (congrArg Tref14_step hR).symm
 refine N rfl rfl (decide_eq_false b1) (N rfl rfl (decide_eq_false b1) (N rfl rfl (decide_eq_false b1) (C rfl (Pf _ rfl rfl (decide_eq_false b1) rfl ?_))))
 refine cf_ rfl rfl ?_
 refine AWP.skip ?_
 refine Sr ?_
 refine V rfl rfl (V rfl rfl (C rfl (AOp.rem rfl rfl rfl (by omega) (A rfl rfl ?_))))
 refine AWP.seq ?_
 refine AWP.seq ?_
 have hr := tmod_rng (n := Int.tdiv n 16) (show 1 ≤ m by omega)
 refine AWP.region rfl ?_
 refine V rfl rfl (B rfl rfl rfl rfl ?_)
 refine AOps.nil ?_
 change AWP _ _ _ _ _ _
 by_cases b5 : Int.tmod (Int.tdiv n 16) m < 0
 refine ct_ rfl (decide_eq_true b5) ?_
 refine AWP.region rfl ?_
 refine V rfl rfl (V rfl rfl (B rfl rfl rfl (iadd (by omega)) (A rfl rfl ?_)))
 refine Sr ?_
 refine V rfl rfl (A rfl rfl ?_)
 refine rt_ ?_
 refine Rr (Res.one rfl rfl) ?_ m0
 have hR : R_ref14_step n m = Int.tmod (Int.tdiv n 16) m + m := by unfold R_ref14_step; rw [if_neg b1, if_pos b5]
 exact (congrArg Tref14_step hR).symm
 refine cf_ rfl (decide_eq_false b5) ?_
 refine AWP.skip ?_
 refine Sr ?_
 refine V rfl rfl (A rfl rfl ?_)
 refine rt_ ?_
 refine Rr (Res.one rfl rfl) ?_ m0
 have hR : R_ref14_step n m = Int.tmod (Int.tdiv n 16) m := by unfold R_ref14_step; rw [if_neg b1, if_neg b5]
 exact (congrArg Tref14_step hR).symm
def R_relief_Blend (a : VT) (b : VT) (i : Int) (n : Int) : VT × Bool :=
  if n < 1 then ((VT.mk 0 0 0), false) else (if n > 16 then ((VT.mk 0 0 0), false) else (if i < 0 then ((VT.mk 0 0 0), false) else (if i > n then ((VT.mk 0 0 0), false) else (if R_vec_Within a 1023 = true then (if R_vec_Within b 1023 = true then ((R_relief_of (R_vec_Add (R_vec_Scale a (n - i)) (R_vec_Scale b i)) n), true) else ((VT.mk 0 0 0), false)) else ((VT.mk 0 0 0), false)))))
abbrev Zrelief_Blend_0 (a : VT) (b : VT) (i : Int) (n : Int) := R_relief_of (R_vec_Add (R_vec_Scale a (n - i)) (R_vec_Scale b i)) n
def Trelief_Blend (r : VT × Bool) : AV := .tup [.agg [J r.1.X, J r.1.Y, J r.1.Z], .bool r.2]
theorem c_relief_Blend (a : VT) (b : VT) (i : Int) (n : Int) : PC Tryd.prog 85 [.agg [J a.X, J a.Y, J a.Z], .agg [J b.X, J b.Y, J b.Z], J i, J n] (.tup [.agg [J (((R_relief_Blend a b i n).1).X), J (((R_relief_Blend a b i n).1).Y), J (((R_relief_Blend a b i n).1).Z)], .bool ((R_relief_Blend a b i n).2)]) := by
 intro H0
 refine ACalls.of_body' (n := 47) rfl rfl rfl rfl ?_
 have m0 := Mono.refl H0
 refine Sr ?_
 refine C rfl (bx_ (.agg [J a.X, J a.Y, J a.Z]) rfl rfl rfl ?_)
 intro i1 H2 n3 h4 k5
 have z6 := Mono.free m0 n3
 have m7 := Mono.new m0 n3 k5
 refine C rfl (bx_ (.agg [J b.X, J b.Y, J b.Z]) rfl rfl rfl ?_)
 intro i8 H9 n10 h11 k12
 have e13 := ne_new h4 n10
 have z14 := Mono.free m7 n10
 have h15 := keep k12 (ne_new h4 n10) h4
 have m16 := Mono.new m7 n10 k12
 refine C rfl (al_ rfl tz_23 ?_)
 intro i17 H18 n19 h20 k21
 have e22 := ne_new h15 n19
 have e23 := ne_new h11 n19
 have z24 := Mono.free m16 n19
 have h25 := keep k21 (ne_new h15 n19) h15
 have h26 := keep k21 (ne_new h11 n19) h11
 have m27 := Mono.new m16 n19 k21
 refine A rfl rfl ?_
 refine AWP.seq ?_
 refine AWP.seq ?_
 refine fz_ 4 h25 z6 rfl m27 fun H28 m29 k30 => ?_
 have h31 := (k30 _ (Ne.symm e13)).trans h26
 have h32 := (k30 _ (Ne.symm e22)).trans h20
 refine fz_ 5 h31 z14 rfl m29 fun H33 m34 k35 => ?_
 have h36 := (k35 _ (Ne.symm e23)).trans h32
 refine AWP.region rfl ?_
 refine V rfl rfl (B rfl rfl rfl rfl (V rfl rfl ?_))
 by_cases b37 : n < 1
 refine N rfl rfl (decide_eq_true b37) (N rfl rfl (decide_eq_true b37) (C rfl (Pt _ rfl rfl (decide_eq_true b37) rfl (V rfl rfl (N rfl rfl rfl (N rfl rfl rfl (C rfl (Pt _ rfl rfl rfl rfl (V rfl rfl (N rfl rfl rfl (N rfl rfl rfl (N rfl rfl rfl (C rfl (Pt _ rfl rfl rfl rfl (V rfl rfl (N rfl rfl rfl (N rfl rfl rfl (N rfl rfl rfl (C rfl (Pt _ rfl rfl rfl rfl (V rfl rfl ?_)))))))))))))))))))))
 refine N rfl rfl rfl (N rfl rfl rfl (N rfl rfl rfl (C rfl (Pt _ rfl rfl rfl rfl ?_))))
 refine ct_ rfl rfl ?_
 refine Sr ?_
 refine C rfl (Bl (cells := [J 0, J 0, J 0]) rfl tz_23 pl_23 rfl rfl (C rfl (Sw rfl rfl ts_23 h36 rfl rfl rfl ?_)))
 intro H38 h39 k40
 have m42 := Mono.set m34 z24 k40
 refine A rfl rfl ?_
 refine rt_ ?_
 refine Rr (Res.list rfl rfl (.cell (v := .agg [J 0, J 0, J 0]) rfl ty_23 h39 rfl (.tmp rfl (.nil)))) ?_ m42
 have hR : R_relief_Blend a b i n = ((VT.mk 0 0 0), false) := by unfold R_relief_Blend; rw [if_pos b37]
 exact (congrArg Trelief_Blend hR).symm
 refine Y rfl rfl rfl (decide_eq_false b37) (Mv _ rfl rfl (Y rfl rfl rfl (decide_eq_false b37) (Bi _ rfl rfl rfl rfl (C rfl (Pf _ rfl rfl (decide_eq_false b37) rfl (V rfl rfl ?_))))))
 by_cases b43 : n > 16
 refine N rfl rfl (decide_eq_true b43) (N rfl rfl (decide_eq_true b43) (C rfl (Pt _ rfl rfl (decide_eq_true b43) rfl (V rfl rfl (N rfl rfl rfl (N rfl rfl rfl (N rfl rfl rfl (C rfl (Pt _ rfl rfl rfl rfl (V rfl rfl (N rfl rfl rfl (N rfl rfl rfl (N rfl rfl rfl (C rfl (Pt _ rfl rfl rfl rfl (V rfl rfl (N rfl rfl rfl (N rfl rfl rfl (N rfl rfl rfl (C rfl (Pt _ rfl rfl rfl rfl ?_)))))))))))))))))))))
 refine ct_ rfl rfl ?_
 refine Sr ?_
 refine C rfl (Bl (cells := [J 0, J 0, J 0]) rfl tz_23 pl_23 rfl rfl (C rfl (Sw rfl rfl ts_23 h36 rfl rfl rfl ?_)))
 intro H44 h45 k46
 have m48 := Mono.set m34 z24 k46
 refine A rfl rfl ?_
 refine rt_ ?_
 refine Rr (Res.list rfl rfl (.cell (v := .agg [J 0, J 0, J 0]) rfl ty_23 h45 rfl (.tmp rfl (.nil)))) ?_ m48
 have hR : R_relief_Blend a b i n = ((VT.mk 0 0 0), false) := by unfold R_relief_Blend; rw [if_neg b37, if_pos b43]
 exact (congrArg Trelief_Blend hR).symm
 refine Y rfl rfl rfl (decide_eq_false b43) (Mv _ rfl rfl (Y rfl rfl rfl (decide_eq_false b43) (Bi _ rfl rfl rfl rfl (C rfl (Pf _ rfl rfl (decide_eq_false b43) rfl (V rfl rfl ?_))))))
 by_cases b49 : i < 0
 refine N rfl rfl (decide_eq_true b49) (N rfl rfl (decide_eq_true b49) (N rfl rfl (decide_eq_true b49) (C rfl (Pt _ rfl rfl (decide_eq_true b49) rfl (V rfl rfl (N rfl rfl rfl (N rfl rfl rfl (N rfl rfl rfl (C rfl (Pt _ rfl rfl rfl rfl (V rfl rfl (N rfl rfl rfl (N rfl rfl rfl (N rfl rfl rfl (C rfl (Pt _ rfl rfl rfl rfl ?_))))))))))))))))
 refine ct_ rfl rfl ?_
 refine Sr ?_
 refine C rfl (Bl (cells := [J 0, J 0, J 0]) rfl tz_23 pl_23 rfl rfl (C rfl (Sw rfl rfl ts_23 h36 rfl rfl rfl ?_)))
 intro H50 h51 k52
 have m54 := Mono.set m34 z24 k52
 refine A rfl rfl ?_
 refine rt_ ?_
 refine Rr (Res.list rfl rfl (.cell (v := .agg [J 0, J 0, J 0]) rfl ty_23 h51 rfl (.tmp rfl (.nil)))) ?_ m54
 have hR : R_relief_Blend a b i n = ((VT.mk 0 0 0), false) := by unfold R_relief_Blend; rw [if_neg b37, if_neg b43, if_pos b49]
 exact (congrArg Trelief_Blend hR).symm
 refine Y rfl rfl rfl (decide_eq_false b49) (Mv _ rfl rfl (Y rfl rfl rfl (decide_eq_false b49) (Mv _ rfl rfl (Y rfl rfl rfl (decide_eq_false b49) (Bi _ rfl rfl rfl rfl (C rfl (Pf _ rfl rfl (decide_eq_false b49) rfl (V rfl rfl ?_))))))))
 by_cases b55 : i > n
 refine N rfl rfl (decide_eq_true b55) (N rfl rfl (decide_eq_true b55) (N rfl rfl (decide_eq_true b55) (C rfl (Pt _ rfl rfl (decide_eq_true b55) rfl (V rfl rfl (N rfl rfl rfl (N rfl rfl rfl (N rfl rfl rfl (C rfl (Pt _ rfl rfl rfl rfl ?_))))))))))
 refine ct_ rfl rfl ?_
 refine Sr ?_
 refine C rfl (Bl (cells := [J 0, J 0, J 0]) rfl tz_23 pl_23 rfl rfl (C rfl (Sw rfl rfl ts_23 h36 rfl rfl rfl ?_)))
 intro H56 h57 k58
 have m60 := Mono.set m34 z24 k58
 refine A rfl rfl ?_
 refine rt_ ?_
 refine Rr (Res.list rfl rfl (.cell (v := .agg [J 0, J 0, J 0]) rfl ty_23 h57 rfl (.tmp rfl (.nil)))) ?_ m60
 have hR : R_relief_Blend a b i n = ((VT.mk 0 0 0), false) := by unfold R_relief_Blend; rw [if_neg b37, if_neg b43, if_neg b49, if_pos b55]
 exact (congrArg Trelief_Blend hR).symm
 refine Y rfl rfl rfl (decide_eq_false b55) (Lf _ rfl rfl ty_23 rfl (Y rfl rfl rfl (decide_eq_false b55) (Pc («as» := [.agg [J a.X, J a.Y, J a.Z], J 1023]) rfl rfl (rfl) tf_18 (c_vec_Within a 1023 (by first | omega | assumption | (constructor <;> omega) | simp)) ?_)))
 intro H61 m62
 have h63 := m62 _ _ h36
 have m64 := m34.trans m62
 refine Y rfl rfl rfl (decide_eq_false b55) (AOp.not rfl rfl (C rfl (Pf _ rfl rfl (decide_eq_false b55) rfl (V rfl rfl ?_))))
 rcases Bool.eq_false_or_eq_true (R_vec_Within a 1023) with b65 | b65
 have iv66 : inV 1023 a := withinvec_in b65
 refine Y rfl rfl rfl (nb b65) (Lf _ rfl rfl ty_23 rfl (Y rfl rfl rfl (nb b65) (Pc («as» := [.agg [J b.X, J b.Y, J b.Z], J 1023]) rfl rfl (rfl) tf_18 (c_vec_Within b 1023 (by first | omega | assumption | (constructor <;> omega) | simp)) ?_)))
 intro H67 m68
 have h69 := m68 _ _ h63
 have m70 := m64.trans m68
 refine Y rfl rfl rfl (nb b65) (AOp.not rfl rfl (C rfl (Pf _ rfl rfl (nb b65) rfl ?_)))
 refine AOps.nil ?_
 change AWP _ _ _ _ _ _
 rcases Bool.eq_false_or_eq_true (R_vec_Within b 1023) with b71 | b71
 have iv72 : inV 1023 b := withinvec_in b71
 refine cf_ rfl (nb b71) ?_
 refine AWP.skip ?_
 refine AWP.seq ?_
 refine AWP.region_quiet mixed (by kernel_rfl) 11 [11, 12] rfl (by kernel_rfl) (Mono H67) (Mono.refl _) ?_
 refine QL rfl rfl ty_23 rfl (QV rfl rfl (QV rfl rfl (QB rfl rfl rfl (isub (by omega)) (Q rfl (fun _ _ φ ψ => Pc («as» := [.agg [J a.X, J a.Y, J a.Z], J (n - i)]) rfl rfl (lapp (lcons (φ 36 rfl) (lcons (φ 39 rfl) rfl)) rfl) tf_59 (c_vec_Scale a (n - i) (mulV_of iv66 (C := 16) (by omega) (by decide))) fun H2 m2 => ⟨rfl, ψ.trans m2⟩) (QL rfl rfl ty_23 rfl (QV rfl rfl (Q rfl (fun _ _ φ ψ => Pc («as» := [.agg [J b.X, J b.Y, J b.Z], J i]) rfl rfl (lapp (lcons (φ 41 rfl) (lcons (φ 42 rfl) rfl)) rfl) tf_59 (c_vec_Scale b i (mulV_of iv72 (C := 16) (by omega) (by decide))) fun H2 m2 => ⟨rfl, ψ.trans m2⟩) (Q rfl (fun _ _ φ ψ => Pc («as» := [.agg [J ((R_vec_Scale a (n - i)).X), J ((R_vec_Scale a (n - i)).Y), J ((R_vec_Scale a (n - i)).Z)], .agg [J ((R_vec_Scale b i).X), J ((R_vec_Scale b i).Y), J ((R_vec_Scale b i).Z)]]) rfl rfl (lapp (lcons (φ 40 rfl) (lcons (φ 43 rfl) rfl)) rfl) tf_38 (c_vec_Add (R_vec_Scale a (n - i)) (R_vec_Scale b i) (inV_le (inV_le (inV_vec_Scale iv66 (C := 16) (by omega)) (by decide) : inV 16368 _) (by decide)) (inV_le (inV_le (inV_vec_Scale iv72 (C := 16) (by omega)) (by decide) : inV 16368 _) (by decide))) fun H2 m2 => ⟨rfl, ψ.trans m2⟩) (QV rfl rfl ?_)))))))))
 refine Q rfl (fun _ _ φ ψ => Pc («as» := [.agg [J ((R_vec_Add (R_vec_Scale a (n - i)) (R_vec_Scale b i)).X), J ((R_vec_Add (R_vec_Scale a (n - i)) (R_vec_Scale b i)).Y), J ((R_vec_Add (R_vec_Scale a (n - i)) (R_vec_Scale b i)).Z)], J n]) rfl rfl (lapp (lcons (φ 44 rfl) (lcons (φ 45 rfl) rfl)) rfl) tf_58 (c_relief_of (R_vec_Add (R_vec_Scale a (n - i)) (R_vec_Scale b i)) n (inV_le (inV_le (inV_vec_Add (inV_le (inV_vec_Scale iv66 (C := 16) (by omega)) (by decide) : inV 16368 _) (inV_le (inV_vec_Scale iv72 (C := 16) (by omega)) (by decide) : inV 16368 _)) (by decide) : inV 32736 _) (by decide)) (by first | omega | assumption)) fun H2 m2 => ⟨rfl, ψ.trans m2⟩) ?_
 refine QE.done fun H73 m74 => ?_
 have h75 := m74 _ _ h69
 have m76 := m70.trans m74
 refine C rfl (Sw rfl rfl ts_23 h75 rfl rfl rfl ?_)
 intro H77 h78 k79
 have m81 := Mono.set m76 z24 k79
 refine A rfl rfl ?_
 refine rt_ ?_
 refine Rr (Res.list rfl rfl (.cell (v := .agg [J ((Zrelief_Blend_0 a b i n).X), J ((Zrelief_Blend_0 a b i n).Y), J ((Zrelief_Blend_0 a b i n).Z)]) rfl ty_23 h78 rfl (.tmp rfl (.nil)))) ?_ m81
 have hR : R_relief_Blend a b i n = ((Zrelief_Blend_0 a b i n), true) := by unfold R_relief_Blend; rw [if_neg b37, if_neg b43, if_neg b49, if_neg b55, if_pos b65, if_pos b71]
 exact (congrArg Trelief_Blend hR).symm
 refine ct_ rfl (nb b71) ?_
 refine Sr ?_
 refine C rfl (Bl (cells := [J 0, J 0, J 0]) rfl tz_23 pl_23 rfl rfl (C rfl (Sw rfl rfl ts_23 h69 rfl rfl rfl ?_)))
 intro H82 h83 k84
 have m86 := Mono.set m70 z24 k84
 refine A rfl rfl ?_
 refine rt_ ?_
 refine Rr (Res.list rfl rfl (.cell (v := .agg [J 0, J 0, J 0]) rfl ty_23 h83 rfl (.tmp rfl (.nil)))) ?_ m86
 have hR : R_relief_Blend a b i n = ((VT.mk 0 0 0), false) := by unfold R_relief_Blend; rw [if_neg b37, if_neg b43, if_neg b49, if_neg b55, if_pos b65, if_neg (ff b71)]
 exact (congrArg Trelief_Blend hR).symm
 refine N rfl rfl (nb b65) (N rfl rfl (nb b65) (N rfl rfl (nb b65) (C rfl (Pt _ rfl rfl (nb b65) rfl ?_))))
 refine ct_ rfl rfl ?_
 refine Sr ?_
 refine C rfl (Bl (cells := [J 0, J 0, J 0]) rfl tz_23 pl_23 rfl rfl (C rfl (Sw rfl rfl ts_23 h63 rfl rfl rfl ?_)))
 intro H87 h88 k89
 have m91 := Mono.set m64 z24 k89
 refine A rfl rfl ?_
 refine rt_ ?_
 refine Rr (Res.list rfl rfl (.cell (v := .agg [J 0, J 0, J 0]) rfl ty_23 h88 rfl (.tmp rfl (.nil)))) ?_ m91
 have hR : R_relief_Blend a b i n = ((VT.mk 0 0 0), false) := by unfold R_relief_Blend; rw [if_neg b37, if_neg b43, if_neg b49, if_neg b55, if_neg (ff b65)]
 exact (congrArg Trelief_Blend hR).symm
def R_ref14_Blend (a : VT) (b : VT) (i : Int) (n : Int) : VT × Bool :=
  if n < 1 then ((VT.mk 0 0 0), false) else (if n > 16 then ((VT.mk 0 0 0), false) else (if i < 0 then ((VT.mk 0 0 0), false) else (if i > n then ((VT.mk 0 0 0), false) else (if R_ref00_Within a 1023 = true then (if R_ref00_Within b 1023 = true then ((R_ref09_Of (R_ref02_Add (R_ref02_Scale a (n - i)) (R_ref02_Scale b i)) n), true) else ((VT.mk 0 0 0), false)) else ((VT.mk 0 0 0), false)))))
abbrev Zref14_Blend_0 (a : VT) (b : VT) (i : Int) (n : Int) := R_ref02_Add (R_ref02_Scale a (n - i)) (R_ref02_Scale b i)
def Tref14_Blend (r : VT × Bool) : AV := .tup [.agg [J r.1.X, J r.1.Y, J r.1.Z], .bool r.2]
theorem c_ref14_Blend (a : VT) (b : VT) (i : Int) (n : Int) : PC Tryd.prog 68 [.agg [J a.X, J a.Y, J a.Z], .agg [J b.X, J b.Y, J b.Z], J i, J n] (.tup [.agg [J (((R_ref14_Blend a b i n).1).X), J (((R_ref14_Blend a b i n).1).Y), J (((R_ref14_Blend a b i n).1).Z)], .bool ((R_ref14_Blend a b i n).2)]) := by
 intro H0
 refine ACalls.of_body' (n := 47) rfl rfl rfl rfl ?_
 have m0 := Mono.refl H0
 refine Sr ?_
 refine C rfl (bx_ (.agg [J a.X, J a.Y, J a.Z]) rfl rfl rfl ?_)
 intro i1 H2 n3 h4 k5
 have z6 := Mono.free m0 n3
 have m7 := Mono.new m0 n3 k5
 refine C rfl (bx_ (.agg [J b.X, J b.Y, J b.Z]) rfl rfl rfl ?_)
 intro i8 H9 n10 h11 k12
 have e13 := ne_new h4 n10
 have z14 := Mono.free m7 n10
 have h15 := keep k12 (ne_new h4 n10) h4
 have m16 := Mono.new m7 n10 k12
 refine C rfl (al_ rfl tz_23 ?_)
 intro i17 H18 n19 h20 k21
 have e22 := ne_new h15 n19
 have e23 := ne_new h11 n19
 have z24 := Mono.free m16 n19
 have h25 := keep k21 (ne_new h15 n19) h15
 have h26 := keep k21 (ne_new h11 n19) h11
 have m27 := Mono.new m16 n19 k21
 refine A rfl rfl ?_
 refine AWP.seq ?_
 refine AWP.seq ?_
 refine fz_ 4 h25 z6 rfl m27 fun H28 m29 k30 => ?_
 have h31 := (k30 _ (Ne.symm e13)).trans h26
 have h32 := (k30 _ (Ne.symm e22)).trans h20
 refine fz_ 5 h31 z14 rfl m29 fun H33 m34 k35 => ?_
 have h36 := (k35 _ (Ne.symm e23)).trans h32
 refine AWP.region rfl ?_
 refine V rfl rfl (B rfl rfl rfl rfl (V rfl rfl ?_))
 by_cases b37 : n < 1
 refine N rfl rfl (decide_eq_true b37) (N rfl rfl (decide_eq_true b37) (C rfl (Pt _ rfl rfl (decide_eq_true b37) rfl (V rfl rfl (N rfl rfl rfl (N rfl rfl rfl (C rfl (Pt _ rfl rfl rfl rfl (V rfl rfl (N rfl rfl rfl (N rfl rfl rfl (N rfl rfl rfl (C rfl (Pt _ rfl rfl rfl rfl (V rfl rfl (N rfl rfl rfl (N rfl rfl rfl (N rfl rfl rfl (C rfl (Pt _ rfl rfl rfl rfl (V rfl rfl ?_)))))))))))))))))))))
 refine N rfl rfl rfl (N rfl rfl rfl (N rfl rfl rfl (C rfl (Pt _ rfl rfl rfl rfl ?_))))
 refine ct_ rfl rfl ?_
 refine Sr ?_
 refine C rfl (Bl (cells := [J 0, J 0, J 0]) rfl tz_23 pl_23 rfl rfl (C rfl (Sw rfl rfl ts_23 h36 rfl rfl rfl ?_)))
 intro H38 h39 k40
 have m42 := Mono.set m34 z24 k40
 refine A rfl rfl ?_
 refine rt_ ?_
 refine Rr (Res.list rfl rfl (.cell (v := .agg [J 0, J 0, J 0]) rfl ty_23 h39 rfl (.tmp rfl (.nil)))) ?_ m42
 have hR : R_ref14_Blend a b i n = ((VT.mk 0 0 0), false) := by unfold R_ref14_Blend; rw [if_pos b37]
 exact (congrArg Tref14_Blend hR).symm
 refine Y rfl rfl rfl (decide_eq_false b37) (Mv _ rfl rfl (Y rfl rfl rfl (decide_eq_false b37) (Bi _ rfl rfl rfl rfl (C rfl (Pf _ rfl rfl (decide_eq_false b37) rfl (V rfl rfl ?_))))))
 by_cases b43 : n > 16
 refine N rfl rfl (decide_eq_true b43) (N rfl rfl (decide_eq_true b43) (C rfl (Pt _ rfl rfl (decide_eq_true b43) rfl (V rfl rfl (N rfl rfl rfl (N rfl rfl rfl (N rfl rfl rfl (C rfl (Pt _ rfl rfl rfl rfl (V rfl rfl (N rfl rfl rfl (N rfl rfl rfl (N rfl rfl rfl (C rfl (Pt _ rfl rfl rfl rfl (V rfl rfl (N rfl rfl rfl (N rfl rfl rfl (N rfl rfl rfl (C rfl (Pt _ rfl rfl rfl rfl ?_)))))))))))))))))))))
 refine ct_ rfl rfl ?_
 refine Sr ?_
 refine C rfl (Bl (cells := [J 0, J 0, J 0]) rfl tz_23 pl_23 rfl rfl (C rfl (Sw rfl rfl ts_23 h36 rfl rfl rfl ?_)))
 intro H44 h45 k46
 have m48 := Mono.set m34 z24 k46
 refine A rfl rfl ?_
 refine rt_ ?_
 refine Rr (Res.list rfl rfl (.cell (v := .agg [J 0, J 0, J 0]) rfl ty_23 h45 rfl (.tmp rfl (.nil)))) ?_ m48
 have hR : R_ref14_Blend a b i n = ((VT.mk 0 0 0), false) := by unfold R_ref14_Blend; rw [if_neg b37, if_pos b43]
 exact (congrArg Tref14_Blend hR).symm
 refine Y rfl rfl rfl (decide_eq_false b43) (Mv _ rfl rfl (Y rfl rfl rfl (decide_eq_false b43) (Bi _ rfl rfl rfl rfl (C rfl (Pf _ rfl rfl (decide_eq_false b43) rfl (V rfl rfl ?_))))))
 by_cases b49 : i < 0
 refine N rfl rfl (decide_eq_true b49) (N rfl rfl (decide_eq_true b49) (N rfl rfl (decide_eq_true b49) (C rfl (Pt _ rfl rfl (decide_eq_true b49) rfl (V rfl rfl (N rfl rfl rfl (N rfl rfl rfl (N rfl rfl rfl (C rfl (Pt _ rfl rfl rfl rfl (V rfl rfl (N rfl rfl rfl (N rfl rfl rfl (N rfl rfl rfl (C rfl (Pt _ rfl rfl rfl rfl ?_))))))))))))))))
 refine ct_ rfl rfl ?_
 refine Sr ?_
 refine C rfl (Bl (cells := [J 0, J 0, J 0]) rfl tz_23 pl_23 rfl rfl (C rfl (Sw rfl rfl ts_23 h36 rfl rfl rfl ?_)))
 intro H50 h51 k52
 have m54 := Mono.set m34 z24 k52
 refine A rfl rfl ?_
 refine rt_ ?_
 refine Rr (Res.list rfl rfl (.cell (v := .agg [J 0, J 0, J 0]) rfl ty_23 h51 rfl (.tmp rfl (.nil)))) ?_ m54
 have hR : R_ref14_Blend a b i n = ((VT.mk 0 0 0), false) := by unfold R_ref14_Blend; rw [if_neg b37, if_neg b43, if_pos b49]
 exact (congrArg Tref14_Blend hR).symm
 refine Y rfl rfl rfl (decide_eq_false b49) (Mv _ rfl rfl (Y rfl rfl rfl (decide_eq_false b49) (Mv _ rfl rfl (Y rfl rfl rfl (decide_eq_false b49) (Bi _ rfl rfl rfl rfl (C rfl (Pf _ rfl rfl (decide_eq_false b49) rfl (V rfl rfl ?_))))))))
 by_cases b55 : i > n
 refine N rfl rfl (decide_eq_true b55) (N rfl rfl (decide_eq_true b55) (N rfl rfl (decide_eq_true b55) (C rfl (Pt _ rfl rfl (decide_eq_true b55) rfl (V rfl rfl (N rfl rfl rfl (N rfl rfl rfl (N rfl rfl rfl (C rfl (Pt _ rfl rfl rfl rfl ?_))))))))))
 refine ct_ rfl rfl ?_
 refine Sr ?_
 refine C rfl (Bl (cells := [J 0, J 0, J 0]) rfl tz_23 pl_23 rfl rfl (C rfl (Sw rfl rfl ts_23 h36 rfl rfl rfl ?_)))
 intro H56 h57 k58
 have m60 := Mono.set m34 z24 k58
 refine A rfl rfl ?_
 refine rt_ ?_
 refine Rr (Res.list rfl rfl (.cell (v := .agg [J 0, J 0, J 0]) rfl ty_23 h57 rfl (.tmp rfl (.nil)))) ?_ m60
 have hR : R_ref14_Blend a b i n = ((VT.mk 0 0 0), false) := by unfold R_ref14_Blend; rw [if_neg b37, if_neg b43, if_neg b49, if_pos b55]
 exact (congrArg Tref14_Blend hR).symm
 refine Y rfl rfl rfl (decide_eq_false b55) (Lf _ rfl rfl ty_23 rfl (Y rfl rfl rfl (decide_eq_false b55) (Pc («as» := [.agg [J a.X, J a.Y, J a.Z], J 1023]) rfl rfl (rfl) tf_60 (c_ref00_Within a 1023 (by first | omega | assumption | (constructor <;> omega) | simp)) ?_)))
 intro H61 m62
 have h63 := m62 _ _ h36
 have m64 := m34.trans m62
 refine Y rfl rfl rfl (decide_eq_false b55) (AOp.not rfl rfl (C rfl (Pf _ rfl rfl (decide_eq_false b55) rfl (V rfl rfl ?_))))
 rcases Bool.eq_false_or_eq_true (R_ref00_Within a 1023) with b65 | b65
 have iv66 : inV 1023 a := withinref00_in b65
 refine Y rfl rfl rfl (nb b65) (Lf _ rfl rfl ty_23 rfl (Y rfl rfl rfl (nb b65) (Pc («as» := [.agg [J b.X, J b.Y, J b.Z], J 1023]) rfl rfl (rfl) tf_60 (c_ref00_Within b 1023 (by first | omega | assumption | (constructor <;> omega) | simp)) ?_)))
 intro H67 m68
 have h69 := m68 _ _ h63
 have m70 := m64.trans m68
 refine Y rfl rfl rfl (nb b65) (AOp.not rfl rfl (C rfl (Pf _ rfl rfl (nb b65) rfl ?_)))
 refine AOps.nil ?_
 change AWP _ _ _ _ _ _
 rcases Bool.eq_false_or_eq_true (R_ref00_Within b 1023) with b71 | b71
 have iv72 : inV 1023 b := withinref00_in b71
 refine cf_ rfl (nb b71) ?_
 refine AWP.skip ?_
 refine AWP.seq ?_
 refine AWP.region_quiet mixed (by kernel_rfl) 11 [11, 12] rfl (by kernel_rfl) (Mono H67) (Mono.refl _) ?_
 refine QL rfl rfl ty_23 rfl (QV rfl rfl (QV rfl rfl (QB rfl rfl rfl (isub (by omega)) (Q rfl (fun _ _ φ ψ => Pc («as» := [.agg [J a.X, J a.Y, J a.Z], J (n - i)]) rfl rfl (lapp (lcons (φ 36 rfl) (lcons (φ 39 rfl) rfl)) rfl) tf_75 (c_ref02_Scale a (n - i) (mulV_of iv66 (C := 16) (by omega) (by decide))) fun H2 m2 => ⟨rfl, ψ.trans m2⟩) (QL rfl rfl ty_23 rfl (QV rfl rfl (Q rfl (fun _ _ φ ψ => Pc («as» := [.agg [J b.X, J b.Y, J b.Z], J i]) rfl rfl (lapp (lcons (φ 41 rfl) (lcons (φ 42 rfl) rfl)) rfl) tf_75 (c_ref02_Scale b i (mulV_of iv72 (C := 16) (by omega) (by decide))) fun H2 m2 => ⟨rfl, ψ.trans m2⟩) (Q rfl (fun _ _ φ ψ => Pc («as» := [.agg [J ((R_ref02_Scale a (n - i)).X), J ((R_ref02_Scale a (n - i)).Y), J ((R_ref02_Scale a (n - i)).Z)], .agg [J ((R_ref02_Scale b i).X), J ((R_ref02_Scale b i).Y), J ((R_ref02_Scale b i).Z)]]) rfl rfl (lapp (lcons (φ 40 rfl) (lcons (φ 43 rfl) rfl)) rfl) tf_20 (c_ref02_Add (R_ref02_Scale a (n - i)) (R_ref02_Scale b i) (inV_le (inV_le (inV_ref02_Scale iv66 (C := 16) (by omega)) (by decide) : inV 16368 _) (by decide)) (inV_le (inV_le (inV_ref02_Scale iv72 (C := 16) (by omega)) (by decide) : inV 16368 _) (by decide))) fun H2 m2 => ⟨rfl, ψ.trans m2⟩) (QV rfl rfl ?_)))))))))
 refine Q rfl (fun _ _ φ ψ => Pc («as» := [.agg [J ((Zref14_Blend_0 a b i n).X), J ((Zref14_Blend_0 a b i n).Y), J ((Zref14_Blend_0 a b i n).Z)], J n]) rfl rfl (lapp (lcons (φ 44 rfl) (lcons (φ 45 rfl) rfl)) rfl) tf_74 (c_ref09_Of (Zref14_Blend_0 a b i n) n (inV_le (inV_le (inV_ref02_Add (inV_le (inV_ref02_Scale iv66 (C := 16) (by omega)) (by decide) : inV 16368 _) (inV_le (inV_ref02_Scale iv72 (C := 16) (by omega)) (by decide) : inV 16368 _)) (by decide) : inV 32736 _) (by decide)) (by first | omega | assumption)) fun H2 m2 => ⟨rfl, ψ.trans m2⟩) ?_
 refine QE.done fun H73 m74 => ?_
 have h75 := m74 _ _ h69
 have m76 := m70.trans m74
 refine C rfl (Sw rfl rfl ts_23 h75 rfl rfl rfl ?_)
 intro H77 h78 k79
 have m81 := Mono.set m76 z24 k79
 refine A rfl rfl ?_
 refine rt_ ?_
 refine Rr (Res.list rfl rfl (.cell (v := .agg [J ((R_ref09_Of (Zref14_Blend_0 a b i n) n).X), J ((R_ref09_Of (Zref14_Blend_0 a b i n) n).Y), J ((R_ref09_Of (Zref14_Blend_0 a b i n) n).Z)]) rfl ty_23 h78 rfl (.tmp rfl (.nil)))) ?_ m81
 have hR : R_ref14_Blend a b i n = ((R_ref09_Of (Zref14_Blend_0 a b i n) n), true) := by unfold R_ref14_Blend; rw [if_neg b37, if_neg b43, if_neg b49, if_neg b55, if_pos b65, if_pos b71]
 exact (congrArg Tref14_Blend hR).symm
 refine ct_ rfl (nb b71) ?_
 refine Sr ?_
 refine C rfl (Bl (cells := [J 0, J 0, J 0]) rfl tz_23 pl_23 rfl rfl (C rfl (Sw rfl rfl ts_23 h69 rfl rfl rfl ?_)))
 intro H82 h83 k84
 have m86 := Mono.set m70 z24 k84
 refine A rfl rfl ?_
 refine rt_ ?_
 refine Rr (Res.list rfl rfl (.cell (v := .agg [J 0, J 0, J 0]) rfl ty_23 h83 rfl (.tmp rfl (.nil)))) ?_ m86
 have hR : R_ref14_Blend a b i n = ((VT.mk 0 0 0), false) := by unfold R_ref14_Blend; rw [if_neg b37, if_neg b43, if_neg b49, if_neg b55, if_pos b65, if_neg (ff b71)]
 exact (congrArg Tref14_Blend hR).symm
 refine N rfl rfl (nb b65) (N rfl rfl (nb b65) (N rfl rfl (nb b65) (C rfl (Pt _ rfl rfl (nb b65) rfl ?_))))
 refine ct_ rfl rfl ?_
 refine Sr ?_
 refine C rfl (Bl (cells := [J 0, J 0, J 0]) rfl tz_23 pl_23 rfl rfl (C rfl (Sw rfl rfl ts_23 h63 rfl rfl rfl ?_)))
 intro H87 h88 k89
 have m91 := Mono.set m64 z24 k89
 refine A rfl rfl ?_
 refine rt_ ?_
 refine Rr (Res.list rfl rfl (.cell (v := .agg [J 0, J 0, J 0]) rfl ty_23 h88 rfl (.tmp rfl (.nil)))) ?_ m91
 have hR : R_ref14_Blend a b i n = ((VT.mk 0 0 0), false) := by unfold R_ref14_Blend; rw [if_neg b37, if_neg b43, if_neg b49, if_neg b55, if_neg (ff b65)]
 exact (congrArg Tref14_Blend hR).symm
end Go.Proofs.M
namespace Go.Proofs.M
open Go Go.AH
section
variable {v w a b : VT} {m A B C k n d i : Int}
theorem inV_relief_of (h : inV A v) (hA : A ≤ 2305843009213693952) (hd : d ≤ 2305843009213693952) : inV A (R_relief_of v d) := by
  obtain ⟨h1, h2, h3, h4, h5, h6⟩ := h
  have x := vround_rng ⟨h1, h2⟩ hA hd
  have y := vround_rng ⟨h3, h4⟩ hA hd
  have z := vround_rng ⟨h5, h6⟩ hA hd
  exact ⟨x.1, x.2, y.1, y.2, z.1, z.2⟩
theorem of_same (h : inV 2305843009213693952 v) (hd : d ≤ 2305843009213693952) : R_ref09_Of v d = R_relief_of v d := by
  obtain ⟨h1, h2, h3, h4, h5, h6⟩ := h
  unfold R_ref09_Of R_relief_of
  rw [round_same ⟨h1, h2⟩ hd, round_same ⟨h3, h4⟩ hd, round_same ⟨h5, h6⟩ hd]
theorem inV_ref09_Of (h : inV A v) (hA : A ≤ 2305843009213693952) (hd : d ≤ 2305843009213693952) : inV A (R_ref09_Of v d) := by
  rw [of_same (inV_le h hA) hd]; exact inV_relief_of h hA hd
theorem inV_zero (h : 0 ≤ A) : inV A (VT.mk 0 0 0) := by simp only [inV]; omega
theorem between_mul {x y k l A : Int} (hx : -A ≤ x ∧ x ≤ A) (hy : -A ≤ y ∧ y ≤ A) (hk : 0 ≤ k) (hl : 0 ≤ l) : -(A * (k + l)) ≤ x * k + y * l ∧ x * k + y * l ≤ A * (k + l) := by
  have h1 := Int.mul_le_mul_of_nonneg_right hx.2 hk
  have h2 := Int.mul_le_mul_of_nonneg_right hy.2 hl
  have h3 := Int.mul_le_mul_of_nonneg_right hx.1 hk
  have h4 := Int.mul_le_mul_of_nonneg_right hy.1 hl
  rw [Int.mul_add]
  rw [Int.neg_mul] at h3 h4
  omega
theorem rnd_mul {x n A : Int} (hn : 1 ≤ n) (h : -(A * n) ≤ x ∧ x ≤ A * n) : -A ≤ rnd x n ∧ rnd x n ≤ A := by
  have g := (rnd_iff (n := x) (q := rnd x n) hn).1 rfl
  have e1 : 2 * n * (rnd x n - A) < 2 * n * 1 := by
    rw [Int.mul_sub]; have : 2 * n * A = 2 * (A * n) := by rw [Int.mul_assoc, Int.mul_comm n A]
    omega
  have e2 : 2 * n * (-1) < 2 * n * (rnd x n + A) := by
    rw [Int.mul_add]; have : 2 * n * A = 2 * (A * n) := by rw [Int.mul_assoc, Int.mul_comm n A]
    omega
  have := Int.lt_of_mul_lt_mul_left e1 (by omega)
  have := Int.lt_of_mul_lt_mul_left e2 (by omega)
  omega
theorem inV_relief_Blend (a b : VT) (i n : Int) : inV 1023 (R_relief_Blend a b i n).1 := by
  unfold R_relief_Blend
  split
  · exact inV_zero (by decide)
  split
  · exact inV_zero (by decide)
  split
  · exact inV_zero (by decide)
  split
  · exact inV_zero (by decide)
  split
  · rename_i ha
    split
    · rename_i hb
      have ha := withinvec_in ha
      have hb := withinvec_in hb
      have hs : inV 32736 (R_vec_Add (R_vec_Scale a (n - i)) (R_vec_Scale b i)) := inV_vec_Add (inV_vec_Scale (C := 16) ha (by omega)) (inV_vec_Scale (C := 16) hb (by omega))
      obtain ⟨h1, h2, h3, h4, h5, h6⟩ := ha
      obtain ⟨g1, g2, g3, g4, g5, g6⟩ := hb
      obtain ⟨s1, s2, s3, s4, s5, s6⟩ := hs
      simp only [R_relief_of]
      rw [vround_eq (by omega) (by omega) (by omega), vround_eq (by omega) (by omega) (by omega), vround_eq (by omega) (by omega) (by omega)]
      have e : n - i + i = n := by omega
      have x := between_mul (k := n - i) (l := i) ⟨h1, h2⟩ ⟨g1, g2⟩ (by omega) (by omega)
      have y := between_mul (k := n - i) (l := i) ⟨h3, h4⟩ ⟨g3, g4⟩ (by omega) (by omega)
      have z := between_mul (k := n - i) (l := i) ⟨h5, h6⟩ ⟨g5, g6⟩ (by omega) (by omega)
      rw [e] at x y z
      have x := rnd_mul (by omega) x
      have y := rnd_mul (by omega) y
      have z := rnd_mul (by omega) z
      exact ⟨x.1, x.2, y.1, y.2, z.1, z.2⟩
    · exact inV_zero (by decide)
  · exact inV_zero (by decide)
theorem blend_same (a b : VT) (i n : Int) : R_ref14_Blend a b i n = R_relief_Blend a b i n := by
  unfold R_ref14_Blend R_relief_Blend
  simp only [within_same]
  split
  · rfl
  split
  · rfl
  split
  · rfl
  split
  · rfl
  split
  · rename_i ha
    split
    · rename_i hb
      have hs : inV 32736 (R_vec_Add (R_vec_Scale a (n - i)) (R_vec_Scale b i)) := inV_vec_Add (inV_vec_Scale (C := 16) (withinvec_in ha) (by omega)) (inV_vec_Scale (C := 16) (withinvec_in hb) (by omega))
      show (R_ref09_Of (R_vec_Add (R_vec_Scale a (n - i)) (R_vec_Scale b i)) n, true) = _
      rw [of_same (inV_le hs (by decide)) (by omega)]
    · rfl
  · rfl
end
theorem step_rng {n m : Int} (hm : 1 ≤ m) : 0 ≤ R_relief_step n m ∧ R_relief_step n m < m := by
  have h := tmod_rng (n := n / 16) hm
  unfold R_relief_step
  split <;> omega
theorem step_same {n m : Int} (hm : 1 ≤ m) : R_ref14_step n m = R_relief_step n m := by
  have e : ∀ q, n / 16 = q → R_relief_step n m = if Int.tmod q m < 0 then Int.tmod q m + m else Int.tmod q m := fun q hq => by subst hq; rfl
  obtain ⟨h1, h2, h3⟩ := tmod_cases (n := n) (d := 16) (by decide)
  have h5 : 0 ≤ n → 0 ≤ Int.tmod n 16 := fun h => Int.tmod_nonneg 16 h
  have h6 : n < 0 → Int.tmod n 16 ≤ 0 := fun h => by
    have := Int.tmod_nonneg (a := -n) 16 (by omega)
    rw [Int.neg_tmod] at this; omega
  unfold R_ref14_step
  split
  · split
    all_goals first | rw [e (Int.tdiv n 16) (by omega)] | rw [e (Int.tdiv n 16 - 1) (by omega)]
  · rw [e (Int.tdiv n 16) (by omega)]
end Go.Proofs.M
namespace Go.Proofs.M
open Go Go.AH
theorem len_pos {n : Nat} {w h : Int} (e : (n : Int) = w * h) (hw : 1 ≤ w) (hh : 1 ≤ h) : 1 ≤ n := by
  have : 0 < w * h := Int.mul_pos (by omega) (by omega)
  omega
def RightP (t : TexT) : Prop := 1 ≤ t.W ∧ t.W ≤ 16 ∧ 1 ≤ t.H ∧ t.H ≤ 16 ∧ (t.Rows.length : Int) = t.W * t.H ∧ ∀ j : Int, 0 ≤ j → j < t.Rows.length → 0 ≤ at_ t.Rows j ∧ at_ t.Rows j ≤ 255
open Classical in
noncomputable def rightS (t : TexT) : Bool := decide (RightP t)
theorem rightS_iff {t : TexT} : rightS t = true ↔ RightP t := by unfold rightS; exact @decide_eq_true_iff _ (Classical.propDecidable _)
theorem rightS_T {t : TexT} (h : RightP t) : true = rightS t := (rightS_iff.2 h).symm
theorem rightS_F {t : TexT} (h : ¬ RightP t) : false = rightS t := by
  cases e : rightS t with
  | false => rfl
  | true => exact absurd (rightS_iff.1 e) h
end Go.Proofs.M
namespace Go.Proofs.M
open Go Go.AH
set_option maxRecDepth 4000
set_option linter.unusedSimpArgs false
set_option linter.unusedVariables false
def R_relief_Mix (n : (List VT)) (i : Int) (k : Int) (j : Int) (m : Int) : VT × Bool :=
  if (R_relief_Blend (at_ n 0) (at_ n 1) i k).2 = true then (if (R_relief_Blend (at_ n 3) (at_ n 2) i k).2 = true then (((R_relief_Blend ((R_relief_Blend (at_ n 0) (at_ n 1) i k).1) ((R_relief_Blend (at_ n 3) (at_ n 2) i k).1) j m).1), (R_relief_Blend ((R_relief_Blend (at_ n 0) (at_ n 1) i k).1) ((R_relief_Blend (at_ n 3) (at_ n 2) i k).1) j m).2) else ((VT.mk 0 0 0), false)) else ((VT.mk 0 0 0), false)
abbrev Zrelief_Mix_0 (n : (List VT)) (i : Int) (k : Int) (j : Int) (m : Int) := R_relief_Blend ((R_relief_Blend (at_ n 0) (at_ n 1) i k).1) ((R_relief_Blend (at_ n 3) (at_ n 2) i k).1) j m
def Trelief_Mix (r : VT × Bool) : AV := .tup [.agg [J r.1.X, J r.1.Y, J r.1.Z], .bool r.2]
theorem c_relief_Mix (n : (List VT)) (h_n : n.length = 4) (i : Int) (k : Int) (j : Int) (m : Int) : PC Tryd.prog 87 [.agg (n.flatMap eV), J i, J k, J j, J m] (.tup [.agg [J (((R_relief_Mix n i k j m).1).X), J (((R_relief_Mix n i k j m).1).Y), J (((R_relief_Mix n i k j m).1).Z)], .bool ((R_relief_Mix n i k j m).2)]) := by
 intro H0
 refine ACalls.of_body' (n := 50) rfl rfl rfl rfl ?_
 have m0 := Mono.refl H0
 refine Sr ?_
 refine C rfl (bx_ (.agg (n.flatMap eV)) rfl rfl rfl ?_)
 intro i1 H2 n3 h4 k5
 have z6 := Mono.free m0 n3
 have m7 := Mono.new m0 n3 k5
 refine C rfl (al_ rfl tz_23 ?_)
 intro i8 H9 n10 h11 k12
 have e13 := ne_new h4 n10
 have z14 := Mono.free m7 n10
 have h15 := keep k12 (ne_new h4 n10) h4
 have m16 := Mono.new m7 n10 k12
 refine A rfl rfl ?_
 refine AWP.seq ?_
 refine fz_ 5 h15 z6 rfl m16 fun H17 m18 k19 => ?_
 have h20 := (k19 _ (Ne.symm e13)).trans h11
 refine AWP.region rfl ?_
 refine C rfl (iF_ rfl rfl rfl ar_26 (by omega) (by omega) (L rfl rfl ty_23 (ldM eV_len (i := 0) (by omega) (by have := h_n; omega)) (C rfl (iF_ rfl rfl rfl ar_26 (by omega) (by omega) (L rfl rfl ty_23 (ldM eV_len (i := 1) (by omega) (by have := h_n; omega)) (V rfl rfl (V rfl rfl (C rfl (Pc («as» := [.agg [J ((at_ n 0).X), J ((at_ n 0).Y), J ((at_ n 0).Z)], .agg [J ((at_ n 1).X), J ((at_ n 1).Y), J ((at_ n 1).Z)], J i, J k]) rfl rfl (rfl) tf_85 (c_relief_Blend (at_ n 0) (at_ n 1) i k) ?_)))))))))
 intro H21 m22
 have h23 := m22 _ _ h20
 have m24 := m18.trans m22
 refine V rfl rfl (E rfl rfl rfl (E rfl rfl rfl (C rfl (al_ rfl tz_23 ?_))))
 intro i25 H26 n27 h28 k29
 have e30 := ne_new h23 n27
 have z31 := Mono.free m24 n27
 have h32 := keep k29 (ne_new h23 n27) h23
 have m33 := Mono.new m24 n27 k29
 refine C rfl (Sw rfl rfl ts_23 h28 rfl rfl rfl ?_)
 intro H34 h35 k36
 have h37 := keep k36 e30 h32
 have m39 := Mono.set m33 z31 k36
 refine A rfl rfl ?_
 refine AWP.seq ?_
 refine fz_ 12 h35 z31 rfl m39 fun H40 m41 k42 => ?_
 have h43 := (k42 _ e30).trans h37
 refine AWP.region rfl ?_
 refine C rfl (iF_ rfl rfl rfl ar_26 (by omega) (by omega) (L rfl rfl ty_23 (ldM eV_len (i := 3) (by omega) (by have := h_n; omega)) (C rfl (iF_ rfl rfl rfl ar_26 (by omega) (by omega) (L rfl rfl ty_23 (ldM eV_len (i := 2) (by omega) (by have := h_n; omega)) (V rfl rfl (V rfl rfl (C rfl (Pc («as» := [.agg [J ((at_ n 3).X), J ((at_ n 3).Y), J ((at_ n 3).Z)], .agg [J ((at_ n 2).X), J ((at_ n 2).Y), J ((at_ n 2).Z)], J i, J k]) rfl rfl (rfl) tf_85 (c_relief_Blend (at_ n 3) (at_ n 2) i k) ?_)))))))))
 intro H44 m45
 have h46 := m45 _ _ h43
 have m47 := m41.trans m45
 refine V rfl rfl (E rfl rfl rfl (E rfl rfl rfl (C rfl (al_ rfl tz_23 ?_))))
 intro i48 H49 n50 h51 k52
 have e53 := ne_new h46 n50
 have z54 := Mono.free m47 n50
 have h55 := keep k52 (ne_new h46 n50) h46
 have m56 := Mono.new m47 n50 k52
 refine C rfl (Sw rfl rfl ts_23 h51 rfl rfl rfl ?_)
 intro H57 h58 k59
 have h60 := keep k59 e53 h55
 have m62 := Mono.set m56 z54 k59
 refine A rfl rfl ?_
 refine AWP.seq ?_
 refine AWP.seq ?_
 refine fz_ 14 h58 z54 rfl m62 fun H63 m64 k65 => ?_
 have h66 := (k65 _ e53).trans h60
 refine AWP.region rfl ?_
 refine V rfl rfl (C rfl (AOp.not rfl rfl (V rfl rfl ?_)))
 rcases Bool.eq_false_or_eq_true ((R_relief_Blend (at_ n 0) (at_ n 1) i k).2) with b67 | b67
 refine Y rfl rfl rfl (nb b67) (Mv _ rfl rfl (Y rfl rfl rfl (nb b67) (AOp.not rfl rfl (C rfl (Pf _ rfl rfl (nb b67) rfl ?_)))))
 refine AOps.nil ?_
 change AWP _ _ _ _ _ _
 rcases Bool.eq_false_or_eq_true ((R_relief_Blend (at_ n 3) (at_ n 2) i k).2) with b68 | b68
 refine cf_ rfl (nb b68) ?_
 refine AWP.skip ?_
 refine Sr ?_
 refine L rfl rfl ty_23 rfl (L rfl rfl ty_23 rfl (V rfl rfl (V rfl rfl (C rfl (Pc («as» := [.agg [J (((R_relief_Blend (at_ n 0) (at_ n 1) i k).1).X), J (((R_relief_Blend (at_ n 0) (at_ n 1) i k).1).Y), J (((R_relief_Blend (at_ n 0) (at_ n 1) i k).1).Z)], .agg [J (((R_relief_Blend (at_ n 3) (at_ n 2) i k).1).X), J (((R_relief_Blend (at_ n 3) (at_ n 2) i k).1).Y), J (((R_relief_Blend (at_ n 3) (at_ n 2) i k).1).Z)], J j, J m]) rfl rfl (rfl) tf_85 (c_relief_Blend ((R_relief_Blend (at_ n 0) (at_ n 1) i k).1) ((R_relief_Blend (at_ n 3) (at_ n 2) i k).1) j m) ?_)))))
 intro H69 m70
 have h71 := m70 _ _ h66
 have m72 := m64.trans m70
 refine E rfl rfl rfl (E rfl rfl rfl (C rfl (Sw rfl rfl ts_23 h71 rfl rfl rfl ?_)))
 intro H73 h74 k75
 have m77 := Mono.set m72 z14 k75
 refine A rfl rfl ?_
 refine rt_ ?_
 refine Rr (Res.list rfl rfl (.cell (v := .agg [J (((Zrelief_Mix_0 n i k j m).1).X), J (((Zrelief_Mix_0 n i k j m).1).Y), J (((Zrelief_Mix_0 n i k j m).1).Z)]) rfl ty_23 h74 rfl (.tmp rfl (.nil)))) ?_ m77
 have hR : R_relief_Mix n i k j m = (((Zrelief_Mix_0 n i k j m).1), (Zrelief_Mix_0 n i k j m).2) := by unfold R_relief_Mix; rw [if_pos b67, if_pos b68]
 exact (congrArg Trelief_Mix hR).symm
 refine ct_ rfl (nb b68) ?_
 refine Sr ?_
 refine C rfl (Bl (cells := [J 0, J 0, J 0]) rfl tz_23 pl_23 rfl rfl (C rfl (Sw rfl rfl ts_23 h66 rfl rfl rfl ?_)))
 intro H78 h79 k80
 have m82 := Mono.set m64 z14 k80
 refine A rfl rfl ?_
 refine rt_ ?_
 refine Rr (Res.list rfl rfl (.cell (v := .agg [J 0, J 0, J 0]) rfl ty_23 h79 rfl (.tmp rfl (.nil)))) ?_ m82
 have hR : R_relief_Mix n i k j m = ((VT.mk 0 0 0), false) := by unfold R_relief_Mix; rw [if_pos b67, if_neg (ff b68)]
 exact (congrArg Trelief_Mix hR).symm
 refine N rfl rfl (nb b67) (N rfl rfl (nb b67) (C rfl (Pt _ rfl rfl (nb b67) rfl ?_)))
 refine ct_ rfl rfl ?_
 refine Sr ?_
 refine C rfl (Bl (cells := [J 0, J 0, J 0]) rfl tz_23 pl_23 rfl rfl (C rfl (Sw rfl rfl ts_23 h66 rfl rfl rfl ?_)))
 intro H83 h84 k85
 have m87 := Mono.set m64 z14 k85
 refine A rfl rfl ?_
 refine rt_ ?_
 refine Rr (Res.list rfl rfl (.cell (v := .agg [J 0, J 0, J 0]) rfl ty_23 h84 rfl (.tmp rfl (.nil)))) ?_ m87
 have hR : R_relief_Mix n i k j m = ((VT.mk 0 0 0), false) := by unfold R_relief_Mix; rw [if_neg (ff b67)]
 exact (congrArg Trelief_Mix hR).symm
def R_relief_Lift (p : VT) (n : VT) (t : Int) (h : Int) : VT × Bool :=
  if R_vec_Within p 65024 = true then (if R_vec_Within n 1023 = true then (if min t h < 0 then ((VT.mk 0 0 0), false) else (if max t h > 255 then ((VT.mk 0 0 0), false) else ((R_vec_Add p (R_relief_of (R_vec_Scale n (R_vec_Round (t * h) 255)) 1024)), true))) else ((VT.mk 0 0 0), false)) else ((VT.mk 0 0 0), false)
abbrev Zrelief_Lift_0 (n : VT) (t : Int) (h : Int) := R_relief_of (R_vec_Scale n (R_vec_Round (t * h) 255)) 1024
def Trelief_Lift (r : VT × Bool) : AV := .tup [.agg [J r.1.X, J r.1.Y, J r.1.Z], .bool r.2]
theorem c_relief_Lift (p : VT) (n : VT) (t : Int) (h : Int) : PC Tryd.prog 29 [.agg [J p.X, J p.Y, J p.Z], .agg [J n.X, J n.Y, J n.Z], J t, J h] (.tup [.agg [J (((R_relief_Lift p n t h).1).X), J (((R_relief_Lift p n t h).1).Y), J (((R_relief_Lift p n t h).1).Z)], .bool ((R_relief_Lift p n t h).2)]) := by
 intro H0
 refine ACalls.of_body' (n := 42) rfl rfl rfl rfl ?_
 have m0 := Mono.refl H0
 refine Sr ?_
 refine C rfl (bx_ (.agg [J p.X, J p.Y, J p.Z]) rfl rfl rfl ?_)
 intro i1 H2 n3 h4 k5
 have z6 := Mono.free m0 n3
 have m7 := Mono.new m0 n3 k5
 refine C rfl (bx_ (.agg [J n.X, J n.Y, J n.Z]) rfl rfl rfl ?_)
 intro i8 H9 n10 h11 k12
 have e13 := ne_new h4 n10
 have z14 := Mono.free m7 n10
 have h15 := keep k12 (ne_new h4 n10) h4
 have m16 := Mono.new m7 n10 k12
 refine C rfl (al_ rfl tz_23 ?_)
 intro i17 H18 n19 h20 k21
 have e22 := ne_new h15 n19
 have e23 := ne_new h11 n19
 have z24 := Mono.free m16 n19
 have h25 := keep k21 (ne_new h15 n19) h15
 have h26 := keep k21 (ne_new h11 n19) h11
 have m27 := Mono.new m16 n19 k21
 refine A rfl rfl ?_
 refine AWP.seq ?_
 refine AWP.seq ?_
 refine fz_ 4 h25 z6 rfl m27 fun H28 m29 k30 => ?_
 have h31 := (k30 _ (Ne.symm e13)).trans h26
 have h32 := (k30 _ (Ne.symm e22)).trans h20
 refine fz_ 5 h31 z14 rfl m29 fun H33 m34 k35 => ?_
 have h36 := (k35 _ (Ne.symm e23)).trans h32
 refine AWP.region rfl ?_
 refine L rfl rfl ty_23 rfl (C rfl (Pc («as» := [.agg [J p.X, J p.Y, J p.Z], J 65024]) rfl rfl (rfl) tf_18 (c_vec_Within p 65024 (by first | omega | assumption | (constructor <;> omega) | simp)) ?_))
 intro H37 m38
 have h39 := m38 _ _ h36
 have m40 := m34.trans m38
 refine C rfl (AOp.not rfl rfl (V rfl rfl ?_))
 rcases Bool.eq_false_or_eq_true (R_vec_Within p 65024) with b41 | b41
 have iv42 : inV 65024 p := withinvec_in b41
 refine Y rfl rfl rfl (nb b41) (Lf _ rfl rfl ty_23 rfl (Y rfl rfl rfl (nb b41) (Pc («as» := [.agg [J n.X, J n.Y, J n.Z], J 1023]) rfl rfl (rfl) tf_18 (c_vec_Within n 1023 (by first | omega | assumption | (constructor <;> omega) | simp)) ?_)))
 intro H43 m44
 have h45 := m44 _ _ h39
 have m46 := m40.trans m44
 refine Y rfl rfl rfl (nb b41) (AOp.not rfl rfl (C rfl (Pf _ rfl rfl (nb b41) rfl (V rfl rfl ?_))))
 rcases Bool.eq_false_or_eq_true (R_vec_Within n 1023) with b47 | b47
 have iv48 : inV 1023 n := withinvec_in b47
 refine Y rfl rfl rfl (nb b47) (Mv _ rfl rfl (Y rfl rfl rfl (nb b47) (Mv _ rfl rfl (Y rfl rfl rfl (nb b47) (AOp.min2 rfl rfl rfl (Y rfl rfl rfl (nb b47) (Bi _ rfl rfl rfl rfl (C rfl (Pf _ rfl rfl (nb b47) rfl (V rfl rfl ?_))))))))))
 by_cases b49 : min t h < 0
 refine N rfl rfl (decide_eq_true b49) (N rfl rfl (decide_eq_true b49) (N rfl rfl (decide_eq_true b49) (N rfl rfl (decide_eq_true b49) (C rfl (Pt _ rfl rfl (decide_eq_true b49) rfl ?_)))))
 refine ct_ rfl rfl ?_
 refine Sr ?_
 refine C rfl (Bl (cells := [J 0, J 0, J 0]) rfl tz_23 pl_23 rfl rfl (C rfl (Sw rfl rfl ts_23 h45 rfl rfl rfl ?_)))
 intro H50 h51 k52
 have m54 := Mono.set m46 z24 k52
 refine A rfl rfl ?_
 refine rt_ ?_
 refine Rr (Res.list rfl rfl (.cell (v := .agg [J 0, J 0, J 0]) rfl ty_23 h51 rfl (.tmp rfl (.nil)))) ?_ m54
 have hR : R_relief_Lift p n t h = ((VT.mk 0 0 0), false) := by unfold R_relief_Lift; rw [if_pos b41, if_pos b47, if_pos b49]
 exact (congrArg Trelief_Lift hR).symm
 refine Y rfl rfl rfl (decide_eq_false b49) (Mv _ rfl rfl (Y rfl rfl rfl (decide_eq_false b49) (Mv _ rfl rfl (Y rfl rfl rfl (decide_eq_false b49) (AOp.max2 rfl rfl rfl (Y rfl rfl rfl (decide_eq_false b49) (Bi _ rfl rfl rfl rfl (C rfl (Pf _ rfl rfl (decide_eq_false b49) rfl ?_)))))))))
 refine AOps.nil ?_
 change AWP _ _ _ _ _ _
 by_cases b55 : max t h > 255
 refine ct_ rfl (decide_eq_true b55) ?_
 refine Sr ?_
 refine C rfl (Bl (cells := [J 0, J 0, J 0]) rfl tz_23 pl_23 rfl rfl (C rfl (Sw rfl rfl ts_23 h45 rfl rfl rfl ?_)))
 intro H56 h57 k58
 have m60 := Mono.set m46 z24 k58
 refine A rfl rfl ?_
 refine rt_ ?_
 refine Rr (Res.list rfl rfl (.cell (v := .agg [J 0, J 0, J 0]) rfl ty_23 h57 rfl (.tmp rfl (.nil)))) ?_ m60
 have hR : R_relief_Lift p n t h = ((VT.mk 0 0 0), false) := by unfold R_relief_Lift; rw [if_pos b41, if_pos b47, if_neg b49, if_pos b55]
 exact (congrArg Trelief_Lift hR).symm
 refine cf_ rfl (decide_eq_false b55) ?_
 refine AWP.skip ?_
 refine AWP.seq ?_
 have hm := mul_rng (x := t) (k := h) (A := 255) (C := 255) (by omega) (by omega)
 refine AWP.region rfl ?_
 refine V rfl rfl (V rfl rfl (B rfl rfl rfl (imul (by have := mul_rng (x := t) (k := h) (A := 255) (C := 255) (by omega) (by omega); omega)) (C rfl (Pc («as» := [J (t * h), J 255]) rfl rfl (rfl) tf_57 (c_vec_Round (t * h) 255 (by first | omega | assumption | (constructor <;> omega) | simp) (by first | omega | assumption | (constructor <;> omega) | simp)) ?_))))
 intro H61 m62
 have h63 := m62 _ _ h45
 have m64 := m46.trans m62
 refine A rfl rfl ?_
 refine AWP.seq ?_
 have hk := vround_rng (n := t * h) (d := 255) (B := 65025) (by omega) (by decide) (by decide)
 refine AWP.region_quiet mixed (by kernel_rfl) 6 [6, 7] rfl (by kernel_rfl) (Mono H61) (Mono.refl _) ?_
 refine QL rfl rfl ty_23 rfl (QL rfl rfl ty_23 rfl (QV rfl rfl (Q rfl (fun _ _ φ ψ => Pc («as» := [.agg [J n.X, J n.Y, J n.Z], J (R_vec_Round (t * h) 255)]) rfl rfl (lapp (lcons (φ 37 rfl) (lcons (φ 38 rfl) rfl)) rfl) tf_59 (c_vec_Scale n (R_vec_Round (t * h) 255) (mulV_of iv48 (C := 65025) hk (by decide))) fun H2 m2 => ⟨rfl, ψ.trans m2⟩) (Q rfl (fun _ _ φ ψ => Pc («as» := [.agg [J ((R_vec_Scale n (R_vec_Round (t * h) 255)).X), J ((R_vec_Scale n (R_vec_Round (t * h) 255)).Y), J ((R_vec_Scale n (R_vec_Round (t * h) 255)).Z)], J 1024]) rfl rfl (lapp (lcons (φ 39 rfl) (lcons rfl rfl)) rfl) tf_58 (c_relief_of (R_vec_Scale n (R_vec_Round (t * h) 255)) 1024 (inV_le (inV_le (inV_vec_Scale iv48 (C := 65025) hk) (by decide) : inV 66520575 _) (by decide)) (by first | omega | assumption)) fun H2 m2 => ⟨rfl, ψ.trans m2⟩) (Q rfl (fun _ _ φ ψ => Pc («as» := [.agg [J p.X, J p.Y, J p.Z], .agg [J ((Zrelief_Lift_0 n t h).X), J ((Zrelief_Lift_0 n t h).Y), J ((Zrelief_Lift_0 n t h).Z)]]) rfl rfl (lapp (lcons (φ 36 rfl) (lcons (φ 40 rfl) rfl)) rfl) tf_38 (c_vec_Add p (Zrelief_Lift_0 n t h) (inV_le iv42 (by decide)) (inV_le (inV_relief_of (inV_le (inV_vec_Scale iv48 (C := 65025) hk) (by decide) : inV 66520575 _) (by decide) (by omega)) (by decide))) fun H2 m2 => ⟨rfl, ψ.trans m2⟩) ?_)))))
 refine QE.done fun H65 m66 => ?_
 have h67 := m66 _ _ h63
 have m68 := m64.trans m66
 refine C rfl (Sw rfl rfl ts_23 h67 rfl rfl rfl ?_)
 intro H69 h70 k71
 have m73 := Mono.set m68 z24 k71
 refine A rfl rfl ?_
 refine rt_ ?_
 refine Rr (Res.list rfl rfl (.cell (v := .agg [J ((R_vec_Add p (Zrelief_Lift_0 n t h)).X), J ((R_vec_Add p (Zrelief_Lift_0 n t h)).Y), J ((R_vec_Add p (Zrelief_Lift_0 n t h)).Z)]) rfl ty_23 h70 rfl (.tmp rfl (.nil)))) ?_ m73
 have hR : R_relief_Lift p n t h = ((R_vec_Add p (Zrelief_Lift_0 n t h)), true) := by unfold R_relief_Lift; rw [if_pos b41, if_pos b47, if_neg b49, if_neg b55]
 exact (congrArg Trelief_Lift hR).symm
 refine N rfl rfl (nb b47) (N rfl rfl (nb b47) (N rfl rfl (nb b47) (N rfl rfl (nb b47) (C rfl (Pt _ rfl rfl (nb b47) rfl (V rfl rfl (N rfl rfl rfl (N rfl rfl rfl (N rfl rfl rfl (N rfl rfl rfl (C rfl (Pt _ rfl rfl rfl rfl ?_))))))))))))
 refine ct_ rfl rfl ?_
 refine Sr ?_
 refine C rfl (Bl (cells := [J 0, J 0, J 0]) rfl tz_23 pl_23 rfl rfl (C rfl (Sw rfl rfl ts_23 h45 rfl rfl rfl ?_)))
 intro H74 h75 k76
 have m78 := Mono.set m46 z24 k76
 refine A rfl rfl ?_
 refine rt_ ?_
 refine Rr (Res.list rfl rfl (.cell (v := .agg [J 0, J 0, J 0]) rfl ty_23 h75 rfl (.tmp rfl (.nil)))) ?_ m78
 have hR : R_relief_Lift p n t h = ((VT.mk 0 0 0), false) := by unfold R_relief_Lift; rw [if_pos b41, if_neg (ff b47)]
 exact (congrArg Trelief_Lift hR).symm
 refine N rfl rfl (nb b41) (N rfl rfl (nb b41) (N rfl rfl (nb b41) (C rfl (Pt _ rfl rfl (nb b41) rfl (V rfl rfl (N rfl rfl rfl (N rfl rfl rfl (N rfl rfl rfl (N rfl rfl rfl (C rfl (Pt _ rfl rfl rfl rfl (V rfl rfl (N rfl rfl rfl (N rfl rfl rfl (N rfl rfl rfl (N rfl rfl rfl (C rfl (Pt _ rfl rfl rfl rfl ?_))))))))))))))))))
 refine ct_ rfl rfl ?_
 refine Sr ?_
 refine C rfl (Bl (cells := [J 0, J 0, J 0]) rfl tz_23 pl_23 rfl rfl (C rfl (Sw rfl rfl ts_23 h39 rfl rfl rfl ?_)))
 intro H79 h80 k81
 have m83 := Mono.set m40 z24 k81
 refine A rfl rfl ?_
 refine rt_ ?_
 refine Rr (Res.list rfl rfl (.cell (v := .agg [J 0, J 0, J 0]) rfl ty_23 h80 rfl (.tmp rfl (.nil)))) ?_ m83
 have hR : R_relief_Lift p n t h = ((VT.mk 0 0 0), false) := by unfold R_relief_Lift; rw [if_neg (ff b41)]
 exact (congrArg Trelief_Lift hR).symm
def R_ref14_Mix (n : (List VT)) (i : Int) (k : Int) (j : Int) (m : Int) : VT × Bool :=
  if (R_ref14_Blend (at_ n 0) (at_ n 1) i k).2 = true then (if (R_ref14_Blend (at_ n 3) (at_ n 2) i k).2 = true then (((R_ref14_Blend ((R_ref14_Blend (at_ n 0) (at_ n 1) i k).1) ((R_ref14_Blend (at_ n 3) (at_ n 2) i k).1) j m).1), (R_ref14_Blend ((R_ref14_Blend (at_ n 0) (at_ n 1) i k).1) ((R_ref14_Blend (at_ n 3) (at_ n 2) i k).1) j m).2) else ((VT.mk 0 0 0), false)) else ((VT.mk 0 0 0), false)
abbrev Zref14_Mix_0 (n : (List VT)) (i : Int) (k : Int) (j : Int) (m : Int) := R_ref14_Blend ((R_ref14_Blend (at_ n 0) (at_ n 1) i k).1) ((R_ref14_Blend (at_ n 3) (at_ n 2) i k).1) j m
def Tref14_Mix (r : VT × Bool) : AV := .tup [.agg [J r.1.X, J r.1.Y, J r.1.Z], .bool r.2]
theorem c_ref14_Mix (n : (List VT)) (h_n : n.length = 4) (i : Int) (k : Int) (j : Int) (m : Int) : PC Tryd.prog 70 [.agg (n.flatMap eV), J i, J k, J j, J m] (.tup [.agg [J (((R_ref14_Mix n i k j m).1).X), J (((R_ref14_Mix n i k j m).1).Y), J (((R_ref14_Mix n i k j m).1).Z)], .bool ((R_ref14_Mix n i k j m).2)]) := by
 intro H0
 refine ACalls.of_body' (n := 50) rfl rfl rfl rfl ?_
 have m0 := Mono.refl H0
 refine Sr ?_
 refine C rfl (bx_ (.agg (n.flatMap eV)) rfl rfl rfl ?_)
 intro i1 H2 n3 h4 k5
 have z6 := Mono.free m0 n3
 have m7 := Mono.new m0 n3 k5
 refine C rfl (al_ rfl tz_23 ?_)
 intro i8 H9 n10 h11 k12
 have e13 := ne_new h4 n10
 have z14 := Mono.free m7 n10
 have h15 := keep k12 (ne_new h4 n10) h4
 have m16 := Mono.new m7 n10 k12
 refine A rfl rfl ?_
 refine AWP.seq ?_
 refine fz_ 5 h15 z6 rfl m16 fun H17 m18 k19 => ?_
 have h20 := (k19 _ (Ne.symm e13)).trans h11
 refine AWP.region rfl ?_
 refine C rfl (iF_ rfl rfl rfl ar_26 (by omega) (by omega) (L rfl rfl ty_23 (ldM eV_len (i := 0) (by omega) (by have := h_n; omega)) (C rfl (iF_ rfl rfl rfl ar_26 (by omega) (by omega) (L rfl rfl ty_23 (ldM eV_len (i := 1) (by omega) (by have := h_n; omega)) (V rfl rfl (V rfl rfl (C rfl (Pc («as» := [.agg [J ((at_ n 0).X), J ((at_ n 0).Y), J ((at_ n 0).Z)], .agg [J ((at_ n 1).X), J ((at_ n 1).Y), J ((at_ n 1).Z)], J i, J k]) rfl rfl (rfl) tf_68 (c_ref14_Blend (at_ n 0) (at_ n 1) i k) ?_)))))))))
 intro H21 m22
 have h23 := m22 _ _ h20
 have m24 := m18.trans m22
 refine V rfl rfl (E rfl rfl rfl (E rfl rfl rfl (C rfl (al_ rfl tz_23 ?_))))
 intro i25 H26 n27 h28 k29
 have e30 := ne_new h23 n27
 have z31 := Mono.free m24 n27
 have h32 := keep k29 (ne_new h23 n27) h23
 have m33 := Mono.new m24 n27 k29
 refine C rfl (Sw rfl rfl ts_23 h28 rfl rfl rfl ?_)
 intro H34 h35 k36
 have h37 := keep k36 e30 h32
 have m39 := Mono.set m33 z31 k36
 refine A rfl rfl ?_
 refine AWP.seq ?_
 refine fz_ 12 h35 z31 rfl m39 fun H40 m41 k42 => ?_
 have h43 := (k42 _ e30).trans h37
 refine AWP.region rfl ?_
 refine C rfl (iF_ rfl rfl rfl ar_26 (by omega) (by omega) (L rfl rfl ty_23 (ldM eV_len (i := 3) (by omega) (by have := h_n; omega)) (C rfl (iF_ rfl rfl rfl ar_26 (by omega) (by omega) (L rfl rfl ty_23 (ldM eV_len (i := 2) (by omega) (by have := h_n; omega)) (V rfl rfl (V rfl rfl (C rfl (Pc («as» := [.agg [J ((at_ n 3).X), J ((at_ n 3).Y), J ((at_ n 3).Z)], .agg [J ((at_ n 2).X), J ((at_ n 2).Y), J ((at_ n 2).Z)], J i, J k]) rfl rfl (rfl) tf_68 (c_ref14_Blend (at_ n 3) (at_ n 2) i k) ?_)))))))))
 intro H44 m45
 have h46 := m45 _ _ h43
 have m47 := m41.trans m45
 refine V rfl rfl (E rfl rfl rfl (E rfl rfl rfl (C rfl (al_ rfl tz_23 ?_))))
 intro i48 H49 n50 h51 k52
 have e53 := ne_new h46 n50
 have z54 := Mono.free m47 n50
 have h55 := keep k52 (ne_new h46 n50) h46
 have m56 := Mono.new m47 n50 k52
 refine C rfl (Sw rfl rfl ts_23 h51 rfl rfl rfl ?_)
 intro H57 h58 k59
 have h60 := keep k59 e53 h55
 have m62 := Mono.set m56 z54 k59
 refine A rfl rfl ?_
 refine AWP.seq ?_
 refine AWP.seq ?_
 refine fz_ 14 h58 z54 rfl m62 fun H63 m64 k65 => ?_
 have h66 := (k65 _ e53).trans h60
 refine AWP.region rfl ?_
 refine V rfl rfl (C rfl (AOp.not rfl rfl (V rfl rfl ?_)))
 rcases Bool.eq_false_or_eq_true ((R_ref14_Blend (at_ n 0) (at_ n 1) i k).2) with b67 | b67
 refine Y rfl rfl rfl (nb b67) (Mv _ rfl rfl (Y rfl rfl rfl (nb b67) (AOp.not rfl rfl (C rfl (Pf _ rfl rfl (nb b67) rfl ?_)))))
 refine AOps.nil ?_
 change AWP _ _ _ _ _ _
 rcases Bool.eq_false_or_eq_true ((R_ref14_Blend (at_ n 3) (at_ n 2) i k).2) with b68 | b68
 refine cf_ rfl (nb b68) ?_
 refine AWP.skip ?_
 refine Sr ?_
 refine L rfl rfl ty_23 rfl (L rfl rfl ty_23 rfl (V rfl rfl (V rfl rfl (C rfl (Pc («as» := [.agg [J (((R_ref14_Blend (at_ n 0) (at_ n 1) i k).1).X), J (((R_ref14_Blend (at_ n 0) (at_ n 1) i k).1).Y), J (((R_ref14_Blend (at_ n 0) (at_ n 1) i k).1).Z)], .agg [J (((R_ref14_Blend (at_ n 3) (at_ n 2) i k).1).X), J (((R_ref14_Blend (at_ n 3) (at_ n 2) i k).1).Y), J (((R_ref14_Blend (at_ n 3) (at_ n 2) i k).1).Z)], J j, J m]) rfl rfl (rfl) tf_68 (c_ref14_Blend ((R_ref14_Blend (at_ n 0) (at_ n 1) i k).1) ((R_ref14_Blend (at_ n 3) (at_ n 2) i k).1) j m) ?_)))))
 intro H69 m70
 have h71 := m70 _ _ h66
 have m72 := m64.trans m70
 refine E rfl rfl rfl (E rfl rfl rfl (C rfl (Sw rfl rfl ts_23 h71 rfl rfl rfl ?_)))
 intro H73 h74 k75
 have m77 := Mono.set m72 z14 k75
 refine A rfl rfl ?_
 refine rt_ ?_
 refine Rr (Res.list rfl rfl (.cell (v := .agg [J (((Zref14_Mix_0 n i k j m).1).X), J (((Zref14_Mix_0 n i k j m).1).Y), J (((Zref14_Mix_0 n i k j m).1).Z)]) rfl ty_23 h74 rfl (.tmp rfl (.nil)))) ?_ m77
 have hR : R_ref14_Mix n i k j m = (((Zref14_Mix_0 n i k j m).1), (Zref14_Mix_0 n i k j m).2) := by unfold R_ref14_Mix; rw [if_pos b67, if_pos b68]
 exact (congrArg Tref14_Mix hR).symm
 refine ct_ rfl (nb b68) ?_
 refine Sr ?_
 refine C rfl (Bl (cells := [J 0, J 0, J 0]) rfl tz_23 pl_23 rfl rfl (C rfl (Sw rfl rfl ts_23 h66 rfl rfl rfl ?_)))
 intro H78 h79 k80
 have m82 := Mono.set m64 z14 k80
 refine A rfl rfl ?_
 refine rt_ ?_
 refine Rr (Res.list rfl rfl (.cell (v := .agg [J 0, J 0, J 0]) rfl ty_23 h79 rfl (.tmp rfl (.nil)))) ?_ m82
 have hR : R_ref14_Mix n i k j m = ((VT.mk 0 0 0), false) := by unfold R_ref14_Mix; rw [if_pos b67, if_neg (ff b68)]
 exact (congrArg Tref14_Mix hR).symm
 refine N rfl rfl (nb b67) (N rfl rfl (nb b67) (C rfl (Pt _ rfl rfl (nb b67) rfl ?_)))
 refine ct_ rfl rfl ?_
 refine Sr ?_
 refine C rfl (Bl (cells := [J 0, J 0, J 0]) rfl tz_23 pl_23 rfl rfl (C rfl (Sw rfl rfl ts_23 h66 rfl rfl rfl ?_)))
 intro H83 h84 k85
 have m87 := Mono.set m64 z14 k85
 refine A rfl rfl ?_
 refine rt_ ?_
 refine Rr (Res.list rfl rfl (.cell (v := .agg [J 0, J 0, J 0]) rfl ty_23 h84 rfl (.tmp rfl (.nil)))) ?_ m87
 have hR : R_ref14_Mix n i k j m = ((VT.mk 0 0 0), false) := by unfold R_ref14_Mix; rw [if_neg (ff b67)]
 exact (congrArg Tref14_Mix hR).symm
def R_ref14_Lift (p : VT) (n : VT) (t : Int) (h : Int) : VT × Bool :=
  if R_ref00_Within p 65024 = true then (if R_ref00_Within n 1023 = true then (if t < 0 then ((VT.mk 0 0 0), false) else (if t > 255 then ((VT.mk 0 0 0), false) else (if h < 0 then ((VT.mk 0 0 0), false) else (if h > 255 then ((VT.mk 0 0 0), false) else ((R_ref02_Add p (R_ref09_Of (R_ref02_Scale n (R_ref02_Round (t * h) 255)) 1024)), true))))) else ((VT.mk 0 0 0), false)) else ((VT.mk 0 0 0), false)
abbrev Zref14_Lift_0 (n : VT) (t : Int) (h : Int) := R_ref09_Of (R_ref02_Scale n (R_ref02_Round (t * h) 255)) 1024
def Tref14_Lift (r : VT × Bool) : AV := .tup [.agg [J r.1.X, J r.1.Y, J r.1.Z], .bool r.2]
theorem c_ref14_Lift (p : VT) (n : VT) (t : Int) (h : Int) : PC Tryd.prog 35 [.agg [J p.X, J p.Y, J p.Z], .agg [J n.X, J n.Y, J n.Z], J t, J h] (.tup [.agg [J (((R_ref14_Lift p n t h).1).X), J (((R_ref14_Lift p n t h).1).Y), J (((R_ref14_Lift p n t h).1).Z)], .bool ((R_ref14_Lift p n t h).2)]) := by
 intro H0
 refine ACalls.of_body' (n := 46) rfl rfl rfl rfl ?_
 have m0 := Mono.refl H0
 refine Sr ?_
 refine C rfl (bx_ (.agg [J p.X, J p.Y, J p.Z]) rfl rfl rfl ?_)
 intro i1 H2 n3 h4 k5
 have z6 := Mono.free m0 n3
 have m7 := Mono.new m0 n3 k5
 refine C rfl (bx_ (.agg [J n.X, J n.Y, J n.Z]) rfl rfl rfl ?_)
 intro i8 H9 n10 h11 k12
 have e13 := ne_new h4 n10
 have z14 := Mono.free m7 n10
 have h15 := keep k12 (ne_new h4 n10) h4
 have m16 := Mono.new m7 n10 k12
 refine C rfl (al_ rfl tz_23 ?_)
 intro i17 H18 n19 h20 k21
 have e22 := ne_new h15 n19
 have e23 := ne_new h11 n19
 have z24 := Mono.free m16 n19
 have h25 := keep k21 (ne_new h15 n19) h15
 have h26 := keep k21 (ne_new h11 n19) h11
 have m27 := Mono.new m16 n19 k21
 refine A rfl rfl ?_
 refine AWP.seq ?_
 refine AWP.seq ?_
 refine fz_ 4 h25 z6 rfl m27 fun H28 m29 k30 => ?_
 have h31 := (k30 _ (Ne.symm e13)).trans h26
 have h32 := (k30 _ (Ne.symm e22)).trans h20
 refine fz_ 5 h31 z14 rfl m29 fun H33 m34 k35 => ?_
 have h36 := (k35 _ (Ne.symm e23)).trans h32
 refine AWP.region rfl ?_
 refine L rfl rfl ty_23 rfl (C rfl (Pc («as» := [.agg [J p.X, J p.Y, J p.Z], J 65024]) rfl rfl (rfl) tf_60 (c_ref00_Within p 65024 (by first | omega | assumption | (constructor <;> omega) | simp)) ?_))
 intro H37 m38
 have h39 := m38 _ _ h36
 have m40 := m34.trans m38
 refine C rfl (AOp.not rfl rfl (V rfl rfl ?_))
 rcases Bool.eq_false_or_eq_true (R_ref00_Within p 65024) with b41 | b41
 have iv42 : inV 65024 p := withinref00_in b41
 refine Y rfl rfl rfl (nb b41) (Lf _ rfl rfl ty_23 rfl (Y rfl rfl rfl (nb b41) (Pc («as» := [.agg [J n.X, J n.Y, J n.Z], J 1023]) rfl rfl (rfl) tf_60 (c_ref00_Within n 1023 (by first | omega | assumption | (constructor <;> omega) | simp)) ?_)))
 intro H43 m44
 have h45 := m44 _ _ h39
 have m46 := m40.trans m44
 refine Y rfl rfl rfl (nb b41) (AOp.not rfl rfl (C rfl (Pf _ rfl rfl (nb b41) rfl (V rfl rfl ?_))))
 rcases Bool.eq_false_or_eq_true (R_ref00_Within n 1023) with b47 | b47
 have iv48 : inV 1023 n := withinref00_in b47
 refine Y rfl rfl rfl (nb b47) (Mv _ rfl rfl (Y rfl rfl rfl (nb b47) (Bi _ rfl rfl rfl rfl (C rfl (Pf _ rfl rfl (nb b47) rfl (V rfl rfl ?_))))))
 by_cases b49 : t < 0
 refine N rfl rfl (decide_eq_true b49) (N rfl rfl (decide_eq_true b49) (C rfl (Pt _ rfl rfl (decide_eq_true b49) rfl (V rfl rfl (N rfl rfl rfl (N rfl rfl rfl (C rfl (Pt _ rfl rfl rfl rfl (V rfl rfl (N rfl rfl rfl (N rfl rfl rfl (C rfl (Pt _ rfl rfl rfl rfl ?_)))))))))))))
 refine ct_ rfl rfl ?_
 refine Sr ?_
 refine C rfl (Bl (cells := [J 0, J 0, J 0]) rfl tz_23 pl_23 rfl rfl (C rfl (Sw rfl rfl ts_23 h45 rfl rfl rfl ?_)))
 intro H50 h51 k52
 have m54 := Mono.set m46 z24 k52
 refine A rfl rfl ?_
 refine rt_ ?_
 refine Rr (Res.list rfl rfl (.cell (v := .agg [J 0, J 0, J 0]) rfl ty_23 h51 rfl (.tmp rfl (.nil)))) ?_ m54
 have hR : R_ref14_Lift p n t h = ((VT.mk 0 0 0), false) := by unfold R_ref14_Lift; rw [if_pos b41, if_pos b47, if_pos b49]
 exact (congrArg Tref14_Lift hR).symm
 refine Y rfl rfl rfl (decide_eq_false b49) (Mv _ rfl rfl (Y rfl rfl rfl (decide_eq_false b49) (Bi _ rfl rfl rfl rfl (C rfl (Pf _ rfl rfl (decide_eq_false b49) rfl (V rfl rfl ?_))))))
 by_cases b55 : t > 255
 refine N rfl rfl (decide_eq_true b55) (N rfl rfl (decide_eq_true b55) (C rfl (Pt _ rfl rfl (decide_eq_true b55) rfl (V rfl rfl (N rfl rfl rfl (N rfl rfl rfl (C rfl (Pt _ rfl rfl rfl rfl ?_))))))))
 refine ct_ rfl rfl ?_
 refine Sr ?_
 refine C rfl (Bl (cells := [J 0, J 0, J 0]) rfl tz_23 pl_23 rfl rfl (C rfl (Sw rfl rfl ts_23 h45 rfl rfl rfl ?_)))
 intro H56 h57 k58
 have m60 := Mono.set m46 z24 k58
 refine A rfl rfl ?_
 refine rt_ ?_
 refine Rr (Res.list rfl rfl (.cell (v := .agg [J 0, J 0, J 0]) rfl ty_23 h57 rfl (.tmp rfl (.nil)))) ?_ m60
 have hR : R_ref14_Lift p n t h = ((VT.mk 0 0 0), false) := by unfold R_ref14_Lift; rw [if_pos b41, if_pos b47, if_neg b49, if_pos b55]
 exact (congrArg Tref14_Lift hR).symm
 refine Y rfl rfl rfl (decide_eq_false b55) (Mv _ rfl rfl (Y rfl rfl rfl (decide_eq_false b55) (Bi _ rfl rfl rfl rfl (C rfl (Pf _ rfl rfl (decide_eq_false b55) rfl (V rfl rfl ?_))))))
 by_cases b61 : h < 0
 refine N rfl rfl (decide_eq_true b61) (N rfl rfl (decide_eq_true b61) (C rfl (Pt _ rfl rfl (decide_eq_true b61) rfl ?_)))
 refine ct_ rfl rfl ?_
 refine Sr ?_
 refine C rfl (Bl (cells := [J 0, J 0, J 0]) rfl tz_23 pl_23 rfl rfl (C rfl (Sw rfl rfl ts_23 h45 rfl rfl rfl ?_)))
 intro H62 h63 k64
 have m66 := Mono.set m46 z24 k64
 refine A rfl rfl ?_
 refine rt_ ?_
 refine Rr (Res.list rfl rfl (.cell (v := .agg [J 0, J 0, J 0]) rfl ty_23 h63 rfl (.tmp rfl (.nil)))) ?_ m66
 have hR : R_ref14_Lift p n t h = ((VT.mk 0 0 0), false) := by unfold R_ref14_Lift; rw [if_pos b41, if_pos b47, if_neg b49, if_neg b55, if_pos b61]
 exact (congrArg Tref14_Lift hR).symm
 refine Y rfl rfl rfl (decide_eq_false b61) (Mv _ rfl rfl (Y rfl rfl rfl (decide_eq_false b61) (Bi _ rfl rfl rfl rfl (C rfl (Pf _ rfl rfl (decide_eq_false b61) rfl ?_)))))
 refine AOps.nil ?_
 change AWP _ _ _ _ _ _
 by_cases b67 : h > 255
 refine ct_ rfl (decide_eq_true b67) ?_
 refine Sr ?_
 refine C rfl (Bl (cells := [J 0, J 0, J 0]) rfl tz_23 pl_23 rfl rfl (C rfl (Sw rfl rfl ts_23 h45 rfl rfl rfl ?_)))
 intro H68 h69 k70
 have m72 := Mono.set m46 z24 k70
 refine A rfl rfl ?_
 refine rt_ ?_
 refine Rr (Res.list rfl rfl (.cell (v := .agg [J 0, J 0, J 0]) rfl ty_23 h69 rfl (.tmp rfl (.nil)))) ?_ m72
 have hR : R_ref14_Lift p n t h = ((VT.mk 0 0 0), false) := by unfold R_ref14_Lift; rw [if_pos b41, if_pos b47, if_neg b49, if_neg b55, if_neg b61, if_pos b67]
 exact (congrArg Tref14_Lift hR).symm
 refine cf_ rfl (decide_eq_false b67) ?_
 refine AWP.skip ?_
 refine AWP.seq ?_
 have hm := mul_rng (x := t) (k := h) (A := 255) (C := 255) (by omega) (by omega)
 refine AWP.region rfl ?_
 refine V rfl rfl (V rfl rfl (B rfl rfl rfl (imul (by have := mul_rng (x := t) (k := h) (A := 255) (C := 255) (by omega) (by omega); omega)) (C rfl (Pc («as» := [J (t * h), J 255]) rfl rfl (rfl) tf_73 (c_ref02_Round (t * h) 255 (by first | omega | assumption | (constructor <;> omega) | simp) (by first | omega | assumption | (constructor <;> omega) | simp)) ?_))))
 intro H73 m74
 have h75 := m74 _ _ h45
 have m76 := m46.trans m74
 refine A rfl rfl ?_
 refine AWP.seq ?_
 have hk := rround_rng (n := t * h) (d := 255) (B := 65025) (by omega) (by decide) (by decide)
 refine AWP.region_quiet mixed (by kernel_rfl) 6 [6, 7] rfl (by kernel_rfl) (Mono H73) (Mono.refl _) ?_
 refine QL rfl rfl ty_23 rfl (QL rfl rfl ty_23 rfl (QV rfl rfl (Q rfl (fun _ _ φ ψ => Pc («as» := [.agg [J n.X, J n.Y, J n.Z], J (R_ref02_Round (t * h) 255)]) rfl rfl (lapp (lcons (φ 41 rfl) (lcons (φ 42 rfl) rfl)) rfl) tf_75 (c_ref02_Scale n (R_ref02_Round (t * h) 255) (mulV_of iv48 (C := 65025) hk (by decide))) fun H2 m2 => ⟨rfl, ψ.trans m2⟩) (Q rfl (fun _ _ φ ψ => Pc («as» := [.agg [J ((R_ref02_Scale n (R_ref02_Round (t * h) 255)).X), J ((R_ref02_Scale n (R_ref02_Round (t * h) 255)).Y), J ((R_ref02_Scale n (R_ref02_Round (t * h) 255)).Z)], J 1024]) rfl rfl (lapp (lcons (φ 43 rfl) (lcons rfl rfl)) rfl) tf_74 (c_ref09_Of (R_ref02_Scale n (R_ref02_Round (t * h) 255)) 1024 (inV_le (inV_le (inV_ref02_Scale iv48 (C := 65025) hk) (by decide) : inV 66520575 _) (by decide)) (by first | omega | assumption)) fun H2 m2 => ⟨rfl, ψ.trans m2⟩) (Q rfl (fun _ _ φ ψ => Pc («as» := [.agg [J p.X, J p.Y, J p.Z], .agg [J ((Zref14_Lift_0 n t h).X), J ((Zref14_Lift_0 n t h).Y), J ((Zref14_Lift_0 n t h).Z)]]) rfl rfl (lapp (lcons (φ 40 rfl) (lcons (φ 44 rfl) rfl)) rfl) tf_20 (c_ref02_Add p (Zref14_Lift_0 n t h) (inV_le iv42 (by decide)) (inV_le (inV_ref09_Of (inV_le (inV_ref02_Scale iv48 (C := 65025) hk) (by decide) : inV 66520575 _) (by decide) (by omega)) (by decide))) fun H2 m2 => ⟨rfl, ψ.trans m2⟩) ?_)))))
 refine QE.done fun H77 m78 => ?_
 have h79 := m78 _ _ h75
 have m80 := m76.trans m78
 refine C rfl (Sw rfl rfl ts_23 h79 rfl rfl rfl ?_)
 intro H81 h82 k83
 have m85 := Mono.set m80 z24 k83
 refine A rfl rfl ?_
 refine rt_ ?_
 refine Rr (Res.list rfl rfl (.cell (v := .agg [J ((R_ref02_Add p (Zref14_Lift_0 n t h)).X), J ((R_ref02_Add p (Zref14_Lift_0 n t h)).Y), J ((R_ref02_Add p (Zref14_Lift_0 n t h)).Z)]) rfl ty_23 h82 rfl (.tmp rfl (.nil)))) ?_ m85
 have hR : R_ref14_Lift p n t h = ((R_ref02_Add p (Zref14_Lift_0 n t h)), true) := by unfold R_ref14_Lift; rw [if_pos b41, if_pos b47, if_neg b49, if_neg b55, if_neg b61, if_neg b67]
 exact (congrArg Tref14_Lift hR).symm
 refine N rfl rfl (nb b47) (N rfl rfl (nb b47) (C rfl (Pt _ rfl rfl (nb b47) rfl (V rfl rfl (N rfl rfl rfl (N rfl rfl rfl (C rfl (Pt _ rfl rfl rfl rfl (V rfl rfl (N rfl rfl rfl (N rfl rfl rfl (C rfl (Pt _ rfl rfl rfl rfl (V rfl rfl (N rfl rfl rfl (N rfl rfl rfl (C rfl (Pt _ rfl rfl rfl rfl ?_))))))))))))))))))
 refine ct_ rfl rfl ?_
 refine Sr ?_
 refine C rfl (Bl (cells := [J 0, J 0, J 0]) rfl tz_23 pl_23 rfl rfl (C rfl (Sw rfl rfl ts_23 h45 rfl rfl rfl ?_)))
 intro H86 h87 k88
 have m90 := Mono.set m46 z24 k88
 refine A rfl rfl ?_
 refine rt_ ?_
 refine Rr (Res.list rfl rfl (.cell (v := .agg [J 0, J 0, J 0]) rfl ty_23 h87 rfl (.tmp rfl (.nil)))) ?_ m90
 have hR : R_ref14_Lift p n t h = ((VT.mk 0 0 0), false) := by unfold R_ref14_Lift; rw [if_pos b41, if_neg (ff b47)]
 exact (congrArg Tref14_Lift hR).symm
 refine N rfl rfl (nb b41) (N rfl rfl (nb b41) (N rfl rfl (nb b41) (C rfl (Pt _ rfl rfl (nb b41) rfl (V rfl rfl (N rfl rfl rfl (N rfl rfl rfl (C rfl (Pt _ rfl rfl rfl rfl (V rfl rfl (N rfl rfl rfl (N rfl rfl rfl (C rfl (Pt _ rfl rfl rfl rfl (V rfl rfl (N rfl rfl rfl (N rfl rfl rfl (C rfl (Pt _ rfl rfl rfl rfl (V rfl rfl (N rfl rfl rfl ?_)))))))))))))))))))))
 refine N rfl rfl rfl (C rfl (Pt _ rfl rfl rfl rfl ?_))
 refine ct_ rfl rfl ?_
 refine Sr ?_
 refine C rfl (Bl (cells := [J 0, J 0, J 0]) rfl tz_23 pl_23 rfl rfl (C rfl (Sw rfl rfl ts_23 h39 rfl rfl rfl ?_)))
 intro H91 h92 k93
 have m95 := Mono.set m40 z24 k93
 refine A rfl rfl ?_
 refine rt_ ?_
 refine Rr (Res.list rfl rfl (.cell (v := .agg [J 0, J 0, J 0]) rfl ty_23 h92 rfl (.tmp rfl (.nil)))) ?_ m95
 have hR : R_ref14_Lift p n t h = ((VT.mk 0 0 0), false) := by unfold R_ref14_Lift; rw [if_neg (ff b41)]
 exact (congrArg Tref14_Lift hR).symm
def R_relief_right (t : TexT) : Bool :=
  if t.W ≥ 1 then (if t.W ≤ 16 then (if t.H ≥ 1 then (if t.H ≤ 16 then (if (t.Rows.length : Int) = t.W * t.H then (if minL t.Rows ≥ 0 then decide (maxL t.Rows ≤ 255) else false) else false) else false) else false) else false) else false
def Trelief_right (r : Bool) : AV := .bool r
theorem c_relief_right (t : TexT) (ht : t.Rows.length ≤ 1048576) : PC Tryd.prog 55 [.agg [.str t.Name, J t.W, J t.H, .sl t.Rows.length (t.Rows.map eI)]] (.bool (R_relief_right t)) := by
 intro H0
 refine ACalls.of_body' (n := 44) rfl rfl rfl rfl ?_
 have m0 := Mono.refl H0
 refine Sr ?_
 refine C rfl (bx_ (.agg [.str t.Name, J t.W, J t.H, .sl t.Rows.length (t.Rows.map eI)]) rfl rfl rfl ?_)
 intro i1 H2 n3 h4 k5
 have z6 := Mono.free m0 n3
 have m7 := Mono.new m0 n3 k5
 refine A rfl rfl ?_
 refine AWP.seq ?_
 refine fz_ 1 h4 z6 rfl m7 fun H8 m9 k10 => ?_
 refine AWP.region rfl ?_
 refine F rfl rfl fl_65_1 (L rfl rfl ty_3 rfl (B rfl rfl rfl rfl (V rfl rfl ?_)))
 by_cases b11 : t.W ≥ 1
 refine Y rfl rfl rfl (decide_eq_true b11) (Ff rfl rfl fl_65_1 (Y rfl rfl rfl (decide_eq_true b11) (Lf _ rfl rfl ty_3 rfl (Y rfl rfl rfl (decide_eq_true b11) (Bi _ rfl rfl rfl rfl (C rfl (Pt _ rfl rfl (decide_eq_true b11) rfl (V rfl rfl ?_))))))))
 by_cases b12 : t.W ≤ 16
 refine Y rfl rfl rfl (decide_eq_true b12) (Ff rfl rfl fl_65_2 (Y rfl rfl rfl (decide_eq_true b12) (Lf _ rfl rfl ty_3 rfl (Y rfl rfl rfl (decide_eq_true b12) (Bi _ rfl rfl rfl rfl (C rfl (Pt _ rfl rfl (decide_eq_true b12) rfl (V rfl rfl ?_))))))))
 by_cases b13 : t.H ≥ 1
 refine Y rfl rfl rfl (decide_eq_true b13) (Ff rfl rfl fl_65_2 (Y rfl rfl rfl (decide_eq_true b13) (Lf _ rfl rfl ty_3 rfl (Y rfl rfl rfl (decide_eq_true b13) (Bi _ rfl rfl rfl rfl (C rfl (Pt _ rfl rfl (decide_eq_true b13) rfl (V rfl rfl ?_))))))))
 by_cases b14 : t.H ≤ 16
 refine Y rfl rfl rfl (decide_eq_true b14) (Ff rfl rfl fl_65_3 (Y rfl rfl rfl (decide_eq_true b14) (Lf _ rfl rfl ty_63 rfl (Y rfl rfl rfl (decide_eq_true b14) (AOp.len (m := t.Rows.length) rfl rfl (.inr (.inl ⟨_, rfl⟩)) u_63 (Y rfl rfl rfl (decide_eq_true b14) (Ff rfl rfl fl_65_1 (Y rfl rfl rfl (decide_eq_true b14) (Lf _ rfl rfl ty_3 rfl (Y rfl rfl rfl (decide_eq_true b14) (Ff rfl rfl fl_65_2 (Y rfl rfl rfl (decide_eq_true b14) (Lf _ rfl rfl ty_3 rfl (Y rfl rfl rfl (decide_eq_true b14) (Bi _ rfl rfl rfl (imul (by have := mul_rng (x := t.W) (k := t.H) (A := 16) (C := 16) (by omega) (by omega); omega)) (Y rfl rfl rfl (decide_eq_true b14) (Bi _ rfl rfl rfl ieq (C rfl (Pt _ rfl rfl (decide_eq_true b14) rfl (V rfl rfl ?_))))))))))))))))))))
 by_cases b15 : (t.Rows.length : Int) = t.W * t.H
 refine Y rfl rfl rfl (decide_eq_true b15) (Ff rfl rfl fl_65_3 (Y rfl rfl rfl (decide_eq_true b15) (Lf _ rfl rfl ty_63 rfl (Y rfl rfl rfl (decide_eq_true b15) (Pc («as» := [.sl t.Rows.length (t.Rows.map eI)]) rfl rfl (rfl) tf_40 (c_Min t.Rows (by first | omega | assumption | (simp; omega) | simp) (len_pos (by assumption) (by omega) (by omega))) ?_)))))
 intro H16 m17
 have m18 := m9.trans m17
 refine Y rfl rfl rfl (decide_eq_true b15) (Bi _ rfl rfl rfl rfl (C rfl (Pt _ rfl rfl (decide_eq_true b15) rfl (V rfl rfl ?_))))
 by_cases b19 : minL t.Rows ≥ 0
 refine Y rfl rfl rfl (decide_eq_true b19) (Ff rfl rfl fl_65_3 (Y rfl rfl rfl (decide_eq_true b19) (Lf _ rfl rfl ty_63 rfl (Y rfl rfl rfl (decide_eq_true b19) (Pc («as» := [.sl t.Rows.length (t.Rows.map eI)]) rfl rfl (rfl) tf_26 (c_Max t.Rows (by first | omega | assumption | (simp; omega) | simp) (len_pos (by assumption) (by omega) (by omega))) ?_)))))
 intro H20 m21
 have m22 := m18.trans m21
 refine Y rfl rfl rfl (decide_eq_true b19) (Bi _ rfl rfl rfl rfl (C rfl (Pt _ rfl rfl (decide_eq_true b19) rfl (A rfl rfl ?_))))
 refine rt_ ?_
 refine Rr (Res.one rfl rfl) ?_ m22
 have hR : R_relief_right t = decide (maxL t.Rows ≤ 255) := by unfold R_relief_right; rw [if_pos b11, if_pos b12, if_pos b13, if_pos b14, if_pos b15, if_pos b19]
 exact (congrArg Trelief_right hR).symm
 refine N rfl rfl (decide_eq_false b19) (N rfl rfl (decide_eq_false b19) (N rfl rfl (decide_eq_false b19) (N rfl rfl (decide_eq_false b19) (C rfl (Pf _ rfl rfl (decide_eq_false b19) rfl (A rfl rfl ?_))))))
 refine rt_ ?_
 refine Rr (Res.one rfl rfl) ?_ m18
 have hR : R_relief_right t = false := by unfold R_relief_right; rw [if_pos b11, if_pos b12, if_pos b13, if_pos b14, if_pos b15, if_neg b19]
 exact (congrArg Trelief_right hR).symm
 refine N rfl rfl (decide_eq_false b15) (N rfl rfl (decide_eq_false b15) (N rfl rfl (decide_eq_false b15) (N rfl rfl (decide_eq_false b15) (C rfl (Pf _ rfl rfl (decide_eq_false b15) rfl (V rfl rfl (N rfl rfl rfl (N rfl rfl rfl (N rfl rfl rfl (N rfl rfl rfl (C rfl (Pf _ rfl rfl rfl rfl (A rfl rfl ?_)))))))))))))
 refine rt_ ?_
 refine Rr (Res.one rfl rfl) ?_ m9
 have hR : R_relief_right t = false := by unfold R_relief_right; rw [if_pos b11, if_pos b12, if_pos b13, if_pos b14, if_neg b15]
 exact (congrArg Trelief_right hR).symm
 refine N rfl rfl (decide_eq_false b14) (N rfl rfl (decide_eq_false b14) (N rfl rfl (decide_eq_false b14) (N rfl rfl (decide_eq_false b14) (N rfl rfl (decide_eq_false b14) (N rfl rfl (decide_eq_false b14) (N rfl rfl (decide_eq_false b14) (N rfl rfl (decide_eq_false b14) (N rfl rfl (decide_eq_false b14) (C rfl (Pf _ rfl rfl (decide_eq_false b14) rfl (V rfl rfl (N rfl rfl rfl (N rfl rfl rfl (N rfl rfl rfl (N rfl rfl rfl (C rfl (Pf _ rfl rfl rfl rfl (V rfl rfl (N rfl rfl rfl ?_)))))))))))))))))))
 refine N rfl rfl rfl (N rfl rfl rfl (N rfl rfl rfl (C rfl (Pf _ rfl rfl rfl rfl (A rfl rfl ?_)))))
 refine rt_ ?_
 refine Rr (Res.one rfl rfl) ?_ m9
 have hR : R_relief_right t = false := by unfold R_relief_right; rw [if_pos b11, if_pos b12, if_pos b13, if_neg b14]
 exact (congrArg Trelief_right hR).symm
 refine N rfl rfl (decide_eq_false b13) (N rfl rfl (decide_eq_false b13) (N rfl rfl (decide_eq_false b13) (C rfl (Pf _ rfl rfl (decide_eq_false b13) rfl (V rfl rfl (N rfl rfl rfl (N rfl rfl rfl (N rfl rfl rfl (N rfl rfl rfl (N rfl rfl rfl (N rfl rfl rfl (N rfl rfl rfl (N rfl rfl rfl (N rfl rfl rfl (C rfl (Pf _ rfl rfl rfl rfl (V rfl rfl (N rfl rfl rfl (N rfl rfl rfl ?_)))))))))))))))))))
 refine N rfl rfl rfl (N rfl rfl rfl (C rfl (Pf _ rfl rfl rfl rfl (V rfl rfl (N rfl rfl rfl (N rfl rfl rfl (N rfl rfl rfl (N rfl rfl rfl (C rfl (Pf _ rfl rfl rfl rfl (A rfl rfl ?_)))))))))))
 refine rt_ ?_
 refine Rr (Res.one rfl rfl) ?_ m9
 have hR : R_relief_right t = false := by unfold R_relief_right; rw [if_pos b11, if_pos b12, if_neg b13]
 exact (congrArg Trelief_right hR).symm
 refine N rfl rfl (decide_eq_false b12) (N rfl rfl (decide_eq_false b12) (N rfl rfl (decide_eq_false b12) (C rfl (Pf _ rfl rfl (decide_eq_false b12) rfl (V rfl rfl (N rfl rfl rfl (N rfl rfl rfl (N rfl rfl rfl (C rfl (Pf _ rfl rfl rfl rfl (V rfl rfl (N rfl rfl rfl (N rfl rfl rfl (N rfl rfl rfl (N rfl rfl rfl (N rfl rfl rfl (N rfl rfl rfl (N rfl rfl rfl (N rfl rfl rfl ?_)))))))))))))))))))
 refine N rfl rfl rfl (C rfl (Pf _ rfl rfl rfl rfl (V rfl rfl (N rfl rfl rfl (N rfl rfl rfl (N rfl rfl rfl (N rfl rfl rfl (C rfl (Pf _ rfl rfl rfl rfl (V rfl rfl (N rfl rfl rfl (N rfl rfl rfl (N rfl rfl rfl (N rfl rfl rfl (C rfl (Pf _ rfl rfl rfl rfl (A rfl rfl ?_)))))))))))))))))
 refine rt_ ?_
 refine Rr (Res.one rfl rfl) ?_ m9
 have hR : R_relief_right t = false := by unfold R_relief_right; rw [if_pos b11, if_neg b12]
 exact (congrArg Trelief_right hR).symm
 refine N rfl rfl (decide_eq_false b11) (N rfl rfl (decide_eq_false b11) (N rfl rfl (decide_eq_false b11) (C rfl (Pf _ rfl rfl (decide_eq_false b11) rfl (V rfl rfl (N rfl rfl rfl (N rfl rfl rfl (N rfl rfl rfl (C rfl (Pf _ rfl rfl rfl rfl (V rfl rfl (N rfl rfl rfl (N rfl rfl rfl (N rfl rfl rfl (C rfl (Pf _ rfl rfl rfl rfl (V rfl rfl (N rfl rfl rfl (N rfl rfl rfl (N rfl rfl rfl ?_))))))))))))))))))))
 refine N rfl rfl rfl (N rfl rfl rfl (N rfl rfl rfl (N rfl rfl rfl (N rfl rfl rfl (N rfl rfl rfl (C rfl (Pf _ rfl rfl rfl rfl (V rfl rfl (N rfl rfl rfl (N rfl rfl rfl (N rfl rfl rfl (N rfl rfl rfl (C rfl (Pf _ rfl rfl rfl rfl (V rfl rfl (N rfl rfl rfl (N rfl rfl rfl (N rfl rfl rfl (N rfl rfl rfl ?_)))))))))))))))))))
 refine C rfl (Pf _ rfl rfl rfl rfl (A rfl rfl ?_))
 refine rt_ ?_
 refine Rr (Res.one rfl rfl) ?_ m9
 have hR : R_relief_right t = false := by unfold R_relief_right; rw [if_neg b11]
 exact (congrArg Trelief_right hR).symm
theorem c_ref14_Right (t : TexT) (ht : t.Rows.length ≤ 1048576) : PC Tryd.prog 71 [.agg [.str t.Name, J t.W, J t.H, .sl t.Rows.length (t.Rows.map eI)]] (.bool (rightS t)) := by
 intro H0
 refine ACalls.of_body' (n := 54) rfl rfl rfl rfl ?_
 have m0 := Mono.refl H0
 refine Sr ?_
 refine C rfl (bx_ (.agg [.str t.Name, J t.W, J t.H, .sl t.Rows.length (t.Rows.map eI)]) rfl rfl rfl ?_)
 intro i1 H2 n3 h4 k5
 have z6 := Mono.free m0 n3
 have m7 := Mono.new m0 n3 k5
 refine A rfl rfl ?_
 refine AWP.seq ?_
 refine AWP.seq ?_
 refine fz_ 1 h4 z6 rfl m7 fun H8 m9 k10 => ?_
 refine AWP.region rfl ?_
 refine F rfl rfl fl_65_1 (L rfl rfl ty_3 rfl (B rfl rfl rfl rfl (V rfl rfl ?_)))
 by_cases b11 : t.W < 1
 refine N rfl rfl (decide_eq_true b11) (N rfl rfl (decide_eq_true b11) (N rfl rfl (decide_eq_true b11) (C rfl (Pt _ rfl rfl (decide_eq_true b11) rfl (V rfl rfl (N rfl rfl rfl (N rfl rfl rfl (N rfl rfl rfl (C rfl (Pt _ rfl rfl rfl rfl (V rfl rfl (N rfl rfl rfl (N rfl rfl rfl (N rfl rfl rfl (C rfl (Pt _ rfl rfl rfl rfl (V rfl rfl (N rfl rfl rfl (N rfl rfl rfl (N rfl rfl rfl ?_))))))))))))))))))))
 refine N rfl rfl rfl (N rfl rfl rfl (N rfl rfl rfl (N rfl rfl rfl (N rfl rfl rfl (N rfl rfl rfl (C rfl (Pt _ rfl rfl rfl rfl ?_)))))))
 refine ct_ rfl rfl ?_
 refine Sr ?_
 refine A rfl rfl ?_
 refine rt_ ?_
 refine Rr (Res.one rfl rfl) ?_ m9
 exact (congrArg AV.bool (show (false : Bool) = rightS t from by exact rightS_F (fun h => by obtain ⟨g1, g2, g3, g4, g5, g6⟩ := h; first | omega | (have := g6 i hi0 (by omega); omega))))
 refine Y rfl rfl rfl (decide_eq_false b11) (Ff rfl rfl fl_65_1 (Y rfl rfl rfl (decide_eq_false b11) (Lf _ rfl rfl ty_3 rfl (Y rfl rfl rfl (decide_eq_false b11) (Bi _ rfl rfl rfl rfl (C rfl (Pf _ rfl rfl (decide_eq_false b11) rfl (V rfl rfl ?_))))))))
 by_cases b12 : t.W > 16
 refine N rfl rfl (decide_eq_true b12) (N rfl rfl (decide_eq_true b12) (N rfl rfl (decide_eq_true b12) (C rfl (Pt _ rfl rfl (decide_eq_true b12) rfl (V rfl rfl (N rfl rfl rfl (N rfl rfl rfl (N rfl rfl rfl (C rfl (Pt _ rfl rfl rfl rfl (V rfl rfl (N rfl rfl rfl (N rfl rfl rfl (N rfl rfl rfl (N rfl rfl rfl (N rfl rfl rfl (N rfl rfl rfl (N rfl rfl rfl (N rfl rfl rfl ?_)))))))))))))))))))
 refine N rfl rfl rfl (C rfl (Pt _ rfl rfl rfl rfl ?_))
 refine ct_ rfl rfl ?_
 refine Sr ?_
 refine A rfl rfl ?_
 refine rt_ ?_
 refine Rr (Res.one rfl rfl) ?_ m9
 exact (congrArg AV.bool (show (false : Bool) = rightS t from by exact rightS_F (fun h => by obtain ⟨g1, g2, g3, g4, g5, g6⟩ := h; first | omega | (have := g6 i hi0 (by omega); omega))))
 refine Y rfl rfl rfl (decide_eq_false b12) (Ff rfl rfl fl_65_2 (Y rfl rfl rfl (decide_eq_false b12) (Lf _ rfl rfl ty_3 rfl (Y rfl rfl rfl (decide_eq_false b12) (Bi _ rfl rfl rfl rfl (C rfl (Pf _ rfl rfl (decide_eq_false b12) rfl (V rfl rfl ?_))))))))
 by_cases b13 : t.H < 1
 refine N rfl rfl (decide_eq_true b13) (N rfl rfl (decide_eq_true b13) (N rfl rfl (decide_eq_true b13) (C rfl (Pt _ rfl rfl (decide_eq_true b13) rfl (V rfl rfl (N rfl rfl rfl (N rfl rfl rfl (N rfl rfl rfl (N rfl rfl rfl (N rfl rfl rfl (N rfl rfl rfl (N rfl rfl rfl (N rfl rfl rfl (N rfl rfl rfl (C rfl (Pt _ rfl rfl rfl rfl ?_))))))))))))))))
 refine ct_ rfl rfl ?_
 refine Sr ?_
 refine A rfl rfl ?_
 refine rt_ ?_
 refine Rr (Res.one rfl rfl) ?_ m9
 exact (congrArg AV.bool (show (false : Bool) = rightS t from by exact rightS_F (fun h => by obtain ⟨g1, g2, g3, g4, g5, g6⟩ := h; first | omega | (have := g6 i hi0 (by omega); omega))))
 refine Y rfl rfl rfl (decide_eq_false b13) (Ff rfl rfl fl_65_2 (Y rfl rfl rfl (decide_eq_false b13) (Lf _ rfl rfl ty_3 rfl (Y rfl rfl rfl (decide_eq_false b13) (Bi _ rfl rfl rfl rfl (C rfl (Pf _ rfl rfl (decide_eq_false b13) rfl (V rfl rfl ?_))))))))
 by_cases b14 : t.H > 16
 refine N rfl rfl (decide_eq_true b14) (N rfl rfl (decide_eq_true b14) (N rfl rfl (decide_eq_true b14) (N rfl rfl (decide_eq_true b14) (N rfl rfl (decide_eq_true b14) (N rfl rfl (decide_eq_true b14) (N rfl rfl (decide_eq_true b14) (N rfl rfl (decide_eq_true b14) (N rfl rfl (decide_eq_true b14) (C rfl (Pt _ rfl rfl (decide_eq_true b14) rfl ?_))))))))))
 refine ct_ rfl rfl ?_
 refine Sr ?_
 refine A rfl rfl ?_
 refine rt_ ?_
 refine Rr (Res.one rfl rfl) ?_ m9
 exact (congrArg AV.bool (show (false : Bool) = rightS t from by exact rightS_F (fun h => by obtain ⟨g1, g2, g3, g4, g5, g6⟩ := h; first | omega | (have := g6 i hi0 (by omega); omega))))
 refine Y rfl rfl rfl (decide_eq_false b14) (Ff rfl rfl fl_65_3 (Y rfl rfl rfl (decide_eq_false b14) (Lf _ rfl rfl ty_63 rfl (Y rfl rfl rfl (decide_eq_false b14) (AOp.len (m := t.Rows.length) rfl rfl (.inr (.inl ⟨_, rfl⟩)) u_63 (Y rfl rfl rfl (decide_eq_false b14) (Ff rfl rfl fl_65_1 (Y rfl rfl rfl (decide_eq_false b14) (Lf _ rfl rfl ty_3 rfl (Y rfl rfl rfl (decide_eq_false b14) (Ff rfl rfl fl_65_2 (Y rfl rfl rfl (decide_eq_false b14) (Lf _ rfl rfl ty_3 rfl (Y rfl rfl rfl (decide_eq_false b14) (Bi _ rfl rfl rfl (imul (by have := mul_rng (x := t.W) (k := t.H) (A := 16) (C := 16) (by omega) (by omega); omega)) (Y rfl rfl rfl (decide_eq_false b14) (Bi _ rfl rfl rfl ine (C rfl (Pf _ rfl rfl (decide_eq_false b14) rfl ?_)))))))))))))))))))
 refine AOps.nil ?_
 change AWP _ _ _ _ _ _
 by_cases b15 : (t.Rows.length : Int) = t.W * t.H
 refine cf_ rfl (nb (decide_eq_true b15)) ?_
 refine AWP.skip ?_
 refine AWP.seq ?_
 refine Sr ?_
 refine A rfl rfl ?_
 refine bk_ ?_
 refine AWP.loop (fun q16 fq Hq => ∃ (i : Int), q16 = (((t.Rows.length : Int) : Int) - i).toNat ∧ fq 3 = J i ∧ fq 1 = .fptr [.str t.Name, J t.W, J t.H, .sl t.Rows.length (t.Rows.map eI)] 0 ∧ Mono H0 Hq ∧ (0 ≤ i) ∧ (i ≤ (t.Rows.length : Int)) ∧ (∀ j : Int, 0 ≤ j → j < i → 0 ≤ at_ t.Rows j ∧ at_ t.Rows j ≤ 255)) (k := (((t.Rows.length : Int) : Int) - 0).toNat) ?_ ?_
 exact ⟨0, rfl, rfl, rfl, m9, by omega, by omega, by intro j; omega⟩
 rintro _ f18 H17 ⟨i, rfl, s19, s20, m21, hi0, hi1, pre⟩
 refine AWP.seq ?_
 refine Sr ?_
 refine V rfl s19 (F rfl s20 fl_65_3 (L rfl rfl ty_63 rfl (C rfl (AOp.len (m := t.Rows.length) rfl rfl (.inr (.inl ⟨_, rfl⟩)) u_63 (B rfl rfl rfl rfl ?_)))))
 refine AOps.nil ?_
 change AWP _ _ _ _ _ _
 by_cases b22 : i < (t.Rows.length : Int)
 refine ct_ rfl (decide_eq_true b22) ?_
 refine AWP.skip ?_
 refine AWP.seq ?_
 refine bk_ ?_
 refine Sr ?_
 refine F rfl s20 fl_65_3 (L rfl rfl ty_63 rfl (V rfl s19 (C rfl (iS_ rfl rfl rfl sl_63 (by omega) (by omega) (L rfl rfl ty_3 (ld1 (by omega) (by omega)) (B rfl rfl rfl rfl (V rfl rfl ?_)))))))
 by_cases b23 : at_ t.Rows i < 0
 refine N rfl rfl (decide_eq_true b23) (N rfl rfl (decide_eq_true b23) (N rfl rfl (decide_eq_true b23) (N rfl rfl (decide_eq_true b23) (N rfl rfl (decide_eq_true b23) (N rfl rfl (decide_eq_true b23) (C rfl (Pt _ rfl rfl (decide_eq_true b23) rfl ?_)))))))
 refine ct_ rfl rfl ?_
 refine Sr ?_
 refine A rfl rfl ?_
 refine rt_ ?_
 refine Rr (Res.one rfl rfl) ?_ m21
 exact (congrArg AV.bool (show (false : Bool) = rightS t from by exact rightS_F (fun h => by obtain ⟨g1, g2, g3, g4, g5, g6⟩ := h; first | omega | (have := g6 i hi0 (by omega); omega))))
 refine Y rfl rfl rfl (decide_eq_false b23) (Ff rfl s20 fl_65_3 (Y rfl rfl rfl (decide_eq_false b23) (Lf _ rfl rfl ty_63 rfl (Y rfl rfl rfl (decide_eq_false b23) (Mv _ rfl s19 (Y rfl rfl rfl (decide_eq_false b23) (iS_ rfl rfl rfl sl_63 (by omega) (by omega) (Y rfl rfl rfl (decide_eq_false b23) (Lf _ rfl rfl ty_3 (ld1 (by omega) (by omega)) (Y rfl rfl rfl (decide_eq_false b23) (Bi _ rfl rfl rfl rfl (C rfl (Pf _ rfl rfl (decide_eq_false b23) rfl ?_)))))))))))))
 refine AOps.nil ?_
 change AWP _ _ _ _ _ _
 by_cases b24 : at_ t.Rows i > 255
 refine ct_ rfl (decide_eq_true b24) ?_
 refine Sr ?_
 refine A rfl rfl ?_
 refine rt_ ?_
 refine Rr (Res.one rfl rfl) ?_ m21
 exact (congrArg AV.bool (show (false : Bool) = rightS t from by exact rightS_F (fun h => by obtain ⟨g1, g2, g3, g4, g5, g6⟩ := h; first | omega | (have := g6 i hi0 (by omega); omega))))
 refine cf_ rfl (decide_eq_false b24) ?_
 refine AWP.skip ?_
 refine AWP.region rfl ?_
 refine V rfl s19 (B rfl rfl rfl (iadd (by omega)) (A rfl rfl ?_))
 refine AOps.nil ?_
 exact ⟨_, by omega, i + 1, rfl, rfl, s20, m21, by omega, by omega, by exact fa_step pre (by omega)⟩
 refine cf_ rfl (decide_eq_false b22) ?_
 refine AWP.exit ?_
 change AWP _ _ _ _ _ _
 refine Sr ?_
 refine A rfl rfl ?_
 refine rt_ ?_
 refine Rr (Res.one rfl rfl) ?_ m21
 exact (congrArg AV.bool (show (true : Bool) = rightS t from by exact rightS_T ⟨by omega, by omega, by omega, by omega, by assumption, fun j h0 h1 => pre j h0 (by omega)⟩))
 refine ct_ rfl (nb (decide_eq_false b15)) ?_
 refine Sr ?_
 refine A rfl rfl ?_
 refine rt_ ?_
 refine Rr (Res.one rfl rfl) ?_ m9
 exact (congrArg AV.bool (show (false : Bool) = rightS t from by exact rightS_F (fun h => by obtain ⟨g1, g2, g3, g4, g5, g6⟩ := h; first | omega | (have := g6 i hi0 (by omega); omega))))
end Go.Proofs.M
namespace Go.Proofs.M
open Go Go.AH
theorem foldmin_le {l : List Int} : ∀ x, l.foldl min x ≤ x ∧ ∀ y ∈ l, l.foldl min x ≤ y := by
  induction l with
  | nil => intro x; exact ⟨Int.le_refl _, fun y h => by cases h⟩
  | cons a l ih =>
    intro x
    obtain ⟨h1, h2⟩ := ih (min x a)
    refine ⟨by rw [List.foldl_cons]; omega, fun y hy => ?_⟩
    rw [List.foldl_cons]
    rcases List.mem_cons.1 hy with rfl | hy
    · omega
    · exact h2 y hy
theorem foldmin_mem {l : List Int} : ∀ x, l.foldl min x = x ∨ l.foldl min x ∈ l := by
  induction l with
  | nil => intro x; exact .inl rfl
  | cons a l ih =>
    intro x
    rw [List.foldl_cons]
    rcases ih (min x a) with h | h
    · rw [h]
      rcases Int.le_total x a with g | g
      · left; omega
      · right; rw [Int.min_eq_right g]; exact .head _
    · right; exact .tail _ h
theorem foldmax_ge {l : List Int} : ∀ x, x ≤ l.foldl max x ∧ ∀ y ∈ l, y ≤ l.foldl max x := by
  induction l with
  | nil => intro x; exact ⟨Int.le_refl _, fun y h => by cases h⟩
  | cons a l ih =>
    intro x
    obtain ⟨h1, h2⟩ := ih (max x a)
    refine ⟨by rw [List.foldl_cons]; omega, fun y hy => ?_⟩
    rw [List.foldl_cons]
    rcases List.mem_cons.1 hy with rfl | hy
    · omega
    · exact h2 y hy
theorem foldmax_mem {l : List Int} : ∀ x, l.foldl max x = x ∨ l.foldl max x ∈ l := by
  induction l with
  | nil => intro x; exact .inl rfl
  | cons a l ih =>
    intro x
    rw [List.foldl_cons]
    rcases ih (max x a) with h | h
    · rw [h]
      rcases Int.le_total a x with g | g
      · left; omega
      · right; rw [Int.max_eq_right g]; exact .head _
    · right; exact .tail _ h
theorem minL_iff {l : List Int} (h1 : 1 ≤ l.length) {c : Int} : c ≤ minL l ↔ ∀ x ∈ l, c ≤ x := by
  unfold minL
  have h0 : at_ l 0 ∈ l := at_mem (by omega) (by omega)
  constructor
  · intro h x hx; have := (foldmin_le (l := l) (at_ l 0)).2 x hx; omega
  · intro h
    rcases foldmin_mem (l := l) (at_ l 0) with e | e
    · rw [e]; exact h _ h0
    · exact h _ e
theorem maxL_iff {l : List Int} (h1 : 1 ≤ l.length) {c : Int} : maxL l ≤ c ↔ ∀ x ∈ l, x ≤ c := by
  unfold maxL
  have h0 : at_ l 0 ∈ l := at_mem (by omega) (by omega)
  constructor
  · intro h x hx; have := (foldmax_ge (l := l) (at_ l 0)).2 x hx; omega
  · intro h
    rcases foldmax_mem (l := l) (at_ l 0) with e | e
    · rw [e]; exact h _ h0
    · exact h _ e
theorem right_iff {t : TexT} : R_relief_right t = true ↔ RightP t := by
  unfold R_relief_right
  constructor
  · intro h
    split at h
    · split at h
      · split at h
        · split at h
          · split at h
            · rename_i c1 c2 c3 c4 c5
              have hl := len_pos c5 c1 c3
              split at h
              · rename_i c6
                have e1 := (minL_iff hl (c := 0)).1 c6
                have e2 := (maxL_iff hl (c := 255)).1 (of_decide_eq_true h)
                exact ⟨c1, c2, c3, c4, c5, fun j j0 j1 => ⟨e1 _ (at_mem j0 j1), e2 _ (at_mem j0 j1)⟩⟩
              · cases h
            · cases h
          · cases h
        · cases h
      · cases h
    · cases h
  · rintro ⟨a1, a2, a3, a4, a5, a6⟩
    have hl := len_pos a5 a1 a3
    rw [if_pos (by omega), if_pos (by omega), if_pos (by omega), if_pos (by omega), if_pos a5, if_pos, decide_eq_true_eq]
    · refine (maxL_iff hl).2 fun x hx => ?_
      obtain ⟨i, i0, i1, rfl⟩ := mem_at hx
      exact (a6 i i0 i1).2
    · refine (minL_iff hl).2 fun x hx => ?_
      obtain ⟨i, i0, i1, rfl⟩ := mem_at hx
      exact (a6 i i0 i1).1
theorem right_same (t : TexT) : R_relief_right t = rightS t := Bool.eq_iff_iff.2 (right_iff.trans rightS_iff.symm)
theorem right_in_rightS {t : TexT} (ht : t.Rows.length ≤ 1048576) (h : rightS t = true) : 1 ≤ t.W ∧ t.W ≤ 16 ∧ 1 ≤ t.H ∧ t.H ≤ 16 ∧ (t.Rows.length : Int) = t.W * t.H := by
  have h := rightS_iff.1 h
  exact ⟨h.1, h.2.1, h.2.2.1, h.2.2.2.1, h.2.2.2.2.1⟩
theorem right_in_relief_right {t : TexT} (ht : t.Rows.length ≤ 1048576) (h : R_relief_right t = true) : 1 ≤ t.W ∧ t.W ≤ 16 ∧ 1 ≤ t.H ∧ t.H ≤ 16 ∧ (t.Rows.length : Int) = t.W * t.H := by
  rw [right_same] at h; exact right_in_rightS ht h
theorem rstep_rng {n m : Int} (hm : 1 ≤ m) : 0 ≤ R_ref14_step n m ∧ R_ref14_step n m < m := by rw [step_same hm]; exact step_rng hm
theorem idx_lt {a b w h : Int} (ha : 0 ≤ a ∧ a < h) (hb : 0 ≤ b ∧ b < w) : 0 ≤ a * w + b ∧ a * w + b < w * h := by
  have h1 : 0 ≤ a * w := Int.mul_nonneg ha.1 (by omega)
  have h2 : a * w + w ≤ h * w := by
    have := Int.mul_le_mul_of_nonneg_right (show a + 1 ≤ h by omega) (show 0 ≤ w by omega)
    rw [Int.add_mul] at this; omega
  rw [Int.mul_comm w h]
  omega
theorem inV_relief_Mix (n : List VT) (i k j m : Int) : inV 1023 (R_relief_Mix n i k j m).1 := by
  unfold R_relief_Mix
  repeat' split
  all_goals first | exact inV_relief_Blend _ _ _ _ | exact inV_zero (by decide)
theorem mix_same (n : List VT) (i k j m : Int) : R_ref14_Mix n i k j m = R_relief_Mix n i k j m := by
  unfold R_ref14_Mix R_relief_Mix
  simp only [blend_same]
theorem lift_same (p n : VT) (t h : Int) : R_ref14_Lift p n t h = R_relief_Lift p n t h := by
  unfold R_ref14_Lift R_relief_Lift
  simp only [within_same]
  split
  · split
    · rename_i hn
      by_cases c : 0 ≤ t ∧ t ≤ 255 ∧ 0 ≤ h ∧ h ≤ 255
      · have hm := mul_rng (x := t) (k := h) (A := 255) (C := 255) (by omega) (by omega)
        have hk := vround_rng (n := t * h) (d := 255) (B := 65025) (by omega) (by decide) (by decide)
        rw [if_neg (by omega), if_neg (by omega), if_neg (by omega), if_neg (by omega), if_neg (by omega), if_neg (by omega)]
        rw [round_same (by omega) (by decide)]
        have hs := inV_vec_Scale (C := 65025) (withinvec_in hn) hk
        rw [scale_same, of_same (inV_le hs (by decide)) (by decide), add_same]
      · have e : min t h < 0 ∨ max t h > 255 := by omega
        have r : (if min t h < 0 then ((VT.mk 0 0 0), false) else if max t h > 255 then ((VT.mk 0 0 0), false) else (R_vec_Add p (R_relief_of (R_vec_Scale n (R_vec_Round (t * h) 255)) 1024), true)) = ((VT.mk 0 0 0), false) := by
          rcases e with e | e
          · rw [if_pos e]
          · split
            · rfl
            · first | rfl | rw [if_pos e]
        rw [r]
        split
        · rfl
        split
        · rfl
        split
        · rfl
        split
        · rfl
        omega
    · rfl
  · rfl
end Go.Proofs.M
namespace Go.Proofs.M
open Go Go.AH
set_option maxRecDepth 4000
set_option linter.unusedSimpArgs false
set_option linter.unusedVariables false
def R_relief_Texel (t : TexT) (p : VT) : Int × Bool :=
  if R_relief_right t = true then (if R_vec_Within p 65536 = true then (at_ t.Rows ((R_relief_step (p.Y + p.Z) t.H) * t.W + (R_relief_step p.X t.W)), true) else (0, false)) else (0, false)
def Trelief_Texel (r : Int × Bool) : AV := .tup [J r.1, .bool r.2]
theorem c_relief_Texel (t : TexT) (p : VT) (ht : t.Rows.length ≤ 1048576) : PC Tryd.prog 28 [.agg [.str t.Name, J t.W, J t.H, .sl t.Rows.length (t.Rows.map eI)], .agg [J p.X, J p.Y, J p.Z]] (.tup [J ((R_relief_Texel t p).1), .bool ((R_relief_Texel t p).2)]) := by
 intro H0
 refine ACalls.of_body' (n := 35) rfl rfl rfl rfl ?_
 have m0 := Mono.refl H0
 refine Sr ?_
 refine C rfl (bx_ (.agg [.str t.Name, J t.W, J t.H, .sl t.Rows.length (t.Rows.map eI)]) rfl rfl rfl ?_)
 intro i1 H2 n3 h4 k5
 have z6 := Mono.free m0 n3
 have m7 := Mono.new m0 n3 k5
 refine C rfl (bx_ (.agg [J p.X, J p.Y, J p.Z]) rfl rfl rfl ?_)
 intro i8 H9 n10 h11 k12
 have e13 := ne_new h4 n10
 have z14 := Mono.free m7 n10
 have h15 := keep k12 (ne_new h4 n10) h4
 have m16 := Mono.new m7 n10 k12
 refine A rfl rfl (A rfl rfl ?_)
 refine AWP.seq ?_
 refine AWP.seq ?_
 refine fz_ 2 h15 z6 rfl m16 fun H17 m18 k19 => ?_
 have h20 := (k19 _ (Ne.symm e13)).trans h11
 refine fz_ 3 h20 z14 rfl m18 fun H21 m22 k23 => ?_
 refine AWP.region rfl ?_
 refine L rfl rfl ty_65 rfl (C rfl (Pc («as» := [.agg [.str t.Name, J t.W, J t.H, .sl t.Rows.length (t.Rows.map eI)]]) rfl rfl (rfl) tf_55 (c_relief_right t (by first | omega | assumption)) ?_))
 intro H24 m25
 have m26 := m22.trans m25
 refine C rfl (AOp.not rfl rfl (V rfl rfl ?_))
 rcases Bool.eq_false_or_eq_true (R_relief_right t) with b27 | b27
 have rt28 := right_in_relief_right (by assumption) b27
 refine Y rfl rfl rfl (nb b27) (Lf _ rfl rfl ty_23 rfl (Y rfl rfl rfl (nb b27) (Pc («as» := [.agg [J p.X, J p.Y, J p.Z], J 65536]) rfl rfl (rfl) tf_18 (c_vec_Within p 65536 (by first | omega | assumption | (constructor <;> omega) | simp)) ?_)))
 intro H29 m30
 have m31 := m26.trans m30
 refine Y rfl rfl rfl (nb b27) (AOp.not rfl rfl (C rfl (Pf _ rfl rfl (nb b27) rfl ?_)))
 refine AOps.nil ?_
 change AWP _ _ _ _ _ _
 rcases Bool.eq_false_or_eq_true (R_vec_Within p 65536) with b32 | b32
 have iv33 : inV 65536 p := withinvec_in b32
 refine cf_ rfl (nb b32) ?_
 refine AWP.skip ?_
 refine AWP.seq ?_
 obtain ⟨r1, r2, r3, r4, r5⟩ := rt28
 have ivp := iv33
 have s1 := step_rng (n := p.Y + p.Z) (m := t.H) (by omega)
 have s2 := step_rng (n := p.X) (m := t.W) (by omega)
 have ix := idx_lt s1 s2
 have mm := mul_rng (x := R_relief_step (p.Y + p.Z) t.H) (k := t.W) (A := 16) (C := 16) (by omega) (by omega)
 refine AWP.region_quiet mixed (by kernel_rfl) 23 [] rfl (by kernel_rfl) (Mono H29) (Mono.refl _) ?_
 refine QF rfl rfl fl_65_3 (QL rfl rfl ty_63 rfl (QF rfl rfl fl_23_1 (QL rfl rfl ty_3 rfl (QF rfl rfl fl_23_2 (QL rfl rfl ty_3 rfl (QB rfl rfl rfl (iadd (by omega)) (QF rfl rfl fl_65_2 (QL rfl rfl ty_3 rfl (Q rfl (fun _ _ φ ψ => Pc («as» := [J (p.Y + p.Z), J t.H]) rfl rfl (lapp (lcons (φ 20 rfl) (lcons (φ 22 rfl) rfl)) rfl) tf_56 (c_relief_step (p.Y + p.Z) t.H (by first | omega | assumption | (constructor <;> omega) | simp) (by first | omega | assumption | (constructor <;> omega) | simp)) fun H2 m2 => ⟨rfl, ψ.trans m2⟩) (QF rfl rfl fl_65_1 (QL rfl rfl ty_3 rfl ?_)))))))))))
 refine QB rfl rfl rfl (imul (by omega)) (QF rfl rfl fl_23_0 (QL rfl rfl ty_3 rfl (QF rfl rfl fl_65_1 (QL rfl rfl ty_3 rfl (Q rfl (fun _ _ φ ψ => Pc («as» := [J p.X, J t.W]) rfl rfl (lapp (lcons (φ 28 rfl) (lcons (φ 30 rfl) rfl)) rfl) tf_56 (c_relief_step p.X t.W (by first | omega | assumption | (constructor <;> omega) | simp) (by first | omega | assumption | (constructor <;> omega) | simp)) fun H2 m2 => ⟨rfl, ψ.trans m2⟩) (QB rfl rfl rfl (iadd (by omega)) (Q rfl (fun _ _ φ ψ => iS_ rfl (φ 15 rfl) (φ 32 rfl) sl_63 (by omega) (by omega) ⟨rfl, ψ⟩) (QL rfl rfl ty_3 (ld1 (by omega) (by omega)) (Q rfl (fun _ _ φ ψ => As _ rfl (φ 34 rfl) ⟨rfl, ψ⟩) (Q rfl (fun _ _ φ ψ => As _ rfl rfl ⟨rfl, ψ⟩) ?_))))))))))
 refine QE.done fun H34 m35 => ?_
 have m36 := m31.trans m35
 refine rt_ ?_
 refine Rr (Res.two rfl rfl rfl) ?_ m36
 have hR : R_relief_Texel t p = (at_ t.Rows ((R_relief_step (p.Y + p.Z) t.H) * t.W + (R_relief_step p.X t.W)), true) := by unfold R_relief_Texel; rw [if_pos b27, if_pos b32]
 exact (congrArg Trelief_Texel hR).symm
 refine ct_ rfl (nb b32) ?_
 refine Sr ?_
 refine A rfl rfl (A rfl rfl ?_)
 refine rt_ ?_
 refine Rr (Res.two rfl rfl rfl) ?_ m31
 have hR : R_relief_Texel t p = (0, false) := by unfold R_relief_Texel; rw [if_pos b27, if_neg (ff b32)]
 exact (congrArg Trelief_Texel hR).symm
 refine N rfl rfl (nb b27) (N rfl rfl (nb b27) (N rfl rfl (nb b27) (C rfl (Pt _ rfl rfl (nb b27) rfl ?_))))
 refine ct_ rfl rfl ?_
 refine Sr ?_
 refine A rfl rfl (A rfl rfl ?_)
 refine rt_ ?_
 refine Rr (Res.two rfl rfl rfl) ?_ m26
 have hR : R_relief_Texel t p = (0, false) := by unfold R_relief_Texel; rw [if_neg (ff b27)]
 exact (congrArg Trelief_Texel hR).symm
noncomputable def R_ref14_Texel (t : TexT) (p : VT) : Int × Bool :=
  if rightS t = true then (if R_ref00_Within p 65536 = true then (at_ t.Rows ((R_ref14_step (p.Y + p.Z) t.H) * t.W + (R_ref14_step p.X t.W)), true) else (0, false)) else (0, false)
def Tref14_Texel (r : Int × Bool) : AV := .tup [J r.1, .bool r.2]
theorem c_ref14_Texel (t : TexT) (p : VT) (ht : t.Rows.length ≤ 1048576) : PC Tryd.prog 34 [.agg [.str t.Name, J t.W, J t.H, .sl t.Rows.length (t.Rows.map eI)], .agg [J p.X, J p.Y, J p.Z]] (.tup [J ((R_ref14_Texel t p).1), .bool ((R_ref14_Texel t p).2)]) := by
 intro H0
 refine ACalls.of_body' (n := 35) rfl rfl rfl rfl ?_
 have m0 := Mono.refl H0
 refine Sr ?_
 refine C rfl (bx_ (.agg [.str t.Name, J t.W, J t.H, .sl t.Rows.length (t.Rows.map eI)]) rfl rfl rfl ?_)
 intro i1 H2 n3 h4 k5
 have z6 := Mono.free m0 n3
 have m7 := Mono.new m0 n3 k5
 refine C rfl (bx_ (.agg [J p.X, J p.Y, J p.Z]) rfl rfl rfl ?_)
 intro i8 H9 n10 h11 k12
 have e13 := ne_new h4 n10
 have z14 := Mono.free m7 n10
 have h15 := keep k12 (ne_new h4 n10) h4
 have m16 := Mono.new m7 n10 k12
 refine A rfl rfl (A rfl rfl ?_)
 refine AWP.seq ?_
 refine AWP.seq ?_
 refine fz_ 2 h15 z6 rfl m16 fun H17 m18 k19 => ?_
 have h20 := (k19 _ (Ne.symm e13)).trans h11
 refine fz_ 3 h20 z14 rfl m18 fun H21 m22 k23 => ?_
 refine AWP.region rfl ?_
 refine L rfl rfl ty_65 rfl (C rfl (Pc («as» := [.agg [.str t.Name, J t.W, J t.H, .sl t.Rows.length (t.Rows.map eI)]]) rfl rfl (rfl) tf_71 (c_ref14_Right t (by first | omega | assumption)) ?_))
 intro H24 m25
 have m26 := m22.trans m25
 refine C rfl (AOp.not rfl rfl (V rfl rfl ?_))
 rcases Bool.eq_false_or_eq_true (rightS t) with b27 | b27
 have rt28 := right_in_rightS (by assumption) b27
 refine Y rfl rfl rfl (nb b27) (Lf _ rfl rfl ty_23 rfl (Y rfl rfl rfl (nb b27) (Pc («as» := [.agg [J p.X, J p.Y, J p.Z], J 65536]) rfl rfl (rfl) tf_60 (c_ref00_Within p 65536 (by first | omega | assumption | (constructor <;> omega) | simp)) ?_)))
 intro H29 m30
 have m31 := m26.trans m30
 refine Y rfl rfl rfl (nb b27) (AOp.not rfl rfl (C rfl (Pf _ rfl rfl (nb b27) rfl ?_)))
 refine AOps.nil ?_
 change AWP _ _ _ _ _ _
 rcases Bool.eq_false_or_eq_true (R_ref00_Within p 65536) with b32 | b32
 have iv33 : inV 65536 p := withinref00_in b32
 refine cf_ rfl (nb b32) ?_
 refine AWP.skip ?_
 refine AWP.seq ?_
 obtain ⟨r1, r2, r3, r4, r5⟩ := rt28
 have ivp := iv33
 have s1 := rstep_rng (n := p.Y + p.Z) (m := t.H) (by omega)
 have s2 := rstep_rng (n := p.X) (m := t.W) (by omega)
 have ix := idx_lt s1 s2
 have mm := mul_rng (x := R_ref14_step (p.Y + p.Z) t.H) (k := t.W) (A := 16) (C := 16) (by omega) (by omega)
 refine AWP.region_quiet mixed (by kernel_rfl) 23 [] rfl (by kernel_rfl) (Mono H29) (Mono.refl _) ?_
 refine QF rfl rfl fl_65_3 (QL rfl rfl ty_63 rfl (QF rfl rfl fl_23_1 (QL rfl rfl ty_3 rfl (QF rfl rfl fl_23_2 (QL rfl rfl ty_3 rfl (QB rfl rfl rfl (iadd (by omega)) (QF rfl rfl fl_65_2 (QL rfl rfl ty_3 rfl (Q rfl (fun _ _ φ ψ => Pc («as» := [J (p.Y + p.Z), J t.H]) rfl rfl (lapp (lcons (φ 20 rfl) (lcons (φ 22 rfl) rfl)) rfl) tf_72 (c_ref14_step (p.Y + p.Z) t.H (by first | omega | assumption | (constructor <;> omega) | simp) (by first | omega | assumption | (constructor <;> omega) | simp)) fun H2 m2 => ⟨rfl, ψ.trans m2⟩) (QF rfl rfl fl_65_1 (QL rfl rfl ty_3 rfl ?_)))))))))))
 refine QB rfl rfl rfl (imul (by omega)) (QF rfl rfl fl_23_0 (QL rfl rfl ty_3 rfl (QF rfl rfl fl_65_1 (QL rfl rfl ty_3 rfl (Q rfl (fun _ _ φ ψ => Pc («as» := [J p.X, J t.W]) rfl rfl (lapp (lcons (φ 28 rfl) (lcons (φ 30 rfl) rfl)) rfl) tf_72 (c_ref14_step p.X t.W (by first | omega | assumption | (constructor <;> omega) | simp) (by first | omega | assumption | (constructor <;> omega) | simp)) fun H2 m2 => ⟨rfl, ψ.trans m2⟩) (QB rfl rfl rfl (iadd (by omega)) (Q rfl (fun _ _ φ ψ => iS_ rfl (φ 15 rfl) (φ 32 rfl) sl_63 (by omega) (by omega) ⟨rfl, ψ⟩) (QL rfl rfl ty_3 (ld1 (by omega) (by omega)) (Q rfl (fun _ _ φ ψ => As _ rfl (φ 34 rfl) ⟨rfl, ψ⟩) (Q rfl (fun _ _ φ ψ => As _ rfl rfl ⟨rfl, ψ⟩) ?_))))))))))
 refine QE.done fun H34 m35 => ?_
 have m36 := m31.trans m35
 refine rt_ ?_
 refine Rr (Res.two rfl rfl rfl) ?_ m36
 have hR : R_ref14_Texel t p = (at_ t.Rows ((R_ref14_step (p.Y + p.Z) t.H) * t.W + (R_ref14_step p.X t.W)), true) := by unfold R_ref14_Texel; rw [if_pos b27, if_pos b32]
 exact (congrArg Tref14_Texel hR).symm
 refine ct_ rfl (nb b32) ?_
 refine Sr ?_
 refine A rfl rfl (A rfl rfl ?_)
 refine rt_ ?_
 refine Rr (Res.two rfl rfl rfl) ?_ m31
 have hR : R_ref14_Texel t p = (0, false) := by unfold R_ref14_Texel; rw [if_pos b27, if_neg (ff b32)]
 exact (congrArg Tref14_Texel hR).symm
 refine N rfl rfl (nb b27) (N rfl rfl (nb b27) (N rfl rfl (nb b27) (C rfl (Pt _ rfl rfl (nb b27) rfl ?_))))
 refine ct_ rfl rfl ?_
 refine Sr ?_
 refine A rfl rfl (A rfl rfl ?_)
 refine rt_ ?_
 refine Rr (Res.two rfl rfl rfl) ?_ m26
 have hR : R_ref14_Texel t p = (0, false) := by unfold R_ref14_Texel; rw [if_neg (ff b27)]
 exact (congrArg Tref14_Texel hR).symm
def R_curve_weights (i : Int) (n : Int) : (List Int) × Bool :=
  if n < 1 then ([0, 0, 0, 0], false) else (if n > 16 then ([0, 0, 0, 0], false) else (if i < 0 then ([0, 0, 0, 0], false) else (if i > n then ([0, 0, 0, 0], false) else ([((n - i) * (n - i)) * (n - i), ((3 * (n - i)) * (n - i)) * i, ((3 * (n - i)) * i) * i, (i * i) * i], true))))
theorem R_curve_weights_len (i n : Int) : (R_curve_weights i n).1.length = 4 := by
  unfold R_curve_weights; (repeat' split) <;> rfl
def Tcurve_weights (r : (List Int) × Bool) : AV := .tup [.agg (r.1.map eI), .bool r.2]
theorem c_curve_weights (i : Int) (n : Int) : PC Tryd.prog 92 [J i, J n] (.tup [.agg (((R_curve_weights i n).1).map eI), .bool ((R_curve_weights i n).2)]) := by
 intro H0
 refine ACalls.of_body' (n := 49) rfl rfl rfl rfl ?_
 have m0 := Mono.refl H0
 refine Sr ?_
 refine C rfl (al_ rfl tz_25 ?_)
 intro i1 H2 n3 h4 k5
 have z6 := Mono.free m0 n3
 have m7 := Mono.new m0 n3 k5
 refine A rfl rfl ?_
 refine AWP.seq ?_
 refine Sr ?_
 refine V rfl rfl (B rfl rfl rfl rfl (V rfl rfl ?_))
 by_cases b8 : n < 1
 refine N rfl rfl (decide_eq_true b8) (N rfl rfl (decide_eq_true b8) (C rfl (Pt _ rfl rfl (decide_eq_true b8) rfl (V rfl rfl (N rfl rfl rfl (N rfl rfl rfl (C rfl (Pt _ rfl rfl rfl rfl (V rfl rfl (N rfl rfl rfl (N rfl rfl rfl (N rfl rfl rfl (C rfl (Pt _ rfl rfl rfl rfl ?_))))))))))))))
 refine ct_ rfl rfl ?_
 refine Sr ?_
 refine C rfl (Bl (cells := [J 0, J 0, J 0, J 0]) rfl tz_25 pl_25 rfl rfl (C rfl (Sw rfl rfl ts_25 h4 rfl rfl rfl ?_)))
 intro H9 h10 k11
 have m13 := Mono.set m7 z6 k11
 refine A rfl rfl ?_
 refine rt_ ?_
 refine Rr (Res.list rfl rfl (.cell (v := .agg [J 0, J 0, J 0, J 0]) rfl ty_25 h10 rfl (.tmp rfl (.nil)))) ?_ m13
 have hR : R_curve_weights i n = ([0, 0, 0, 0], false) := by unfold R_curve_weights; rw [if_pos b8]
 exact (congrArg Tcurve_weights hR).symm
 refine Y rfl rfl rfl (decide_eq_false b8) (Mv _ rfl rfl (Y rfl rfl rfl (decide_eq_false b8) (Bi _ rfl rfl rfl rfl (C rfl (Pf _ rfl rfl (decide_eq_false b8) rfl (V rfl rfl ?_))))))
 by_cases b14 : n > 16
 refine N rfl rfl (decide_eq_true b14) (N rfl rfl (decide_eq_true b14) (C rfl (Pt _ rfl rfl (decide_eq_true b14) rfl (V rfl rfl (N rfl rfl rfl (N rfl rfl rfl (N rfl rfl rfl (C rfl (Pt _ rfl rfl rfl rfl ?_)))))))))
 refine ct_ rfl rfl ?_
 refine Sr ?_
 refine C rfl (Bl (cells := [J 0, J 0, J 0, J 0]) rfl tz_25 pl_25 rfl rfl (C rfl (Sw rfl rfl ts_25 h4 rfl rfl rfl ?_)))
 intro H15 h16 k17
 have m19 := Mono.set m7 z6 k17
 refine A rfl rfl ?_
 refine rt_ ?_
 refine Rr (Res.list rfl rfl (.cell (v := .agg [J 0, J 0, J 0, J 0]) rfl ty_25 h16 rfl (.tmp rfl (.nil)))) ?_ m19
 have hR : R_curve_weights i n = ([0, 0, 0, 0], false) := by unfold R_curve_weights; rw [if_neg b8, if_pos b14]
 exact (congrArg Tcurve_weights hR).symm
 refine Y rfl rfl rfl (decide_eq_false b14) (Mv _ rfl rfl (Y rfl rfl rfl (decide_eq_false b14) (Bi _ rfl rfl rfl rfl (C rfl (Pf _ rfl rfl (decide_eq_false b14) rfl (V rfl rfl ?_))))))
 by_cases b20 : i < 0
 refine N rfl rfl (decide_eq_true b20) (N rfl rfl (decide_eq_true b20) (N rfl rfl (decide_eq_true b20) (C rfl (Pt _ rfl rfl (decide_eq_true b20) rfl ?_))))
 refine ct_ rfl rfl ?_
 refine Sr ?_
 refine C rfl (Bl (cells := [J 0, J 0, J 0, J 0]) rfl tz_25 pl_25 rfl rfl (C rfl (Sw rfl rfl ts_25 h4 rfl rfl rfl ?_)))
 intro H21 h22 k23
 have m25 := Mono.set m7 z6 k23
 refine A rfl rfl ?_
 refine rt_ ?_
 refine Rr (Res.list rfl rfl (.cell (v := .agg [J 0, J 0, J 0, J 0]) rfl ty_25 h22 rfl (.tmp rfl (.nil)))) ?_ m25
 have hR : R_curve_weights i n = ([0, 0, 0, 0], false) := by unfold R_curve_weights; rw [if_neg b8, if_neg b14, if_pos b20]
 exact (congrArg Tcurve_weights hR).symm
 refine Y rfl rfl rfl (decide_eq_false b20) (Mv _ rfl rfl (Y rfl rfl rfl (decide_eq_false b20) (Mv _ rfl rfl (Y rfl rfl rfl (decide_eq_false b20) (Bi _ rfl rfl rfl rfl (C rfl (Pf _ rfl rfl (decide_eq_false b20) rfl ?_)))))))
 refine AOps.nil ?_
 change AWP _ _ _ _ _ _
 by_cases b26 : i > n
 refine ct_ rfl (decide_eq_true b26) ?_
 refine Sr ?_
 refine C rfl (Bl (cells := [J 0, J 0, J 0, J 0]) rfl tz_25 pl_25 rfl rfl (C rfl (Sw rfl rfl ts_25 h4 rfl rfl rfl ?_)))
 intro H27 h28 k29
 have m31 := Mono.set m7 z6 k29
 refine A rfl rfl ?_
 refine rt_ ?_
 refine Rr (Res.list rfl rfl (.cell (v := .agg [J 0, J 0, J 0, J 0]) rfl ty_25 h28 rfl (.tmp rfl (.nil)))) ?_ m31
 have hR : R_curve_weights i n = ([0, 0, 0, 0], false) := by unfold R_curve_weights; rw [if_neg b8, if_neg b14, if_neg b20, if_pos b26]
 exact (congrArg Tcurve_weights hR).symm
 refine cf_ rfl (decide_eq_false b26) ?_
 refine AWP.skip ?_
 refine Sr ?_
 refine V rfl rfl (V rfl rfl (B rfl rfl rfl (isub (by omega)) (A rfl rfl ?_)))
 refine Sr ?_
 refine V rfl rfl (V rfl rfl (B rfl rfl rfl (imul (by have := mul_rng (x := n - i) (k := n - i) (A := 16) (C := 16) (by omega) (by omega); omega)) (V rfl rfl (B rfl rfl rfl (imul (by have := mul_rng (x := (n - i) * (n - i)) (k := n - i) (A := 256) (C := 16) (by have := mul_rng (x := (n - i)) (k := (n - i)) (A := 16) (C := 16) (by omega) (by omega); omega) (by omega); omega)) (V rfl rfl (B rfl rfl rfl (imul (by omega)) (V rfl rfl (B rfl rfl rfl (imul (by have := mul_rng (x := 3 * (n - i)) (k := n - i) (A := 48) (C := 16) (by have := mul_rng (x := 3) (k := (n - i)) (A := 3) (C := 16) (by omega) (by omega); omega) (by omega); omega)) (V rfl rfl (B rfl rfl rfl (imul (by have := mul_rng (x := (3 * (n - i)) * (n - i)) (k := i) (A := 768) (C := 16) (by have := mul_rng (x := (3 * (n - i))) (k := (n - i)) (A := 48) (C := 16) (by have := mul_rng (x := 3) (k := (n - i)) (A := 3) (C := 16) (by omega) (by omega); omega) (by omega); omega) (by omega); omega)) (V rfl rfl ?_)))))))))))
 refine B rfl rfl rfl (imul (by omega)) (V rfl rfl (B rfl rfl rfl (imul (by have := mul_rng (x := 3 * (n - i)) (k := i) (A := 48) (C := 16) (by have := mul_rng (x := 3) (k := (n - i)) (A := 3) (C := 16) (by omega) (by omega); omega) (by omega); omega)) (V rfl rfl (B rfl rfl rfl (imul (by have := mul_rng (x := (3 * (n - i)) * i) (k := i) (A := 768) (C := 16) (by have := mul_rng (x := (3 * (n - i))) (k := i) (A := 48) (C := 16) (by have := mul_rng (x := 3) (k := (n - i)) (A := 3) (C := 16) (by omega) (by omega); omega) (by omega); omega) (by omega); omega)) (V rfl rfl ?_)))))
 refine V rfl rfl (B rfl rfl rfl (imul (by have := mul_rng (x := i) (k := i) (A := 16) (C := 16) (by omega) (by omega); omega)) (V rfl rfl (B rfl rfl rfl (imul (by have := mul_rng (x := i * i) (k := i) (A := 256) (C := 16) (by have := mul_rng (x := i) (k := i) (A := 16) (C := 16) (by omega) (by omega); omega) (by omega); omega)) (C rfl (Bl (cells := [J (((n - i) * (n - i)) * (n - i)), J (((3 * (n - i)) * (n - i)) * i), J (((3 * (n - i)) * i) * i), J ((i * i) * i)]) rfl tz_25 pl_25 rfl rfl (C rfl (Sw rfl rfl ts_25 h4 rfl rfl rfl ?_)))))))
 intro H32 h33 k34
 have m36 := Mono.set m7 z6 k34
 refine A rfl rfl ?_
 refine rt_ ?_
 refine Rr (Res.list rfl rfl (.cell (v := .agg [J (((n - i) * (n - i)) * (n - i)), J (((3 * (n - i)) * (n - i)) * i), J (((3 * (n - i)) * i) * i), J ((i * i) * i)]) rfl ty_25 h33 rfl (.tmp rfl (.nil)))) ?_ m36
 have hR : R_curve_weights i n = ([((n - i) * (n - i)) * (n - i), ((3 * (n - i)) * (n - i)) * i, ((3 * (n - i)) * i) * i, (i * i) * i], true) := by unfold R_curve_weights; rw [if_neg b8, if_neg b14, if_neg b20, if_neg b26]
 exact (congrArg Tcurve_weights hR).symm
def R_ref11_there (i : Int) (n : Int) : Bool :=
  if n ≥ 1 then (if n ≤ 16 then (if i ≥ 0 then decide (i ≤ n) else false) else false) else false
def Tref11_there (r : Bool) : AV := .bool r
theorem c_ref11_there (i : Int) (n : Int) : PC Tryd.prog 89 [J i, J n] (.bool (R_ref11_there i n)) := by
 intro H0
 refine ACalls.of_body' (n := 20) rfl rfl rfl rfl ?_
 have m0 := Mono.refl H0
 refine Sr ?_
 refine A rfl rfl ?_
 refine Sr ?_
 refine V rfl rfl (B rfl rfl rfl rfl (V rfl rfl ?_))
 by_cases b1 : n ≥ 1
 refine Y rfl rfl rfl (decide_eq_true b1) (Mv _ rfl rfl (Y rfl rfl rfl (decide_eq_true b1) (Bi _ rfl rfl rfl rfl (C rfl (Pt _ rfl rfl (decide_eq_true b1) rfl (V rfl rfl ?_))))))
 by_cases b2 : n ≤ 16
 refine Y rfl rfl rfl (decide_eq_true b2) (Mv _ rfl rfl (Y rfl rfl rfl (decide_eq_true b2) (Bi _ rfl rfl rfl rfl (C rfl (Pt _ rfl rfl (decide_eq_true b2) rfl (V rfl rfl ?_))))))
 by_cases b3 : i ≥ 0
 refine Y rfl rfl rfl (decide_eq_true b3) (Mv _ rfl rfl (Y rfl rfl rfl (decide_eq_true b3) (Mv _ rfl rfl (Y rfl rfl rfl (decide_eq_true b3) (Bi _ rfl rfl rfl rfl (C rfl (Pt _ rfl rfl (decide_eq_true b3) rfl (A rfl rfl ?_))))))))
 refine rt_ ?_
 refine Rr (Res.one rfl rfl) ?_ m0
 have hR : R_ref11_there i n = decide (i ≤ n) := by unfold R_ref11_there; rw [if_pos b1, if_pos b2, if_pos b3]
 exact (congrArg Tref11_there hR).symm
 refine N rfl rfl (decide_eq_false b3) (N rfl rfl (decide_eq_false b3) (N rfl rfl (decide_eq_false b3) (C rfl (Pf _ rfl rfl (decide_eq_false b3) rfl (A rfl rfl ?_)))))
 refine rt_ ?_
 refine Rr (Res.one rfl rfl) ?_ m0
 have hR : R_ref11_there i n = false := by unfold R_ref11_there; rw [if_pos b1, if_pos b2, if_neg b3]
 exact (congrArg Tref11_there hR).symm
 refine N rfl rfl (decide_eq_false b2) (N rfl rfl (decide_eq_false b2) (C rfl (Pf _ rfl rfl (decide_eq_false b2) rfl (V rfl rfl (N rfl rfl rfl (N rfl rfl rfl (N rfl rfl rfl (C rfl (Pf _ rfl rfl rfl rfl (A rfl rfl ?_))))))))))
 refine rt_ ?_
 refine Rr (Res.one rfl rfl) ?_ m0
 have hR : R_ref11_there i n = false := by unfold R_ref11_there; rw [if_pos b1, if_neg b2]
 exact (congrArg Tref11_there hR).symm
 refine N rfl rfl (decide_eq_false b1) (N rfl rfl (decide_eq_false b1) (C rfl (Pf _ rfl rfl (decide_eq_false b1) rfl (V rfl rfl (N rfl rfl rfl (N rfl rfl rfl (C rfl (Pf _ rfl rfl rfl rfl (V rfl rfl (N rfl rfl rfl (N rfl rfl rfl (N rfl rfl rfl (C rfl (Pf _ rfl rfl rfl rfl (A rfl rfl ?_)))))))))))))))
 refine rt_ ?_
 refine Rr (Res.one rfl rfl) ?_ m0
 have hR : R_ref11_there i n = false := by unfold R_ref11_there; rw [if_neg b1]
 exact (congrArg Tref11_there hR).symm
def R_ref11_Weights (i : Int) (n : Int) : (List Int) :=
  [((n - i) * (n - i)) * (n - i), ((3 * (n - i)) * (n - i)) * i, ((3 * (n - i)) * i) * i, (i * i) * i]
theorem R_ref11_Weights_len (i n : Int) : (R_ref11_Weights i n).length = 4 := rfl
theorem c_ref11_Weights (i : Int) (n : Int) (h : 0 ≤ i ∧ i ≤ n ∧ n ≤ 16) : PC Tryd.prog 90 [J i, J n] (.agg ((R_ref11_Weights i n).map eI)) := by
 intro H0
 refine ACalls.of_body' (n := 32) rfl rfl rfl rfl ?_
 have m0 := Mono.refl H0
 refine Sr ?_
 refine C rfl (al_ rfl tz_25 ?_)
 intro i1 H2 n3 h4 k5
 have z6 := Mono.free m0 n3
 have m7 := Mono.new m0 n3 k5
 refine Sr ?_
 refine V rfl rfl (V rfl rfl (B rfl rfl rfl (isub (by omega)) (A rfl rfl ?_)))
 refine Sr ?_
 refine V rfl rfl (V rfl rfl (B rfl rfl rfl (imul (by have := mul_rng (x := n - i) (k := n - i) (A := 16) (C := 16) (by omega) (by omega); omega)) (V rfl rfl (B rfl rfl rfl (imul (by have := mul_rng (x := (n - i) * (n - i)) (k := n - i) (A := 256) (C := 16) (by have := mul_rng (x := (n - i)) (k := (n - i)) (A := 16) (C := 16) (by omega) (by omega); omega) (by omega); omega)) (V rfl rfl (B rfl rfl rfl (imul (by omega)) (V rfl rfl (B rfl rfl rfl (imul (by have := mul_rng (x := 3 * (n - i)) (k := n - i) (A := 48) (C := 16) (by have := mul_rng (x := 3) (k := (n - i)) (A := 3) (C := 16) (by omega) (by omega); omega) (by omega); omega)) (V rfl rfl (B rfl rfl rfl (imul (by have := mul_rng (x := (3 * (n - i)) * (n - i)) (k := i) (A := 768) (C := 16) (by have := mul_rng (x := (3 * (n - i))) (k := (n - i)) (A := 48) (C := 16) (by have := mul_rng (x := 3) (k := (n - i)) (A := 3) (C := 16) (by omega) (by omega); omega) (by omega); omega) (by omega); omega)) (V rfl rfl ?_)))))))))))
 refine B rfl rfl rfl (imul (by omega)) (V rfl rfl (B rfl rfl rfl (imul (by have := mul_rng (x := 3 * (n - i)) (k := i) (A := 48) (C := 16) (by have := mul_rng (x := 3) (k := (n - i)) (A := 3) (C := 16) (by omega) (by omega); omega) (by omega); omega)) (V rfl rfl (B rfl rfl rfl (imul (by have := mul_rng (x := (3 * (n - i)) * i) (k := i) (A := 768) (C := 16) (by have := mul_rng (x := (3 * (n - i))) (k := i) (A := 48) (C := 16) (by have := mul_rng (x := 3) (k := (n - i)) (A := 3) (C := 16) (by omega) (by omega); omega) (by omega); omega) (by omega); omega)) (V rfl rfl ?_)))))
 refine V rfl rfl (B rfl rfl rfl (imul (by have := mul_rng (x := i) (k := i) (A := 16) (C := 16) (by omega) (by omega); omega)) (V rfl rfl (B rfl rfl rfl (imul (by have := mul_rng (x := i * i) (k := i) (A := 256) (C := 16) (by have := mul_rng (x := i) (k := i) (A := 16) (C := 16) (by omega) (by omega); omega) (by omega); omega)) (C rfl (Bl (cells := [J (((n - i) * (n - i)) * (n - i)), J (((3 * (n - i)) * (n - i)) * i), J (((3 * (n - i)) * i) * i), J ((i * i) * i)]) rfl tz_25 pl_25 rfl rfl (C rfl (Sw rfl rfl ts_25 h4 rfl rfl rfl ?_)))))))
 intro H8 h9 k10
 have m12 := Mono.set m7 z6 k10
 refine rt_ ?_
 refine Rr (Res.list1 rfl (.cell (v := .agg [J (((n - i) * (n - i)) * (n - i)), J (((3 * (n - i)) * (n - i)) * i), J (((3 * (n - i)) * i) * i), J ((i * i) * i)]) rfl ty_25 h9 rfl (.nil))) ?_ m12
 have hR : R_ref11_Weights i n = [((n - i) * (n - i)) * (n - i), ((3 * (n - i)) * (n - i)) * i, ((3 * (n - i)) * i) * i, (i * i) * i] := rfl
 exact (congrArg (fun r : (List Int) => (.agg (r.map eI) : AV)) hR).symm
def R_curve_Row (p : (List VT)) (side : Int) : (List VT) :=
  if side = 0 then [(at_ p 0), (at_ p 1), (at_ p 2), (at_ p 3)] else (if side = 1 then [(at_ p 3), (at_ p 7), (at_ p 11), (at_ p 15)] else (if side = 2 then [(at_ p 15), (at_ p 14), (at_ p 13), (at_ p 12)] else (if side = 3 then [(at_ p 12), (at_ p 8), (at_ p 4), (at_ p 0)] else [(VT.mk 0 0 0), (VT.mk 0 0 0), (VT.mk 0 0 0), (VT.mk 0 0 0)])))
theorem R_curve_Row_len (p : List VT) (side : Int) : (R_curve_Row p side).length = 4 := by
  unfold R_curve_Row; (repeat' split) <;> rfl
def Tcurve_Row (r : (List VT)) : AV := .agg (r.flatMap eV)
theorem c_curve_Row (p : (List VT)) (h_p : p.length = 16) (side : Int) : PC Tryd.prog 47 [.agg (p.flatMap eV), J side] (.agg ((R_curve_Row p side).flatMap eV)) := by
 intro H0
 refine ACalls.of_body' (n := 33) rfl rfl rfl rfl ?_
 have m0 := Mono.refl H0
 refine Sr ?_
 refine C rfl (bx_ (.agg (p.flatMap eV)) rfl rfl rfl ?_)
 intro i1 H2 n3 h4 k5
 have z6 := Mono.free m0 n3
 have m7 := Mono.new m0 n3 k5
 refine C rfl (al_ rfl tz_26 ?_)
 intro i8 H9 n10 h11 k12
 have e13 := ne_new h4 n10
 have z14 := Mono.free m7 n10
 have h15 := keep k12 (ne_new h4 n10) h4
 have m16 := Mono.new m7 n10 k12
 refine AWP.seq ?_
 refine fz_ 2 h15 z6 rfl m16 fun H17 m18 k19 => ?_
 have h20 := (k19 _ (Ne.symm e13)).trans h11
 refine AWP.region rfl ?_
 refine A rfl rfl (A rfl rfl ?_)
 refine AWP.seq ?_
 refine Sr ?_
 refine V rfl rfl ?_
 refine bk_ ?_
 refine Sr ?_
 refine B rfl rfl rfl ieq (A rfl rfl ?_)
 refine AOps.nil ?_
 change AWP _ _ _ _ _ _
 by_cases b21 : side = 0
 refine ct_ rfl (decide_eq_true b21) ?_
 refine AWP.region rfl ?_
 refine A rfl rfl (A rfl rfl ?_)
 refine Sr ?_
 refine C rfl (al_ rfl tz_26 ?_)
 intro i22 H23 n24 h25 k26
 have e27 := ne_new h20 n24
 have z28 := Mono.free m18 n24
 have h29 := keep k26 (ne_new h20 n24) h20
 have m30 := Mono.new m18 n24 k26
 refine AWP.seq ?_
 refine Sr ?_
 refine V rfl rfl ?_
 refine bk_ ?_
 refine AWP.unroll 20 ?_
 refine UN.step ?_
 refine Sr ?_
 refine B rfl rfl rfl rfl ?_
 refine AWP.seq ?_
 refine ct_ rfl (decide_eq_true (by decide)) ?_
 refine AWP.skip ?_
 refine AWP.seq ?_
 refine bk_ ?_
 refine Sr ?_
 refine V rfl rfl (A rfl rfl ?_)
 refine AWP.region rfl ?_
 refine V rfl rfl (V rfl rfl (V rfl rfl (V rfl rfl (B rfl rfl rfl (imul (by omega)) (B rfl rfl rfl (iadd (by omega)) (C rfl (iF_ rfl rfl rfl ar_24 (by omega) (by omega) (L rfl rfl ty_23 (ldM eV_len (i := 0) (by omega) (by have := h_p; omega)) (C rfl (iA_ rfl rfl rfl ar_26 (by omega) (by omega) ⟨_, h25⟩ (C rfl (So (cells' := [J ((at_ p 0).X), J ((at_ p 0).Y), J ((at_ p 0).Z), J 0, J 0, J 0, J 0, J 0, J 0, J 0, J 0, J 0]) (.agg [J ((at_ p 0).X), J ((at_ p 0).Y), J ((at_ p 0).Z)]) rfl rfl ts_23 h25 rfl rfl rfl rfl ?_))))))))))))
 intro H31 h32 k33
 have h34 := keep k33 e27 h29
 have m36 := Mono.set m30 z28 k33
 refine AWP.region rfl ?_
 refine B rfl rfl rfl (iadd (by omega)) (V rfl rfl ?_)
 refine AOps.nil ?_
 refine UN.step ?_
 refine Sr ?_
 refine B rfl rfl rfl rfl ?_
 refine AWP.seq ?_
 refine ct_ rfl (decide_eq_true (by decide)) ?_
 refine AWP.skip ?_
 refine AWP.seq ?_
 refine bk_ ?_
 refine Sr ?_
 refine V rfl rfl (A rfl rfl ?_)
 refine AWP.region rfl ?_
 refine V rfl rfl (V rfl rfl (V rfl rfl (V rfl rfl (B rfl rfl rfl (imul (by omega)) (B rfl rfl rfl (iadd (by omega)) (C rfl (iF_ rfl rfl rfl ar_24 (by omega) (by omega) (L rfl rfl ty_23 (ldM eV_len (i := 1) (by omega) (by have := h_p; omega)) (C rfl (iA_ rfl rfl rfl ar_26 (by omega) (by omega) ⟨_, h32⟩ (C rfl (So (cells' := [J ((at_ p 0).X), J ((at_ p 0).Y), J ((at_ p 0).Z), J ((at_ p 1).X), J ((at_ p 1).Y), J ((at_ p 1).Z), J 0, J 0, J 0, J 0, J 0, J 0]) (.agg [J ((at_ p 1).X), J ((at_ p 1).Y), J ((at_ p 1).Z)]) rfl rfl ts_23 h32 rfl rfl rfl rfl ?_))))))))))))
 intro H37 h38 k39
 have h40 := keep k39 e27 h34
 have m42 := Mono.set m36 z28 k39
 refine AWP.region rfl ?_
 refine B rfl rfl rfl (iadd (by omega)) (V rfl rfl ?_)
 refine AOps.nil ?_
 refine UN.step ?_
 refine Sr ?_
 refine B rfl rfl rfl rfl ?_
 refine AWP.seq ?_
 refine ct_ rfl (decide_eq_true (by decide)) ?_
 refine AWP.skip ?_
 refine AWP.seq ?_
 refine bk_ ?_
 refine Sr ?_
 refine V rfl rfl (A rfl rfl ?_)
 refine AWP.region rfl ?_
 refine V rfl rfl (V rfl rfl (V rfl rfl (V rfl rfl (B rfl rfl rfl (imul (by omega)) (B rfl rfl rfl (iadd (by omega)) (C rfl (iF_ rfl rfl rfl ar_24 (by omega) (by omega) (L rfl rfl ty_23 (ldM eV_len (i := 2) (by omega) (by have := h_p; omega)) (C rfl (iA_ rfl rfl rfl ar_26 (by omega) (by omega) ⟨_, h38⟩ (C rfl (So (cells' := [J ((at_ p 0).X), J ((at_ p 0).Y), J ((at_ p 0).Z), J ((at_ p 1).X), J ((at_ p 1).Y), J ((at_ p 1).Z), J ((at_ p 2).X), J ((at_ p 2).Y), J ((at_ p 2).Z), J 0, J 0, J 0]) (.agg [J ((at_ p 2).X), J ((at_ p 2).Y), J ((at_ p 2).Z)]) rfl rfl ts_23 h38 rfl rfl rfl rfl ?_))))))))))))
 intro H43 h44 k45
 have h46 := keep k45 e27 h40
 have m48 := Mono.set m42 z28 k45
 refine AWP.region rfl ?_
 refine B rfl rfl rfl (iadd (by omega)) (V rfl rfl ?_)
 refine AOps.nil ?_
 refine UN.step ?_
 refine Sr ?_
 refine B rfl rfl rfl rfl ?_
 refine AWP.seq ?_
 refine ct_ rfl (decide_eq_true (by decide)) ?_
 refine AWP.skip ?_
 refine AWP.seq ?_
 refine bk_ ?_
 refine Sr ?_
 refine V rfl rfl (A rfl rfl ?_)
 refine AWP.region rfl ?_
 refine V rfl rfl (V rfl rfl (V rfl rfl (V rfl rfl (B rfl rfl rfl (imul (by omega)) (B rfl rfl rfl (iadd (by omega)) (C rfl (iF_ rfl rfl rfl ar_24 (by omega) (by omega) (L rfl rfl ty_23 (ldM eV_len (i := 3) (by omega) (by have := h_p; omega)) (C rfl (iA_ rfl rfl rfl ar_26 (by omega) (by omega) ⟨_, h44⟩ (C rfl (So (cells' := [J ((at_ p 0).X), J ((at_ p 0).Y), J ((at_ p 0).Z), J ((at_ p 1).X), J ((at_ p 1).Y), J ((at_ p 1).Z), J ((at_ p 2).X), J ((at_ p 2).Y), J ((at_ p 2).Z), J ((at_ p 3).X), J ((at_ p 3).Y), J ((at_ p 3).Z)]) (.agg [J ((at_ p 3).X), J ((at_ p 3).Y), J ((at_ p 3).Z)]) rfl rfl ts_23 h44 rfl rfl rfl rfl ?_))))))))))))
 intro H49 h50 k51
 have h52 := keep k51 e27 h46
 have m54 := Mono.set m48 z28 k51
 refine AWP.region rfl ?_
 refine B rfl rfl rfl (iadd (by omega)) (V rfl rfl ?_)
 refine AOps.nil ?_
 refine UN.step ?_
 refine Sr ?_
 refine B rfl rfl rfl rfl ?_
 refine AWP.seq ?_
 refine cf_ rfl (decide_eq_false (by decide)) ?_
 refine AWP.exit ?_
 change AWP _ _ _ _ _ _
 refine Sr ?_
 refine C rfl (Ld _ rfl rfl ty_26 h50 rfl (C rfl (Sw rfl rfl ts_26 h52 rfl rfl rfl ?_)))
 intro H55 h56 k57
 have m60 := Mono.set m54 z14 k57
 refine rt_ ?_
 refine Rr (Res.list1 rfl (.cell (v := .agg [J ((at_ p 0).X), J ((at_ p 0).Y), J ((at_ p 0).Z), J ((at_ p 1).X), J ((at_ p 1).Y), J ((at_ p 1).Z), J ((at_ p 2).X), J ((at_ p 2).Y), J ((at_ p 2).Z), J ((at_ p 3).X), J ((at_ p 3).Y), J ((at_ p 3).Z)]) rfl ty_26 h56 rfl (.nil))) ?_ m60
 have hR : R_curve_Row p side = [(at_ p 0), (at_ p 1), (at_ p 2), (at_ p 3)] := by unfold R_curve_Row; rw [if_pos b21]
 exact (congrArg Tcurve_Row hR).symm
 refine cf_ rfl (decide_eq_false b21) ?_
 refine Sr ?_
 refine B rfl rfl rfl ieq (A rfl rfl ?_)
 refine AOps.nil ?_
 change AWP _ _ _ _ _ _
 by_cases b61 : side = 1
 refine ct_ rfl (decide_eq_true b61) ?_
 refine AWP.region rfl ?_
 refine A rfl rfl (A rfl rfl ?_)
 refine Sr ?_
 refine C rfl (al_ rfl tz_26 ?_)
 intro i62 H63 n64 h65 k66
 have e67 := ne_new h20 n64
 have z68 := Mono.free m18 n64
 have h69 := keep k66 (ne_new h20 n64) h20
 have m70 := Mono.new m18 n64 k66
 refine AWP.seq ?_
 refine Sr ?_
 refine V rfl rfl ?_
 refine bk_ ?_
 refine AWP.unroll 20 ?_
 refine UN.step ?_
 refine Sr ?_
 refine B rfl rfl rfl rfl ?_
 refine AWP.seq ?_
 refine ct_ rfl (decide_eq_true (by decide)) ?_
 refine AWP.skip ?_
 refine AWP.seq ?_
 refine bk_ ?_
 refine Sr ?_
 refine V rfl rfl (A rfl rfl ?_)
 refine AWP.region rfl ?_
 refine V rfl rfl (V rfl rfl (V rfl rfl (V rfl rfl (B rfl rfl rfl (imul (by omega)) (B rfl rfl rfl (iadd (by omega)) (C rfl (iF_ rfl rfl rfl ar_24 (by omega) (by omega) (L rfl rfl ty_23 (ldM eV_len (i := 3) (by omega) (by have := h_p; omega)) (C rfl (iA_ rfl rfl rfl ar_26 (by omega) (by omega) ⟨_, h65⟩ (C rfl (So (cells' := [J ((at_ p 3).X), J ((at_ p 3).Y), J ((at_ p 3).Z), J 0, J 0, J 0, J 0, J 0, J 0, J 0, J 0, J 0]) (.agg [J ((at_ p 3).X), J ((at_ p 3).Y), J ((at_ p 3).Z)]) rfl rfl ts_23 h65 rfl rfl rfl rfl ?_))))))))))))
 intro H71 h72 k73
 have h74 := keep k73 e67 h69
 have m76 := Mono.set m70 z68 k73
 refine AWP.region rfl ?_
 refine B rfl rfl rfl (iadd (by omega)) (V rfl rfl ?_)
 refine AOps.nil ?_
 refine UN.step ?_
 refine Sr ?_
 refine B rfl rfl rfl rfl ?_
 refine AWP.seq ?_
 refine ct_ rfl (decide_eq_true (by decide)) ?_
 refine AWP.skip ?_
 refine AWP.seq ?_
 refine bk_ ?_
 refine Sr ?_
 refine V rfl rfl (A rfl rfl ?_)
 refine AWP.region rfl ?_
 refine V rfl rfl (V rfl rfl (V rfl rfl (V rfl rfl (B rfl rfl rfl (imul (by omega)) (B rfl rfl rfl (iadd (by omega)) (C rfl (iF_ rfl rfl rfl ar_24 (by omega) (by omega) (L rfl rfl ty_23 (ldM eV_len (i := 7) (by omega) (by have := h_p; omega)) (C rfl (iA_ rfl rfl rfl ar_26 (by omega) (by omega) ⟨_, h72⟩ (C rfl (So (cells' := [J ((at_ p 3).X), J ((at_ p 3).Y), J ((at_ p 3).Z), J ((at_ p 7).X), J ((at_ p 7).Y), J ((at_ p 7).Z), J 0, J 0, J 0, J 0, J 0, J 0]) (.agg [J ((at_ p 7).X), J ((at_ p 7).Y), J ((at_ p 7).Z)]) rfl rfl ts_23 h72 rfl rfl rfl rfl ?_))))))))))))
 intro H77 h78 k79
 have h80 := keep k79 e67 h74
 have m82 := Mono.set m76 z68 k79
 refine AWP.region rfl ?_
 refine B rfl rfl rfl (iadd (by omega)) (V rfl rfl ?_)
 refine AOps.nil ?_
 refine UN.step ?_
 refine Sr ?_
 refine B rfl rfl rfl rfl ?_
 refine AWP.seq ?_
 refine ct_ rfl (decide_eq_true (by decide)) ?_
 refine AWP.skip ?_
 refine AWP.seq ?_
 refine bk_ ?_
 refine Sr ?_
 refine V rfl rfl (A rfl rfl ?_)
 refine AWP.region rfl ?_
 refine V rfl rfl (V rfl rfl (V rfl rfl (V rfl rfl (B rfl rfl rfl (imul (by omega)) (B rfl rfl rfl (iadd (by omega)) (C rfl (iF_ rfl rfl rfl ar_24 (by omega) (by omega) (L rfl rfl ty_23 (ldM eV_len (i := 11) (by omega) (by have := h_p; omega)) (C rfl (iA_ rfl rfl rfl ar_26 (by omega) (by omega) ⟨_, h78⟩ (C rfl (So (cells' := [J ((at_ p 3).X), J ((at_ p 3).Y), J ((at_ p 3).Z), J ((at_ p 7).X), J ((at_ p 7).Y), J ((at_ p 7).Z), J ((at_ p 11).X), J ((at_ p 11).Y), J ((at_ p 11).Z), J 0, J 0, J 0]) (.agg [J ((at_ p 11).X), J ((at_ p 11).Y), J ((at_ p 11).Z)]) rfl rfl ts_23 h78 rfl rfl rfl rfl ?_))))))))))))
 intro H83 h84 k85
 have h86 := keep k85 e67 h80
 have m88 := Mono.set m82 z68 k85
 refine AWP.region rfl ?_
 refine B rfl rfl rfl (iadd (by omega)) (V rfl rfl ?_)
 refine AOps.nil ?_
 refine UN.step ?_
 refine Sr ?_
 refine B rfl rfl rfl rfl ?_
 refine AWP.seq ?_
 refine ct_ rfl (decide_eq_true (by decide)) ?_
 refine AWP.skip ?_
 refine AWP.seq ?_
 refine bk_ ?_
 refine Sr ?_
 refine V rfl rfl (A rfl rfl ?_)
 refine AWP.region rfl ?_
 refine V rfl rfl (V rfl rfl (V rfl rfl (V rfl rfl (B rfl rfl rfl (imul (by omega)) (B rfl rfl rfl (iadd (by omega)) (C rfl (iF_ rfl rfl rfl ar_24 (by omega) (by omega) (L rfl rfl ty_23 (ldM eV_len (i := 15) (by omega) (by have := h_p; omega)) (C rfl (iA_ rfl rfl rfl ar_26 (by omega) (by omega) ⟨_, h84⟩ (C rfl (So (cells' := [J ((at_ p 3).X), J ((at_ p 3).Y), J ((at_ p 3).Z), J ((at_ p 7).X), J ((at_ p 7).Y), J ((at_ p 7).Z), J ((at_ p 11).X), J ((at_ p 11).Y), J ((at_ p 11).Z), J ((at_ p 15).X), J ((at_ p 15).Y), J ((at_ p 15).Z)]) (.agg [J ((at_ p 15).X), J ((at_ p 15).Y), J ((at_ p 15).Z)]) rfl rfl ts_23 h84 rfl rfl rfl rfl ?_))))))))))))
 intro H89 h90 k91
 have h92 := keep k91 e67 h86
 have m94 := Mono.set m88 z68 k91
 refine AWP.region rfl ?_
 refine B rfl rfl rfl (iadd (by omega)) (V rfl rfl ?_)
 refine AOps.nil ?_
 refine UN.step ?_
 refine Sr ?_
 refine B rfl rfl rfl rfl ?_
 refine AWP.seq ?_
 refine cf_ rfl (decide_eq_false (by decide)) ?_
 refine AWP.exit ?_
 change AWP _ _ _ _ _ _
 refine Sr ?_
 refine C rfl (Ld _ rfl rfl ty_26 h90 rfl (C rfl (Sw rfl rfl ts_26 h92 rfl rfl rfl ?_)))
 intro H95 h96 k97
 have m100 := Mono.set m94 z14 k97
 refine rt_ ?_
 refine Rr (Res.list1 rfl (.cell (v := .agg [J ((at_ p 3).X), J ((at_ p 3).Y), J ((at_ p 3).Z), J ((at_ p 7).X), J ((at_ p 7).Y), J ((at_ p 7).Z), J ((at_ p 11).X), J ((at_ p 11).Y), J ((at_ p 11).Z), J ((at_ p 15).X), J ((at_ p 15).Y), J ((at_ p 15).Z)]) rfl ty_26 h96 rfl (.nil))) ?_ m100
 have hR : R_curve_Row p side = [(at_ p 3), (at_ p 7), (at_ p 11), (at_ p 15)] := by unfold R_curve_Row; rw [if_neg b21, if_pos b61]
 exact (congrArg Tcurve_Row hR).symm
 refine cf_ rfl (decide_eq_false b61) ?_
 refine Sr ?_
 refine B rfl rfl rfl ieq (A rfl rfl ?_)
 refine AOps.nil ?_
 change AWP _ _ _ _ _ _
 by_cases b101 : side = 2
 refine ct_ rfl (decide_eq_true b101) ?_
 refine AWP.region rfl ?_
 refine A rfl rfl (A rfl rfl ?_)
 refine Sr ?_
 refine C rfl (al_ rfl tz_26 ?_)
 intro i102 H103 n104 h105 k106
 have e107 := ne_new h20 n104
 have z108 := Mono.free m18 n104
 have h109 := keep k106 (ne_new h20 n104) h20
 have m110 := Mono.new m18 n104 k106
 refine AWP.seq ?_
 refine Sr ?_
 refine V rfl rfl ?_
 refine bk_ ?_
 refine AWP.unroll 20 ?_
 refine UN.step ?_
 refine Sr ?_
 refine B rfl rfl rfl rfl ?_
 refine AWP.seq ?_
 refine ct_ rfl (decide_eq_true (by decide)) ?_
 refine AWP.skip ?_
 refine AWP.seq ?_
 refine bk_ ?_
 refine Sr ?_
 refine V rfl rfl (A rfl rfl ?_)
 refine AWP.region rfl ?_
 refine V rfl rfl (V rfl rfl (V rfl rfl (V rfl rfl (B rfl rfl rfl (imul (by omega)) (B rfl rfl rfl (iadd (by omega)) (C rfl (iF_ rfl rfl rfl ar_24 (by omega) (by omega) (L rfl rfl ty_23 (ldM eV_len (i := 15) (by omega) (by have := h_p; omega)) (C rfl (iA_ rfl rfl rfl ar_26 (by omega) (by omega) ⟨_, h105⟩ (C rfl (So (cells' := [J ((at_ p 15).X), J ((at_ p 15).Y), J ((at_ p 15).Z), J 0, J 0, J 0, J 0, J 0, J 0, J 0, J 0, J 0]) (.agg [J ((at_ p 15).X), J ((at_ p 15).Y), J ((at_ p 15).Z)]) rfl rfl ts_23 h105 rfl rfl rfl rfl ?_))))))))))))
 intro H111 h112 k113
 have h114 := keep k113 e107 h109
 have m116 := Mono.set m110 z108 k113
 refine AWP.region rfl ?_
 refine B rfl rfl rfl (iadd (by omega)) (V rfl rfl ?_)
 refine AOps.nil ?_
 refine UN.step ?_
 refine Sr ?_
 refine B rfl rfl rfl rfl ?_
 refine AWP.seq ?_
 refine ct_ rfl (decide_eq_true (by decide)) ?_
 refine AWP.skip ?_
 refine AWP.seq ?_
 refine bk_ ?_
 refine Sr ?_
 refine V rfl rfl (A rfl rfl ?_)
 refine AWP.region rfl ?_
 refine V rfl rfl (V rfl rfl (V rfl rfl (V rfl rfl (B rfl rfl rfl (imul (by omega)) (B rfl rfl rfl (iadd (by omega)) (C rfl (iF_ rfl rfl rfl ar_24 (by omega) (by omega) (L rfl rfl ty_23 (ldM eV_len (i := 14) (by omega) (by have := h_p; omega)) (C rfl (iA_ rfl rfl rfl ar_26 (by omega) (by omega) ⟨_, h112⟩ (C rfl (So (cells' := [J ((at_ p 15).X), J ((at_ p 15).Y), J ((at_ p 15).Z), J ((at_ p 14).X), J ((at_ p 14).Y), J ((at_ p 14).Z), J 0, J 0, J 0, J 0, J 0, J 0]) (.agg [J ((at_ p 14).X), J ((at_ p 14).Y), J ((at_ p 14).Z)]) rfl rfl ts_23 h112 rfl rfl rfl rfl ?_))))))))))))
 intro H117 h118 k119
 have h120 := keep k119 e107 h114
 have m122 := Mono.set m116 z108 k119
 refine AWP.region rfl ?_
 refine B rfl rfl rfl (iadd (by omega)) (V rfl rfl ?_)
 refine AOps.nil ?_
 refine UN.step ?_
 refine Sr ?_
 refine B rfl rfl rfl rfl ?_
 refine AWP.seq ?_
 refine ct_ rfl (decide_eq_true (by decide)) ?_
 refine AWP.skip ?_
 refine AWP.seq ?_
 refine bk_ ?_
 refine Sr ?_
 refine V rfl rfl (A rfl rfl ?_)
 refine AWP.region rfl ?_
 refine V rfl rfl (V rfl rfl (V rfl rfl (V rfl rfl (B rfl rfl rfl (imul (by omega)) (B rfl rfl rfl (iadd (by omega)) (C rfl (iF_ rfl rfl rfl ar_24 (by omega) (by omega) (L rfl rfl ty_23 (ldM eV_len (i := 13) (by omega) (by have := h_p; omega)) (C rfl (iA_ rfl rfl rfl ar_26 (by omega) (by omega) ⟨_, h118⟩ (C rfl (So (cells' := [J ((at_ p 15).X), J ((at_ p 15).Y), J ((at_ p 15).Z), J ((at_ p 14).X), J ((at_ p 14).Y), J ((at_ p 14).Z), J ((at_ p 13).X), J ((at_ p 13).Y), J ((at_ p 13).Z), J 0, J 0, J 0]) (.agg [J ((at_ p 13).X), J ((at_ p 13).Y), J ((at_ p 13).Z)]) rfl rfl ts_23 h118 rfl rfl rfl rfl ?_))))))))))))
 intro H123 h124 k125
 have h126 := keep k125 e107 h120
 have m128 := Mono.set m122 z108 k125
 refine AWP.region rfl ?_
 refine B rfl rfl rfl (iadd (by omega)) (V rfl rfl ?_)
 refine AOps.nil ?_
 refine UN.step ?_
 refine Sr ?_
 refine B rfl rfl rfl rfl ?_
 refine AWP.seq ?_
 refine ct_ rfl (decide_eq_true (by decide)) ?_
 refine AWP.skip ?_
 refine AWP.seq ?_
 refine bk_ ?_
 refine Sr ?_
 refine V rfl rfl (A rfl rfl ?_)
 refine AWP.region rfl ?_
 refine V rfl rfl (V rfl rfl (V rfl rfl (V rfl rfl (B rfl rfl rfl (imul (by omega)) (B rfl rfl rfl (iadd (by omega)) (C rfl (iF_ rfl rfl rfl ar_24 (by omega) (by omega) (L rfl rfl ty_23 (ldM eV_len (i := 12) (by omega) (by have := h_p; omega)) (C rfl (iA_ rfl rfl rfl ar_26 (by omega) (by omega) ⟨_, h124⟩ (C rfl (So (cells' := [J ((at_ p 15).X), J ((at_ p 15).Y), J ((at_ p 15).Z), J ((at_ p 14).X), J ((at_ p 14).Y), J ((at_ p 14).Z), J ((at_ p 13).X), J ((at_ p 13).Y), J ((at_ p 13).Z), J ((at_ p 12).X), J ((at_ p 12).Y), J ((at_ p 12).Z)]) (.agg [J ((at_ p 12).X), J ((at_ p 12).Y), J ((at_ p 12).Z)]) rfl rfl ts_23 h124 rfl rfl rfl rfl ?_))))))))))))
 intro H129 h130 k131
 have h132 := keep k131 e107 h126
 have m134 := Mono.set m128 z108 k131
 refine AWP.region rfl ?_
 refine B rfl rfl rfl (iadd (by omega)) (V rfl rfl ?_)
 refine AOps.nil ?_
 refine UN.step ?_
 refine Sr ?_
 refine B rfl rfl rfl rfl ?_
 refine AWP.seq ?_
 refine cf_ rfl (decide_eq_false (by decide)) ?_
 refine AWP.exit ?_
 change AWP _ _ _ _ _ _
 refine Sr ?_
 refine C rfl (Ld _ rfl rfl ty_26 h130 rfl (C rfl (Sw rfl rfl ts_26 h132 rfl rfl rfl ?_)))
 intro H135 h136 k137
 have m140 := Mono.set m134 z14 k137
 refine rt_ ?_
 refine Rr (Res.list1 rfl (.cell (v := .agg [J ((at_ p 15).X), J ((at_ p 15).Y), J ((at_ p 15).Z), J ((at_ p 14).X), J ((at_ p 14).Y), J ((at_ p 14).Z), J ((at_ p 13).X), J ((at_ p 13).Y), J ((at_ p 13).Z), J ((at_ p 12).X), J ((at_ p 12).Y), J ((at_ p 12).Z)]) rfl ty_26 h136 rfl (.nil))) ?_ m140
 have hR : R_curve_Row p side = [(at_ p 15), (at_ p 14), (at_ p 13), (at_ p 12)] := by unfold R_curve_Row; rw [if_neg b21, if_neg b61, if_pos b101]
 exact (congrArg Tcurve_Row hR).symm
 refine cf_ rfl (decide_eq_false b101) ?_
 refine Sr ?_
 refine B rfl rfl rfl ieq (A rfl rfl ?_)
 refine AOps.nil ?_
 change AWP _ _ _ _ _ _
 by_cases b141 : side = 3
 refine ct_ rfl (decide_eq_true b141) ?_
 refine AWP.region rfl ?_
 refine A rfl rfl (A rfl rfl ?_)
 refine Sr ?_
 refine C rfl (al_ rfl tz_26 ?_)
 intro i142 H143 n144 h145 k146
 have e147 := ne_new h20 n144
 have z148 := Mono.free m18 n144
 have h149 := keep k146 (ne_new h20 n144) h20
 have m150 := Mono.new m18 n144 k146
 refine AWP.seq ?_
 refine Sr ?_
 refine V rfl rfl ?_
 refine bk_ ?_
 refine AWP.unroll 20 ?_
 refine UN.step ?_
 refine Sr ?_
 refine B rfl rfl rfl rfl ?_
 refine AWP.seq ?_
 refine ct_ rfl (decide_eq_true (by decide)) ?_
 refine AWP.skip ?_
 refine AWP.seq ?_
 refine bk_ ?_
 refine Sr ?_
 refine V rfl rfl (A rfl rfl ?_)
 refine AWP.region rfl ?_
 refine V rfl rfl (V rfl rfl (V rfl rfl (V rfl rfl (B rfl rfl rfl (imul (by omega)) (B rfl rfl rfl (iadd (by omega)) (C rfl (iF_ rfl rfl rfl ar_24 (by omega) (by omega) (L rfl rfl ty_23 (ldM eV_len (i := 12) (by omega) (by have := h_p; omega)) (C rfl (iA_ rfl rfl rfl ar_26 (by omega) (by omega) ⟨_, h145⟩ (C rfl (So (cells' := [J ((at_ p 12).X), J ((at_ p 12).Y), J ((at_ p 12).Z), J 0, J 0, J 0, J 0, J 0, J 0, J 0, J 0, J 0]) (.agg [J ((at_ p 12).X), J ((at_ p 12).Y), J ((at_ p 12).Z)]) rfl rfl ts_23 h145 rfl rfl rfl rfl ?_))))))))))))
 intro H151 h152 k153
 have h154 := keep k153 e147 h149
 have m156 := Mono.set m150 z148 k153
 refine AWP.region rfl ?_
 refine B rfl rfl rfl (iadd (by omega)) (V rfl rfl ?_)
 refine AOps.nil ?_
 refine UN.step ?_
 refine Sr ?_
 refine B rfl rfl rfl rfl ?_
 refine AWP.seq ?_
 refine ct_ rfl (decide_eq_true (by decide)) ?_
 refine AWP.skip ?_
 refine AWP.seq ?_
 refine bk_ ?_
 refine Sr ?_
 refine V rfl rfl (A rfl rfl ?_)
 refine AWP.region rfl ?_
 refine V rfl rfl (V rfl rfl (V rfl rfl (V rfl rfl (B rfl rfl rfl (imul (by omega)) (B rfl rfl rfl (iadd (by omega)) (C rfl (iF_ rfl rfl rfl ar_24 (by omega) (by omega) (L rfl rfl ty_23 (ldM eV_len (i := 8) (by omega) (by have := h_p; omega)) (C rfl (iA_ rfl rfl rfl ar_26 (by omega) (by omega) ⟨_, h152⟩ (C rfl (So (cells' := [J ((at_ p 12).X), J ((at_ p 12).Y), J ((at_ p 12).Z), J ((at_ p 8).X), J ((at_ p 8).Y), J ((at_ p 8).Z), J 0, J 0, J 0, J 0, J 0, J 0]) (.agg [J ((at_ p 8).X), J ((at_ p 8).Y), J ((at_ p 8).Z)]) rfl rfl ts_23 h152 rfl rfl rfl rfl ?_))))))))))))
 intro H157 h158 k159
 have h160 := keep k159 e147 h154
 have m162 := Mono.set m156 z148 k159
 refine AWP.region rfl ?_
 refine B rfl rfl rfl (iadd (by omega)) (V rfl rfl ?_)
 refine AOps.nil ?_
 refine UN.step ?_
 refine Sr ?_
 refine B rfl rfl rfl rfl ?_
 refine AWP.seq ?_
 refine ct_ rfl (decide_eq_true (by decide)) ?_
 refine AWP.skip ?_
 refine AWP.seq ?_
 refine bk_ ?_
 refine Sr ?_
 refine V rfl rfl (A rfl rfl ?_)
 refine AWP.region rfl ?_
 refine V rfl rfl (V rfl rfl (V rfl rfl (V rfl rfl (B rfl rfl rfl (imul (by omega)) (B rfl rfl rfl (iadd (by omega)) (C rfl (iF_ rfl rfl rfl ar_24 (by omega) (by omega) (L rfl rfl ty_23 (ldM eV_len (i := 4) (by omega) (by have := h_p; omega)) (C rfl (iA_ rfl rfl rfl ar_26 (by omega) (by omega) ⟨_, h158⟩ (C rfl (So (cells' := [J ((at_ p 12).X), J ((at_ p 12).Y), J ((at_ p 12).Z), J ((at_ p 8).X), J ((at_ p 8).Y), J ((at_ p 8).Z), J ((at_ p 4).X), J ((at_ p 4).Y), J ((at_ p 4).Z), J 0, J 0, J 0]) (.agg [J ((at_ p 4).X), J ((at_ p 4).Y), J ((at_ p 4).Z)]) rfl rfl ts_23 h158 rfl rfl rfl rfl ?_))))))))))))
 intro H163 h164 k165
 have h166 := keep k165 e147 h160
 have m168 := Mono.set m162 z148 k165
 refine AWP.region rfl ?_
 refine B rfl rfl rfl (iadd (by omega)) (V rfl rfl ?_)
 refine AOps.nil ?_
 refine UN.step ?_
 refine Sr ?_
 refine B rfl rfl rfl rfl ?_
 refine AWP.seq ?_
 refine ct_ rfl (decide_eq_true (by decide)) ?_
 refine AWP.skip ?_
 refine AWP.seq ?_
 refine bk_ ?_
 refine Sr ?_
 refine V rfl rfl (A rfl rfl ?_)
 refine AWP.region rfl ?_
 refine V rfl rfl (V rfl rfl (V rfl rfl (V rfl rfl (B rfl rfl rfl (imul (by omega)) (B rfl rfl rfl (iadd (by omega)) (C rfl (iF_ rfl rfl rfl ar_24 (by omega) (by omega) (L rfl rfl ty_23 (ldM eV_len (i := 0) (by omega) (by have := h_p; omega)) (C rfl (iA_ rfl rfl rfl ar_26 (by omega) (by omega) ⟨_, h164⟩ (C rfl (So (cells' := [J ((at_ p 12).X), J ((at_ p 12).Y), J ((at_ p 12).Z), J ((at_ p 8).X), J ((at_ p 8).Y), J ((at_ p 8).Z), J ((at_ p 4).X), J ((at_ p 4).Y), J ((at_ p 4).Z), J ((at_ p 0).X), J ((at_ p 0).Y), J ((at_ p 0).Z)]) (.agg [J ((at_ p 0).X), J ((at_ p 0).Y), J ((at_ p 0).Z)]) rfl rfl ts_23 h164 rfl rfl rfl rfl ?_))))))))))))
 intro H169 h170 k171
 have h172 := keep k171 e147 h166
 have m174 := Mono.set m168 z148 k171
 refine AWP.region rfl ?_
 refine B rfl rfl rfl (iadd (by omega)) (V rfl rfl ?_)
 refine AOps.nil ?_
 refine UN.step ?_
 refine Sr ?_
 refine B rfl rfl rfl rfl ?_
 refine AWP.seq ?_
 refine cf_ rfl (decide_eq_false (by decide)) ?_
 refine AWP.exit ?_
 change AWP _ _ _ _ _ _
 refine Sr ?_
 refine C rfl (Ld _ rfl rfl ty_26 h170 rfl (C rfl (Sw rfl rfl ts_26 h172 rfl rfl rfl ?_)))
 intro H175 h176 k177
 have m180 := Mono.set m174 z14 k177
 refine rt_ ?_
 refine Rr (Res.list1 rfl (.cell (v := .agg [J ((at_ p 12).X), J ((at_ p 12).Y), J ((at_ p 12).Z), J ((at_ p 8).X), J ((at_ p 8).Y), J ((at_ p 8).Z), J ((at_ p 4).X), J ((at_ p 4).Y), J ((at_ p 4).Z), J ((at_ p 0).X), J ((at_ p 0).Y), J ((at_ p 0).Z)]) rfl ty_26 h176 rfl (.nil))) ?_ m180
 have hR : R_curve_Row p side = [(at_ p 12), (at_ p 8), (at_ p 4), (at_ p 0)] := by unfold R_curve_Row; rw [if_neg b21, if_neg b61, if_neg b101, if_pos b141]
 exact (congrArg Tcurve_Row hR).symm
 refine cf_ rfl (decide_eq_false b141) ?_
 refine Sr ?_
 refine C rfl (Bl (cells := [J 0, J 0, J 0, J 0, J 0, J 0, J 0, J 0, J 0, J 0, J 0, J 0]) rfl tz_26 pl_26 rfl rfl (C rfl (Sw rfl rfl ts_26 h20 rfl rfl rfl ?_)))
 intro H181 h182 k183
 have m185 := Mono.set m18 z14 k183
 refine rt_ ?_
 refine Rr (Res.list1 rfl (.cell (v := .agg [J 0, J 0, J 0, J 0, J 0, J 0, J 0, J 0, J 0, J 0, J 0, J 0]) rfl ty_26 h182 rfl (.nil))) ?_ m185
 have hR : R_curve_Row p side = [(VT.mk 0 0 0), (VT.mk 0 0 0), (VT.mk 0 0 0), (VT.mk 0 0 0)] := by unfold R_curve_Row; rw [if_neg b21, if_neg b61, if_neg b101, if_neg b141]
 exact (congrArg Tcurve_Row hR).symm
def R_ref11_Row (p : (List VT)) (side : Int) : (List VT) :=
  if side = 0 then [(at_ p 0), (at_ p 1), (at_ p 2), (at_ p 3)] else (if side = 1 then [(at_ p 3), (at_ p 7), (at_ p 11), (at_ p 15)] else (if side = 2 then [(at_ p 15), (at_ p 14), (at_ p 13), (at_ p 12)] else (if side = 3 then [(at_ p 12), (at_ p 8), (at_ p 4), (at_ p 0)] else [(VT.mk 0 0 0), (VT.mk 0 0 0), (VT.mk 0 0 0), (VT.mk 0 0 0)])))
theorem R_ref11_Row_len (p : List VT) (side : Int) : (R_ref11_Row p side).length = 4 := by
  unfold R_ref11_Row; (repeat' split) <;> rfl
def Tref11_Row (r : (List VT)) : AV := .agg (r.flatMap eV)
theorem c_ref11_Row (p : (List VT)) (h_p : p.length = 16) (side : Int) : PC Tryd.prog 62 [.agg (p.flatMap eV), J side] (.agg ((R_ref11_Row p side).flatMap eV)) := by
 intro H0
 refine ACalls.of_body' (n := 47) rfl rfl rfl rfl ?_
 have m0 := Mono.refl H0
 refine Sr ?_
 refine C rfl (bx_ (.agg (p.flatMap eV)) rfl rfl rfl ?_)
 intro i1 H2 n3 h4 k5
 have z6 := Mono.free m0 n3
 have m7 := Mono.new m0 n3 k5
 refine C rfl (al_ rfl tz_26 ?_)
 intro i8 H9 n10 h11 k12
 have e13 := ne_new h4 n10
 have z14 := Mono.free m7 n10
 have h15 := keep k12 (ne_new h4 n10) h4
 have m16 := Mono.new m7 n10 k12
 refine AWP.seq ?_
 refine fz_ 2 h15 z6 rfl m16 fun H17 m18 k19 => ?_
 have h20 := (k19 _ (Ne.symm e13)).trans h11
 refine AWP.region rfl ?_
 refine C rfl (Bl (cells := [J 0, J 0, J 0, J 0, J 0, J 0, J 0, J 0, J 0, J 0, J 0, J 0]) rfl tz_26 pl_26 rfl rfl (C rfl (al_ rfl tz_26 ?_)))
 intro i21 H22 n23 h24 k25
 have e26 := ne_new h20 n23
 have z27 := Mono.free m18 n23
 have h28 := keep k25 (ne_new h20 n23) h20
 have m29 := Mono.new m18 n23 k25
 refine C rfl (Sw rfl rfl ts_26 h24 rfl rfl rfl ?_)
 intro H30 h31 k32
 have h33 := keep k32 e26 h28
 have m35 := Mono.set m29 z27 k32
 refine AWP.seq ?_
 refine Sr ?_
 refine A rfl rfl ?_
 refine bk_ ?_
 refine AWP.unroll 20 ?_
 refine UN.step ?_
 refine AWP.seq ?_
 refine Sr ?_
 refine V rfl rfl (B rfl rfl rfl rfl ?_)
 refine ct_ rfl (decide_eq_true (by decide)) ?_
 refine AWP.skip ?_
 refine AWP.seq ?_
 refine bk_ ?_
 refine Sr ?_
 refine V rfl rfl ?_
 refine bk_ ?_
 refine Sr ?_
 refine B rfl rfl rfl ieq (A rfl rfl ?_)
 refine AOps.nil ?_
 change AWP _ _ _ _ _ _
 by_cases b36 : side = 0
 refine ct_ rfl (decide_eq_true b36) ?_
 refine AWP.region rfl ?_
 refine V rfl rfl (V rfl rfl (C rfl (iF_ rfl rfl rfl ar_24 (by omega) (by omega) (L rfl rfl ty_23 (ldM eV_len (i := 0) (by omega) (by have := h_p; omega)) (C rfl (iA_ rfl rfl rfl ar_26 (by omega) (by omega) ⟨_, h31⟩ (C rfl (So (cells' := [J ((at_ p 0).X), J ((at_ p 0).Y), J ((at_ p 0).Z), J 0, J 0, J 0, J 0, J 0, J 0, J 0, J 0, J 0]) (.agg [J ((at_ p 0).X), J ((at_ p 0).Y), J ((at_ p 0).Z)]) rfl rfl ts_23 h31 rfl rfl rfl rfl ?_))))))))
 intro H37 h38 k39
 have h40 := keep k39 e26 h33
 have m42 := Mono.set m35 z27 k39
 refine AWP.region rfl ?_
 refine V rfl rfl (B rfl rfl rfl (iadd (by omega)) (A rfl rfl ?_))
 refine AOps.nil ?_
 refine UN.step ?_
 refine AWP.seq ?_
 refine Sr ?_
 refine V rfl rfl (B rfl rfl rfl rfl ?_)
 refine ct_ rfl (decide_eq_true (by decide)) ?_
 refine AWP.skip ?_
 refine AWP.seq ?_
 refine bk_ ?_
 refine Sr ?_
 refine V rfl rfl ?_
 refine bk_ ?_
 refine Sr ?_
 refine B rfl rfl rfl ieq (A rfl rfl ?_)
 refine ct_ rfl (decide_eq_true b36) ?_
 refine AWP.region rfl ?_
 refine V rfl rfl (V rfl rfl (C rfl (iF_ rfl rfl rfl ar_24 (by omega) (by omega) (L rfl rfl ty_23 (ldM eV_len (i := 1) (by omega) (by have := h_p; omega)) (C rfl (iA_ rfl rfl rfl ar_26 (by omega) (by omega) ⟨_, h38⟩ (C rfl (So (cells' := [J ((at_ p 0).X), J ((at_ p 0).Y), J ((at_ p 0).Z), J ((at_ p 1).X), J ((at_ p 1).Y), J ((at_ p 1).Z), J 0, J 0, J 0, J 0, J 0, J 0]) (.agg [J ((at_ p 1).X), J ((at_ p 1).Y), J ((at_ p 1).Z)]) rfl rfl ts_23 h38 rfl rfl rfl rfl ?_))))))))
 intro H43 h44 k45
 have h46 := keep k45 e26 h40
 have m48 := Mono.set m42 z27 k45
 refine AWP.region rfl ?_
 refine V rfl rfl (B rfl rfl rfl (iadd (by omega)) (A rfl rfl ?_))
 refine AOps.nil ?_
 refine UN.step ?_
 refine AWP.seq ?_
 refine Sr ?_
 refine V rfl rfl (B rfl rfl rfl rfl ?_)
 refine ct_ rfl (decide_eq_true (by decide)) ?_
 refine AWP.skip ?_
 refine AWP.seq ?_
 refine bk_ ?_
 refine Sr ?_
 refine V rfl rfl ?_
 refine bk_ ?_
 refine Sr ?_
 refine B rfl rfl rfl ieq (A rfl rfl ?_)
 refine ct_ rfl (decide_eq_true b36) ?_
 refine AWP.region rfl ?_
 refine V rfl rfl (V rfl rfl (C rfl (iF_ rfl rfl rfl ar_24 (by omega) (by omega) (L rfl rfl ty_23 (ldM eV_len (i := 2) (by omega) (by have := h_p; omega)) (C rfl (iA_ rfl rfl rfl ar_26 (by omega) (by omega) ⟨_, h44⟩ (C rfl (So (cells' := [J ((at_ p 0).X), J ((at_ p 0).Y), J ((at_ p 0).Z), J ((at_ p 1).X), J ((at_ p 1).Y), J ((at_ p 1).Z), J ((at_ p 2).X), J ((at_ p 2).Y), J ((at_ p 2).Z), J 0, J 0, J 0]) (.agg [J ((at_ p 2).X), J ((at_ p 2).Y), J ((at_ p 2).Z)]) rfl rfl ts_23 h44 rfl rfl rfl rfl ?_))))))))
 intro H49 h50 k51
 have h52 := keep k51 e26 h46
 have m54 := Mono.set m48 z27 k51
 refine AWP.region rfl ?_
 refine V rfl rfl (B rfl rfl rfl (iadd (by omega)) (A rfl rfl ?_))
 refine AOps.nil ?_
 refine UN.step ?_
 refine AWP.seq ?_
 refine Sr ?_
 refine V rfl rfl (B rfl rfl rfl rfl ?_)
 refine ct_ rfl (decide_eq_true (by decide)) ?_
 refine AWP.skip ?_
 refine AWP.seq ?_
 refine bk_ ?_
 refine Sr ?_
 refine V rfl rfl ?_
 refine bk_ ?_
 refine Sr ?_
 refine B rfl rfl rfl ieq (A rfl rfl ?_)
 refine ct_ rfl (decide_eq_true b36) ?_
 refine AWP.region rfl ?_
 refine V rfl rfl (V rfl rfl (C rfl (iF_ rfl rfl rfl ar_24 (by omega) (by omega) (L rfl rfl ty_23 (ldM eV_len (i := 3) (by omega) (by have := h_p; omega)) (C rfl (iA_ rfl rfl rfl ar_26 (by omega) (by omega) ⟨_, h50⟩ (C rfl (So (cells' := [J ((at_ p 0).X), J ((at_ p 0).Y), J ((at_ p 0).Z), J ((at_ p 1).X), J ((at_ p 1).Y), J ((at_ p 1).Z), J ((at_ p 2).X), J ((at_ p 2).Y), J ((at_ p 2).Z), J ((at_ p 3).X), J ((at_ p 3).Y), J ((at_ p 3).Z)]) (.agg [J ((at_ p 3).X), J ((at_ p 3).Y), J ((at_ p 3).Z)]) rfl rfl ts_23 h50 rfl rfl rfl rfl ?_))))))))
 intro H55 h56 k57
 have h58 := keep k57 e26 h52
 have m60 := Mono.set m54 z27 k57
 refine AWP.region rfl ?_
 refine V rfl rfl (B rfl rfl rfl (iadd (by omega)) (A rfl rfl ?_))
 refine AOps.nil ?_
 refine UN.step ?_
 refine AWP.seq ?_
 refine Sr ?_
 refine V rfl rfl (B rfl rfl rfl rfl ?_)
 refine cf_ rfl (decide_eq_false (by decide)) ?_
 refine AWP.exit ?_
 change AWP _ _ _ _ _ _
 refine Sr ?_
 refine C rfl (Ld _ rfl rfl ty_26 h56 rfl (C rfl (Sw rfl rfl ts_26 h58 rfl rfl rfl ?_)))
 intro H61 h62 k63
 have m66 := Mono.set m60 z14 k63
 refine rt_ ?_
 refine Rr (Res.list1 rfl (.cell (v := .agg [J ((at_ p 0).X), J ((at_ p 0).Y), J ((at_ p 0).Z), J ((at_ p 1).X), J ((at_ p 1).Y), J ((at_ p 1).Z), J ((at_ p 2).X), J ((at_ p 2).Y), J ((at_ p 2).Z), J ((at_ p 3).X), J ((at_ p 3).Y), J ((at_ p 3).Z)]) rfl ty_26 h62 rfl (.nil))) ?_ m66
 have hR : R_ref11_Row p side = [(at_ p 0), (at_ p 1), (at_ p 2), (at_ p 3)] := by unfold R_ref11_Row; rw [if_pos b36]
 exact (congrArg Tref11_Row hR).symm
 refine cf_ rfl (decide_eq_false b36) ?_
 refine Sr ?_
 refine B rfl rfl rfl ieq (A rfl rfl ?_)
 refine AOps.nil ?_
 change AWP _ _ _ _ _ _
 by_cases b67 : side = 1
 refine ct_ rfl (decide_eq_true b67) ?_
 refine AWP.region rfl ?_
 refine V rfl rfl (V rfl rfl (B rfl rfl rfl (imul (by omega)) (B rfl rfl rfl (iadd (by omega)) (C rfl (iF_ rfl rfl rfl ar_24 (by omega) (by omega) (L rfl rfl ty_23 (ldM eV_len (i := 3) (by omega) (by have := h_p; omega)) (C rfl (iA_ rfl rfl rfl ar_26 (by omega) (by omega) ⟨_, h31⟩ (C rfl (So (cells' := [J ((at_ p 3).X), J ((at_ p 3).Y), J ((at_ p 3).Z), J 0, J 0, J 0, J 0, J 0, J 0, J 0, J 0, J 0]) (.agg [J ((at_ p 3).X), J ((at_ p 3).Y), J ((at_ p 3).Z)]) rfl rfl ts_23 h31 rfl rfl rfl rfl ?_))))))))))
 intro H68 h69 k70
 have h71 := keep k70 e26 h33
 have m73 := Mono.set m35 z27 k70
 refine AWP.region rfl ?_
 refine V rfl rfl (B rfl rfl rfl (iadd (by omega)) (A rfl rfl ?_))
 refine AOps.nil ?_
 refine UN.step ?_
 refine AWP.seq ?_
 refine Sr ?_
 refine V rfl rfl (B rfl rfl rfl rfl ?_)
 refine ct_ rfl (decide_eq_true (by decide)) ?_
 refine AWP.skip ?_
 refine AWP.seq ?_
 refine bk_ ?_
 refine Sr ?_
 refine V rfl rfl ?_
 refine bk_ ?_
 refine Sr ?_
 refine B rfl rfl rfl ieq (A rfl rfl ?_)
 refine cf_ rfl (decide_eq_false b36) ?_
 refine Sr ?_
 refine B rfl rfl rfl ieq (A rfl rfl ?_)
 refine ct_ rfl (decide_eq_true b67) ?_
 refine AWP.region rfl ?_
 refine V rfl rfl (V rfl rfl (B rfl rfl rfl (imul (by omega)) (B rfl rfl rfl (iadd (by omega)) (C rfl (iF_ rfl rfl rfl ar_24 (by omega) (by omega) (L rfl rfl ty_23 (ldM eV_len (i := 7) (by omega) (by have := h_p; omega)) (C rfl (iA_ rfl rfl rfl ar_26 (by omega) (by omega) ⟨_, h69⟩ (C rfl (So (cells' := [J ((at_ p 3).X), J ((at_ p 3).Y), J ((at_ p 3).Z), J ((at_ p 7).X), J ((at_ p 7).Y), J ((at_ p 7).Z), J 0, J 0, J 0, J 0, J 0, J 0]) (.agg [J ((at_ p 7).X), J ((at_ p 7).Y), J ((at_ p 7).Z)]) rfl rfl ts_23 h69 rfl rfl rfl rfl ?_))))))))))
 intro H74 h75 k76
 have h77 := keep k76 e26 h71
 have m79 := Mono.set m73 z27 k76
 refine AWP.region rfl ?_
 refine V rfl rfl (B rfl rfl rfl (iadd (by omega)) (A rfl rfl ?_))
 refine AOps.nil ?_
 refine UN.step ?_
 refine AWP.seq ?_
 refine Sr ?_
 refine V rfl rfl (B rfl rfl rfl rfl ?_)
 refine ct_ rfl (decide_eq_true (by decide)) ?_
 refine AWP.skip ?_
 refine AWP.seq ?_
 refine bk_ ?_
 refine Sr ?_
 refine V rfl rfl ?_
 refine bk_ ?_
 refine Sr ?_
 refine B rfl rfl rfl ieq (A rfl rfl ?_)
 refine cf_ rfl (decide_eq_false b36) ?_
 refine Sr ?_
 refine B rfl rfl rfl ieq (A rfl rfl ?_)
 refine ct_ rfl (decide_eq_true b67) ?_
 refine AWP.region rfl ?_
 refine V rfl rfl (V rfl rfl (B rfl rfl rfl (imul (by omega)) (B rfl rfl rfl (iadd (by omega)) (C rfl (iF_ rfl rfl rfl ar_24 (by omega) (by omega) (L rfl rfl ty_23 (ldM eV_len (i := 11) (by omega) (by have := h_p; omega)) (C rfl (iA_ rfl rfl rfl ar_26 (by omega) (by omega) ⟨_, h75⟩ (C rfl (So (cells' := [J ((at_ p 3).X), J ((at_ p 3).Y), J ((at_ p 3).Z), J ((at_ p 7).X), J ((at_ p 7).Y), J ((at_ p 7).Z), J ((at_ p 11).X), J ((at_ p 11).Y), J ((at_ p 11).Z), J 0, J 0, J 0]) (.agg [J ((at_ p 11).X), J ((at_ p 11).Y), J ((at_ p 11).Z)]) rfl rfl ts_23 h75 rfl rfl rfl rfl ?_))))))))))
 intro H80 h81 k82
 have h83 := keep k82 e26 h77
 have m85 := Mono.set m79 z27 k82
 refine AWP.region rfl ?_
 refine V rfl rfl (B rfl rfl rfl (iadd (by omega)) (A rfl rfl ?_))
 refine AOps.nil ?_
 refine UN.step ?_
 refine AWP.seq ?_
 refine Sr ?_
 refine V rfl rfl (B rfl rfl rfl rfl ?_)
 refine ct_ rfl (decide_eq_true (by decide)) ?_
 refine AWP.skip ?_
 refine AWP.seq ?_
 refine bk_ ?_
 refine Sr ?_
 refine V rfl rfl ?_
 refine bk_ ?_
 refine Sr ?_
 refine B rfl rfl rfl ieq (A rfl rfl ?_)
 refine cf_ rfl (decide_eq_false b36) ?_
 refine Sr ?_
 refine B rfl rfl rfl ieq (A rfl rfl ?_)
 refine ct_ rfl (decide_eq_true b67) ?_
 refine AWP.region rfl ?_
 refine V rfl rfl (V rfl rfl (B rfl rfl rfl (imul (by omega)) (B rfl rfl rfl (iadd (by omega)) (C rfl (iF_ rfl rfl rfl ar_24 (by omega) (by omega) (L rfl rfl ty_23 (ldM eV_len (i := 15) (by omega) (by have := h_p; omega)) (C rfl (iA_ rfl rfl rfl ar_26 (by omega) (by omega) ⟨_, h81⟩ (C rfl (So (cells' := [J ((at_ p 3).X), J ((at_ p 3).Y), J ((at_ p 3).Z), J ((at_ p 7).X), J ((at_ p 7).Y), J ((at_ p 7).Z), J ((at_ p 11).X), J ((at_ p 11).Y), J ((at_ p 11).Z), J ((at_ p 15).X), J ((at_ p 15).Y), J ((at_ p 15).Z)]) (.agg [J ((at_ p 15).X), J ((at_ p 15).Y), J ((at_ p 15).Z)]) rfl rfl ts_23 h81 rfl rfl rfl rfl ?_))))))))))
 intro H86 h87 k88
 have h89 := keep k88 e26 h83
 have m91 := Mono.set m85 z27 k88
 refine AWP.region rfl ?_
 refine V rfl rfl (B rfl rfl rfl (iadd (by omega)) (A rfl rfl ?_))
 refine AOps.nil ?_
 refine UN.step ?_
 refine AWP.seq ?_
 refine Sr ?_
 refine V rfl rfl (B rfl rfl rfl rfl ?_)
 refine cf_ rfl (decide_eq_false (by decide)) ?_
 refine AWP.exit ?_
 change AWP _ _ _ _ _ _
 refine Sr ?_
 refine C rfl (Ld _ rfl rfl ty_26 h87 rfl (C rfl (Sw rfl rfl ts_26 h89 rfl rfl rfl ?_)))
 intro H92 h93 k94
 have m97 := Mono.set m91 z14 k94
 refine rt_ ?_
 refine Rr (Res.list1 rfl (.cell (v := .agg [J ((at_ p 3).X), J ((at_ p 3).Y), J ((at_ p 3).Z), J ((at_ p 7).X), J ((at_ p 7).Y), J ((at_ p 7).Z), J ((at_ p 11).X), J ((at_ p 11).Y), J ((at_ p 11).Z), J ((at_ p 15).X), J ((at_ p 15).Y), J ((at_ p 15).Z)]) rfl ty_26 h93 rfl (.nil))) ?_ m97
 have hR : R_ref11_Row p side = [(at_ p 3), (at_ p 7), (at_ p 11), (at_ p 15)] := by unfold R_ref11_Row; rw [if_neg b36, if_pos b67]
 exact (congrArg Tref11_Row hR).symm
 refine cf_ rfl (decide_eq_false b67) ?_
 refine Sr ?_
 refine B rfl rfl rfl ieq (A rfl rfl ?_)
 refine AOps.nil ?_
 change AWP _ _ _ _ _ _
 by_cases b98 : side = 2
 refine ct_ rfl (decide_eq_true b98) ?_
 refine AWP.region rfl ?_
 refine V rfl rfl (V rfl rfl (B rfl rfl rfl (isub (by omega)) (C rfl (iF_ rfl rfl rfl ar_24 (by omega) (by omega) (L rfl rfl ty_23 (ldM eV_len (i := 15) (by omega) (by have := h_p; omega)) (C rfl (iA_ rfl rfl rfl ar_26 (by omega) (by omega) ⟨_, h31⟩ (C rfl (So (cells' := [J ((at_ p 15).X), J ((at_ p 15).Y), J ((at_ p 15).Z), J 0, J 0, J 0, J 0, J 0, J 0, J 0, J 0, J 0]) (.agg [J ((at_ p 15).X), J ((at_ p 15).Y), J ((at_ p 15).Z)]) rfl rfl ts_23 h31 rfl rfl rfl rfl ?_)))))))))
 intro H99 h100 k101
 have h102 := keep k101 e26 h33
 have m104 := Mono.set m35 z27 k101
 refine AWP.region rfl ?_
 refine V rfl rfl (B rfl rfl rfl (iadd (by omega)) (A rfl rfl ?_))
 refine AOps.nil ?_
 refine UN.step ?_
 refine AWP.seq ?_
 refine Sr ?_
 refine V rfl rfl (B rfl rfl rfl rfl ?_)
 refine ct_ rfl (decide_eq_true (by decide)) ?_
 refine AWP.skip ?_
 refine AWP.seq ?_
 refine bk_ ?_
 refine Sr ?_
 refine V rfl rfl ?_
 refine bk_ ?_
 refine Sr ?_
 refine B rfl rfl rfl ieq (A rfl rfl ?_)
 refine cf_ rfl (decide_eq_false b36) ?_
 refine Sr ?_
 refine B rfl rfl rfl ieq (A rfl rfl ?_)
 refine cf_ rfl (decide_eq_false b67) ?_
 refine Sr ?_
 refine B rfl rfl rfl ieq (A rfl rfl ?_)
 refine ct_ rfl (decide_eq_true b98) ?_
 refine AWP.region rfl ?_
 refine V rfl rfl (V rfl rfl (B rfl rfl rfl (isub (by omega)) (C rfl (iF_ rfl rfl rfl ar_24 (by omega) (by omega) (L rfl rfl ty_23 (ldM eV_len (i := 14) (by omega) (by have := h_p; omega)) (C rfl (iA_ rfl rfl rfl ar_26 (by omega) (by omega) ⟨_, h100⟩ (C rfl (So (cells' := [J ((at_ p 15).X), J ((at_ p 15).Y), J ((at_ p 15).Z), J ((at_ p 14).X), J ((at_ p 14).Y), J ((at_ p 14).Z), J 0, J 0, J 0, J 0, J 0, J 0]) (.agg [J ((at_ p 14).X), J ((at_ p 14).Y), J ((at_ p 14).Z)]) rfl rfl ts_23 h100 rfl rfl rfl rfl ?_)))))))))
 intro H105 h106 k107
 have h108 := keep k107 e26 h102
 have m110 := Mono.set m104 z27 k107
 refine AWP.region rfl ?_
 refine V rfl rfl (B rfl rfl rfl (iadd (by omega)) (A rfl rfl ?_))
 refine AOps.nil ?_
 refine UN.step ?_
 refine AWP.seq ?_
 refine Sr ?_
 refine V rfl rfl (B rfl rfl rfl rfl ?_)
 refine ct_ rfl (decide_eq_true (by decide)) ?_
 refine AWP.skip ?_
 refine AWP.seq ?_
 refine bk_ ?_
 refine Sr ?_
 refine V rfl rfl ?_
 refine bk_ ?_
 refine Sr ?_
 refine B rfl rfl rfl ieq (A rfl rfl ?_)
 refine cf_ rfl (decide_eq_false b36) ?_
 refine Sr ?_
 refine B rfl rfl rfl ieq (A rfl rfl ?_)
 refine cf_ rfl (decide_eq_false b67) ?_
 refine Sr ?_
 refine B rfl rfl rfl ieq (A rfl rfl ?_)
 refine ct_ rfl (decide_eq_true b98) ?_
 refine AWP.region rfl ?_
 refine V rfl rfl (V rfl rfl (B rfl rfl rfl (isub (by omega)) (C rfl (iF_ rfl rfl rfl ar_24 (by omega) (by omega) (L rfl rfl ty_23 (ldM eV_len (i := 13) (by omega) (by have := h_p; omega)) (C rfl (iA_ rfl rfl rfl ar_26 (by omega) (by omega) ⟨_, h106⟩ (C rfl (So (cells' := [J ((at_ p 15).X), J ((at_ p 15).Y), J ((at_ p 15).Z), J ((at_ p 14).X), J ((at_ p 14).Y), J ((at_ p 14).Z), J ((at_ p 13).X), J ((at_ p 13).Y), J ((at_ p 13).Z), J 0, J 0, J 0]) (.agg [J ((at_ p 13).X), J ((at_ p 13).Y), J ((at_ p 13).Z)]) rfl rfl ts_23 h106 rfl rfl rfl rfl ?_)))))))))
 intro H111 h112 k113
 have h114 := keep k113 e26 h108
 have m116 := Mono.set m110 z27 k113
 refine AWP.region rfl ?_
 refine V rfl rfl (B rfl rfl rfl (iadd (by omega)) (A rfl rfl ?_))
 refine AOps.nil ?_
 refine UN.step ?_
 refine AWP.seq ?_
 refine Sr ?_
 refine V rfl rfl (B rfl rfl rfl rfl ?_)
 refine ct_ rfl (decide_eq_true (by decide)) ?_
 refine AWP.skip ?_
 refine AWP.seq ?_
 refine bk_ ?_
 refine Sr ?_
 refine V rfl rfl ?_
 refine bk_ ?_
 refine Sr ?_
 refine B rfl rfl rfl ieq (A rfl rfl ?_)
 refine cf_ rfl (decide_eq_false b36) ?_
 refine Sr ?_
 refine B rfl rfl rfl ieq (A rfl rfl ?_)
 refine cf_ rfl (decide_eq_false b67) ?_
 refine Sr ?_
 refine B rfl rfl rfl ieq (A rfl rfl ?_)
 refine ct_ rfl (decide_eq_true b98) ?_
 refine AWP.region rfl ?_
 refine V rfl rfl (V rfl rfl (B rfl rfl rfl (isub (by omega)) (C rfl (iF_ rfl rfl rfl ar_24 (by omega) (by omega) (L rfl rfl ty_23 (ldM eV_len (i := 12) (by omega) (by have := h_p; omega)) (C rfl (iA_ rfl rfl rfl ar_26 (by omega) (by omega) ⟨_, h112⟩ (C rfl (So (cells' := [J ((at_ p 15).X), J ((at_ p 15).Y), J ((at_ p 15).Z), J ((at_ p 14).X), J ((at_ p 14).Y), J ((at_ p 14).Z), J ((at_ p 13).X), J ((at_ p 13).Y), J ((at_ p 13).Z), J ((at_ p 12).X), J ((at_ p 12).Y), J ((at_ p 12).Z)]) (.agg [J ((at_ p 12).X), J ((at_ p 12).Y), J ((at_ p 12).Z)]) rfl rfl ts_23 h112 rfl rfl rfl rfl ?_)))))))))
 intro H117 h118 k119
 have h120 := keep k119 e26 h114
 have m122 := Mono.set m116 z27 k119
 refine AWP.region rfl ?_
 refine V rfl rfl (B rfl rfl rfl (iadd (by omega)) (A rfl rfl ?_))
 refine AOps.nil ?_
 refine UN.step ?_
 refine AWP.seq ?_
 refine Sr ?_
 refine V rfl rfl (B rfl rfl rfl rfl ?_)
 refine cf_ rfl (decide_eq_false (by decide)) ?_
 refine AWP.exit ?_
 change AWP _ _ _ _ _ _
 refine Sr ?_
 refine C rfl (Ld _ rfl rfl ty_26 h118 rfl (C rfl (Sw rfl rfl ts_26 h120 rfl rfl rfl ?_)))
 intro H123 h124 k125
 have m128 := Mono.set m122 z14 k125
 refine rt_ ?_
 refine Rr (Res.list1 rfl (.cell (v := .agg [J ((at_ p 15).X), J ((at_ p 15).Y), J ((at_ p 15).Z), J ((at_ p 14).X), J ((at_ p 14).Y), J ((at_ p 14).Z), J ((at_ p 13).X), J ((at_ p 13).Y), J ((at_ p 13).Z), J ((at_ p 12).X), J ((at_ p 12).Y), J ((at_ p 12).Z)]) rfl ty_26 h124 rfl (.nil))) ?_ m128
 have hR : R_ref11_Row p side = [(at_ p 15), (at_ p 14), (at_ p 13), (at_ p 12)] := by unfold R_ref11_Row; rw [if_neg b36, if_neg b67, if_pos b98]
 exact (congrArg Tref11_Row hR).symm
 refine cf_ rfl (decide_eq_false b98) ?_
 refine Sr ?_
 refine B rfl rfl rfl ieq (A rfl rfl ?_)
 refine AOps.nil ?_
 change AWP _ _ _ _ _ _
 by_cases b129 : side = 3
 refine ct_ rfl (decide_eq_true b129) ?_
 refine AWP.region rfl ?_
 refine V rfl rfl (V rfl rfl (B rfl rfl rfl (imul (by omega)) (B rfl rfl rfl (isub (by omega)) (C rfl (iF_ rfl rfl rfl ar_24 (by omega) (by omega) (L rfl rfl ty_23 (ldM eV_len (i := 12) (by omega) (by have := h_p; omega)) (C rfl (iA_ rfl rfl rfl ar_26 (by omega) (by omega) ⟨_, h31⟩ (C rfl (So (cells' := [J ((at_ p 12).X), J ((at_ p 12).Y), J ((at_ p 12).Z), J 0, J 0, J 0, J 0, J 0, J 0, J 0, J 0, J 0]) (.agg [J ((at_ p 12).X), J ((at_ p 12).Y), J ((at_ p 12).Z)]) rfl rfl ts_23 h31 rfl rfl rfl rfl ?_))))))))))
 intro H130 h131 k132
 have h133 := keep k132 e26 h33
 have m135 := Mono.set m35 z27 k132
 refine AWP.region rfl ?_
 refine V rfl rfl (B rfl rfl rfl (iadd (by omega)) (A rfl rfl ?_))
 refine AOps.nil ?_
 refine UN.step ?_
 refine AWP.seq ?_
 refine Sr ?_
 refine V rfl rfl (B rfl rfl rfl rfl ?_)
 refine ct_ rfl (decide_eq_true (by decide)) ?_
 refine AWP.skip ?_
 refine AWP.seq ?_
 refine bk_ ?_
 refine Sr ?_
 refine V rfl rfl ?_
 refine bk_ ?_
 refine Sr ?_
 refine B rfl rfl rfl ieq (A rfl rfl ?_)
 refine cf_ rfl (decide_eq_false b36) ?_
 refine Sr ?_
 refine B rfl rfl rfl ieq (A rfl rfl ?_)
 refine cf_ rfl (decide_eq_false b67) ?_
 refine Sr ?_
 refine B rfl rfl rfl ieq (A rfl rfl ?_)
 refine cf_ rfl (decide_eq_false b98) ?_
 refine Sr ?_
 refine B rfl rfl rfl ieq (A rfl rfl ?_)
 refine ct_ rfl (decide_eq_true b129) ?_
 refine AWP.region rfl ?_
 refine V rfl rfl (V rfl rfl (B rfl rfl rfl (imul (by omega)) (B rfl rfl rfl (isub (by omega)) (C rfl (iF_ rfl rfl rfl ar_24 (by omega) (by omega) (L rfl rfl ty_23 (ldM eV_len (i := 8) (by omega) (by have := h_p; omega)) (C rfl (iA_ rfl rfl rfl ar_26 (by omega) (by omega) ⟨_, h131⟩ (C rfl (So (cells' := [J ((at_ p 12).X), J ((at_ p 12).Y), J ((at_ p 12).Z), J ((at_ p 8).X), J ((at_ p 8).Y), J ((at_ p 8).Z), J 0, J 0, J 0, J 0, J 0, J 0]) (.agg [J ((at_ p 8).X), J ((at_ p 8).Y), J ((at_ p 8).Z)]) rfl rfl ts_23 h131 rfl rfl rfl rfl ?_))))))))))
 intro H136 h137 k138
 have h139 := keep k138 e26 h133
 have m141 := Mono.set m135 z27 k138
 refine AWP.region rfl ?_
 refine V rfl rfl (B rfl rfl rfl (iadd (by omega)) (A rfl rfl ?_))
 refine AOps.nil ?_
 refine UN.step ?_
 refine AWP.seq ?_
 refine Sr ?_
 refine V rfl rfl (B rfl rfl rfl rfl ?_)
 refine ct_ rfl (decide_eq_true (by decide)) ?_
 refine AWP.skip ?_
 refine AWP.seq ?_
 refine bk_ ?_
 refine Sr ?_
 refine V rfl rfl ?_
 refine bk_ ?_
 refine Sr ?_
 refine B rfl rfl rfl ieq (A rfl rfl ?_)
 refine cf_ rfl (decide_eq_false b36) ?_
 refine Sr ?_
 refine B rfl rfl rfl ieq (A rfl rfl ?_)
 refine cf_ rfl (decide_eq_false b67) ?_
 refine Sr ?_
 refine B rfl rfl rfl ieq (A rfl rfl ?_)
 refine cf_ rfl (decide_eq_false b98) ?_
 refine Sr ?_
 refine B rfl rfl rfl ieq (A rfl rfl ?_)
 refine ct_ rfl (decide_eq_true b129) ?_
 refine AWP.region rfl ?_
 refine V rfl rfl (V rfl rfl (B rfl rfl rfl (imul (by omega)) (B rfl rfl rfl (isub (by omega)) (C rfl (iF_ rfl rfl rfl ar_24 (by omega) (by omega) (L rfl rfl ty_23 (ldM eV_len (i := 4) (by omega) (by have := h_p; omega)) (C rfl (iA_ rfl rfl rfl ar_26 (by omega) (by omega) ⟨_, h137⟩ (C rfl (So (cells' := [J ((at_ p 12).X), J ((at_ p 12).Y), J ((at_ p 12).Z), J ((at_ p 8).X), J ((at_ p 8).Y), J ((at_ p 8).Z), J ((at_ p 4).X), J ((at_ p 4).Y), J ((at_ p 4).Z), J 0, J 0, J 0]) (.agg [J ((at_ p 4).X), J ((at_ p 4).Y), J ((at_ p 4).Z)]) rfl rfl ts_23 h137 rfl rfl rfl rfl ?_))))))))))
 intro H142 h143 k144
 have h145 := keep k144 e26 h139
 have m147 := Mono.set m141 z27 k144
 refine AWP.region rfl ?_
 refine V rfl rfl (B rfl rfl rfl (iadd (by omega)) (A rfl rfl ?_))
 refine AOps.nil ?_
 refine UN.step ?_
 refine AWP.seq ?_
 refine Sr ?_
 refine V rfl rfl (B rfl rfl rfl rfl ?_)
 refine ct_ rfl (decide_eq_true (by decide)) ?_
 refine AWP.skip ?_
 refine AWP.seq ?_
 refine bk_ ?_
 refine Sr ?_
 refine V rfl rfl ?_
 refine bk_ ?_
 refine Sr ?_
 refine B rfl rfl rfl ieq (A rfl rfl ?_)
 refine cf_ rfl (decide_eq_false b36) ?_
 refine Sr ?_
 refine B rfl rfl rfl ieq (A rfl rfl ?_)
 refine cf_ rfl (decide_eq_false b67) ?_
 refine Sr ?_
 refine B rfl rfl rfl ieq (A rfl rfl ?_)
 refine cf_ rfl (decide_eq_false b98) ?_
 refine Sr ?_
 refine B rfl rfl rfl ieq (A rfl rfl ?_)
 refine ct_ rfl (decide_eq_true b129) ?_
 refine AWP.region rfl ?_
 refine V rfl rfl (V rfl rfl (B rfl rfl rfl (imul (by omega)) (B rfl rfl rfl (isub (by omega)) (C rfl (iF_ rfl rfl rfl ar_24 (by omega) (by omega) (L rfl rfl ty_23 (ldM eV_len (i := 0) (by omega) (by have := h_p; omega)) (C rfl (iA_ rfl rfl rfl ar_26 (by omega) (by omega) ⟨_, h143⟩ (C rfl (So (cells' := [J ((at_ p 12).X), J ((at_ p 12).Y), J ((at_ p 12).Z), J ((at_ p 8).X), J ((at_ p 8).Y), J ((at_ p 8).Z), J ((at_ p 4).X), J ((at_ p 4).Y), J ((at_ p 4).Z), J ((at_ p 0).X), J ((at_ p 0).Y), J ((at_ p 0).Z)]) (.agg [J ((at_ p 0).X), J ((at_ p 0).Y), J ((at_ p 0).Z)]) rfl rfl ts_23 h143 rfl rfl rfl rfl ?_))))))))))
 intro H148 h149 k150
 have h151 := keep k150 e26 h145
 have m153 := Mono.set m147 z27 k150
 refine AWP.region rfl ?_
 refine V rfl rfl (B rfl rfl rfl (iadd (by omega)) (A rfl rfl ?_))
 refine AOps.nil ?_
 refine UN.step ?_
 refine AWP.seq ?_
 refine Sr ?_
 refine V rfl rfl (B rfl rfl rfl rfl ?_)
 refine cf_ rfl (decide_eq_false (by decide)) ?_
 refine AWP.exit ?_
 change AWP _ _ _ _ _ _
 refine Sr ?_
 refine C rfl (Ld _ rfl rfl ty_26 h149 rfl (C rfl (Sw rfl rfl ts_26 h151 rfl rfl rfl ?_)))
 intro H154 h155 k156
 have m159 := Mono.set m153 z14 k156
 refine rt_ ?_
 refine Rr (Res.list1 rfl (.cell (v := .agg [J ((at_ p 12).X), J ((at_ p 12).Y), J ((at_ p 12).Z), J ((at_ p 8).X), J ((at_ p 8).Y), J ((at_ p 8).Z), J ((at_ p 4).X), J ((at_ p 4).Y), J ((at_ p 4).Z), J ((at_ p 0).X), J ((at_ p 0).Y), J ((at_ p 0).Z)]) rfl ty_26 h155 rfl (.nil))) ?_ m159
 have hR : R_ref11_Row p side = [(at_ p 12), (at_ p 8), (at_ p 4), (at_ p 0)] := by unfold R_ref11_Row; rw [if_neg b36, if_neg b67, if_neg b98, if_pos b129]
 exact (congrArg Tref11_Row hR).symm
 refine cf_ rfl (decide_eq_false b129) ?_
 refine AWP.skip ?_
 refine AWP.region rfl ?_
 refine V rfl rfl (B rfl rfl rfl (iadd (by omega)) (A rfl rfl ?_))
 refine AOps.nil ?_
 refine UN.step ?_
 refine AWP.seq ?_
 refine Sr ?_
 refine V rfl rfl (B rfl rfl rfl rfl ?_)
 refine ct_ rfl (decide_eq_true (by decide)) ?_
 refine AWP.skip ?_
 refine AWP.seq ?_
 refine bk_ ?_
 refine Sr ?_
 refine V rfl rfl ?_
 refine bk_ ?_
 refine Sr ?_
 refine B rfl rfl rfl ieq (A rfl rfl ?_)
 refine cf_ rfl (decide_eq_false b36) ?_
 refine Sr ?_
 refine B rfl rfl rfl ieq (A rfl rfl ?_)
 refine cf_ rfl (decide_eq_false b67) ?_
 refine Sr ?_
 refine B rfl rfl rfl ieq (A rfl rfl ?_)
 refine cf_ rfl (decide_eq_false b98) ?_
 refine Sr ?_
 refine B rfl rfl rfl ieq (A rfl rfl ?_)
 refine cf_ rfl (decide_eq_false b129) ?_
 refine AWP.skip ?_
 refine AWP.region rfl ?_
 refine V rfl rfl (B rfl rfl rfl (iadd (by omega)) (A rfl rfl ?_))
 refine AOps.nil ?_
 refine UN.step ?_
 refine AWP.seq ?_
 refine Sr ?_
 refine V rfl rfl (B rfl rfl rfl rfl ?_)
 refine ct_ rfl (decide_eq_true (by decide)) ?_
 refine AWP.skip ?_
 refine AWP.seq ?_
 refine bk_ ?_
 refine Sr ?_
 refine V rfl rfl ?_
 refine bk_ ?_
 refine Sr ?_
 refine B rfl rfl rfl ieq (A rfl rfl ?_)
 refine cf_ rfl (decide_eq_false b36) ?_
 refine Sr ?_
 refine B rfl rfl rfl ieq (A rfl rfl ?_)
 refine cf_ rfl (decide_eq_false b67) ?_
 refine Sr ?_
 refine B rfl rfl rfl ieq (A rfl rfl ?_)
 refine cf_ rfl (decide_eq_false b98) ?_
 refine Sr ?_
 refine B rfl rfl rfl ieq (A rfl rfl ?_)
 refine cf_ rfl (decide_eq_false b129) ?_
 refine AWP.skip ?_
 refine AWP.region rfl ?_
 refine V rfl rfl (B rfl rfl rfl (iadd (by omega)) (A rfl rfl ?_))
 refine AOps.nil ?_
 refine UN.step ?_
 refine AWP.seq ?_
 refine Sr ?_
 refine V rfl rfl (B rfl rfl rfl rfl ?_)
 refine ct_ rfl (decide_eq_true (by decide)) ?_
 refine AWP.skip ?_
 refine AWP.seq ?_
 refine bk_ ?_
 refine Sr ?_
 refine V rfl rfl ?_
 refine bk_ ?_
 refine Sr ?_
 refine B rfl rfl rfl ieq (A rfl rfl ?_)
 refine cf_ rfl (decide_eq_false b36) ?_
 refine Sr ?_
 refine B rfl rfl rfl ieq (A rfl rfl ?_)
 refine cf_ rfl (decide_eq_false b67) ?_
 refine Sr ?_
 refine B rfl rfl rfl ieq (A rfl rfl ?_)
 refine cf_ rfl (decide_eq_false b98) ?_
 refine Sr ?_
 refine B rfl rfl rfl ieq (A rfl rfl ?_)
 refine cf_ rfl (decide_eq_false b129) ?_
 refine AWP.skip ?_
 refine AWP.region rfl ?_
 refine V rfl rfl (B rfl rfl rfl (iadd (by omega)) (A rfl rfl ?_))
 refine AOps.nil ?_
 refine UN.step ?_
 refine AWP.seq ?_
 refine Sr ?_
 refine V rfl rfl (B rfl rfl rfl rfl ?_)
 refine cf_ rfl (decide_eq_false (by decide)) ?_
 refine AWP.exit ?_
 change AWP _ _ _ _ _ _
 refine Sr ?_
 refine C rfl (Ld _ rfl rfl ty_26 h31 rfl (C rfl (Sw rfl rfl ts_26 h33 rfl rfl rfl ?_)))
 intro H160 h161 k162
 have m165 := Mono.set m35 z14 k162
 refine rt_ ?_
 refine Rr (Res.list1 rfl (.cell (v := .agg [J 0, J 0, J 0, J 0, J 0, J 0, J 0, J 0, J 0, J 0, J 0, J 0]) rfl ty_26 h161 rfl (.nil))) ?_ m165
 have hR : R_ref11_Row p side = [(VT.mk 0 0 0), (VT.mk 0 0 0), (VT.mk 0 0 0), (VT.mk 0 0 0)] := by unfold R_ref11_Row; rw [if_neg b36, if_neg b67, if_neg b98, if_neg b129]
 exact (congrArg Tref11_Row hR).symm
end Go.Proofs.M
namespace Go.Proofs.M
open Go Go.AH
def sumV (l : List VT) (wt : Int → Int) : Nat → VT
  | 0 => VT.mk 0 0 0
  | k + 1 => R_vec_Add (sumV l wt k) (R_vec_Scale (at_ l (k : Int)) (wt (k : Int)))
def sumW (wt : Int → Int) : Nat → Int
  | 0 => 0
  | k + 1 => sumW wt k + wt (k : Int)
theorem sumV_step {l : List VT} {wt : Int → Int} {i : Int} (h : 0 ≤ i) : sumV l wt (i + 1).toNat = R_vec_Add (sumV l wt i.toNat) (R_vec_Scale (at_ l i) (wt i)) := by
  rw [show (i + 1).toNat = i.toNat + 1 by omega, sumV, Int.toNat_of_nonneg h]
theorem sumW_step {wt : Int → Int} {i : Int} (h : 0 ≤ i) : sumW wt (i + 1).toNat = sumW wt i.toNat + wt i := by
  rw [show (i + 1).toNat = i.toNat + 1 by omega, sumW, Int.toNat_of_nonneg h]
theorem sumV_rng {l : List VT} {wt : Int → Int} {B : Int} {n : Nat} (hl : ∀ k : Nat, k < n → inV 65536 (at_ l (k : Int))) (hw : ∀ k : Nat, k < n → 0 ≤ wt (k : Int) ∧ wt (k : Int) ≤ B) : inV (n * (65536 * B)) (sumV l wt n) := by
  induction n with
  | zero => simp only [sumV]; exact inV_zero (by simp)
  | succ n ih =>
    have h1 := ih (fun k hk => hl k (by omega)) (fun k hk => hw k (by omega))
    have hwn := hw n (by omega)
    have h2 := inV_vec_Scale (C := B) (hl n (by omega)) (show -B ≤ wt (n : Int) ∧ wt (n : Int) ≤ B by omega)
    have h3 := inV_vec_Add h1 h2
    rw [show ((n + 1 : Nat) : Int) * (65536 * B) = n * (65536 * B) + 65536 * B by rw [Int.natCast_add, Int.add_mul]; simp]
    exact h3
theorem sumW_rng {wt : Int → Int} {B : Int} {n : Nat} (hw : ∀ k : Nat, k < n → 0 ≤ wt (k : Int) ∧ wt (k : Int) ≤ B) : 0 ≤ sumW wt n ∧ sumW wt n ≤ n * B := by
  induction n with
  | zero => simp [sumW]
  | succ n ih =>
    have h1 := ih (fun k hk => hw k (by omega))
    have h2 := hw n (by omega)
    rw [show ((n + 1 : Nat) : Int) * B = n * B + B by rw [Int.natCast_add, Int.add_mul]; simp]
    simp only [sumW]
    omega
def allIn (l : List VT) (m : Int) : Bool := l.all fun v => R_vec_Within v m
theorem allIn_T {l : List VT} {m : Int} : allIn l m = true ↔ ∀ i : Int, 0 ≤ i → i < l.length → inV m (at_ l i) := by
  unfold allIn
  rw [List.all_eq_true]
  constructor
  · intro h i h0 h1; exact withinvec_in (h _ (at_mem h0 h1))
  · intro h v hv
    obtain ⟨i, h0, h1, rfl⟩ := mem_at hv
    exact withinvec_iff.2 (h i h0 h1)
theorem allIn_F {l : List VT} {m i : Int} (h0 : 0 ≤ i) (h1 : i < l.length) (h : R_vec_Within (at_ l i) m = false) : allIn l m = false := by
  cases e : allIn l m with
  | false => rfl
  | true => rw [withinvec_iff.2 (allIn_T.1 e i h0 h1)] at h; cases h
def weighR (l : List VT) (wt : Int → Int) : VT × Bool :=
  if allIn l 65536 = true then (VT.mk (R_vec_Round (sumV l wt l.length).X (sumW wt l.length)) (R_vec_Round (sumV l wt l.length).Y (sumW wt l.length)) (R_vec_Round (sumV l wt l.length).Z (sumW wt l.length)), true) else (VT.mk 0 0 0, false)
theorem weigh_T {l : List VT} {wt : Int → Int} {i : Int} (hi : i = l.length) (h : ∀ j : Int, 0 ≤ j → j < i → inV 65536 (at_ l j)) : weighR l wt = (VT.mk (R_vec_Round (sumV l wt i.toNat).X (sumW wt i.toNat)) (R_vec_Round (sumV l wt i.toNat).Y (sumW wt i.toNat)) (R_vec_Round (sumV l wt i.toNat).Z (sumW wt i.toNat)), true) := by
  subst hi
  unfold weighR
  rw [if_pos (allIn_T.2 fun i h0 h1 => h i h0 h1)]; rfl
theorem weigh_F {l : List VT} {wt : Int → Int} {i : Int} (h0 : 0 ≤ i) (h1 : i < l.length) (h : R_vec_Within (at_ l i) 65536 = false) : weighR l wt = (VT.mk 0 0 0, false) := by
  unfold weighR
  rw [if_neg (ff (allIn_F h0 h1 h))]
theorem int4 {P : Int → Prop} (h0 : P 0) (h1 : P 1) (h2 : P 2) (h3 : P 3) : ∀ k : Int, 0 ≤ k → k < 4 → P k := by
  intro k g0 g1
  have : k = 0 ∨ k = 1 ∨ k = 2 ∨ k = 3 := by omega
  rcases this with rfl | rfl | rfl | rfl <;> assumption
theorem mul_nn {x k A C : Int} (hx : 0 ≤ x ∧ x ≤ A) (hk : 0 ≤ k ∧ k ≤ C) : 0 ≤ x * k ∧ x * k ≤ A * C := ⟨Int.mul_nonneg hx.1 hk.1, Int.mul_le_mul hx.2 hk.2 hk.1 (by omega)⟩
theorem wts_rng {i n : Int} (h0 : 0 ≤ i) (h1 : i ≤ n) (h2 : n ≤ 16) : ∀ k : Int, 0 ≤ k → k < 4 → 0 ≤ at_ (R_ref11_Weights i n) k ∧ at_ (R_ref11_Weights i n) k ≤ 12288 := by
  have hk : 0 ≤ n - i ∧ n - i ≤ 16 := by omega
  have hi : 0 ≤ i ∧ i ≤ 16 := by omega
  have h3 : 0 ≤ 3 * (n - i) ∧ 3 * (n - i) ≤ 48 := by omega
  have a := mul_nn (mul_nn hk hk) hk
  have b := mul_nn (mul_nn h3 hk) hi
  have c := mul_nn (mul_nn h3 hi) hi
  have d := mul_nn (mul_nn hi hi) hi
  apply int4
  · exact ⟨a.1, by have := a.2; simp only [R_ref11_Weights, at_]; simp; omega⟩
  · exact ⟨b.1, by have := b.2; simp only [R_ref11_Weights, at_]; simp; omega⟩
  · exact ⟨c.1, by have := c.2; simp only [R_ref11_Weights, at_]; simp; omega⟩
  · exact ⟨d.1, by have := d.2; simp only [R_ref11_Weights, at_]; simp; omega⟩
theorem weights_ok {i n : Int} (h : 1 ≤ n ∧ n ≤ 16 ∧ 0 ≤ i ∧ i ≤ n) : R_curve_weights i n = (R_ref11_Weights i n, true) := by
  unfold R_curve_weights
  rw [if_neg (by omega), if_neg (by omega), if_neg (by omega), if_neg (by omega)]; rfl
theorem weights_no {i n : Int} (h : ¬ (1 ≤ n ∧ n ≤ 16 ∧ 0 ≤ i ∧ i ≤ n)) : R_curve_weights i n = ([0, 0, 0, 0], false) := by
  unfold R_curve_weights
  split
  · rfl
  split
  · rfl
  split
  · rfl
  split
  · rfl
  omega
theorem weights_rng (i n : Int) : ∀ k : Int, 0 ≤ k → k < 4 → 0 ≤ at_ (R_curve_weights i n).1 k ∧ at_ (R_curve_weights i n).1 k ≤ 12288 := by
  by_cases h : 1 ≤ n ∧ n ≤ 16 ∧ 0 ≤ i ∧ i ≤ n
  · rw [weights_ok h]; exact wts_rng h.2.2.1 h.2.2.2 h.2.1
  · rw [weights_no h]; exact int4 (by decide) (by decide) (by decide) (by decide)
theorem there_iff {i n : Int} : R_ref11_there i n = true ↔ 1 ≤ n ∧ n ≤ 16 ∧ 0 ≤ i ∧ i ≤ n := by
  unfold R_ref11_there
  constructor
  · intro h
    split at h
    · split at h
      · split at h
        · have := of_decide_eq_true h; omega
        · cases h
      · cases h
    · cases h
  · intro h
    rw [if_pos (by omega), if_pos (by omega), if_pos (by omega), decide_eq_true_eq]; omega
theorem row_same (p : List VT) (side : Int) : R_ref11_Row p side = R_curve_Row p side := by
  unfold R_ref11_Row R_curve_Row
  (repeat' split) <;> first | rfl | omega
def cubicR (p : List VT) (i n : Int) : VT × Bool := if R_ref11_there i n = true then (if allIn p 65536 = true then (R_ref09_Of (sumV p (fun k => at_ (R_ref11_Weights i n) k) p.length) (n * n * n), true) else (VT.mk 0 0 0, false)) else (VT.mk 0 0 0, false)
def pointR (p : List VT) (i n j m : Int) : VT × Bool := if R_ref11_there i n = true ∧ R_ref11_there j m = true then (if allIn p 65536 = true then (R_ref09_Of (sumV p (fun k => at_ (R_ref11_Weights i n) (k % 4) * at_ (R_ref11_Weights j m) (k / 4)) p.length) (n * n * n * m * m * m), true) else (VT.mk 0 0 0, false)) else (VT.mk 0 0 0, false)
theorem cubicR_no {p : List VT} {i n : Int} (h : R_ref11_there i n = false) : cubicR p i n = (VT.mk 0 0 0, false) := by unfold cubicR; rw [if_neg (ff h)]
theorem cubicR_F {p : List VT} {i n k : Int} (h0 : 0 ≤ k) (h1 : k < p.length) (h : R_ref00_Within (at_ p k) 65536 = false) : cubicR p i n = (VT.mk 0 0 0, false) := by
  unfold cubicR
  split
  · rw [if_neg (ff (allIn_F h0 h1 (by rw [← within_same]; exact h)))]
  · rfl
theorem cubicR_T {p : List VT} {i n k : Int} (ht : R_ref11_there i n = true) (hk : k = p.length) (h : ∀ j : Int, 0 ≤ j → j < k → inV 65536 (at_ p j)) : cubicR p i n = (R_ref09_Of (sumV p (fun k => at_ (R_ref11_Weights i n) k) k.toNat) (n * n * n), true) := by
  subst hk
  unfold cubicR
  rw [if_pos ht, if_pos (allIn_T.2 fun i h0 h1 => h i h0 h1)]; rfl
theorem pointR_no {p : List VT} {i n j m : Int} (h : ¬ (R_ref11_there i n = true ∧ R_ref11_there j m = true)) : pointR p i n j m = (VT.mk 0 0 0, false) := by unfold pointR; rw [if_neg h]
theorem pointR_F {p : List VT} {i n j m k : Int} (h0 : 0 ≤ k) (h1 : k < p.length) (h : R_ref00_Within (at_ p k) 65536 = false) : pointR p i n j m = (VT.mk 0 0 0, false) := by
  unfold pointR
  split
  · rw [if_neg (ff (allIn_F h0 h1 (by rw [← within_same]; exact h)))]
  · rfl
theorem pointR_T {p : List VT} {i n j m k : Int} (ht : R_ref11_there i n = true) (ht2 : R_ref11_there j m = true) (hk : k = p.length) (h : ∀ j : Int, 0 ≤ j → j < k → inV 65536 (at_ p j)) : pointR p i n j m = (R_ref09_Of (sumV p (fun k => at_ (R_ref11_Weights i n) (k % 4) * at_ (R_ref11_Weights j m) (k / 4)) k.toNat) (n * n * n * m * m * m), true) := by
  subst hk
  unfold pointR
  rw [if_pos ⟨ht, ht2⟩, if_pos (allIn_T.2 fun i h0 h1 => h i h0 h1)]; rfl
end Go.Proofs.M
