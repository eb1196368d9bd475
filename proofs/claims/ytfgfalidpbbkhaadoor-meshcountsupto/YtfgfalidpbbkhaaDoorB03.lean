/- A part of the proof that a law answers true for every input of its row: own work, by an AI agent. -/
import Derived.Test.YtfgfalidpbbkhaaDoorB02
import Derived.Test.YtfgfalidpbbkhaaDoorB01
set_option linter.unusedSimpArgs false
set_option linter.unusedVariables false
namespace Go.Proofs.M
open Go Go.AH
set_option maxRecDepth 4000
set_option linter.unusedSimpArgs false
set_option linter.unusedVariables false
def R_rate_way (v : VT) : Int :=
  max v.X (-v.X) + (max v.Y (-v.Y)) + (max v.Z (-v.Z))
theorem way_rng {v : VT} {B : Int} (h : inV B v) : 0 ≤ R_rate_way v ∧ R_rate_way v ≤ 3 * B := by
  obtain ⟨h1, h2, h3, h4, h5, h6⟩ := h
  unfold R_rate_way; omega
theorem c_rate_way (v : VT) (hv : inV 1048576 v) : PC Tryd.prog 91 [.agg [.int .i64 v.X, .int .i64 v.Y, .int .i64 v.Z]] (.int .i64 (R_rate_way v)) := by
 intro H0
 refine ACalls.of_body' (n := 23) rfl rfl rfl rfl ?_
 have m0 := Mono.refl H0
 refine AWP.seq ?_
 refine AWP.region (l := [0, 1]) rfl ?_
 refine AOps.cons rfl rfl (AOp.box (.agg [.int .i64 v.X, .int .i64 v.Y, .int .i64 v.Z]) rfl rfl rfl ?_)
 intro i1 H2 n3 h4 k5
 have z6 := Mono.free m0 n3
 have m7 := Mono.new m0 n3 k5
 refine AOps.cons rfl rfl (AOp.assign (.int .i64 0) rfl rfl ?_)
 refine AOps.nil ?_
 change AWP _ _ _ _ _ _
 refine AWP.seq ?_
 refine AWP.frzP 1 h4 z6 rfl m7 fun H8 m9 k10 => ?_
 refine AWP.region (l := [0, 1, 2, 3, 4, 5, 6, 7, 8, 9, 10, 11, 12, 13, 14, 15, 16, 17, 18, 19, 20]) rfl ?_
 refine AOps.cons rfl rfl (AOp.fieldAddrF rfl rfl fl_23_0 ?_)
 refine AOps.cons rfl rfl (AOp.loadF (.int .i64 v.X) rfl rfl ty_3 rfl ?_)
 refine AOps.cons rfl rfl (AOp.fieldAddrF rfl rfl fl_23_0 ?_)
 refine AOps.cons rfl rfl (AOp.loadF (.int .i64 v.X) rfl rfl ty_3 rfl ?_)
 refine AOps.cons rfl rfl (AOp.negP rfl rfl (by omega) ?_)
 refine AOps.cons rfl rfl (AOp.max2 rfl rfl rfl ?_)
 refine AOps.cons rfl rfl (AOp.fieldAddrF rfl rfl fl_23_1 ?_)
 refine AOps.cons rfl rfl (AOp.loadF (.int .i64 v.Y) rfl rfl ty_3 rfl ?_)
 refine AOps.cons rfl rfl (AOp.fieldAddrF rfl rfl fl_23_1 ?_)
 refine AOps.cons rfl rfl (AOp.loadF (.int .i64 v.Y) rfl rfl ty_3 rfl ?_)
 refine AOps.cons rfl rfl (AOp.negP rfl rfl (by omega) ?_)
 refine AOps.cons rfl rfl (AOp.max2 rfl rfl rfl ?_)
 refine AOps.cons rfl rfl (AOp.bin (.int .i64 (max v.X (-v.X) + (max v.Y (-v.Y)))) rfl rfl rfl (iadd (by omega)) ?_)
 refine AOps.cons rfl rfl (AOp.fieldAddrF rfl rfl fl_23_2 ?_)
 refine AOps.cons rfl rfl (AOp.loadF (.int .i64 v.Z) rfl rfl ty_3 rfl ?_)
 refine AOps.cons rfl rfl (AOp.fieldAddrF rfl rfl fl_23_2 ?_)
 refine AOps.cons rfl rfl (AOp.loadF (.int .i64 v.Z) rfl rfl ty_3 rfl ?_)
 refine AOps.cons rfl rfl (AOp.negP rfl rfl (by omega) ?_)
 refine AOps.cons rfl rfl (AOp.max2 rfl rfl rfl ?_)
 refine AOps.cons rfl rfl (AOp.bin (.int .i64 (max v.X (-v.X) + (max v.Y (-v.Y)) + (max v.Z (-v.Z)))) rfl rfl rfl (iadd (by omega)) ?_)
 refine AOps.cons rfl rfl (AOp.assign (.int .i64 (max v.X (-v.X) + (max v.Y (-v.Y)) + (max v.Z (-v.Z)))) rfl rfl ?_)
 refine AOps.nil ?_
 change AWP _ _ _ _ _ _
 refine AWP.ret ?_
 refine ⟨_, _, Ghost.refl, .inr rfl, _, Res.one rfl rfl, ?_, m9⟩
 have hR : R_rate_way v = max v.X (-v.X) + (max v.Y (-v.Y)) + (max v.Z (-v.Z)) := rfl
 exact (congrArg (fun r : Int => (.int .i64 r : AV)) hR).symm
def R_rate_Length (p : (List VT)) : Int × Bool :=
  if R_vec_Within (at_ p 0) 65536 = true then (if R_vec_Within (at_ p 1) 65536 = true then (if R_vec_Within (at_ p 2) 65536 = true then (if R_vec_Within (at_ p 3) 65536 = true then (0 + (R_rate_way (R_vec_Sub (at_ p 0) (at_ p 0))) + (R_rate_way (R_vec_Sub (at_ p 1) (at_ p 0))) + (R_rate_way (R_vec_Sub (at_ p 2) (at_ p 1))) + (R_rate_way (R_vec_Sub (at_ p 3) (at_ p 2))), true) else (0, false)) else (0, false)) else (0, false)) else (0, false)
theorem len_rng_rate (p : List VT) : 0 ≤ (R_rate_Length p).1 ∧ (R_rate_Length p).1 ≤ 4194304 := by
  unfold R_rate_Length
  split
  · rename_i h0
    split
    · rename_i h1
      split
      · rename_i h2
        split
        · rename_i h3
          have a := way_rng (inV_vec_Sub (withinvec_in h0) (withinvec_in h0))
          have b := way_rng (inV_vec_Sub (withinvec_in h1) (withinvec_in h0))
          have c := way_rng (inV_vec_Sub (withinvec_in h2) (withinvec_in h1))
          have d := way_rng (inV_vec_Sub (withinvec_in h3) (withinvec_in h2))
          simp only; omega
        · simp
      · simp
    · simp
  · simp
theorem c_rate_Length (p : (List VT)) (h_p : p.length = 4) : PC Tryd.prog 79 [.agg (p.flatMap eV)] (.tup [.int .i64 ((R_rate_Length p).1), .bool ((R_rate_Length p).2)]) := by
 intro H0
 refine ACalls.of_body' (n := 27) rfl rfl rfl rfl ?_
 have m0 := Mono.refl H0
 refine AWP.seq ?_
 refine AWP.region (l := [0, 1, 2]) rfl ?_
 refine AOps.cons rfl rfl (AOp.box (.agg (p.flatMap eV)) rfl rfl rfl ?_)
 intro i1 H2 n3 h4 k5
 have z6 := Mono.free m0 n3
 have m7 := Mono.new m0 n3 k5
 refine AOps.cons rfl rfl (AOp.assign (.int .i64 0) rfl rfl ?_)
 refine AOps.cons rfl rfl (AOp.assign (.bool false) rfl rfl ?_)
 refine AOps.nil ?_
 change AWP _ _ _ _ _ _
 refine AWP.seq ?_
 refine AWP.frzP 1 h4 z6 rfl m7 fun H8 m9 k10 => ?_
 refine AWP.region (l := [0]) rfl ?_
 refine AOps.cons rfl rfl (AOp.assign (.int .i64 0) rfl rfl ?_)
 refine AOps.nil ?_
 change AWP _ _ _ _ _ _
 refine AWP.seq ?_
 refine AWP.seq ?_
 refine AWP.region (l := [0, 1]) rfl ?_
 refine AOps.cons rfl rfl (AOp.loadF (.agg (p.flatMap eV)) rfl rfl ty_26 (ld_all (lenM eV_len h_p rfl)) ?_)
 refine AOps.cons rfl rfl (AOp.move (.int .i64 0) rfl rfl ?_)
 refine AOps.nil ?_
 change AWP _ _ _ _ _ _
 refine AWP.block ?_
 refine AWP.unroll 20 ?_
 refine UN.step ?_
 refine AWP.seq ?_
 refine AWP.region (l := [0]) rfl ?_
 refine AOps.cons rfl rfl (AOp.bin (.bool (decide (0 < 4))) rfl rfl rfl rfl ?_)
 refine AOps.nil ?_
 change AWP _ _ _ _ _ _
 refine AWP.seq ?_
 refine AWP.condT rfl (decide_eq_true (by decide)) ?_
 refine AWP.skip ?_
 change AWP _ _ _ _ _ _
 refine AWP.seq ?_
 refine AWP.block ?_
 refine AWP.seq ?_
 refine AWP.region (l := [0, 1, 2, 3, 4]) rfl ?_
 refine AOps.cons rfl rfl (AOp.move (.int .i64 0) rfl rfl ?_)
 refine AOps.cons rfl rfl (AOp.indexArr (.agg [.int .i64 ((at_ p 0).X), .int .i64 ((at_ p 0).Y), .int .i64 ((at_ p 0).Z)]) rfl rfl rfl ar_26 (by omega) (by omega) (ldM eV_len (i := 0) (by omega) (by have := h_p; omega)) ?_)
 refine AOps.cons rfl rfl (AOp.alloc rfl tz_23 ?_)
 intro i11 H12 n13 h14 k15
 have z16 := Mono.free m9 n13
 have m17 := Mono.new m9 n13 k15
 refine AOps.cons rfl rfl (AOp.assign (.int .i64 0) rfl rfl ?_)
 refine AOps.cons rfl rfl (AOp.store' (cells' := [.int .i64 ((at_ p 0).X), .int .i64 ((at_ p 0).Y), .int .i64 ((at_ p 0).Z)]) (.agg [.int .i64 ((at_ p 0).X), .int .i64 ((at_ p 0).Y), .int .i64 ((at_ p 0).Z)]) rfl rfl ts_23 h14 rfl rfl rfl rfl ?_)
 intro H18 h19 k20
 have m22 := Mono.set m17 z16 k20
 refine AOps.nil ?_
 change AWP _ _ _ _ _ _
 refine AWP.seq ?_
 refine AWP.seq ?_
 refine AWP.frzP 6 h19 z16 rfl m22 fun H23 m24 k25 => ?_
 refine AWP.region (l := [0, 1, 2]) rfl ?_
 refine AOps.cons rfl rfl (AOp.loadF (.agg [.int .i64 ((at_ p 0).X), .int .i64 ((at_ p 0).Y), .int .i64 ((at_ p 0).Z)]) rfl rfl ty_23 rfl ?_)
 refine AOps.cons rfl rfl (AOp.pcall («as» := [.agg [.int .i64 ((at_ p 0).X), .int .i64 ((at_ p 0).Y), .int .i64 ((at_ p 0).Z)], .int .i64 65536]) rfl rfl (rfl) tf_18 (c_vec_Within (at_ p 0) 65536 (by first | omega | assumption | (constructor <;> omega) | simp)) ?_)
 intro H26 m27
 have m28 := m24.trans m27
 refine AOps.cons rfl rfl (AOp.not rfl rfl ?_)
 refine AOps.nil ?_
 change AWP _ _ _ _ _ _
 rcases Bool.eq_false_or_eq_true (R_vec_Within (at_ p 0) 65536) with b29 | b29
 ·
  have iv30 : inV 65536 (at_ p 0) := withinvec_in b29
  refine AWP.condF rfl (nb b29) ?_
  refine AWP.skip ?_
  change AWP _ _ _ _ _ _
  have hw0 := way_rng (inV_le (inV_vec_Sub iv30 iv30) (by decide) : inV 131072 _)
  refine AWP.region_quiet mixed (by kernel_rfl) 11 [] rfl (by kernel_rfl) (Mono H26) (Mono.refl _) ?_
  refine QE.op rfl rfl (.inl ⟨rfl, fun f' H' hf hM => AOp.move (.int .i64 0) rfl ((hf 4 rfl).trans rfl) ⟨rfl, hM⟩⟩) ?_
  refine QE.op rfl rfl (.inl ⟨rfl, fun f' H' hf hM => AOp.loadF (.agg [.int .i64 ((at_ p 0).X), .int .i64 ((at_ p 0).Y), .int .i64 ((at_ p 0).Z)]) rfl ((hf 6 rfl).trans rfl) ty_23 rfl ⟨rfl, hM⟩⟩) ?_
  refine QE.op rfl rfl (.inl ⟨rfl, fun f' H' hf hM => AOp.move (.int .i64 0) rfl ((hf 5 rfl).trans rfl) ⟨rfl, hM⟩⟩) ?_
  refine QE.op rfl rfl (.inl ⟨rfl, fun f' H' hf hM => AOp.bin (.int .i64 (-1)) rfl ((hf 17 rfl).trans rfl) rfl (isub (by omega)) ⟨rfl, hM⟩⟩) ?_
  refine QE.op rfl rfl (.inl ⟨rfl, fun f' H' hf hM => AOp.max2 rfl ((hf 18 rfl).trans rfl) rfl ⟨rfl, hM⟩⟩) ?_
  refine QE.op rfl rfl (.inl ⟨rfl, fun f' H' hf hM => AOp.indexAddrFA rfl ((hf 1 rfl).trans rfl) ((hf 19 rfl).trans rfl) ar_26 (by omega) (by omega) ⟨rfl, hM⟩⟩) ?_
  refine QE.op rfl rfl (.inl ⟨rfl, fun f' H' hf hM => AOp.loadF (.agg [.int .i64 ((at_ p 0).X), .int .i64 ((at_ p 0).Y), .int .i64 ((at_ p 0).Z)]) rfl ((hf 20 rfl).trans rfl) ty_23 (ldM eV_len (i := 0) (by omega) (by have := h_p; omega)) ⟨rfl, hM⟩⟩) ?_
  refine QE.op rfl rfl (.inl ⟨rfl, fun f' H' hf hM => AOp.pcall («as» := [.agg [.int .i64 ((at_ p 0).X), .int .i64 ((at_ p 0).Y), .int .i64 ((at_ p 0).Z)], .agg [.int .i64 ((at_ p 0).X), .int .i64 ((at_ p 0).Y), .int .i64 ((at_ p 0).Z)]]) rfl rfl (lapp (lcons ((hf 16 rfl).trans rfl) (lcons ((hf 21 rfl).trans rfl) rfl)) rfl) tf_37 (c_vec_Sub (at_ p 0) (at_ p 0) (inV_le iv30 (by decide)) (inV_le iv30 (by decide))) fun H2 m2 => ⟨rfl, hM.trans m2⟩⟩) ?_
  refine QE.op rfl rfl (.inl ⟨rfl, fun f' H' hf hM => AOp.pcall («as» := [.agg [.int .i64 ((R_vec_Sub (at_ p 0) (at_ p 0)).X), .int .i64 ((R_vec_Sub (at_ p 0) (at_ p 0)).Y), .int .i64 ((R_vec_Sub (at_ p 0) (at_ p 0)).Z)]]) rfl rfl (lapp (lcons ((hf 22 rfl).trans rfl) rfl) rfl) tf_91 (c_rate_way (R_vec_Sub (at_ p 0) (at_ p 0)) (inV_le (inV_le (inV_vec_Sub iv30 iv30) (by decide) : inV 131072 _) (by decide))) fun H2 m2 => ⟨rfl, hM.trans m2⟩⟩) ?_
  refine QE.op rfl rfl (.inl ⟨rfl, fun f' H' hf hM => AOp.bin (.int .i64 (0 + (R_rate_way (R_vec_Sub (at_ p 0) (at_ p 0))))) rfl ((hf 15 rfl).trans rfl) ((hf 23 rfl).trans rfl) (iadd (by omega)) ⟨rfl, hM⟩⟩) ?_
  refine QE.op rfl rfl (.inl ⟨rfl, fun f' H' hf hM => AOp.assign (.int .i64 (0 + (R_rate_way (R_vec_Sub (at_ p 0) (at_ p 0))))) rfl ((hf 24 rfl).trans rfl) ⟨rfl, hM⟩⟩) ?_
  refine QE.done fun H31 m32 => ?_
  have m33 := m28.trans m32
  refine AOps.nil ?_
  change AWP _ _ _ _ _ _
  refine AWP.region (l := [0, 1]) rfl ?_
  refine AOps.cons rfl rfl (AOp.bin (.int .i64 1) rfl rfl rfl (iadd (by omega)) ?_)
  refine AOps.cons rfl rfl (AOp.move (.int .i64 1) rfl rfl ?_)
  refine AOps.nil ?_
  refine UN.step ?_
  refine AWP.seq ?_
  refine AWP.region (l := [0]) rfl ?_
  refine AOps.cons rfl rfl (AOp.bin (.bool (decide (1 < 4))) rfl rfl rfl rfl ?_)
  refine AOps.nil ?_
  change AWP _ _ _ _ _ _
  refine AWP.seq ?_
  refine AWP.condT rfl (decide_eq_true (by decide)) ?_
  refine AWP.skip ?_
  change AWP _ _ _ _ _ _
  refine AWP.seq ?_
  refine AWP.block ?_
  refine AWP.seq ?_
  refine AWP.region (l := [0, 1, 2, 3, 4]) rfl ?_
  refine AOps.cons rfl rfl (AOp.move (.int .i64 1) rfl rfl ?_)
  refine AOps.cons rfl rfl (AOp.indexArr (.agg [.int .i64 ((at_ p 1).X), .int .i64 ((at_ p 1).Y), .int .i64 ((at_ p 1).Z)]) rfl rfl rfl ar_26 (by omega) (by omega) (ldM eV_len (i := 1) (by omega) (by have := h_p; omega)) ?_)
  refine AOps.cons rfl rfl (AOp.alloc rfl tz_23 ?_)
  intro i34 H35 n36 h37 k38
  have z39 := Mono.free m33 n36
  have m40 := Mono.new m33 n36 k38
  refine AOps.cons rfl rfl (AOp.assign (.int .i64 1) rfl rfl ?_)
  refine AOps.cons rfl rfl (AOp.store' (cells' := [.int .i64 ((at_ p 1).X), .int .i64 ((at_ p 1).Y), .int .i64 ((at_ p 1).Z)]) (.agg [.int .i64 ((at_ p 1).X), .int .i64 ((at_ p 1).Y), .int .i64 ((at_ p 1).Z)]) rfl rfl ts_23 h37 rfl rfl rfl rfl ?_)
  intro H41 h42 k43
  have m45 := Mono.set m40 z39 k43
  refine AOps.nil ?_
  change AWP _ _ _ _ _ _
  refine AWP.seq ?_
  refine AWP.seq ?_
  refine AWP.frzP 6 h42 z39 rfl m45 fun H46 m47 k48 => ?_
  refine AWP.region (l := [0, 1, 2]) rfl ?_
  refine AOps.cons rfl rfl (AOp.loadF (.agg [.int .i64 ((at_ p 1).X), .int .i64 ((at_ p 1).Y), .int .i64 ((at_ p 1).Z)]) rfl rfl ty_23 rfl ?_)
  refine AOps.cons rfl rfl (AOp.pcall («as» := [.agg [.int .i64 ((at_ p 1).X), .int .i64 ((at_ p 1).Y), .int .i64 ((at_ p 1).Z)], .int .i64 65536]) rfl rfl (rfl) tf_18 (c_vec_Within (at_ p 1) 65536 (by first | omega | assumption | (constructor <;> omega) | simp)) ?_)
  intro H49 m50
  have m51 := m47.trans m50
  refine AOps.cons rfl rfl (AOp.not rfl rfl ?_)
  refine AOps.nil ?_
  change AWP _ _ _ _ _ _
  rcases Bool.eq_false_or_eq_true (R_vec_Within (at_ p 1) 65536) with b52 | b52
  ·
   have iv53 : inV 65536 (at_ p 1) := withinvec_in b52
   refine AWP.condF rfl (nb b52) ?_
   refine AWP.skip ?_
   change AWP _ _ _ _ _ _
   have hw1 := way_rng (inV_le (inV_vec_Sub iv53 iv30) (by decide) : inV 131072 _)
   refine AWP.region_quiet mixed (by kernel_rfl) 11 [] rfl (by kernel_rfl) (Mono H49) (Mono.refl _) ?_
   refine QE.op rfl rfl (.inl ⟨rfl, fun f' H' hf hM => AOp.move (.int .i64 (0 + (R_rate_way (R_vec_Sub (at_ p 0) (at_ p 0))))) rfl ((hf 4 rfl).trans rfl) ⟨rfl, hM⟩⟩) ?_
   refine QE.op rfl rfl (.inl ⟨rfl, fun f' H' hf hM => AOp.loadF (.agg [.int .i64 ((at_ p 1).X), .int .i64 ((at_ p 1).Y), .int .i64 ((at_ p 1).Z)]) rfl ((hf 6 rfl).trans rfl) ty_23 rfl ⟨rfl, hM⟩⟩) ?_
   refine QE.op rfl rfl (.inl ⟨rfl, fun f' H' hf hM => AOp.move (.int .i64 1) rfl ((hf 5 rfl).trans rfl) ⟨rfl, hM⟩⟩) ?_
   refine QE.op rfl rfl (.inl ⟨rfl, fun f' H' hf hM => AOp.bin (.int .i64 0) rfl ((hf 17 rfl).trans rfl) rfl (isub (by omega)) ⟨rfl, hM⟩⟩) ?_
   refine QE.op rfl rfl (.inl ⟨rfl, fun f' H' hf hM => AOp.max2 rfl ((hf 18 rfl).trans rfl) rfl ⟨rfl, hM⟩⟩) ?_
   refine QE.op rfl rfl (.inl ⟨rfl, fun f' H' hf hM => AOp.indexAddrFA rfl ((hf 1 rfl).trans rfl) ((hf 19 rfl).trans rfl) ar_26 (by omega) (by omega) ⟨rfl, hM⟩⟩) ?_
   refine QE.op rfl rfl (.inl ⟨rfl, fun f' H' hf hM => AOp.loadF (.agg [.int .i64 ((at_ p 0).X), .int .i64 ((at_ p 0).Y), .int .i64 ((at_ p 0).Z)]) rfl ((hf 20 rfl).trans rfl) ty_23 (ldM eV_len (i := 0) (by omega) (by have := h_p; omega)) ⟨rfl, hM⟩⟩) ?_
   refine QE.op rfl rfl (.inl ⟨rfl, fun f' H' hf hM => AOp.pcall («as» := [.agg [.int .i64 ((at_ p 1).X), .int .i64 ((at_ p 1).Y), .int .i64 ((at_ p 1).Z)], .agg [.int .i64 ((at_ p 0).X), .int .i64 ((at_ p 0).Y), .int .i64 ((at_ p 0).Z)]]) rfl rfl (lapp (lcons ((hf 16 rfl).trans rfl) (lcons ((hf 21 rfl).trans rfl) rfl)) rfl) tf_37 (c_vec_Sub (at_ p 1) (at_ p 0) (inV_le iv53 (by decide)) (inV_le iv30 (by decide))) fun H2 m2 => ⟨rfl, hM.trans m2⟩⟩) ?_
   refine QE.op rfl rfl (.inl ⟨rfl, fun f' H' hf hM => AOp.pcall («as» := [.agg [.int .i64 ((R_vec_Sub (at_ p 1) (at_ p 0)).X), .int .i64 ((R_vec_Sub (at_ p 1) (at_ p 0)).Y), .int .i64 ((R_vec_Sub (at_ p 1) (at_ p 0)).Z)]]) rfl rfl (lapp (lcons ((hf 22 rfl).trans rfl) rfl) rfl) tf_91 (c_rate_way (R_vec_Sub (at_ p 1) (at_ p 0)) (inV_le (inV_le (inV_vec_Sub iv53 iv30) (by decide) : inV 131072 _) (by decide))) fun H2 m2 => ⟨rfl, hM.trans m2⟩⟩) ?_
   refine QE.op rfl rfl (.inl ⟨rfl, fun f' H' hf hM => AOp.bin (.int .i64 (0 + (R_rate_way (R_vec_Sub (at_ p 0) (at_ p 0))) + (R_rate_way (R_vec_Sub (at_ p 1) (at_ p 0))))) rfl ((hf 15 rfl).trans rfl) ((hf 23 rfl).trans rfl) (iadd (by omega)) ⟨rfl, hM⟩⟩) ?_
   refine QE.op rfl rfl (.inl ⟨rfl, fun f' H' hf hM => AOp.assign (.int .i64 (0 + (R_rate_way (R_vec_Sub (at_ p 0) (at_ p 0))) + (R_rate_way (R_vec_Sub (at_ p 1) (at_ p 0))))) rfl ((hf 24 rfl).trans rfl) ⟨rfl, hM⟩⟩) ?_
   refine QE.done fun H54 m55 => ?_
   have m56 := m51.trans m55
   refine AOps.nil ?_
   change AWP _ _ _ _ _ _
   refine AWP.region (l := [0, 1]) rfl ?_
   refine AOps.cons rfl rfl (AOp.bin (.int .i64 2) rfl rfl rfl (iadd (by omega)) ?_)
   refine AOps.cons rfl rfl (AOp.move (.int .i64 2) rfl rfl ?_)
   refine AOps.nil ?_
   refine UN.step ?_
   refine AWP.seq ?_
   refine AWP.region (l := [0]) rfl ?_
   refine AOps.cons rfl rfl (AOp.bin (.bool (decide (2 < 4))) rfl rfl rfl rfl ?_)
   refine AOps.nil ?_
   change AWP _ _ _ _ _ _
   refine AWP.seq ?_
   refine AWP.condT rfl (decide_eq_true (by decide)) ?_
   refine AWP.skip ?_
   change AWP _ _ _ _ _ _
   refine AWP.seq ?_
   refine AWP.block ?_
   refine AWP.seq ?_
   refine AWP.region (l := [0, 1, 2, 3, 4]) rfl ?_
   refine AOps.cons rfl rfl (AOp.move (.int .i64 2) rfl rfl ?_)
   refine AOps.cons rfl rfl (AOp.indexArr (.agg [.int .i64 ((at_ p 2).X), .int .i64 ((at_ p 2).Y), .int .i64 ((at_ p 2).Z)]) rfl rfl rfl ar_26 (by omega) (by omega) (ldM eV_len (i := 2) (by omega) (by have := h_p; omega)) ?_)
   refine AOps.cons rfl rfl (AOp.alloc rfl tz_23 ?_)
   intro i57 H58 n59 h60 k61
   have z62 := Mono.free m56 n59
   have m63 := Mono.new m56 n59 k61
   refine AOps.cons rfl rfl (AOp.assign (.int .i64 2) rfl rfl ?_)
   refine AOps.cons rfl rfl (AOp.store' (cells' := [.int .i64 ((at_ p 2).X), .int .i64 ((at_ p 2).Y), .int .i64 ((at_ p 2).Z)]) (.agg [.int .i64 ((at_ p 2).X), .int .i64 ((at_ p 2).Y), .int .i64 ((at_ p 2).Z)]) rfl rfl ts_23 h60 rfl rfl rfl rfl ?_)
   intro H64 h65 k66
   have m68 := Mono.set m63 z62 k66
   refine AOps.nil ?_
   change AWP _ _ _ _ _ _
   refine AWP.seq ?_
   refine AWP.seq ?_
   refine AWP.frzP 6 h65 z62 rfl m68 fun H69 m70 k71 => ?_
   refine AWP.region (l := [0, 1, 2]) rfl ?_
   refine AOps.cons rfl rfl (AOp.loadF (.agg [.int .i64 ((at_ p 2).X), .int .i64 ((at_ p 2).Y), .int .i64 ((at_ p 2).Z)]) rfl rfl ty_23 rfl ?_)
   refine AOps.cons rfl rfl (AOp.pcall («as» := [.agg [.int .i64 ((at_ p 2).X), .int .i64 ((at_ p 2).Y), .int .i64 ((at_ p 2).Z)], .int .i64 65536]) rfl rfl (rfl) tf_18 (c_vec_Within (at_ p 2) 65536 (by first | omega | assumption | (constructor <;> omega) | simp)) ?_)
   intro H72 m73
   have m74 := m70.trans m73
   refine AOps.cons rfl rfl (AOp.not rfl rfl ?_)
   refine AOps.nil ?_
   change AWP _ _ _ _ _ _
   rcases Bool.eq_false_or_eq_true (R_vec_Within (at_ p 2) 65536) with b75 | b75
   ·
    have iv76 : inV 65536 (at_ p 2) := withinvec_in b75
    refine AWP.condF rfl (nb b75) ?_
    refine AWP.skip ?_
    change AWP _ _ _ _ _ _
    have hw2 := way_rng (inV_le (inV_vec_Sub iv76 iv53) (by decide) : inV 131072 _)
    refine AWP.region_quiet mixed (by kernel_rfl) 11 [] rfl (by kernel_rfl) (Mono H72) (Mono.refl _) ?_
    refine QE.op rfl rfl (.inl ⟨rfl, fun f' H' hf hM => AOp.move (.int .i64 (0 + (R_rate_way (R_vec_Sub (at_ p 0) (at_ p 0))) + (R_rate_way (R_vec_Sub (at_ p 1) (at_ p 0))))) rfl ((hf 4 rfl).trans rfl) ⟨rfl, hM⟩⟩) ?_
    refine QE.op rfl rfl (.inl ⟨rfl, fun f' H' hf hM => AOp.loadF (.agg [.int .i64 ((at_ p 2).X), .int .i64 ((at_ p 2).Y), .int .i64 ((at_ p 2).Z)]) rfl ((hf 6 rfl).trans rfl) ty_23 rfl ⟨rfl, hM⟩⟩) ?_
    refine QE.op rfl rfl (.inl ⟨rfl, fun f' H' hf hM => AOp.move (.int .i64 2) rfl ((hf 5 rfl).trans rfl) ⟨rfl, hM⟩⟩) ?_
    refine QE.op rfl rfl (.inl ⟨rfl, fun f' H' hf hM => AOp.bin (.int .i64 1) rfl ((hf 17 rfl).trans rfl) rfl (isub (by omega)) ⟨rfl, hM⟩⟩) ?_
    refine QE.op rfl rfl (.inl ⟨rfl, fun f' H' hf hM => AOp.max2 rfl ((hf 18 rfl).trans rfl) rfl ⟨rfl, hM⟩⟩) ?_
    refine QE.op rfl rfl (.inl ⟨rfl, fun f' H' hf hM => AOp.indexAddrFA rfl ((hf 1 rfl).trans rfl) ((hf 19 rfl).trans rfl) ar_26 (by omega) (by omega) ⟨rfl, hM⟩⟩) ?_
    refine QE.op rfl rfl (.inl ⟨rfl, fun f' H' hf hM => AOp.loadF (.agg [.int .i64 ((at_ p 1).X), .int .i64 ((at_ p 1).Y), .int .i64 ((at_ p 1).Z)]) rfl ((hf 20 rfl).trans rfl) ty_23 (ldM eV_len (i := 1) (by omega) (by have := h_p; omega)) ⟨rfl, hM⟩⟩) ?_
    refine QE.op rfl rfl (.inl ⟨rfl, fun f' H' hf hM => AOp.pcall («as» := [.agg [.int .i64 ((at_ p 2).X), .int .i64 ((at_ p 2).Y), .int .i64 ((at_ p 2).Z)], .agg [.int .i64 ((at_ p 1).X), .int .i64 ((at_ p 1).Y), .int .i64 ((at_ p 1).Z)]]) rfl rfl (lapp (lcons ((hf 16 rfl).trans rfl) (lcons ((hf 21 rfl).trans rfl) rfl)) rfl) tf_37 (c_vec_Sub (at_ p 2) (at_ p 1) (inV_le iv76 (by decide)) (inV_le iv53 (by decide))) fun H2 m2 => ⟨rfl, hM.trans m2⟩⟩) ?_
    refine QE.op rfl rfl (.inl ⟨rfl, fun f' H' hf hM => AOp.pcall («as» := [.agg [.int .i64 ((R_vec_Sub (at_ p 2) (at_ p 1)).X), .int .i64 ((R_vec_Sub (at_ p 2) (at_ p 1)).Y), .int .i64 ((R_vec_Sub (at_ p 2) (at_ p 1)).Z)]]) rfl rfl (lapp (lcons ((hf 22 rfl).trans rfl) rfl) rfl) tf_91 (c_rate_way (R_vec_Sub (at_ p 2) (at_ p 1)) (inV_le (inV_le (inV_vec_Sub iv76 iv53) (by decide) : inV 131072 _) (by decide))) fun H2 m2 => ⟨rfl, hM.trans m2⟩⟩) ?_
    refine QE.op rfl rfl (.inl ⟨rfl, fun f' H' hf hM => AOp.bin (.int .i64 (0 + (R_rate_way (R_vec_Sub (at_ p 0) (at_ p 0))) + (R_rate_way (R_vec_Sub (at_ p 1) (at_ p 0))) + (R_rate_way (R_vec_Sub (at_ p 2) (at_ p 1))))) rfl ((hf 15 rfl).trans rfl) ((hf 23 rfl).trans rfl) (iadd (by omega)) ⟨rfl, hM⟩⟩) ?_
    refine QE.op rfl rfl (.inl ⟨rfl, fun f' H' hf hM => AOp.assign (.int .i64 (0 + (R_rate_way (R_vec_Sub (at_ p 0) (at_ p 0))) + (R_rate_way (R_vec_Sub (at_ p 1) (at_ p 0))) + (R_rate_way (R_vec_Sub (at_ p 2) (at_ p 1))))) rfl ((hf 24 rfl).trans rfl) ⟨rfl, hM⟩⟩) ?_
    refine QE.done fun H77 m78 => ?_
    have m79 := m74.trans m78
    refine AOps.nil ?_
    change AWP _ _ _ _ _ _
    refine AWP.region (l := [0, 1]) rfl ?_
    refine AOps.cons rfl rfl (AOp.bin (.int .i64 3) rfl rfl rfl (iadd (by omega)) ?_)
    refine AOps.cons rfl rfl (AOp.move (.int .i64 3) rfl rfl ?_)
    refine AOps.nil ?_
    refine UN.step ?_
    refine AWP.seq ?_
    refine AWP.region (l := [0]) rfl ?_
    refine AOps.cons rfl rfl (AOp.bin (.bool (decide (3 < 4))) rfl rfl rfl rfl ?_)
    refine AOps.nil ?_
    change AWP _ _ _ _ _ _
    refine AWP.seq ?_
    refine AWP.condT rfl (decide_eq_true (by decide)) ?_
    refine AWP.skip ?_
    change AWP _ _ _ _ _ _
    refine AWP.seq ?_
    refine AWP.block ?_
    refine AWP.seq ?_
    refine AWP.region (l := [0, 1, 2, 3, 4]) rfl ?_
    refine AOps.cons rfl rfl (AOp.move (.int .i64 3) rfl rfl ?_)
    refine AOps.cons rfl rfl (AOp.indexArr (.agg [.int .i64 ((at_ p 3).X), .int .i64 ((at_ p 3).Y), .int .i64 ((at_ p 3).Z)]) rfl rfl rfl ar_26 (by omega) (by omega) (ldM eV_len (i := 3) (by omega) (by have := h_p; omega)) ?_)
    refine AOps.cons rfl rfl (AOp.alloc rfl tz_23 ?_)
    intro i80 H81 n82 h83 k84
    have z85 := Mono.free m79 n82
    have m86 := Mono.new m79 n82 k84
    refine AOps.cons rfl rfl (AOp.assign (.int .i64 3) rfl rfl ?_)
    refine AOps.cons rfl rfl (AOp.store' (cells' := [.int .i64 ((at_ p 3).X), .int .i64 ((at_ p 3).Y), .int .i64 ((at_ p 3).Z)]) (.agg [.int .i64 ((at_ p 3).X), .int .i64 ((at_ p 3).Y), .int .i64 ((at_ p 3).Z)]) rfl rfl ts_23 h83 rfl rfl rfl rfl ?_)
    intro H87 h88 k89
    have m91 := Mono.set m86 z85 k89
    refine AOps.nil ?_
    change AWP _ _ _ _ _ _
    refine AWP.seq ?_
    refine AWP.seq ?_
    refine AWP.frzP 6 h88 z85 rfl m91 fun H92 m93 k94 => ?_
    refine AWP.region (l := [0, 1, 2]) rfl ?_
    refine AOps.cons rfl rfl (AOp.loadF (.agg [.int .i64 ((at_ p 3).X), .int .i64 ((at_ p 3).Y), .int .i64 ((at_ p 3).Z)]) rfl rfl ty_23 rfl ?_)
    refine AOps.cons rfl rfl (AOp.pcall («as» := [.agg [.int .i64 ((at_ p 3).X), .int .i64 ((at_ p 3).Y), .int .i64 ((at_ p 3).Z)], .int .i64 65536]) rfl rfl (rfl) tf_18 (c_vec_Within (at_ p 3) 65536 (by first | omega | assumption | (constructor <;> omega) | simp)) ?_)
    intro H95 m96
    have m97 := m93.trans m96
    refine AOps.cons rfl rfl (AOp.not rfl rfl ?_)
    refine AOps.nil ?_
    change AWP _ _ _ _ _ _
    rcases Bool.eq_false_or_eq_true (R_vec_Within (at_ p 3) 65536) with b98 | b98
    ·
     have iv99 : inV 65536 (at_ p 3) := withinvec_in b98
     refine AWP.condF rfl (nb b98) ?_
     refine AWP.skip ?_
     change AWP _ _ _ _ _ _
     have hw3 := way_rng (inV_le (inV_vec_Sub iv99 iv76) (by decide) : inV 131072 _)
     refine AWP.region_quiet mixed (by kernel_rfl) 11 [] rfl (by kernel_rfl) (Mono H95) (Mono.refl _) ?_
     refine QE.op rfl rfl (.inl ⟨rfl, fun f' H' hf hM => AOp.move (.int .i64 (0 + (R_rate_way (R_vec_Sub (at_ p 0) (at_ p 0))) + (R_rate_way (R_vec_Sub (at_ p 1) (at_ p 0))) + (R_rate_way (R_vec_Sub (at_ p 2) (at_ p 1))))) rfl ((hf 4 rfl).trans rfl) ⟨rfl, hM⟩⟩) ?_
     refine QE.op rfl rfl (.inl ⟨rfl, fun f' H' hf hM => AOp.loadF (.agg [.int .i64 ((at_ p 3).X), .int .i64 ((at_ p 3).Y), .int .i64 ((at_ p 3).Z)]) rfl ((hf 6 rfl).trans rfl) ty_23 rfl ⟨rfl, hM⟩⟩) ?_
     refine QE.op rfl rfl (.inl ⟨rfl, fun f' H' hf hM => AOp.move (.int .i64 3) rfl ((hf 5 rfl).trans rfl) ⟨rfl, hM⟩⟩) ?_
     refine QE.op rfl rfl (.inl ⟨rfl, fun f' H' hf hM => AOp.bin (.int .i64 2) rfl ((hf 17 rfl).trans rfl) rfl (isub (by omega)) ⟨rfl, hM⟩⟩) ?_
     refine QE.op rfl rfl (.inl ⟨rfl, fun f' H' hf hM => AOp.max2 rfl ((hf 18 rfl).trans rfl) rfl ⟨rfl, hM⟩⟩) ?_
     refine QE.op rfl rfl (.inl ⟨rfl, fun f' H' hf hM => AOp.indexAddrFA rfl ((hf 1 rfl).trans rfl) ((hf 19 rfl).trans rfl) ar_26 (by omega) (by omega) ⟨rfl, hM⟩⟩) ?_
     refine QE.op rfl rfl (.inl ⟨rfl, fun f' H' hf hM => AOp.loadF (.agg [.int .i64 ((at_ p 2).X), .int .i64 ((at_ p 2).Y), .int .i64 ((at_ p 2).Z)]) rfl ((hf 20 rfl).trans rfl) ty_23 (ldM eV_len (i := 2) (by omega) (by have := h_p; omega)) ⟨rfl, hM⟩⟩) ?_
     refine QE.op rfl rfl (.inl ⟨rfl, fun f' H' hf hM => AOp.pcall («as» := [.agg [.int .i64 ((at_ p 3).X), .int .i64 ((at_ p 3).Y), .int .i64 ((at_ p 3).Z)], .agg [.int .i64 ((at_ p 2).X), .int .i64 ((at_ p 2).Y), .int .i64 ((at_ p 2).Z)]]) rfl rfl (lapp (lcons ((hf 16 rfl).trans rfl) (lcons ((hf 21 rfl).trans rfl) rfl)) rfl) tf_37 (c_vec_Sub (at_ p 3) (at_ p 2) (inV_le iv99 (by decide)) (inV_le iv76 (by decide))) fun H2 m2 => ⟨rfl, hM.trans m2⟩⟩) ?_
     refine QE.op rfl rfl (.inl ⟨rfl, fun f' H' hf hM => AOp.pcall («as» := [.agg [.int .i64 ((R_vec_Sub (at_ p 3) (at_ p 2)).X), .int .i64 ((R_vec_Sub (at_ p 3) (at_ p 2)).Y), .int .i64 ((R_vec_Sub (at_ p 3) (at_ p 2)).Z)]]) rfl rfl (lapp (lcons ((hf 22 rfl).trans rfl) rfl) rfl) tf_91 (c_rate_way (R_vec_Sub (at_ p 3) (at_ p 2)) (inV_le (inV_le (inV_vec_Sub iv99 iv76) (by decide) : inV 131072 _) (by decide))) fun H2 m2 => ⟨rfl, hM.trans m2⟩⟩) ?_
     refine QE.op rfl rfl (.inl ⟨rfl, fun f' H' hf hM => AOp.bin (.int .i64 (0 + (R_rate_way (R_vec_Sub (at_ p 0) (at_ p 0))) + (R_rate_way (R_vec_Sub (at_ p 1) (at_ p 0))) + (R_rate_way (R_vec_Sub (at_ p 2) (at_ p 1))) + (R_rate_way (R_vec_Sub (at_ p 3) (at_ p 2))))) rfl ((hf 15 rfl).trans rfl) ((hf 23 rfl).trans rfl) (iadd (by omega)) ⟨rfl, hM⟩⟩) ?_
     refine QE.op rfl rfl (.inl ⟨rfl, fun f' H' hf hM => AOp.assign (.int .i64 (0 + (R_rate_way (R_vec_Sub (at_ p 0) (at_ p 0))) + (R_rate_way (R_vec_Sub (at_ p 1) (at_ p 0))) + (R_rate_way (R_vec_Sub (at_ p 2) (at_ p 1))) + (R_rate_way (R_vec_Sub (at_ p 3) (at_ p 2))))) rfl ((hf 24 rfl).trans rfl) ⟨rfl, hM⟩⟩) ?_
     refine QE.done fun H100 m101 => ?_
     have m102 := m97.trans m101
     refine AOps.nil ?_
     change AWP _ _ _ _ _ _
     refine AWP.region (l := [0, 1]) rfl ?_
     refine AOps.cons rfl rfl (AOp.bin (.int .i64 4) rfl rfl rfl (iadd (by omega)) ?_)
     refine AOps.cons rfl rfl (AOp.move (.int .i64 4) rfl rfl ?_)
     refine AOps.nil ?_
     refine UN.step ?_
     refine AWP.seq ?_
     refine AWP.region (l := [0]) rfl ?_
     refine AOps.cons rfl rfl (AOp.bin (.bool (decide (4 < 4))) rfl rfl rfl rfl ?_)
     refine AOps.nil ?_
     change AWP _ _ _ _ _ _
     refine AWP.seq ?_
     refine AWP.condF rfl (decide_eq_false (by decide)) ?_
     refine AWP.exit ?_
     change AWP _ _ _ _ _ _
     refine AWP.seq ?_
     refine AWP.region (l := [0, 1, 2]) rfl ?_
     refine AOps.cons rfl rfl (AOp.move (.int .i64 (0 + (R_rate_way (R_vec_Sub (at_ p 0) (at_ p 0))) + (R_rate_way (R_vec_Sub (at_ p 1) (at_ p 0))) + (R_rate_way (R_vec_Sub (at_ p 2) (at_ p 1))) + (R_rate_way (R_vec_Sub (at_ p 3) (at_ p 2))))) rfl rfl ?_)
     refine AOps.cons rfl rfl (AOp.assign (.int .i64 (0 + (R_rate_way (R_vec_Sub (at_ p 0) (at_ p 0))) + (R_rate_way (R_vec_Sub (at_ p 1) (at_ p 0))) + (R_rate_way (R_vec_Sub (at_ p 2) (at_ p 1))) + (R_rate_way (R_vec_Sub (at_ p 3) (at_ p 2))))) rfl rfl ?_)
     refine AOps.cons rfl rfl (AOp.assign (.bool true) rfl rfl ?_)
     refine AOps.nil ?_
     change AWP _ _ _ _ _ _
     refine AWP.ret ?_
     refine ⟨_, _, Ghost.refl, .inr rfl, _, Res.two rfl rfl rfl, ?_, m102⟩
     have hR : R_rate_Length p = (0 + (R_rate_way (R_vec_Sub (at_ p 0) (at_ p 0))) + (R_rate_way (R_vec_Sub (at_ p 1) (at_ p 0))) + (R_rate_way (R_vec_Sub (at_ p 2) (at_ p 1))) + (R_rate_way (R_vec_Sub (at_ p 3) (at_ p 2))), true) := by unfold R_rate_Length; rw [if_pos b29, if_pos b52, if_pos b75, if_pos b98]
     exact (congrArg (fun r : Int × Bool => (.tup [.int .i64 r.1, .bool r.2] : AV)) hR).symm
    ·
     refine AWP.condT rfl (nb b98) ?_
     refine AWP.seq ?_
     refine AWP.region (l := [0, 1]) rfl ?_
     refine AOps.cons rfl rfl (AOp.assign (.int .i64 0) rfl rfl ?_)
     refine AOps.cons rfl rfl (AOp.assign (.bool false) rfl rfl ?_)
     refine AOps.nil ?_
     change AWP _ _ _ _ _ _
     refine AWP.ret ?_
     refine ⟨_, _, Ghost.refl, .inr rfl, _, Res.two rfl rfl rfl, ?_, m97⟩
     have hR : R_rate_Length p = (0, false) := by unfold R_rate_Length; rw [if_pos b29, if_pos b52, if_pos b75, if_neg (ff b98)]
     exact (congrArg (fun r : Int × Bool => (.tup [.int .i64 r.1, .bool r.2] : AV)) hR).symm
   ·
    refine AWP.condT rfl (nb b75) ?_
    refine AWP.seq ?_
    refine AWP.region (l := [0, 1]) rfl ?_
    refine AOps.cons rfl rfl (AOp.assign (.int .i64 0) rfl rfl ?_)
    refine AOps.cons rfl rfl (AOp.assign (.bool false) rfl rfl ?_)
    refine AOps.nil ?_
    change AWP _ _ _ _ _ _
    refine AWP.ret ?_
    refine ⟨_, _, Ghost.refl, .inr rfl, _, Res.two rfl rfl rfl, ?_, m74⟩
    have hR : R_rate_Length p = (0, false) := by unfold R_rate_Length; rw [if_pos b29, if_pos b52, if_neg (ff b75)]
    exact (congrArg (fun r : Int × Bool => (.tup [.int .i64 r.1, .bool r.2] : AV)) hR).symm
  ·
   refine AWP.condT rfl (nb b52) ?_
   refine AWP.seq ?_
   refine AWP.region (l := [0, 1]) rfl ?_
   refine AOps.cons rfl rfl (AOp.assign (.int .i64 0) rfl rfl ?_)
   refine AOps.cons rfl rfl (AOp.assign (.bool false) rfl rfl ?_)
   refine AOps.nil ?_
   change AWP _ _ _ _ _ _
   refine AWP.ret ?_
   refine ⟨_, _, Ghost.refl, .inr rfl, _, Res.two rfl rfl rfl, ?_, m51⟩
   have hR : R_rate_Length p = (0, false) := by unfold R_rate_Length; rw [if_pos b29, if_neg (ff b52)]
   exact (congrArg (fun r : Int × Bool => (.tup [.int .i64 r.1, .bool r.2] : AV)) hR).symm
 ·
  refine AWP.condT rfl (nb b29) ?_
  refine AWP.seq ?_
  refine AWP.region (l := [0, 1]) rfl ?_
  refine AOps.cons rfl rfl (AOp.assign (.int .i64 0) rfl rfl ?_)
  refine AOps.cons rfl rfl (AOp.assign (.bool false) rfl rfl ?_)
  refine AOps.nil ?_
  change AWP _ _ _ _ _ _
  refine AWP.ret ?_
  refine ⟨_, _, Ghost.refl, .inr rfl, _, Res.two rfl rfl rfl, ?_, m28⟩
  have hR : R_rate_Length p = (0, false) := by unfold R_rate_Length; rw [if_neg (ff b29)]
  exact (congrArg (fun r : Int × Bool => (.tup [.int .i64 r.1, .bool r.2] : AV)) hR).symm
def R_rate_Edge (p : (List VT)) (u : Int) : Int :=
  if (R_rate_Length p).2 = true then (if u < 1 then 0 else min (1 + (((R_rate_Length p).1) / u)) 16) else 0
theorem c_rate_Edge (p : (List VT)) (h_p : p.length = 4) (u : Int) : PC Tryd.prog 46 [.agg (p.flatMap eV), .int .i64 u] (.int .i64 (R_rate_Edge p u)) := by
 intro H0
 refine ACalls.of_body' (n := 23) rfl rfl rfl rfl ?_
 have m0 := Mono.refl H0
 refine AWP.seq ?_
 refine AWP.region (l := [0, 1]) rfl ?_
 refine AOps.cons rfl rfl (AOp.box (.agg (p.flatMap eV)) rfl rfl rfl ?_)
 intro i1 H2 n3 h4 k5
 have z6 := Mono.free m0 n3
 have m7 := Mono.new m0 n3 k5
 refine AOps.cons rfl rfl (AOp.assign (.int .i64 0) rfl rfl ?_)
 refine AOps.nil ?_
 change AWP _ _ _ _ _ _
 refine AWP.seq ?_
 refine AWP.frzP 2 h4 z6 rfl m7 fun H8 m9 k10 => ?_
 refine AWP.region (l := [0, 1, 2, 3, 4, 5, 6]) rfl ?_
 refine AOps.cons rfl rfl (AOp.loadF (.agg (p.flatMap eV)) rfl rfl ty_26 (ld_all (lenM eV_len h_p rfl)) ?_)
 refine AOps.cons rfl rfl (AOp.pcall («as» := [.agg (p.flatMap eV)]) rfl rfl (rfl) tf_79 (c_rate_Length p h_p) ?_)
 intro H11 m12
 have m13 := m9.trans m12
 refine AOps.cons rfl rfl (AOp.move (.tup [.int .i64 ((R_rate_Length p).1), .bool ((R_rate_Length p).2)]) rfl rfl ?_)
 refine AOps.cons rfl rfl (AOp.extract (.int .i64 ((R_rate_Length p).1)) rfl rfl rfl ?_)
 refine AOps.cons rfl rfl (AOp.extract (.bool ((R_rate_Length p).2)) rfl rfl rfl ?_)
 refine AOps.cons rfl rfl (AOp.assign (.int .i64 ((R_rate_Length p).1)) rfl rfl ?_)
 refine AOps.cons rfl rfl (AOp.assign (.bool ((R_rate_Length p).2)) rfl rfl ?_)
 refine AOps.nil ?_
 change AWP _ _ _ _ _ _
 refine AWP.seq ?_
 refine AWP.seq ?_
 refine AWP.region (l := [0, 1, 2, 3, 4, 5]) rfl ?_
 refine AOps.cons rfl rfl (AOp.move (.bool ((R_rate_Length p).2)) rfl rfl ?_)
 refine AOps.cons rfl rfl (AOp.not rfl rfl ?_)
 refine AOps.cons rfl rfl (AOp.move (.bool (!((R_rate_Length p).2))) rfl rfl ?_)
 rcases Bool.eq_false_or_eq_true ((R_rate_Length p).2) with b14 | b14
 ·
  refine AOps.yes rfl rfl rfl rfl rfl rfl rfl (nb b14) (AOp.move (.int .i64 u) rfl rfl ?_)
  refine AOps.yes rfl rfl rfl rfl rfl rfl rfl (nb b14) (AOp.bin (.bool (decide (u < 1))) rfl rfl rfl rfl ?_)
  refine AOps.cons rfl rfl (AOp.pickF (.bool (decide (u < 1))) rfl rfl (nb b14) rfl ?_)
  refine AOps.nil ?_
  change AWP _ _ _ _ _ _
  by_cases b15 : u < 1
  ·
   refine AWP.condT rfl (decide_eq_true b15) ?_
   refine AWP.seq ?_
   refine AWP.region (l := [0]) rfl ?_
   refine AOps.cons rfl rfl (AOp.assign (.int .i64 0) rfl rfl ?_)
   refine AOps.nil ?_
   change AWP _ _ _ _ _ _
   refine AWP.ret ?_
   refine ⟨_, _, Ghost.refl, .inr rfl, _, Res.one rfl rfl, ?_, m13⟩
   have hR : R_rate_Edge p u = 0 := by unfold R_rate_Edge; rw [if_pos b14, if_pos b15]
   exact (congrArg (fun r : Int => (.int .i64 r : AV)) hR).symm
  ·
   refine AWP.condF rfl (decide_eq_false b15) ?_
   refine AWP.skip ?_
   change AWP _ _ _ _ _ _
   refine AWP.seq ?_
   have hlr := len_rng_rate p
   have hq := ediv_rng (n := (R_rate_Length p).1) (d := u) (by omega) (by omega)
   refine AWP.region (l := [0, 1, 2, 3, 4, 5]) rfl ?_
   refine AOps.cons rfl rfl (AOp.move (.int .i64 ((R_rate_Length p).1)) rfl rfl ?_)
   refine AOps.cons rfl rfl (AOp.move (.int .i64 u) rfl rfl ?_)
   refine AOps.cons rfl rfl (AOp.quoP rfl rfl rfl (by omega) ?_)
   refine AOps.cons rfl rfl (AOp.bin (.int .i64 (1 + (((R_rate_Length p).1) / u))) rfl rfl rfl (iadd (by omega)) ?_)
   refine AOps.cons rfl rfl (AOp.min2 rfl rfl rfl ?_)
   refine AOps.cons rfl rfl (AOp.assign (.int .i64 (min (1 + (((R_rate_Length p).1) / u)) 16)) rfl rfl ?_)
   refine AOps.nil ?_
   change AWP _ _ _ _ _ _
   refine AWP.ret ?_
   refine ⟨_, _, Ghost.refl, .inr rfl, _, Res.one rfl rfl, ?_, m13⟩
   have hR : R_rate_Edge p u = min (1 + (((R_rate_Length p).1) / u)) 16 := by unfold R_rate_Edge; rw [if_pos b14, if_neg b15]
   exact (congrArg (fun r : Int => (.int .i64 r : AV)) hR).symm
 ·
  refine AOps.no rfl rfl rfl rfl rfl rfl rfl (ble_of (nb b14) (by decide)) ?_
  refine AOps.no rfl rfl rfl rfl rfl rfl rfl (ble_of (nb b14) (by decide)) ?_
  refine AOps.cons rfl rfl (AOp.pickT (.bool true) rfl rfl (nb b14) rfl ?_)
  refine AOps.nil ?_
  change AWP _ _ _ _ _ _
  refine AWP.condT rfl rfl ?_
  refine AWP.seq ?_
  refine AWP.region (l := [0]) rfl ?_
  refine AOps.cons rfl rfl (AOp.assign (.int .i64 0) rfl rfl ?_)
  refine AOps.nil ?_
  change AWP _ _ _ _ _ _
  refine AWP.ret ?_
  refine ⟨_, _, Ghost.refl, .inr rfl, _, Res.one rfl rfl, ?_, m13⟩
  have hR : R_rate_Edge p u = 0 := by unfold R_rate_Edge; rw [if_neg (ff b14)]
  exact (congrArg (fun r : Int => (.int .i64 r : AV)) hR).symm
def R_rate_Sides (p : (List VT)) (u : Int) : (List Int) :=
  [R_rate_Edge (R_curve_Row p 0) u, R_rate_Edge (R_curve_Row p 1) u, R_rate_Edge (R_curve_Row p 2) u, R_rate_Edge (R_curve_Row p 3) u]
theorem R_rate_Sides_len (p : List VT) (u : Int) : (R_rate_Sides p u).length = 4 := rfl
theorem c_rate_Sides (p : (List VT)) (h_p : p.length = 16) (u : Int) : PC Tryd.prog 24 [.agg (p.flatMap eV), .int .i64 u] (.agg ((R_rate_Sides p u).map eI)) := by
 intro H0
 refine ACalls.of_body' (n := 19) rfl rfl rfl rfl ?_
 have m0 := Mono.refl H0
 refine AWP.seq ?_
 refine AWP.region (l := [0, 1]) rfl ?_
 refine AOps.cons rfl rfl (AOp.box (.agg (p.flatMap eV)) rfl rfl rfl ?_)
 intro i1 H2 n3 h4 k5
 have z6 := Mono.free m0 n3
 have m7 := Mono.new m0 n3 k5
 refine AOps.cons rfl rfl (AOp.alloc rfl tz_25 ?_)
 intro i8 H9 n10 h11 k12
 have e13 := ne_new h4 n10
 have z14 := Mono.free m7 n10
 have h15 := keep k12 (ne_new h4 n10) h4
 have m16 := Mono.new m7 n10 k12
 refine AOps.nil ?_
 change AWP _ _ _ _ _ _
 refine AWP.seq ?_
 refine AWP.frzP 2 h15 z6 rfl m16 fun H17 m18 k19 => ?_
 have h20 := (k19 _ (Ne.symm e13)).trans h11
 refine AWP.region (l := [0]) rfl ?_
 refine AOps.cons rfl rfl (AOp.alloc rfl tz_25 ?_)
 intro i21 H22 n23 h24 k25
 have e26 := ne_new h20 n23
 have z27 := Mono.free m18 n23
 have h28 := keep k25 (ne_new h20 n23) h20
 have m29 := Mono.new m18 n23 k25
 refine AOps.nil ?_
 change AWP _ _ _ _ _ _
 refine AWP.seq ?_
 refine AWP.seq ?_
 refine AWP.region (l := [0]) rfl ?_
 refine AOps.cons rfl rfl (AOp.move (.int .i64 0) rfl rfl ?_)
 refine AOps.nil ?_
 change AWP _ _ _ _ _ _
 refine AWP.block ?_
 refine AWP.unroll 20 ?_
 refine UN.step ?_
 refine AWP.seq ?_
 refine AWP.region (l := [0]) rfl ?_
 refine AOps.cons rfl rfl (AOp.bin (.bool (decide (0 < 4))) rfl rfl rfl rfl ?_)
 refine AOps.nil ?_
 change AWP _ _ _ _ _ _
 refine AWP.seq ?_
 refine AWP.condT rfl (decide_eq_true (by decide)) ?_
 refine AWP.skip ?_
 change AWP _ _ _ _ _ _
 refine AWP.seq ?_
 refine AWP.block ?_
 refine AWP.seq ?_
 refine AWP.region (l := [0, 1]) rfl ?_
 refine AOps.cons rfl rfl (AOp.move (.int .i64 0) rfl rfl ?_)
 refine AOps.cons rfl rfl (AOp.assign (.int .i64 0) rfl rfl ?_)
 refine AOps.nil ?_
 change AWP _ _ _ _ _ _
 refine AWP.region (l := [0, 1, 2, 3, 4, 5, 6, 7]) rfl ?_
 refine AOps.cons rfl rfl (AOp.move (.int .i64 0) rfl rfl ?_)
 refine AOps.cons rfl rfl (AOp.loadF (.agg (p.flatMap eV)) rfl rfl ty_24 (ld_all (lenM eV_len h_p rfl)) ?_)
 refine AOps.cons rfl rfl (AOp.move (.int .i64 0) rfl rfl ?_)
 refine AOps.cons rfl rfl (AOp.pcall («as» := [.agg (p.flatMap eV), .int .i64 0]) rfl rfl (rfl) tf_47 (c_curve_Row p h_p 0) ?_)
 intro H30 m31
 have h32 := m31 _ _ h28
 have h33 := m31 _ _ h24
 have m34 := m29.trans m31
 refine AOps.cons rfl rfl (AOp.move (.int .i64 u) rfl rfl ?_)
 refine AOps.cons rfl rfl (AOp.pcall («as» := [.agg ((R_curve_Row p 0).flatMap eV), .int .i64 u]) rfl rfl (rfl) tf_46 (c_rate_Edge (R_curve_Row p 0) (R_curve_Row_len p 0) u) ?_)
 intro H35 m36
 have h37 := m36 _ _ h32
 have h38 := m36 _ _ h33
 have m39 := m34.trans m36
 refine AOps.cons rfl rfl (AOp.indexAddrA rfl rfl rfl ar_25 (by omega) (by omega) ⟨_, h38⟩ ?_)
 refine AOps.cons rfl rfl (AOp.store' (cells' := [.int .i64 (R_rate_Edge (R_curve_Row p 0) u), .int .i64 0, .int .i64 0, .int .i64 0]) (.int .i64 (R_rate_Edge (R_curve_Row p 0) u)) rfl rfl ts_3 h38 rfl rfl rfl rfl ?_)
 intro H40 h41 k42
 have h43 := keep k42 e26 h37
 have m45 := Mono.set m39 z27 k42
 refine AOps.nil ?_
 change AWP _ _ _ _ _ _
 refine AWP.region (l := [0, 1]) rfl ?_
 refine AOps.cons rfl rfl (AOp.bin (.int .i64 1) rfl rfl rfl (iadd (by omega)) ?_)
 refine AOps.cons rfl rfl (AOp.move (.int .i64 1) rfl rfl ?_)
 refine AOps.nil ?_
 refine UN.step ?_
 refine AWP.seq ?_
 refine AWP.region (l := [0]) rfl ?_
 refine AOps.cons rfl rfl (AOp.bin (.bool (decide (1 < 4))) rfl rfl rfl rfl ?_)
 refine AOps.nil ?_
 change AWP _ _ _ _ _ _
 refine AWP.seq ?_
 refine AWP.condT rfl (decide_eq_true (by decide)) ?_
 refine AWP.skip ?_
 change AWP _ _ _ _ _ _
 refine AWP.seq ?_
 refine AWP.block ?_
 refine AWP.seq ?_
 refine AWP.region (l := [0, 1]) rfl ?_
 refine AOps.cons rfl rfl (AOp.move (.int .i64 1) rfl rfl ?_)
 refine AOps.cons rfl rfl (AOp.assign (.int .i64 1) rfl rfl ?_)
 refine AOps.nil ?_
 change AWP _ _ _ _ _ _
 refine AWP.region (l := [0, 1, 2, 3, 4, 5, 6, 7]) rfl ?_
 refine AOps.cons rfl rfl (AOp.move (.int .i64 1) rfl rfl ?_)
 refine AOps.cons rfl rfl (AOp.loadF (.agg (p.flatMap eV)) rfl rfl ty_24 (ld_all (lenM eV_len h_p rfl)) ?_)
 refine AOps.cons rfl rfl (AOp.move (.int .i64 1) rfl rfl ?_)
 refine AOps.cons rfl rfl (AOp.pcall («as» := [.agg (p.flatMap eV), .int .i64 1]) rfl rfl (rfl) tf_47 (c_curve_Row p h_p 1) ?_)
 intro H46 m47
 have h48 := m47 _ _ h43
 have h49 := m47 _ _ h41
 have m50 := m45.trans m47
 refine AOps.cons rfl rfl (AOp.move (.int .i64 u) rfl rfl ?_)
 refine AOps.cons rfl rfl (AOp.pcall («as» := [.agg ((R_curve_Row p 1).flatMap eV), .int .i64 u]) rfl rfl (rfl) tf_46 (c_rate_Edge (R_curve_Row p 1) (R_curve_Row_len p 1) u) ?_)
 intro H51 m52
 have h53 := m52 _ _ h48
 have h54 := m52 _ _ h49
 have m55 := m50.trans m52
 refine AOps.cons rfl rfl (AOp.indexAddrA rfl rfl rfl ar_25 (by omega) (by omega) ⟨_, h54⟩ ?_)
 refine AOps.cons rfl rfl (AOp.store' (cells' := [.int .i64 (R_rate_Edge (R_curve_Row p 0) u), .int .i64 (R_rate_Edge (R_curve_Row p 1) u), .int .i64 0, .int .i64 0]) (.int .i64 (R_rate_Edge (R_curve_Row p 1) u)) rfl rfl ts_3 h54 rfl rfl rfl rfl ?_)
 intro H56 h57 k58
 have h59 := keep k58 e26 h53
 have m61 := Mono.set m55 z27 k58
 refine AOps.nil ?_
 change AWP _ _ _ _ _ _
 refine AWP.region (l := [0, 1]) rfl ?_
 refine AOps.cons rfl rfl (AOp.bin (.int .i64 2) rfl rfl rfl (iadd (by omega)) ?_)
 refine AOps.cons rfl rfl (AOp.move (.int .i64 2) rfl rfl ?_)
 refine AOps.nil ?_
 refine UN.step ?_
 refine AWP.seq ?_
 refine AWP.region (l := [0]) rfl ?_
 refine AOps.cons rfl rfl (AOp.bin (.bool (decide (2 < 4))) rfl rfl rfl rfl ?_)
 refine AOps.nil ?_
 change AWP _ _ _ _ _ _
 refine AWP.seq ?_
 refine AWP.condT rfl (decide_eq_true (by decide)) ?_
 refine AWP.skip ?_
 change AWP _ _ _ _ _ _
 refine AWP.seq ?_
 refine AWP.block ?_
 refine AWP.seq ?_
 refine AWP.region (l := [0, 1]) rfl ?_
 refine AOps.cons rfl rfl (AOp.move (.int .i64 2) rfl rfl ?_)
 refine AOps.cons rfl rfl (AOp.assign (.int .i64 2) rfl rfl ?_)
 refine AOps.nil ?_
 change AWP _ _ _ _ _ _
 refine AWP.region (l := [0, 1, 2, 3, 4, 5, 6, 7]) rfl ?_
 refine AOps.cons rfl rfl (AOp.move (.int .i64 2) rfl rfl ?_)
 refine AOps.cons rfl rfl (AOp.loadF (.agg (p.flatMap eV)) rfl rfl ty_24 (ld_all (lenM eV_len h_p rfl)) ?_)
 refine AOps.cons rfl rfl (AOp.move (.int .i64 2) rfl rfl ?_)
 refine AOps.cons rfl rfl (AOp.pcall («as» := [.agg (p.flatMap eV), .int .i64 2]) rfl rfl (rfl) tf_47 (c_curve_Row p h_p 2) ?_)
 intro H62 m63
 have h64 := m63 _ _ h59
 have h65 := m63 _ _ h57
 have m66 := m61.trans m63
 refine AOps.cons rfl rfl (AOp.move (.int .i64 u) rfl rfl ?_)
 refine AOps.cons rfl rfl (AOp.pcall («as» := [.agg ((R_curve_Row p 2).flatMap eV), .int .i64 u]) rfl rfl (rfl) tf_46 (c_rate_Edge (R_curve_Row p 2) (R_curve_Row_len p 2) u) ?_)
 intro H67 m68
 have h69 := m68 _ _ h64
 have h70 := m68 _ _ h65
 have m71 := m66.trans m68
 refine AOps.cons rfl rfl (AOp.indexAddrA rfl rfl rfl ar_25 (by omega) (by omega) ⟨_, h70⟩ ?_)
 refine AOps.cons rfl rfl (AOp.store' (cells' := [.int .i64 (R_rate_Edge (R_curve_Row p 0) u), .int .i64 (R_rate_Edge (R_curve_Row p 1) u), .int .i64 (R_rate_Edge (R_curve_Row p 2) u), .int .i64 0]) (.int .i64 (R_rate_Edge (R_curve_Row p 2) u)) rfl rfl ts_3 h70 rfl rfl rfl rfl ?_)
 intro H72 h73 k74
 have h75 := keep k74 e26 h69
 have m77 := Mono.set m71 z27 k74
 refine AOps.nil ?_
 change AWP _ _ _ _ _ _
 refine AWP.region (l := [0, 1]) rfl ?_
 refine AOps.cons rfl rfl (AOp.bin (.int .i64 3) rfl rfl rfl (iadd (by omega)) ?_)
 refine AOps.cons rfl rfl (AOp.move (.int .i64 3) rfl rfl ?_)
 refine AOps.nil ?_
 refine UN.step ?_
 refine AWP.seq ?_
 refine AWP.region (l := [0]) rfl ?_
 refine AOps.cons rfl rfl (AOp.bin (.bool (decide (3 < 4))) rfl rfl rfl rfl ?_)
 refine AOps.nil ?_
 change AWP _ _ _ _ _ _
 refine AWP.seq ?_
 refine AWP.condT rfl (decide_eq_true (by decide)) ?_
 refine AWP.skip ?_
 change AWP _ _ _ _ _ _
 refine AWP.seq ?_
 refine AWP.block ?_
 refine AWP.seq ?_
 refine AWP.region (l := [0, 1]) rfl ?_
 refine AOps.cons rfl rfl (AOp.move (.int .i64 3) rfl rfl ?_)
 refine AOps.cons rfl rfl (AOp.assign (.int .i64 3) rfl rfl ?_)
 refine AOps.nil ?_
 change AWP _ _ _ _ _ _
 refine AWP.region (l := [0, 1, 2, 3, 4, 5, 6, 7]) rfl ?_
 refine AOps.cons rfl rfl (AOp.move (.int .i64 3) rfl rfl ?_)
 refine AOps.cons rfl rfl (AOp.loadF (.agg (p.flatMap eV)) rfl rfl ty_24 (ld_all (lenM eV_len h_p rfl)) ?_)
 refine AOps.cons rfl rfl (AOp.move (.int .i64 3) rfl rfl ?_)
 refine AOps.cons rfl rfl (AOp.pcall («as» := [.agg (p.flatMap eV), .int .i64 3]) rfl rfl (rfl) tf_47 (c_curve_Row p h_p 3) ?_)
 intro H78 m79
 have h80 := m79 _ _ h75
 have h81 := m79 _ _ h73
 have m82 := m77.trans m79
 refine AOps.cons rfl rfl (AOp.move (.int .i64 u) rfl rfl ?_)
 refine AOps.cons rfl rfl (AOp.pcall («as» := [.agg ((R_curve_Row p 3).flatMap eV), .int .i64 u]) rfl rfl (rfl) tf_46 (c_rate_Edge (R_curve_Row p 3) (R_curve_Row_len p 3) u) ?_)
 intro H83 m84
 have h85 := m84 _ _ h80
 have h86 := m84 _ _ h81
 have m87 := m82.trans m84
 refine AOps.cons rfl rfl (AOp.indexAddrA rfl rfl rfl ar_25 (by omega) (by omega) ⟨_, h86⟩ ?_)
 refine AOps.cons rfl rfl (AOp.store' (cells' := [.int .i64 (R_rate_Edge (R_curve_Row p 0) u), .int .i64 (R_rate_Edge (R_curve_Row p 1) u), .int .i64 (R_rate_Edge (R_curve_Row p 2) u), .int .i64 (R_rate_Edge (R_curve_Row p 3) u)]) (.int .i64 (R_rate_Edge (R_curve_Row p 3) u)) rfl rfl ts_3 h86 rfl rfl rfl rfl ?_)
 intro H88 h89 k90
 have h91 := keep k90 e26 h85
 have m93 := Mono.set m87 z27 k90
 refine AOps.nil ?_
 change AWP _ _ _ _ _ _
 refine AWP.region (l := [0, 1]) rfl ?_
 refine AOps.cons rfl rfl (AOp.bin (.int .i64 4) rfl rfl rfl (iadd (by omega)) ?_)
 refine AOps.cons rfl rfl (AOp.move (.int .i64 4) rfl rfl ?_)
 refine AOps.nil ?_
 refine UN.step ?_
 refine AWP.seq ?_
 refine AWP.region (l := [0]) rfl ?_
 refine AOps.cons rfl rfl (AOp.bin (.bool (decide (4 < 4))) rfl rfl rfl rfl ?_)
 refine AOps.nil ?_
 change AWP _ _ _ _ _ _
 refine AWP.seq ?_
 refine AWP.condF rfl (decide_eq_false (by decide)) ?_
 refine AWP.exit ?_
 change AWP _ _ _ _ _ _
 refine AWP.seq ?_
 refine AWP.region (l := [0, 1]) rfl ?_
 refine AOps.cons rfl rfl (AOp.load (.agg [.int .i64 (R_rate_Edge (R_curve_Row p 0) u), .int .i64 (R_rate_Edge (R_curve_Row p 1) u), .int .i64 (R_rate_Edge (R_curve_Row p 2) u), .int .i64 (R_rate_Edge (R_curve_Row p 3) u)]) rfl rfl ty_25 h89 rfl ?_)
 refine AOps.cons rfl rfl (AOp.store' (cells' := [.int .i64 (R_rate_Edge (R_curve_Row p 0) u), .int .i64 (R_rate_Edge (R_curve_Row p 1) u), .int .i64 (R_rate_Edge (R_curve_Row p 2) u), .int .i64 (R_rate_Edge (R_curve_Row p 3) u)]) (.agg [.int .i64 (R_rate_Edge (R_curve_Row p 0) u), .int .i64 (R_rate_Edge (R_curve_Row p 1) u), .int .i64 (R_rate_Edge (R_curve_Row p 2) u), .int .i64 (R_rate_Edge (R_curve_Row p 3) u)]) rfl rfl ts_25 h91 rfl rfl rfl rfl ?_)
 intro H94 h95 k96
 have h98 := keep k96 (Ne.symm e26) h89
 have m99 := Mono.set m93 z14 k96
 refine AOps.nil ?_
 change AWP _ _ _ _ _ _
 refine AWP.ret ?_
 refine ⟨_, _, Ghost.refl, .inr rfl, _, Res.list1 rfl (.cell (v := .agg [.int .i64 (R_rate_Edge (R_curve_Row p 0) u), .int .i64 (R_rate_Edge (R_curve_Row p 1) u), .int .i64 (R_rate_Edge (R_curve_Row p 2) u), .int .i64 (R_rate_Edge (R_curve_Row p 3) u)]) rfl ty_25 h95 rfl (.nil)), ?_, m99⟩
 have hR : R_rate_Sides p u = [R_rate_Edge (R_curve_Row p 0) u, R_rate_Edge (R_curve_Row p 1) u, R_rate_Edge (R_curve_Row p 2) u, R_rate_Edge (R_curve_Row p 3) u] := rfl
 exact (congrArg (fun r : (List Int) => (.agg (r.map eI) : AV)) hR).symm
theorem c_far1 (m : Int) : PC Tryd.prog 43 [.int .i64 m] (.fn 44 [.fptr [.int .i64 m] 0]) := by
 intro H0
 refine ACalls.of_body' (n := 4) rfl rfl rfl rfl ?_
 have m0 := Mono.refl H0
 refine AWP.seq ?_
 refine AWP.region (l := [0, 1]) rfl ?_
 refine AOps.cons rfl rfl (AOp.box (.int .i64 m) rfl rfl rfl ?_)
 intro i1 H2 n3 h4 k5
 have z6 := Mono.free m0 n3
 have m7 := Mono.new m0 n3 k5
 refine AOps.cons rfl rfl (AOp.assign (.nilfn) rfl rfl ?_)
 refine AOps.nil ?_
 change AWP _ _ _ _ _ _
 refine AWP.seq ?_
 refine AWP.frzP 1 h4 z6 rfl m7 fun H8 m9 k10 => ?_
 refine AWP.region (l := [0, 1]) rfl ?_
 refine AOps.cons rfl rfl (AOp.makeFunc (cs := [.fptr [.int .i64 m] 0]) rfl rfl ?_)
 refine AOps.cons rfl rfl (AOp.assign (.fn 44 [.fptr [.int .i64 m] 0]) rfl rfl ?_)
 refine AOps.nil ?_
 change AWP _ _ _ _ _ _
 refine AWP.ret ?_
 refine ⟨_, _, Ghost.refl, .inr rfl, _, Res.one rfl rfl, ?_, m9⟩
 exact rfl
theorem c_far (m : Int) (hm : 0 ≤ m ∧ m ≤ 1000000) (v : VT) : PC Tryd.prog 44 [.agg [.int .i64 v.X, .int .i64 v.Y, .int .i64 v.Z], .fptr [.int .i64 m] 0] (.bool (!R_vec_Within v m)) := by
 intro H0
 refine ACalls.of_body' (n := 8) rfl rfl rfl rfl ?_
 have m0 := Mono.refl H0
 refine AWP.seq ?_
 refine AWP.region (l := [0, 1]) rfl ?_
 refine AOps.cons rfl rfl (AOp.box (.agg [.int .i64 v.X, .int .i64 v.Y, .int .i64 v.Z]) rfl rfl rfl ?_)
 intro i1 H2 n3 h4 k5
 have z6 := Mono.free m0 n3
 have m7 := Mono.new m0 n3 k5
 refine AOps.cons rfl rfl (AOp.assign (.bool false) rfl rfl ?_)
 refine AOps.nil ?_
 change AWP _ _ _ _ _ _
 refine AWP.seq ?_
 refine AWP.frzP 2 h4 z6 rfl m7 fun H8 m9 k10 => ?_
 refine AWP.region (l := [0, 1, 2, 3, 4]) rfl ?_
 refine AOps.cons rfl rfl (AOp.loadF (.agg [.int .i64 v.X, .int .i64 v.Y, .int .i64 v.Z]) rfl rfl ty_23 rfl ?_)
 refine AOps.cons rfl rfl (AOp.loadF (.int .i64 m) rfl rfl ty_3 rfl ?_)
 refine AOps.cons rfl rfl (AOp.pcall («as» := [.agg [.int .i64 v.X, .int .i64 v.Y, .int .i64 v.Z], .int .i64 m]) rfl rfl (rfl) tf_18 (c_vec_Within v m (by first | omega | assumption | (constructor <;> omega) | simp)) ?_)
 intro H11 m12
 have m13 := m9.trans m12
 refine AOps.cons rfl rfl (AOp.not rfl rfl ?_)
 refine AOps.cons rfl rfl (AOp.assign (.bool (!(R_vec_Within v m))) rfl rfl ?_)
 refine AOps.nil ?_
 change AWP _ _ _ _ _ _
 refine AWP.ret ?_
 refine ⟨_, _, Ghost.refl, .inr rfl, _, Res.one rfl rfl, ?_, m13⟩
 exact rfl
theorem c_idxF (l : List VT) (hl : l.length ≤ 1048576) (m : Int) (hm : 0 ≤ m ∧ m ≤ 1000000) : PC Tryd.prog 78 [.sl l.length (l.flatMap eV), .fn 44 [.fptr [.int .i64 m] 0]] (.int .i64 (idxF l m)) := by
 intro H0
 refine ACalls.of_body' (n := 19) rfl rfl rfl rfl ?_
 have m0 := Mono.refl H0
 refine AWP.seq ?_
 refine AWP.region (l := [0]) rfl ?_
 refine AOps.cons rfl rfl (AOp.assign (.int .i64 0) rfl rfl ?_)
 refine AOps.nil ?_
 change AWP _ _ _ _ _ _
 refine AWP.seq ?_
 refine AWP.seq ?_
 refine AWP.region (l := [0, 1, 2]) rfl ?_
 refine AOps.cons rfl rfl (AOp.move (.sl l.length (l.flatMap eV)) rfl rfl ?_)
 refine AOps.cons rfl rfl (AOp.len (m := l.length) rfl rfl (.inr (.inl ⟨_, rfl⟩)) u_34 ?_)
 refine AOps.cons rfl rfl (AOp.move (.int .i64 0) rfl rfl ?_)
 refine AOps.nil ?_
 change AWP _ _ _ _ _ _
 refine AWP.block ?_
 refine AWP.loop (fun q1 fq Hq => ∃ (i : Int), q1 = (((l.length : Int) : Int) - i).toNat ∧ fq 8 = .int .i64 i ∧ fq 0 = .sl l.length (l.flatMap eV) ∧ fq 1 = .fn 44 [.fptr [.int .i64 m] 0] ∧ fq 7 = .int .i64 (l.length : Int) ∧ Mono H0 Hq ∧ (0 ≤ i) ∧ (i ≤ (l.length : Int)) ∧ (∀ j : Int, 0 ≤ j → j < i → inV m (at_ l j))) (k := (((l.length : Int) : Int) - 0).toNat) ?_ ?_
 ·
  exact ⟨0, rfl, rfl, rfl, rfl, rfl, m0, by omega, by omega, by intro j; omega⟩
 ·
  rintro _ f3 H2 ⟨i, rfl, s4, s5, s6, s7, m8, hi0, hi1, pre⟩
  refine AWP.seq ?_
  refine AWP.region (l := [0]) rfl ?_
  refine AOps.cons rfl rfl (AOp.bin (.bool (decide (i < (l.length : Int)))) rfl s4 s7 rfl ?_)
  refine AOps.nil ?_
  change AWP _ _ _ _ _ _
  refine AWP.seq ?_
  by_cases b9 : i < (l.length : Int)
  ·
   refine AWP.condT rfl (decide_eq_true b9) ?_
   refine AWP.skip ?_
   change AWP _ _ _ _ _ _
   refine AWP.seq ?_
   refine AWP.block ?_
   refine AWP.seq ?_
   refine AWP.region (l := [0, 1]) rfl ?_
   refine AOps.cons rfl rfl (AOp.move (.int .i64 i) rfl s4 ?_)
   refine AOps.cons rfl rfl (AOp.assign (.int .i64 i) rfl rfl ?_)
   refine AOps.nil ?_
   change AWP _ _ _ _ _ _
   refine AWP.seq ?_
   refine AWP.region (l := [0, 1, 2, 3, 4, 5]) rfl ?_
   refine AOps.cons rfl rfl (AOp.move (.fn 44 [.fptr [.int .i64 m] 0]) rfl s6 ?_)
   refine AOps.cons rfl rfl (AOp.move (.sl l.length (l.flatMap eV)) rfl s5 ?_)
   refine AOps.cons rfl rfl (AOp.move (.int .i64 i) rfl rfl ?_)
   refine AOps.cons rfl rfl (AOp.indexAddrS rfl rfl rfl sl_34 (by omega) (by omega) ?_)
   refine AOps.cons rfl rfl (AOp.loadF (.agg [.int .i64 ((at_ l i).X), .int .i64 ((at_ l i).Y), .int .i64 ((at_ l i).Z)]) rfl rfl ty_23 (ldM eV_len (by omega) (by omega)) ?_)
   refine AOps.cons rfl rfl (AOp.pcall («as» := [.agg [.int .i64 ((at_ l i).X), .int .i64 ((at_ l i).Y), .int .i64 ((at_ l i).Z)], .fptr [.int .i64 m] 0]) rfl rfl (rfl) tf_44 (c_far m (by omega) (at_ l i)) ?_)
   intro H10 m11
   have m12 := m8.trans m11
   refine AOps.nil ?_
   change AWP _ _ _ _ _ _
   rcases Bool.eq_false_or_eq_true (R_vec_Within (at_ l i) m) with b13 | b13
   ·
    have iv14 : inV m (at_ l i) := withinvec_in b13
    refine AWP.condF rfl (nb b13) ?_
    refine AWP.skip ?_
    change AWP _ _ _ _ _ _
    refine AWP.region (l := [0, 1]) rfl ?_
    refine AOps.cons rfl rfl (AOp.bin (.int .i64 (i + 1)) rfl s4 rfl (iadd (by omega)) ?_)
    refine AOps.cons rfl rfl (AOp.move (.int .i64 (i + 1)) rfl rfl ?_)
    refine AOps.nil ?_
    exact ⟨_, by omega, i + 1, rfl, rfl, s5, s6, s7, m12, by omega, by omega, by exact fa_step pre iv14⟩
   ·
    refine AWP.condT rfl (nb b13) ?_
    refine AWP.seq ?_
    refine AWP.region (l := [0, 1]) rfl ?_
    refine AOps.cons rfl rfl (AOp.move (.int .i64 i) rfl rfl ?_)
    refine AOps.cons rfl rfl (AOp.assign (.int .i64 i) rfl rfl ?_)
    refine AOps.nil ?_
    change AWP _ _ _ _ _ _
    refine AWP.ret ?_
    refine ⟨_, _, Ghost.refl, .inr rfl, _, Res.one rfl rfl, ?_, m12⟩
    exact (congrArg (AV.int .i64) (show (i : Int) = idxF l m from by exact idxF_hit hi0 (by omega) pre b13))
  ·
   refine AWP.condF rfl (decide_eq_false b9) ?_
   refine AWP.exit ?_
   change AWP _ _ _ _ _ _
   refine AWP.seq ?_
   refine AWP.region (l := [0]) rfl ?_
   refine AOps.cons rfl rfl (AOp.assign (.int .i64 (-1)) rfl rfl ?_)
   refine AOps.nil ?_
   change AWP _ _ _ _ _ _
   refine AWP.ret ?_
   refine ⟨_, _, Ghost.refl, .inr rfl, _, Res.one rfl rfl, ?_, m8⟩
   exact (congrArg (AV.int .i64) (show (-1 : Int) = idxF l m from by exact idxF_miss (fun j h0 h1 => pre j h0 (by omega))))
theorem c_anyF (l : List VT) (hl : l.length ≤ 1048576) (m : Int) (hm : 0 ≤ m ∧ m ≤ 1000000) : PC Tryd.prog 45 [.sl l.length (l.flatMap eV), .fn 44 [.fptr [.int .i64 m] 0]] (.bool (!allIn l m)) := by
 intro H0
 refine ACalls.of_body' (n := 9) rfl rfl rfl rfl ?_
 have m0 := Mono.refl H0
 refine AWP.seq ?_
 refine AWP.region (l := [0]) rfl ?_
 refine AOps.cons rfl rfl (AOp.assign (.bool false) rfl rfl ?_)
 refine AOps.nil ?_
 change AWP _ _ _ _ _ _
 refine AWP.seq ?_
 refine AWP.region (l := [0, 1, 2, 3, 4]) rfl ?_
 refine AOps.cons rfl rfl (AOp.move (.sl l.length (l.flatMap eV)) rfl rfl ?_)
 refine AOps.cons rfl rfl (AOp.move (.fn 44 [.fptr [.int .i64 m] 0]) rfl rfl ?_)
 refine AOps.cons rfl rfl (AOp.pcall («as» := [.sl l.length (l.flatMap eV), .fn 44 [.fptr [.int .i64 m] 0]]) rfl rfl (rfl) tf_78 (c_idxF l (by first | omega | assumption | (simp; omega) | simp) m (by omega)) ?_)
 intro H1 m2
 have m3 := m0.trans m2
 refine AOps.cons rfl rfl (AOp.bin (.bool (decide (idxF l m ≥ 0))) rfl rfl rfl rfl ?_)
 refine AOps.cons rfl rfl (AOp.assign (.bool (decide (idxF l m ≥ 0))) rfl rfl ?_)
 refine AOps.nil ?_
 change AWP _ _ _ _ _ _
 refine AWP.ret ?_
 refine ⟨_, _, Ghost.refl, .inr rfl, _, Res.one rfl rfl, ?_, m3⟩
 exact (congrArg AV.bool (show (decide (idxF l m ≥ 0) : Bool) = !allIn l m from by exact idxF_all l m))
theorem c_vec_Bound (l : List VT) (hl : l.length ≤ 1048576) : PC Tryd.prog 36 [.sl l.length (l.flatMap eV)] (.tup [.agg [.int .i64 ((((boundR l).1).Lo).X), .int .i64 ((((boundR l).1).Lo).Y), .int .i64 ((((boundR l).1).Lo).Z), .int .i64 ((((boundR l).1).Hi).X), .int .i64 ((((boundR l).1).Hi).Y), .int .i64 ((((boundR l).1).Hi).Z)], .bool ((boundR l).2)]) := by
 intro H0
 refine ACalls.of_body' (n := 32) rfl rfl rfl rfl ?_
 have m0 := Mono.refl H0
 refine AWP.seq ?_
 refine AWP.region (l := [0, 1]) rfl ?_
 refine AOps.cons rfl rfl (AOp.alloc rfl tz_43 ?_)
 intro i1 H2 n3 h4 k5
 have z6 := Mono.free m0 n3
 have m7 := Mono.new m0 n3 k5
 refine AOps.cons rfl rfl (AOp.assign (.bool false) rfl rfl ?_)
 refine AOps.nil ?_
 change AWP _ _ _ _ _ _
 refine AWP.seq ?_
 refine AWP.seq ?_
 refine AWP.region (l := [0, 1, 2]) rfl ?_
 refine AOps.cons rfl rfl (AOp.move (.sl l.length (l.flatMap eV)) rfl rfl ?_)
 refine AOps.cons rfl rfl (AOp.len (m := l.length) rfl rfl (.inr (.inl ⟨_, rfl⟩)) u_34 ?_)
 refine AOps.cons rfl rfl (AOp.bin (.bool (decide ((l.length : Int) = 0))) rfl rfl rfl ieq ?_)
 refine AOps.nil ?_
 change AWP _ _ _ _ _ _
 by_cases b8 : (l.length : Int) = 0
 ·
  refine AWP.condT rfl (decide_eq_true b8) ?_
  refine AWP.seq ?_
  refine AWP.region (l := [0, 1, 2]) rfl ?_
  refine AOps.cons rfl rfl (AOp.build (cells := [.int .i64 0, .int .i64 0, .int .i64 0, .int .i64 0, .int .i64 0, .int .i64 0]) rfl tz_43 pl_43 rfl rfl ?_)
  refine AOps.cons rfl rfl (AOp.store' (cells' := [.int .i64 0, .int .i64 0, .int .i64 0, .int .i64 0, .int .i64 0, .int .i64 0]) (.agg [.int .i64 0, .int .i64 0, .int .i64 0, .int .i64 0, .int .i64 0, .int .i64 0]) rfl rfl ts_43 h4 rfl rfl rfl rfl ?_)
  intro H9 h10 k11
  have m13 := Mono.set m7 z6 k11
  refine AOps.cons rfl rfl (AOp.assign (.bool false) rfl rfl ?_)
  refine AOps.nil ?_
  change AWP _ _ _ _ _ _
  refine AWP.ret ?_
  refine ⟨_, _, Ghost.refl, .inr rfl, _, Res.list rfl rfl (.cell (v := .agg [.int .i64 0, .int .i64 0, .int .i64 0, .int .i64 0, .int .i64 0, .int .i64 0]) rfl ty_43 h10 rfl (.tmp rfl (.nil))), ?_, m13⟩
  exact congrArg AV.tup (lc (congrArg AV.agg (lc (congrArg (AV.int .i64) (show (0 : Int) = (((boundR l).1).Lo).X from by rw [← bound_no b8])) (lc (congrArg (AV.int .i64) (show (0 : Int) = (((boundR l).1).Lo).Y from by rw [← bound_no b8])) (lc (congrArg (AV.int .i64) (show (0 : Int) = (((boundR l).1).Lo).Z from by rw [← bound_no b8])) (lc (congrArg (AV.int .i64) (show (0 : Int) = (((boundR l).1).Hi).X from by rw [← bound_no b8])) (lc (congrArg (AV.int .i64) (show (0 : Int) = (((boundR l).1).Hi).Y from by rw [← bound_no b8])) (lc (congrArg (AV.int .i64) (show (0 : Int) = (((boundR l).1).Hi).Z from by rw [← bound_no b8])) rfl))))))) (lc (congrArg AV.bool (show (false : Bool) = (boundR l).2 from by rw [← bound_no b8])) rfl))
 ·
  refine AWP.condF rfl (decide_eq_false b8) ?_
  refine AWP.skip ?_
  change AWP _ _ _ _ _ _
  refine AWP.seq ?_
  refine AWP.region_quietA mixed (by kernel_rfl) 7 8 [8] rfl (by kernel_rfl) (B := .row 0 ([.int .i64 0, .int .i64 0, .int .i64 0, .int .i64 0, .int .i64 0, .int .i64 0])) (va := fun i => .ptr i 0 0) (by decide) fun i14 n15 _ hs16 => ?_
  refine QEA.op rfl rfl rfl (.inl ⟨rfl, fun H1 f' H' hf hN hM => AOp.move (.sl l.length (l.flatMap eV)) rfl ((hf 0 rfl).trans rfl) ⟨rfl, hN⟩⟩) ?_
  refine QEA.op rfl rfl rfl (.inl ⟨rfl, fun H1 f' H' hf hN hM => AOp.indexAddrS rfl ((hf 11 rfl).trans rfl) rfl sl_34 (by omega) (by omega) ⟨rfl, hN⟩⟩) ?_
  refine QEA.op rfl rfl rfl (.inl ⟨rfl, fun H1 f' H' hf hN hM => AOp.loadF (.agg [.int .i64 ((at_ l 0).X), .int .i64 ((at_ l 0).Y), .int .i64 ((at_ l 0).Z)]) rfl ((hf 12 rfl).trans rfl) ty_23 (ldM eV_len (by omega) (by omega)) ⟨rfl, hN⟩⟩) ?_
  refine QEA.op rfl rfl rfl (.inl ⟨rfl, fun H1 f' H' hf hN hM => AOp.move (.sl l.length (l.flatMap eV)) rfl ((hf 0 rfl).trans rfl) ⟨rfl, hN⟩⟩) ?_
  refine QEA.op rfl rfl rfl (.inl ⟨rfl, fun H1 f' H' hf hN hM => AOp.indexAddrS rfl ((hf 14 rfl).trans rfl) rfl sl_34 (by omega) (by omega) ⟨rfl, hN⟩⟩) ?_
  refine QEA.op rfl rfl rfl (.inl ⟨rfl, fun H1 f' H' hf hN hM => AOp.loadF (.agg [.int .i64 ((at_ l 0).X), .int .i64 ((at_ l 0).Y), .int .i64 ((at_ l 0).Z)]) rfl ((hf 15 rfl).trans rfl) ty_23 (ldM eV_len (by omega) (by omega)) ⟨rfl, hN⟩⟩) ?_
  refine QEA.op rfl rfl rfl (.inl ⟨rfl, fun H1 f' H' hf hN hM => AOp.build (cells := [.int .i64 ((at_ l 0).X), .int .i64 ((at_ l 0).Y), .int .i64 ((at_ l 0).Z), .int .i64 ((at_ l 0).X), .int .i64 ((at_ l 0).Y), .int .i64 ((at_ l 0).Z)]) rfl tz_43 pl_43 (lconsP ((hf 13 rfl).trans rfl) (lconsP ((hf 16 rfl).trans rfl) rfl)) rfl ⟨rfl, hN⟩⟩) ?_
  refine QEA.alloc rfl rfl rfl rfl rfl tz_43 ?_
  refine QEA.done fun H17 m19 => ?_
  have m18 := hs16 _ m19
  have e20 := ne_new h4 n15
  have z21 := Mono.free m7 n15
  have h22 := m18 _ _ h4
  have m23 := m7.trans m18
  have h24 : H17 i14 = some (.row 0 ([.int .i64 0, .int .i64 0, .int .i64 0, .int .i64 0, .int .i64 0, .int .i64 0])) := m19 i14 _ (updH_same _ _ _)
  refine AOps.cons rfl rfl (AOp.store' (cells' := [.int .i64 ((at_ l 0).X), .int .i64 ((at_ l 0).Y), .int .i64 ((at_ l 0).Z), .int .i64 ((at_ l 0).X), .int .i64 ((at_ l 0).Y), .int .i64 ((at_ l 0).Z)]) (.agg [.int .i64 ((at_ l 0).X), .int .i64 ((at_ l 0).Y), .int .i64 ((at_ l 0).Z), .int .i64 ((at_ l 0).X), .int .i64 ((at_ l 0).Y), .int .i64 ((at_ l 0).Z)]) rfl rfl ts_43 h24 rfl rfl rfl rfl ?_)
  intro H25 h26 k27
  have h28 := keep k27 e20 h22
  have m30 := Mono.set m23 z21 k27
  refine AOps.nil ?_
  change AWP _ _ _ _ _ _
  refine AWP.seq ?_
  refine AWP.seq ?_
  have hdl : ((l.drop (1 : Int).toNat).length : Int) = l.length - 1 := by rw [List.length_drop]; omega
  refine AWP.region (l := [0, 1, 2, 3]) rfl ?_
  refine AOps.cons rfl rfl (AOp.move (.sl l.length (l.flatMap eV)) rfl rfl ?_)
  refine AOps.cons rfl rfl (AOp.sliceSDM (l := (1 : Int)) (h := (l.length : Int)) eV_len rfl rfl sl_34 (lo_of rfl) rfl (by omega) (by omega) (by omega) (by omega) ?_)
  refine AOps.cons rfl rfl (AOp.len (m := (l.drop (1 : Int).toNat).length) rfl rfl (.inr (.inl ⟨_, rfl⟩)) u_34 ?_)
  refine AOps.cons rfl rfl (AOp.move (.int .i64 0) rfl rfl ?_)
  refine AOps.nil ?_
  change AWP _ _ _ _ _ _
  refine AWP.block ?_
  refine AWP.loop (fun q31 fq Hq => ∃ (i : Int), q31 = ((((l.drop (1 : Int).toNat).length : Int) : Int) - i).toNat ∧ fq 21 = .int .i64 i ∧ fq 2 = .ptr i1 0 0 ∧ fq 3 = .bool false ∧ fq 4 = .ptr i14 0 0 ∧ fq 19 = .sl (l.drop (1 : Int).toNat).length ((l.drop (1 : Int).toNat).flatMap eV) ∧ fq 20 = .int .i64 (((l.drop (1 : Int).toNat).length) : Int) ∧ Hq i1 = some (.row 0 ([.int .i64 0, .int .i64 0, .int .i64 0, .int .i64 0, .int .i64 0, .int .i64 0])) ∧ Hq i14 = some (.row 0 ([.int .i64 (((boxL ((l.drop (1 : Int).toNat).take i.toNat) (BoxT.mk (at_ l 0) (at_ l 0))).Lo).X), .int .i64 (((boxL ((l.drop (1 : Int).toNat).take i.toNat) (BoxT.mk (at_ l 0) (at_ l 0))).Lo).Y), .int .i64 (((boxL ((l.drop (1 : Int).toNat).take i.toNat) (BoxT.mk (at_ l 0) (at_ l 0))).Lo).Z), .int .i64 (((boxL ((l.drop (1 : Int).toNat).take i.toNat) (BoxT.mk (at_ l 0) (at_ l 0))).Hi).X), .int .i64 (((boxL ((l.drop (1 : Int).toNat).take i.toNat) (BoxT.mk (at_ l 0) (at_ l 0))).Hi).Y), .int .i64 (((boxL ((l.drop (1 : Int).toNat).take i.toNat) (BoxT.mk (at_ l 0) (at_ l 0))).Hi).Z)])) ∧ Mono H0 Hq ∧ (0 ≤ i) ∧ (i ≤ ((l.drop (1 : Int).toNat).length : Int))) (k := ((((l.drop (1 : Int).toNat).length : Int) : Int) - 0).toNat) ?_ ?_
  ·
   exact ⟨0, rfl, rfl, rfl, rfl, rfl, rfl, rfl, h28, (h26.trans (congrArg (fun c => some (AB.row 0 c)) (show ([.int .i64 ((at_ l 0).X), .int .i64 ((at_ l 0).Y), .int .i64 ((at_ l 0).Z), .int .i64 ((at_ l 0).X), .int .i64 ((at_ l 0).Y), .int .i64 ((at_ l 0).Z)] : List AV) = [.int .i64 (((boxL ((l.drop (1 : Int).toNat).take (0 : Int).toNat) (BoxT.mk (at_ l 0) (at_ l 0))).Lo).X), .int .i64 (((boxL ((l.drop (1 : Int).toNat).take (0 : Int).toNat) (BoxT.mk (at_ l 0) (at_ l 0))).Lo).Y), .int .i64 (((boxL ((l.drop (1 : Int).toNat).take (0 : Int).toNat) (BoxT.mk (at_ l 0) (at_ l 0))).Lo).Z), .int .i64 (((boxL ((l.drop (1 : Int).toNat).take (0 : Int).toNat) (BoxT.mk (at_ l 0) (at_ l 0))).Hi).X), .int .i64 (((boxL ((l.drop (1 : Int).toNat).take (0 : Int).toNat) (BoxT.mk (at_ l 0) (at_ l 0))).Hi).Y), .int .i64 (((boxL ((l.drop (1 : Int).toNat).take (0 : Int).toNat) (BoxT.mk (at_ l 0) (at_ l 0))).Hi).Z)] from by first | rfl | (rw [boxL_step (l := (l.drop (1 : Int).toNat)) (i := i) hi0 (by omega)])))), m30, by omega, by omega⟩
  ·
   rintro _ f33 H32 ⟨i, rfl, s34, s35, s36, s37, s38, s39, h40, h41, m42, hi0, hi1⟩
   refine AWP.seq ?_
   refine AWP.region (l := [0]) rfl ?_
   refine AOps.cons rfl rfl (AOp.bin (.bool (decide (i < (((l.drop (1 : Int).toNat).length) : Int)))) rfl s34 s39 rfl ?_)
   refine AOps.nil ?_
   change AWP _ _ _ _ _ _
   refine AWP.seq ?_
   by_cases b43 : i < (((l.drop (1 : Int).toNat).length) : Int)
   ·
    refine AWP.condT rfl (decide_eq_true b43) ?_
    refine AWP.skip ?_
    change AWP _ _ _ _ _ _
    refine AWP.seq ?_
    refine AWP.block ?_
    refine AWP.seq ?_
    refine AWP.region (l := [0, 1, 2, 3]) rfl ?_
    refine AOps.cons rfl rfl (AOp.indexAddrS rfl s38 s34 sl_34 (by omega) (by omega) ?_)
    refine AOps.cons rfl rfl (AOp.loadF (.agg [.int .i64 ((at_ (l.drop (1 : Int).toNat) i).X), .int .i64 ((at_ (l.drop (1 : Int).toNat) i).Y), .int .i64 ((at_ (l.drop (1 : Int).toNat) i).Z)]) rfl rfl ty_23 (ldM eV_len (by omega) (by omega)) ?_)
    refine AOps.cons rfl rfl (AOp.alloc rfl tz_23 ?_)
    intro i44 H45 n46 h47 k48
    have e49 := ne_new h40 n46
    have e50 := ne_new h41 n46
    have z51 := Mono.free m42 n46
    have h52 := keep k48 (ne_new h40 n46) h40
    have h53 := keep k48 (ne_new h41 n46) h41
    have m54 := Mono.new m42 n46 k48
    refine AOps.cons rfl rfl (AOp.store' (cells' := [.int .i64 ((at_ (l.drop (1 : Int).toNat) i).X), .int .i64 ((at_ (l.drop (1 : Int).toNat) i).Y), .int .i64 ((at_ (l.drop (1 : Int).toNat) i).Z)]) (.agg [.int .i64 ((at_ (l.drop (1 : Int).toNat) i).X), .int .i64 ((at_ (l.drop (1 : Int).toNat) i).Y), .int .i64 ((at_ (l.drop (1 : Int).toNat) i).Z)]) rfl rfl ts_23 h47 rfl rfl rfl rfl ?_)
    intro H55 h56 k57
    have h58 := keep k57 e49 h52
    have h59 := keep k57 e50 h53
    have m61 := Mono.set m54 z51 k57
    refine AOps.nil ?_
    change AWP _ _ _ _ _ _
    refine AWP.frzP 6 h56 z51 rfl m61 fun H62 m63 k64 => ?_
    have h65 := (k64 _ e49).trans h58
    have h66 := (k64 _ e50).trans h59
    refine AWP.region (l := [0, 1, 2, 3, 4, 5]) rfl ?_
    refine AOps.cons rfl rfl (AOp.load (.agg [.int .i64 (((boxL ((l.drop (1 : Int).toNat).take i.toNat) (BoxT.mk (at_ l 0) (at_ l 0))).Lo).X), .int .i64 (((boxL ((l.drop (1 : Int).toNat).take i.toNat) (BoxT.mk (at_ l 0) (at_ l 0))).Lo).Y), .int .i64 (((boxL ((l.drop (1 : Int).toNat).take i.toNat) (BoxT.mk (at_ l 0) (at_ l 0))).Lo).Z), .int .i64 (((boxL ((l.drop (1 : Int).toNat).take i.toNat) (BoxT.mk (at_ l 0) (at_ l 0))).Hi).X), .int .i64 (((boxL ((l.drop (1 : Int).toNat).take i.toNat) (BoxT.mk (at_ l 0) (at_ l 0))).Hi).Y), .int .i64 (((boxL ((l.drop (1 : Int).toNat).take i.toNat) (BoxT.mk (at_ l 0) (at_ l 0))).Hi).Z)]) rfl s37 ty_43 h66 rfl ?_)
    refine AOps.cons rfl rfl (AOp.loadF (.agg [.int .i64 ((at_ (l.drop (1 : Int).toNat) i).X), .int .i64 ((at_ (l.drop (1 : Int).toNat) i).Y), .int .i64 ((at_ (l.drop (1 : Int).toNat) i).Z)]) rfl rfl ty_23 rfl ?_)
    refine AOps.cons rfl rfl (AOp.loadF (.agg [.int .i64 ((at_ (l.drop (1 : Int).toNat) i).X), .int .i64 ((at_ (l.drop (1 : Int).toNat) i).Y), .int .i64 ((at_ (l.drop (1 : Int).toNat) i).Z)]) rfl rfl ty_23 rfl ?_)
    refine AOps.cons rfl rfl (AOp.build (cells := [.int .i64 ((at_ (l.drop (1 : Int).toNat) i).X), .int .i64 ((at_ (l.drop (1 : Int).toNat) i).Y), .int .i64 ((at_ (l.drop (1 : Int).toNat) i).Z), .int .i64 ((at_ (l.drop (1 : Int).toNat) i).X), .int .i64 ((at_ (l.drop (1 : Int).toNat) i).Y), .int .i64 ((at_ (l.drop (1 : Int).toNat) i).Z)]) rfl tz_43 pl_43 rfl rfl ?_)
    refine AOps.cons rfl rfl (AOp.pcall («as» := [.agg [.int .i64 (((boxL ((l.drop (1 : Int).toNat).take i.toNat) (BoxT.mk (at_ l 0) (at_ l 0))).Lo).X), .int .i64 (((boxL ((l.drop (1 : Int).toNat).take i.toNat) (BoxT.mk (at_ l 0) (at_ l 0))).Lo).Y), .int .i64 (((boxL ((l.drop (1 : Int).toNat).take i.toNat) (BoxT.mk (at_ l 0) (at_ l 0))).Lo).Z), .int .i64 (((boxL ((l.drop (1 : Int).toNat).take i.toNat) (BoxT.mk (at_ l 0) (at_ l 0))).Hi).X), .int .i64 (((boxL ((l.drop (1 : Int).toNat).take i.toNat) (BoxT.mk (at_ l 0) (at_ l 0))).Hi).Y), .int .i64 (((boxL ((l.drop (1 : Int).toNat).take i.toNat) (BoxT.mk (at_ l 0) (at_ l 0))).Hi).Z)], .agg [.int .i64 ((at_ (l.drop (1 : Int).toNat) i).X), .int .i64 ((at_ (l.drop (1 : Int).toNat) i).Y), .int .i64 ((at_ (l.drop (1 : Int).toNat) i).Z), .int .i64 ((at_ (l.drop (1 : Int).toNat) i).X), .int .i64 ((at_ (l.drop (1 : Int).toNat) i).Y), .int .i64 ((at_ (l.drop (1 : Int).toNat) i).Z)]]) rfl rfl (rfl) tf_76 (c_vec_Join (boxL ((l.drop (1 : Int).toNat).take i.toNat) (BoxT.mk (at_ l 0) (at_ l 0))) (BoxT.mk (at_ (l.drop (1 : Int).toNat) i) (at_ (l.drop (1 : Int).toNat) i))) ?_)
    intro H67 m68
    have h69 := m68 _ _ h65
    have h70 := m68 _ _ h66
    have m71 := m63.trans m68
    refine AOps.cons rfl rfl (AOp.store' (cells' := [.int .i64 (((R_vec_Join (boxL ((l.drop (1 : Int).toNat).take i.toNat) (BoxT.mk (at_ l 0) (at_ l 0))) (BoxT.mk (at_ (l.drop (1 : Int).toNat) i) (at_ (l.drop (1 : Int).toNat) i))).Lo).X), .int .i64 (((R_vec_Join (boxL ((l.drop (1 : Int).toNat).take i.toNat) (BoxT.mk (at_ l 0) (at_ l 0))) (BoxT.mk (at_ (l.drop (1 : Int).toNat) i) (at_ (l.drop (1 : Int).toNat) i))).Lo).Y), .int .i64 (((R_vec_Join (boxL ((l.drop (1 : Int).toNat).take i.toNat) (BoxT.mk (at_ l 0) (at_ l 0))) (BoxT.mk (at_ (l.drop (1 : Int).toNat) i) (at_ (l.drop (1 : Int).toNat) i))).Lo).Z), .int .i64 (((R_vec_Join (boxL ((l.drop (1 : Int).toNat).take i.toNat) (BoxT.mk (at_ l 0) (at_ l 0))) (BoxT.mk (at_ (l.drop (1 : Int).toNat) i) (at_ (l.drop (1 : Int).toNat) i))).Hi).X), .int .i64 (((R_vec_Join (boxL ((l.drop (1 : Int).toNat).take i.toNat) (BoxT.mk (at_ l 0) (at_ l 0))) (BoxT.mk (at_ (l.drop (1 : Int).toNat) i) (at_ (l.drop (1 : Int).toNat) i))).Hi).Y), .int .i64 (((R_vec_Join (boxL ((l.drop (1 : Int).toNat).take i.toNat) (BoxT.mk (at_ l 0) (at_ l 0))) (BoxT.mk (at_ (l.drop (1 : Int).toNat) i) (at_ (l.drop (1 : Int).toNat) i))).Hi).Z)]) (.agg [.int .i64 (((R_vec_Join (boxL ((l.drop (1 : Int).toNat).take i.toNat) (BoxT.mk (at_ l 0) (at_ l 0))) (BoxT.mk (at_ (l.drop (1 : Int).toNat) i) (at_ (l.drop (1 : Int).toNat) i))).Lo).X), .int .i64 (((R_vec_Join (boxL ((l.drop (1 : Int).toNat).take i.toNat) (BoxT.mk (at_ l 0) (at_ l 0))) (BoxT.mk (at_ (l.drop (1 : Int).toNat) i) (at_ (l.drop (1 : Int).toNat) i))).Lo).Y), .int .i64 (((R_vec_Join (boxL ((l.drop (1 : Int).toNat).take i.toNat) (BoxT.mk (at_ l 0) (at_ l 0))) (BoxT.mk (at_ (l.drop (1 : Int).toNat) i) (at_ (l.drop (1 : Int).toNat) i))).Lo).Z), .int .i64 (((R_vec_Join (boxL ((l.drop (1 : Int).toNat).take i.toNat) (BoxT.mk (at_ l 0) (at_ l 0))) (BoxT.mk (at_ (l.drop (1 : Int).toNat) i) (at_ (l.drop (1 : Int).toNat) i))).Hi).X), .int .i64 (((R_vec_Join (boxL ((l.drop (1 : Int).toNat).take i.toNat) (BoxT.mk (at_ l 0) (at_ l 0))) (BoxT.mk (at_ (l.drop (1 : Int).toNat) i) (at_ (l.drop (1 : Int).toNat) i))).Hi).Y), .int .i64 (((R_vec_Join (boxL ((l.drop (1 : Int).toNat).take i.toNat) (BoxT.mk (at_ l 0) (at_ l 0))) (BoxT.mk (at_ (l.drop (1 : Int).toNat) i) (at_ (l.drop (1 : Int).toNat) i))).Hi).Z)]) s37 rfl ts_43 h70 rfl rfl rfl rfl ?_)
    intro H72 h73 k74
    have h75 := keep k74 e20 h69
    have m77 := Mono.set m71 z21 k74
    refine AOps.nil ?_
    change AWP _ _ _ _ _ _
    refine AWP.region (l := [0, 1]) rfl ?_
    refine AOps.cons rfl rfl (AOp.bin (.int .i64 (i + 1)) rfl s34 rfl (iadd (by omega)) ?_)
    refine AOps.cons rfl rfl (AOp.move (.int .i64 (i + 1)) rfl rfl ?_)
    refine AOps.nil ?_
    exact ⟨_, by omega, i + 1, rfl, rfl, s35, s36, s37, s38, s39, h75, (h73.trans (congrArg (fun c => some (AB.row 0 c)) (show ([.int .i64 (((R_vec_Join (boxL ((l.drop (1 : Int).toNat).take i.toNat) (BoxT.mk (at_ l 0) (at_ l 0))) (BoxT.mk (at_ (l.drop (1 : Int).toNat) i) (at_ (l.drop (1 : Int).toNat) i))).Lo).X), .int .i64 (((R_vec_Join (boxL ((l.drop (1 : Int).toNat).take i.toNat) (BoxT.mk (at_ l 0) (at_ l 0))) (BoxT.mk (at_ (l.drop (1 : Int).toNat) i) (at_ (l.drop (1 : Int).toNat) i))).Lo).Y), .int .i64 (((R_vec_Join (boxL ((l.drop (1 : Int).toNat).take i.toNat) (BoxT.mk (at_ l 0) (at_ l 0))) (BoxT.mk (at_ (l.drop (1 : Int).toNat) i) (at_ (l.drop (1 : Int).toNat) i))).Lo).Z), .int .i64 (((R_vec_Join (boxL ((l.drop (1 : Int).toNat).take i.toNat) (BoxT.mk (at_ l 0) (at_ l 0))) (BoxT.mk (at_ (l.drop (1 : Int).toNat) i) (at_ (l.drop (1 : Int).toNat) i))).Hi).X), .int .i64 (((R_vec_Join (boxL ((l.drop (1 : Int).toNat).take i.toNat) (BoxT.mk (at_ l 0) (at_ l 0))) (BoxT.mk (at_ (l.drop (1 : Int).toNat) i) (at_ (l.drop (1 : Int).toNat) i))).Hi).Y), .int .i64 (((R_vec_Join (boxL ((l.drop (1 : Int).toNat).take i.toNat) (BoxT.mk (at_ l 0) (at_ l 0))) (BoxT.mk (at_ (l.drop (1 : Int).toNat) i) (at_ (l.drop (1 : Int).toNat) i))).Hi).Z)] : List AV) = [.int .i64 (((boxL ((l.drop (1 : Int).toNat).take (i + 1).toNat) (BoxT.mk (at_ l 0) (at_ l 0))).Lo).X), .int .i64 (((boxL ((l.drop (1 : Int).toNat).take (i + 1).toNat) (BoxT.mk (at_ l 0) (at_ l 0))).Lo).Y), .int .i64 (((boxL ((l.drop (1 : Int).toNat).take (i + 1).toNat) (BoxT.mk (at_ l 0) (at_ l 0))).Lo).Z), .int .i64 (((boxL ((l.drop (1 : Int).toNat).take (i + 1).toNat) (BoxT.mk (at_ l 0) (at_ l 0))).Hi).X), .int .i64 (((boxL ((l.drop (1 : Int).toNat).take (i + 1).toNat) (BoxT.mk (at_ l 0) (at_ l 0))).Hi).Y), .int .i64 (((boxL ((l.drop (1 : Int).toNat).take (i + 1).toNat) (BoxT.mk (at_ l 0) (at_ l 0))).Hi).Z)] from by first | rfl | (rw [boxL_step (l := (l.drop (1 : Int).toNat)) (i := i) hi0 (by omega)])))), m77, by omega, by omega⟩
   ·
    refine AWP.condF rfl (decide_eq_false b43) ?_
    refine AWP.exit ?_
    change AWP _ _ _ _ _ _
    refine AWP.seq ?_
    refine AWP.region (l := [0, 1, 2]) rfl ?_
    refine AOps.cons rfl rfl (AOp.load (.agg [.int .i64 (((boxL ((l.drop (1 : Int).toNat).take i.toNat) (BoxT.mk (at_ l 0) (at_ l 0))).Lo).X), .int .i64 (((boxL ((l.drop (1 : Int).toNat).take i.toNat) (BoxT.mk (at_ l 0) (at_ l 0))).Lo).Y), .int .i64 (((boxL ((l.drop (1 : Int).toNat).take i.toNat) (BoxT.mk (at_ l 0) (at_ l 0))).Lo).Z), .int .i64 (((boxL ((l.drop (1 : Int).toNat).take i.toNat) (BoxT.mk (at_ l 0) (at_ l 0))).Hi).X), .int .i64 (((boxL ((l.drop (1 : Int).toNat).take i.toNat) (BoxT.mk (at_ l 0) (at_ l 0))).Hi).Y), .int .i64 (((boxL ((l.drop (1 : Int).toNat).take i.toNat) (BoxT.mk (at_ l 0) (at_ l 0))).Hi).Z)]) rfl s37 ty_43 h41 rfl ?_)
    refine AOps.cons rfl rfl (AOp.store' (cells' := [.int .i64 (((boxL ((l.drop (1 : Int).toNat).take i.toNat) (BoxT.mk (at_ l 0) (at_ l 0))).Lo).X), .int .i64 (((boxL ((l.drop (1 : Int).toNat).take i.toNat) (BoxT.mk (at_ l 0) (at_ l 0))).Lo).Y), .int .i64 (((boxL ((l.drop (1 : Int).toNat).take i.toNat) (BoxT.mk (at_ l 0) (at_ l 0))).Lo).Z), .int .i64 (((boxL ((l.drop (1 : Int).toNat).take i.toNat) (BoxT.mk (at_ l 0) (at_ l 0))).Hi).X), .int .i64 (((boxL ((l.drop (1 : Int).toNat).take i.toNat) (BoxT.mk (at_ l 0) (at_ l 0))).Hi).Y), .int .i64 (((boxL ((l.drop (1 : Int).toNat).take i.toNat) (BoxT.mk (at_ l 0) (at_ l 0))).Hi).Z)]) (.agg [.int .i64 (((boxL ((l.drop (1 : Int).toNat).take i.toNat) (BoxT.mk (at_ l 0) (at_ l 0))).Lo).X), .int .i64 (((boxL ((l.drop (1 : Int).toNat).take i.toNat) (BoxT.mk (at_ l 0) (at_ l 0))).Lo).Y), .int .i64 (((boxL ((l.drop (1 : Int).toNat).take i.toNat) (BoxT.mk (at_ l 0) (at_ l 0))).Lo).Z), .int .i64 (((boxL ((l.drop (1 : Int).toNat).take i.toNat) (BoxT.mk (at_ l 0) (at_ l 0))).Hi).X), .int .i64 (((boxL ((l.drop (1 : Int).toNat).take i.toNat) (BoxT.mk (at_ l 0) (at_ l 0))).Hi).Y), .int .i64 (((boxL ((l.drop (1 : Int).toNat).take i.toNat) (BoxT.mk (at_ l 0) (at_ l 0))).Hi).Z)]) s35 rfl ts_43 h40 rfl rfl rfl rfl ?_)
    intro H78 h79 k80
    have h82 := keep k80 (Ne.symm e20) h41
    have m83 := Mono.set m42 z6 k80
    refine AOps.cons rfl rfl (AOp.assign (.bool true) rfl rfl ?_)
    refine AOps.nil ?_
    change AWP _ _ _ _ _ _
    refine AWP.ret ?_
    refine ⟨_, _, Ghost.refl, .inr rfl, _, Res.list rfl rfl (.cell (v := .agg [.int .i64 (((boxL ((l.drop (1 : Int).toNat).take i.toNat) (BoxT.mk (at_ l 0) (at_ l 0))).Lo).X), .int .i64 (((boxL ((l.drop (1 : Int).toNat).take i.toNat) (BoxT.mk (at_ l 0) (at_ l 0))).Lo).Y), .int .i64 (((boxL ((l.drop (1 : Int).toNat).take i.toNat) (BoxT.mk (at_ l 0) (at_ l 0))).Lo).Z), .int .i64 (((boxL ((l.drop (1 : Int).toNat).take i.toNat) (BoxT.mk (at_ l 0) (at_ l 0))).Hi).X), .int .i64 (((boxL ((l.drop (1 : Int).toNat).take i.toNat) (BoxT.mk (at_ l 0) (at_ l 0))).Hi).Y), .int .i64 (((boxL ((l.drop (1 : Int).toNat).take i.toNat) (BoxT.mk (at_ l 0) (at_ l 0))).Hi).Z)]) s35 ty_43 h79 rfl (.tmp rfl (.nil))), ?_, m83⟩
    exact congrArg AV.tup (lc (congrArg AV.agg (lc (congrArg (AV.int .i64) (show (((boxL ((l.drop (1 : Int).toNat).take i.toNat) (BoxT.mk (at_ l 0) (at_ l 0))).Lo).X : Int) = (((boundR l).1).Lo).X from by rw [← bound_drop (i := i) b8 (by omega)])) (lc (congrArg (AV.int .i64) (show (((boxL ((l.drop (1 : Int).toNat).take i.toNat) (BoxT.mk (at_ l 0) (at_ l 0))).Lo).Y : Int) = (((boundR l).1).Lo).Y from by rw [← bound_drop (i := i) b8 (by omega)])) (lc (congrArg (AV.int .i64) (show (((boxL ((l.drop (1 : Int).toNat).take i.toNat) (BoxT.mk (at_ l 0) (at_ l 0))).Lo).Z : Int) = (((boundR l).1).Lo).Z from by rw [← bound_drop (i := i) b8 (by omega)])) (lc (congrArg (AV.int .i64) (show (((boxL ((l.drop (1 : Int).toNat).take i.toNat) (BoxT.mk (at_ l 0) (at_ l 0))).Hi).X : Int) = (((boundR l).1).Hi).X from by rw [← bound_drop (i := i) b8 (by omega)])) (lc (congrArg (AV.int .i64) (show (((boxL ((l.drop (1 : Int).toNat).take i.toNat) (BoxT.mk (at_ l 0) (at_ l 0))).Hi).Y : Int) = (((boundR l).1).Hi).Y from by rw [← bound_drop (i := i) b8 (by omega)])) (lc (congrArg (AV.int .i64) (show (((boxL ((l.drop (1 : Int).toNat).take i.toNat) (BoxT.mk (at_ l 0) (at_ l 0))).Hi).Z : Int) = (((boundR l).1).Hi).Z from by rw [← bound_drop (i := i) b8 (by omega)])) rfl))))))) (lc (congrArg AV.bool (show (true : Bool) = (boundR l).2 from by rw [← bound_drop (i := i) b8 (by omega)])) rfl))
end Go.Proofs.M
namespace Go.Proofs.M
open Go Go.AH
theorem min3L (a b c : Int) : minL [a, b, c] = min (min a b) c := by
  show min (min (min a a) b) c = _
  rw [Int.min_self]
theorem max3L (a b c : Int) : maxL [a, b, c] = max (max a b) c := by
  show max (max (max a a) b) c = _
  rw [Int.max_self]
theorem bound_in {l : List VT} {B : Int} (h : ∀ i : Int, 0 ≤ i → i < l.length → inV B (at_ l i)) (hl : 1 ≤ l.length) : inV B (boundR l).1.Lo ∧ inV B (boundR l).1.Hi := by
  have key : ∀ (l : List VT) (b : BoxT), inV B b.Lo → inV B b.Hi → (∀ v ∈ l, inV B v) → inV B (boxL l b).Lo ∧ inV B (boxL l b).Hi := by
    intro l
    induction l with
    | nil => intro b h1 h2 _; exact ⟨h1, h2⟩
    | cons a l ih =>
      intro b h1 h2 h3
      unfold boxL
      rw [List.foldl_cons]
      have ha := h3 a (.head _)
      refine ih _ ?_ ?_ fun v hv => h3 v (.tail _ hv)
      · obtain ⟨a1, a2, a3, a4, a5, a6⟩ := ha; obtain ⟨b1, b2, b3, b4, b5, b6⟩ := h1
        simp only [R_vec_Join, inV]; omega
      · obtain ⟨a1, a2, a3, a4, a5, a6⟩ := ha; obtain ⟨b1, b2, b3, b4, b5, b6⟩ := h2
        simp only [R_vec_Join, inV]; omega
  unfold boundR
  rw [if_neg (by omega)]
  have h0 := h 0 (by omega) (by omega)
  refine key l _ h0 h0 fun v hv => ?_
  obtain ⟨i, i0, i1, rfl⟩ := mem_at hv
  exact h i i0 i1
def ranM (m : MeshT) : Prop := (∀ v ∈ m.Verts, ranV v) ∧ (∀ k ∈ m.Keys, ranK k) ∧ ∀ t ∈ m.Tris, ranI3 t
end Go.Proofs.M
namespace Go.Proofs.M
open Go Go.AH
set_option maxRecDepth 4000
set_option linter.unusedSimpArgs false
set_option linter.unusedVariables false
def R_mesh_fine (p : PatchT) (s : SkinT) : Int :=
  if s.Unit < 1 then 11 else (if s.Height < 0 then 11 else (if s.Height > 255 then 11 else (if allIn p.aP 60000 = true then (if allIn p.aNormals 1023 = true then 0 else 21) else 21)))
theorem fine_ok {p : PatchT} {s : SkinT} (h : R_mesh_fine p s = 0) : 1 ≤ s.Unit ∧ 0 ≤ s.Height ∧ s.Height ≤ 255 ∧ allIn p.aP 60000 = true ∧ allIn p.aNormals 1023 = true := by
  unfold R_mesh_fine at h
  split at h
  · omega
  · split at h
    · omega
    · split at h
      · omega
      · split at h
        · rename_i a
          split at h
          · rename_i b; exact ⟨by omega, by omega, by omega, a, b⟩
          · omega
        · omega
theorem c_mesh_fine (p : PatchT) (s : SkinT) : PC Tryd.prog 23 [.agg (p.aP.flatMap eV ++ (p.aCorners.map eI ++ (p.aNormals.flatMap eV ++ [.int .i64 p.Skin]))), .agg [.str s.Name, .int .i64 s.Mat, .int .i64 s.Levels, .int .i64 s.Unit, .int .i64 s.Tex, .int .i64 s.Height]] (.int .i64 (R_mesh_fine p s)) := by
 intro H0
 refine ACalls.of_body' (n := 33) rfl rfl rfl rfl ?_
 have m0 := Mono.refl H0
 refine AWP.seq ?_
 refine AWP.region (l := [0, 1, 2]) rfl ?_
 refine AOps.cons rfl rfl (AOp.box (.agg (p.aP.flatMap eV ++ (p.aCorners.map eI ++ (p.aNormals.flatMap eV ++ [.int .i64 p.Skin])))) rfl rfl rfl ?_)
 intro i1 H2 n3 h4 k5
 have z6 := Mono.free m0 n3
 have m7 := Mono.new m0 n3 k5
 refine AOps.cons rfl rfl (AOp.box (.agg [.str s.Name, .int .i64 s.Mat, .int .i64 s.Levels, .int .i64 s.Unit, .int .i64 s.Tex, .int .i64 s.Height]) rfl rfl rfl ?_)
 intro i8 H9 n10 h11 k12
 have e13 := ne_new h4 n10
 have z14 := Mono.free m7 n10
 have h15 := keep k12 (ne_new h4 n10) h4
 have m16 := Mono.new m7 n10 k12
 refine AOps.cons rfl rfl (AOp.assign (.int .i64 0) rfl rfl ?_)
 refine AOps.nil ?_
 change AWP _ _ _ _ _ _
 refine AWP.seq ?_
 refine AWP.frzP 2 h15 z6 rfl m16 fun H17 m18 k19 => ?_
 have h20 := (k19 _ (Ne.symm e13)).trans h11
 refine AWP.frzP 3 h20 z14 rfl m18 fun H21 m22 k23 => ?_
 refine AWP.region (l := [0]) rfl ?_
 refine AOps.cons rfl rfl (AOp.assign (.fn 43 []) rfl rfl ?_)
 refine AOps.nil ?_
 change AWP _ _ _ _ _ _
 refine AWP.seq ?_
 refine AWP.block ?_
 refine AWP.seq ?_
 refine AWP.region (l := [0, 1, 2, 3, 4, 5, 6, 7, 8, 9, 10, 11, 12, 13]) rfl ?_
 refine AOps.cons rfl rfl (AOp.fieldAddrF rfl rfl fl_30_3 ?_)
 refine AOps.cons rfl rfl (AOp.loadF (.int .i64 s.Unit) rfl rfl ty_3 rfl ?_)
 refine AOps.cons rfl rfl (AOp.bin (.bool (decide (s.Unit < 1))) rfl rfl rfl rfl ?_)
 refine AOps.cons rfl rfl (AOp.move (.bool (decide (s.Unit < 1))) rfl rfl ?_)
 by_cases b24 : s.Unit < 1
 ·
  refine AOps.no rfl rfl rfl rfl rfl rfl rfl (ble_of (decide_eq_true b24) (by decide)) ?_
  refine AOps.no rfl rfl rfl rfl rfl rfl rfl (ble_of (decide_eq_true b24) (by decide)) ?_
  refine AOps.no rfl rfl rfl rfl rfl rfl rfl (ble_of (decide_eq_true b24) (by decide)) ?_
  refine AOps.cons rfl rfl (AOp.pickT (.bool true) rfl rfl (decide_eq_true b24) rfl ?_)
  refine AOps.cons rfl rfl (AOp.move (.bool true) rfl rfl ?_)
  refine AOps.no rfl rfl rfl rfl rfl rfl rfl (ble_of rfl (by decide)) ?_
  refine AOps.no rfl rfl rfl rfl rfl rfl rfl (ble_of rfl (by decide)) ?_
  refine AOps.no rfl rfl rfl rfl rfl rfl rfl (ble_of rfl (by decide)) ?_
  refine AOps.cons rfl rfl (AOp.pickT (.bool true) rfl rfl rfl rfl ?_)
  refine AOps.cons rfl rfl (AOp.assign (.bool true) rfl rfl ?_)
  refine AOps.nil ?_
  change AWP _ _ _ _ _ _
  refine AWP.condT rfl rfl ?_
  refine AWP.seq ?_
  refine AWP.region (l := [0]) rfl ?_
  refine AOps.cons rfl rfl (AOp.assign (.int .i64 11) rfl rfl ?_)
  refine AOps.nil ?_
  change AWP _ _ _ _ _ _
  refine AWP.ret ?_
  refine ⟨_, _, Ghost.refl, .inr rfl, _, Res.one rfl rfl, ?_, m22⟩
  have hR : R_mesh_fine p s = 11 := by unfold R_mesh_fine; rw [if_pos b24]
  exact (congrArg (fun r : Int => (.int .i64 r : AV)) hR).symm
 ·
  refine AOps.yes rfl rfl rfl rfl rfl rfl rfl (decide_eq_false b24) (AOp.fieldAddrF rfl rfl fl_30_5 ?_)
  refine AOps.yes rfl rfl rfl rfl rfl rfl rfl (decide_eq_false b24) (AOp.loadF (.int .i64 s.Height) rfl rfl ty_3 rfl ?_)
  refine AOps.yes rfl rfl rfl rfl rfl rfl rfl (decide_eq_false b24) (AOp.bin (.bool (decide (s.Height < 0))) rfl rfl rfl rfl ?_)
  refine AOps.cons rfl rfl (AOp.pickF (.bool (decide (s.Height < 0))) rfl rfl (decide_eq_false b24) rfl ?_)
  refine AOps.cons rfl rfl (AOp.move (.bool (decide (s.Height < 0))) rfl rfl ?_)
  by_cases b25 : s.Height < 0
  ·
   refine AOps.no rfl rfl rfl rfl rfl rfl rfl (ble_of (decide_eq_true b25) (by decide)) ?_
   refine AOps.no rfl rfl rfl rfl rfl rfl rfl (ble_of (decide_eq_true b25) (by decide)) ?_
   refine AOps.no rfl rfl rfl rfl rfl rfl rfl (ble_of (decide_eq_true b25) (by decide)) ?_
   refine AOps.cons rfl rfl (AOp.pickT (.bool true) rfl rfl (decide_eq_true b25) rfl ?_)
   refine AOps.cons rfl rfl (AOp.assign (.bool true) rfl rfl ?_)
   refine AOps.nil ?_
   change AWP _ _ _ _ _ _
   refine AWP.condT rfl rfl ?_
   refine AWP.seq ?_
   refine AWP.region (l := [0]) rfl ?_
   refine AOps.cons rfl rfl (AOp.assign (.int .i64 11) rfl rfl ?_)
   refine AOps.nil ?_
   change AWP _ _ _ _ _ _
   refine AWP.ret ?_
   refine ⟨_, _, Ghost.refl, .inr rfl, _, Res.one rfl rfl, ?_, m22⟩
   have hR : R_mesh_fine p s = 11 := by unfold R_mesh_fine; rw [if_neg b24, if_pos b25]
   exact (congrArg (fun r : Int => (.int .i64 r : AV)) hR).symm
  ·
   refine AOps.yes rfl rfl rfl rfl rfl rfl rfl (decide_eq_false b25) (AOp.fieldAddrF rfl rfl fl_30_5 ?_)
   refine AOps.yes rfl rfl rfl rfl rfl rfl rfl (decide_eq_false b25) (AOp.loadF (.int .i64 s.Height) rfl rfl ty_3 rfl ?_)
   refine AOps.yes rfl rfl rfl rfl rfl rfl rfl (decide_eq_false b25) (AOp.bin (.bool (decide (s.Height > 255))) rfl rfl rfl rfl ?_)
   refine AOps.cons rfl rfl (AOp.pickF (.bool (decide (s.Height > 255))) rfl rfl (decide_eq_false b25) rfl ?_)
   refine AOps.cons rfl rfl (AOp.assign (.bool (decide (s.Height > 255))) rfl rfl ?_)
   refine AOps.nil ?_
   change AWP _ _ _ _ _ _
   by_cases b26 : s.Height > 255
   ·
    refine AWP.condT rfl (decide_eq_true b26) ?_
    refine AWP.seq ?_
    refine AWP.region (l := [0]) rfl ?_
    refine AOps.cons rfl rfl (AOp.assign (.int .i64 11) rfl rfl ?_)
    refine AOps.nil ?_
    change AWP _ _ _ _ _ _
    refine AWP.ret ?_
    refine ⟨_, _, Ghost.refl, .inr rfl, _, Res.one rfl rfl, ?_, m22⟩
    have hR : R_mesh_fine p s = 11 := by unfold R_mesh_fine; rw [if_neg b24, if_neg b25, if_pos b26]
    exact (congrArg (fun r : Int => (.int .i64 r : AV)) hR).symm
   ·
    refine AWP.condF rfl (decide_eq_false b26) ?_
    refine AWP.seq ?_
    refine AWP.region_quiet mixed (by kernel_rfl) 13 [] rfl (by kernel_rfl) (Mono H21) (Mono.refl _) ?_
    refine QE.op rfl rfl (.inl ⟨rfl, fun f' H' hf hM => AOp.fieldAddrF rfl ((hf 2 rfl).trans rfl) fl_28_0 ⟨rfl, hM⟩⟩) ?_
    refine QE.op rfl rfl (.inl ⟨rfl, fun f' H' hf hM => AOp.sliceAF rfl ((hf 21 rfl).trans rfl) ar_24 p.lP (SubAt.fst SubAt.all) ⟨rfl, hM⟩⟩) ?_
    refine QE.op rfl rfl (.inl ⟨rfl, fun f' H' hf hM => AOp.move (.fn 43 []) rfl ((hf 5 rfl).trans rfl) ⟨rfl, hM⟩⟩) ?_
    refine QE.op rfl rfl (.inl ⟨rfl, fun f' H' hf hM => AOp.pcall («as» := [.int .i64 60000]) rfl ((hf 23 rfl).trans rfl) (rfl) tf_43 (c_far1 60000) fun H2 m2 => ⟨rfl, hM.trans m2⟩⟩) ?_
    refine QE.op rfl rfl (.inl ⟨rfl, fun f' H' hf hM => AOp.pcall («as» := [.sl p.aP.length (p.aP.flatMap eV), .fn 44 [.fptr [.int .i64 60000] 0]]) rfl rfl (lapp (lcons ((hf 22 rfl).trans rfl) (lcons ((hf 24 rfl).trans rfl) rfl)) rfl) tf_45 (c_anyF p.aP (by first | (have := p.lP; omega) | simp) 60000 (by omega)) fun H2 m2 => ⟨rfl, hM.trans m2⟩⟩) ?_
    refine QE.op rfl rfl (.inl ⟨rfl, fun f' H' hf hM => AOp.move (.bool (!(allIn p.aP 60000))) rfl ((hf 25 rfl).trans rfl) ⟨rfl, hM⟩⟩) ?_
    rcases Bool.eq_false_or_eq_true (allIn p.aP 60000) with b27 | b27
    ·
     refine QE.op rfl rfl (QOp.yes rfl rfl rfl rfl (nb b27) fun f' H' hf hM => AOp.fieldAddrF rfl ((hf 2 rfl).trans rfl) fl_28_2 ⟨rfl, hM⟩) ?_
     refine QE.op rfl rfl (QOp.yes rfl rfl rfl rfl (nb b27) fun f' H' hf hM => AOp.sliceAF rfl ((hf 27 rfl).trans rfl) ar_26 p.lNormals (SubAt.skip (off' := 4) (lenM eV_len p.lP rfl) (by omega) (SubAt.skip (off' := 0) (len1 p.lCorners) (by omega) (SubAt.fst SubAt.all))) ⟨rfl, hM⟩) ?_
     refine QE.op rfl rfl (QOp.yes rfl rfl rfl rfl (nb b27) fun f' H' hf hM => AOp.move (.fn 43 []) rfl ((hf 5 rfl).trans rfl) ⟨rfl, hM⟩) ?_
     refine QE.op rfl rfl (QOp.yes rfl rfl rfl rfl (nb b27) fun f' H' hf hM => AOp.pcall («as» := [.int .i64 1023]) rfl ((hf 29 rfl).trans rfl) (rfl) tf_43 (c_far1 1023) fun H2 m2 => ⟨rfl, hM.trans m2⟩) ?_
     refine QE.op rfl rfl (QOp.yes rfl rfl rfl rfl (nb b27) fun f' H' hf hM => AOp.pcall («as» := [.sl p.aNormals.length (p.aNormals.flatMap eV), .fn 44 [.fptr [.int .i64 1023] 0]]) rfl rfl (lapp (lcons ((hf 28 rfl).trans rfl) (lcons ((hf 30 rfl).trans rfl) rfl)) rfl) tf_45 (c_anyF p.aNormals (by first | (have := p.lNormals; omega) | simp) 1023 (by omega)) fun H2 m2 => ⟨rfl, hM.trans m2⟩) ?_
     refine QE.op rfl rfl (.inl ⟨rfl, fun f' H' hf hM => AOp.pickF (.bool (!(allIn p.aNormals 1023))) rfl ((hf 26 rfl).trans rfl) (nb b27) ((hf 31 rfl).trans rfl) ⟨rfl, hM⟩⟩) ?_
     refine QE.op rfl rfl (.inl ⟨rfl, fun f' H' hf hM => AOp.assign (.bool (!(allIn p.aNormals 1023))) rfl ((hf 32 rfl).trans rfl) ⟨rfl, hM⟩⟩) ?_
     refine QE.done fun H28 m29 => ?_
     have m30 := m22.trans m29
     refine AOps.nil ?_
     change AWP _ _ _ _ _ _
     rcases Bool.eq_false_or_eq_true (allIn p.aNormals 1023) with b31 | b31
     ·
      refine AWP.condF rfl (nb b31) ?_
      refine AWP.skip ?_
      change AWP _ _ _ _ _ _
      refine AWP.seq ?_
      refine AWP.region (l := [0]) rfl ?_
      refine AOps.cons rfl rfl (AOp.assign (.int .i64 0) rfl rfl ?_)
      refine AOps.nil ?_
      change AWP _ _ _ _ _ _
      refine AWP.ret ?_
      refine ⟨_, _, Ghost.refl, .inr rfl, _, Res.one rfl rfl, ?_, m30⟩
      have hR : R_mesh_fine p s = 0 := by unfold R_mesh_fine; rw [if_neg b24, if_neg b25, if_neg b26, if_pos b27, if_pos b31]
      exact (congrArg (fun r : Int => (.int .i64 r : AV)) hR).symm
     ·
      refine AWP.condT rfl (nb b31) ?_
      refine AWP.seq ?_
      refine AWP.region (l := [0]) rfl ?_
      refine AOps.cons rfl rfl (AOp.assign (.int .i64 21) rfl rfl ?_)
      refine AOps.nil ?_
      change AWP _ _ _ _ _ _
      refine AWP.ret ?_
      refine ⟨_, _, Ghost.refl, .inr rfl, _, Res.one rfl rfl, ?_, m30⟩
      have hR : R_mesh_fine p s = 21 := by unfold R_mesh_fine; rw [if_neg b24, if_neg b25, if_neg b26, if_pos b27, if_neg (ff b31)]
      exact (congrArg (fun r : Int => (.int .i64 r : AV)) hR).symm
    ·
     refine QE.op rfl rfl (QOp.no rfl rfl rfl rfl (ble_of (nb b27) (by decide)) rfl) ?_
     refine QE.op rfl rfl (QOp.no rfl rfl rfl rfl (ble_of (nb b27) (by decide)) rfl) ?_
     refine QE.op rfl rfl (QOp.no rfl rfl rfl rfl (ble_of (nb b27) (by decide)) rfl) ?_
     refine QE.op rfl rfl (QOp.no rfl rfl rfl rfl (ble_of (nb b27) (by decide)) rfl) ?_
     refine QE.op rfl rfl (QOp.no rfl rfl rfl rfl (ble_of (nb b27) (by decide)) rfl) ?_
     refine QE.op rfl rfl (.inl ⟨rfl, fun f' H' hf hM => AOp.pickT (.bool true) rfl ((hf 26 rfl).trans rfl) (nb b27) rfl ⟨rfl, hM⟩⟩) ?_
     refine QE.op rfl rfl (.inl ⟨rfl, fun f' H' hf hM => AOp.assign (.bool true) rfl ((hf 32 rfl).trans rfl) ⟨rfl, hM⟩⟩) ?_
     refine QE.done fun H32 m33 => ?_
     have m34 := m22.trans m33
     refine AOps.nil ?_
     change AWP _ _ _ _ _ _
     refine AWP.condT rfl rfl ?_
     refine AWP.seq ?_
     refine AWP.region (l := [0]) rfl ?_
     refine AOps.cons rfl rfl (AOp.assign (.int .i64 21) rfl rfl ?_)
     refine AOps.nil ?_
     change AWP _ _ _ _ _ _
     refine AWP.ret ?_
     refine ⟨_, _, Ghost.refl, .inr rfl, _, Res.one rfl rfl, ?_, m34⟩
     have hR : R_mesh_fine p s = 21 := by unfold R_mesh_fine; rw [if_neg b24, if_neg b25, if_neg b26, if_neg (ff b27)]
     exact (congrArg (fun r : Int => (.int .i64 r : AV)) hR).symm
def R_mesh_Bounds (p : PatchT) (s : SkinT) : BoxT × Int :=
  if R_mesh_fine p s = 0 then ((BoxT.mk (R_vec_Sub (((boundR p.aP).1).Lo) (VT.mk (s.Height + 2) (s.Height + 2) (s.Height + 2))) (R_vec_Add (((boundR p.aP).1).Hi) (VT.mk (s.Height + 2) (s.Height + 2) (s.Height + 2)))), 0) else ((BoxT.mk (VT.mk 0 0 0) (VT.mk 0 0 0)), R_mesh_fine p s)
theorem c_mesh_Bounds (p : PatchT) (s : SkinT) : PC Tryd.prog 13 [.agg (p.aP.flatMap eV ++ (p.aCorners.map eI ++ (p.aNormals.flatMap eV ++ [.int .i64 p.Skin]))), .agg [.str s.Name, .int .i64 s.Mat, .int .i64 s.Levels, .int .i64 s.Unit, .int .i64 s.Tex, .int .i64 s.Height]] (.tup [.agg [.int .i64 ((((R_mesh_Bounds p s).1).Lo).X), .int .i64 ((((R_mesh_Bounds p s).1).Lo).Y), .int .i64 ((((R_mesh_Bounds p s).1).Lo).Z), .int .i64 ((((R_mesh_Bounds p s).1).Hi).X), .int .i64 ((((R_mesh_Bounds p s).1).Hi).Y), .int .i64 ((((R_mesh_Bounds p s).1).Hi).Z)], .int .i64 ((R_mesh_Bounds p s).2)]) := by
 intro H0
 refine ACalls.of_body' (n := 40) rfl rfl rfl rfl ?_
 have m0 := Mono.refl H0
 refine AWP.seq ?_
 refine AWP.region (l := [0, 1, 2, 3]) rfl ?_
 refine AOps.cons rfl rfl (AOp.box (.agg (p.aP.flatMap eV ++ (p.aCorners.map eI ++ (p.aNormals.flatMap eV ++ [.int .i64 p.Skin])))) rfl rfl rfl ?_)
 intro i1 H2 n3 h4 k5
 have z6 := Mono.free m0 n3
 have m7 := Mono.new m0 n3 k5
 refine AOps.cons rfl rfl (AOp.box (.agg [.str s.Name, .int .i64 s.Mat, .int .i64 s.Levels, .int .i64 s.Unit, .int .i64 s.Tex, .int .i64 s.Height]) rfl rfl rfl ?_)
 intro i8 H9 n10 h11 k12
 have e13 := ne_new h4 n10
 have z14 := Mono.free m7 n10
 have h15 := keep k12 (ne_new h4 n10) h4
 have m16 := Mono.new m7 n10 k12
 refine AOps.cons rfl rfl (AOp.alloc rfl tz_43 ?_)
 intro i17 H18 n19 h20 k21
 have e22 := ne_new h15 n19
 have e23 := ne_new h11 n19
 have z24 := Mono.free m16 n19
 have h25 := keep k21 (ne_new h15 n19) h15
 have h26 := keep k21 (ne_new h11 n19) h11
 have m27 := Mono.new m16 n19 k21
 refine AOps.cons rfl rfl (AOp.assign (.int .i64 0) rfl rfl ?_)
 refine AOps.nil ?_
 change AWP _ _ _ _ _ _
 refine AWP.seq ?_
 refine AWP.seq ?_
 refine AWP.frzP 2 h25 z6 rfl m27 fun H28 m29 k30 => ?_
 have h31 := (k30 _ (Ne.symm e13)).trans h26
 have h32 := (k30 _ (Ne.symm e22)).trans h20
 refine AWP.frzP 3 h31 z14 rfl m29 fun H33 m34 k35 => ?_
 have h36 := (k35 _ (Ne.symm e23)).trans h32
 refine AWP.region (l := [0, 1, 2, 3]) rfl ?_
 refine AOps.cons rfl rfl (AOp.loadF (.agg (p.aP.flatMap eV ++ (p.aCorners.map eI ++ (p.aNormals.flatMap eV ++ [.int .i64 p.Skin])))) rfl rfl ty_28 (ld_all (len_app (m := 48) (n := 17) (k := 65) (lenM eV_len p.lP rfl) (len_app (m := 4) (n := 13) (k := 17) (len1 p.lCorners) (len_app (m := 12) (n := 1) (k := 13) (lenM eV_len p.lNormals rfl) rfl rfl) rfl) rfl)) ?_)
 refine AOps.cons rfl rfl (AOp.loadF (.agg [.str s.Name, .int .i64 s.Mat, .int .i64 s.Levels, .int .i64 s.Unit, .int .i64 s.Tex, .int .i64 s.Height]) rfl rfl ty_30 rfl ?_)
 refine AOps.cons rfl rfl (AOp.pcall («as» := [.agg (p.aP.flatMap eV ++ (p.aCorners.map eI ++ (p.aNormals.flatMap eV ++ [.int .i64 p.Skin]))), .agg [.str s.Name, .int .i64 s.Mat, .int .i64 s.Levels, .int .i64 s.Unit, .int .i64 s.Tex, .int .i64 s.Height]]) rfl rfl (rfl) tf_23 (c_mesh_fine p s) ?_)
 intro H37 m38
 have h39 := m38 _ _ h36
 have m40 := m34.trans m38
 refine AOps.cons rfl rfl (AOp.assign (.int .i64 (R_mesh_fine p s)) rfl rfl ?_)
 refine AOps.nil ?_
 change AWP _ _ _ _ _ _
 refine AWP.seq ?_
 refine AWP.region (l := [0, 1]) rfl ?_
 refine AOps.cons rfl rfl (AOp.move (.int .i64 (R_mesh_fine p s)) rfl rfl ?_)
 refine AOps.cons rfl rfl (AOp.bin (.bool (!decide (R_mesh_fine p s = 0))) rfl rfl rfl ine ?_)
 refine AOps.nil ?_
 change AWP _ _ _ _ _ _
 by_cases b41 : R_mesh_fine p s = 0
 ·
  refine AWP.condF rfl (nb (decide_eq_true b41)) ?_
  refine AWP.skip ?_
  change AWP _ _ _ _ _ _
  refine AWP.seq ?_
  have hl := p.lP
  refine AWP.region (l := [0, 1, 2, 3, 4, 5, 6, 7, 8]) rfl ?_
  refine AOps.cons rfl rfl (AOp.fieldAddrF rfl rfl fl_28_0 ?_)
  refine AOps.cons rfl rfl (AOp.sliceAF rfl rfl ar_24 p.lP (SubAt.fst SubAt.all) ?_)
  refine AOps.cons rfl rfl (AOp.pcall («as» := [.sl p.aP.length (p.aP.flatMap eV)]) rfl rfl (rfl) tf_36 (c_vec_Bound p.aP (by first | (have := p.lP; omega) | simp)) ?_)
  intro H42 m43
  have h44 := m43 _ _ h39
  have m45 := m40.trans m43
  refine AOps.cons rfl rfl (AOp.move (.tup [.agg [.int .i64 ((((boundR p.aP).1).Lo).X), .int .i64 ((((boundR p.aP).1).Lo).Y), .int .i64 ((((boundR p.aP).1).Lo).Z), .int .i64 ((((boundR p.aP).1).Hi).X), .int .i64 ((((boundR p.aP).1).Hi).Y), .int .i64 ((((boundR p.aP).1).Hi).Z)], .bool ((boundR p.aP).2)]) rfl rfl ?_)
  refine AOps.cons rfl rfl (AOp.extract (.agg [.int .i64 ((((boundR p.aP).1).Lo).X), .int .i64 ((((boundR p.aP).1).Lo).Y), .int .i64 ((((boundR p.aP).1).Lo).Z), .int .i64 ((((boundR p.aP).1).Hi).X), .int .i64 ((((boundR p.aP).1).Hi).Y), .int .i64 ((((boundR p.aP).1).Hi).Z)]) rfl rfl rfl ?_)
  refine AOps.cons rfl rfl (AOp.extract (.bool ((boundR p.aP).2)) rfl rfl rfl ?_)
  refine AOps.cons rfl rfl (AOp.alloc rfl tz_43 ?_)
  intro i46 H47 n48 h49 k50
  have e51 := ne_new h44 n48
  have z52 := Mono.free m45 n48
  have h53 := keep k50 (ne_new h44 n48) h44
  have m54 := Mono.new m45 n48 k50
  refine AOps.cons rfl rfl (AOp.store' (cells' := [.int .i64 ((((boundR p.aP).1).Lo).X), .int .i64 ((((boundR p.aP).1).Lo).Y), .int .i64 ((((boundR p.aP).1).Lo).Z), .int .i64 ((((boundR p.aP).1).Hi).X), .int .i64 ((((boundR p.aP).1).Hi).Y), .int .i64 ((((boundR p.aP).1).Hi).Z)]) (.agg [.int .i64 ((((boundR p.aP).1).Lo).X), .int .i64 ((((boundR p.aP).1).Lo).Y), .int .i64 ((((boundR p.aP).1).Lo).Z), .int .i64 ((((boundR p.aP).1).Hi).X), .int .i64 ((((boundR p.aP).1).Hi).Y), .int .i64 ((((boundR p.aP).1).Hi).Z)]) rfl rfl ts_43 h49 rfl rfl rfl rfl ?_)
  intro H55 h56 k57
  have h58 := keep k57 e51 h53
  have m60 := Mono.set m54 z52 k57
  refine AOps.cons rfl rfl (AOp.assign (.bool ((boundR p.aP).2)) rfl rfl ?_)
  refine AOps.nil ?_
  change AWP _ _ _ _ _ _
  refine AWP.seq ?_
  refine AWP.frzP 7 h56 z52 rfl m60 fun H61 m62 k63 => ?_
  have h64 := (k63 _ e51).trans h58
  have hf := fine_ok (by omega : R_mesh_fine p s = 0)
  refine AWP.region (l := [0, 1, 2, 3]) rfl ?_
  refine AOps.cons rfl rfl (AOp.fieldAddrF rfl rfl fl_30_5 ?_)
  refine AOps.cons rfl rfl (AOp.loadF (.int .i64 s.Height) rfl rfl ty_3 rfl ?_)
  refine AOps.cons rfl rfl (AOp.bin (.int .i64 (s.Height + 2)) rfl rfl rfl (iadd (by omega)) ?_)
  refine AOps.cons rfl rfl (AOp.assign (.int .i64 (s.Height + 2)) rfl rfl ?_)
  refine AOps.nil ?_
  change AWP _ _ _ _ _ _
  refine AWP.seq ?_
  refine AWP.region (l := [0, 1, 2, 3, 4, 5]) rfl ?_
  refine AOps.cons rfl rfl (AOp.move (.int .i64 (s.Height + 2)) rfl rfl ?_)
  refine AOps.cons rfl rfl (AOp.move (.int .i64 (s.Height + 2)) rfl rfl ?_)
  refine AOps.cons rfl rfl (AOp.move (.int .i64 (s.Height + 2)) rfl rfl ?_)
  refine AOps.cons rfl rfl (AOp.build (cells := [.int .i64 (s.Height + 2), .int .i64 (s.Height + 2), .int .i64 (s.Height + 2)]) rfl tz_23 pl_23 rfl rfl ?_)
  refine AOps.cons rfl rfl (AOp.alloc rfl tz_23 ?_)
  intro i65 H66 n67 h68 k69
  have e70 := ne_new h64 n67
  have z71 := Mono.free m62 n67
  have h72 := keep k69 (ne_new h64 n67) h64
  have m73 := Mono.new m62 n67 k69
  refine AOps.cons rfl rfl (AOp.store' (cells' := [.int .i64 (s.Height + 2), .int .i64 (s.Height + 2), .int .i64 (s.Height + 2)]) (.agg [.int .i64 (s.Height + 2), .int .i64 (s.Height + 2), .int .i64 (s.Height + 2)]) rfl rfl ts_23 h68 rfl rfl rfl rfl ?_)
  intro H74 h75 k76
  have h77 := keep k76 e70 h72
  have m79 := Mono.set m73 z71 k76
  refine AOps.nil ?_
  change AWP _ _ _ _ _ _
  refine AWP.seq ?_
  refine AWP.frzP 10 h75 z71 rfl m79 fun H80 m81 k82 => ?_
  have h83 := (k82 _ e70).trans h77
  have hbi := bound_in (fun i h0 h1 => inV_le (allIn_T.1 hf.2.2.2.1 i h0 h1) (show (60000 : Int) ≤ 60000 by decide)) (by have := p.lP; omega)
  have hin : inV 257 (VT.mk (s.Height + 2) (s.Height + 2) (s.Height + 2)) := ⟨by simp only; omega, by simp only; omega, by simp only; omega, by simp only; omega, by simp only; omega, by simp only; omega⟩
  refine AWP.region_quiet mixed (by kernel_rfl) 9 [9, 10] rfl (by kernel_rfl) (Mono H80) (Mono.refl _) ?_
  refine QE.op rfl rfl (.inl ⟨rfl, fun f' H' hf hM => AOp.fieldAddrF rfl ((hf 7 rfl).trans rfl) fl_43_0 ⟨rfl, hM⟩⟩) ?_
  refine QE.op rfl rfl (.inl ⟨rfl, fun f' H' hf hM => AOp.loadF (.agg [.int .i64 ((((boundR p.aP).1).Lo).X), .int .i64 ((((boundR p.aP).1).Lo).Y), .int .i64 ((((boundR p.aP).1).Lo).Z)]) rfl ((hf 31 rfl).trans rfl) ty_23 rfl ⟨rfl, hM⟩⟩) ?_
  refine QE.op rfl rfl (.inl ⟨rfl, fun f' H' hf hM => AOp.loadF (.agg [.int .i64 (s.Height + 2), .int .i64 (s.Height + 2), .int .i64 (s.Height + 2)]) rfl ((hf 10 rfl).trans rfl) ty_23 rfl ⟨rfl, hM⟩⟩) ?_
  refine QE.op rfl rfl (.inl ⟨rfl, fun f' H' hf hM => AOp.pcall («as» := [.agg [.int .i64 ((((boundR p.aP).1).Lo).X), .int .i64 ((((boundR p.aP).1).Lo).Y), .int .i64 ((((boundR p.aP).1).Lo).Z)], .agg [.int .i64 (s.Height + 2), .int .i64 (s.Height + 2), .int .i64 (s.Height + 2)]]) rfl rfl (lapp (lcons ((hf 32 rfl).trans rfl) (lcons ((hf 33 rfl).trans rfl) rfl)) rfl) tf_37 (c_vec_Sub (((boundR p.aP).1).Lo) (VT.mk (s.Height + 2) (s.Height + 2) (s.Height + 2)) (inV_le hbi.1 (by decide)) (inV_le hin (by decide))) fun H2 m2 => ⟨rfl, hM.trans m2⟩⟩) ?_
  refine QE.op rfl rfl (.inl ⟨rfl, fun f' H' hf hM => AOp.fieldAddrF rfl ((hf 7 rfl).trans rfl) fl_43_1 ⟨rfl, hM⟩⟩) ?_
  refine QE.op rfl rfl (.inl ⟨rfl, fun f' H' hf hM => AOp.loadF (.agg [.int .i64 ((((boundR p.aP).1).Hi).X), .int .i64 ((((boundR p.aP).1).Hi).Y), .int .i64 ((((boundR p.aP).1).Hi).Z)]) rfl ((hf 35 rfl).trans rfl) ty_23 rfl ⟨rfl, hM⟩⟩) ?_
  refine QE.op rfl rfl (.inl ⟨rfl, fun f' H' hf hM => AOp.loadF (.agg [.int .i64 (s.Height + 2), .int .i64 (s.Height + 2), .int .i64 (s.Height + 2)]) rfl ((hf 10 rfl).trans rfl) ty_23 rfl ⟨rfl, hM⟩⟩) ?_
  refine QE.op rfl rfl (.inl ⟨rfl, fun f' H' hf hM => AOp.pcall («as» := [.agg [.int .i64 ((((boundR p.aP).1).Hi).X), .int .i64 ((((boundR p.aP).1).Hi).Y), .int .i64 ((((boundR p.aP).1).Hi).Z)], .agg [.int .i64 (s.Height + 2), .int .i64 (s.Height + 2), .int .i64 (s.Height + 2)]]) rfl rfl (lapp (lcons ((hf 36 rfl).trans rfl) (lcons ((hf 37 rfl).trans rfl) rfl)) rfl) tf_38 (c_vec_Add (((boundR p.aP).1).Hi) (VT.mk (s.Height + 2) (s.Height + 2) (s.Height + 2)) (inV_le hbi.2 (by decide)) (inV_le hin (by decide))) fun H2 m2 => ⟨rfl, hM.trans m2⟩⟩) ?_
  refine QE.op rfl rfl (.inl ⟨rfl, fun f' H' hf hM => AOp.build (cells := [.int .i64 ((R_vec_Sub (((boundR p.aP).1).Lo) (VT.mk (s.Height + 2) (s.Height + 2) (s.Height + 2))).X), .int .i64 ((R_vec_Sub (((boundR p.aP).1).Lo) (VT.mk (s.Height + 2) (s.Height + 2) (s.Height + 2))).Y), .int .i64 ((R_vec_Sub (((boundR p.aP).1).Lo) (VT.mk (s.Height + 2) (s.Height + 2) (s.Height + 2))).Z), .int .i64 ((R_vec_Add (((boundR p.aP).1).Hi) (VT.mk (s.Height + 2) (s.Height + 2) (s.Height + 2))).X), .int .i64 ((R_vec_Add (((boundR p.aP).1).Hi) (VT.mk (s.Height + 2) (s.Height + 2) (s.Height + 2))).Y), .int .i64 ((R_vec_Add (((boundR p.aP).1).Hi) (VT.mk (s.Height + 2) (s.Height + 2) (s.Height + 2))).Z)]) rfl tz_43 pl_43 (lconsP ((hf 34 rfl).trans rfl) (lconsP ((hf 38 rfl).trans rfl) rfl)) rfl ⟨rfl, hM⟩⟩) ?_
  refine QE.done fun H84 m85 => ?_
  have h86 := m85 _ _ h83
  have m87 := m81.trans m85
  refine AOps.cons rfl rfl (AOp.store' (cells' := [.int .i64 ((R_vec_Sub (((boundR p.aP).1).Lo) (VT.mk (s.Height + 2) (s.Height + 2) (s.Height + 2))).X), .int .i64 ((R_vec_Sub (((boundR p.aP).1).Lo) (VT.mk (s.Height + 2) (s.Height + 2) (s.Height + 2))).Y), .int .i64 ((R_vec_Sub (((boundR p.aP).1).Lo) (VT.mk (s.Height + 2) (s.Height + 2) (s.Height + 2))).Z), .int .i64 ((R_vec_Add (((boundR p.aP).1).Hi) (VT.mk (s.Height + 2) (s.Height + 2) (s.Height + 2))).X), .int .i64 ((R_vec_Add (((boundR p.aP).1).Hi) (VT.mk (s.Height + 2) (s.Height + 2) (s.Height + 2))).Y), .int .i64 ((R_vec_Add (((boundR p.aP).1).Hi) (VT.mk (s.Height + 2) (s.Height + 2) (s.Height + 2))).Z)]) (.agg [.int .i64 ((R_vec_Sub (((boundR p.aP).1).Lo) (VT.mk (s.Height + 2) (s.Height + 2) (s.Height + 2))).X), .int .i64 ((R_vec_Sub (((boundR p.aP).1).Lo) (VT.mk (s.Height + 2) (s.Height + 2) (s.Height + 2))).Y), .int .i64 ((R_vec_Sub (((boundR p.aP).1).Lo) (VT.mk (s.Height + 2) (s.Height + 2) (s.Height + 2))).Z), .int .i64 ((R_vec_Add (((boundR p.aP).1).Hi) (VT.mk (s.Height + 2) (s.Height + 2) (s.Height + 2))).X), .int .i64 ((R_vec_Add (((boundR p.aP).1).Hi) (VT.mk (s.Height + 2) (s.Height + 2) (s.Height + 2))).Y), .int .i64 ((R_vec_Add (((boundR p.aP).1).Hi) (VT.mk (s.Height + 2) (s.Height + 2) (s.Height + 2))).Z)]) rfl rfl ts_43 h86 rfl rfl rfl rfl ?_)
  intro H88 h89 k90
  have m92 := Mono.set m87 z24 k90
  refine AOps.cons rfl rfl (AOp.assign (.int .i64 0) rfl rfl ?_)
  refine AOps.nil ?_
  change AWP _ _ _ _ _ _
  refine AWP.ret ?_
  refine ⟨_, _, Ghost.refl, .inr rfl, _, Res.list rfl rfl (.cell (v := .agg [.int .i64 ((R_vec_Sub (((boundR p.aP).1).Lo) (VT.mk (s.Height + 2) (s.Height + 2) (s.Height + 2))).X), .int .i64 ((R_vec_Sub (((boundR p.aP).1).Lo) (VT.mk (s.Height + 2) (s.Height + 2) (s.Height + 2))).Y), .int .i64 ((R_vec_Sub (((boundR p.aP).1).Lo) (VT.mk (s.Height + 2) (s.Height + 2) (s.Height + 2))).Z), .int .i64 ((R_vec_Add (((boundR p.aP).1).Hi) (VT.mk (s.Height + 2) (s.Height + 2) (s.Height + 2))).X), .int .i64 ((R_vec_Add (((boundR p.aP).1).Hi) (VT.mk (s.Height + 2) (s.Height + 2) (s.Height + 2))).Y), .int .i64 ((R_vec_Add (((boundR p.aP).1).Hi) (VT.mk (s.Height + 2) (s.Height + 2) (s.Height + 2))).Z)]) rfl ty_43 h89 rfl (.tmp rfl (.nil))), ?_, m92⟩
  have hR : R_mesh_Bounds p s = ((BoxT.mk (R_vec_Sub (((boundR p.aP).1).Lo) (VT.mk (s.Height + 2) (s.Height + 2) (s.Height + 2))) (R_vec_Add (((boundR p.aP).1).Hi) (VT.mk (s.Height + 2) (s.Height + 2) (s.Height + 2)))), 0) := by unfold R_mesh_Bounds; rw [if_pos b41]
  exact (congrArg (fun r : BoxT × Int => (.tup [.agg [.int .i64 r.1.Lo.X, .int .i64 r.1.Lo.Y, .int .i64 r.1.Lo.Z, .int .i64 r.1.Hi.X, .int .i64 r.1.Hi.Y, .int .i64 r.1.Hi.Z], .int .i64 r.2] : AV)) hR).symm
 ·
  refine AWP.condT rfl (nb (decide_eq_false b41)) ?_
  refine AWP.seq ?_
  refine AWP.region (l := [0, 1, 2, 3]) rfl ?_
  refine AOps.cons rfl rfl (AOp.build (cells := [.int .i64 0, .int .i64 0, .int .i64 0, .int .i64 0, .int .i64 0, .int .i64 0]) rfl tz_43 pl_43 rfl rfl ?_)
  refine AOps.cons rfl rfl (AOp.move (.int .i64 (R_mesh_fine p s)) rfl rfl ?_)
  refine AOps.cons rfl rfl (AOp.store' (cells' := [.int .i64 0, .int .i64 0, .int .i64 0, .int .i64 0, .int .i64 0, .int .i64 0]) (.agg [.int .i64 0, .int .i64 0, .int .i64 0, .int .i64 0, .int .i64 0, .int .i64 0]) rfl rfl ts_43 h39 rfl rfl rfl rfl ?_)
  intro H93 h94 k95
  have m97 := Mono.set m40 z24 k95
  refine AOps.cons rfl rfl (AOp.assign (.int .i64 (R_mesh_fine p s)) rfl rfl ?_)
  refine AOps.nil ?_
  change AWP _ _ _ _ _ _
  refine AWP.ret ?_
  refine ⟨_, _, Ghost.refl, .inr rfl, _, Res.list rfl rfl (.cell (v := .agg [.int .i64 0, .int .i64 0, .int .i64 0, .int .i64 0, .int .i64 0, .int .i64 0]) rfl ty_43 h94 rfl (.tmp rfl (.nil))), ?_, m97⟩
  have hR : R_mesh_Bounds p s = ((BoxT.mk (VT.mk 0 0 0) (VT.mk 0 0 0)), R_mesh_fine p s) := by unfold R_mesh_Bounds; rw [if_neg b41]
  exact (congrArg (fun r : BoxT × Int => (.tup [.agg [.int .i64 r.1.Lo.X, .int .i64 r.1.Lo.Y, .int .i64 r.1.Lo.Z, .int .i64 r.1.Hi.X, .int .i64 r.1.Hi.Y, .int .i64 r.1.Hi.Z], .int .i64 r.2] : AV)) hR).symm
def R_mesh_Tri (m : MeshT) (i : Int) : TriT × Bool :=
  if i < 0 then ((TriT.mk (VT.mk 0 0 0) (VT.mk 0 0 0) (VT.mk 0 0 0)), false) else (if i ≥ (m.Tris.length : Int) then ((TriT.mk (VT.mk 0 0 0) (VT.mk 0 0 0) (VT.mk 0 0 0)), false) else (if minL ([(at_ m.Tris i).x0, (at_ m.Tris i).x1, (at_ m.Tris i).x2] : List Int) < 0 then ((TriT.mk (VT.mk 0 0 0) (VT.mk 0 0 0) (VT.mk 0 0 0)), false) else (if maxL ([(at_ m.Tris i).x0, (at_ m.Tris i).x1, (at_ m.Tris i).x2] : List Int) ≥ (m.Verts.length : Int) then ((TriT.mk (VT.mk 0 0 0) (VT.mk 0 0 0) (VT.mk 0 0 0)), false) else ((TriT.mk (at_ m.Verts ((at_ m.Tris i).x0)) (at_ m.Verts ((at_ m.Tris i).x1)) (at_ m.Verts ((at_ m.Tris i).x2))), true))))
theorem c_mesh_Tri (m : MeshT) (i : Int) (hv : m.Verts.length ≤ 1048576) (ht : m.Tris.length ≤ 1048576) : PC Tryd.prog 15 [.agg [.sl m.Verts.length (m.Verts.flatMap eV), .sl m.Keys.length (m.Keys.flatMap eKey), .sl m.Tris.length (m.Tris.flatMap eI3)], .int .i64 i] (.tup [.agg [.int .i64 ((((R_mesh_Tri m i).1).A).X), .int .i64 ((((R_mesh_Tri m i).1).A).Y), .int .i64 ((((R_mesh_Tri m i).1).A).Z), .int .i64 ((((R_mesh_Tri m i).1).B).X), .int .i64 ((((R_mesh_Tri m i).1).B).Y), .int .i64 ((((R_mesh_Tri m i).1).B).Z), .int .i64 ((((R_mesh_Tri m i).1).C).X), .int .i64 ((((R_mesh_Tri m i).1).C).Y), .int .i64 ((((R_mesh_Tri m i).1).C).Z)], .bool ((R_mesh_Tri m i).2)]) := by
 intro H0
 refine ACalls.of_body' (n := 53) rfl rfl rfl rfl ?_
 have m0 := Mono.refl H0
 refine AWP.seq ?_
 refine AWP.region (l := [0, 1, 2]) rfl ?_
 refine AOps.cons rfl rfl (AOp.box (.agg [.sl m.Verts.length (m.Verts.flatMap eV), .sl m.Keys.length (m.Keys.flatMap eKey), .sl m.Tris.length (m.Tris.flatMap eI3)]) rfl rfl rfl ?_)
 intro i1 H2 n3 h4 k5
 have z6 := Mono.free m0 n3
 have m7 := Mono.new m0 n3 k5
 refine AOps.cons rfl rfl (AOp.alloc rfl tz_47 ?_)
 intro i8 H9 n10 h11 k12
 have e13 := ne_new h4 n10
 have z14 := Mono.free m7 n10
 have h15 := keep k12 (ne_new h4 n10) h4
 have m16 := Mono.new m7 n10 k12
 refine AOps.cons rfl rfl (AOp.assign (.bool false) rfl rfl ?_)
 refine AOps.nil ?_
 change AWP _ _ _ _ _ _
 refine AWP.seq ?_
 refine AWP.seq ?_
 refine AWP.frzP 2 h15 z6 rfl m16 fun H17 m18 k19 => ?_
 have h20 := (k19 _ (Ne.symm e13)).trans h11
 refine AWP.region (l := [0, 1, 2, 3, 4, 5, 6, 7, 8]) rfl ?_
 refine AOps.cons rfl rfl (AOp.move (.int .i64 i) rfl rfl ?_)
 refine AOps.cons rfl rfl (AOp.bin (.bool (decide (i < 0))) rfl rfl rfl rfl ?_)
 refine AOps.cons rfl rfl (AOp.move (.bool (decide (i < 0))) rfl rfl ?_)
 by_cases b21 : i < 0
 ·
  refine AOps.no rfl rfl rfl rfl rfl rfl rfl (ble_of (decide_eq_true b21) (by decide)) ?_
  refine AOps.no rfl rfl rfl rfl rfl rfl rfl (ble_of (decide_eq_true b21) (by decide)) ?_
  refine AOps.no rfl rfl rfl rfl rfl rfl rfl (ble_of (decide_eq_true b21) (by decide)) ?_
  refine AOps.no rfl rfl rfl rfl rfl rfl rfl (ble_of (decide_eq_true b21) (by decide)) ?_
  refine AOps.no rfl rfl rfl rfl rfl rfl rfl (ble_of (decide_eq_true b21) (by decide)) ?_
  refine AOps.cons rfl rfl (AOp.pickT (.bool true) rfl rfl (decide_eq_true b21) rfl ?_)
  refine AOps.nil ?_
  change AWP _ _ _ _ _ _
  refine AWP.condT rfl rfl ?_
  refine AWP.seq ?_
  refine AWP.region (l := [0, 1, 2]) rfl ?_
  refine AOps.cons rfl rfl (AOp.build (cells := [.int .i64 0, .int .i64 0, .int .i64 0, .int .i64 0, .int .i64 0, .int .i64 0, .int .i64 0, .int .i64 0, .int .i64 0]) rfl tz_47 pl_47 rfl rfl ?_)
  refine AOps.cons rfl rfl (AOp.store' (cells' := [.int .i64 0, .int .i64 0, .int .i64 0, .int .i64 0, .int .i64 0, .int .i64 0, .int .i64 0, .int .i64 0, .int .i64 0]) (.agg [.int .i64 0, .int .i64 0, .int .i64 0, .int .i64 0, .int .i64 0, .int .i64 0, .int .i64 0, .int .i64 0, .int .i64 0]) rfl rfl ts_47 h20 rfl rfl rfl rfl ?_)
  intro H22 h23 k24
  have m26 := Mono.set m18 z14 k24
  refine AOps.cons rfl rfl (AOp.assign (.bool false) rfl rfl ?_)
  refine AOps.nil ?_
  change AWP _ _ _ _ _ _
  refine AWP.ret ?_
  refine ⟨_, _, Ghost.refl, .inr rfl, _, Res.list rfl rfl (.cell (v := .agg [.int .i64 0, .int .i64 0, .int .i64 0, .int .i64 0, .int .i64 0, .int .i64 0, .int .i64 0, .int .i64 0, .int .i64 0]) rfl ty_47 h23 rfl (.tmp rfl (.nil))), ?_, m26⟩
  have hR : R_mesh_Tri m i = ((TriT.mk (VT.mk 0 0 0) (VT.mk 0 0 0) (VT.mk 0 0 0)), false) := by unfold R_mesh_Tri; rw [if_pos b21]
  exact (congrArg (fun r : TriT × Bool => (.tup [.agg [.int .i64 r.1.A.X, .int .i64 r.1.A.Y, .int .i64 r.1.A.Z, .int .i64 r.1.B.X, .int .i64 r.1.B.Y, .int .i64 r.1.B.Z, .int .i64 r.1.C.X, .int .i64 r.1.C.Y, .int .i64 r.1.C.Z], .bool r.2] : AV)) hR).symm
 ·
  refine AOps.yes rfl rfl rfl rfl rfl rfl rfl (decide_eq_false b21) (AOp.move (.int .i64 i) rfl rfl ?_)
  refine AOps.yes rfl rfl rfl rfl rfl rfl rfl (decide_eq_false b21) (AOp.fieldAddrF rfl rfl fl_38_2 ?_)
  refine AOps.yes rfl rfl rfl rfl rfl rfl rfl (decide_eq_false b21) (AOp.loadF (.sl m.Tris.length (m.Tris.flatMap eI3)) rfl rfl ty_36 rfl ?_)
  refine AOps.yes rfl rfl rfl rfl rfl rfl rfl (decide_eq_false b21) (AOp.len (m := m.Tris.length) rfl rfl (.inr (.inl ⟨_, rfl⟩)) u_36 ?_)
  refine AOps.yes rfl rfl rfl rfl rfl rfl rfl (decide_eq_false b21) (AOp.bin (.bool (decide (i ≥ (m.Tris.length : Int)))) rfl rfl rfl rfl ?_)
  refine AOps.cons rfl rfl (AOp.pickF (.bool (decide (i ≥ (m.Tris.length : Int)))) rfl rfl (decide_eq_false b21) rfl ?_)
  refine AOps.nil ?_
  change AWP _ _ _ _ _ _
  by_cases b27 : i ≥ (m.Tris.length : Int)
  ·
   refine AWP.condT rfl (decide_eq_true b27) ?_
   refine AWP.seq ?_
   refine AWP.region (l := [0, 1, 2]) rfl ?_
   refine AOps.cons rfl rfl (AOp.build (cells := [.int .i64 0, .int .i64 0, .int .i64 0, .int .i64 0, .int .i64 0, .int .i64 0, .int .i64 0, .int .i64 0, .int .i64 0]) rfl tz_47 pl_47 rfl rfl ?_)
   refine AOps.cons rfl rfl (AOp.store' (cells' := [.int .i64 0, .int .i64 0, .int .i64 0, .int .i64 0, .int .i64 0, .int .i64 0, .int .i64 0, .int .i64 0, .int .i64 0]) (.agg [.int .i64 0, .int .i64 0, .int .i64 0, .int .i64 0, .int .i64 0, .int .i64 0, .int .i64 0, .int .i64 0, .int .i64 0]) rfl rfl ts_47 h20 rfl rfl rfl rfl ?_)
   intro H28 h29 k30
   have m32 := Mono.set m18 z14 k30
   refine AOps.cons rfl rfl (AOp.assign (.bool false) rfl rfl ?_)
   refine AOps.nil ?_
   change AWP _ _ _ _ _ _
   refine AWP.ret ?_
   refine ⟨_, _, Ghost.refl, .inr rfl, _, Res.list rfl rfl (.cell (v := .agg [.int .i64 0, .int .i64 0, .int .i64 0, .int .i64 0, .int .i64 0, .int .i64 0, .int .i64 0, .int .i64 0, .int .i64 0]) rfl ty_47 h29 rfl (.tmp rfl (.nil))), ?_, m32⟩
   have hR : R_mesh_Tri m i = ((TriT.mk (VT.mk 0 0 0) (VT.mk 0 0 0) (VT.mk 0 0 0)), false) := by unfold R_mesh_Tri; rw [if_neg b21, if_pos b27]
   exact (congrArg (fun r : TriT × Bool => (.tup [.agg [.int .i64 r.1.A.X, .int .i64 r.1.A.Y, .int .i64 r.1.A.Z, .int .i64 r.1.B.X, .int .i64 r.1.B.Y, .int .i64 r.1.B.Z, .int .i64 r.1.C.X, .int .i64 r.1.C.Y, .int .i64 r.1.C.Z], .bool r.2] : AV)) hR).symm
  ·
   refine AWP.condF rfl (decide_eq_false b27) ?_
   refine AWP.skip ?_
   change AWP _ _ _ _ _ _
   refine AWP.seq ?_
   refine AWP.region (l := [0, 1, 2, 3, 4, 5, 6]) rfl ?_
   refine AOps.cons rfl rfl (AOp.fieldAddrF rfl rfl fl_38_2 ?_)
   refine AOps.cons rfl rfl (AOp.loadF (.sl m.Tris.length (m.Tris.flatMap eI3)) rfl rfl ty_36 rfl ?_)
   refine AOps.cons rfl rfl (AOp.move (.int .i64 i) rfl rfl ?_)
   refine AOps.cons rfl rfl (AOp.indexAddrS rfl rfl rfl sl_36 (by omega) (by omega) ?_)
   refine AOps.cons rfl rfl (AOp.loadF (.agg [.int .i64 ((at_ m.Tris i).x0), .int .i64 ((at_ m.Tris i).x1), .int .i64 ((at_ m.Tris i).x2)]) rfl rfl ty_59 (ldM eI3_len (by omega) (by omega)) ?_)
   refine AOps.cons rfl rfl (AOp.alloc rfl tz_59 ?_)
   intro i33 H34 n35 h36 k37
   have e38 := ne_new h20 n35
   have z39 := Mono.free m18 n35
   have h40 := keep k37 (ne_new h20 n35) h20
   have m41 := Mono.new m18 n35 k37
   refine AOps.cons rfl rfl (AOp.store' (cells' := [.int .i64 ((at_ m.Tris i).x0), .int .i64 ((at_ m.Tris i).x1), .int .i64 ((at_ m.Tris i).x2)]) (.agg [.int .i64 ((at_ m.Tris i).x0), .int .i64 ((at_ m.Tris i).x1), .int .i64 ((at_ m.Tris i).x2)]) rfl rfl ts_59 h36 rfl rfl rfl rfl ?_)
   intro H42 h43 k44
   have h45 := keep k44 e38 h40
   have m47 := Mono.set m41 z39 k44
   refine AOps.nil ?_
   change AWP _ _ _ _ _ _
   refine AWP.seq ?_
   refine AWP.seq ?_
   refine AWP.frzP 6 h43 z39 rfl m47 fun H48 m49 k50 => ?_
   have h51 := (k50 _ e38).trans h45
   have e1 := min3L (at_ m.Tris i).x0 (at_ m.Tris i).x1 (at_ m.Tris i).x2
   have e2 := max3L (at_ m.Tris i).x0 (at_ m.Tris i).x1 (at_ m.Tris i).x2
   refine AWP.region_quiet mixed (by kernel_rfl) 11 [] rfl (by kernel_rfl) (Mono H48) (Mono.refl _) ?_
   refine QE.op rfl rfl (.inl ⟨rfl, fun f' H' hf hM => AOp.sliceAF rfl ((hf 6 rfl).trans rfl) ar_59 (rfl : ([(at_ m.Tris i).x0, (at_ m.Tris i).x1, (at_ m.Tris i).x2] : List Int).length = 3) SubAt.all ⟨rfl, hM⟩⟩) ?_
   refine QE.op rfl rfl (.inl ⟨rfl, fun f' H' hf hM => AOp.pcall («as» := [.sl ([(at_ m.Tris i).x0, (at_ m.Tris i).x1, (at_ m.Tris i).x2] : List Int).length (([(at_ m.Tris i).x0, (at_ m.Tris i).x1, (at_ m.Tris i).x2] : List Int).map eI)]) rfl rfl (lapp (lcons ((hf 22 rfl).trans rfl) rfl) rfl) tf_40 (c_Min ([(at_ m.Tris i).x0, (at_ m.Tris i).x1, (at_ m.Tris i).x2] : List Int) (by first | (have := (rfl : ([(at_ m.Tris i).x0, (at_ m.Tris i).x1, (at_ m.Tris i).x2] : List Int).length = 3); omega) | simp) (by first | omega | assumption | (constructor <;> omega) | simp)) fun H2 m2 => ⟨rfl, hM.trans m2⟩⟩) ?_
   refine QE.op rfl rfl (.inl ⟨rfl, fun f' H' hf hM => AOp.bin (.bool (decide (minL ([(at_ m.Tris i).x0, (at_ m.Tris i).x1, (at_ m.Tris i).x2] : List Int) < 0))) rfl ((hf 23 rfl).trans rfl) rfl rfl ⟨rfl, hM⟩⟩) ?_
   refine QE.op rfl rfl (.inl ⟨rfl, fun f' H' hf hM => AOp.move (.bool (decide (minL ([(at_ m.Tris i).x0, (at_ m.Tris i).x1, (at_ m.Tris i).x2] : List Int) < 0))) rfl ((hf 24 rfl).trans rfl) ⟨rfl, hM⟩⟩) ?_
   by_cases b52 : minL ([(at_ m.Tris i).x0, (at_ m.Tris i).x1, (at_ m.Tris i).x2] : List Int) < 0
   ·
    refine QE.op rfl rfl (QOp.no rfl rfl rfl rfl (ble_of (decide_eq_true b52) (by decide)) rfl) ?_
    refine QE.op rfl rfl (QOp.no rfl rfl rfl rfl (ble_of (decide_eq_true b52) (by decide)) rfl) ?_
    refine QE.op rfl rfl (QOp.no rfl rfl rfl rfl (ble_of (decide_eq_true b52) (by decide)) rfl) ?_
    refine QE.op rfl rfl (QOp.no rfl rfl rfl rfl (ble_of (decide_eq_true b52) (by decide)) rfl) ?_
    refine QE.op rfl rfl (QOp.no rfl rfl rfl rfl (ble_of (decide_eq_true b52) (by decide)) rfl) ?_
    refine QE.op rfl rfl (QOp.no rfl rfl rfl rfl (ble_of (decide_eq_true b52) (by decide)) rfl) ?_
    refine QE.op rfl rfl (.inl ⟨rfl, fun f' H' hf hM => AOp.pickT (.bool true) rfl ((hf 25 rfl).trans rfl) (decide_eq_true b52) rfl ⟨rfl, hM⟩⟩) ?_
    refine QE.done fun H53 m54 => ?_
    have h55 := m54 _ _ h51
    have m56 := m49.trans m54
    refine AOps.nil ?_
    change AWP _ _ _ _ _ _
    refine AWP.condT rfl rfl ?_
    refine AWP.seq ?_
    refine AWP.region (l := [0, 1, 2]) rfl ?_
    refine AOps.cons rfl rfl (AOp.build (cells := [.int .i64 0, .int .i64 0, .int .i64 0, .int .i64 0, .int .i64 0, .int .i64 0, .int .i64 0, .int .i64 0, .int .i64 0]) rfl tz_47 pl_47 rfl rfl ?_)
    refine AOps.cons rfl rfl (AOp.store' (cells' := [.int .i64 0, .int .i64 0, .int .i64 0, .int .i64 0, .int .i64 0, .int .i64 0, .int .i64 0, .int .i64 0, .int .i64 0]) (.agg [.int .i64 0, .int .i64 0, .int .i64 0, .int .i64 0, .int .i64 0, .int .i64 0, .int .i64 0, .int .i64 0, .int .i64 0]) rfl rfl ts_47 h55 rfl rfl rfl rfl ?_)
    intro H57 h58 k59
    have m61 := Mono.set m56 z14 k59
    refine AOps.cons rfl rfl (AOp.assign (.bool false) rfl rfl ?_)
    refine AOps.nil ?_
    change AWP _ _ _ _ _ _
    refine AWP.ret ?_
    refine ⟨_, _, Ghost.refl, .inr rfl, _, Res.list rfl rfl (.cell (v := .agg [.int .i64 0, .int .i64 0, .int .i64 0, .int .i64 0, .int .i64 0, .int .i64 0, .int .i64 0, .int .i64 0, .int .i64 0]) rfl ty_47 h58 rfl (.tmp rfl (.nil))), ?_, m61⟩
    have hR : R_mesh_Tri m i = ((TriT.mk (VT.mk 0 0 0) (VT.mk 0 0 0) (VT.mk 0 0 0)), false) := by unfold R_mesh_Tri; rw [if_neg b21, if_neg b27, if_pos b52]
    exact (congrArg (fun r : TriT × Bool => (.tup [.agg [.int .i64 r.1.A.X, .int .i64 r.1.A.Y, .int .i64 r.1.A.Z, .int .i64 r.1.B.X, .int .i64 r.1.B.Y, .int .i64 r.1.B.Z, .int .i64 r.1.C.X, .int .i64 r.1.C.Y, .int .i64 r.1.C.Z], .bool r.2] : AV)) hR).symm
   ·
    refine QE.op rfl rfl (QOp.yes rfl rfl rfl rfl (decide_eq_false b52) fun f' H' hf hM => AOp.sliceAF rfl ((hf 6 rfl).trans rfl) ar_59 (rfl : ([(at_ m.Tris i).x0, (at_ m.Tris i).x1, (at_ m.Tris i).x2] : List Int).length = 3) SubAt.all ⟨rfl, hM⟩) ?_
    refine QE.op rfl rfl (QOp.yes rfl rfl rfl rfl (decide_eq_false b52) fun f' H' hf hM => AOp.pcall («as» := [.sl ([(at_ m.Tris i).x0, (at_ m.Tris i).x1, (at_ m.Tris i).x2] : List Int).length (([(at_ m.Tris i).x0, (at_ m.Tris i).x1, (at_ m.Tris i).x2] : List Int).map eI)]) rfl rfl (lapp (lcons ((hf 26 rfl).trans rfl) rfl) rfl) tf_26 (c_Max ([(at_ m.Tris i).x0, (at_ m.Tris i).x1, (at_ m.Tris i).x2] : List Int) (by first | (have := (rfl : ([(at_ m.Tris i).x0, (at_ m.Tris i).x1, (at_ m.Tris i).x2] : List Int).length = 3); omega) | simp) (by first | omega | assumption | (constructor <;> omega) | simp)) fun H2 m2 => ⟨rfl, hM.trans m2⟩) ?_
    refine QE.op rfl rfl (QOp.yes rfl rfl rfl rfl (decide_eq_false b52) fun f' H' hf hM => AOp.fieldAddrF rfl ((hf 2 rfl).trans rfl) fl_38_0 ⟨rfl, hM⟩) ?_
    refine QE.op rfl rfl (QOp.yes rfl rfl rfl rfl (decide_eq_false b52) fun f' H' hf hM => AOp.loadF (.sl m.Verts.length (m.Verts.flatMap eV)) rfl ((hf 28 rfl).trans rfl) ty_34 rfl ⟨rfl, hM⟩) ?_
    refine QE.op rfl rfl (QOp.yes rfl rfl rfl rfl (decide_eq_false b52) fun f' H' hf hM => AOp.len (m := m.Verts.length) rfl ((hf 29 rfl).trans rfl) (.inr (.inl ⟨_, rfl⟩)) u_34 ⟨rfl, hM⟩) ?_
    refine QE.op rfl rfl (QOp.yes rfl rfl rfl rfl (decide_eq_false b52) fun f' H' hf hM => AOp.bin (.bool (decide (maxL ([(at_ m.Tris i).x0, (at_ m.Tris i).x1, (at_ m.Tris i).x2] : List Int) ≥ (m.Verts.length : Int)))) rfl ((hf 27 rfl).trans rfl) ((hf 30 rfl).trans rfl) rfl ⟨rfl, hM⟩) ?_
    refine QE.op rfl rfl (.inl ⟨rfl, fun f' H' hf hM => AOp.pickF (.bool (decide (maxL ([(at_ m.Tris i).x0, (at_ m.Tris i).x1, (at_ m.Tris i).x2] : List Int) ≥ (m.Verts.length : Int)))) rfl ((hf 25 rfl).trans rfl) (decide_eq_false b52) ((hf 31 rfl).trans rfl) ⟨rfl, hM⟩⟩) ?_
    refine QE.done fun H62 m63 => ?_
    have h64 := m63 _ _ h51
    have m65 := m49.trans m63
    refine AOps.nil ?_
    change AWP _ _ _ _ _ _
    by_cases b66 : maxL ([(at_ m.Tris i).x0, (at_ m.Tris i).x1, (at_ m.Tris i).x2] : List Int) ≥ (m.Verts.length : Int)
    ·
     refine AWP.condT rfl (decide_eq_true b66) ?_
     refine AWP.seq ?_
     refine AWP.region (l := [0, 1, 2]) rfl ?_
     refine AOps.cons rfl rfl (AOp.build (cells := [.int .i64 0, .int .i64 0, .int .i64 0, .int .i64 0, .int .i64 0, .int .i64 0, .int .i64 0, .int .i64 0, .int .i64 0]) rfl tz_47 pl_47 rfl rfl ?_)
     refine AOps.cons rfl rfl (AOp.store' (cells' := [.int .i64 0, .int .i64 0, .int .i64 0, .int .i64 0, .int .i64 0, .int .i64 0, .int .i64 0, .int .i64 0, .int .i64 0]) (.agg [.int .i64 0, .int .i64 0, .int .i64 0, .int .i64 0, .int .i64 0, .int .i64 0, .int .i64 0, .int .i64 0, .int .i64 0]) rfl rfl ts_47 h64 rfl rfl rfl rfl ?_)
     intro H67 h68 k69
     have m71 := Mono.set m65 z14 k69
     refine AOps.cons rfl rfl (AOp.assign (.bool false) rfl rfl ?_)
     refine AOps.nil ?_
     change AWP _ _ _ _ _ _
     refine AWP.ret ?_
     refine ⟨_, _, Ghost.refl, .inr rfl, _, Res.list rfl rfl (.cell (v := .agg [.int .i64 0, .int .i64 0, .int .i64 0, .int .i64 0, .int .i64 0, .int .i64 0, .int .i64 0, .int .i64 0, .int .i64 0]) rfl ty_47 h68 rfl (.tmp rfl (.nil))), ?_, m71⟩
     have hR : R_mesh_Tri m i = ((TriT.mk (VT.mk 0 0 0) (VT.mk 0 0 0) (VT.mk 0 0 0)), false) := by unfold R_mesh_Tri; rw [if_neg b21, if_neg b27, if_neg b52, if_pos b66]
     exact (congrArg (fun r : TriT × Bool => (.tup [.agg [.int .i64 r.1.A.X, .int .i64 r.1.A.Y, .int .i64 r.1.A.Z, .int .i64 r.1.B.X, .int .i64 r.1.B.Y, .int .i64 r.1.B.Z, .int .i64 r.1.C.X, .int .i64 r.1.C.Y, .int .i64 r.1.C.Z], .bool r.2] : AV)) hR).symm
    ·
     refine AWP.condF rfl (decide_eq_false b66) ?_
     refine AWP.skip ?_
     change AWP _ _ _ _ _ _
     refine AWP.seq ?_
     refine AWP.region_quiet mixed (by kernel_rfl) 19 [19, 20] rfl (by kernel_rfl) (Mono H62) (Mono.refl _) ?_
     refine QE.op rfl rfl (.inl ⟨rfl, fun f' H' hf hM => AOp.fieldAddrF rfl ((hf 2 rfl).trans rfl) fl_38_0 ⟨rfl, hM⟩⟩) ?_
     refine QE.op rfl rfl (.inl ⟨rfl, fun f' H' hf hM => AOp.loadF (.sl m.Verts.length (m.Verts.flatMap eV)) rfl ((hf 34 rfl).trans rfl) ty_34 rfl ⟨rfl, hM⟩⟩) ?_
     refine QE.op rfl rfl (.inl ⟨rfl, fun f' H' hf hM => AOp.indexAddrFA rfl ((hf 6 rfl).trans rfl) rfl ar_59 (by omega) (by omega) ⟨rfl, hM⟩⟩) ?_
     refine QE.op rfl rfl (.inl ⟨rfl, fun f' H' hf hM => AOp.loadF (.int .i64 ((at_ m.Tris i).x0)) rfl ((hf 36 rfl).trans rfl) ty_3 rfl ⟨rfl, hM⟩⟩) ?_
     refine QE.op rfl rfl (.inl ⟨rfl, fun f' H' hf hM => AOp.indexAddrS rfl ((hf 35 rfl).trans rfl) ((hf 37 rfl).trans rfl) sl_34 (by omega) (by omega) ⟨rfl, hM⟩⟩) ?_
     refine QE.op rfl rfl (.inl ⟨rfl, fun f' H' hf hM => AOp.loadF (.agg [.int .i64 ((at_ m.Verts ((at_ m.Tris i).x0)).X), .int .i64 ((at_ m.Verts ((at_ m.Tris i).x0)).Y), .int .i64 ((at_ m.Verts ((at_ m.Tris i).x0)).Z)]) rfl ((hf 38 rfl).trans rfl) ty_23 (ldM eV_len (by omega) (by omega)) ⟨rfl, hM⟩⟩) ?_
     refine QE.op rfl rfl (.inl ⟨rfl, fun f' H' hf hM => AOp.fieldAddrF rfl ((hf 2 rfl).trans rfl) fl_38_0 ⟨rfl, hM⟩⟩) ?_
     refine QE.op rfl rfl (.inl ⟨rfl, fun f' H' hf hM => AOp.loadF (.sl m.Verts.length (m.Verts.flatMap eV)) rfl ((hf 40 rfl).trans rfl) ty_34 rfl ⟨rfl, hM⟩⟩) ?_
     refine QE.op rfl rfl (.inl ⟨rfl, fun f' H' hf hM => AOp.indexAddrFA rfl ((hf 6 rfl).trans rfl) rfl ar_59 (by omega) (by omega) ⟨rfl, hM⟩⟩) ?_
     refine QE.op rfl rfl (.inl ⟨rfl, fun f' H' hf hM => AOp.loadF (.int .i64 ((at_ m.Tris i).x1)) rfl ((hf 42 rfl).trans rfl) ty_3 rfl ⟨rfl, hM⟩⟩) ?_
     refine QE.op rfl rfl (.inl ⟨rfl, fun f' H' hf hM => AOp.indexAddrS rfl ((hf 41 rfl).trans rfl) ((hf 43 rfl).trans rfl) sl_34 (by omega) (by omega) ⟨rfl, hM⟩⟩) ?_
     refine QE.op rfl rfl (.inl ⟨rfl, fun f' H' hf hM => AOp.loadF (.agg [.int .i64 ((at_ m.Verts ((at_ m.Tris i).x1)).X), .int .i64 ((at_ m.Verts ((at_ m.Tris i).x1)).Y), .int .i64 ((at_ m.Verts ((at_ m.Tris i).x1)).Z)]) rfl ((hf 44 rfl).trans rfl) ty_23 (ldM eV_len (by omega) (by omega)) ⟨rfl, hM⟩⟩) ?_
     refine QE.op rfl rfl (.inl ⟨rfl, fun f' H' hf hM => AOp.fieldAddrF rfl ((hf 2 rfl).trans rfl) fl_38_0 ⟨rfl, hM⟩⟩) ?_
     refine QE.op rfl rfl (.inl ⟨rfl, fun f' H' hf hM => AOp.loadF (.sl m.Verts.length (m.Verts.flatMap eV)) rfl ((hf 46 rfl).trans rfl) ty_34 rfl ⟨rfl, hM⟩⟩) ?_
     refine QE.op rfl rfl (.inl ⟨rfl, fun f' H' hf hM => AOp.indexAddrFA rfl ((hf 6 rfl).trans rfl) rfl ar_59 (by omega) (by omega) ⟨rfl, hM⟩⟩) ?_
     refine QE.op rfl rfl (.inl ⟨rfl, fun f' H' hf hM => AOp.loadF (.int .i64 ((at_ m.Tris i).x2)) rfl ((hf 48 rfl).trans rfl) ty_3 rfl ⟨rfl, hM⟩⟩) ?_
     refine QE.op rfl rfl (.inl ⟨rfl, fun f' H' hf hM => AOp.indexAddrS rfl ((hf 47 rfl).trans rfl) ((hf 49 rfl).trans rfl) sl_34 (by omega) (by omega) ⟨rfl, hM⟩⟩) ?_
     refine QE.op rfl rfl (.inl ⟨rfl, fun f' H' hf hM => AOp.loadF (.agg [.int .i64 ((at_ m.Verts ((at_ m.Tris i).x2)).X), .int .i64 ((at_ m.Verts ((at_ m.Tris i).x2)).Y), .int .i64 ((at_ m.Verts ((at_ m.Tris i).x2)).Z)]) rfl ((hf 50 rfl).trans rfl) ty_23 (ldM eV_len (by omega) (by omega)) ⟨rfl, hM⟩⟩) ?_
     refine QE.op rfl rfl (.inl ⟨rfl, fun f' H' hf hM => AOp.build (cells := [.int .i64 ((at_ m.Verts ((at_ m.Tris i).x0)).X), .int .i64 ((at_ m.Verts ((at_ m.Tris i).x0)).Y), .int .i64 ((at_ m.Verts ((at_ m.Tris i).x0)).Z), .int .i64 ((at_ m.Verts ((at_ m.Tris i).x1)).X), .int .i64 ((at_ m.Verts ((at_ m.Tris i).x1)).Y), .int .i64 ((at_ m.Verts ((at_ m.Tris i).x1)).Z), .int .i64 ((at_ m.Verts ((at_ m.Tris i).x2)).X), .int .i64 ((at_ m.Verts ((at_ m.Tris i).x2)).Y), .int .i64 ((at_ m.Verts ((at_ m.Tris i).x2)).Z)]) rfl tz_47 pl_47 (lconsP ((hf 39 rfl).trans rfl) (lconsP ((hf 45 rfl).trans rfl) (lconsP ((hf 51 rfl).trans rfl) rfl))) rfl ⟨rfl, hM⟩⟩) ?_
     refine QE.done fun H72 m73 => ?_
     have h74 := m73 _ _ h64
     have m75 := m65.trans m73
     refine AOps.cons rfl rfl (AOp.store' (cells' := [.int .i64 ((at_ m.Verts ((at_ m.Tris i).x0)).X), .int .i64 ((at_ m.Verts ((at_ m.Tris i).x0)).Y), .int .i64 ((at_ m.Verts ((at_ m.Tris i).x0)).Z), .int .i64 ((at_ m.Verts ((at_ m.Tris i).x1)).X), .int .i64 ((at_ m.Verts ((at_ m.Tris i).x1)).Y), .int .i64 ((at_ m.Verts ((at_ m.Tris i).x1)).Z), .int .i64 ((at_ m.Verts ((at_ m.Tris i).x2)).X), .int .i64 ((at_ m.Verts ((at_ m.Tris i).x2)).Y), .int .i64 ((at_ m.Verts ((at_ m.Tris i).x2)).Z)]) (.agg [.int .i64 ((at_ m.Verts ((at_ m.Tris i).x0)).X), .int .i64 ((at_ m.Verts ((at_ m.Tris i).x0)).Y), .int .i64 ((at_ m.Verts ((at_ m.Tris i).x0)).Z), .int .i64 ((at_ m.Verts ((at_ m.Tris i).x1)).X), .int .i64 ((at_ m.Verts ((at_ m.Tris i).x1)).Y), .int .i64 ((at_ m.Verts ((at_ m.Tris i).x1)).Z), .int .i64 ((at_ m.Verts ((at_ m.Tris i).x2)).X), .int .i64 ((at_ m.Verts ((at_ m.Tris i).x2)).Y), .int .i64 ((at_ m.Verts ((at_ m.Tris i).x2)).Z)]) rfl rfl ts_47 h74 rfl rfl rfl rfl ?_)
     intro H76 h77 k78
     have m80 := Mono.set m75 z14 k78
     refine AOps.cons rfl rfl (AOp.assign (.bool true) rfl rfl ?_)
     refine AOps.nil ?_
     change AWP _ _ _ _ _ _
     refine AWP.ret ?_
     refine ⟨_, _, Ghost.refl, .inr rfl, _, Res.list rfl rfl (.cell (v := .agg [.int .i64 ((at_ m.Verts ((at_ m.Tris i).x0)).X), .int .i64 ((at_ m.Verts ((at_ m.Tris i).x0)).Y), .int .i64 ((at_ m.Verts ((at_ m.Tris i).x0)).Z), .int .i64 ((at_ m.Verts ((at_ m.Tris i).x1)).X), .int .i64 ((at_ m.Verts ((at_ m.Tris i).x1)).Y), .int .i64 ((at_ m.Verts ((at_ m.Tris i).x1)).Z), .int .i64 ((at_ m.Verts ((at_ m.Tris i).x2)).X), .int .i64 ((at_ m.Verts ((at_ m.Tris i).x2)).Y), .int .i64 ((at_ m.Verts ((at_ m.Tris i).x2)).Z)]) rfl ty_47 h77 rfl (.tmp rfl (.nil))), ?_, m80⟩
     have hR : R_mesh_Tri m i = ((TriT.mk (at_ m.Verts ((at_ m.Tris i).x0)) (at_ m.Verts ((at_ m.Tris i).x1)) (at_ m.Verts ((at_ m.Tris i).x2))), true) := by unfold R_mesh_Tri; rw [if_neg b21, if_neg b27, if_neg b52, if_neg b66]
     exact (congrArg (fun r : TriT × Bool => (.tup [.agg [.int .i64 r.1.A.X, .int .i64 r.1.A.Y, .int .i64 r.1.A.Z, .int .i64 r.1.B.X, .int .i64 r.1.B.Y, .int .i64 r.1.B.Z, .int .i64 r.1.C.X, .int .i64 r.1.C.Y, .int .i64 r.1.C.Z], .bool r.2] : AV)) hR).symm
end Go.Proofs.M
namespace Go.Proofs.M
open Go Go.AH
def rg (a b : Int) : List Int := (List.range (b - a).toNat).map fun k : Nat => a + (k : Int)
theorem rg_nil {a b : Int} (h : b ≤ a) : rg a b = [] := by
  unfold rg; rw [show (b - a).toNat = 0 by omega]; rfl
theorem rg_snoc {a b : Int} (h : a ≤ b) : rg a (b + 1) = rg a b ++ [b] := by
  unfold rg
  rw [show (b + 1 - a).toNat = (b - a).toNat + 1 by omega, List.range_succ, List.map_append]
  simp only [List.map_cons, List.map_nil]
  rw [show a + ((b - a).toNat : Int) = b by omega]
theorem mem_rg {a b x : Int} : x ∈ rg a b ↔ a ≤ x ∧ x < b := by
  unfold rg
  simp only [List.mem_map, List.mem_range]
  constructor
  · rintro ⟨k, h, rfl⟩; omega
  · rintro ⟨h1, h2⟩; exact ⟨(x - a).toNat, by omega, by omega⟩
theorem rg_len {a b : Int} : (rg a b).length = (b - a).toNat := by simp [rg]
theorem fm_le {α β : Type} {f : α → List β} {c : Nat} : ∀ {l : List α}, (∀ x ∈ l, (f x).length ≤ c) → (l.flatMap f).length ≤ l.length * c
  | [], _ => by simp
  | a :: l, h => by
    rw [List.flatMap_cons, List.length_append, List.length_cons, Nat.add_mul]
    have := h a (.head _)
    have := fm_le (l := l) fun x hx => h x (.tail _ hx)
    omega
def cor (k : Int) : SpotT := ⟨1, k, 0⟩
def edg (k i : Int) : SpotT := ⟨2, k, i⟩
def inn (a b : Int) : SpotT := ⟨3, a, b⟩
def corL (k : Int) : List SpotT := (rg 0 k).map cor
def edgI (k i : Int) : List SpotT := (rg 1 i).map (edg k)
def edgO (rs : List Int) (k : Int) : List SpotT := (rg 0 k).flatMap fun k => edgI k (at_ rs k)
def innI (b a : Int) : List SpotT := (rg 1 a).map fun a => inn a b
def innO (m b : Int) : List SpotT := (rg 1 b).flatMap fun b => innI b m
def spotsL (rs : List Int) (m : Int) : List SpotT := corL 4 ++ edgO rs 4 ++ innO m m
def rates (rs : List Int) : Prop := ∀ k : Int, 0 ≤ k → k < 4 → 1 ≤ at_ rs k ∧ at_ rs k ≤ 16
theorem corL_step {k : Int} (h : 0 ≤ k) : corL (k + 1) = corL k ++ [cor k] := by unfold corL; rw [rg_snoc h]; simp
theorem edgI_step {k i : Int} (h : 1 ≤ i) : edgI k (i + 1) = edgI k i ++ [edg k i] := by unfold edgI; rw [rg_snoc h]; simp
theorem edgO_step {rs : List Int} {k : Int} (h : 0 ≤ k) : edgO rs (k + 1) = edgO rs k ++ edgI k (at_ rs k) := by unfold edgO; rw [rg_snoc h]; simp
theorem innI_step {b a : Int} (h : 1 ≤ a) : innI b (a + 1) = innI b a ++ [inn a b] := by unfold innI; rw [rg_snoc h]; simp
theorem innO_step {m b : Int} (h : 1 ≤ b) : innO m (b + 1) = innO m b ++ innI b m := by unfold innO; rw [rg_snoc h]; simp
theorem edgO_0 {rs : List Int} : edgO rs 0 = [] := rfl
theorem edgI_1 {k i : Int} (h : i ≤ 1) : edgI k i = [] := by unfold edgI; rw [rg_nil h]; rfl
theorem innI_1 {b i : Int} (h : i ≤ 1) : innI b i = [] := by unfold innI; rw [rg_nil h]; rfl
theorem innO_1 {m i : Int} (h : i ≤ 1) : innO m i = [] := by unfold innO; rw [rg_nil h]; rfl
theorem corL_len {k : Int} (h : k ≤ 4) : (corL k).length ≤ 4 := by unfold corL; rw [List.length_map, rg_len]; omega
theorem edgI_len {k i : Int} (h : i ≤ 16) : (edgI k i).length ≤ 16 := by unfold edgI; rw [List.length_map, rg_len]; omega
theorem innI_len {k i : Int} (h : i ≤ 16) : (innI k i).length ≤ 16 := by unfold innI; rw [List.length_map, rg_len]; omega
theorem edgO_len {rs : List Int} {k : Int} (hr : rates rs) (h : k ≤ 4) : (edgO rs k).length ≤ 64 := by
  have h1 := fm_le (l := rg 0 k) (f := fun k => edgI k (at_ rs k)) (c := 16) fun x hx => edgI_len (hr x (mem_rg.1 hx).1 (by have := (mem_rg.1 hx).2; omega)).2
  have h2 := rg_len (a := 0) (b := k)
  unfold edgO; omega
theorem innO_len {m b : Int} (hm : m ≤ 16) (h : b ≤ 16) : (innO m b).length ≤ 256 := by
  have h1 := fm_le (l := rg 1 b) (f := fun b => innI b m) (c := 16) fun x hx => innI_len hm
  have h2 := rg_len (a := 1) (b := b)
  unfold innO; omega
theorem mem_cor {s : SpotT} {k : Int} : s ∈ corL k ↔ s.Kind = 1 ∧ 0 ≤ s.A ∧ s.A < k ∧ s.B = 0 := by
  unfold corL cor
  simp only [List.mem_map, mem_rg]
  constructor
  · rintro ⟨x, ⟨h1, h2⟩, rfl⟩; exact ⟨rfl, h1, h2, rfl⟩
  · rintro ⟨h1, h2, h3, h4⟩; exact ⟨s.A, ⟨h2, h3⟩, by cases s; simp_all⟩
theorem mem_edgI {s : SpotT} {k i : Int} : s ∈ edgI k i ↔ s.Kind = 2 ∧ s.A = k ∧ 1 ≤ s.B ∧ s.B < i := by
  unfold edgI edg
  simp only [List.mem_map, mem_rg]
  constructor
  · rintro ⟨x, ⟨h1, h2⟩, rfl⟩; exact ⟨rfl, rfl, h1, h2⟩
  · rintro ⟨h1, h2, h3, h4⟩; exact ⟨s.B, ⟨h3, h4⟩, by cases s; simp_all⟩
theorem mem_edgO {s : SpotT} {rs : List Int} {k : Int} : s ∈ edgO rs k ↔ s.Kind = 2 ∧ 0 ≤ s.A ∧ s.A < k ∧ 1 ≤ s.B ∧ s.B < at_ rs s.A := by
  unfold edgO
  simp only [List.mem_flatMap, mem_rg, mem_edgI]
  constructor
  · rintro ⟨x, ⟨h1, h2⟩, h3, rfl, h4, h5⟩; exact ⟨h3, h1, h2, h4, h5⟩
  · rintro ⟨h1, h2, h3, h4, h5⟩; exact ⟨s.A, ⟨h2, h3⟩, h1, rfl, h4, h5⟩
theorem mem_innI {s : SpotT} {b i : Int} : s ∈ innI b i ↔ s.Kind = 3 ∧ s.B = b ∧ 1 ≤ s.A ∧ s.A < i := by
  unfold innI inn
  simp only [List.mem_map, mem_rg]
  constructor
  · rintro ⟨x, ⟨h1, h2⟩, rfl⟩; exact ⟨rfl, rfl, h1, h2⟩
  · rintro ⟨h1, h2, h3, h4⟩; exact ⟨s.A, ⟨h3, h4⟩, by cases s; simp_all⟩
theorem mem_innO {s : SpotT} {m b : Int} : s ∈ innO m b ↔ s.Kind = 3 ∧ 1 ≤ s.A ∧ s.A < m ∧ 1 ≤ s.B ∧ s.B < b := by
  unfold innO
  simp only [List.mem_flatMap, mem_rg, mem_innI]
  constructor
  · rintro ⟨x, ⟨h1, h2⟩, h3, rfl, h4, h5⟩; exact ⟨h3, h4, h5, h1, h2⟩
  · rintro ⟨h1, h2, h3, h4, h5⟩; exact ⟨s.B, ⟨h4, h5⟩, h1, rfl, h2, h3⟩
theorem mem_spots {s : SpotT} {rs : List Int} {m : Int} : s ∈ spotsL rs m ↔ (s.Kind = 1 ∧ 0 ≤ s.A ∧ s.A < 4 ∧ s.B = 0) ∨ (s.Kind = 2 ∧ 0 ≤ s.A ∧ s.A < 4 ∧ 1 ≤ s.B ∧ s.B < at_ rs s.A) ∨ (s.Kind = 3 ∧ 1 ≤ s.A ∧ s.A < m ∧ 1 ≤ s.B ∧ s.B < m) := by
  unfold spotsL
  rw [List.mem_append, List.mem_append, mem_cor, mem_edgO, mem_innO]
  exact or_assoc
/-- The number of a spot: its first place, or -1. -/
def numL : List SpotT → SpotT → Int
  | [], _ => -1
  | x :: l, s => if x = s then 0 else if numL l s < 0 then -1 else numL l s + 1
theorem numL_not {s : SpotT} : ∀ {l : List SpotT}, s ∉ l → numL l s = -1
  | [], _ => rfl
  | x :: l, h => by
    have h1 : x ≠ s := fun e => h (e ▸ .head _)
    have h2 := numL_not (l := l) fun g => h (.tail _ g)
    unfold numL; rw [if_neg h1, if_pos (by omega)]
theorem numL_mem {s : SpotT} : ∀ {l : List SpotT}, s ∈ l → 0 ≤ numL l s ∧ numL l s < l.length ∧ at_ l (numL l s) = s
  | [], h => by cases h
  | x :: l, h => by
    unfold numL
    by_cases e : x = s
    · rw [if_pos e]; refine ⟨by omega, by simp only [List.length_cons]; omega, ?_⟩; simpa [at_] using e
    · rw [if_neg e]
      have h1 : s ∈ l := by cases h with | head => exact absurd rfl e | tail _ h => exact h
      obtain ⟨h2, h3, h4⟩ := numL_mem h1
      rw [if_neg (by omega)]
      refine ⟨by omega, by simp only [List.length_cons]; omega, ?_⟩
      unfold at_ at h4 ⊢
      rw [show (numL l s + 1).toNat = (numL l s).toNat + 1 by omega, List.getD_cons_succ]
      exact h4
/-- The map of the places. -/
def plcF : Nat → List SpotT → List (AV × AV)
  | _, [] => []
  | n, s :: l => (.agg (eSpot s), .int .i64 n) :: plcF (n + 1) l
def plc (l : List SpotT) : List (AV × AV) := plcF 0 l
theorem eSpot_inj {a b : SpotT} (h : eSpot a = eSpot b) : a = b := (eSpot_iff a b).2 h
theorem plcF_snoc {s : SpotT} : ∀ {l : List SpotT} {n : Nat}, plcF n (l ++ [s]) = plcF n l ++ [(.agg (eSpot s), .int .i64 ((n + l.length : Nat) : Int))]
  | [], n => by simp [plcF]
  | x :: l, n => by
    simp only [List.cons_append, plcF, plcF_snoc (l := l), List.length_cons]
    rw [show n + 1 + l.length = n + (l.length + 1) by omega]
theorem mgetF {s : SpotT} : ∀ {l : List SpotT} {n : Nat}, mget (plcF n l) (.agg (eSpot s)) = if s ∈ l then some (.int .i64 (n + numL l s)) else none
  | [], n => by simp [plcF, mget]
  | x :: l, n => by
    have ih := mgetF (s := s) (l := l) (n := n + 1)
    have hr : mget (plcF n (x :: l)) (.agg (eSpot s)) = if x = s then some (.int .i64 (n : Int)) else mget (plcF (n + 1) l) (.agg (eSpot s)) := by
      unfold mget
      simp only [plcF, List.find?_cons]
      by_cases e : x = s
      · subst e; simp
      · have : ¬ (AV.agg (eSpot x) = AV.agg (eSpot s)) := fun h => e (eSpot_inj (by simpa using h))
        simp [this, e]
    rw [hr, ih]
    by_cases e : x = s
    · subst e; simp [numL]
    · by_cases m : s ∈ l
      · have := numL_mem m
        rw [if_neg e, if_pos m, if_pos (.tail _ m)]
        have g : numL (x :: l) s = numL l s + 1 := by
          show (if x = s then (0 : Int) else if numL l s < 0 then -1 else numL l s + 1) = _
          rw [if_neg e, if_neg (by omega)]
        rw [g]; congr 2; push_cast; omega
      · rw [if_neg e, if_neg m, if_neg]
        intro h; cases h with | head => exact e rfl | tail _ h => exact m h
theorem mget_plc {l : List SpotT} {s : SpotT} (h : s ∈ l) : (mget (plc l) (.agg (eSpot s))).getD (.int .i64 0) = .int .i64 (numL l s) := by
  unfold plc; rw [mgetF, if_pos h]; simp
theorem mput_plc {l : List SpotT} {s : SpotT} (h : s ∉ l) : mput (plc l) (.agg (eSpot s)) (.int .i64 (l.length : Int)) = plc (l ++ [s]) := by
  unfold mput plc
  rw [mgetF, if_neg h, plcF_snoc]; simp
theorem plc_keys {l : List SpotT} (h : ∀ s ∈ l, ranS s) : ∀ e ∈ plc l, KOK Tryd.prog 76 e.1 := by
  unfold plc
  generalize 0 = n
  induction l generalizing n with
  | nil => intro e h; cases h
  | cons x l ih =>
    intro e he
    simp only [plcF] at he
    rcases List.mem_cons.1 he with rfl | he
    · exact kokS (h _ (.head _))
    · exact ih (fun s hs => h s (.tail _ hs)) _ e he
theorem ranS_small {s : SpotT} (h1 : 0 ≤ s.Kind ∧ s.Kind ≤ 3) (h2 : -100 ≤ s.A ∧ s.A ≤ 100) (h3 : -100 ≤ s.B ∧ s.B ≤ 100) : ranS s := by
  simp only [ranS, inR]; omega
theorem ranS_cor {k : Int} (h : k ≤ 4) : ∀ s ∈ corL k, ranS s := fun s hs => by have := mem_cor.1 hs; exact ranS_small (by omega) (by omega) (by omega)
theorem ranS_edgI {k i : Int} (hk : 0 ≤ k ∧ k < 4) (h : i ≤ 16) : ∀ s ∈ edgI k i, ranS s := fun s hs => by have := mem_edgI.1 hs; exact ranS_small (by omega) (by omega) (by omega)
theorem ranS_edgO {rs : List Int} {k : Int} (hr : rates rs) (hk : k ≤ 4) : ∀ s ∈ edgO rs k, ranS s := fun s hs => by
  have := mem_edgO.1 hs; have := hr s.A (by omega) (by omega); exact ranS_small (by omega) (by omega) (by omega)
theorem ranS_innI {b i : Int} (hb : 0 ≤ b ∧ b ≤ 16) (h : i ≤ 16) : ∀ s ∈ innI b i, ranS s := fun s hs => by have := mem_innI.1 hs; exact ranS_small (by omega) (by omega) (by omega)
theorem ranS_innO {m b : Int} (hm : m ≤ 16) (h : b ≤ 16) : ∀ s ∈ innO m b, ranS s := fun s hs => by have := mem_innO.1 hs; exact ranS_small (by omega) (by omega) (by omega)
theorem ranS_spots {rs : List Int} {m : Int} (hr : rates rs) (hm : m ≤ 16) : ∀ s ∈ spotsL rs m, ranS s := fun s hs => by
  unfold spotsL at hs
  rcases List.mem_append.1 hs with hs | hs
  · rcases List.mem_append.1 hs with hs | hs
    · exact ranS_cor (by omega) s hs
    · exact ranS_edgO hr (by omega) s hs
  · exact ranS_innO hm hm s hs
theorem numL_cor {rs : List Int} {m k : Int} (h0 : 0 ≤ k) (h1 : k < 4) : numL (spotsL rs m) (cor k) = k := by
  have e : spotsL rs m = cor 0 :: cor 1 :: cor 2 :: cor 3 :: (edgO rs 4 ++ innO m m) := by
    unfold spotsL; rw [List.append_assoc]; rfl
  rw [e]
  rcases (by omega : k = 0 ∨ k = 1 ∨ k = 2 ∨ k = 3) with rfl | rfl | rfl | rfl <;> simp [numL, cor]
def outS (k i r : Int) : SpotT := if i = 0 then cor k else if i = r then cor ((k + 1) % 4) else edg k i
def besS (k t m : Int) : SpotT := if k = 0 then inn t 1 else if k = 1 then inn (m - 1) t else if k = 2 then inn (m - t) (m - 1) else inn 1 (m - t)
def midC (N : SpotT → Int) (b a : Int) : List I3T := [⟨N (inn a b), N (inn (a + 1) b), N (inn (a + 1) (b + 1))⟩, ⟨N (inn a b), N (inn (a + 1) (b + 1)), N (inn a (b + 1))⟩]
def midI (N : SpotT → Int) (b a : Int) : List I3T := (rg 1 a).flatMap (midC N b)
def midO (N : SpotT → Int) (m b : Int) : List I3T := (rg 1 b).flatMap fun b => midI N b (m - 1)
theorem midI_step {N : SpotT → Int} {b a : Int} (h : 1 ≤ a) : midI N b (a + 1) = midI N b a ++ midC N b a := by unfold midI; rw [rg_snoc h]; simp
theorem midO_step {N : SpotT → Int} {m b : Int} (h : 1 ≤ b) : midO N m (b + 1) = midO N m b ++ midI N b (m - 1) := by unfold midO; rw [rg_snoc h]; simp
theorem midI_1 {N : SpotT → Int} {b i : Int} (h : i ≤ 1) : midI N b i = [] := by unfold midI; rw [rg_nil h]; rfl
theorem midI_len {N : SpotT → Int} {b a : Int} (h : a ≤ 16) : (midI N b a).length ≤ 32 := by
  have h1 := fm_le (l := rg 1 a) (f := midC N b) (c := 2) fun x hx => Nat.le_refl 2
  have h2 := rg_len (a := 1) (b := a)
  unfold midI; omega
theorem midO_len {N : SpotT → Int} {m b : Int} (hm : m ≤ 16) (h : b ≤ 16) : (midO N m b).length ≤ 512 := by
  have h1 := fm_le (l := rg 1 b) (f := fun b => midI N b (m - 1)) (c := 32) fun x hx => midI_len (by omega)
  have h2 := rg_len (a := 1) (b := b)
  unfold midO; omega
/-- A strip: the triangles between a side and the row beside it. -/
def strF (N : SpotT → Int) (k r m : Int) : Nat → Int → Int → List I3T
  | 0, _, _ => []
  | n + 1, i, t =>
    if i < r ∨ t < m - 1 then
      if i < r ∧ (t = m - 1 ∨ (2 * i + 1) * m ≤ (2 * t + 1) * r) then ⟨N (outS k i r), N (outS k (i + 1) r), N (besS k t m)⟩ :: strF N k r m n (i + 1) t
      else ⟨N (outS k i r), N (besS k (t + 1) m), N (besS k t m)⟩ :: strF N k r m n i (t + 1)
    else []
def strT (N : SpotT → Int) (k r m i t : Int) : List I3T := strF N k r m ((r - i) + (m - 1 - t)).toNat i t
theorem strT_end {N : SpotT → Int} {k r m i t : Int} (h1 : i = r) (h2 : t = m - 1) : strT N k r m i t = [] := by
  unfold strT; rw [show ((r - i) + (m - 1 - t)).toNat = 0 by omega]; rfl
theorem strT_out {N : SpotT → Int} {k r m i t : Int} (h1 : i ≤ r) (h2 : t ≤ m - 1) (h : i < r ∧ (t = m - 1 ∨ (2 * i + 1) * m ≤ (2 * t + 1) * r)) : strT N k r m i t = ⟨N (outS k i r), N (outS k (i + 1) r), N (besS k t m)⟩ :: strT N k r m (i + 1) t := by
  unfold strT
  rw [show ((r - i) + (m - 1 - t)).toNat = ((r - (i + 1)) + (m - 1 - t)).toNat + 1 by omega]
  unfold strF
  rw [if_pos (.inl h.1), if_pos h]
  cases ((r - (i + 1)) + (m - 1 - t)).toNat <;> rfl
theorem strT_in {N : SpotT → Int} {k r m i t : Int} (h1 : i ≤ r) (h2 : t < m - 1) (h : ¬ (i < r ∧ (t = m - 1 ∨ (2 * i + 1) * m ≤ (2 * t + 1) * r))) : strT N k r m i t = ⟨N (outS k i r), N (besS k (t + 1) m), N (besS k t m)⟩ :: strT N k r m i (t + 1) := by
  unfold strT
  rw [show ((r - i) + (m - 1 - t)).toNat = ((r - i) + (m - 1 - (t + 1))).toNat + 1 by omega]
  unfold strF
  rw [if_pos (.inr h2), if_neg h]
  cases ((r - i) + (m - 1 - (t + 1))).toNat <;> rfl
def strO (N : SpotT → Int) (rs : List Int) (m k : Int) : List I3T := (rg 0 k).flatMap fun k => strT N k (at_ rs k) m 0 1
theorem strO_step {N : SpotT → Int} {rs : List Int} {m k : Int} (h : 0 ≤ k) : strO N rs m (k + 1) = strO N rs m k ++ strT N k (at_ rs k) m 0 1 := by unfold strO; rw [rg_snoc h]; simp
theorem strF_len {N : SpotT → Int} {k r m : Int} : ∀ {n : Nat} {i t : Int}, (strF N k r m n i t).length ≤ n
  | 0, _, _ => by simp [strF]
  | n + 1, i, t => by
    unfold strF
    split
    · split
      · simp only [List.length_cons]; have := strF_len (N := N) (k := k) (r := r) (m := m) (n := n) (i := i + 1) (t := t); omega
      · simp only [List.length_cons]; have := strF_len (N := N) (k := k) (r := r) (m := m) (n := n) (i := i) (t := t + 1); omega
    · simp
theorem strO_len {N : SpotT → Int} {rs : List Int} {m k : Int} (hr : rates rs) (hm : m ≤ 16) (hk : k ≤ 4) : (strO N rs m k).length ≤ 128 := by
  have h1 := fm_le (l := rg 0 k) (f := fun k => strT N k (at_ rs k) m 0 1) (c := 32) fun x hx => by
    have h := mem_rg.1 hx
    have h2 := hr x h.1 (by omega)
    have := strF_len (N := N) (k := x) (r := at_ rs x) (m := m) (n := ((at_ rs x - 0) + (m - 1 - 1)).toNat) (i := 0) (t := 1)
    show (strT N x (at_ rs x) m 0 1).length ≤ 32
    unfold strT; omega
  have h2 := rg_len (a := 0) (b := k)
  unfold strO; omega
def trisL (N : SpotT → Int) (rs : List Int) (m : Int) : List I3T := if m = 1 then [⟨0, 1, 2⟩, ⟨0, 2, 3⟩] else midO N m (m - 1) ++ strO N rs m 4
def weaveR (rs : List Int) : List SpotT × List I3T × Bool :=
  if minL rs < 1 ∨ maxL rs > 16 then ([], [], false) else (spotsL rs (maxL rs), trisL (numL (spotsL rs (maxL rs))) rs (maxL rs), true)
end Go.Proofs.M
namespace Go.Proofs.M
open Go Go.AH
theorem bes_rng {k t m : Int} (hk : 0 ≤ k ∧ k < 4) (ht : 1 ≤ t ∧ t < m) : 1 ≤ (at_ ([(I2T.mk t 1), (I2T.mk (m - 1) t), (I2T.mk (m - t) (m - 1)), (I2T.mk 1 (m - t))] : List I2T) k).x0 ∧ (at_ ([(I2T.mk t 1), (I2T.mk (m - 1) t), (I2T.mk (m - t) (m - 1)), (I2T.mk 1 (m - t))] : List I2T) k).x0 < m ∧ 1 ≤ (at_ ([(I2T.mk t 1), (I2T.mk (m - 1) t), (I2T.mk (m - t) (m - 1)), (I2T.mk 1 (m - t))] : List I2T) k).x1 ∧ (at_ ([(I2T.mk t 1), (I2T.mk (m - 1) t), (I2T.mk (m - t) (m - 1)), (I2T.mk 1 (m - t))] : List I2T) k).x1 < m := by
  rcases (by omega : k = 0 ∨ k = 1 ∨ k = 2 ∨ k = 3) with rfl | rfl | rfl | rfl <;> simp [at_] <;> omega
theorem bes_eq {k t m : Int} (hk : 0 ≤ k ∧ k < 4) : inn (at_ ([(I2T.mk t 1), (I2T.mk (m - 1) t), (I2T.mk (m - t) (m - 1)), (I2T.mk 1 (m - t))] : List I2T) k).x0 (at_ ([(I2T.mk t 1), (I2T.mk (m - 1) t), (I2T.mk (m - t) (m - 1)), (I2T.mk 1 (m - t))] : List I2T) k).x1 = besS k t m := by
  rcases (by omega : k = 0 ∨ k = 1 ∨ k = 2 ∨ k = 3) with rfl | rfl | rfl | rfl <;> simp [at_, besS]
end Go.Proofs.M
namespace Go.Proofs.M
open Go Go.AH
theorem spot_inn {rs : List Int} {m a b : Int} (h1 : 1 ≤ a) (h2 : a < m) (h3 : 1 ≤ b) (h4 : b < m) : inn a b ∈ spotsL rs m := mem_spots.2 (.inr (.inr ⟨rfl, h1, h2, h3, h4⟩))
theorem spot_edg {rs : List Int} {m k i : Int} (h1 : 0 ≤ k) (h2 : k < 4) (h3 : 1 ≤ i) (h4 : i < at_ rs k) : edg k i ∈ spotsL rs m := mem_spots.2 (.inr (.inl ⟨rfl, h1, h2, h3, h4⟩))
theorem spot_cor {rs : List Int} {m k : Int} (h1 : 0 ≤ k) (h2 : k < 4) : cor k ∈ spotsL rs m := mem_spots.2 (.inl ⟨rfl, h1, h2, rfl⟩)
end Go.Proofs.M
namespace Go.Proofs.M
open Go Go.AH
theorem ranS_mk {x a b : Int} (h1 : 0 ≤ x ∧ x ≤ 3) (h2 : -100 ≤ a ∧ a ≤ 100) (h3 : -100 ≤ b ∧ b ≤ 100) : ranS (SpotT.mk x a b) := ranS_small h1 h2 h3
theorem lay_cor {k : Int} (h0 : 0 ≤ k) (h4 : k < 4) : SpotT.mk 1 k 0 ∉ corL k ∧ (∀ x ∈ corL k, ranS x) ∧ (corL k).length ≤ 400 ∧ ranS (SpotT.mk 1 k 0) :=
  ⟨fun h => by have := (mem_cor.1 h).2.2.1; simp only at this; omega, ranS_cor (by omega), by have := corL_len (k := k) (by omega); omega, ranS_mk (by omega) (by omega) (by omega)⟩
theorem lay_edg {rs : List Int} {k i : Int} (hr : rates rs) (h0 : 0 ≤ k) (h4 : k < 4) (h1 : 1 ≤ i) (h2 : i < at_ rs k) : SpotT.mk 2 k i ∉ corL 4 ++ edgO rs k ++ edgI k i ∧ (∀ x ∈ corL 4 ++ edgO rs k ++ edgI k i, ranS x) ∧ (corL 4 ++ edgO rs k ++ edgI k i).length ≤ 400 ∧ ranS (SpotT.mk 2 k i) := by
  have hk := hr k h0 h4
  refine ⟨fun h => ?_, fun x h => ?_, ?_, ranS_mk (by omega) (by omega) (by omega)⟩
  · rcases List.mem_append.1 h with h | h
    · rcases List.mem_append.1 h with h | h
      · have := (mem_cor.1 h).1; simp only at this; omega
      · have := (mem_edgO.1 h).2.2.1; simp only at this; omega
    · have := (mem_edgI.1 h).2.2.2; simp only at this; omega
  · rcases List.mem_append.1 h with h | h
    · rcases List.mem_append.1 h with h | h
      · exact ranS_cor (by omega) x h
      · exact ranS_edgO hr (by omega) x h
    · exact ranS_edgI ⟨h0, h4⟩ (by omega) x h
  · have := corL_len (k := 4) (by omega)
    have := edgO_len hr (k := k) (by omega)
    have := edgI_len (k := k) (i := i) (by omega)
    simp only [List.length_append]; omega
theorem lay_inn {rs : List Int} {m b a : Int} (hr : rates rs) (hm : m ≤ 16) (hb1 : 1 ≤ b) (hb : b < m) (h1 : 1 ≤ a) (h2 : a < m) : SpotT.mk 3 a b ∉ corL 4 ++ edgO rs 4 ++ innO m b ++ innI b a ∧ (∀ x ∈ corL 4 ++ edgO rs 4 ++ innO m b ++ innI b a, ranS x) ∧ (corL 4 ++ edgO rs 4 ++ innO m b ++ innI b a).length ≤ 400 ∧ ranS (SpotT.mk 3 a b) := by
  refine ⟨fun h => ?_, fun x h => ?_, ?_, ranS_mk (by omega) (by omega) (by omega)⟩
  · rcases List.mem_append.1 h with h | h
    · rcases List.mem_append.1 h with h | h
      · rcases List.mem_append.1 h with h | h
        · have := (mem_cor.1 h).1; simp only at this; omega
        · have := (mem_edgO.1 h).1; simp only at this; omega
      · have := (mem_innO.1 h).2.2.2.2; simp only at this; omega
    · have := (mem_innI.1 h).2.2.2; simp only at this; omega
  · rcases List.mem_append.1 h with h | h
    · rcases List.mem_append.1 h with h | h
      · rcases List.mem_append.1 h with h | h
        · exact ranS_cor (by omega) x h
        · exact ranS_edgO hr (by omega) x h
      · exact ranS_innO hm (by omega) x h
    · exact ranS_innI (by omega) (by omega) x h
  · have := corL_len (k := 4) (by omega)
    have := edgO_len hr (k := 4) (by omega)
    have := innO_len hm (b := b) (by omega)
    have := innI_len (k := b) (i := a) (by omega)
    simp only [List.length_append]; omega
theorem rates_of {rs : List Int} (h : rs.length = 4) (h1 : ¬ minL rs < 1) (h2 : ¬ maxL rs > 16) : rates rs := by
  intro k h0 h4
  have e1 := (minL_iff (l := rs) (by omega) (c := 1)).1 (by omega) (at_ rs k) (at_mem (by omega) (by omega))
  have e2 := (maxL_iff (l := rs) (by omega) (c := 16)).1 (by omega) (at_ rs k) (at_mem (by omega) (by omega))
  exact ⟨e1, e2⟩
theorem max_ge {rs : List Int} (h : rs.length = 4) (hr : rates rs) : 1 ≤ maxL rs := by
  have h0 := hr 0 (by omega) (by omega)
  have := (maxL_iff (l := rs) (by omega) (c := maxL rs)).1 (Int.le_refl _) (at_ rs 0) (at_mem (by omega) (by omega))
  omega
theorem strO_0 {N : SpotT → Int} {rs : List Int} {m : Int} : strO N rs m 0 = [] := rfl
theorem spots_len {rs : List Int} {m : Int} (hr : rates rs) (hm : m ≤ 16) : (spotsL rs m).length ≤ 400 := by
  have := corL_len (k := 4) (by omega)
  have := edgO_len hr (k := 4) (by omega)
  have := innO_len hm (b := m) (by omega)
  unfold spotsL
  simp only [List.length_append]; omega
theorem weave_T {rs : List Int} (h : rs.length = 4) (hr : rates rs) : maxL rs ≤ 16 ∧ 1 ≤ maxL rs ∧ weaveR rs = (spotsL rs (maxL rs), trisL (numL (spotsL rs (maxL rs))) rs (maxL rs), true) := by
  have h2 : maxL rs ≤ 16 := (maxL_iff (l := rs) (by omega) (c := 16)).2 fun x hx => by
    obtain ⟨i, i0, i1, rfl⟩ := mem_at hx; exact (hr i i0 (by omega)).2
  have h1 : 1 ≤ minL rs := (minL_iff (l := rs) (by omega) (c := 1)).2 fun x hx => by
    obtain ⟨i, i0, i1, rfl⟩ := mem_at hx; exact (hr i i0 (by omega)).1
  refine ⟨h2, max_ge h hr, ?_⟩
  unfold weaveR
  rw [if_neg (by omega)]
end Go.Proofs.M
namespace Go.Proofs.M
open Go Go.AH
set_option maxRecDepth 4000
set_option linter.unusedSimpArgs false
set_option linter.unusedVariables false
theorem c_inner {H0 : Heap} {wid mid : Nat} {vs vt : AV} (rs : List Int) (h : rs.length = 4) (m : Int) (hr : rates rs) (hm : m ≤ 16) (hw : H0 wid = some (.row 0 (rs.map eI ++ [.int .i64 m, vs, .map mid, vt]))) (hmid : H0 mid = some (.map (plc (spotsL rs m)))) (a b : Int) (ha : 1 ≤ a ∧ a < m) (hb : 1 ≤ b ∧ b < m) : ACalls Tryd.prog 81 [.ptr wid 0 0, .int .i64 a, .int .i64 b] H0 fun r H' => r = (.int .i64 (numL (spotsL rs m) (inn a b))) ∧ Mono H0 H' := by
 refine ACalls.of_body' (n := 15) rfl rfl rfl rfl ?_
 have m0 := Mono.refl H0
 refine AWP.seq ?_
 refine AWP.region (l := [0]) rfl ?_
 refine AOps.cons rfl rfl (AOp.assign (.int .i64 0) rfl rfl ?_)
 refine AOps.nil ?_
 change AWP _ _ _ _ _ _
 refine AWP.seq ?_
 refine AWP.region (l := [0, 1, 2, 3, 4, 5, 6, 7, 8]) rfl ?_
 refine AOps.cons rfl rfl (AOp.move (.ptr wid 0 0) rfl rfl ?_)
 refine AOps.cons rfl rfl (AOp.nilCheck (.ptr wid 0 0) rfl rfl rfl ?_)
 refine AOps.cons rfl rfl (AOp.fieldAddr rfl rfl fl_98_3 ?_ (hid := ⟨_, hw⟩))
 refine AOps.cons rfl rfl (AOp.load (.map mid) rfl rfl ty_96 hw (ld_skip (off' := 2) (len1 h) (by omega) rfl) ?_)
 refine AOps.cons rfl rfl (AOp.move (.int .i64 a) rfl rfl ?_)
 refine AOps.cons rfl rfl (AOp.move (.int .i64 b) rfl rfl ?_)
 refine AOps.cons rfl rfl (AOp.build (cells := [.int .i64 3, .int .i64 a, .int .i64 b]) rfl tz_76 pl_76 rfl rfl ?_)
 refine AOps.cons rfl rfl (AOp.lookup' rfl rfl hmid rfl (kokS (v := inn a b) (ranS_small (by simp only [inn]; omega) (by simp only [inn]; omega) (by simp only [inn]; omega))) (plc_keys (ranS_spots hr hm)) tm96 tzv_3 (mget_plc (l := spotsL rs m) (s := inn a b) (spot_inn (by omega) (by omega) (by omega) (by omega))) ?_)
 refine AOps.cons rfl rfl (AOp.assign (.int .i64 (numL (spotsL rs m) (inn a b))) rfl rfl ?_)
 refine AOps.nil ?_
 change AWP _ _ _ _ _ _
 refine AWP.ret ?_
 refine ⟨_, _, Ghost.refl, .inr rfl, _, Res.one rfl rfl, ?_, m0⟩
 exact rfl
theorem c_outer {H0 : Heap} {wid mid : Nat} {vs vt : AV} (rs : List Int) (h : rs.length = 4) (m : Int) (hr : rates rs) (hm : m ≤ 16) (hw : H0 wid = some (.row 0 (rs.map eI ++ [.int .i64 m, vs, .map mid, vt]))) (hmid : H0 mid = some (.map (plc (spotsL rs m)))) (k i : Int) (hk : 0 ≤ k ∧ k < 4) (hi : 0 ≤ i ∧ i ≤ at_ rs k) : ACalls Tryd.prog 82 [.ptr wid 0 0, .int .i64 k, .int .i64 i] H0 fun r H' => r = (.int .i64 (numL (spotsL rs m) (outS k i (at_ rs k)))) ∧ Mono H0 H' := by
 have hrk := hr k hk.1 hk.2
 refine ACalls.of_body' (n := 30) rfl rfl rfl rfl ?_
 have m0 := Mono.refl H0
 refine AWP.seq ?_
 refine AWP.region (l := [0]) rfl ?_
 refine AOps.cons rfl rfl (AOp.assign (.int .i64 0) rfl rfl ?_)
 refine AOps.nil ?_
 change AWP _ _ _ _ _ _
 refine AWP.seq ?_
 refine AWP.seq ?_
 refine AWP.region (l := [0]) rfl ?_
 refine AOps.cons rfl rfl (AOp.move (.int .i64 i) rfl rfl ?_)
 refine AOps.nil ?_
 change AWP _ _ _ _ _ _
 refine AWP.block ?_
 refine AWP.seq ?_
 refine AWP.region (l := [0, 1]) rfl ?_
 refine AOps.cons rfl rfl (AOp.bin (.bool (decide (i = 0))) rfl rfl rfl ieq ?_)
 refine AOps.cons rfl rfl (AOp.assign (.bool (decide (i = 0))) rfl rfl ?_)
 refine AOps.nil ?_
 change AWP _ _ _ _ _ _
 by_cases b1 : i = 0
 ·
  refine AWP.condT rfl (decide_eq_true b1) ?_
  refine AWP.seq ?_
  refine AWP.region (l := [0, 1]) rfl ?_
  refine AOps.cons rfl rfl (AOp.move (.int .i64 k) rfl rfl ?_)
  refine AOps.cons rfl rfl (AOp.assign (.int .i64 k) rfl rfl ?_)
  refine AOps.nil ?_
  change AWP _ _ _ _ _ _
  refine AWP.ret ?_
  refine ⟨_, _, Ghost.refl, .inr rfl, _, Res.one rfl rfl, ?_, m0⟩
  exact (congrArg (AV.int .i64) (show (k : Int) = numL (spotsL rs m) (outS k i (at_ rs k)) from by unfold outS; rw [if_pos b1, numL_cor hk.1 hk.2]))
 ·
  refine AWP.condF rfl (decide_eq_false b1) ?_
  refine AWP.seq ?_
  refine AWP.region (l := [0, 1, 2, 3, 4, 5, 6, 7]) rfl ?_
  refine AOps.cons rfl rfl (AOp.move (.ptr wid 0 0) rfl rfl ?_)
  refine AOps.cons rfl rfl (AOp.move (.int .i64 k) rfl rfl ?_)
  refine AOps.cons rfl rfl (AOp.nilCheck (.ptr wid 0 0) rfl rfl rfl ?_)
  refine AOps.cons rfl rfl (AOp.fieldAddr rfl rfl fl_98_0 ?_ (hid := ⟨_, hw⟩))
  refine AOps.cons rfl rfl (AOp.indexAddrA rfl rfl rfl ar_25 (by omega) (by omega) ⟨_, hw⟩ ?_)
  refine AOps.cons rfl rfl (AOp.load (.int .i64 (at_ rs k)) rfl rfl ty_3 hw (ld_off (o := 0 + k.toNat * 1) (by omega) (ld_fst (fun h => by first | rfl | cases h) (ld1 (i := k) (by omega) (by first | (have := h; omega) | (simp; omega))))) ?_)
  refine AOps.cons rfl rfl (AOp.bin (.bool (decide (i = at_ rs k))) rfl rfl rfl ieq ?_)
  refine AOps.cons rfl rfl (AOp.assign (.bool (decide (i = at_ rs k))) rfl rfl ?_)
  refine AOps.nil ?_
  change AWP _ _ _ _ _ _
  by_cases b2 : i = at_ rs k
  ·
   refine AWP.condT rfl (decide_eq_true b2) ?_
   refine AWP.seq ?_
   refine AWP.region (l := [0, 1, 2, 3]) rfl ?_
   refine AOps.cons rfl rfl (AOp.move (.int .i64 k) rfl rfl ?_)
   refine AOps.cons rfl rfl (AOp.bin (.int .i64 (k + 1)) rfl rfl rfl (iadd (by omega)) ?_)
   refine AOps.cons rfl rfl (AOp.remP rfl rfl rfl (by omega) (by omega) ?_)
   refine AOps.cons rfl rfl (AOp.assign (.int .i64 ((k + 1) % 4)) rfl rfl ?_)
   refine AOps.nil ?_
   change AWP _ _ _ _ _ _
   refine AWP.ret ?_
   refine ⟨_, _, Ghost.refl, .inr rfl, _, Res.one rfl rfl, ?_, m0⟩
   exact (congrArg (AV.int .i64) (show ((k + 1) % 4 : Int) = numL (spotsL rs m) (outS k i (at_ rs k)) from by unfold outS; rw [if_neg b1, if_pos b2, numL_cor (by omega) (by omega)]))
  ·
   refine AWP.condF rfl (decide_eq_false b2) ?_
   refine AWP.skip ?_
   change AWP _ _ _ _ _ _
   refine AWP.seq ?_
   refine AWP.region (l := [0, 1, 2, 3, 4, 5, 6, 7, 8]) rfl ?_
   refine AOps.cons rfl rfl (AOp.move (.ptr wid 0 0) rfl rfl ?_)
   refine AOps.cons rfl rfl (AOp.nilCheck (.ptr wid 0 0) rfl rfl rfl ?_)
   refine AOps.cons rfl rfl (AOp.fieldAddr rfl rfl fl_98_3 ?_ (hid := ⟨_, hw⟩))
   refine AOps.cons rfl rfl (AOp.load (.map mid) rfl rfl ty_96 hw (ld_skip (off' := 2) (len1 h) (by omega) rfl) ?_)
   refine AOps.cons rfl rfl (AOp.move (.int .i64 k) rfl rfl ?_)
   refine AOps.cons rfl rfl (AOp.move (.int .i64 i) rfl rfl ?_)
   refine AOps.cons rfl rfl (AOp.build (cells := [.int .i64 2, .int .i64 k, .int .i64 i]) rfl tz_76 pl_76 rfl rfl ?_)
   refine AOps.cons rfl rfl (AOp.lookup' rfl rfl hmid rfl (kokS (v := edg k i) (ranS_small (by simp only [edg]; omega) (by simp only [edg]; omega) (by simp only [edg]; omega))) (plc_keys (ranS_spots hr hm)) tm96 tzv_3 (mget_plc (l := spotsL rs m) (s := edg k i) (spot_edg (by omega) (by omega) (by omega) (by omega))) ?_)
   refine AOps.cons rfl rfl (AOp.assign (.int .i64 (numL (spotsL rs m) (edg k i))) rfl rfl ?_)
   refine AOps.nil ?_
   change AWP _ _ _ _ _ _
   refine AWP.ret ?_
   refine ⟨_, _, Ghost.refl, .inr rfl, _, Res.one rfl rfl, ?_, m0⟩
   exact (congrArg (AV.int .i64) (show (numL (spotsL rs m) (edg k i) : Int) = numL (spotsL rs m) (outS k i (at_ rs k)) from by unfold outS; rw [if_neg b1, if_neg b2]))
theorem c_beside {H0 : Heap} {wid mid : Nat} {vs vt : AV} (rs : List Int) (h : rs.length = 4) (m : Int) (hr : rates rs) (hm : m ≤ 16) (hw : H0 wid = some (.row 0 (rs.map eI ++ [.int .i64 m, vs, .map mid, vt]))) (hmid : H0 mid = some (.map (plc (spotsL rs m)))) (k t : Int) (hk : 0 ≤ k ∧ k < 4) (ht : 1 ≤ t ∧ t < m) : ACalls Tryd.prog 83 [.ptr wid 0 0, .int .i64 k, .int .i64 t] H0 fun r H' => r = (.int .i64 (numL (spotsL rs m) (besS k t m))) ∧ Mono H0 H' := by
 have hrt := hr
 have hm16 := hm
 refine ACalls.of_body' (n := 45) rfl rfl rfl rfl ?_
 have m0 := Mono.refl H0
 refine AWP.seq ?_
 refine AWP.region (l := [0]) rfl ?_
 refine AOps.cons rfl rfl (AOp.assign (.int .i64 0) rfl rfl ?_)
 refine AOps.nil ?_
 change AWP _ _ _ _ _ _
 refine AWP.seq ?_
 refine AWP.region (l := [0, 1, 2, 3, 4, 5]) rfl ?_
 refine AOps.cons rfl rfl (AOp.move (.ptr wid 0 0) rfl rfl ?_)
 refine AOps.cons rfl rfl (AOp.nilCheck (.ptr wid 0 0) rfl rfl rfl ?_)
 refine AOps.cons rfl rfl (AOp.fieldAddr rfl rfl fl_98_1 ?_ (hid := ⟨_, hw⟩))
 refine AOps.cons rfl rfl (AOp.load (.int .i64 m) rfl rfl ty_3 hw (ld_skip (off' := 0) (len1 h) (by omega) rfl) ?_)
 refine AOps.cons rfl rfl (AOp.bin (.int .i64 (m - 1)) rfl rfl rfl (isub (by omega)) ?_)
 refine AOps.cons rfl rfl (AOp.assign (.int .i64 (m - 1)) rfl rfl ?_)
 refine AOps.nil ?_
 change AWP _ _ _ _ _ _
 refine AWP.seq ?_
 refine AWP.region_quietA mixed (by kernel_rfl) 21 22 [22] rfl (by kernel_rfl) (B := .row 0 ([.int .i64 0, .int .i64 0, .int .i64 0, .int .i64 0, .int .i64 0, .int .i64 0, .int .i64 0, .int .i64 0])) (va := fun i => .ptr i 0 0) (by decide) fun i1 n2 _ hs3 => ?_
 refine QEA.op rfl rfl rfl (.inl ⟨rfl, fun H1 f' H' hf hN hM => AOp.move (.int .i64 t) rfl ((hf 2 rfl).trans rfl) ⟨rfl, hN⟩⟩) ?_
 refine QEA.op rfl rfl rfl (.inl ⟨rfl, fun H1 f' H' hf hN hM => AOp.build (cells := [.int .i64 t, .int .i64 1]) rfl tz_119 pl_119 (lconsP ((hf 14 rfl).trans rfl) (lconsP rfl rfl)) rfl ⟨rfl, hN⟩⟩) ?_
 refine QEA.op rfl rfl rfl (.inl ⟨rfl, fun H1 f' H' hf hN hM => AOp.move (.int .i64 (m - 1)) rfl ((hf 7 rfl).trans rfl) ⟨rfl, hN⟩⟩) ?_
 refine QEA.op rfl rfl rfl (.inl ⟨rfl, fun H1 f' H' hf hN hM => AOp.move (.int .i64 t) rfl ((hf 2 rfl).trans rfl) ⟨rfl, hN⟩⟩) ?_
 refine QEA.op rfl rfl rfl (.inl ⟨rfl, fun H1 f' H' hf hN hM => AOp.build (cells := [.int .i64 (m - 1), .int .i64 t]) rfl tz_119 pl_119 (lconsP ((hf 16 rfl).trans rfl) (lconsP ((hf 17 rfl).trans rfl) rfl)) rfl ⟨rfl, hN⟩⟩) ?_
 refine QEA.op rfl rfl rfl (.inl ⟨rfl, fun H1 f' H' hf hN hM => AOp.move (.ptr wid 0 0) rfl ((hf 0 rfl).trans rfl) ⟨rfl, hN⟩⟩) ?_
 refine QEA.op rfl rfl rfl (.inl ⟨rfl, fun H1 f' H' hf hN hM => AOp.nilCheck (.ptr wid 0 0) rfl ((hf 19 rfl).trans rfl) rfl ⟨rfl, hN⟩⟩) ?_
 refine QEA.op rfl rfl rfl (.inl ⟨rfl, fun H1 f' H' hf hN hM => AOp.fieldAddr rfl ((hf 20 rfl).trans rfl) fl_98_1 ⟨rfl, hN⟩ (hid := ⟨_, (hM _ _ hw)⟩)⟩) ?_
 refine QEA.op rfl rfl rfl (.inl ⟨rfl, fun H1 f' H' hf hN hM => AOp.load (.int .i64 m) rfl ((hf 21 rfl).trans rfl) ty_3 (hM _ _ hw) (ld_skip (off' := 0) (len1 h) (by omega) rfl) ⟨rfl, hN⟩⟩) ?_
 refine QEA.op rfl rfl rfl (.inl ⟨rfl, fun H1 f' H' hf hN hM => AOp.move (.int .i64 t) rfl ((hf 2 rfl).trans rfl) ⟨rfl, hN⟩⟩) ?_
 refine QEA.op rfl rfl rfl (.inl ⟨rfl, fun H1 f' H' hf hN hM => AOp.bin (.int .i64 (m - t)) rfl ((hf 22 rfl).trans rfl) ((hf 23 rfl).trans rfl) (isub (by omega)) ⟨rfl, hN⟩⟩) ?_
 refine QEA.op rfl rfl rfl (.inl ⟨rfl, fun H1 f' H' hf hN hM => AOp.move (.int .i64 (m - 1)) rfl ((hf 7 rfl).trans rfl) ⟨rfl, hN⟩⟩) ?_
 refine QEA.op rfl rfl rfl (.inl ⟨rfl, fun H1 f' H' hf hN hM => AOp.build (cells := [.int .i64 (m - t), .int .i64 (m - 1)]) rfl tz_119 pl_119 (lconsP ((hf 24 rfl).trans rfl) (lconsP ((hf 25 rfl).trans rfl) rfl)) rfl ⟨rfl, hN⟩⟩) ?_
 refine QEA.op rfl rfl rfl (.inl ⟨rfl, fun H1 f' H' hf hN hM => AOp.move (.ptr wid 0 0) rfl ((hf 0 rfl).trans rfl) ⟨rfl, hN⟩⟩) ?_
 refine QEA.op rfl rfl rfl (.inl ⟨rfl, fun H1 f' H' hf hN hM => AOp.nilCheck (.ptr wid 0 0) rfl ((hf 27 rfl).trans rfl) rfl ⟨rfl, hN⟩⟩) ?_
 refine QEA.op rfl rfl rfl (.inl ⟨rfl, fun H1 f' H' hf hN hM => AOp.fieldAddr rfl ((hf 28 rfl).trans rfl) fl_98_1 ⟨rfl, hN⟩ (hid := ⟨_, (hM _ _ hw)⟩)⟩) ?_
 refine QEA.op rfl rfl rfl (.inl ⟨rfl, fun H1 f' H' hf hN hM => AOp.load (.int .i64 m) rfl ((hf 29 rfl).trans rfl) ty_3 (hM _ _ hw) (ld_skip (off' := 0) (len1 h) (by omega) rfl) ⟨rfl, hN⟩⟩) ?_
 refine QEA.op rfl rfl rfl (.inl ⟨rfl, fun H1 f' H' hf hN hM => AOp.move (.int .i64 t) rfl ((hf 2 rfl).trans rfl) ⟨rfl, hN⟩⟩) ?_
 refine QEA.op rfl rfl rfl (.inl ⟨rfl, fun H1 f' H' hf hN hM => AOp.bin (.int .i64 (m - t)) rfl ((hf 30 rfl).trans rfl) ((hf 31 rfl).trans rfl) (isub (by omega)) ⟨rfl, hN⟩⟩) ?_
 refine QEA.op rfl rfl rfl (.inl ⟨rfl, fun H1 f' H' hf hN hM => AOp.build (cells := [.int .i64 1, .int .i64 (m - t)]) rfl tz_119 pl_119 (lconsP rfl (lconsP ((hf 32 rfl).trans rfl) rfl)) rfl ⟨rfl, hN⟩⟩) ?_
 refine QEA.op rfl rfl rfl (.inl ⟨rfl, fun H1 f' H' hf hN hM => AOp.build (cells := [.int .i64 t, .int .i64 1, .int .i64 (m - 1), .int .i64 t, .int .i64 (m - t), .int .i64 (m - 1), .int .i64 1, .int .i64 (m - t)]) rfl tz_120 pl_120 (lconsP ((hf 15 rfl).trans rfl) (lconsP ((hf 18 rfl).trans rfl) (lconsP ((hf 26 rfl).trans rfl) (lconsP ((hf 33 rfl).trans rfl) rfl)))) rfl ⟨rfl, hN⟩⟩) ?_
 refine QEA.alloc rfl rfl rfl rfl rfl tz_120 ?_
 refine QEA.done fun H4 m6 => ?_
 have m5 := hs3 _ m6
 have e7 := ne_new hw n2
 have e8 := ne_new hmid n2
 have z9 := Mono.free m0 n2
 have h10 := m5 _ _ hw
 have h11 := m5 _ _ hmid
 have m12 := m0.trans m5
 have h13 : H4 i1 = some (.row 0 ([.int .i64 0, .int .i64 0, .int .i64 0, .int .i64 0, .int .i64 0, .int .i64 0, .int .i64 0, .int .i64 0])) := m6 i1 _ (updH_same _ _ _)
 refine AOps.cons rfl rfl (AOp.store' (cells' := [.int .i64 t, .int .i64 1, .int .i64 (m - 1), .int .i64 t, .int .i64 (m - t), .int .i64 (m - 1), .int .i64 1, .int .i64 (m - t)]) (.agg [.int .i64 t, .int .i64 1, .int .i64 (m - 1), .int .i64 t, .int .i64 (m - t), .int .i64 (m - 1), .int .i64 1, .int .i64 (m - t)]) rfl rfl ts_120 h13 rfl rfl rfl rfl ?_)
 intro H14 h15 k16
 have h17 := keep k16 e7 h10
 have h18 := keep k16 e8 h11
 have m20 := Mono.set m12 z9 k16
 refine AOps.nil ?_
 change AWP _ _ _ _ _ _
 refine AWP.seq ?_
 refine AWP.frzP 8 h15 z9 rfl m20 fun H21 m22 k23 => ?_
 have h24 := (k23 _ e7).trans h17
 have h25 := (k23 _ e8).trans h18
 have hbes := bes_rng hk ht
 have hbi := bes_eq (m := m) (t := t) hk
 refine AWP.region_quiet mixed (by kernel_rfl) 11 [] rfl (by kernel_rfl) (Mono H21) (Mono.refl _) ?_
 refine QE.op rfl rfl (.inl ⟨rfl, fun f' H' hf hM => AOp.move (.ptr wid 0 0) rfl ((hf 0 rfl).trans rfl) ⟨rfl, hM⟩⟩) ?_
 refine QE.op rfl rfl (.inl ⟨rfl, fun f' H' hf hM => AOp.move (.int .i64 k) rfl ((hf 1 rfl).trans rfl) ⟨rfl, hM⟩⟩) ?_
 refine QE.op rfl rfl (.inl ⟨rfl, fun f' H' hf hM => AOp.indexAddrFA rfl ((hf 8 rfl).trans rfl) ((hf 36 rfl).trans rfl) ar_120 (by omega) (by omega) ⟨rfl, hM⟩⟩) ?_
 refine QE.op rfl rfl (.inl ⟨rfl, fun f' H' hf hM => AOp.indexAddrFA rfl ((hf 37 rfl).trans rfl) rfl ar_119 (by omega) (by omega) ⟨rfl, hM⟩⟩) ?_
 refine QE.op rfl rfl (.inl ⟨rfl, fun f' H' hf hM => AOp.loadF (.int .i64 ((at_ ([(I2T.mk t 1), (I2T.mk (m - 1) t), (I2T.mk (m - t) (m - 1)), (I2T.mk 1 (m - t))] : List I2T) k).x0)) rfl ((hf 38 rfl).trans rfl) ty_3 (ld_off (o := 0 + k.toNat * 2) (by omega) (ldF eI2_len (i := k) (o := 0) (xs := ([(I2T.mk t 1), (I2T.mk (m - 1) t), (I2T.mk (m - t) (m - 1)), (I2T.mk 1 (m - t))] : List I2T)) (by omega) (by first | (have := (rfl : ([(I2T.mk t 1), (I2T.mk (m - 1) t), (I2T.mk (m - t) (m - 1)), (I2T.mk 1 (m - t))] : List I2T).length = 4); omega) | (simp; omega)) rfl (by decide))) ⟨rfl, hM⟩⟩) ?_
 refine QE.op rfl rfl (.inl ⟨rfl, fun f' H' hf hM => AOp.move (.int .i64 k) rfl ((hf 1 rfl).trans rfl) ⟨rfl, hM⟩⟩) ?_
 refine QE.op rfl rfl (.inl ⟨rfl, fun f' H' hf hM => AOp.indexAddrFA rfl ((hf 8 rfl).trans rfl) ((hf 40 rfl).trans rfl) ar_120 (by omega) (by omega) ⟨rfl, hM⟩⟩) ?_
 refine QE.op rfl rfl (.inl ⟨rfl, fun f' H' hf hM => AOp.indexAddrFA rfl ((hf 41 rfl).trans rfl) rfl ar_119 (by omega) (by omega) ⟨rfl, hM⟩⟩) ?_
 refine QE.op rfl rfl (.inl ⟨rfl, fun f' H' hf hM => AOp.loadF (.int .i64 ((at_ ([(I2T.mk t 1), (I2T.mk (m - 1) t), (I2T.mk (m - t) (m - 1)), (I2T.mk 1 (m - t))] : List I2T) k).x1)) rfl ((hf 42 rfl).trans rfl) ty_3 (ld_off (o := 0 + k.toNat * 2 + 1) (by omega) (ldF eI2_len (i := k) (o := 1) (xs := ([(I2T.mk t 1), (I2T.mk (m - 1) t), (I2T.mk (m - t) (m - 1)), (I2T.mk 1 (m - t))] : List I2T)) (by omega) (by first | (have := (rfl : ([(I2T.mk t 1), (I2T.mk (m - 1) t), (I2T.mk (m - t) (m - 1)), (I2T.mk 1 (m - t))] : List I2T).length = 4); omega) | (simp; omega)) rfl (by decide))) ⟨rfl, hM⟩⟩) ?_
 refine QE.op rfl rfl (.inl ⟨rfl, fun f' H' hf hM => AOp.pcallH («as» := [.ptr wid 0 0, .int .i64 ((at_ ([(I2T.mk t 1), (I2T.mk (m - 1) t), (I2T.mk (m - t) (m - 1)), (I2T.mk 1 (m - t))] : List I2T) k).x0), .int .i64 ((at_ ([(I2T.mk t 1), (I2T.mk (m - 1) t), (I2T.mk (m - t) (m - 1)), (I2T.mk 1 (m - t))] : List I2T) k).x1)]) rfl rfl (lapp (lcons ((hf 35 rfl).trans rfl) (lcons ((hf 39 rfl).trans rfl) (lcons ((hf 43 rfl).trans rfl) rfl))) rfl) tf_81 (c_inner rs h m hrt hm16 (hM _ _ h24) (hM _ _ h25) ((at_ ([(I2T.mk t 1), (I2T.mk (m - 1) t), (I2T.mk (m - t) (m - 1)), (I2T.mk 1 (m - t))] : List I2T) k).x0) ((at_ ([(I2T.mk t 1), (I2T.mk (m - 1) t), (I2T.mk (m - t) (m - 1)), (I2T.mk 1 (m - t))] : List I2T) k).x1) ⟨hbes.1, hbes.2.1⟩ hbes.2.2) fun H2 m2 => ⟨rfl, hM.trans m2⟩⟩) ?_
 refine QE.op rfl rfl (.inl ⟨rfl, fun f' H' hf hM => AOp.assign (.int .i64 (numL (spotsL rs m) (inn ((at_ ([(I2T.mk t 1), (I2T.mk (m - 1) t), (I2T.mk (m - t) (m - 1)), (I2T.mk 1 (m - t))] : List I2T) k).x0) ((at_ ([(I2T.mk t 1), (I2T.mk (m - 1) t), (I2T.mk (m - t) (m - 1)), (I2T.mk 1 (m - t))] : List I2T) k).x1)))) rfl ((hf 44 rfl).trans rfl) ⟨rfl, hM⟩⟩) ?_
 refine QE.done fun H26 m27 => ?_
 have h28 := m27 _ _ h24
 have h29 := m27 _ _ h25
 have m30 := m22.trans m27
 refine AOps.nil ?_
 change AWP _ _ _ _ _ _
 refine AWP.ret ?_
 refine ⟨_, _, Ghost.refl, .inr rfl, _, Res.one rfl rfl, ?_, m30⟩
 exact (congrArg (AV.int .i64) (show (numL (spotsL rs m) (inn ((at_ ([(I2T.mk t 1), (I2T.mk (m - 1) t), (I2T.mk (m - t) (m - 1)), (I2T.mk 1 (m - t))] : List I2T) k).x0) ((at_ ([(I2T.mk t 1), (I2T.mk (m - 1) t), (I2T.mk (m - t) (m - 1)), (I2T.mk 1 (m - t))] : List I2T) k).x1)) : Int) = numL (spotsL rs m) (besS k t m) from by rw [hbi]))
end Go.Proofs.M
