/- A part of the proof that a law answers true for every input of its row: own work, by an AI agent. -/
import Derived.Test.YtcpepibkopbhgaaB04
set_option linter.unusedSimpArgs false
set_option linter.unusedVariables false
set_option linter.defProp false
namespace Go.Proofs.B
open Go Go.AH
set_option maxRecDepth 4000
set_option linter.unusedSimpArgs false
set_option linter.unusedVariables false
set_option maxHeartbeats 4000000
theorem c_rgrow_step (bx : List BoxT) (h_bx : bx.length ≤ 1048576) (hok : ∀ b ∈ bx, okBox b) (leaf : Int) (hlf : 1 ≤ leaf) (f : Nat) (hf : f ≤ 60) (ih : ∀ g_, g_ + 1 = f → RGrowOK bx leaf g_) (its : List Int) (hne : its ≠ []) (hp : its.length ≤ 2 ^ f) (hl : its.length ≤ 1048576) (hin : ∀ k ∈ its, 0 ≤ k ∧ k < bx.length) {B H0 : Heap} {N : List NodeT} {I : List Int} {Nv Iv : AV} (hbN : N.length + 2 * its.length ≤ 2147483648) (hbI : I.length + its.length ≤ 2147483648) (gs : GT B N I Nv Iv H0)  : ACalls Try.prog 22 [.agg [Nv, Iv], .sl bx.length (bx.flatMap eBox), .sl its.length (its.map eI), .int .i64 leaf, .int .i64 (f : Int)] H0 (GTR B N I (growT bx leaf f its)) := by
 obtain ⟨hm, oN, oI, sep⟩ := gs
 have hpos := List.length_pos_iff.2 hne
 refine ACalls.of_body' (n := 214) rfl rfl rfl rfl ?_
 have m0 := hm
 refine AWP.seq ?_
 refine AWP.region (l := [0, 1]) rfl ?_
 refine AOps.cons rfl rfl (AOp.box (.agg [Nv, Iv]) rfl rfl rfl ?_)
 intro i1 H2 n3 h4 k5
 have z6 := Mono.free m0 n3
 have o7 := Own.keep oN k5 (Own.notnew oN n3)
 have no8 := Own.notnew oN n3
 have o9 := Own.keep oI k5 (Own.notnew oI n3)
 have no10 := Own.notnew oI n3
 have m11 := Mono.new m0 n3 k5
 refine AOps.cons rfl rfl (AOp.alloc rfl tz_29 ?_)
 intro i12 H13 n14 h15 k16
 have e17 := ne_new h4 n14
 have z18 := Mono.free m11 n14
 have h19 := keep k16 (ne_new h4 n14) h4
 have o20 := Own.keep o7 k16 (Own.notnew o7 n14)
 have no21 := Own.notnew o7 n14
 have o22 := Own.keep o9 k16 (Own.notnew o9 n14)
 have no23 := Own.notnew o9 n14
 have m24 := Mono.new m11 n14 k16
 refine AOps.nil ?_
 change AWP _ _ _ _ _ _
 refine AWP.seq ?_
 have hk0_ := hin _ (at_mem_l (l := its) (i := 0) (by omega) (by omega))
 refine AWP.region (l := [0, 1, 2, 3, 4, 5, 6, 7]) rfl ?_
 refine AOps.cons rfl rfl (AOp.move (.sl bx.length (bx.flatMap eBox)) rfl rfl ?_)
 refine AOps.cons rfl rfl (AOp.move (.sl its.length (its.map eI)) rfl rfl ?_)
 refine AOps.cons rfl rfl (AOp.indexAddrS rfl rfl rfl sl_27 (by omega) (by omega) ?_)
 refine AOps.cons rfl rfl (AOp.loadF (.int .i64 (at_ its 0)) rfl rfl ty_3 (ld1 (by omega) (by omega)) ?_)
 refine AOps.cons rfl rfl (AOp.indexAddrS rfl rfl rfl sl_22 (by omega) (by omega) ?_)
 refine AOps.cons rfl rfl (AOp.loadF (.agg [.int .i64 (((at_ bx (at_ its 0)).Lo).X), .int .i64 (((at_ bx (at_ its 0)).Lo).Y), .int .i64 (((at_ bx (at_ its 0)).Lo).Z), .int .i64 (((at_ bx (at_ its 0)).Hi).X), .int .i64 (((at_ bx (at_ its 0)).Hi).Y), .int .i64 (((at_ bx (at_ its 0)).Hi).Z)]) rfl rfl ty_37 (ldM eBox_len (by omega) (by omega)) ?_)
 refine AOps.cons rfl rfl (AOp.alloc rfl tz_37 ?_)
 intro i25 H26 n27 h28 k29
 have e30 := ne_new h19 n27
 have e31 := ne_new h15 n27
 have z32 := Mono.free m24 n27
 have h33 := keep k29 (ne_new h19 n27) h19
 have h34 := keep k29 (ne_new h15 n27) h15
 have o35 := Own.keep o20 k29 (Own.notnew o20 n27)
 have no36 := Own.notnew o20 n27
 have o37 := Own.keep o22 k29 (Own.notnew o22 n27)
 have no38 := Own.notnew o22 n27
 have m39 := Mono.new m24 n27 k29
 refine AOps.cons rfl rfl (AOp.store' (cells' := [.int .i64 (((at_ bx (at_ its 0)).Lo).X), .int .i64 (((at_ bx (at_ its 0)).Lo).Y), .int .i64 (((at_ bx (at_ its 0)).Lo).Z), .int .i64 (((at_ bx (at_ its 0)).Hi).X), .int .i64 (((at_ bx (at_ its 0)).Hi).Y), .int .i64 (((at_ bx (at_ its 0)).Hi).Z)]) (.agg [.int .i64 (((at_ bx (at_ its 0)).Lo).X), .int .i64 (((at_ bx (at_ its 0)).Lo).Y), .int .i64 (((at_ bx (at_ its 0)).Lo).Z), .int .i64 (((at_ bx (at_ its 0)).Hi).X), .int .i64 (((at_ bx (at_ its 0)).Hi).Y), .int .i64 (((at_ bx (at_ its 0)).Hi).Z)]) rfl rfl ts_37 h28 rfl rfl rfl rfl ?_)
 intro H40 h41 k42
 have h43 := keep k42 e30 h33
 have h44 := keep k42 e31 h34
 have o46 := Own.keep o35 k42 no36
 have o47 := Own.keep o37 k42 no38
 have m48 := Mono.set m39 z32 k42
 refine AOps.nil ?_
 change AWP _ _ _ _ _ _
 refine AWP.seq ?_
 refine AWP.seq ?_
 refine AWP.region (l := [0]) rfl ?_
 refine AOps.cons rfl rfl (AOp.assign (.int .i64 0) rfl rfl ?_)
 refine AOps.nil ?_
 change AWP _ _ _ _ _ _
 refine AWP.block ?_
 refine AWP.loop (fun q49 fq Hq => ∃ (i : Int), q49 = (((its.length : Int) : Int) - i).toNat ∧ fq 12 = .int .i64 i ∧ fq 1 = .sl bx.length (bx.flatMap eBox) ∧ fq 2 = .sl its.length (its.map eI) ∧ fq 3 = .int .i64 leaf ∧ fq 4 = .int .i64 (f : Int) ∧ fq 5 = .ptr i1 0 0 ∧ fq 10 = .ptr i12 0 0 ∧ fq 11 = .ptr i25 0 0 ∧ Own B Hq 10 Nv N.length (N.flatMap eNode) ∧ Own B Hq 1 Iv I.length (I.map eI) ∧ NotId Nv i1 ∧ NotId Nv i12 ∧ NotId Nv i25 ∧ NotId Iv i1 ∧ NotId Iv i12 ∧ NotId Iv i25 ∧ Sep Nv Iv ∧ Hq i1 = some (.row 0 ([Nv, Iv])) ∧ Hq i12 = some (.row 0 ([.snil, .snil])) ∧ Hq i25 = some (.row 0 ([.int .i64 (((hullFrom bx (at_ bx (at_ its 0)) (its.take i.toNat)).Lo).X), .int .i64 (((hullFrom bx (at_ bx (at_ its 0)) (its.take i.toNat)).Lo).Y), .int .i64 (((hullFrom bx (at_ bx (at_ its 0)) (its.take i.toNat)).Lo).Z), .int .i64 (((hullFrom bx (at_ bx (at_ its 0)) (its.take i.toNat)).Hi).X), .int .i64 (((hullFrom bx (at_ bx (at_ its 0)) (its.take i.toNat)).Hi).Y), .int .i64 (((hullFrom bx (at_ bx (at_ its 0)) (its.take i.toNat)).Hi).Z)])) ∧ Mono B Hq ∧ (0 ≤ i) ∧ (i ≤ (its.length : Int))) (k := (((its.length : Int) : Int) - 0).toNat) ?_ ?_
 ·
  exact ⟨0, rfl, rfl, rfl, rfl, rfl, rfl, rfl, rfl, rfl, o46, o47, no8, no21, no36, no10, no23, no38, sep, h43, h44, (h41.trans (congrArg (fun c => some (AB.row 0 c)) (show ([.int .i64 (((at_ bx (at_ its 0)).Lo).X), .int .i64 (((at_ bx (at_ its 0)).Lo).Y), .int .i64 (((at_ bx (at_ its 0)).Lo).Z), .int .i64 (((at_ bx (at_ its 0)).Hi).X), .int .i64 (((at_ bx (at_ its 0)).Hi).Y), .int .i64 (((at_ bx (at_ its 0)).Hi).Z)] : List AV) = [.int .i64 (((hullFrom bx (at_ bx (at_ its 0)) (its.take (0 : Int).toNat)).Lo).X), .int .i64 (((hullFrom bx (at_ bx (at_ its 0)) (its.take (0 : Int).toNat)).Lo).Y), .int .i64 (((hullFrom bx (at_ bx (at_ its 0)) (its.take (0 : Int).toNat)).Lo).Z), .int .i64 (((hullFrom bx (at_ bx (at_ its 0)) (its.take (0 : Int).toNat)).Hi).X), .int .i64 (((hullFrom bx (at_ bx (at_ its 0)) (its.take (0 : Int).toNat)).Hi).Y), .int .i64 (((hullFrom bx (at_ bx (at_ its 0)) (its.take (0 : Int).toNat)).Hi).Z)] from by first | rfl | (rw [← hull_step hi0 (by omega)] <;> rfl)))), m48, by omega, by omega⟩
 ·
  rintro _ f51 H50 ⟨i, rfl, s52, s53, s54, s55, s56, s57, s58, s59, o60, o61, no62, no63, no64, no65, no66, no67, sp68, h69, h70, h71, m72, hi0, hi1⟩
  refine AWP.seq ?_
  refine AWP.seq ?_
  refine AWP.region (l := [0, 1, 2, 3]) rfl ?_
  refine AOps.cons rfl rfl (AOp.move (.int .i64 i) rfl s52 ?_)
  refine AOps.cons rfl rfl (AOp.move (.sl its.length (its.map eI)) rfl s54 ?_)
  refine AOps.cons rfl rfl (AOp.len (m := its.length) rfl rfl (.inr (.inl ⟨_, rfl⟩)) u_27 ?_)
  refine AOps.cons rfl rfl (AOp.bin (.bool (decide (i < (its.length : Int)))) rfl rfl rfl rfl ?_)
  refine AOps.nil ?_
  change AWP _ _ _ _ _ _
  by_cases b73 : i < (its.length : Int)
  ·
   refine AWP.condT rfl (decide_eq_true b73) ?_
   refine AWP.skip ?_
   change AWP _ _ _ _ _ _
   refine AWP.seq ?_
   refine AWP.block ?_
   have hki := hin _ (at_mem_l hi0 (by omega : i < its.length))
   refine AWP.region_quiet mixed (by kernel_rfl) 9 [9] rfl (by kernel_rfl) (Mono H50) (Mono.refl _) ?_
   refine QE.op rfl rfl (.inl ⟨rfl, fun f' H' hf hM => AOp.load (.agg [.int .i64 (((hullFrom bx (at_ bx (at_ its 0)) (its.take i.toNat)).Lo).X), .int .i64 (((hullFrom bx (at_ bx (at_ its 0)) (its.take i.toNat)).Lo).Y), .int .i64 (((hullFrom bx (at_ bx (at_ its 0)) (its.take i.toNat)).Lo).Z), .int .i64 (((hullFrom bx (at_ bx (at_ its 0)) (its.take i.toNat)).Hi).X), .int .i64 (((hullFrom bx (at_ bx (at_ its 0)) (its.take i.toNat)).Hi).Y), .int .i64 (((hullFrom bx (at_ bx (at_ its 0)) (its.take i.toNat)).Hi).Z)]) rfl ((hf 11 rfl).trans s59) ty_37 (hM _ _ h71) rfl ⟨rfl, hM⟩⟩) ?_
   refine QE.op rfl rfl (.inl ⟨rfl, fun f' H' hf hM => AOp.move (.sl bx.length (bx.flatMap eBox)) rfl ((hf 1 rfl).trans s53) ⟨rfl, hM⟩⟩) ?_
   refine QE.op rfl rfl (.inl ⟨rfl, fun f' H' hf hM => AOp.move (.sl its.length (its.map eI)) rfl ((hf 2 rfl).trans s54) ⟨rfl, hM⟩⟩) ?_
   refine QE.op rfl rfl (.inl ⟨rfl, fun f' H' hf hM => AOp.move (.int .i64 i) rfl ((hf 12 rfl).trans s52) ⟨rfl, hM⟩⟩) ?_
   refine QE.op rfl rfl (.inl ⟨rfl, fun f' H' hf hM => AOp.indexAddrS rfl ((hf 36 rfl).trans rfl) ((hf 37 rfl).trans rfl) sl_27 (by omega) (by omega) ⟨rfl, hM⟩⟩) ?_
   refine QE.op rfl rfl (.inl ⟨rfl, fun f' H' hf hM => AOp.loadF (.int .i64 (at_ its i)) rfl ((hf 38 rfl).trans rfl) ty_3 (ld1 (by omega) (by omega)) ⟨rfl, hM⟩⟩) ?_
   refine QE.op rfl rfl (.inl ⟨rfl, fun f' H' hf hM => AOp.indexAddrS rfl ((hf 35 rfl).trans rfl) ((hf 39 rfl).trans rfl) sl_22 (by omega) (by omega) ⟨rfl, hM⟩⟩) ?_
   refine QE.op rfl rfl (.inl ⟨rfl, fun f' H' hf hM => AOp.loadF (.agg [.int .i64 (((at_ bx (at_ its i)).Lo).X), .int .i64 (((at_ bx (at_ its i)).Lo).Y), .int .i64 (((at_ bx (at_ its i)).Lo).Z), .int .i64 (((at_ bx (at_ its i)).Hi).X), .int .i64 (((at_ bx (at_ its i)).Hi).Y), .int .i64 (((at_ bx (at_ its i)).Hi).Z)]) rfl ((hf 40 rfl).trans rfl) ty_37 (ldM eBox_len (by omega) (by omega)) ⟨rfl, hM⟩⟩) ?_
   refine QE.op rfl rfl (.inl ⟨rfl, fun f' H' hf hM => AOp.pcall («as» := [.agg [.int .i64 (((hullFrom bx (at_ bx (at_ its 0)) (its.take i.toNat)).Lo).X), .int .i64 (((hullFrom bx (at_ bx (at_ its 0)) (its.take i.toNat)).Lo).Y), .int .i64 (((hullFrom bx (at_ bx (at_ its 0)) (its.take i.toNat)).Lo).Z), .int .i64 (((hullFrom bx (at_ bx (at_ its 0)) (its.take i.toNat)).Hi).X), .int .i64 (((hullFrom bx (at_ bx (at_ its 0)) (its.take i.toNat)).Hi).Y), .int .i64 (((hullFrom bx (at_ bx (at_ its 0)) (its.take i.toNat)).Hi).Z)], .agg [.int .i64 (((at_ bx (at_ its i)).Lo).X), .int .i64 (((at_ bx (at_ its i)).Lo).Y), .int .i64 (((at_ bx (at_ its i)).Lo).Z), .int .i64 (((at_ bx (at_ its i)).Hi).X), .int .i64 (((at_ bx (at_ its i)).Hi).Y), .int .i64 (((at_ bx (at_ its i)).Hi).Z)]]) rfl rfl (lapp (lcons ((hf 34 rfl).trans rfl) (lcons ((hf 41 rfl).trans rfl) rfl)) rfl) tf_34 (c_rJoin _ _) fun H2 m2 => ⟨rfl, hM.trans m2⟩⟩) ?_
   refine QE.done fun H74 m75 => ?_
   have h76 := m75 _ _ h69
   have h77 := m75 _ _ h70
   have h78 := m75 _ _ h71
   have o79 := Own.mono o60 m75
   have o80 := Own.mono o61 m75
   have m81 := m72.trans m75
   refine AOps.cons rfl rfl (AOp.store' (cells' := [.int .i64 (((joinB (hullFrom bx (at_ bx (at_ its 0)) (its.take i.toNat)) (at_ bx (at_ its i))).Lo).X), .int .i64 (((joinB (hullFrom bx (at_ bx (at_ its 0)) (its.take i.toNat)) (at_ bx (at_ its i))).Lo).Y), .int .i64 (((joinB (hullFrom bx (at_ bx (at_ its 0)) (its.take i.toNat)) (at_ bx (at_ its i))).Lo).Z), .int .i64 (((joinB (hullFrom bx (at_ bx (at_ its 0)) (its.take i.toNat)) (at_ bx (at_ its i))).Hi).X), .int .i64 (((joinB (hullFrom bx (at_ bx (at_ its 0)) (its.take i.toNat)) (at_ bx (at_ its i))).Hi).Y), .int .i64 (((joinB (hullFrom bx (at_ bx (at_ its 0)) (its.take i.toNat)) (at_ bx (at_ its i))).Hi).Z)]) (.agg [.int .i64 (((joinB (hullFrom bx (at_ bx (at_ its 0)) (its.take i.toNat)) (at_ bx (at_ its i))).Lo).X), .int .i64 (((joinB (hullFrom bx (at_ bx (at_ its 0)) (its.take i.toNat)) (at_ bx (at_ its i))).Lo).Y), .int .i64 (((joinB (hullFrom bx (at_ bx (at_ its 0)) (its.take i.toNat)) (at_ bx (at_ its i))).Lo).Z), .int .i64 (((joinB (hullFrom bx (at_ bx (at_ its 0)) (its.take i.toNat)) (at_ bx (at_ its i))).Hi).X), .int .i64 (((joinB (hullFrom bx (at_ bx (at_ its 0)) (its.take i.toNat)) (at_ bx (at_ its i))).Hi).Y), .int .i64 (((joinB (hullFrom bx (at_ bx (at_ its 0)) (its.take i.toNat)) (at_ bx (at_ its i))).Hi).Z)]) s59 rfl ts_37 h78 rfl rfl rfl rfl ?_)
   intro H82 h83 k84
   have h85 := keep k84 e30 h76
   have h86 := keep k84 e31 h77
   have o88 := Own.keep o79 k84 no64
   have o89 := Own.keep o80 k84 no67
   have m90 := Mono.set m81 z32 k84
   refine AOps.nil ?_
   change AWP _ _ _ _ _ _
   refine AWP.region (l := [0, 1, 2]) rfl ?_
   refine AOps.cons rfl rfl (AOp.move (.int .i64 i) rfl s52 ?_)
   refine AOps.cons rfl rfl (AOp.bin (.int .i64 (i + 1)) rfl rfl rfl (iadd (by omega)) ?_)
   refine AOps.cons rfl rfl (AOp.assign (.int .i64 (i + 1)) rfl rfl ?_)
   refine AOps.nil ?_
   exact ⟨_, by omega, i + 1, rfl, rfl, s53, s54, s55, s56, s57, s58, s59, o88, o89, no62, no63, no64, no65, no66, no67, sp68, h85, h86, (h83.trans (congrArg (fun c => some (AB.row 0 c)) (show ([.int .i64 (((joinB (hullFrom bx (at_ bx (at_ its 0)) (its.take i.toNat)) (at_ bx (at_ its i))).Lo).X), .int .i64 (((joinB (hullFrom bx (at_ bx (at_ its 0)) (its.take i.toNat)) (at_ bx (at_ its i))).Lo).Y), .int .i64 (((joinB (hullFrom bx (at_ bx (at_ its 0)) (its.take i.toNat)) (at_ bx (at_ its i))).Lo).Z), .int .i64 (((joinB (hullFrom bx (at_ bx (at_ its 0)) (its.take i.toNat)) (at_ bx (at_ its i))).Hi).X), .int .i64 (((joinB (hullFrom bx (at_ bx (at_ its 0)) (its.take i.toNat)) (at_ bx (at_ its i))).Hi).Y), .int .i64 (((joinB (hullFrom bx (at_ bx (at_ its 0)) (its.take i.toNat)) (at_ bx (at_ its i))).Hi).Z)] : List AV) = [.int .i64 (((hullFrom bx (at_ bx (at_ its 0)) (its.take (i + 1).toNat)).Lo).X), .int .i64 (((hullFrom bx (at_ bx (at_ its 0)) (its.take (i + 1).toNat)).Lo).Y), .int .i64 (((hullFrom bx (at_ bx (at_ its 0)) (its.take (i + 1).toNat)).Lo).Z), .int .i64 (((hullFrom bx (at_ bx (at_ its 0)) (its.take (i + 1).toNat)).Hi).X), .int .i64 (((hullFrom bx (at_ bx (at_ its 0)) (its.take (i + 1).toNat)).Hi).Y), .int .i64 (((hullFrom bx (at_ bx (at_ its 0)) (its.take (i + 1).toNat)).Hi).Z)] from by first | rfl | (rw [← hull_step hi0 (by omega)] <;> rfl)))), m90, by omega, by omega⟩
  ·
   refine AWP.condF rfl (decide_eq_false b73) ?_
   refine AWP.exit ?_
   change AWP _ _ _ _ _ _
   refine AWP.seq ?_
   refine AWP.region (l := [0, 1, 2, 3]) rfl ?_
   refine AOps.cons rfl rfl (AOp.fieldAddr rfl s57 fl_29_0 ?_ (hid := ⟨_, h69⟩))
   refine AOps.cons rfl rfl (AOp.load (Nv) rfl rfl ty_26 h69 rfl ?_)
   refine AOps.cons rfl rfl (AOp.len_own (m := N.length) rfl rfl o60 u_26 ?_)
   refine AOps.cons rfl rfl (AOp.assign (.int .i64 (N.length : Int)) rfl rfl ?_)
   refine AOps.nil ?_
   change AWP _ _ _ _ _ _
   refine AWP.seq ?_
   refine AWP.region (l := [0, 1, 2, 3, 4, 5, 6, 7]) rfl ?_
   refine AOps.cons rfl rfl (AOp.fieldAddr rfl s57 fl_29_0 ?_ (hid := ⟨_, h69⟩))
   refine AOps.cons rfl rfl (AOp.load (Nv) rfl rfl ty_26 h69 rfl ?_)
   refine AOps.cons rfl rfl (AOp.load (.agg [.int .i64 (((hullFrom bx (at_ bx (at_ its 0)) (its.take i.toNat)).Lo).X), .int .i64 (((hullFrom bx (at_ bx (at_ its 0)) (its.take i.toNat)).Lo).Y), .int .i64 (((hullFrom bx (at_ bx (at_ its 0)) (its.take i.toNat)).Lo).Z), .int .i64 (((hullFrom bx (at_ bx (at_ its 0)) (its.take i.toNat)).Hi).X), .int .i64 (((hullFrom bx (at_ bx (at_ its 0)) (its.take i.toNat)).Hi).Y), .int .i64 (((hullFrom bx (at_ bx (at_ its 0)) (its.take i.toNat)).Hi).Z)]) rfl s59 ty_37 h71 rfl ?_)
   refine AOps.cons rfl rfl (AOp.build (cells := [.int .i64 (((hullFrom bx (at_ bx (at_ its 0)) (its.take i.toNat)).Lo).X), .int .i64 (((hullFrom bx (at_ bx (at_ its 0)) (its.take i.toNat)).Lo).Y), .int .i64 (((hullFrom bx (at_ bx (at_ its 0)) (its.take i.toNat)).Lo).Z), .int .i64 (((hullFrom bx (at_ bx (at_ its 0)) (its.take i.toNat)).Hi).X), .int .i64 (((hullFrom bx (at_ bx (at_ its 0)) (its.take i.toNat)).Hi).Y), .int .i64 (((hullFrom bx (at_ bx (at_ its 0)) (its.take i.toNat)).Hi).Z), .int .i64 0, .int .i64 0, .int .i64 0, .int .i64 0]) rfl tz_42 pl_42 rfl rfl ?_)
   refine AOps.cons rfl rfl (AOp.buildSlice (cells := [.int .i64 (((hullFrom bx (at_ bx (at_ its 0)) (its.take i.toNat)).Lo).X), .int .i64 (((hullFrom bx (at_ bx (at_ its 0)) (its.take i.toNat)).Lo).Y), .int .i64 (((hullFrom bx (at_ bx (at_ its 0)) (its.take i.toNat)).Lo).Z), .int .i64 (((hullFrom bx (at_ bx (at_ its 0)) (its.take i.toNat)).Hi).X), .int .i64 (((hullFrom bx (at_ bx (at_ its 0)) (its.take i.toNat)).Hi).Y), .int .i64 (((hullFrom bx (at_ bx (at_ its 0)) (its.take i.toNat)).Hi).Z), .int .i64 0, .int .i64 0, .int .i64 0, .int .i64 0]) rfl u_26 ts_42 tz_42 rfl rfl rfl ?_)
   intro i91 H92 n93 h94 k95
   have e96 := ne_new h69 n93
   have e97 := ne_new h70 n93
   have e98 := ne_new h71 n93
   have z99 := Mono.free m72 n93
   have h100 := keep k95 (ne_new h69 n93) h69
   have h101 := keep k95 (ne_new h70 n93) h70
   have h102 := keep k95 (ne_new h71 n93) h71
   have o103 := Own.keep o60 k95 (Own.notnew o60 n93)
   have no104 := Own.notnew o60 n93
   have o105 := Own.keep o61 k95 (Own.notnew o61 n93)
   have no106 := Own.notnew o61 n93
   have m107 := Mono.new m72 n93 k95
   refine AOps.cons rfl rfl (AOp.append_own (es := 10) (m := 1) (len := N.length) (old := N.flatMap eNode) (cells := [.int .i64 (((hullFrom bx (at_ bx (at_ its 0)) (its.take i.toNat)).Lo).X), .int .i64 (((hullFrom bx (at_ bx (at_ its 0)) (its.take i.toNat)).Lo).Y), .int .i64 (((hullFrom bx (at_ bx (at_ its 0)) (its.take i.toNat)).Lo).Z), .int .i64 (((hullFrom bx (at_ bx (at_ its 0)) (its.take i.toNat)).Hi).X), .int .i64 (((hullFrom bx (at_ bx (at_ its 0)) (its.take i.toNat)).Hi).Y), .int .i64 (((hullFrom bx (at_ bx (at_ its 0)) (its.take i.toNat)).Hi).Z), .int .i64 0, .int .i64 0, .int .i64 0, .int .i64 0]) rfl u_26 ts_42 tzn_42 tb_42 (by decide) ni_26 rfl o103 m107 rfl (.slm h94 rfl) (one_of rfl) (by decide) (by first | omega | (simp; omega)) ?_)
   intro v108 H109 o110 m111 k112 j113
   have o114 := Own.snocM (xs := (N : List NodeT)) (y := (NodeT.mk (hullFrom bx (at_ bx (at_ its 0)) (its.take i.toNat)) 0 0 0 0)) (e := eNode) (by simp) o110
   have h115 := (k112 _ no62 (by rw [h100]; simp)).trans h100
   have no116 := j113 _ no62 (by rw [h100]; simp)
   have h117 := (k112 _ no63 (by rw [h101]; simp)).trans h101
   have no118 := j113 _ no63 (by rw [h101]; simp)
   have h119 := (k112 _ no64 (by rw [h102]; simp)).trans h102
   have no120 := j113 _ no64 (by rw [h102]; simp)
   have sp122 := Own.sep o105 (Sep.symm sp68) j113
   have o121 := Own.stay o105 (Sep.symm sp68) k112
   refine AOps.cons rfl rfl (AOp.fieldAddr rfl s57 fl_29_0 ?_ (hid := ⟨_, h115⟩))
   refine AOps.cons rfl rfl (AOp.storeO (cells' := [v108, Iv]) rfl rfl o114 ts_26 h115 rfl rfl ?_)
   intro H123 h124 k125
   have h127 := keep k125 (Ne.symm e17) h117
   have h128 := keep k125 (Ne.symm e30) h119
   have o129 := Own.keep o121 k125 no65
   have o130 := Own.keep o114 k125 no116
   have m131 := Mono.set m111 z6 k125
   refine AOps.nil ?_
   change AWP _ _ _ _ _ _
   refine AWP.seq ?_
   refine AWP.seq ?_
   refine AWP.region (l := [0, 1, 2, 3, 4, 5, 6, 7]) rfl ?_
   refine AOps.cons rfl rfl (AOp.move (.sl its.length (its.map eI)) rfl s54 ?_)
   refine AOps.cons rfl rfl (AOp.len (m := its.length) rfl rfl (.inr (.inl ⟨_, rfl⟩)) u_27 ?_)
   refine AOps.cons rfl rfl (AOp.move (.int .i64 leaf) rfl s55 ?_)
   refine AOps.cons rfl rfl (AOp.bin (.bool (decide ((its.length : Int) ≤ leaf))) rfl rfl rfl rfl ?_)
   refine AOps.cons rfl rfl (AOp.move (.bool (decide ((its.length : Int) ≤ leaf))) rfl rfl ?_)
   by_cases b132 : (its.length : Int) ≤ leaf
   ·
    refine AOps.no rfl rfl rfl rfl rfl rfl rfl (ble_of (decide_eq_true b132) (by decide)) ?_
    refine AOps.no rfl rfl rfl rfl rfl rfl rfl (ble_of (decide_eq_true b132) (by decide)) ?_
    refine AOps.cons rfl rfl (AOp.pickT (.bool true) rfl rfl (decide_eq_true b132) rfl ?_)
    refine AOps.nil ?_
    change AWP _ _ _ _ _ _
    refine AWP.condT rfl rfl ?_
    refine AWP.seq ?_
    have hnl : N.length < (N ++ [NodeT.mk (hullFrom bx (at_ bx (at_ its 0)) (its.take i.toNat)) 0 0 0 0]).length := by simp only [List.length_append, List.length_cons, List.length_nil]; omega
    refine AWP.region (l := [0, 1, 2, 3, 4, 5, 6, 7, 8]) rfl ?_
    refine AOps.cons rfl rfl (AOp.fieldAddr rfl s57 fl_29_0 ?_ (hid := ⟨_, h124⟩))
    refine AOps.cons rfl rfl (AOp.load (v108) rfl rfl ty_26 h124 rfl ?_)
    refine AOps.cons rfl rfl (AOp.move (.int .i64 (N.length : Int)) rfl rfl ?_)
    refine AOps.cons rfl rfl (AOp.fieldAddr rfl s57 fl_29_1 ?_ (hid := ⟨_, h124⟩))
    refine AOps.cons rfl rfl (AOp.load (Iv) rfl rfl ty_27 h124 rfl ?_)
    refine AOps.cons rfl rfl (AOp.len_own (m := I.length) rfl rfl o129 u_27 ?_)
    obtain ⟨i133, ver134, e135, h136, _, _⟩ := Own.pos o130 (by first | omega | (simp only [List.length_set, List.length_append, List.length_cons, List.length_nil]; omega))
    refine AOps.cons rfl rfl (AOp.indexAddrO rfl (Eq.trans rfl e135) rfl sl_26 (by first | omega | (simp only [List.length_set, List.length_append, List.length_cons, List.length_nil]; omega)) (by first | omega | (simp only [List.length_set, List.length_append, List.length_cons, List.length_nil]; omega)) h136 ?_)
    refine AOps.cons rfl rfl (AOp.fieldAddr rfl rfl fl_42_3 ?_ (hid := ⟨_, h136⟩))
    refine AOps.cons rfl rfl (AOp.store' (cells' := ((N ++ [(NodeT.mk (hullFrom bx (at_ bx (at_ its 0)) (its.take i.toNat)) 0 0 0 0)]).set (N.length : Int).toNat (NodeT.mk ((at_ (N ++ [(NodeT.mk (hullFrom bx (at_ bx (at_ its 0)) (its.take i.toNat)) 0 0 0 0)]) (N.length : Int)).Box) ((at_ (N ++ [(NodeT.mk (hullFrom bx (at_ bx (at_ its 0)) (its.take i.toNat)) 0 0 0 0)]) (N.length : Int)).Left) ((at_ (N ++ [(NodeT.mk (hullFrom bx (at_ bx (at_ its 0)) (its.take i.toNat)) 0 0 0 0)]) (N.length : Int)).Right) (I.length : Int) ((at_ (N ++ [(NodeT.mk (hullFrom bx (at_ bx (at_ its 0)) (its.take i.toNat)) 0 0 0 0)]) (N.length : Int)).Count))).flatMap eNode) (.int .i64 (I.length : Int)) rfl rfl ts_3 (Own.at_ e135 o130).1 rfl rfl (blelen (flatMap_length eNode_len _) (by first | omega | (simp only [List.length_set, List.length_append, List.length_cons, List.length_nil]; omega))) (wr_setF (xs := (N ++ [(NodeT.mk (hullFrom bx (at_ bx (at_ its 0)) (its.take i.toNat)) 0 0 0 0)])) (i := (N.length : Int)) (v := .int .i64 (I.length : Int)) (y := (NodeT.mk ((at_ (N ++ [(NodeT.mk (hullFrom bx (at_ bx (at_ its 0)) (its.take i.toNat)) 0 0 0 0)]) (N.length : Int)).Box) ((at_ (N ++ [(NodeT.mk (hullFrom bx (at_ bx (at_ its 0)) (its.take i.toNat)) 0 0 0 0)]) (N.length : Int)).Left) ((at_ (N ++ [(NodeT.mk (hullFrom bx (at_ bx (at_ its 0)) (its.take i.toNat)) 0 0 0 0)]) (N.length : Int)).Right) (I.length : Int) ((at_ (N ++ [(NodeT.mk (hullFrom bx (at_ bx (at_ its 0)) (its.take i.toNat)) 0 0 0 0)]) (N.length : Int)).Count))) eNode_len (by omega) (by first | omega | (simp only [List.length_set, List.length_append, List.length_cons, List.length_nil]; omega)) (by decide) rfl) ?_)
    intro H137 h138 k139
    have h140 := (k139 _ (NotId.ne no118 e135)).trans h127
    have h141 := (k139 _ (NotId.ne no120 e135)).trans h128
    have h142 := (k139 _ (NotId.ne no116 e135)).trans h124
    have o143 := Own.store e135 o130 h138 (len' := (((N ++ [(NodeT.mk (hullFrom bx (at_ bx (at_ its 0)) (its.take i.toNat)) 0 0 0 0)]).set (N.length : Int).toNat (NodeT.mk ((at_ (N ++ [(NodeT.mk (hullFrom bx (at_ bx (at_ its 0)) (its.take i.toNat)) 0 0 0 0)]) (N.length : Int)).Box) ((at_ (N ++ [(NodeT.mk (hullFrom bx (at_ bx (at_ its 0)) (its.take i.toNat)) 0 0 0 0)]) (N.length : Int)).Left) ((at_ (N ++ [(NodeT.mk (hullFrom bx (at_ bx (at_ its 0)) (its.take i.toNat)) 0 0 0 0)]) (N.length : Int)).Right) (I.length : Int) ((at_ (N ++ [(NodeT.mk (hullFrom bx (at_ bx (at_ its 0)) (its.take i.toNat)) 0 0 0 0)]) (N.length : Int)).Count)))).length) (by rw [List.length_set]) (by rw [flatMap_length eNode_len, List.length_set])
    have m144 := Mono.set m131 (Own.at_ e135 o130).2.1 k139
    have o145 := Own.stay o129 sp122 (fun i hi _ => k139 i (NotId.ne hi e135))
    refine AOps.nil ?_
    change AWP _ _ _ _ _ _
    refine AWP.seq ?_
    refine AWP.region (l := [0, 1, 2, 3, 4, 5, 6, 7]) rfl ?_
    refine AOps.cons rfl rfl (AOp.fieldAddr rfl s57 fl_29_0 ?_ (hid := ⟨_, h142⟩))
    refine AOps.cons rfl rfl (AOp.load (v108) rfl rfl ty_26 h142 rfl ?_)
    refine AOps.cons rfl rfl (AOp.move (.int .i64 (N.length : Int)) rfl rfl ?_)
    refine AOps.cons rfl rfl (AOp.move (.sl its.length (its.map eI)) rfl s54 ?_)
    refine AOps.cons rfl rfl (AOp.len (m := its.length) rfl rfl (.inr (.inl ⟨_, rfl⟩)) u_27 ?_)
    obtain ⟨i146, ver147, e148, h149, _, _⟩ := Own.pos o143 (by first | omega | (simp only [List.length_set, List.length_append, List.length_cons, List.length_nil]; omega))
    refine AOps.cons rfl rfl (AOp.indexAddrO rfl (Eq.trans rfl e148) rfl sl_26 (by first | omega | (simp only [List.length_set, List.length_append, List.length_cons, List.length_nil]; omega)) (by first | omega | (simp only [List.length_set, List.length_append, List.length_cons, List.length_nil]; omega)) h149 ?_)
    refine AOps.cons rfl rfl (AOp.fieldAddr rfl rfl fl_42_4 ?_ (hid := ⟨_, h149⟩))
    refine AOps.cons rfl rfl (AOp.store' (cells' := ((((N ++ [(NodeT.mk (hullFrom bx (at_ bx (at_ its 0)) (its.take i.toNat)) 0 0 0 0)]).set (N.length : Int).toNat (NodeT.mk ((at_ (N ++ [(NodeT.mk (hullFrom bx (at_ bx (at_ its 0)) (its.take i.toNat)) 0 0 0 0)]) (N.length : Int)).Box) ((at_ (N ++ [(NodeT.mk (hullFrom bx (at_ bx (at_ its 0)) (its.take i.toNat)) 0 0 0 0)]) (N.length : Int)).Left) ((at_ (N ++ [(NodeT.mk (hullFrom bx (at_ bx (at_ its 0)) (its.take i.toNat)) 0 0 0 0)]) (N.length : Int)).Right) (I.length : Int) ((at_ (N ++ [(NodeT.mk (hullFrom bx (at_ bx (at_ its 0)) (its.take i.toNat)) 0 0 0 0)]) (N.length : Int)).Count)))).set (N.length : Int).toNat (NodeT.mk ((at_ (((N ++ [(NodeT.mk (hullFrom bx (at_ bx (at_ its 0)) (its.take i.toNat)) 0 0 0 0)]).set (N.length : Int).toNat (NodeT.mk ((at_ (N ++ [(NodeT.mk (hullFrom bx (at_ bx (at_ its 0)) (its.take i.toNat)) 0 0 0 0)]) (N.length : Int)).Box) ((at_ (N ++ [(NodeT.mk (hullFrom bx (at_ bx (at_ its 0)) (its.take i.toNat)) 0 0 0 0)]) (N.length : Int)).Left) ((at_ (N ++ [(NodeT.mk (hullFrom bx (at_ bx (at_ its 0)) (its.take i.toNat)) 0 0 0 0)]) (N.length : Int)).Right) (I.length : Int) ((at_ (N ++ [(NodeT.mk (hullFrom bx (at_ bx (at_ its 0)) (its.take i.toNat)) 0 0 0 0)]) (N.length : Int)).Count)))) (N.length : Int)).Box) ((at_ (((N ++ [(NodeT.mk (hullFrom bx (at_ bx (at_ its 0)) (its.take i.toNat)) 0 0 0 0)]).set (N.length : Int).toNat (NodeT.mk ((at_ (N ++ [(NodeT.mk (hullFrom bx (at_ bx (at_ its 0)) (its.take i.toNat)) 0 0 0 0)]) (N.length : Int)).Box) ((at_ (N ++ [(NodeT.mk (hullFrom bx (at_ bx (at_ its 0)) (its.take i.toNat)) 0 0 0 0)]) (N.length : Int)).Left) ((at_ (N ++ [(NodeT.mk (hullFrom bx (at_ bx (at_ its 0)) (its.take i.toNat)) 0 0 0 0)]) (N.length : Int)).Right) (I.length : Int) ((at_ (N ++ [(NodeT.mk (hullFrom bx (at_ bx (at_ its 0)) (its.take i.toNat)) 0 0 0 0)]) (N.length : Int)).Count)))) (N.length : Int)).Left) ((at_ (((N ++ [(NodeT.mk (hullFrom bx (at_ bx (at_ its 0)) (its.take i.toNat)) 0 0 0 0)]).set (N.length : Int).toNat (NodeT.mk ((at_ (N ++ [(NodeT.mk (hullFrom bx (at_ bx (at_ its 0)) (its.take i.toNat)) 0 0 0 0)]) (N.length : Int)).Box) ((at_ (N ++ [(NodeT.mk (hullFrom bx (at_ bx (at_ its 0)) (its.take i.toNat)) 0 0 0 0)]) (N.length : Int)).Left) ((at_ (N ++ [(NodeT.mk (hullFrom bx (at_ bx (at_ its 0)) (its.take i.toNat)) 0 0 0 0)]) (N.length : Int)).Right) (I.length : Int) ((at_ (N ++ [(NodeT.mk (hullFrom bx (at_ bx (at_ its 0)) (its.take i.toNat)) 0 0 0 0)]) (N.length : Int)).Count)))) (N.length : Int)).Right) ((at_ (((N ++ [(NodeT.mk (hullFrom bx (at_ bx (at_ its 0)) (its.take i.toNat)) 0 0 0 0)]).set (N.length : Int).toNat (NodeT.mk ((at_ (N ++ [(NodeT.mk (hullFrom bx (at_ bx (at_ its 0)) (its.take i.toNat)) 0 0 0 0)]) (N.length : Int)).Box) ((at_ (N ++ [(NodeT.mk (hullFrom bx (at_ bx (at_ its 0)) (its.take i.toNat)) 0 0 0 0)]) (N.length : Int)).Left) ((at_ (N ++ [(NodeT.mk (hullFrom bx (at_ bx (at_ its 0)) (its.take i.toNat)) 0 0 0 0)]) (N.length : Int)).Right) (I.length : Int) ((at_ (N ++ [(NodeT.mk (hullFrom bx (at_ bx (at_ its 0)) (its.take i.toNat)) 0 0 0 0)]) (N.length : Int)).Count)))) (N.length : Int)).First) (its.length : Int))).flatMap eNode) (.int .i64 (its.length : Int)) rfl rfl ts_3 (Own.at_ e148 o143).1 rfl rfl (blelen (flatMap_length eNode_len _) (by first | omega | (simp only [List.length_set, List.length_append, List.length_cons, List.length_nil]; omega))) (wr_setF (xs := (((N ++ [(NodeT.mk (hullFrom bx (at_ bx (at_ its 0)) (its.take i.toNat)) 0 0 0 0)]).set (N.length : Int).toNat (NodeT.mk ((at_ (N ++ [(NodeT.mk (hullFrom bx (at_ bx (at_ its 0)) (its.take i.toNat)) 0 0 0 0)]) (N.length : Int)).Box) ((at_ (N ++ [(NodeT.mk (hullFrom bx (at_ bx (at_ its 0)) (its.take i.toNat)) 0 0 0 0)]) (N.length : Int)).Left) ((at_ (N ++ [(NodeT.mk (hullFrom bx (at_ bx (at_ its 0)) (its.take i.toNat)) 0 0 0 0)]) (N.length : Int)).Right) (I.length : Int) ((at_ (N ++ [(NodeT.mk (hullFrom bx (at_ bx (at_ its 0)) (its.take i.toNat)) 0 0 0 0)]) (N.length : Int)).Count))))) (i := (N.length : Int)) (v := .int .i64 (its.length : Int)) (y := (NodeT.mk ((at_ (((N ++ [(NodeT.mk (hullFrom bx (at_ bx (at_ its 0)) (its.take i.toNat)) 0 0 0 0)]).set (N.length : Int).toNat (NodeT.mk ((at_ (N ++ [(NodeT.mk (hullFrom bx (at_ bx (at_ its 0)) (its.take i.toNat)) 0 0 0 0)]) (N.length : Int)).Box) ((at_ (N ++ [(NodeT.mk (hullFrom bx (at_ bx (at_ its 0)) (its.take i.toNat)) 0 0 0 0)]) (N.length : Int)).Left) ((at_ (N ++ [(NodeT.mk (hullFrom bx (at_ bx (at_ its 0)) (its.take i.toNat)) 0 0 0 0)]) (N.length : Int)).Right) (I.length : Int) ((at_ (N ++ [(NodeT.mk (hullFrom bx (at_ bx (at_ its 0)) (its.take i.toNat)) 0 0 0 0)]) (N.length : Int)).Count)))) (N.length : Int)).Box) ((at_ (((N ++ [(NodeT.mk (hullFrom bx (at_ bx (at_ its 0)) (its.take i.toNat)) 0 0 0 0)]).set (N.length : Int).toNat (NodeT.mk ((at_ (N ++ [(NodeT.mk (hullFrom bx (at_ bx (at_ its 0)) (its.take i.toNat)) 0 0 0 0)]) (N.length : Int)).Box) ((at_ (N ++ [(NodeT.mk (hullFrom bx (at_ bx (at_ its 0)) (its.take i.toNat)) 0 0 0 0)]) (N.length : Int)).Left) ((at_ (N ++ [(NodeT.mk (hullFrom bx (at_ bx (at_ its 0)) (its.take i.toNat)) 0 0 0 0)]) (N.length : Int)).Right) (I.length : Int) ((at_ (N ++ [(NodeT.mk (hullFrom bx (at_ bx (at_ its 0)) (its.take i.toNat)) 0 0 0 0)]) (N.length : Int)).Count)))) (N.length : Int)).Left) ((at_ (((N ++ [(NodeT.mk (hullFrom bx (at_ bx (at_ its 0)) (its.take i.toNat)) 0 0 0 0)]).set (N.length : Int).toNat (NodeT.mk ((at_ (N ++ [(NodeT.mk (hullFrom bx (at_ bx (at_ its 0)) (its.take i.toNat)) 0 0 0 0)]) (N.length : Int)).Box) ((at_ (N ++ [(NodeT.mk (hullFrom bx (at_ bx (at_ its 0)) (its.take i.toNat)) 0 0 0 0)]) (N.length : Int)).Left) ((at_ (N ++ [(NodeT.mk (hullFrom bx (at_ bx (at_ its 0)) (its.take i.toNat)) 0 0 0 0)]) (N.length : Int)).Right) (I.length : Int) ((at_ (N ++ [(NodeT.mk (hullFrom bx (at_ bx (at_ its 0)) (its.take i.toNat)) 0 0 0 0)]) (N.length : Int)).Count)))) (N.length : Int)).Right) ((at_ (((N ++ [(NodeT.mk (hullFrom bx (at_ bx (at_ its 0)) (its.take i.toNat)) 0 0 0 0)]).set (N.length : Int).toNat (NodeT.mk ((at_ (N ++ [(NodeT.mk (hullFrom bx (at_ bx (at_ its 0)) (its.take i.toNat)) 0 0 0 0)]) (N.length : Int)).Box) ((at_ (N ++ [(NodeT.mk (hullFrom bx (at_ bx (at_ its 0)) (its.take i.toNat)) 0 0 0 0)]) (N.length : Int)).Left) ((at_ (N ++ [(NodeT.mk (hullFrom bx (at_ bx (at_ its 0)) (its.take i.toNat)) 0 0 0 0)]) (N.length : Int)).Right) (I.length : Int) ((at_ (N ++ [(NodeT.mk (hullFrom bx (at_ bx (at_ its 0)) (its.take i.toNat)) 0 0 0 0)]) (N.length : Int)).Count)))) (N.length : Int)).First) (its.length : Int))) eNode_len (by omega) (by first | omega | (simp only [List.length_set, List.length_append, List.length_cons, List.length_nil]; omega)) (by decide) rfl) ?_)
    intro H150 h151 k152
    have h153 := (k152 _ (NotId.ne no118 e148)).trans h140
    have h154 := (k152 _ (NotId.ne no120 e148)).trans h141
    have h155 := (k152 _ (NotId.ne no116 e148)).trans h142
    have o156 := Own.store e148 o143 h151 (len' := (((((N ++ [(NodeT.mk (hullFrom bx (at_ bx (at_ its 0)) (its.take i.toNat)) 0 0 0 0)]).set (N.length : Int).toNat (NodeT.mk ((at_ (N ++ [(NodeT.mk (hullFrom bx (at_ bx (at_ its 0)) (its.take i.toNat)) 0 0 0 0)]) (N.length : Int)).Box) ((at_ (N ++ [(NodeT.mk (hullFrom bx (at_ bx (at_ its 0)) (its.take i.toNat)) 0 0 0 0)]) (N.length : Int)).Left) ((at_ (N ++ [(NodeT.mk (hullFrom bx (at_ bx (at_ its 0)) (its.take i.toNat)) 0 0 0 0)]) (N.length : Int)).Right) (I.length : Int) ((at_ (N ++ [(NodeT.mk (hullFrom bx (at_ bx (at_ its 0)) (its.take i.toNat)) 0 0 0 0)]) (N.length : Int)).Count)))).set (N.length : Int).toNat (NodeT.mk ((at_ (((N ++ [(NodeT.mk (hullFrom bx (at_ bx (at_ its 0)) (its.take i.toNat)) 0 0 0 0)]).set (N.length : Int).toNat (NodeT.mk ((at_ (N ++ [(NodeT.mk (hullFrom bx (at_ bx (at_ its 0)) (its.take i.toNat)) 0 0 0 0)]) (N.length : Int)).Box) ((at_ (N ++ [(NodeT.mk (hullFrom bx (at_ bx (at_ its 0)) (its.take i.toNat)) 0 0 0 0)]) (N.length : Int)).Left) ((at_ (N ++ [(NodeT.mk (hullFrom bx (at_ bx (at_ its 0)) (its.take i.toNat)) 0 0 0 0)]) (N.length : Int)).Right) (I.length : Int) ((at_ (N ++ [(NodeT.mk (hullFrom bx (at_ bx (at_ its 0)) (its.take i.toNat)) 0 0 0 0)]) (N.length : Int)).Count)))) (N.length : Int)).Box) ((at_ (((N ++ [(NodeT.mk (hullFrom bx (at_ bx (at_ its 0)) (its.take i.toNat)) 0 0 0 0)]).set (N.length : Int).toNat (NodeT.mk ((at_ (N ++ [(NodeT.mk (hullFrom bx (at_ bx (at_ its 0)) (its.take i.toNat)) 0 0 0 0)]) (N.length : Int)).Box) ((at_ (N ++ [(NodeT.mk (hullFrom bx (at_ bx (at_ its 0)) (its.take i.toNat)) 0 0 0 0)]) (N.length : Int)).Left) ((at_ (N ++ [(NodeT.mk (hullFrom bx (at_ bx (at_ its 0)) (its.take i.toNat)) 0 0 0 0)]) (N.length : Int)).Right) (I.length : Int) ((at_ (N ++ [(NodeT.mk (hullFrom bx (at_ bx (at_ its 0)) (its.take i.toNat)) 0 0 0 0)]) (N.length : Int)).Count)))) (N.length : Int)).Left) ((at_ (((N ++ [(NodeT.mk (hullFrom bx (at_ bx (at_ its 0)) (its.take i.toNat)) 0 0 0 0)]).set (N.length : Int).toNat (NodeT.mk ((at_ (N ++ [(NodeT.mk (hullFrom bx (at_ bx (at_ its 0)) (its.take i.toNat)) 0 0 0 0)]) (N.length : Int)).Box) ((at_ (N ++ [(NodeT.mk (hullFrom bx (at_ bx (at_ its 0)) (its.take i.toNat)) 0 0 0 0)]) (N.length : Int)).Left) ((at_ (N ++ [(NodeT.mk (hullFrom bx (at_ bx (at_ its 0)) (its.take i.toNat)) 0 0 0 0)]) (N.length : Int)).Right) (I.length : Int) ((at_ (N ++ [(NodeT.mk (hullFrom bx (at_ bx (at_ its 0)) (its.take i.toNat)) 0 0 0 0)]) (N.length : Int)).Count)))) (N.length : Int)).Right) ((at_ (((N ++ [(NodeT.mk (hullFrom bx (at_ bx (at_ its 0)) (its.take i.toNat)) 0 0 0 0)]).set (N.length : Int).toNat (NodeT.mk ((at_ (N ++ [(NodeT.mk (hullFrom bx (at_ bx (at_ its 0)) (its.take i.toNat)) 0 0 0 0)]) (N.length : Int)).Box) ((at_ (N ++ [(NodeT.mk (hullFrom bx (at_ bx (at_ its 0)) (its.take i.toNat)) 0 0 0 0)]) (N.length : Int)).Left) ((at_ (N ++ [(NodeT.mk (hullFrom bx (at_ bx (at_ its 0)) (its.take i.toNat)) 0 0 0 0)]) (N.length : Int)).Right) (I.length : Int) ((at_ (N ++ [(NodeT.mk (hullFrom bx (at_ bx (at_ its 0)) (its.take i.toNat)) 0 0 0 0)]) (N.length : Int)).Count)))) (N.length : Int)).First) (its.length : Int)))).length) (by rw [List.length_set]) (by rw [flatMap_length eNode_len, List.length_set])
    have m157 := Mono.set m144 (Own.at_ e148 o143).2.1 k152
    have o158 := Own.stay o145 sp122 (fun i hi _ => k152 i (NotId.ne hi e148))
    refine AOps.nil ?_
    change AWP _ _ _ _ _ _
    refine AWP.seq ?_
    refine AWP.region (l := [0, 1, 2, 3, 4, 5]) rfl ?_
    refine AOps.cons rfl rfl (AOp.fieldAddr rfl s57 fl_29_1 ?_ (hid := ⟨_, h155⟩))
    refine AOps.cons rfl rfl (AOp.load (Iv) rfl rfl ty_27 h155 rfl ?_)
    refine AOps.cons rfl rfl (AOp.move (.sl its.length (its.map eI)) rfl s54 ?_)
    refine AOps.cons rfl rfl (AOp.append_any (es := 1) (m := its.length) (len := I.length) (old := I.map eI) (cells := its.map eI) rfl u_27 ts_3 tzn_3 tb_3 (by decide) ni_27 rfl o158 m157 rfl (.sl (by simp)) (by exact one_map eI_one)  (by first | omega | (simp; omega)) ?_)
    intro v159 H160 o161 m162 k163 j164
    have o165 := Own.app1 (xs := (I : List Int)) (ys := its) (e := eI) (by simp) o161
    have h166 := (k163 _ no66 (by rw [h153]; simp)).trans h153
    have no167 := j164 _ no66 (by rw [h153]; simp)
    have h168 := (k163 _ no67 (by rw [h154]; simp)).trans h154
    have no169 := j164 _ no67 (by rw [h154]; simp)
    have h170 := (k163 _ no65 (by rw [h155]; simp)).trans h155
    have no171 := j164 _ no65 (by rw [h155]; simp)
    have sp173 := Own.sep o156 (Sep.symm sp122) j164
    have o172 := Own.stay o156 (Sep.symm sp122) k163
    refine AOps.cons rfl rfl (AOp.fieldAddr rfl s57 fl_29_1 ?_ (hid := ⟨_, h170⟩))
    refine AOps.cons rfl rfl (AOp.storeO (cells' := [v108, v159]) rfl rfl o165 ts_27 h170 rfl rfl ?_)
    intro H174 h175 k176
    have h177 := keep k176 (Ne.symm e17) h166
    have h178 := keep k176 (Ne.symm e30) h168
    have o180 := Own.keep o172 k176 no116
    have o181 := Own.keep o165 k176 no171
    have m182 := Mono.set m162 z6 k176
    refine AOps.nil ?_
    change AWP _ _ _ _ _ _
    refine AWP.seq ?_
    refine AWP.region (l := [0, 1]) rfl ?_
    refine AOps.cons rfl rfl (AOp.load (.agg [v108, v159]) rfl s57 ty_29 h175 rfl ?_)
    refine AOps.cons rfl rfl (AOp.store' (cells' := [v108, v159]) (.agg [v108, v159]) s58 rfl ts_29 h177 (by simp only [AV.cells, List.all_cons, List.all_nil, Own.one_ o180, Own.one_ o181]; rfl) rfl rfl rfl ?_)
    intro H183 h184 k185
    have h187 := keep k185 (Ne.symm e31) h178
    have h188 := keep k185 e17 h175
    have o189 := Own.keep o180 k185 no118
    have o190 := Own.keep o181 k185 no167
    have m191 := Mono.set m182 z18 k185
    refine AOps.nil ?_
    change AWP _ _ _ _ _ _
    refine AWP.ret ?_
    refine ⟨_, _, Ghost.refl, .inr rfl, _, Res.list1 rfl (.cell (v := .agg [v108, v159]) s58 ty_29 h184 rfl (.nil)), ?_⟩
    have hT : growT bx leaf f its = .leaf (hull bx its) its := growT_leaf b132
    rw [hT]
    have hNN : (((((N ++ [(NodeT.mk (hullFrom bx (at_ bx (at_ its 0)) (its.take i.toNat)) 0 0 0 0)]).set (N.length : Int).toNat (NodeT.mk ((at_ (N ++ [(NodeT.mk (hullFrom bx (at_ bx (at_ its 0)) (its.take i.toNat)) 0 0 0 0)]) (N.length : Int)).Box) ((at_ (N ++ [(NodeT.mk (hullFrom bx (at_ bx (at_ its 0)) (its.take i.toNat)) 0 0 0 0)]) (N.length : Int)).Left) ((at_ (N ++ [(NodeT.mk (hullFrom bx (at_ bx (at_ its 0)) (its.take i.toNat)) 0 0 0 0)]) (N.length : Int)).Right) (I.length : Int) ((at_ (N ++ [(NodeT.mk (hullFrom bx (at_ bx (at_ its 0)) (its.take i.toNat)) 0 0 0 0)]) (N.length : Int)).Count)))).set (N.length : Int).toNat (NodeT.mk ((at_ (((N ++ [(NodeT.mk (hullFrom bx (at_ bx (at_ its 0)) (its.take i.toNat)) 0 0 0 0)]).set (N.length : Int).toNat (NodeT.mk ((at_ (N ++ [(NodeT.mk (hullFrom bx (at_ bx (at_ its 0)) (its.take i.toNat)) 0 0 0 0)]) (N.length : Int)).Box) ((at_ (N ++ [(NodeT.mk (hullFrom bx (at_ bx (at_ its 0)) (its.take i.toNat)) 0 0 0 0)]) (N.length : Int)).Left) ((at_ (N ++ [(NodeT.mk (hullFrom bx (at_ bx (at_ its 0)) (its.take i.toNat)) 0 0 0 0)]) (N.length : Int)).Right) (I.length : Int) ((at_ (N ++ [(NodeT.mk (hullFrom bx (at_ bx (at_ its 0)) (its.take i.toNat)) 0 0 0 0)]) (N.length : Int)).Count)))) (N.length : Int)).Box) ((at_ (((N ++ [(NodeT.mk (hullFrom bx (at_ bx (at_ its 0)) (its.take i.toNat)) 0 0 0 0)]).set (N.length : Int).toNat (NodeT.mk ((at_ (N ++ [(NodeT.mk (hullFrom bx (at_ bx (at_ its 0)) (its.take i.toNat)) 0 0 0 0)]) (N.length : Int)).Box) ((at_ (N ++ [(NodeT.mk (hullFrom bx (at_ bx (at_ its 0)) (its.take i.toNat)) 0 0 0 0)]) (N.length : Int)).Left) ((at_ (N ++ [(NodeT.mk (hullFrom bx (at_ bx (at_ its 0)) (its.take i.toNat)) 0 0 0 0)]) (N.length : Int)).Right) (I.length : Int) ((at_ (N ++ [(NodeT.mk (hullFrom bx (at_ bx (at_ its 0)) (its.take i.toNat)) 0 0 0 0)]) (N.length : Int)).Count)))) (N.length : Int)).Left) ((at_ (((N ++ [(NodeT.mk (hullFrom bx (at_ bx (at_ its 0)) (its.take i.toNat)) 0 0 0 0)]).set (N.length : Int).toNat (NodeT.mk ((at_ (N ++ [(NodeT.mk (hullFrom bx (at_ bx (at_ its 0)) (its.take i.toNat)) 0 0 0 0)]) (N.length : Int)).Box) ((at_ (N ++ [(NodeT.mk (hullFrom bx (at_ bx (at_ its 0)) (its.take i.toNat)) 0 0 0 0)]) (N.length : Int)).Left) ((at_ (N ++ [(NodeT.mk (hullFrom bx (at_ bx (at_ its 0)) (its.take i.toNat)) 0 0 0 0)]) (N.length : Int)).Right) (I.length : Int) ((at_ (N ++ [(NodeT.mk (hullFrom bx (at_ bx (at_ its 0)) (its.take i.toNat)) 0 0 0 0)]) (N.length : Int)).Count)))) (N.length : Int)).Right) ((at_ (((N ++ [(NodeT.mk (hullFrom bx (at_ bx (at_ its 0)) (its.take i.toNat)) 0 0 0 0)]).set (N.length : Int).toNat (NodeT.mk ((at_ (N ++ [(NodeT.mk (hullFrom bx (at_ bx (at_ its 0)) (its.take i.toNat)) 0 0 0 0)]) (N.length : Int)).Box) ((at_ (N ++ [(NodeT.mk (hullFrom bx (at_ bx (at_ its 0)) (its.take i.toNat)) 0 0 0 0)]) (N.length : Int)).Left) ((at_ (N ++ [(NodeT.mk (hullFrom bx (at_ bx (at_ its 0)) (its.take i.toNat)) 0 0 0 0)]) (N.length : Int)).Right) (I.length : Int) ((at_ (N ++ [(NodeT.mk (hullFrom bx (at_ bx (at_ its 0)) (its.take i.toNat)) 0 0 0 0)]) (N.length : Int)).Count)))) (N.length : Int)).First) (its.length : Int)))) = N ++ flatN (BT.leaf (hull bx its) its) N.length I.length := by exact grow_leafN2 (hull_end (by omega))
    have hII : (I ++ its) = I ++ BT.items (BT.leaf (hull bx its) its) := by rfl
    exact ⟨v108, v159, rfl, ⟨m191, (Own.re o189 (congrArg List.length hNN) (congrArg (fun l : List NodeT => l.flatMap eNode) hNN)), (Own.re o190 (congrArg List.length hII) (congrArg (fun l : List Int => l.map eI) hII)), sp173⟩⟩
   ·
    refine AOps.yes rfl rfl rfl rfl rfl rfl rfl (decide_eq_false b132) (AOp.move (.int .i64 (f : Int)) rfl s56 ?_)
    refine AOps.yes rfl rfl rfl rfl rfl rfl rfl (decide_eq_false b132) (AOp.bin (.bool (decide ((f : Int) = 0))) rfl rfl rfl ieq ?_)
    refine AOps.cons rfl rfl (AOp.pickF (.bool (decide ((f : Int) = 0))) rfl rfl (decide_eq_false b132) rfl ?_)
    refine AOps.nil ?_
    change AWP _ _ _ _ _ _
    by_cases b192 : (f : Int) = 0
    ·
     refine AWP.condT rfl (decide_eq_true b192) ?_
     refine AWP.seq ?_
     have hnl : N.length < (N ++ [NodeT.mk (hullFrom bx (at_ bx (at_ its 0)) (its.take i.toNat)) 0 0 0 0]).length := by simp only [List.length_append, List.length_cons, List.length_nil]; omega
     refine AWP.region (l := [0, 1, 2, 3, 4, 5, 6, 7, 8]) rfl ?_
     refine AOps.cons rfl rfl (AOp.fieldAddr rfl s57 fl_29_0 ?_ (hid := ⟨_, h124⟩))
     refine AOps.cons rfl rfl (AOp.load (v108) rfl rfl ty_26 h124 rfl ?_)
     refine AOps.cons rfl rfl (AOp.move (.int .i64 (N.length : Int)) rfl rfl ?_)
     refine AOps.cons rfl rfl (AOp.fieldAddr rfl s57 fl_29_1 ?_ (hid := ⟨_, h124⟩))
     refine AOps.cons rfl rfl (AOp.load (Iv) rfl rfl ty_27 h124 rfl ?_)
     refine AOps.cons rfl rfl (AOp.len_own (m := I.length) rfl rfl o129 u_27 ?_)
     obtain ⟨i193, ver194, e195, h196, _, _⟩ := Own.pos o130 (by first | omega | (simp only [List.length_set, List.length_append, List.length_cons, List.length_nil]; omega))
     refine AOps.cons rfl rfl (AOp.indexAddrO rfl (Eq.trans rfl e195) rfl sl_26 (by first | omega | (simp only [List.length_set, List.length_append, List.length_cons, List.length_nil]; omega)) (by first | omega | (simp only [List.length_set, List.length_append, List.length_cons, List.length_nil]; omega)) h196 ?_)
     refine AOps.cons rfl rfl (AOp.fieldAddr rfl rfl fl_42_3 ?_ (hid := ⟨_, h196⟩))
     refine AOps.cons rfl rfl (AOp.store' (cells' := ((N ++ [(NodeT.mk (hullFrom bx (at_ bx (at_ its 0)) (its.take i.toNat)) 0 0 0 0)]).set (N.length : Int).toNat (NodeT.mk ((at_ (N ++ [(NodeT.mk (hullFrom bx (at_ bx (at_ its 0)) (its.take i.toNat)) 0 0 0 0)]) (N.length : Int)).Box) ((at_ (N ++ [(NodeT.mk (hullFrom bx (at_ bx (at_ its 0)) (its.take i.toNat)) 0 0 0 0)]) (N.length : Int)).Left) ((at_ (N ++ [(NodeT.mk (hullFrom bx (at_ bx (at_ its 0)) (its.take i.toNat)) 0 0 0 0)]) (N.length : Int)).Right) (I.length : Int) ((at_ (N ++ [(NodeT.mk (hullFrom bx (at_ bx (at_ its 0)) (its.take i.toNat)) 0 0 0 0)]) (N.length : Int)).Count))).flatMap eNode) (.int .i64 (I.length : Int)) rfl rfl ts_3 (Own.at_ e195 o130).1 rfl rfl (blelen (flatMap_length eNode_len _) (by first | omega | (simp only [List.length_set, List.length_append, List.length_cons, List.length_nil]; omega))) (wr_setF (xs := (N ++ [(NodeT.mk (hullFrom bx (at_ bx (at_ its 0)) (its.take i.toNat)) 0 0 0 0)])) (i := (N.length : Int)) (v := .int .i64 (I.length : Int)) (y := (NodeT.mk ((at_ (N ++ [(NodeT.mk (hullFrom bx (at_ bx (at_ its 0)) (its.take i.toNat)) 0 0 0 0)]) (N.length : Int)).Box) ((at_ (N ++ [(NodeT.mk (hullFrom bx (at_ bx (at_ its 0)) (its.take i.toNat)) 0 0 0 0)]) (N.length : Int)).Left) ((at_ (N ++ [(NodeT.mk (hullFrom bx (at_ bx (at_ its 0)) (its.take i.toNat)) 0 0 0 0)]) (N.length : Int)).Right) (I.length : Int) ((at_ (N ++ [(NodeT.mk (hullFrom bx (at_ bx (at_ its 0)) (its.take i.toNat)) 0 0 0 0)]) (N.length : Int)).Count))) eNode_len (by omega) (by first | omega | (simp only [List.length_set, List.length_append, List.length_cons, List.length_nil]; omega)) (by decide) rfl) ?_)
     intro H197 h198 k199
     have h200 := (k199 _ (NotId.ne no118 e195)).trans h127
     have h201 := (k199 _ (NotId.ne no120 e195)).trans h128
     have h202 := (k199 _ (NotId.ne no116 e195)).trans h124
     have o203 := Own.store e195 o130 h198 (len' := (((N ++ [(NodeT.mk (hullFrom bx (at_ bx (at_ its 0)) (its.take i.toNat)) 0 0 0 0)]).set (N.length : Int).toNat (NodeT.mk ((at_ (N ++ [(NodeT.mk (hullFrom bx (at_ bx (at_ its 0)) (its.take i.toNat)) 0 0 0 0)]) (N.length : Int)).Box) ((at_ (N ++ [(NodeT.mk (hullFrom bx (at_ bx (at_ its 0)) (its.take i.toNat)) 0 0 0 0)]) (N.length : Int)).Left) ((at_ (N ++ [(NodeT.mk (hullFrom bx (at_ bx (at_ its 0)) (its.take i.toNat)) 0 0 0 0)]) (N.length : Int)).Right) (I.length : Int) ((at_ (N ++ [(NodeT.mk (hullFrom bx (at_ bx (at_ its 0)) (its.take i.toNat)) 0 0 0 0)]) (N.length : Int)).Count)))).length) (by rw [List.length_set]) (by rw [flatMap_length eNode_len, List.length_set])
     have m204 := Mono.set m131 (Own.at_ e195 o130).2.1 k199
     have o205 := Own.stay o129 sp122 (fun i hi _ => k199 i (NotId.ne hi e195))
     refine AOps.nil ?_
     change AWP _ _ _ _ _ _
     refine AWP.seq ?_
     refine AWP.region (l := [0, 1, 2, 3, 4, 5, 6, 7]) rfl ?_
     refine AOps.cons rfl rfl (AOp.fieldAddr rfl s57 fl_29_0 ?_ (hid := ⟨_, h202⟩))
     refine AOps.cons rfl rfl (AOp.load (v108) rfl rfl ty_26 h202 rfl ?_)
     refine AOps.cons rfl rfl (AOp.move (.int .i64 (N.length : Int)) rfl rfl ?_)
     refine AOps.cons rfl rfl (AOp.move (.sl its.length (its.map eI)) rfl s54 ?_)
     refine AOps.cons rfl rfl (AOp.len (m := its.length) rfl rfl (.inr (.inl ⟨_, rfl⟩)) u_27 ?_)
     obtain ⟨i206, ver207, e208, h209, _, _⟩ := Own.pos o203 (by first | omega | (simp only [List.length_set, List.length_append, List.length_cons, List.length_nil]; omega))
     refine AOps.cons rfl rfl (AOp.indexAddrO rfl (Eq.trans rfl e208) rfl sl_26 (by first | omega | (simp only [List.length_set, List.length_append, List.length_cons, List.length_nil]; omega)) (by first | omega | (simp only [List.length_set, List.length_append, List.length_cons, List.length_nil]; omega)) h209 ?_)
     refine AOps.cons rfl rfl (AOp.fieldAddr rfl rfl fl_42_4 ?_ (hid := ⟨_, h209⟩))
     refine AOps.cons rfl rfl (AOp.store' (cells' := ((((N ++ [(NodeT.mk (hullFrom bx (at_ bx (at_ its 0)) (its.take i.toNat)) 0 0 0 0)]).set (N.length : Int).toNat (NodeT.mk ((at_ (N ++ [(NodeT.mk (hullFrom bx (at_ bx (at_ its 0)) (its.take i.toNat)) 0 0 0 0)]) (N.length : Int)).Box) ((at_ (N ++ [(NodeT.mk (hullFrom bx (at_ bx (at_ its 0)) (its.take i.toNat)) 0 0 0 0)]) (N.length : Int)).Left) ((at_ (N ++ [(NodeT.mk (hullFrom bx (at_ bx (at_ its 0)) (its.take i.toNat)) 0 0 0 0)]) (N.length : Int)).Right) (I.length : Int) ((at_ (N ++ [(NodeT.mk (hullFrom bx (at_ bx (at_ its 0)) (its.take i.toNat)) 0 0 0 0)]) (N.length : Int)).Count)))).set (N.length : Int).toNat (NodeT.mk ((at_ (((N ++ [(NodeT.mk (hullFrom bx (at_ bx (at_ its 0)) (its.take i.toNat)) 0 0 0 0)]).set (N.length : Int).toNat (NodeT.mk ((at_ (N ++ [(NodeT.mk (hullFrom bx (at_ bx (at_ its 0)) (its.take i.toNat)) 0 0 0 0)]) (N.length : Int)).Box) ((at_ (N ++ [(NodeT.mk (hullFrom bx (at_ bx (at_ its 0)) (its.take i.toNat)) 0 0 0 0)]) (N.length : Int)).Left) ((at_ (N ++ [(NodeT.mk (hullFrom bx (at_ bx (at_ its 0)) (its.take i.toNat)) 0 0 0 0)]) (N.length : Int)).Right) (I.length : Int) ((at_ (N ++ [(NodeT.mk (hullFrom bx (at_ bx (at_ its 0)) (its.take i.toNat)) 0 0 0 0)]) (N.length : Int)).Count)))) (N.length : Int)).Box) ((at_ (((N ++ [(NodeT.mk (hullFrom bx (at_ bx (at_ its 0)) (its.take i.toNat)) 0 0 0 0)]).set (N.length : Int).toNat (NodeT.mk ((at_ (N ++ [(NodeT.mk (hullFrom bx (at_ bx (at_ its 0)) (its.take i.toNat)) 0 0 0 0)]) (N.length : Int)).Box) ((at_ (N ++ [(NodeT.mk (hullFrom bx (at_ bx (at_ its 0)) (its.take i.toNat)) 0 0 0 0)]) (N.length : Int)).Left) ((at_ (N ++ [(NodeT.mk (hullFrom bx (at_ bx (at_ its 0)) (its.take i.toNat)) 0 0 0 0)]) (N.length : Int)).Right) (I.length : Int) ((at_ (N ++ [(NodeT.mk (hullFrom bx (at_ bx (at_ its 0)) (its.take i.toNat)) 0 0 0 0)]) (N.length : Int)).Count)))) (N.length : Int)).Left) ((at_ (((N ++ [(NodeT.mk (hullFrom bx (at_ bx (at_ its 0)) (its.take i.toNat)) 0 0 0 0)]).set (N.length : Int).toNat (NodeT.mk ((at_ (N ++ [(NodeT.mk (hullFrom bx (at_ bx (at_ its 0)) (its.take i.toNat)) 0 0 0 0)]) (N.length : Int)).Box) ((at_ (N ++ [(NodeT.mk (hullFrom bx (at_ bx (at_ its 0)) (its.take i.toNat)) 0 0 0 0)]) (N.length : Int)).Left) ((at_ (N ++ [(NodeT.mk (hullFrom bx (at_ bx (at_ its 0)) (its.take i.toNat)) 0 0 0 0)]) (N.length : Int)).Right) (I.length : Int) ((at_ (N ++ [(NodeT.mk (hullFrom bx (at_ bx (at_ its 0)) (its.take i.toNat)) 0 0 0 0)]) (N.length : Int)).Count)))) (N.length : Int)).Right) ((at_ (((N ++ [(NodeT.mk (hullFrom bx (at_ bx (at_ its 0)) (its.take i.toNat)) 0 0 0 0)]).set (N.length : Int).toNat (NodeT.mk ((at_ (N ++ [(NodeT.mk (hullFrom bx (at_ bx (at_ its 0)) (its.take i.toNat)) 0 0 0 0)]) (N.length : Int)).Box) ((at_ (N ++ [(NodeT.mk (hullFrom bx (at_ bx (at_ its 0)) (its.take i.toNat)) 0 0 0 0)]) (N.length : Int)).Left) ((at_ (N ++ [(NodeT.mk (hullFrom bx (at_ bx (at_ its 0)) (its.take i.toNat)) 0 0 0 0)]) (N.length : Int)).Right) (I.length : Int) ((at_ (N ++ [(NodeT.mk (hullFrom bx (at_ bx (at_ its 0)) (its.take i.toNat)) 0 0 0 0)]) (N.length : Int)).Count)))) (N.length : Int)).First) (its.length : Int))).flatMap eNode) (.int .i64 (its.length : Int)) rfl rfl ts_3 (Own.at_ e208 o203).1 rfl rfl (blelen (flatMap_length eNode_len _) (by first | omega | (simp only [List.length_set, List.length_append, List.length_cons, List.length_nil]; omega))) (wr_setF (xs := (((N ++ [(NodeT.mk (hullFrom bx (at_ bx (at_ its 0)) (its.take i.toNat)) 0 0 0 0)]).set (N.length : Int).toNat (NodeT.mk ((at_ (N ++ [(NodeT.mk (hullFrom bx (at_ bx (at_ its 0)) (its.take i.toNat)) 0 0 0 0)]) (N.length : Int)).Box) ((at_ (N ++ [(NodeT.mk (hullFrom bx (at_ bx (at_ its 0)) (its.take i.toNat)) 0 0 0 0)]) (N.length : Int)).Left) ((at_ (N ++ [(NodeT.mk (hullFrom bx (at_ bx (at_ its 0)) (its.take i.toNat)) 0 0 0 0)]) (N.length : Int)).Right) (I.length : Int) ((at_ (N ++ [(NodeT.mk (hullFrom bx (at_ bx (at_ its 0)) (its.take i.toNat)) 0 0 0 0)]) (N.length : Int)).Count))))) (i := (N.length : Int)) (v := .int .i64 (its.length : Int)) (y := (NodeT.mk ((at_ (((N ++ [(NodeT.mk (hullFrom bx (at_ bx (at_ its 0)) (its.take i.toNat)) 0 0 0 0)]).set (N.length : Int).toNat (NodeT.mk ((at_ (N ++ [(NodeT.mk (hullFrom bx (at_ bx (at_ its 0)) (its.take i.toNat)) 0 0 0 0)]) (N.length : Int)).Box) ((at_ (N ++ [(NodeT.mk (hullFrom bx (at_ bx (at_ its 0)) (its.take i.toNat)) 0 0 0 0)]) (N.length : Int)).Left) ((at_ (N ++ [(NodeT.mk (hullFrom bx (at_ bx (at_ its 0)) (its.take i.toNat)) 0 0 0 0)]) (N.length : Int)).Right) (I.length : Int) ((at_ (N ++ [(NodeT.mk (hullFrom bx (at_ bx (at_ its 0)) (its.take i.toNat)) 0 0 0 0)]) (N.length : Int)).Count)))) (N.length : Int)).Box) ((at_ (((N ++ [(NodeT.mk (hullFrom bx (at_ bx (at_ its 0)) (its.take i.toNat)) 0 0 0 0)]).set (N.length : Int).toNat (NodeT.mk ((at_ (N ++ [(NodeT.mk (hullFrom bx (at_ bx (at_ its 0)) (its.take i.toNat)) 0 0 0 0)]) (N.length : Int)).Box) ((at_ (N ++ [(NodeT.mk (hullFrom bx (at_ bx (at_ its 0)) (its.take i.toNat)) 0 0 0 0)]) (N.length : Int)).Left) ((at_ (N ++ [(NodeT.mk (hullFrom bx (at_ bx (at_ its 0)) (its.take i.toNat)) 0 0 0 0)]) (N.length : Int)).Right) (I.length : Int) ((at_ (N ++ [(NodeT.mk (hullFrom bx (at_ bx (at_ its 0)) (its.take i.toNat)) 0 0 0 0)]) (N.length : Int)).Count)))) (N.length : Int)).Left) ((at_ (((N ++ [(NodeT.mk (hullFrom bx (at_ bx (at_ its 0)) (its.take i.toNat)) 0 0 0 0)]).set (N.length : Int).toNat (NodeT.mk ((at_ (N ++ [(NodeT.mk (hullFrom bx (at_ bx (at_ its 0)) (its.take i.toNat)) 0 0 0 0)]) (N.length : Int)).Box) ((at_ (N ++ [(NodeT.mk (hullFrom bx (at_ bx (at_ its 0)) (its.take i.toNat)) 0 0 0 0)]) (N.length : Int)).Left) ((at_ (N ++ [(NodeT.mk (hullFrom bx (at_ bx (at_ its 0)) (its.take i.toNat)) 0 0 0 0)]) (N.length : Int)).Right) (I.length : Int) ((at_ (N ++ [(NodeT.mk (hullFrom bx (at_ bx (at_ its 0)) (its.take i.toNat)) 0 0 0 0)]) (N.length : Int)).Count)))) (N.length : Int)).Right) ((at_ (((N ++ [(NodeT.mk (hullFrom bx (at_ bx (at_ its 0)) (its.take i.toNat)) 0 0 0 0)]).set (N.length : Int).toNat (NodeT.mk ((at_ (N ++ [(NodeT.mk (hullFrom bx (at_ bx (at_ its 0)) (its.take i.toNat)) 0 0 0 0)]) (N.length : Int)).Box) ((at_ (N ++ [(NodeT.mk (hullFrom bx (at_ bx (at_ its 0)) (its.take i.toNat)) 0 0 0 0)]) (N.length : Int)).Left) ((at_ (N ++ [(NodeT.mk (hullFrom bx (at_ bx (at_ its 0)) (its.take i.toNat)) 0 0 0 0)]) (N.length : Int)).Right) (I.length : Int) ((at_ (N ++ [(NodeT.mk (hullFrom bx (at_ bx (at_ its 0)) (its.take i.toNat)) 0 0 0 0)]) (N.length : Int)).Count)))) (N.length : Int)).First) (its.length : Int))) eNode_len (by omega) (by first | omega | (simp only [List.length_set, List.length_append, List.length_cons, List.length_nil]; omega)) (by decide) rfl) ?_)
     intro H210 h211 k212
     have h213 := (k212 _ (NotId.ne no118 e208)).trans h200
     have h214 := (k212 _ (NotId.ne no120 e208)).trans h201
     have h215 := (k212 _ (NotId.ne no116 e208)).trans h202
     have o216 := Own.store e208 o203 h211 (len' := (((((N ++ [(NodeT.mk (hullFrom bx (at_ bx (at_ its 0)) (its.take i.toNat)) 0 0 0 0)]).set (N.length : Int).toNat (NodeT.mk ((at_ (N ++ [(NodeT.mk (hullFrom bx (at_ bx (at_ its 0)) (its.take i.toNat)) 0 0 0 0)]) (N.length : Int)).Box) ((at_ (N ++ [(NodeT.mk (hullFrom bx (at_ bx (at_ its 0)) (its.take i.toNat)) 0 0 0 0)]) (N.length : Int)).Left) ((at_ (N ++ [(NodeT.mk (hullFrom bx (at_ bx (at_ its 0)) (its.take i.toNat)) 0 0 0 0)]) (N.length : Int)).Right) (I.length : Int) ((at_ (N ++ [(NodeT.mk (hullFrom bx (at_ bx (at_ its 0)) (its.take i.toNat)) 0 0 0 0)]) (N.length : Int)).Count)))).set (N.length : Int).toNat (NodeT.mk ((at_ (((N ++ [(NodeT.mk (hullFrom bx (at_ bx (at_ its 0)) (its.take i.toNat)) 0 0 0 0)]).set (N.length : Int).toNat (NodeT.mk ((at_ (N ++ [(NodeT.mk (hullFrom bx (at_ bx (at_ its 0)) (its.take i.toNat)) 0 0 0 0)]) (N.length : Int)).Box) ((at_ (N ++ [(NodeT.mk (hullFrom bx (at_ bx (at_ its 0)) (its.take i.toNat)) 0 0 0 0)]) (N.length : Int)).Left) ((at_ (N ++ [(NodeT.mk (hullFrom bx (at_ bx (at_ its 0)) (its.take i.toNat)) 0 0 0 0)]) (N.length : Int)).Right) (I.length : Int) ((at_ (N ++ [(NodeT.mk (hullFrom bx (at_ bx (at_ its 0)) (its.take i.toNat)) 0 0 0 0)]) (N.length : Int)).Count)))) (N.length : Int)).Box) ((at_ (((N ++ [(NodeT.mk (hullFrom bx (at_ bx (at_ its 0)) (its.take i.toNat)) 0 0 0 0)]).set (N.length : Int).toNat (NodeT.mk ((at_ (N ++ [(NodeT.mk (hullFrom bx (at_ bx (at_ its 0)) (its.take i.toNat)) 0 0 0 0)]) (N.length : Int)).Box) ((at_ (N ++ [(NodeT.mk (hullFrom bx (at_ bx (at_ its 0)) (its.take i.toNat)) 0 0 0 0)]) (N.length : Int)).Left) ((at_ (N ++ [(NodeT.mk (hullFrom bx (at_ bx (at_ its 0)) (its.take i.toNat)) 0 0 0 0)]) (N.length : Int)).Right) (I.length : Int) ((at_ (N ++ [(NodeT.mk (hullFrom bx (at_ bx (at_ its 0)) (its.take i.toNat)) 0 0 0 0)]) (N.length : Int)).Count)))) (N.length : Int)).Left) ((at_ (((N ++ [(NodeT.mk (hullFrom bx (at_ bx (at_ its 0)) (its.take i.toNat)) 0 0 0 0)]).set (N.length : Int).toNat (NodeT.mk ((at_ (N ++ [(NodeT.mk (hullFrom bx (at_ bx (at_ its 0)) (its.take i.toNat)) 0 0 0 0)]) (N.length : Int)).Box) ((at_ (N ++ [(NodeT.mk (hullFrom bx (at_ bx (at_ its 0)) (its.take i.toNat)) 0 0 0 0)]) (N.length : Int)).Left) ((at_ (N ++ [(NodeT.mk (hullFrom bx (at_ bx (at_ its 0)) (its.take i.toNat)) 0 0 0 0)]) (N.length : Int)).Right) (I.length : Int) ((at_ (N ++ [(NodeT.mk (hullFrom bx (at_ bx (at_ its 0)) (its.take i.toNat)) 0 0 0 0)]) (N.length : Int)).Count)))) (N.length : Int)).Right) ((at_ (((N ++ [(NodeT.mk (hullFrom bx (at_ bx (at_ its 0)) (its.take i.toNat)) 0 0 0 0)]).set (N.length : Int).toNat (NodeT.mk ((at_ (N ++ [(NodeT.mk (hullFrom bx (at_ bx (at_ its 0)) (its.take i.toNat)) 0 0 0 0)]) (N.length : Int)).Box) ((at_ (N ++ [(NodeT.mk (hullFrom bx (at_ bx (at_ its 0)) (its.take i.toNat)) 0 0 0 0)]) (N.length : Int)).Left) ((at_ (N ++ [(NodeT.mk (hullFrom bx (at_ bx (at_ its 0)) (its.take i.toNat)) 0 0 0 0)]) (N.length : Int)).Right) (I.length : Int) ((at_ (N ++ [(NodeT.mk (hullFrom bx (at_ bx (at_ its 0)) (its.take i.toNat)) 0 0 0 0)]) (N.length : Int)).Count)))) (N.length : Int)).First) (its.length : Int)))).length) (by rw [List.length_set]) (by rw [flatMap_length eNode_len, List.length_set])
     have m217 := Mono.set m204 (Own.at_ e208 o203).2.1 k212
     have o218 := Own.stay o205 sp122 (fun i hi _ => k212 i (NotId.ne hi e208))
     refine AOps.nil ?_
     change AWP _ _ _ _ _ _
     refine AWP.seq ?_
     refine AWP.region (l := [0, 1, 2, 3, 4, 5]) rfl ?_
     refine AOps.cons rfl rfl (AOp.fieldAddr rfl s57 fl_29_1 ?_ (hid := ⟨_, h215⟩))
     refine AOps.cons rfl rfl (AOp.load (Iv) rfl rfl ty_27 h215 rfl ?_)
     refine AOps.cons rfl rfl (AOp.move (.sl its.length (its.map eI)) rfl s54 ?_)
     refine AOps.cons rfl rfl (AOp.append_any (es := 1) (m := its.length) (len := I.length) (old := I.map eI) (cells := its.map eI) rfl u_27 ts_3 tzn_3 tb_3 (by decide) ni_27 rfl o218 m217 rfl (.sl (by simp)) (by exact one_map eI_one)  (by first | omega | (simp; omega)) ?_)
     intro v219 H220 o221 m222 k223 j224
     have o225 := Own.app1 (xs := (I : List Int)) (ys := its) (e := eI) (by simp) o221
     have h226 := (k223 _ no66 (by rw [h213]; simp)).trans h213
     have no227 := j224 _ no66 (by rw [h213]; simp)
     have h228 := (k223 _ no67 (by rw [h214]; simp)).trans h214
     have no229 := j224 _ no67 (by rw [h214]; simp)
     have h230 := (k223 _ no65 (by rw [h215]; simp)).trans h215
     have no231 := j224 _ no65 (by rw [h215]; simp)
     have sp233 := Own.sep o216 (Sep.symm sp122) j224
     have o232 := Own.stay o216 (Sep.symm sp122) k223
     refine AOps.cons rfl rfl (AOp.fieldAddr rfl s57 fl_29_1 ?_ (hid := ⟨_, h230⟩))
     refine AOps.cons rfl rfl (AOp.storeO (cells' := [v108, v219]) rfl rfl o225 ts_27 h230 rfl rfl ?_)
     intro H234 h235 k236
     have h237 := keep k236 (Ne.symm e17) h226
     have h238 := keep k236 (Ne.symm e30) h228
     have o240 := Own.keep o232 k236 no116
     have o241 := Own.keep o225 k236 no231
     have m242 := Mono.set m222 z6 k236
     refine AOps.nil ?_
     change AWP _ _ _ _ _ _
     refine AWP.seq ?_
     refine AWP.region (l := [0, 1]) rfl ?_
     refine AOps.cons rfl rfl (AOp.load (.agg [v108, v219]) rfl s57 ty_29 h235 rfl ?_)
     refine AOps.cons rfl rfl (AOp.store' (cells' := [v108, v219]) (.agg [v108, v219]) s58 rfl ts_29 h237 (by simp only [AV.cells, List.all_cons, List.all_nil, Own.one_ o240, Own.one_ o241]; rfl) rfl rfl rfl ?_)
     intro H243 h244 k245
     have h247 := keep k245 (Ne.symm e31) h238
     have h248 := keep k245 e17 h235
     have o249 := Own.keep o240 k245 no118
     have o250 := Own.keep o241 k245 no227
     have m251 := Mono.set m242 z18 k245
     refine AOps.nil ?_
     change AWP _ _ _ _ _ _
     refine AWP.ret ?_
     refine ⟨_, _, Ghost.refl, .inr rfl, _, Res.list1 rfl (.cell (v := .agg [v108, v219]) s58 ty_29 h244 rfl (.nil)), ?_⟩
     have hT : growT bx leaf f its = .leaf (hull bx its) its := growT_zero (by omega)
     rw [hT]
     have hNN : (((((N ++ [(NodeT.mk (hullFrom bx (at_ bx (at_ its 0)) (its.take i.toNat)) 0 0 0 0)]).set (N.length : Int).toNat (NodeT.mk ((at_ (N ++ [(NodeT.mk (hullFrom bx (at_ bx (at_ its 0)) (its.take i.toNat)) 0 0 0 0)]) (N.length : Int)).Box) ((at_ (N ++ [(NodeT.mk (hullFrom bx (at_ bx (at_ its 0)) (its.take i.toNat)) 0 0 0 0)]) (N.length : Int)).Left) ((at_ (N ++ [(NodeT.mk (hullFrom bx (at_ bx (at_ its 0)) (its.take i.toNat)) 0 0 0 0)]) (N.length : Int)).Right) (I.length : Int) ((at_ (N ++ [(NodeT.mk (hullFrom bx (at_ bx (at_ its 0)) (its.take i.toNat)) 0 0 0 0)]) (N.length : Int)).Count)))).set (N.length : Int).toNat (NodeT.mk ((at_ (((N ++ [(NodeT.mk (hullFrom bx (at_ bx (at_ its 0)) (its.take i.toNat)) 0 0 0 0)]).set (N.length : Int).toNat (NodeT.mk ((at_ (N ++ [(NodeT.mk (hullFrom bx (at_ bx (at_ its 0)) (its.take i.toNat)) 0 0 0 0)]) (N.length : Int)).Box) ((at_ (N ++ [(NodeT.mk (hullFrom bx (at_ bx (at_ its 0)) (its.take i.toNat)) 0 0 0 0)]) (N.length : Int)).Left) ((at_ (N ++ [(NodeT.mk (hullFrom bx (at_ bx (at_ its 0)) (its.take i.toNat)) 0 0 0 0)]) (N.length : Int)).Right) (I.length : Int) ((at_ (N ++ [(NodeT.mk (hullFrom bx (at_ bx (at_ its 0)) (its.take i.toNat)) 0 0 0 0)]) (N.length : Int)).Count)))) (N.length : Int)).Box) ((at_ (((N ++ [(NodeT.mk (hullFrom bx (at_ bx (at_ its 0)) (its.take i.toNat)) 0 0 0 0)]).set (N.length : Int).toNat (NodeT.mk ((at_ (N ++ [(NodeT.mk (hullFrom bx (at_ bx (at_ its 0)) (its.take i.toNat)) 0 0 0 0)]) (N.length : Int)).Box) ((at_ (N ++ [(NodeT.mk (hullFrom bx (at_ bx (at_ its 0)) (its.take i.toNat)) 0 0 0 0)]) (N.length : Int)).Left) ((at_ (N ++ [(NodeT.mk (hullFrom bx (at_ bx (at_ its 0)) (its.take i.toNat)) 0 0 0 0)]) (N.length : Int)).Right) (I.length : Int) ((at_ (N ++ [(NodeT.mk (hullFrom bx (at_ bx (at_ its 0)) (its.take i.toNat)) 0 0 0 0)]) (N.length : Int)).Count)))) (N.length : Int)).Left) ((at_ (((N ++ [(NodeT.mk (hullFrom bx (at_ bx (at_ its 0)) (its.take i.toNat)) 0 0 0 0)]).set (N.length : Int).toNat (NodeT.mk ((at_ (N ++ [(NodeT.mk (hullFrom bx (at_ bx (at_ its 0)) (its.take i.toNat)) 0 0 0 0)]) (N.length : Int)).Box) ((at_ (N ++ [(NodeT.mk (hullFrom bx (at_ bx (at_ its 0)) (its.take i.toNat)) 0 0 0 0)]) (N.length : Int)).Left) ((at_ (N ++ [(NodeT.mk (hullFrom bx (at_ bx (at_ its 0)) (its.take i.toNat)) 0 0 0 0)]) (N.length : Int)).Right) (I.length : Int) ((at_ (N ++ [(NodeT.mk (hullFrom bx (at_ bx (at_ its 0)) (its.take i.toNat)) 0 0 0 0)]) (N.length : Int)).Count)))) (N.length : Int)).Right) ((at_ (((N ++ [(NodeT.mk (hullFrom bx (at_ bx (at_ its 0)) (its.take i.toNat)) 0 0 0 0)]).set (N.length : Int).toNat (NodeT.mk ((at_ (N ++ [(NodeT.mk (hullFrom bx (at_ bx (at_ its 0)) (its.take i.toNat)) 0 0 0 0)]) (N.length : Int)).Box) ((at_ (N ++ [(NodeT.mk (hullFrom bx (at_ bx (at_ its 0)) (its.take i.toNat)) 0 0 0 0)]) (N.length : Int)).Left) ((at_ (N ++ [(NodeT.mk (hullFrom bx (at_ bx (at_ its 0)) (its.take i.toNat)) 0 0 0 0)]) (N.length : Int)).Right) (I.length : Int) ((at_ (N ++ [(NodeT.mk (hullFrom bx (at_ bx (at_ its 0)) (its.take i.toNat)) 0 0 0 0)]) (N.length : Int)).Count)))) (N.length : Int)).First) (its.length : Int)))) = N ++ flatN (BT.leaf (hull bx its) its) N.length I.length := by exact grow_leafN2 (hull_end (by omega))
     have hII : (I ++ its) = I ++ BT.items (BT.leaf (hull bx its) its) := by rfl
     exact ⟨v108, v219, rfl, ⟨m251, (Own.re o249 (congrArg List.length hNN) (congrArg (fun l : List NodeT => l.flatMap eNode) hNN)), (Own.re o250 (congrArg List.length hII) (congrArg (fun l : List Int => l.map eI) hII)), sp233⟩⟩
    ·
     refine AWP.condF rfl (decide_eq_false b192) ?_
     refine AWP.skip ?_
     change AWP _ _ _ _ _ _
     refine AWP.seq ?_
     refine AWP.region (l := [0, 1, 2, 3]) rfl ?_
     refine AOps.cons rfl rfl (AOp.move (.sl bx.length (bx.flatMap eBox)) rfl s53 ?_)
     refine AOps.cons rfl rfl (AOp.move (.sl its.length (its.map eI)) rfl s54 ?_)
     refine AOps.cons rfl rfl (AOp.pcall («as» := [.sl bx.length (bx.flatMap eBox), .sl its.length (its.map eI)]) rfl rfl (rfl) tf_35 (c_rAxis bx hok its h_bx hl hne hin) ?_)
     intro H252 m253
     have h254 := m253 _ _ h127
     have h255 := m253 _ _ h128
     have h256 := m253 _ _ h124
     have o257 := Own.mono o129 m253
     have o258 := Own.mono o130 m253
     have m259 := m131.trans m253
     refine AOps.cons rfl rfl (AOp.assign (.int .i64 (axisR bx its)) rfl rfl ?_)
     refine AOps.nil ?_
     change AWP _ _ _ _ _ _
     refine AWP.seq ?_
     refine AWP.region (l := [0, 1]) rfl ?_
     refine AOps.cons rfl rfl (AOp.buildSlice (cells := []) rfl u_27 ts_3 tz_3 rfl rfl rfl ?_)
     intro i260 H261 n262 h263 k264
     have e265 := ne_new h254 n262
     have e266 := ne_new h255 n262
     have e267 := ne_new h256 n262
     have z268 := Mono.free m259 n262
     have h269 := keep k264 (ne_new h254 n262) h254
     have h270 := keep k264 (ne_new h255 n262) h255
     have h271 := keep k264 (ne_new h256 n262) h256
     have o272 := Own.keep o257 k264 (Own.notnew o257 n262)
     have no273 := Own.notnew o257 n262
     have o274 := Own.keep o258 k264 (Own.notnew o258 n262)
     have no275 := Own.notnew o258 n262
     have m276 := Mono.new m259 n262 k264
     obtain ⟨v277, e278⟩ : ∃ v : AV, v = .slm i260 0 1 0 0 := ⟨_, rfl⟩
     have o279 : Own B H261 1 v277 0 [] := .inr ⟨_, _, e278, h263, z268, rfl⟩
     have no280 : NotId v277 i12 := by rw [e278]; exact NotId.slm e265
     have no281 : NotId v277 i25 := by rw [e278]; exact NotId.slm e266
     have no282 : NotId v277 i1 := by rw [e278]; exact NotId.slm e267
     have sp283 : Sep v277 Iv := by rw [e278]; exact Sep.ofNotId no273
     have sp284 : Sep v277 v108 := by rw [e278]; exact Sep.ofNotId no275
     refine AOps.cons rfl rfl (AOp.assign (v277) rfl e278.symm ?_)
     refine AOps.nil ?_
     change AWP _ _ _ _ _ _
     refine AWP.seq ?_
     refine AWP.seq ?_
     refine AWP.region (l := [0]) rfl ?_
     refine AOps.cons rfl rfl (AOp.assign (.int .i64 0) rfl rfl ?_)
     refine AOps.nil ?_
     change AWP _ _ _ _ _ _
     refine AWP.block ?_
     refine AWP.loop (fun q285 fq Hq => ∃ (u : Int) (srt : List Int) (w15 : AV), q285 = ((its.length : Int) - u).toNat ∧ fq 16 = .int .i64 u ∧ fq 1 = .sl bx.length (bx.flatMap eBox) ∧ fq 2 = .sl its.length (its.map eI) ∧ fq 3 = .int .i64 leaf ∧ fq 4 = .int .i64 (f : Int) ∧ fq 5 = .ptr i1 0 0 ∧ fq 10 = .ptr i12 0 0 ∧ fq 13 = .int .i64 (N.length : Int) ∧ fq 14 = .int .i64 (axisR bx its) ∧ fq 15 = w15 ∧ Own B Hq 1 w15 (srt).length ((srt).map eI) ∧ Own B Hq 10 v108 ((N ++ [(NodeT.mk (hullFrom bx (at_ bx (at_ its 0)) (its.take i.toNat)) 0 0 0 0)]).length) ((N ++ [(NodeT.mk (hullFrom bx (at_ bx (at_ its 0)) (its.take i.toNat)) 0 0 0 0)]).flatMap eNode) ∧ Own B Hq 1 Iv I.length (I.map eI) ∧ NotId w15 i12 ∧ NotId w15 i25 ∧ NotId w15 i1 ∧ NotId v108 i12 ∧ NotId v108 i25 ∧ NotId v108 i1 ∧ NotId Iv i12 ∧ NotId Iv i25 ∧ NotId Iv i1 ∧ Sep w15 v108 ∧ Sep w15 Iv ∧ Sep v108 Iv ∧ Hq i12 = some (.row 0 ([.snil, .snil])) ∧ Hq i25 = some (.row 0 ([.int .i64 (((hullFrom bx (at_ bx (at_ its 0)) (its.take i.toNat)).Lo).X), .int .i64 (((hullFrom bx (at_ bx (at_ its 0)) (its.take i.toNat)).Lo).Y), .int .i64 (((hullFrom bx (at_ bx (at_ its 0)) (its.take i.toNat)).Lo).Z), .int .i64 (((hullFrom bx (at_ bx (at_ its 0)) (its.take i.toNat)).Hi).X), .int .i64 (((hullFrom bx (at_ bx (at_ its 0)) (its.take i.toNat)).Hi).Y), .int .i64 (((hullFrom bx (at_ bx (at_ its 0)) (its.take i.toNat)).Hi).Z)])) ∧ Hq i1 = some (.row 0 ([v108, Iv])) ∧ Mono B Hq ∧ (0 ≤ u) ∧ (u ≤ (its.length : Int)) ∧ (SortedL (keyLt bx (axisR bx its)) srt) ∧ (srt.Perm (its.take u.toNat))) (k := ((its.length : Int) - 0).toNat) ?_ ?_
     ·
      exact ⟨0, [], v277, rfl, rfl, s53, s54, s55, s56, s57, s58, rfl, rfl, rfl, o279, o274, o272, no280, no281, no282, no118, no120, no116, no66, no67, no65, sp284, sp283, (Sep.symm sp122), h269, h270, h271, m276, by omega, by omega, by exact List.Pairwise.nil, by exact List.Perm.nil⟩
     ·
      rintro _ f287 H286 ⟨u, srt, w15, rfl, s288, s289, s290, s291, s292, s293, s294, s295, s296, s297, o298, o299, o300, no301, no302, no303, no304, no305, no306, no307, no308, no309, sp310, sp311, sp312, h313, h314, h315, m316, hu0, hu1, hsL, hpm⟩
      refine AWP.seq ?_
      refine AWP.seq ?_
      refine AWP.region (l := [0, 1, 2, 3]) rfl ?_
      refine AOps.cons rfl rfl (AOp.move (.int .i64 u) rfl s288 ?_)
      refine AOps.cons rfl rfl (AOp.move (.sl its.length (its.map eI)) rfl s290 ?_)
      refine AOps.cons rfl rfl (AOp.len (m := its.length) rfl rfl (.inr (.inl ⟨_, rfl⟩)) u_27 ?_)
      refine AOps.cons rfl rfl (AOp.bin (.bool (decide (u < (its.length : Int)))) rfl rfl rfl rfl ?_)
      refine AOps.nil ?_
      change AWP _ _ _ _ _ _
      by_cases b317 : u < (its.length : Int)
      ·
       refine AWP.condT rfl (decide_eq_true b317) ?_
       refine AWP.skip ?_
       change AWP _ _ _ _ _ _
       refine AWP.seq ?_
       refine AWP.block ?_
       refine AWP.seq ?_
       refine AWP.frz 15 o298 s297 m316 fun H318 m319 k320 => ?_
       have h321 := (k320 _ no301).trans h313
       have h322 := (k320 _ no302).trans h314
       have h323 := (k320 _ no303).trans h315
       have o324 := Own.stay o299 (Sep.symm sp310) (fun i hi _ => k320 i hi)
       have o325 := Own.stay o300 (Sep.symm sp311) (fun i hi _ => k320 i hi)
       have hsr : ∀ z ∈ srt, 0 ≤ z ∧ z < (bx.length : Int) := fun z hz => hin z (List.mem_of_mem_take (hpm.mem_iff.1 hz))
       have hsl : srt.length = u.toNat := by rw [hpm.length_eq, List.length_take]; omega
       have hku := hin _ (at_mem_l hu0 (by omega : u < its.length))
       refine AWP.region (l := [0, 1, 2]) rfl ?_
       refine AOps.cons rfl rfl (AOp.move (.sl (srt).length ((srt).map eI)) rfl rfl ?_)
       refine AOps.cons rfl rfl (AOp.len (m := (srt).length) rfl rfl (.inr (.inl ⟨_, rfl⟩)) u_27 ?_)
       refine AOps.cons rfl rfl (AOp.assign (.int .i64 (((srt).length) : Int)) rfl rfl ?_)
       refine AOps.nil ?_
       change AWP _ _ _ _ _ _
       refine AWP.seq ?_
       refine AWP.block ?_
       refine AWP.loop (fun q326 fq Hq => ∃ (k : Int), q326 = k.toNat ∧ fq 17 = .int .i64 k ∧ fq 16 = .int .i64 u ∧ fq 1 = .sl bx.length (bx.flatMap eBox) ∧ fq 2 = .sl its.length (its.map eI) ∧ fq 3 = .int .i64 leaf ∧ fq 4 = .int .i64 (f : Int) ∧ fq 5 = .ptr i1 0 0 ∧ fq 10 = .ptr i12 0 0 ∧ fq 13 = .int .i64 (N.length : Int) ∧ fq 14 = .int .i64 (axisR bx its) ∧ fq 15 = .sl (srt).length ((srt).map eI) ∧ Own B Hq 10 v108 ((N ++ [(NodeT.mk (hullFrom bx (at_ bx (at_ its 0)) (its.take i.toNat)) 0 0 0 0)]).length) ((N ++ [(NodeT.mk (hullFrom bx (at_ bx (at_ its 0)) (its.take i.toNat)) 0 0 0 0)]).flatMap eNode) ∧ Own B Hq 1 Iv I.length (I.map eI) ∧ NotId v108 i12 ∧ NotId v108 i25 ∧ NotId v108 i1 ∧ NotId Iv i12 ∧ NotId Iv i25 ∧ NotId Iv i1 ∧ Sep v108 Iv ∧ Hq i12 = some (.row 0 ([.snil, .snil])) ∧ Hq i25 = some (.row 0 ([.int .i64 (((hullFrom bx (at_ bx (at_ its 0)) (its.take i.toNat)).Lo).X), .int .i64 (((hullFrom bx (at_ bx (at_ its 0)) (its.take i.toNat)).Lo).Y), .int .i64 (((hullFrom bx (at_ bx (at_ its 0)) (its.take i.toNat)).Lo).Z), .int .i64 (((hullFrom bx (at_ bx (at_ its 0)) (its.take i.toNat)).Hi).X), .int .i64 (((hullFrom bx (at_ bx (at_ its 0)) (its.take i.toNat)).Hi).Y), .int .i64 (((hullFrom bx (at_ bx (at_ its 0)) (its.take i.toNat)).Hi).Z)])) ∧ Hq i1 = some (.row 0 ([v108, Iv])) ∧ Mono B Hq ∧ (0 ≤ k) ∧ (k ≤ (srt.length : Int)) ∧ (∀ j : Int, k ≤ j → j < srt.length → keyLt bx (axisR bx its) (at_ its u) (at_ srt j) = true)) (k := (srt.length : Int).toNat) ?_ ?_
       ·
        exact ⟨(srt.length : Int), rfl, rfl, s288, s289, s290, s291, s292, s293, s294, s295, s296, rfl, o324, o325, no304, no305, no306, no307, no308, no309, sp312, h321, h322, h323, m319, by omega, by omega, by intro j; omega⟩
       ·
        rintro _ f328 H327 ⟨k, rfl, s329, s330, s331, s332, s333, s334, s335, s336, s337, s338, s339, o340, o341, no342, no343, no344, no345, no346, no347, sp348, h349, h350, h351, m352, hk0, hk1, hg⟩
        refine AWP.seq ?_
        refine AWP.seq ?_
        have hks : k > 0 → 0 ≤ at_ srt (k - 1) ∧ at_ srt (k - 1) < (bx.length : Int) := fun h => hsr _ (at_mem_l (l := srt) (i := k - 1) (by omega) (by omega))
        refine AWP.region_quiet mixed (by kernel_rfl) 58 [] rfl (by kernel_rfl) (Mono H327) (Mono.refl _) ?_
        refine QE.op rfl rfl (.inl ⟨rfl, fun f' H' hf hM => AOp.move (.int .i64 k) rfl ((hf 17 rfl).trans s329) ⟨rfl, hM⟩⟩) ?_
        refine QE.op rfl rfl (.inl ⟨rfl, fun f' H' hf hM => AOp.bin (.bool (decide (k > 0))) rfl ((hf 94 rfl).trans rfl) rfl rfl ⟨rfl, hM⟩⟩) ?_
        refine QE.op rfl rfl (.inl ⟨rfl, fun f' H' hf hM => AOp.move (.bool (decide (k > 0))) rfl ((hf 95 rfl).trans rfl) ⟨rfl, hM⟩⟩) ?_
        by_cases b353 : k > 0
        ·
         refine QE.op rfl rfl (QOp.yes rfl rfl rfl rfl (decide_eq_true b353) fun f' H' hf hM => AOp.move (.sl bx.length (bx.flatMap eBox)) rfl ((hf 1 rfl).trans s331) ⟨rfl, hM⟩) ?_
         refine QE.op rfl rfl (QOp.yes rfl rfl rfl rfl (decide_eq_true b353) fun f' H' hf hM => AOp.move (.sl (srt).length ((srt).map eI)) rfl ((hf 15 rfl).trans s339) ⟨rfl, hM⟩) ?_
         refine QE.op rfl rfl (QOp.yes rfl rfl rfl rfl (decide_eq_true b353) fun f' H' hf hM => AOp.move (.int .i64 k) rfl ((hf 17 rfl).trans s329) ⟨rfl, hM⟩) ?_
         refine QE.op rfl rfl (QOp.yes rfl rfl rfl rfl (decide_eq_true b353) fun f' H' hf hM => AOp.bin (.int .i64 (k - 1)) rfl ((hf 99 rfl).trans rfl) rfl (isub (by omega)) ⟨rfl, hM⟩) ?_
         refine QE.op rfl rfl (QOp.yes rfl rfl rfl rfl (decide_eq_true b353) fun f' H' hf hM => AOp.indexAddrS rfl ((hf 98 rfl).trans rfl) ((hf 100 rfl).trans rfl) sl_27 (by omega) (by omega) ⟨rfl, hM⟩) ?_
         refine QE.op rfl rfl (QOp.yes rfl rfl rfl rfl (decide_eq_true b353) fun f' H' hf hM => AOp.loadF (.int .i64 (at_ (srt) (k - 1))) rfl ((hf 101 rfl).trans rfl) ty_3 (ld1 (by omega) (by omega)) ⟨rfl, hM⟩) ?_
         refine QE.op rfl rfl (QOp.yes rfl rfl rfl rfl (decide_eq_true b353) fun f' H' hf hM => AOp.indexAddrS rfl ((hf 97 rfl).trans rfl) ((hf 102 rfl).trans rfl) sl_22 (by omega) (by omega) ⟨rfl, hM⟩) ?_
         refine QE.op rfl rfl (QOp.yes rfl rfl rfl rfl (decide_eq_true b353) fun f' H' hf hM => AOp.loadF (.agg [.int .i64 (((at_ bx (at_ (srt) (k - 1))).Lo).X), .int .i64 (((at_ bx (at_ (srt) (k - 1))).Lo).Y), .int .i64 (((at_ bx (at_ (srt) (k - 1))).Lo).Z), .int .i64 (((at_ bx (at_ (srt) (k - 1))).Hi).X), .int .i64 (((at_ bx (at_ (srt) (k - 1))).Hi).Y), .int .i64 (((at_ bx (at_ (srt) (k - 1))).Hi).Z)]) rfl ((hf 103 rfl).trans rfl) ty_37 (ldM eBox_len (by omega) (by omega)) ⟨rfl, hM⟩) ?_
         refine QE.op rfl rfl (QOp.yes rfl rfl rfl rfl (decide_eq_true b353) fun f' H' hf hM => AOp.move (.int .i64 (axisR bx its)) rfl ((hf 14 rfl).trans s338) ⟨rfl, hM⟩) ?_
         refine QE.op rfl rfl (QOp.yes rfl rfl rfl rfl (decide_eq_true b353) fun f' H' hf hM => AOp.pcall («as» := [.agg [.int .i64 (((at_ bx (at_ (srt) (k - 1))).Lo).X), .int .i64 (((at_ bx (at_ (srt) (k - 1))).Lo).Y), .int .i64 (((at_ bx (at_ (srt) (k - 1))).Lo).Z), .int .i64 (((at_ bx (at_ (srt) (k - 1))).Hi).X), .int .i64 (((at_ bx (at_ (srt) (k - 1))).Hi).Y), .int .i64 (((at_ bx (at_ (srt) (k - 1))).Hi).Z)], .int .i64 (axisR bx its)]) rfl rfl (lapp (lcons ((hf 104 rfl).trans rfl) (lcons ((hf 105 rfl).trans rfl) rfl)) rfl) tf_36 (c_part (at_ bx (at_ (srt) (k - 1))) (axisR bx its) (hok _ (at_mem_l (by omega) (by omega)))) fun H2 m2 => ⟨rfl, hM.trans m2⟩) ?_
         refine QE.op rfl rfl (QOp.yes rfl rfl rfl rfl (decide_eq_true b353) fun f' H' hf hM => AOp.move (.sl bx.length (bx.flatMap eBox)) rfl ((hf 1 rfl).trans s331) ⟨rfl, hM⟩) ?_
         refine QE.op rfl rfl (QOp.yes rfl rfl rfl rfl (decide_eq_true b353) fun f' H' hf hM => AOp.move (.sl its.length (its.map eI)) rfl ((hf 2 rfl).trans s332) ⟨rfl, hM⟩) ?_
         refine QE.op rfl rfl (QOp.yes rfl rfl rfl rfl (decide_eq_true b353) fun f' H' hf hM => AOp.move (.int .i64 u) rfl ((hf 16 rfl).trans s330) ⟨rfl, hM⟩) ?_
         refine QE.op rfl rfl (QOp.yes rfl rfl rfl rfl (decide_eq_true b353) fun f' H' hf hM => AOp.indexAddrS rfl ((hf 108 rfl).trans rfl) ((hf 109 rfl).trans rfl) sl_27 (by omega) (by omega) ⟨rfl, hM⟩) ?_
         refine QE.op rfl rfl (QOp.yes rfl rfl rfl rfl (decide_eq_true b353) fun f' H' hf hM => AOp.loadF (.int .i64 (at_ its u)) rfl ((hf 110 rfl).trans rfl) ty_3 (ld1 (by omega) (by omega)) ⟨rfl, hM⟩) ?_
         refine QE.op rfl rfl (QOp.yes rfl rfl rfl rfl (decide_eq_true b353) fun f' H' hf hM => AOp.indexAddrS rfl ((hf 107 rfl).trans rfl) ((hf 111 rfl).trans rfl) sl_22 (by omega) (by omega) ⟨rfl, hM⟩) ?_
         refine QE.op rfl rfl (QOp.yes rfl rfl rfl rfl (decide_eq_true b353) fun f' H' hf hM => AOp.loadF (.agg [.int .i64 (((at_ bx (at_ its u)).Lo).X), .int .i64 (((at_ bx (at_ its u)).Lo).Y), .int .i64 (((at_ bx (at_ its u)).Lo).Z), .int .i64 (((at_ bx (at_ its u)).Hi).X), .int .i64 (((at_ bx (at_ its u)).Hi).Y), .int .i64 (((at_ bx (at_ its u)).Hi).Z)]) rfl ((hf 112 rfl).trans rfl) ty_37 (ldM eBox_len (by omega) (by omega)) ⟨rfl, hM⟩) ?_
         refine QE.op rfl rfl (QOp.yes rfl rfl rfl rfl (decide_eq_true b353) fun f' H' hf hM => AOp.move (.int .i64 (axisR bx its)) rfl ((hf 14 rfl).trans s338) ⟨rfl, hM⟩) ?_
         refine QE.op rfl rfl (QOp.yes rfl rfl rfl rfl (decide_eq_true b353) fun f' H' hf hM => AOp.pcall («as» := [.agg [.int .i64 (((at_ bx (at_ its u)).Lo).X), .int .i64 (((at_ bx (at_ its u)).Lo).Y), .int .i64 (((at_ bx (at_ its u)).Lo).Z), .int .i64 (((at_ bx (at_ its u)).Hi).X), .int .i64 (((at_ bx (at_ its u)).Hi).Y), .int .i64 (((at_ bx (at_ its u)).Hi).Z)], .int .i64 (axisR bx its)]) rfl rfl (lapp (lcons ((hf 113 rfl).trans rfl) (lcons ((hf 114 rfl).trans rfl) rfl)) rfl) tf_36 (c_part (at_ bx (at_ its u)) (axisR bx its) (hok _ (at_mem_l (by omega) (by omega)))) fun H2 m2 => ⟨rfl, hM.trans m2⟩) ?_
         refine QE.op rfl rfl (QOp.yes rfl rfl rfl rfl (decide_eq_true b353) fun f' H' hf hM => AOp.bin (.bool (decide (mid (axisR bx its) (at_ bx (at_ (srt) (k - 1))) > mid (axisR bx its) (at_ bx (at_ its u))))) rfl ((hf 106 rfl).trans rfl) ((hf 115 rfl).trans rfl) rfl ⟨rfl, hM⟩) ?_
         refine QE.op rfl rfl (QOp.yes rfl rfl rfl rfl (decide_eq_true b353) fun f' H' hf hM => AOp.move (.bool (decide (mid (axisR bx its) (at_ bx (at_ (srt) (k - 1))) > mid (axisR bx its) (at_ bx (at_ its u))))) rfl ((hf 116 rfl).trans rfl) ⟨rfl, hM⟩) ?_
         by_cases b354 : mid (axisR bx its) (at_ bx (at_ (srt) (k - 1))) > mid (axisR bx its) (at_ bx (at_ its u))
         ·
          refine QE.op rfl rfl (QOp.no rfl rfl rfl rfl (ble_of (decide_eq_true b354) (by decide)) rfl) ?_
          refine QE.op rfl rfl (QOp.no rfl rfl rfl rfl (ble_of (decide_eq_true b354) (by decide)) rfl) ?_
          refine QE.op rfl rfl (QOp.no rfl rfl rfl rfl (ble_of (decide_eq_true b354) (by decide)) rfl) ?_
          refine QE.op rfl rfl (QOp.no rfl rfl rfl rfl (ble_of (decide_eq_true b354) (by decide)) rfl) ?_
          refine QE.op rfl rfl (QOp.no rfl rfl rfl rfl (ble_of (decide_eq_true b354) (by decide)) rfl) ?_
          refine QE.op rfl rfl (QOp.no rfl rfl rfl rfl (ble_of (decide_eq_true b354) (by decide)) rfl) ?_
          refine QE.op rfl rfl (QOp.no rfl rfl rfl rfl (ble_of (decide_eq_true b354) (by decide)) rfl) ?_
          refine QE.op rfl rfl (QOp.no rfl rfl rfl rfl (ble_of (decide_eq_true b354) (by decide)) rfl) ?_
          refine QE.op rfl rfl (QOp.no rfl rfl rfl rfl (ble_of (decide_eq_true b354) (by decide)) rfl) ?_
          refine QE.op rfl rfl (QOp.no rfl rfl rfl rfl (ble_of (decide_eq_true b354) (by decide)) rfl) ?_
          refine QE.op rfl rfl (QOp.no rfl rfl rfl rfl (ble_of (decide_eq_true b354) (by decide)) rfl) ?_
          refine QE.op rfl rfl (QOp.no rfl rfl rfl rfl (ble_of (decide_eq_true b354) (by decide)) rfl) ?_
          refine QE.op rfl rfl (QOp.no rfl rfl rfl rfl (ble_of (decide_eq_true b354) (by decide)) rfl) ?_
          refine QE.op rfl rfl (QOp.no rfl rfl rfl rfl (ble_of (decide_eq_true b354) (by decide)) rfl) ?_
          refine QE.op rfl rfl (QOp.no rfl rfl rfl rfl (ble_of (decide_eq_true b354) (by decide)) rfl) ?_
          refine QE.op rfl rfl (QOp.no rfl rfl rfl rfl (ble_of (decide_eq_true b354) (by decide)) rfl) ?_
          refine QE.op rfl rfl (QOp.no rfl rfl rfl rfl (ble_of (decide_eq_true b354) (by decide)) rfl) ?_
          refine QE.op rfl rfl (QOp.no rfl rfl rfl rfl (ble_of (decide_eq_true b354) (by decide)) rfl) ?_
          refine QE.op rfl rfl (QOp.no rfl rfl rfl rfl (ble_of (decide_eq_true b354) (by decide)) rfl) ?_
          refine QE.op rfl rfl (QOp.no rfl rfl rfl rfl (ble_of (decide_eq_true b354) (by decide)) rfl) ?_
          refine QE.op rfl rfl (QOp.no rfl rfl rfl rfl (ble_of (decide_eq_true b354) (by decide)) rfl) ?_
          refine QE.op rfl rfl (QOp.un rfl rfl rfl rfl rfl) ?_
          refine QE.op rfl rfl (QOp.un rfl rfl rfl rfl rfl) ?_
          refine QE.op rfl rfl (QOp.un rfl rfl rfl rfl rfl) ?_
          refine QE.op rfl rfl (QOp.un rfl rfl rfl rfl rfl) ?_
          refine QE.op rfl rfl (QOp.un rfl rfl rfl rfl rfl) ?_
          refine QE.op rfl rfl (QOp.un rfl rfl rfl rfl rfl) ?_
          refine QE.op rfl rfl (QOp.un rfl rfl rfl rfl rfl) ?_
          refine QE.op rfl rfl (QOp.un rfl rfl rfl rfl rfl) ?_
          refine QE.op rfl rfl (QOp.un rfl rfl rfl rfl rfl) ?_
          refine QE.op rfl rfl (QOp.un rfl rfl rfl rfl rfl) ?_
          refine QE.op rfl rfl (QOp.no rfl rfl rfl rfl (ble_of (decide_eq_true b354) (by decide)) rfl) ?_
          refine QE.op rfl rfl (QOp.yes rfl rfl rfl rfl (decide_eq_true b353) fun f' H' hf hM => AOp.pickT (.bool true) rfl ((hf 117 rfl).trans rfl) (decide_eq_true b354) rfl ⟨rfl, hM⟩) ?_
          refine QE.op rfl rfl (.inl ⟨rfl, fun f' H' hf hM => AOp.pickT (.bool true) rfl ((hf 96 rfl).trans rfl) (decide_eq_true b353) ((hf 150 rfl).trans rfl) ⟨rfl, hM⟩⟩) ?_
          refine QE.done fun H355 m356 => ?_
          have h357 := m356 _ _ h349
          have h358 := m356 _ _ h350
          have h359 := m356 _ _ h351
          have o360 := Own.mono o340 m356
          have o361 := Own.mono o341 m356
          have m362 := m352.trans m356
          refine AOps.nil ?_
          change AWP _ _ _ _ _ _
          refine AWP.condT rfl rfl ?_
          refine AWP.skip ?_
          change AWP _ _ _ _ _ _
          refine AWP.block ?_
          refine AWP.region (l := [0, 1, 2]) rfl ?_
          refine AOps.cons rfl rfl (AOp.move (.int .i64 k) rfl s329 ?_)
          refine AOps.cons rfl rfl (AOp.bin (.int .i64 (k - 1)) rfl rfl rfl (isub (by omega)) ?_)
          refine AOps.cons rfl rfl (AOp.assign (.int .i64 (k - 1)) rfl rfl ?_)
          refine AOps.nil ?_
          exact ⟨_, by omega, k - 1, rfl, rfl, s330, s331, s332, s333, s334, s335, s336, s337, s338, s339, o360, o361, no342, no343, no344, no345, no346, no347, sp348, h357, h358, h359, m362, by omega, by omega, by exact hg_step hg (key_T (by omega))⟩
         ·
          refine QE.op rfl rfl (QOp.yes rfl rfl rfl rfl (decide_eq_false b354) fun f' H' hf hM => AOp.move (.sl bx.length (bx.flatMap eBox)) rfl ((hf 1 rfl).trans s331) ⟨rfl, hM⟩) ?_
          refine QE.op rfl rfl (QOp.yes rfl rfl rfl rfl (decide_eq_false b354) fun f' H' hf hM => AOp.move (.sl (srt).length ((srt).map eI)) rfl ((hf 15 rfl).trans s339) ⟨rfl, hM⟩) ?_
          refine QE.op rfl rfl (QOp.yes rfl rfl rfl rfl (decide_eq_false b354) fun f' H' hf hM => AOp.move (.int .i64 k) rfl ((hf 17 rfl).trans s329) ⟨rfl, hM⟩) ?_
          refine QE.op rfl rfl (QOp.yes rfl rfl rfl rfl (decide_eq_false b354) fun f' H' hf hM => AOp.bin (.int .i64 (k - 1)) rfl ((hf 120 rfl).trans rfl) rfl (isub (by omega)) ⟨rfl, hM⟩) ?_
          refine QE.op rfl rfl (QOp.yes rfl rfl rfl rfl (decide_eq_false b354) fun f' H' hf hM => AOp.indexAddrS rfl ((hf 119 rfl).trans rfl) ((hf 121 rfl).trans rfl) sl_27 (by omega) (by omega) ⟨rfl, hM⟩) ?_
          refine QE.op rfl rfl (QOp.yes rfl rfl rfl rfl (decide_eq_false b354) fun f' H' hf hM => AOp.loadF (.int .i64 (at_ (srt) (k - 1))) rfl ((hf 122 rfl).trans rfl) ty_3 (ld1 (by omega) (by omega)) ⟨rfl, hM⟩) ?_
          refine QE.op rfl rfl (QOp.yes rfl rfl rfl rfl (decide_eq_false b354) fun f' H' hf hM => AOp.indexAddrS rfl ((hf 118 rfl).trans rfl) ((hf 123 rfl).trans rfl) sl_22 (by omega) (by omega) ⟨rfl, hM⟩) ?_
          refine QE.op rfl rfl (QOp.yes rfl rfl rfl rfl (decide_eq_false b354) fun f' H' hf hM => AOp.loadF (.agg [.int .i64 (((at_ bx (at_ (srt) (k - 1))).Lo).X), .int .i64 (((at_ bx (at_ (srt) (k - 1))).Lo).Y), .int .i64 (((at_ bx (at_ (srt) (k - 1))).Lo).Z), .int .i64 (((at_ bx (at_ (srt) (k - 1))).Hi).X), .int .i64 (((at_ bx (at_ (srt) (k - 1))).Hi).Y), .int .i64 (((at_ bx (at_ (srt) (k - 1))).Hi).Z)]) rfl ((hf 124 rfl).trans rfl) ty_37 (ldM eBox_len (by omega) (by omega)) ⟨rfl, hM⟩) ?_
          refine QE.op rfl rfl (QOp.yes rfl rfl rfl rfl (decide_eq_false b354) fun f' H' hf hM => AOp.move (.int .i64 (axisR bx its)) rfl ((hf 14 rfl).trans s338) ⟨rfl, hM⟩) ?_
          refine QE.op rfl rfl (QOp.yes rfl rfl rfl rfl (decide_eq_false b354) fun f' H' hf hM => AOp.pcall («as» := [.agg [.int .i64 (((at_ bx (at_ (srt) (k - 1))).Lo).X), .int .i64 (((at_ bx (at_ (srt) (k - 1))).Lo).Y), .int .i64 (((at_ bx (at_ (srt) (k - 1))).Lo).Z), .int .i64 (((at_ bx (at_ (srt) (k - 1))).Hi).X), .int .i64 (((at_ bx (at_ (srt) (k - 1))).Hi).Y), .int .i64 (((at_ bx (at_ (srt) (k - 1))).Hi).Z)], .int .i64 (axisR bx its)]) rfl rfl (lapp (lcons ((hf 125 rfl).trans rfl) (lcons ((hf 126 rfl).trans rfl) rfl)) rfl) tf_36 (c_part (at_ bx (at_ (srt) (k - 1))) (axisR bx its) (hok _ (at_mem_l (by omega) (by omega)))) fun H2 m2 => ⟨rfl, hM.trans m2⟩) ?_
          refine QE.op rfl rfl (QOp.yes rfl rfl rfl rfl (decide_eq_false b354) fun f' H' hf hM => AOp.move (.sl bx.length (bx.flatMap eBox)) rfl ((hf 1 rfl).trans s331) ⟨rfl, hM⟩) ?_
          refine QE.op rfl rfl (QOp.yes rfl rfl rfl rfl (decide_eq_false b354) fun f' H' hf hM => AOp.move (.sl its.length (its.map eI)) rfl ((hf 2 rfl).trans s332) ⟨rfl, hM⟩) ?_
          refine QE.op rfl rfl (QOp.yes rfl rfl rfl rfl (decide_eq_false b354) fun f' H' hf hM => AOp.move (.int .i64 u) rfl ((hf 16 rfl).trans s330) ⟨rfl, hM⟩) ?_
          refine QE.op rfl rfl (QOp.yes rfl rfl rfl rfl (decide_eq_false b354) fun f' H' hf hM => AOp.indexAddrS rfl ((hf 129 rfl).trans rfl) ((hf 130 rfl).trans rfl) sl_27 (by omega) (by omega) ⟨rfl, hM⟩) ?_
          refine QE.op rfl rfl (QOp.yes rfl rfl rfl rfl (decide_eq_false b354) fun f' H' hf hM => AOp.loadF (.int .i64 (at_ its u)) rfl ((hf 131 rfl).trans rfl) ty_3 (ld1 (by omega) (by omega)) ⟨rfl, hM⟩) ?_
          refine QE.op rfl rfl (QOp.yes rfl rfl rfl rfl (decide_eq_false b354) fun f' H' hf hM => AOp.indexAddrS rfl ((hf 128 rfl).trans rfl) ((hf 132 rfl).trans rfl) sl_22 (by omega) (by omega) ⟨rfl, hM⟩) ?_
          refine QE.op rfl rfl (QOp.yes rfl rfl rfl rfl (decide_eq_false b354) fun f' H' hf hM => AOp.loadF (.agg [.int .i64 (((at_ bx (at_ its u)).Lo).X), .int .i64 (((at_ bx (at_ its u)).Lo).Y), .int .i64 (((at_ bx (at_ its u)).Lo).Z), .int .i64 (((at_ bx (at_ its u)).Hi).X), .int .i64 (((at_ bx (at_ its u)).Hi).Y), .int .i64 (((at_ bx (at_ its u)).Hi).Z)]) rfl ((hf 133 rfl).trans rfl) ty_37 (ldM eBox_len (by omega) (by omega)) ⟨rfl, hM⟩) ?_
          refine QE.op rfl rfl (QOp.yes rfl rfl rfl rfl (decide_eq_false b354) fun f' H' hf hM => AOp.move (.int .i64 (axisR bx its)) rfl ((hf 14 rfl).trans s338) ⟨rfl, hM⟩) ?_
          refine QE.op rfl rfl (QOp.yes rfl rfl rfl rfl (decide_eq_false b354) fun f' H' hf hM => AOp.pcall («as» := [.agg [.int .i64 (((at_ bx (at_ its u)).Lo).X), .int .i64 (((at_ bx (at_ its u)).Lo).Y), .int .i64 (((at_ bx (at_ its u)).Lo).Z), .int .i64 (((at_ bx (at_ its u)).Hi).X), .int .i64 (((at_ bx (at_ its u)).Hi).Y), .int .i64 (((at_ bx (at_ its u)).Hi).Z)], .int .i64 (axisR bx its)]) rfl rfl (lapp (lcons ((hf 134 rfl).trans rfl) (lcons ((hf 135 rfl).trans rfl) rfl)) rfl) tf_36 (c_part (at_ bx (at_ its u)) (axisR bx its) (hok _ (at_mem_l (by omega) (by omega)))) fun H2 m2 => ⟨rfl, hM.trans m2⟩) ?_
          refine QE.op rfl rfl (QOp.yes rfl rfl rfl rfl (decide_eq_false b354) fun f' H' hf hM => AOp.bin (.bool (decide (mid (axisR bx its) (at_ bx (at_ (srt) (k - 1))) = mid (axisR bx its) (at_ bx (at_ its u))))) rfl ((hf 127 rfl).trans rfl) ((hf 136 rfl).trans rfl) ieq ⟨rfl, hM⟩) ?_
          refine QE.op rfl rfl (QOp.yes rfl rfl rfl rfl (decide_eq_false b354) fun f' H' hf hM => AOp.move (.bool (decide (mid (axisR bx its) (at_ bx (at_ (srt) (k - 1))) = mid (axisR bx its) (at_ bx (at_ its u))))) rfl ((hf 137 rfl).trans rfl) ⟨rfl, hM⟩) ?_
          by_cases b363 : mid (axisR bx its) (at_ bx (at_ (srt) (k - 1))) = mid (axisR bx its) (at_ bx (at_ its u))
          ·
           refine QE.op rfl rfl (QOp.yes rfl rfl rfl rfl (decide_eq_true b363) fun f' H' hf hM => AOp.move (.sl (srt).length ((srt).map eI)) rfl ((hf 15 rfl).trans s339) ⟨rfl, hM⟩) ?_
           refine QE.op rfl rfl (QOp.yes rfl rfl rfl rfl (decide_eq_true b363) fun f' H' hf hM => AOp.move (.int .i64 k) rfl ((hf 17 rfl).trans s329) ⟨rfl, hM⟩) ?_
           refine QE.op rfl rfl (QOp.yes rfl rfl rfl rfl (decide_eq_true b363) fun f' H' hf hM => AOp.bin (.int .i64 (k - 1)) rfl ((hf 140 rfl).trans rfl) rfl (isub (by omega)) ⟨rfl, hM⟩) ?_
           refine QE.op rfl rfl (QOp.yes rfl rfl rfl rfl (decide_eq_true b363) fun f' H' hf hM => AOp.indexAddrS rfl ((hf 139 rfl).trans rfl) ((hf 141 rfl).trans rfl) sl_27 (by omega) (by omega) ⟨rfl, hM⟩) ?_
           refine QE.op rfl rfl (QOp.yes rfl rfl rfl rfl (decide_eq_true b363) fun f' H' hf hM => AOp.loadF (.int .i64 (at_ (srt) (k - 1))) rfl ((hf 142 rfl).trans rfl) ty_3 (ld1 (by omega) (by omega)) ⟨rfl, hM⟩) ?_
           refine QE.op rfl rfl (QOp.yes rfl rfl rfl rfl (decide_eq_true b363) fun f' H' hf hM => AOp.move (.sl its.length (its.map eI)) rfl ((hf 2 rfl).trans s332) ⟨rfl, hM⟩) ?_
           refine QE.op rfl rfl (QOp.yes rfl rfl rfl rfl (decide_eq_true b363) fun f' H' hf hM => AOp.move (.int .i64 u) rfl ((hf 16 rfl).trans s330) ⟨rfl, hM⟩) ?_
           refine QE.op rfl rfl (QOp.yes rfl rfl rfl rfl (decide_eq_true b363) fun f' H' hf hM => AOp.indexAddrS rfl ((hf 144 rfl).trans rfl) ((hf 145 rfl).trans rfl) sl_27 (by omega) (by omega) ⟨rfl, hM⟩) ?_
           refine QE.op rfl rfl (QOp.yes rfl rfl rfl rfl (decide_eq_true b363) fun f' H' hf hM => AOp.loadF (.int .i64 (at_ its u)) rfl ((hf 146 rfl).trans rfl) ty_3 (ld1 (by omega) (by omega)) ⟨rfl, hM⟩) ?_
           refine QE.op rfl rfl (QOp.yes rfl rfl rfl rfl (decide_eq_true b363) fun f' H' hf hM => AOp.bin (.bool (decide (at_ (srt) (k - 1) > at_ its u))) rfl ((hf 143 rfl).trans rfl) ((hf 147 rfl).trans rfl) rfl ⟨rfl, hM⟩) ?_
           refine QE.op rfl rfl (QOp.yes rfl rfl rfl rfl (decide_eq_false b354) fun f' H' hf hM => AOp.pickT (.bool (decide (at_ (srt) (k - 1) > at_ its u))) rfl ((hf 138 rfl).trans rfl) (decide_eq_true b363) ((hf 148 rfl).trans rfl) ⟨rfl, hM⟩) ?_
           refine QE.op rfl rfl (QOp.yes rfl rfl rfl rfl (decide_eq_true b353) fun f' H' hf hM => AOp.pickF (.bool (decide (at_ (srt) (k - 1) > at_ its u))) rfl ((hf 117 rfl).trans rfl) (decide_eq_false b354) ((hf 149 rfl).trans rfl) ⟨rfl, hM⟩) ?_
           refine QE.op rfl rfl (.inl ⟨rfl, fun f' H' hf hM => AOp.pickT (.bool (decide (at_ (srt) (k - 1) > at_ its u))) rfl ((hf 96 rfl).trans rfl) (decide_eq_true b353) ((hf 150 rfl).trans rfl) ⟨rfl, hM⟩⟩) ?_
           refine QE.done fun H364 m365 => ?_
           have h366 := m365 _ _ h349
           have h367 := m365 _ _ h350
           have h368 := m365 _ _ h351
           have o369 := Own.mono o340 m365
           have o370 := Own.mono o341 m365
           have m371 := m352.trans m365
           refine AOps.nil ?_
           change AWP _ _ _ _ _ _
           by_cases b372 : at_ (srt) (k - 1) > at_ its u
           ·
            refine AWP.condT rfl (decide_eq_true b372) ?_
            refine AWP.skip ?_
            change AWP _ _ _ _ _ _
            refine AWP.block ?_
            refine AWP.region (l := [0, 1, 2]) rfl ?_
            refine AOps.cons rfl rfl (AOp.move (.int .i64 k) rfl s329 ?_)
            refine AOps.cons rfl rfl (AOp.bin (.int .i64 (k - 1)) rfl rfl rfl (isub (by omega)) ?_)
            refine AOps.cons rfl rfl (AOp.assign (.int .i64 (k - 1)) rfl rfl ?_)
            refine AOps.nil ?_
            exact ⟨_, by omega, k - 1, rfl, rfl, s330, s331, s332, s333, s334, s335, s336, s337, s338, s339, o369, o370, no342, no343, no344, no345, no346, no347, sp348, h366, h367, h368, m371, by omega, by omega, by exact hg_step hg (key_T (by omega))⟩
           ·
            refine AWP.condF rfl (decide_eq_false b372) ?_
            refine AWP.exit ?_
            change AWP _ _ _ _ _ _
            refine AWP.seq ?_
            refine AWP.region (l := [0, 1]) rfl ?_
            refine AOps.cons rfl rfl (AOp.buildSlice (cells := []) rfl u_27 ts_3 tz_3 rfl rfl rfl ?_)
            intro i373 H374 n375 h376 k377
            have e378 := ne_new h366 n375
            have e379 := ne_new h367 n375
            have e380 := ne_new h368 n375
            have z381 := Mono.free m371 n375
            have h382 := keep k377 (ne_new h366 n375) h366
            have h383 := keep k377 (ne_new h367 n375) h367
            have h384 := keep k377 (ne_new h368 n375) h368
            have o385 := Own.keep o369 k377 (Own.notnew o369 n375)
            have no386 := Own.notnew o369 n375
            have o387 := Own.keep o370 k377 (Own.notnew o370 n375)
            have no388 := Own.notnew o370 n375
            have m389 := Mono.new m371 n375 k377
            obtain ⟨v390, e391⟩ : ∃ v : AV, v = .slm i373 0 1 0 0 := ⟨_, rfl⟩
            have o392 : Own B H374 1 v390 0 [] := .inr ⟨_, _, e391, h376, z381, rfl⟩
            have no393 : NotId v390 i12 := by rw [e391]; exact NotId.slm e378
            have no394 : NotId v390 i25 := by rw [e391]; exact NotId.slm e379
            have no395 : NotId v390 i1 := by rw [e391]; exact NotId.slm e380
            have sp396 : Sep v390 v108 := by rw [e391]; exact Sep.ofNotId no386
            have sp397 : Sep v390 Iv := by rw [e391]; exact Sep.ofNotId no388
            refine AOps.cons rfl rfl (AOp.assign (v390) rfl e391.symm ?_)
            refine AOps.nil ?_
            change AWP _ _ _ _ _ _
            refine AWP.seq ?_
            refine AWP.region (l := [0, 1, 2, 3, 4, 5]) rfl ?_
            refine AOps.cons rfl rfl (AOp.move (v390) rfl rfl ?_)
            refine AOps.cons rfl rfl (AOp.move (.sl (srt).length ((srt).map eI)) rfl s339 ?_)
            refine AOps.cons rfl rfl (AOp.move (.int .i64 k) rfl s329 ?_)
            refine AOps.cons rfl rfl (AOp.sliceST1 (l := 0) (h := k) rfl rfl  sl_27 rfl (hi_of rfl) (by omega) (by omega) (by omega) ?_)
            refine AOps.cons rfl rfl (AOp.append_any (es := 1) (m := (((srt)).take k.toNat).length) (len := 0) (old := []) (cells := (((srt)).take k.toNat).map eI) rfl u_27 ts_3 tzn_3 tb_3 (by decide) ni_27 rfl o392 m389 rfl (.sl (by simp)) (by exact one_map eI_one)  (by first | omega | (simp; omega)) ?_)
            intro v398 H399 o400 m401 k402 j403
            have o404 := Own.app1 (xs := ([] : List Int)) (ys := ((srt)).take k.toNat) (e := eI) (by simp) o400
            have h405 := (k402 _ no393 (by rw [h382]; simp)).trans h382
            have no406 := j403 _ no393 (by rw [h382]; simp)
            have h407 := (k402 _ no394 (by rw [h383]; simp)).trans h383
            have no408 := j403 _ no394 (by rw [h383]; simp)
            have h409 := (k402 _ no395 (by rw [h384]; simp)).trans h384
            have no410 := j403 _ no395 (by rw [h384]; simp)
            have sp412 := Own.sep o385 (Sep.symm sp396) j403
            have o411 := Own.stay o385 (Sep.symm sp396) k402
            have sp414 := Own.sep o387 (Sep.symm sp397) j403
            have o413 := Own.stay o387 (Sep.symm sp397) k402
            refine AOps.cons rfl rfl (AOp.assign (v398) rfl rfl ?_)
            refine AOps.nil ?_
            change AWP _ _ _ _ _ _
            refine AWP.seq ?_
            refine AWP.region (l := [0, 1, 2, 3, 4, 5, 6, 7]) rfl ?_
            refine AOps.cons rfl rfl (AOp.move (v398) rfl rfl ?_)
            refine AOps.cons rfl rfl (AOp.move (.sl its.length (its.map eI)) rfl s332 ?_)
            refine AOps.cons rfl rfl (AOp.move (.int .i64 u) rfl s330 ?_)
            refine AOps.cons rfl rfl (AOp.indexAddrS rfl rfl rfl sl_27 (by omega) (by omega) ?_)
            refine AOps.cons rfl rfl (AOp.loadF (.int .i64 (at_ its u)) rfl rfl ty_3 (ld1 (by omega) (by omega)) ?_)
            refine AOps.cons rfl rfl (AOp.buildSlice (cells := [.int .i64 (at_ its u)]) rfl u_27 ts_3 tz_3 rfl rfl rfl ?_)
            intro i415 H416 n417 h418 k419
            have e420 := ne_new h405 n417
            have e421 := ne_new h407 n417
            have e422 := ne_new h409 n417
            have z423 := Mono.free m401 n417
            have h424 := keep k419 (ne_new h405 n417) h405
            have h425 := keep k419 (ne_new h407 n417) h407
            have h426 := keep k419 (ne_new h409 n417) h409
            have o427 := Own.keep o411 k419 (Own.notnew o411 n417)
            have no428 := Own.notnew o411 n417
            have o429 := Own.keep o413 k419 (Own.notnew o413 n417)
            have no430 := Own.notnew o413 n417
            have o431 := Own.keep o404 k419 (Own.notnew o404 n417)
            have no432 := Own.notnew o404 n417
            have m433 := Mono.new m401 n417 k419
            refine AOps.cons rfl rfl (AOp.append_own (es := 1) (m := 1) (len := ((([]) ++ (((srt)).take k.toNat)).length)) (old := (([]) ++ (((srt)).take k.toNat)).map eI) (cells := [.int .i64 (at_ its u)]) rfl u_27 ts_3 tzn_3 tb_3 (by decide) ni_27 rfl o431 m433 rfl (.slm h418 rfl) (one_of rfl) (by decide) (by first | omega | (simp; omega)) ?_)
            intro v434 H435 o436 m437 k438 j439
            have o440 := Own.snoc1 (xs := ((([]) ++ (((srt)).take k.toNat)) : List Int)) (y := at_ its u) (e := eI) (by simp) o436
            have h441 := (k438 _ no406 (by rw [h424]; simp)).trans h424
            have no442 := j439 _ no406 (by rw [h424]; simp)
            have h443 := (k438 _ no408 (by rw [h425]; simp)).trans h425
            have no444 := j439 _ no408 (by rw [h425]; simp)
            have h445 := (k438 _ no410 (by rw [h426]; simp)).trans h426
            have no446 := j439 _ no410 (by rw [h426]; simp)
            have sp448 := Own.sep o427 sp412 j439
            have o447 := Own.stay o427 sp412 k438
            have sp450 := Own.sep o429 sp414 j439
            have o449 := Own.stay o429 sp414 k438
            refine AOps.cons rfl rfl (AOp.assign (v434) rfl rfl ?_)
            refine AOps.nil ?_
            change AWP _ _ _ _ _ _
            refine AWP.seq ?_
            refine AWP.region (l := [0, 1, 2, 3, 4, 5]) rfl ?_
            refine AOps.cons rfl rfl (AOp.move (v434) rfl rfl ?_)
            refine AOps.cons rfl rfl (AOp.move (.sl (srt).length ((srt).map eI)) rfl s339 ?_)
            refine AOps.cons rfl rfl (AOp.move (.int .i64 k) rfl s329 ?_)
            refine AOps.cons rfl rfl (AOp.sliceSD1 (l := k) (h := (((srt).length) : Int)) rfl rfl  sl_27 (lo_of rfl) rfl (by omega) (by omega) (by omega) rfl ?_)
            refine AOps.cons rfl rfl (AOp.append_any (es := 1) (m := (((srt)).drop k.toNat).length) (len := (((([]) ++ (((srt)).take k.toNat)) ++ [at_ its u]).length)) (old := ((([]) ++ (((srt)).take k.toNat)) ++ [at_ its u]).map eI) (cells := (((srt)).drop k.toNat).map eI) rfl u_27 ts_3 tzn_3 tb_3 (by decide) ni_27 rfl o440 m437 rfl (.sl (by simp)) (by exact one_map eI_one)  (by first | omega | (simp; omega)) ?_)
            intro v451 H452 o453 m454 k455 j456
            have o457 := Own.app1 (xs := (((([]) ++ (((srt)).take k.toNat)) ++ [at_ its u]) : List Int)) (ys := ((srt)).drop k.toNat) (e := eI) (by simp) o453
            have h458 := (k455 _ no442 (by rw [h441]; simp)).trans h441
            have no459 := j456 _ no442 (by rw [h441]; simp)
            have h460 := (k455 _ no444 (by rw [h443]; simp)).trans h443
            have no461 := j456 _ no444 (by rw [h443]; simp)
            have h462 := (k455 _ no446 (by rw [h445]; simp)).trans h445
            have no463 := j456 _ no446 (by rw [h445]; simp)
            have sp465 := Own.sep o447 sp448 j456
            have o464 := Own.stay o447 sp448 k455
            have sp467 := Own.sep o449 sp450 j456
            have o466 := Own.stay o449 sp450 k455
            refine AOps.cons rfl rfl (AOp.assign (v451) rfl rfl ?_)
            refine AOps.nil ?_
            change AWP _ _ _ _ _ _
            refine AWP.region (l := [0, 1]) rfl ?_
            refine AOps.cons rfl rfl (AOp.move (v451) rfl rfl ?_)
            refine AOps.cons rfl rfl (AOp.assign (v451) rfl rfl ?_)
            refine AOps.nil ?_
            change AWP _ _ _ _ _ _
            refine AWP.region (l := [0, 1, 2]) rfl ?_
            refine AOps.cons rfl rfl (AOp.move (.int .i64 u) rfl s330 ?_)
            refine AOps.cons rfl rfl (AOp.bin (.int .i64 (u + 1)) rfl rfl rfl (iadd (by omega)) ?_)
            refine AOps.cons rfl rfl (AOp.assign (.int .i64 (u + 1)) rfl rfl ?_)
            refine AOps.nil ?_
            exact ⟨_, by omega, u + 1, (srt.take k.toNat ++ [at_ its u] ++ srt.drop k.toNat), v451, rfl, rfl, s331, s332, s333, s334, s335, s336, s337, s338, rfl, (have hx : ((((([]) ++ (((srt)).take k.toNat)) ++ [at_ its u]) ++ (((srt)).drop k.toNat)) : List Int) = (srt.take k.toNat ++ [at_ its u] ++ srt.drop k.toNat) := (by first | rfl | simp); Own.re o457 (congrArg List.length hx) (congrArg (fun l : List Int => l.map eI) hx)), o464, o466, no459, no461, no463, no342, no343, no344, no345, no346, no347, (Sep.symm sp465), (Sep.symm sp467), sp348, h458, h460, h462, m454, by omega, by omega, by exact insAt_sorted (keyLt_tot bx _) hk0 hk1 hsL hg (.inr (key_F (by omega))), by rw [take_snoc hu0 (by omega)]; exact insAt_perm hk0 hpm⟩
          ·
           refine QE.op rfl rfl (QOp.no rfl rfl rfl rfl (ble_of (decide_eq_false b363) (by decide)) rfl) ?_
           refine QE.op rfl rfl (QOp.no rfl rfl rfl rfl (ble_of (decide_eq_false b363) (by decide)) rfl) ?_
           refine QE.op rfl rfl (QOp.no rfl rfl rfl rfl (ble_of (decide_eq_false b363) (by decide)) rfl) ?_
           refine QE.op rfl rfl (QOp.no rfl rfl rfl rfl (ble_of (decide_eq_false b363) (by decide)) rfl) ?_
           refine QE.op rfl rfl (QOp.no rfl rfl rfl rfl (ble_of (decide_eq_false b363) (by decide)) rfl) ?_
           refine QE.op rfl rfl (QOp.no rfl rfl rfl rfl (ble_of (decide_eq_false b363) (by decide)) rfl) ?_
           refine QE.op rfl rfl (QOp.no rfl rfl rfl rfl (ble_of (decide_eq_false b363) (by decide)) rfl) ?_
           refine QE.op rfl rfl (QOp.no rfl rfl rfl rfl (ble_of (decide_eq_false b363) (by decide)) rfl) ?_
           refine QE.op rfl rfl (QOp.no rfl rfl rfl rfl (ble_of (decide_eq_false b363) (by decide)) rfl) ?_
           refine QE.op rfl rfl (QOp.no rfl rfl rfl rfl (ble_of (decide_eq_false b363) (by decide)) rfl) ?_
           refine QE.op rfl rfl (QOp.yes rfl rfl rfl rfl (decide_eq_false b354) fun f' H' hf hM => AOp.pickF (.bool false) rfl ((hf 138 rfl).trans rfl) (decide_eq_false b363) rfl ⟨rfl, hM⟩) ?_
           refine QE.op rfl rfl (QOp.yes rfl rfl rfl rfl (decide_eq_true b353) fun f' H' hf hM => AOp.pickF (.bool false) rfl ((hf 117 rfl).trans rfl) (decide_eq_false b354) ((hf 149 rfl).trans rfl) ⟨rfl, hM⟩) ?_
           refine QE.op rfl rfl (.inl ⟨rfl, fun f' H' hf hM => AOp.pickT (.bool false) rfl ((hf 96 rfl).trans rfl) (decide_eq_true b353) ((hf 150 rfl).trans rfl) ⟨rfl, hM⟩⟩) ?_
           refine QE.done fun H468 m469 => ?_
           have h470 := m469 _ _ h349
           have h471 := m469 _ _ h350
           have h472 := m469 _ _ h351
           have o473 := Own.mono o340 m469
           have o474 := Own.mono o341 m469
           have m475 := m352.trans m469
           refine AOps.nil ?_
           change AWP _ _ _ _ _ _
           refine AWP.condF rfl rfl ?_
           refine AWP.exit ?_
           change AWP _ _ _ _ _ _
           refine AWP.seq ?_
           refine AWP.region (l := [0, 1]) rfl ?_
           refine AOps.cons rfl rfl (AOp.buildSlice (cells := []) rfl u_27 ts_3 tz_3 rfl rfl rfl ?_)
           intro i476 H477 n478 h479 k480
           have e481 := ne_new h470 n478
           have e482 := ne_new h471 n478
           have e483 := ne_new h472 n478
           have z484 := Mono.free m475 n478
           have h485 := keep k480 (ne_new h470 n478) h470
           have h486 := keep k480 (ne_new h471 n478) h471
           have h487 := keep k480 (ne_new h472 n478) h472
           have o488 := Own.keep o473 k480 (Own.notnew o473 n478)
           have no489 := Own.notnew o473 n478
           have o490 := Own.keep o474 k480 (Own.notnew o474 n478)
           have no491 := Own.notnew o474 n478
           have m492 := Mono.new m475 n478 k480
           obtain ⟨v493, e494⟩ : ∃ v : AV, v = .slm i476 0 1 0 0 := ⟨_, rfl⟩
           have o495 : Own B H477 1 v493 0 [] := .inr ⟨_, _, e494, h479, z484, rfl⟩
           have no496 : NotId v493 i12 := by rw [e494]; exact NotId.slm e481
           have no497 : NotId v493 i25 := by rw [e494]; exact NotId.slm e482
           have no498 : NotId v493 i1 := by rw [e494]; exact NotId.slm e483
           have sp499 : Sep v493 v108 := by rw [e494]; exact Sep.ofNotId no489
           have sp500 : Sep v493 Iv := by rw [e494]; exact Sep.ofNotId no491
           refine AOps.cons rfl rfl (AOp.assign (v493) rfl e494.symm ?_)
           refine AOps.nil ?_
           change AWP _ _ _ _ _ _
           refine AWP.seq ?_
           refine AWP.region (l := [0, 1, 2, 3, 4, 5]) rfl ?_
           refine AOps.cons rfl rfl (AOp.move (v493) rfl rfl ?_)
           refine AOps.cons rfl rfl (AOp.move (.sl (srt).length ((srt).map eI)) rfl s339 ?_)
           refine AOps.cons rfl rfl (AOp.move (.int .i64 k) rfl s329 ?_)
           refine AOps.cons rfl rfl (AOp.sliceST1 (l := 0) (h := k) rfl rfl  sl_27 rfl (hi_of rfl) (by omega) (by omega) (by omega) ?_)
           refine AOps.cons rfl rfl (AOp.append_any (es := 1) (m := (((srt)).take k.toNat).length) (len := 0) (old := []) (cells := (((srt)).take k.toNat).map eI) rfl u_27 ts_3 tzn_3 tb_3 (by decide) ni_27 rfl o495 m492 rfl (.sl (by simp)) (by exact one_map eI_one)  (by first | omega | (simp; omega)) ?_)
           intro v501 H502 o503 m504 k505 j506
           have o507 := Own.app1 (xs := ([] : List Int)) (ys := ((srt)).take k.toNat) (e := eI) (by simp) o503
           have h508 := (k505 _ no496 (by rw [h485]; simp)).trans h485
           have no509 := j506 _ no496 (by rw [h485]; simp)
           have h510 := (k505 _ no497 (by rw [h486]; simp)).trans h486
           have no511 := j506 _ no497 (by rw [h486]; simp)
           have h512 := (k505 _ no498 (by rw [h487]; simp)).trans h487
           have no513 := j506 _ no498 (by rw [h487]; simp)
           have sp515 := Own.sep o488 (Sep.symm sp499) j506
           have o514 := Own.stay o488 (Sep.symm sp499) k505
           have sp517 := Own.sep o490 (Sep.symm sp500) j506
           have o516 := Own.stay o490 (Sep.symm sp500) k505
           refine AOps.cons rfl rfl (AOp.assign (v501) rfl rfl ?_)
           refine AOps.nil ?_
           change AWP _ _ _ _ _ _
           refine AWP.seq ?_
           refine AWP.region (l := [0, 1, 2, 3, 4, 5, 6, 7]) rfl ?_
           refine AOps.cons rfl rfl (AOp.move (v501) rfl rfl ?_)
           refine AOps.cons rfl rfl (AOp.move (.sl its.length (its.map eI)) rfl s332 ?_)
           refine AOps.cons rfl rfl (AOp.move (.int .i64 u) rfl s330 ?_)
           refine AOps.cons rfl rfl (AOp.indexAddrS rfl rfl rfl sl_27 (by omega) (by omega) ?_)
           refine AOps.cons rfl rfl (AOp.loadF (.int .i64 (at_ its u)) rfl rfl ty_3 (ld1 (by omega) (by omega)) ?_)
           refine AOps.cons rfl rfl (AOp.buildSlice (cells := [.int .i64 (at_ its u)]) rfl u_27 ts_3 tz_3 rfl rfl rfl ?_)
           intro i518 H519 n520 h521 k522
           have e523 := ne_new h508 n520
           have e524 := ne_new h510 n520
           have e525 := ne_new h512 n520
           have z526 := Mono.free m504 n520
           have h527 := keep k522 (ne_new h508 n520) h508
           have h528 := keep k522 (ne_new h510 n520) h510
           have h529 := keep k522 (ne_new h512 n520) h512
           have o530 := Own.keep o514 k522 (Own.notnew o514 n520)
           have no531 := Own.notnew o514 n520
           have o532 := Own.keep o516 k522 (Own.notnew o516 n520)
           have no533 := Own.notnew o516 n520
           have o534 := Own.keep o507 k522 (Own.notnew o507 n520)
           have no535 := Own.notnew o507 n520
           have m536 := Mono.new m504 n520 k522
           refine AOps.cons rfl rfl (AOp.append_own (es := 1) (m := 1) (len := ((([]) ++ (((srt)).take k.toNat)).length)) (old := (([]) ++ (((srt)).take k.toNat)).map eI) (cells := [.int .i64 (at_ its u)]) rfl u_27 ts_3 tzn_3 tb_3 (by decide) ni_27 rfl o534 m536 rfl (.slm h521 rfl) (one_of rfl) (by decide) (by first | omega | (simp; omega)) ?_)
           intro v537 H538 o539 m540 k541 j542
           have o543 := Own.snoc1 (xs := ((([]) ++ (((srt)).take k.toNat)) : List Int)) (y := at_ its u) (e := eI) (by simp) o539
           have h544 := (k541 _ no509 (by rw [h527]; simp)).trans h527
           have no545 := j542 _ no509 (by rw [h527]; simp)
           have h546 := (k541 _ no511 (by rw [h528]; simp)).trans h528
           have no547 := j542 _ no511 (by rw [h528]; simp)
           have h548 := (k541 _ no513 (by rw [h529]; simp)).trans h529
           have no549 := j542 _ no513 (by rw [h529]; simp)
           have sp551 := Own.sep o530 sp515 j542
           have o550 := Own.stay o530 sp515 k541
           have sp553 := Own.sep o532 sp517 j542
           have o552 := Own.stay o532 sp517 k541
           refine AOps.cons rfl rfl (AOp.assign (v537) rfl rfl ?_)
           refine AOps.nil ?_
           change AWP _ _ _ _ _ _
           refine AWP.seq ?_
           refine AWP.region (l := [0, 1, 2, 3, 4, 5]) rfl ?_
           refine AOps.cons rfl rfl (AOp.move (v537) rfl rfl ?_)
           refine AOps.cons rfl rfl (AOp.move (.sl (srt).length ((srt).map eI)) rfl s339 ?_)
           refine AOps.cons rfl rfl (AOp.move (.int .i64 k) rfl s329 ?_)
           refine AOps.cons rfl rfl (AOp.sliceSD1 (l := k) (h := (((srt).length) : Int)) rfl rfl  sl_27 (lo_of rfl) rfl (by omega) (by omega) (by omega) rfl ?_)
           refine AOps.cons rfl rfl (AOp.append_any (es := 1) (m := (((srt)).drop k.toNat).length) (len := (((([]) ++ (((srt)).take k.toNat)) ++ [at_ its u]).length)) (old := ((([]) ++ (((srt)).take k.toNat)) ++ [at_ its u]).map eI) (cells := (((srt)).drop k.toNat).map eI) rfl u_27 ts_3 tzn_3 tb_3 (by decide) ni_27 rfl o543 m540 rfl (.sl (by simp)) (by exact one_map eI_one)  (by first | omega | (simp; omega)) ?_)
           intro v554 H555 o556 m557 k558 j559
           have o560 := Own.app1 (xs := (((([]) ++ (((srt)).take k.toNat)) ++ [at_ its u]) : List Int)) (ys := ((srt)).drop k.toNat) (e := eI) (by simp) o556
           have h561 := (k558 _ no545 (by rw [h544]; simp)).trans h544
           have no562 := j559 _ no545 (by rw [h544]; simp)
           have h563 := (k558 _ no547 (by rw [h546]; simp)).trans h546
           have no564 := j559 _ no547 (by rw [h546]; simp)
           have h565 := (k558 _ no549 (by rw [h548]; simp)).trans h548
           have no566 := j559 _ no549 (by rw [h548]; simp)
           have sp568 := Own.sep o550 sp551 j559
           have o567 := Own.stay o550 sp551 k558
           have sp570 := Own.sep o552 sp553 j559
           have o569 := Own.stay o552 sp553 k558
           refine AOps.cons rfl rfl (AOp.assign (v554) rfl rfl ?_)
           refine AOps.nil ?_
           change AWP _ _ _ _ _ _
           refine AWP.region (l := [0, 1]) rfl ?_
           refine AOps.cons rfl rfl (AOp.move (v554) rfl rfl ?_)
           refine AOps.cons rfl rfl (AOp.assign (v554) rfl rfl ?_)
           refine AOps.nil ?_
           change AWP _ _ _ _ _ _
           refine AWP.region (l := [0, 1, 2]) rfl ?_
           refine AOps.cons rfl rfl (AOp.move (.int .i64 u) rfl s330 ?_)
           refine AOps.cons rfl rfl (AOp.bin (.int .i64 (u + 1)) rfl rfl rfl (iadd (by omega)) ?_)
           refine AOps.cons rfl rfl (AOp.assign (.int .i64 (u + 1)) rfl rfl ?_)
           refine AOps.nil ?_
           exact ⟨_, by omega, u + 1, (srt.take k.toNat ++ [at_ its u] ++ srt.drop k.toNat), v554, rfl, rfl, s331, s332, s333, s334, s335, s336, s337, s338, rfl, (have hx : ((((([]) ++ (((srt)).take k.toNat)) ++ [at_ its u]) ++ (((srt)).drop k.toNat)) : List Int) = (srt.take k.toNat ++ [at_ its u] ++ srt.drop k.toNat) := (by first | rfl | simp); Own.re o560 (congrArg List.length hx) (congrArg (fun l : List Int => l.map eI) hx)), o567, o569, no562, no564, no566, no342, no343, no344, no345, no346, no347, (Sep.symm sp568), (Sep.symm sp570), sp348, h561, h563, h565, m557, by omega, by omega, by exact insAt_sorted (keyLt_tot bx _) hk0 hk1 hsL hg (.inr (key_F (by omega))), by rw [take_snoc hu0 (by omega)]; exact insAt_perm hk0 hpm⟩
        ·
         refine QE.op rfl rfl (QOp.no rfl rfl rfl rfl (ble_of (decide_eq_false b353) (by decide)) rfl) ?_
         refine QE.op rfl rfl (QOp.no rfl rfl rfl rfl (ble_of (decide_eq_false b353) (by decide)) rfl) ?_
         refine QE.op rfl rfl (QOp.no rfl rfl rfl rfl (ble_of (decide_eq_false b353) (by decide)) rfl) ?_
         refine QE.op rfl rfl (QOp.no rfl rfl rfl rfl (ble_of (decide_eq_false b353) (by decide)) rfl) ?_
         refine QE.op rfl rfl (QOp.no rfl rfl rfl rfl (ble_of (decide_eq_false b353) (by decide)) rfl) ?_
         refine QE.op rfl rfl (QOp.no rfl rfl rfl rfl (ble_of (decide_eq_false b353) (by decide)) rfl) ?_
         refine QE.op rfl rfl (QOp.no rfl rfl rfl rfl (ble_of (decide_eq_false b353) (by decide)) rfl) ?_
         refine QE.op rfl rfl (QOp.no rfl rfl rfl rfl (ble_of (decide_eq_false b353) (by decide)) rfl) ?_
         refine QE.op rfl rfl (QOp.no rfl rfl rfl rfl (ble_of (decide_eq_false b353) (by decide)) rfl) ?_
         refine QE.op rfl rfl (QOp.no rfl rfl rfl rfl (ble_of (decide_eq_false b353) (by decide)) rfl) ?_
         refine QE.op rfl rfl (QOp.no rfl rfl rfl rfl (ble_of (decide_eq_false b353) (by decide)) rfl) ?_
         refine QE.op rfl rfl (QOp.no rfl rfl rfl rfl (ble_of (decide_eq_false b353) (by decide)) rfl) ?_
         refine QE.op rfl rfl (QOp.no rfl rfl rfl rfl (ble_of (decide_eq_false b353) (by decide)) rfl) ?_
         refine QE.op rfl rfl (QOp.no rfl rfl rfl rfl (ble_of (decide_eq_false b353) (by decide)) rfl) ?_
         refine QE.op rfl rfl (QOp.no rfl rfl rfl rfl (ble_of (decide_eq_false b353) (by decide)) rfl) ?_
         refine QE.op rfl rfl (QOp.no rfl rfl rfl rfl (ble_of (decide_eq_false b353) (by decide)) rfl) ?_
         refine QE.op rfl rfl (QOp.no rfl rfl rfl rfl (ble_of (decide_eq_false b353) (by decide)) rfl) ?_
         refine QE.op rfl rfl (QOp.no rfl rfl rfl rfl (ble_of (decide_eq_false b353) (by decide)) rfl) ?_
         refine QE.op rfl rfl (QOp.no rfl rfl rfl rfl (ble_of (decide_eq_false b353) (by decide)) rfl) ?_
         refine QE.op rfl rfl (QOp.no rfl rfl rfl rfl (ble_of (decide_eq_false b353) (by decide)) rfl) ?_
         refine QE.op rfl rfl (QOp.no rfl rfl rfl rfl (ble_of (decide_eq_false b353) (by decide)) rfl) ?_
         refine QE.op rfl rfl (QOp.un rfl rfl rfl rfl rfl) ?_
         refine QE.op rfl rfl (QOp.un rfl rfl rfl rfl rfl) ?_
         refine QE.op rfl rfl (QOp.un rfl rfl rfl rfl rfl) ?_
         refine QE.op rfl rfl (QOp.un rfl rfl rfl rfl rfl) ?_
         refine QE.op rfl rfl (QOp.un rfl rfl rfl rfl rfl) ?_
         refine QE.op rfl rfl (QOp.un rfl rfl rfl rfl rfl) ?_
         refine QE.op rfl rfl (QOp.un rfl rfl rfl rfl rfl) ?_
         refine QE.op rfl rfl (QOp.un rfl rfl rfl rfl rfl) ?_
         refine QE.op rfl rfl (QOp.un rfl rfl rfl rfl rfl) ?_
         refine QE.op rfl rfl (QOp.un rfl rfl rfl rfl rfl) ?_
         refine QE.op rfl rfl (QOp.un rfl rfl rfl rfl rfl) ?_
         refine QE.op rfl rfl (QOp.un rfl rfl rfl rfl rfl) ?_
         refine QE.op rfl rfl (QOp.un rfl rfl rfl rfl rfl) ?_
         refine QE.op rfl rfl (QOp.un rfl rfl rfl rfl rfl) ?_
         refine QE.op rfl rfl (QOp.un rfl rfl rfl rfl rfl) ?_
         refine QE.op rfl rfl (QOp.un rfl rfl rfl rfl rfl) ?_
         refine QE.op rfl rfl (QOp.un rfl rfl rfl rfl rfl) ?_
         refine QE.op rfl rfl (QOp.un rfl rfl rfl rfl rfl) ?_
         refine QE.op rfl rfl (QOp.un rfl rfl rfl rfl rfl) ?_
         refine QE.op rfl rfl (QOp.un rfl rfl rfl rfl rfl) ?_
         refine QE.op rfl rfl (QOp.un rfl rfl rfl rfl rfl) ?_
         refine QE.op rfl rfl (QOp.un rfl rfl rfl rfl rfl) ?_
         refine QE.op rfl rfl (QOp.un rfl rfl rfl rfl rfl) ?_
         refine QE.op rfl rfl (QOp.un rfl rfl rfl rfl rfl) ?_
         refine QE.op rfl rfl (QOp.un rfl rfl rfl rfl rfl) ?_
         refine QE.op rfl rfl (QOp.un rfl rfl rfl rfl rfl) ?_
         refine QE.op rfl rfl (QOp.un rfl rfl rfl rfl rfl) ?_
         refine QE.op rfl rfl (QOp.un rfl rfl rfl rfl rfl) ?_
         refine QE.op rfl rfl (QOp.un rfl rfl rfl rfl rfl) ?_
         refine QE.op rfl rfl (QOp.un rfl rfl rfl rfl rfl) ?_
         refine QE.op rfl rfl (QOp.un rfl rfl rfl rfl rfl) ?_
         refine QE.op rfl rfl (QOp.un rfl rfl rfl rfl rfl) ?_
         refine QE.op rfl rfl (QOp.no rfl rfl rfl rfl (ble_of (decide_eq_false b353) (by decide)) rfl) ?_
         refine QE.op rfl rfl (.inl ⟨rfl, fun f' H' hf hM => AOp.pickF (.bool false) rfl ((hf 96 rfl).trans rfl) (decide_eq_false b353) rfl ⟨rfl, hM⟩⟩) ?_
         refine QE.done fun H571 m572 => ?_
         have h573 := m572 _ _ h349
         have h574 := m572 _ _ h350
         have h575 := m572 _ _ h351
         have o576 := Own.mono o340 m572
         have o577 := Own.mono o341 m572
         have m578 := m352.trans m572
         refine AOps.nil ?_
         change AWP _ _ _ _ _ _
         refine AWP.condF rfl rfl ?_
         refine AWP.exit ?_
         change AWP _ _ _ _ _ _
         refine AWP.seq ?_
         refine AWP.region (l := [0, 1]) rfl ?_
         refine AOps.cons rfl rfl (AOp.buildSlice (cells := []) rfl u_27 ts_3 tz_3 rfl rfl rfl ?_)
         intro i579 H580 n581 h582 k583
         have e584 := ne_new h573 n581
         have e585 := ne_new h574 n581
         have e586 := ne_new h575 n581
         have z587 := Mono.free m578 n581
         have h588 := keep k583 (ne_new h573 n581) h573
         have h589 := keep k583 (ne_new h574 n581) h574
         have h590 := keep k583 (ne_new h575 n581) h575
         have o591 := Own.keep o576 k583 (Own.notnew o576 n581)
         have no592 := Own.notnew o576 n581
         have o593 := Own.keep o577 k583 (Own.notnew o577 n581)
         have no594 := Own.notnew o577 n581
         have m595 := Mono.new m578 n581 k583
         obtain ⟨v596, e597⟩ : ∃ v : AV, v = .slm i579 0 1 0 0 := ⟨_, rfl⟩
         have o598 : Own B H580 1 v596 0 [] := .inr ⟨_, _, e597, h582, z587, rfl⟩
         have no599 : NotId v596 i12 := by rw [e597]; exact NotId.slm e584
         have no600 : NotId v596 i25 := by rw [e597]; exact NotId.slm e585
         have no601 : NotId v596 i1 := by rw [e597]; exact NotId.slm e586
         have sp602 : Sep v596 v108 := by rw [e597]; exact Sep.ofNotId no592
         have sp603 : Sep v596 Iv := by rw [e597]; exact Sep.ofNotId no594
         refine AOps.cons rfl rfl (AOp.assign (v596) rfl e597.symm ?_)
         refine AOps.nil ?_
         change AWP _ _ _ _ _ _
         refine AWP.seq ?_
         refine AWP.region (l := [0, 1, 2, 3, 4, 5]) rfl ?_
         refine AOps.cons rfl rfl (AOp.move (v596) rfl rfl ?_)
         refine AOps.cons rfl rfl (AOp.move (.sl (srt).length ((srt).map eI)) rfl s339 ?_)
         refine AOps.cons rfl rfl (AOp.move (.int .i64 k) rfl s329 ?_)
         refine AOps.cons rfl rfl (AOp.sliceST1 (l := 0) (h := k) rfl rfl  sl_27 rfl (hi_of rfl) (by omega) (by omega) (by omega) ?_)
         refine AOps.cons rfl rfl (AOp.append_any (es := 1) (m := (((srt)).take k.toNat).length) (len := 0) (old := []) (cells := (((srt)).take k.toNat).map eI) rfl u_27 ts_3 tzn_3 tb_3 (by decide) ni_27 rfl o598 m595 rfl (.sl (by simp)) (by exact one_map eI_one)  (by first | omega | (simp; omega)) ?_)
         intro v604 H605 o606 m607 k608 j609
         have o610 := Own.app1 (xs := ([] : List Int)) (ys := ((srt)).take k.toNat) (e := eI) (by simp) o606
         have h611 := (k608 _ no599 (by rw [h588]; simp)).trans h588
         have no612 := j609 _ no599 (by rw [h588]; simp)
         have h613 := (k608 _ no600 (by rw [h589]; simp)).trans h589
         have no614 := j609 _ no600 (by rw [h589]; simp)
         have h615 := (k608 _ no601 (by rw [h590]; simp)).trans h590
         have no616 := j609 _ no601 (by rw [h590]; simp)
         have sp618 := Own.sep o591 (Sep.symm sp602) j609
         have o617 := Own.stay o591 (Sep.symm sp602) k608
         have sp620 := Own.sep o593 (Sep.symm sp603) j609
         have o619 := Own.stay o593 (Sep.symm sp603) k608
         refine AOps.cons rfl rfl (AOp.assign (v604) rfl rfl ?_)
         refine AOps.nil ?_
         change AWP _ _ _ _ _ _
         refine AWP.seq ?_
         refine AWP.region (l := [0, 1, 2, 3, 4, 5, 6, 7]) rfl ?_
         refine AOps.cons rfl rfl (AOp.move (v604) rfl rfl ?_)
         refine AOps.cons rfl rfl (AOp.move (.sl its.length (its.map eI)) rfl s332 ?_)
         refine AOps.cons rfl rfl (AOp.move (.int .i64 u) rfl s330 ?_)
         refine AOps.cons rfl rfl (AOp.indexAddrS rfl rfl rfl sl_27 (by omega) (by omega) ?_)
         refine AOps.cons rfl rfl (AOp.loadF (.int .i64 (at_ its u)) rfl rfl ty_3 (ld1 (by omega) (by omega)) ?_)
         refine AOps.cons rfl rfl (AOp.buildSlice (cells := [.int .i64 (at_ its u)]) rfl u_27 ts_3 tz_3 rfl rfl rfl ?_)
         intro i621 H622 n623 h624 k625
         have e626 := ne_new h611 n623
         have e627 := ne_new h613 n623
         have e628 := ne_new h615 n623
         have z629 := Mono.free m607 n623
         have h630 := keep k625 (ne_new h611 n623) h611
         have h631 := keep k625 (ne_new h613 n623) h613
         have h632 := keep k625 (ne_new h615 n623) h615
         have o633 := Own.keep o617 k625 (Own.notnew o617 n623)
         have no634 := Own.notnew o617 n623
         have o635 := Own.keep o619 k625 (Own.notnew o619 n623)
         have no636 := Own.notnew o619 n623
         have o637 := Own.keep o610 k625 (Own.notnew o610 n623)
         have no638 := Own.notnew o610 n623
         have m639 := Mono.new m607 n623 k625
         refine AOps.cons rfl rfl (AOp.append_own (es := 1) (m := 1) (len := ((([]) ++ (((srt)).take k.toNat)).length)) (old := (([]) ++ (((srt)).take k.toNat)).map eI) (cells := [.int .i64 (at_ its u)]) rfl u_27 ts_3 tzn_3 tb_3 (by decide) ni_27 rfl o637 m639 rfl (.slm h624 rfl) (one_of rfl) (by decide) (by first | omega | (simp; omega)) ?_)
         intro v640 H641 o642 m643 k644 j645
         have o646 := Own.snoc1 (xs := ((([]) ++ (((srt)).take k.toNat)) : List Int)) (y := at_ its u) (e := eI) (by simp) o642
         have h647 := (k644 _ no612 (by rw [h630]; simp)).trans h630
         have no648 := j645 _ no612 (by rw [h630]; simp)
         have h649 := (k644 _ no614 (by rw [h631]; simp)).trans h631
         have no650 := j645 _ no614 (by rw [h631]; simp)
         have h651 := (k644 _ no616 (by rw [h632]; simp)).trans h632
         have no652 := j645 _ no616 (by rw [h632]; simp)
         have sp654 := Own.sep o633 sp618 j645
         have o653 := Own.stay o633 sp618 k644
         have sp656 := Own.sep o635 sp620 j645
         have o655 := Own.stay o635 sp620 k644
         refine AOps.cons rfl rfl (AOp.assign (v640) rfl rfl ?_)
         refine AOps.nil ?_
         change AWP _ _ _ _ _ _
         refine AWP.seq ?_
         refine AWP.region (l := [0, 1, 2, 3, 4, 5]) rfl ?_
         refine AOps.cons rfl rfl (AOp.move (v640) rfl rfl ?_)
         refine AOps.cons rfl rfl (AOp.move (.sl (srt).length ((srt).map eI)) rfl s339 ?_)
         refine AOps.cons rfl rfl (AOp.move (.int .i64 k) rfl s329 ?_)
         refine AOps.cons rfl rfl (AOp.sliceSD1 (l := k) (h := (((srt).length) : Int)) rfl rfl  sl_27 (lo_of rfl) rfl (by omega) (by omega) (by omega) rfl ?_)
         refine AOps.cons rfl rfl (AOp.append_any (es := 1) (m := (((srt)).drop k.toNat).length) (len := (((([]) ++ (((srt)).take k.toNat)) ++ [at_ its u]).length)) (old := ((([]) ++ (((srt)).take k.toNat)) ++ [at_ its u]).map eI) (cells := (((srt)).drop k.toNat).map eI) rfl u_27 ts_3 tzn_3 tb_3 (by decide) ni_27 rfl o646 m643 rfl (.sl (by simp)) (by exact one_map eI_one)  (by first | omega | (simp; omega)) ?_)
         intro v657 H658 o659 m660 k661 j662
         have o663 := Own.app1 (xs := (((([]) ++ (((srt)).take k.toNat)) ++ [at_ its u]) : List Int)) (ys := ((srt)).drop k.toNat) (e := eI) (by simp) o659
         have h664 := (k661 _ no648 (by rw [h647]; simp)).trans h647
         have no665 := j662 _ no648 (by rw [h647]; simp)
         have h666 := (k661 _ no650 (by rw [h649]; simp)).trans h649
         have no667 := j662 _ no650 (by rw [h649]; simp)
         have h668 := (k661 _ no652 (by rw [h651]; simp)).trans h651
         have no669 := j662 _ no652 (by rw [h651]; simp)
         have sp671 := Own.sep o653 sp654 j662
         have o670 := Own.stay o653 sp654 k661
         have sp673 := Own.sep o655 sp656 j662
         have o672 := Own.stay o655 sp656 k661
         refine AOps.cons rfl rfl (AOp.assign (v657) rfl rfl ?_)
         refine AOps.nil ?_
         change AWP _ _ _ _ _ _
         refine AWP.region (l := [0, 1]) rfl ?_
         refine AOps.cons rfl rfl (AOp.move (v657) rfl rfl ?_)
         refine AOps.cons rfl rfl (AOp.assign (v657) rfl rfl ?_)
         refine AOps.nil ?_
         change AWP _ _ _ _ _ _
         refine AWP.region (l := [0, 1, 2]) rfl ?_
         refine AOps.cons rfl rfl (AOp.move (.int .i64 u) rfl s330 ?_)
         refine AOps.cons rfl rfl (AOp.bin (.int .i64 (u + 1)) rfl rfl rfl (iadd (by omega)) ?_)
         refine AOps.cons rfl rfl (AOp.assign (.int .i64 (u + 1)) rfl rfl ?_)
         refine AOps.nil ?_
         exact ⟨_, by omega, u + 1, (srt.take k.toNat ++ [at_ its u] ++ srt.drop k.toNat), v657, rfl, rfl, s331, s332, s333, s334, s335, s336, s337, s338, rfl, (have hx : ((((([]) ++ (((srt)).take k.toNat)) ++ [at_ its u]) ++ (((srt)).drop k.toNat)) : List Int) = (srt.take k.toNat ++ [at_ its u] ++ srt.drop k.toNat) := (by first | rfl | simp); Own.re o663 (congrArg List.length hx) (congrArg (fun l : List Int => l.map eI) hx)), o670, o672, no665, no667, no669, no342, no343, no344, no345, no346, no347, (Sep.symm sp671), (Sep.symm sp673), sp348, h664, h666, h668, m660, by omega, by omega, by exact insAt_sorted (keyLt_tot bx _) hk0 hk1 hsL hg (.inl (by omega)), by rw [take_snoc hu0 (by omega)]; exact insAt_perm hk0 hpm⟩
      ·
       refine AWP.condF rfl (decide_eq_false b317) ?_
       refine AWP.exit ?_
       change AWP _ _ _ _ _ _
       refine AWP.seq ?_
       refine AWP.frz 15 o298 s297 m316 fun H674 m675 k676 => ?_
       have h677 := (k676 _ no301).trans h313
       have h678 := (k676 _ no302).trans h314
       have h679 := (k676 _ no303).trans h315
       have o680 := Own.stay o299 (Sep.symm sp310) (fun i hi _ => k676 i hi)
       have o681 := Own.stay o300 (Sep.symm sp311) (fun i hi _ => k676 i hi)
       have hsrt := srt_done (bx := bx) (a := (axisR bx its)) (show (its.length : Int) ≤ u by omega) hsL hpm
       have hsl : srt.length = its.length := by rw [hsrt, isort_len]
       obtain ⟨g_, hg_⟩ : ∃ g_, g_ + 1 = f := grow_pos hlf hp (by have := b132; omega)
       have hge : (g_ : Int) = (f : Int) - 1 := by omega
       obtain ⟨htk, hdk, htne, hdne, htp, hdp, htl, hdl, htin, hdin⟩ := grow_halves (bx := bx) (a := (axisR bx its)) hg_ hp hl hin (by omega)
       rw [← hsrt] at htk hdk htne hdne htp hdp htl hdl htin hdin
       have hgt := growT_size bx leaf hlf g_ _ htne
       have hgd := growT_size bx leaf hlf g_ _ hdne
       rw [htk] at hgt
       rw [hdk] at hgd
       refine AWP.region (l := [0, 1, 2, 3, 4]) rfl ?_
       refine AOps.cons rfl rfl (AOp.move (.sl (srt).length ((srt).map eI)) rfl rfl ?_)
       refine AOps.cons rfl rfl (AOp.len (m := (srt).length) rfl rfl (.inr (.inl ⟨_, rfl⟩)) u_27 ?_)
       refine AOps.cons rfl rfl (AOp.bin (.int .i64 ((((srt).length) : Int) + 1)) rfl rfl rfl (iadd (by omega)) ?_)
       refine AOps.cons rfl rfl (AOp.quoP rfl rfl rfl (by omega) ?_)
       refine AOps.cons rfl rfl (AOp.assign (.int .i64 (((((srt).length) : Int) + 1) / 2)) rfl rfl ?_)
       refine AOps.nil ?_
       change AWP _ _ _ _ _ _
       refine AWP.seq ?_
       refine AWP.region (l := [0, 1, 2, 3]) rfl ?_
       refine AOps.cons rfl rfl (AOp.fieldAddr rfl s293 fl_29_0 ?_ (hid := ⟨_, h679⟩))
       refine AOps.cons rfl rfl (AOp.load (v108) rfl rfl ty_26 h679 rfl ?_)
       refine AOps.cons rfl rfl (AOp.len_own (m := ((N ++ [(NodeT.mk (hullFrom bx (at_ bx (at_ its 0)) (its.take i.toNat)) 0 0 0 0)]).length)) rfl rfl o680 u_26 ?_)
       refine AOps.cons rfl rfl (AOp.assign (.int .i64 (((N ++ [(NodeT.mk (hullFrom bx (at_ bx (at_ its 0)) (its.take i.toNat)) 0 0 0 0)]).length) : Int)) rfl rfl ?_)
       refine AOps.nil ?_
       change AWP _ _ _ _ _ _
       refine AWP.seq ?_
       refine AWP.region_quiet mixed (by kernel_rfl) 8 [8, 9] rfl (by kernel_rfl) (Mono H674) (Mono.refl _) ?_
       refine QE.op rfl rfl (.inl ⟨rfl, fun f' H' hf hM => AOp.load (.agg [v108, Iv]) rfl ((hf 5 rfl).trans s293) ty_29 (hM _ _ h679) rfl ⟨rfl, hM⟩⟩) ?_
       refine QE.op rfl rfl (.inl ⟨rfl, fun f' H' hf hM => AOp.move (.sl bx.length (bx.flatMap eBox)) rfl ((hf 1 rfl).trans s289) ⟨rfl, hM⟩⟩) ?_
       refine QE.op rfl rfl (.inl ⟨rfl, fun f' H' hf hM => AOp.move (.sl (srt).length ((srt).map eI)) rfl ((hf 15 rfl).trans rfl) ⟨rfl, hM⟩⟩) ?_
       refine QE.op rfl rfl (.inl ⟨rfl, fun f' H' hf hM => AOp.move (.int .i64 (((((srt).length) : Int) + 1) / 2)) rfl ((hf 19 rfl).trans rfl) ⟨rfl, hM⟩⟩) ?_
       refine QE.op rfl rfl (.inl ⟨rfl, fun f' H' hf hM => AOp.sliceST1 (l := 0) (h := ((((srt).length) : Int) + 1) / 2) rfl ((hf 182 rfl).trans rfl)  sl_27 rfl (hi_of ((hf 183 rfl).trans rfl)) (by omega) (by omega) (by omega) ⟨rfl, hM⟩⟩) ?_
       refine QE.op rfl rfl (.inl ⟨rfl, fun f' H' hf hM => AOp.move (.int .i64 leaf) rfl ((hf 3 rfl).trans s291) ⟨rfl, hM⟩⟩) ?_
       refine QE.op rfl rfl (.inl ⟨rfl, fun f' H' hf hM => AOp.move (.int .i64 (f : Int)) rfl ((hf 4 rfl).trans s292) ⟨rfl, hM⟩⟩) ?_
       refine QE.op rfl rfl (.inl ⟨rfl, fun f' H' hf hM => AOp.bin (.int .i64 ((f : Int) - 1)) rfl ((hf 186 rfl).trans rfl) rfl (isub (by omega)) ⟨rfl, hM⟩⟩) ?_
       refine QE.done fun H682 m683 => ?_
       have h684 := m683 _ _ h677
       have h685 := m683 _ _ h678
       have h686 := m683 _ _ h679
       have o687 := Own.mono o680 m683
       have o688 := Own.mono o681 m683
       have m689 := m675.trans m683
       have g690 : GT B (N ++ [(NodeT.mk (hullFrom bx (at_ bx (at_ its 0)) (its.take i.toNat)) 0 0 0 0)]) I v108 Iv H682 := ⟨m689, o687, o688, sp312⟩
       have g691 := GT.down g690
       have he1 : ((srt)).take (((((srt).length) : Int) + 1) / 2).toNat = (srt.take ((its.length + 1) / 2)) := by congr 1; omega
       have hN692 := ih g_ hg_ (srt.take ((its.length + 1) / 2)) htne htp htl htin (B := baseOf H682 [] v108 Iv) (H := H682) (by first | omega | (simp only [List.length_append, List.length_cons, List.length_nil, flatN_len]; omega)) (by first | omega | (simp only [List.length_append, growT_len]; omega)) g691
       rw [← he1, hge] at hN692
       refine AOps.cons rfl rfl (AOp.xcall («as» := [.agg [v108, Iv], .sl bx.length (bx.flatMap eBox), .sl (((srt)).take (((((srt).length) : Int) + 1) / 2).toNat).length ((((srt)).take (((((srt).length) : Int) + 1) / 2).toNat).map eI), .int .i64 leaf, .int .i64 ((f : Int) - 1)]) rfl rfl (rfl) tf_22 hN692 ?_)
       rw [← he1] at hgt
       have htk2 := htk
       rw [← he1] at htk2
       rintro _ H693 ⟨v694, v695, rfl, g696⟩
       have g697 := GT.up g690 g696
       have q698 := GT.other g696 h684 no304 no307
       have q699 := GT.other g696 h685 no305 no308
       have q700 := GT.other g696 h686 no306 no309
       refine AOps.cons rfl rfl (AOp.store' (cells' := [v694, v695]) (.agg [v694, v695]) s293 rfl ts_29 q700.1 (by simp only [AV.cells, List.all_cons, List.all_nil, Own.one_ g697.oN, Own.one_ g697.oI]; rfl) rfl rfl rfl ?_)
       intro H701 h702 k703
       have h704 := keep k703 (Ne.symm e17) q698.1
       have h705 := keep k703 (Ne.symm e30) q699.1
       have o707 := Own.keep g697.oN k703 q700.2.1
       have o708 := Own.keep g697.oI k703 q700.2.2
       have m709 := Mono.set g697.hm z6 k703
       refine AOps.nil ?_
       change AWP _ _ _ _ _ _
       refine AWP.seq ?_
       refine AWP.region (l := [0, 1, 2, 3]) rfl ?_
       refine AOps.cons rfl rfl (AOp.fieldAddr rfl s293 fl_29_0 ?_ (hid := ⟨_, h702⟩))
       refine AOps.cons rfl rfl (AOp.load (v694) rfl rfl ty_26 h702 rfl ?_)
       refine AOps.cons rfl rfl (AOp.len_own (m := (((N ++ [(NodeT.mk (hullFrom bx (at_ bx (at_ its 0)) (its.take i.toNat)) 0 0 0 0)]) ++ flatN (growT bx leaf g_ (((srt)).take (((((srt).length) : Int) + 1) / 2).toNat)) (N ++ [(NodeT.mk (hullFrom bx (at_ bx (at_ its 0)) (its.take i.toNat)) 0 0 0 0)]).length I.length).length)) rfl rfl o707 u_26 ?_)
       refine AOps.cons rfl rfl (AOp.assign (.int .i64 ((((N ++ [(NodeT.mk (hullFrom bx (at_ bx (at_ its 0)) (its.take i.toNat)) 0 0 0 0)]) ++ flatN (growT bx leaf g_ (((srt)).take (((((srt).length) : Int) + 1) / 2).toNat)) (N ++ [(NodeT.mk (hullFrom bx (at_ bx (at_ its 0)) (its.take i.toNat)) 0 0 0 0)]).length I.length).length) : Int)) rfl rfl ?_)
       refine AOps.nil ?_
       change AWP _ _ _ _ _ _
       refine AWP.seq ?_
       refine AWP.region_quiet mixed (by kernel_rfl) 8 [8, 9] rfl (by kernel_rfl) (Mono H701) (Mono.refl _) ?_
       refine QE.op rfl rfl (.inl ⟨rfl, fun f' H' hf hM => AOp.load (.agg [v694, v695]) rfl ((hf 5 rfl).trans s293) ty_29 (hM _ _ h702) rfl ⟨rfl, hM⟩⟩) ?_
       refine QE.op rfl rfl (.inl ⟨rfl, fun f' H' hf hM => AOp.move (.sl bx.length (bx.flatMap eBox)) rfl ((hf 1 rfl).trans s289) ⟨rfl, hM⟩⟩) ?_
       refine QE.op rfl rfl (.inl ⟨rfl, fun f' H' hf hM => AOp.move (.sl (srt).length ((srt).map eI)) rfl ((hf 15 rfl).trans rfl) ⟨rfl, hM⟩⟩) ?_
       refine QE.op rfl rfl (.inl ⟨rfl, fun f' H' hf hM => AOp.move (.int .i64 (((((srt).length) : Int) + 1) / 2)) rfl ((hf 19 rfl).trans rfl) ⟨rfl, hM⟩⟩) ?_
       refine QE.op rfl rfl (.inl ⟨rfl, fun f' H' hf hM => AOp.sliceSD1 (l := ((((srt).length) : Int) + 1) / 2) (h := (((srt).length) : Int)) rfl ((hf 194 rfl).trans rfl)  sl_27 (lo_of ((hf 195 rfl).trans rfl)) rfl (by omega) (by omega) (by omega) rfl ⟨rfl, hM⟩⟩) ?_
       refine QE.op rfl rfl (.inl ⟨rfl, fun f' H' hf hM => AOp.move (.int .i64 leaf) rfl ((hf 3 rfl).trans s291) ⟨rfl, hM⟩⟩) ?_
       refine QE.op rfl rfl (.inl ⟨rfl, fun f' H' hf hM => AOp.move (.int .i64 (f : Int)) rfl ((hf 4 rfl).trans s292) ⟨rfl, hM⟩⟩) ?_
       refine QE.op rfl rfl (.inl ⟨rfl, fun f' H' hf hM => AOp.bin (.int .i64 ((f : Int) - 1)) rfl ((hf 198 rfl).trans rfl) rfl (isub (by omega)) ⟨rfl, hM⟩⟩) ?_
       refine QE.done fun H710 m711 => ?_
       have h712 := m711 _ _ h704
       have h713 := m711 _ _ h705
       have h714 := m711 _ _ h702
       have o715 := Own.mono o707 m711
       have o716 := Own.mono o708 m711
       have m717 := m709.trans m711
       have g718 : GT B ((N ++ [(NodeT.mk (hullFrom bx (at_ bx (at_ its 0)) (its.take i.toNat)) 0 0 0 0)]) ++ flatN (growT bx leaf g_ (((srt)).take (((((srt).length) : Int) + 1) / 2).toNat)) (N ++ [(NodeT.mk (hullFrom bx (at_ bx (at_ its 0)) (its.take i.toNat)) 0 0 0 0)]).length I.length) (I ++ (growT bx leaf g_ (((srt)).take (((((srt).length) : Int) + 1) / 2).toNat)).items) v694 v695 H710 := ⟨m717, o715, o716, g697.sep⟩
       have g719 := GT.down g718
       have he2 : ((srt)).drop (((((srt).length) : Int) + 1) / 2).toNat = (srt.drop ((its.length + 1) / 2)) := by congr 1; omega
       have hN720 := ih g_ hg_ (srt.drop ((its.length + 1) / 2)) hdne hdp hdl hdin (B := baseOf H710 [] v694 v695) (H := H710) (by first | omega | (simp only [List.length_append, List.length_cons, List.length_nil, flatN_len, growT_len]; omega)) (by first | omega | (simp only [List.length_append, growT_len]; omega)) g719
       rw [← he2, hge] at hN720
       refine AOps.cons rfl rfl (AOp.xcall («as» := [.agg [v694, v695], .sl bx.length (bx.flatMap eBox), .sl (((srt)).drop (((((srt).length) : Int) + 1) / 2).toNat).length ((((srt)).drop (((((srt).length) : Int) + 1) / 2).toNat).map eI), .int .i64 leaf, .int .i64 ((f : Int) - 1)]) rfl rfl (rfl) tf_22 hN720 ?_)
       rintro _ H721 ⟨v722, v723, rfl, g724⟩
       have g725 := GT.up g718 g724
       have q726 := GT.other g724 h712 q698.2.1 q698.2.2
       have q727 := GT.other g724 h713 q699.2.1 q699.2.2
       have q728 := GT.other g724 h714 q700.2.1 q700.2.2
       refine AOps.cons rfl rfl (AOp.store' (cells' := [v722, v723]) (.agg [v722, v723]) s293 rfl ts_29 q728.1 (by simp only [AV.cells, List.all_cons, List.all_nil, Own.one_ g725.oN, Own.one_ g725.oI]; rfl) rfl rfl rfl ?_)
       intro H729 h730 k731
       have h732 := keep k731 (Ne.symm e17) q726.1
       have h733 := keep k731 (Ne.symm e30) q727.1
       have o735 := Own.keep g725.oN k731 q728.2.1
       have o736 := Own.keep g725.oI k731 q728.2.2
       have m737 := Mono.set g725.hm z6 k731
       refine AOps.nil ?_
       change AWP _ _ _ _ _ _
       refine AWP.seq ?_
       refine AWP.region (l := [0, 1, 2, 3, 4, 5, 6]) rfl ?_
       refine AOps.cons rfl rfl (AOp.fieldAddr rfl s293 fl_29_0 ?_ (hid := ⟨_, h730⟩))
       refine AOps.cons rfl rfl (AOp.load (v722) rfl rfl ty_26 h730 rfl ?_)
       refine AOps.cons rfl rfl (AOp.move (.int .i64 (N.length : Int)) rfl s295 ?_)
       refine AOps.cons rfl rfl (AOp.move (.int .i64 (((N ++ [(NodeT.mk (hullFrom bx (at_ bx (at_ its 0)) (its.take i.toNat)) 0 0 0 0)]).length) : Int)) rfl rfl ?_)
       obtain ⟨i738, ver739, e740, h741, _, _⟩ := Own.pos o735 (by first | omega | (simp only [List.length_set, List.length_append, List.length_cons, List.length_nil]; omega))
       refine AOps.cons rfl rfl (AOp.indexAddrO rfl (Eq.trans rfl e740) rfl sl_26 (by first | omega | (simp only [List.length_set, List.length_append, List.length_cons, List.length_nil]; omega)) (by first | omega | (simp only [List.length_set, List.length_append, List.length_cons, List.length_nil]; omega)) h741 ?_)
       refine AOps.cons rfl rfl (AOp.fieldAddr rfl rfl fl_42_1 ?_ (hid := ⟨_, h741⟩))
       refine AOps.cons rfl rfl (AOp.store' (cells' := ((((N ++ [(NodeT.mk (hullFrom bx (at_ bx (at_ its 0)) (its.take i.toNat)) 0 0 0 0)]) ++ flatN (growT bx leaf g_ (((srt)).take (((((srt).length) : Int) + 1) / 2).toNat)) (N ++ [(NodeT.mk (hullFrom bx (at_ bx (at_ its 0)) (its.take i.toNat)) 0 0 0 0)]).length I.length) ++ flatN (growT bx leaf g_ (((srt)).drop (((((srt).length) : Int) + 1) / 2).toNat)) ((N ++ [(NodeT.mk (hullFrom bx (at_ bx (at_ its 0)) (its.take i.toNat)) 0 0 0 0)]) ++ flatN (growT bx leaf g_ (((srt)).take (((((srt).length) : Int) + 1) / 2).toNat)) (N ++ [(NodeT.mk (hullFrom bx (at_ bx (at_ its 0)) (its.take i.toNat)) 0 0 0 0)]).length I.length).length (I ++ (growT bx leaf g_ (((srt)).take (((((srt).length) : Int) + 1) / 2).toNat)).items).length).set (N.length : Int).toNat (NodeT.mk ((at_ (((N ++ [(NodeT.mk (hullFrom bx (at_ bx (at_ its 0)) (its.take i.toNat)) 0 0 0 0)]) ++ flatN (growT bx leaf g_ (((srt)).take (((((srt).length) : Int) + 1) / 2).toNat)) (N ++ [(NodeT.mk (hullFrom bx (at_ bx (at_ its 0)) (its.take i.toNat)) 0 0 0 0)]).length I.length) ++ flatN (growT bx leaf g_ (((srt)).drop (((((srt).length) : Int) + 1) / 2).toNat)) ((N ++ [(NodeT.mk (hullFrom bx (at_ bx (at_ its 0)) (its.take i.toNat)) 0 0 0 0)]) ++ flatN (growT bx leaf g_ (((srt)).take (((((srt).length) : Int) + 1) / 2).toNat)) (N ++ [(NodeT.mk (hullFrom bx (at_ bx (at_ its 0)) (its.take i.toNat)) 0 0 0 0)]).length I.length).length (I ++ (growT bx leaf g_ (((srt)).take (((((srt).length) : Int) + 1) / 2).toNat)).items).length) (N.length : Int)).Box) (((N ++ [(NodeT.mk (hullFrom bx (at_ bx (at_ its 0)) (its.take i.toNat)) 0 0 0 0)]).length) : Int) ((at_ (((N ++ [(NodeT.mk (hullFrom bx (at_ bx (at_ its 0)) (its.take i.toNat)) 0 0 0 0)]) ++ flatN (growT bx leaf g_ (((srt)).take (((((srt).length) : Int) + 1) / 2).toNat)) (N ++ [(NodeT.mk (hullFrom bx (at_ bx (at_ its 0)) (its.take i.toNat)) 0 0 0 0)]).length I.length) ++ flatN (growT bx leaf g_ (((srt)).drop (((((srt).length) : Int) + 1) / 2).toNat)) ((N ++ [(NodeT.mk (hullFrom bx (at_ bx (at_ its 0)) (its.take i.toNat)) 0 0 0 0)]) ++ flatN (growT bx leaf g_ (((srt)).take (((((srt).length) : Int) + 1) / 2).toNat)) (N ++ [(NodeT.mk (hullFrom bx (at_ bx (at_ its 0)) (its.take i.toNat)) 0 0 0 0)]).length I.length).length (I ++ (growT bx leaf g_ (((srt)).take (((((srt).length) : Int) + 1) / 2).toNat)).items).length) (N.length : Int)).Right) ((at_ (((N ++ [(NodeT.mk (hullFrom bx (at_ bx (at_ its 0)) (its.take i.toNat)) 0 0 0 0)]) ++ flatN (growT bx leaf g_ (((srt)).take (((((srt).length) : Int) + 1) / 2).toNat)) (N ++ [(NodeT.mk (hullFrom bx (at_ bx (at_ its 0)) (its.take i.toNat)) 0 0 0 0)]).length I.length) ++ flatN (growT bx leaf g_ (((srt)).drop (((((srt).length) : Int) + 1) / 2).toNat)) ((N ++ [(NodeT.mk (hullFrom bx (at_ bx (at_ its 0)) (its.take i.toNat)) 0 0 0 0)]) ++ flatN (growT bx leaf g_ (((srt)).take (((((srt).length) : Int) + 1) / 2).toNat)) (N ++ [(NodeT.mk (hullFrom bx (at_ bx (at_ its 0)) (its.take i.toNat)) 0 0 0 0)]).length I.length).length (I ++ (growT bx leaf g_ (((srt)).take (((((srt).length) : Int) + 1) / 2).toNat)).items).length) (N.length : Int)).First) ((at_ (((N ++ [(NodeT.mk (hullFrom bx (at_ bx (at_ its 0)) (its.take i.toNat)) 0 0 0 0)]) ++ flatN (growT bx leaf g_ (((srt)).take (((((srt).length) : Int) + 1) / 2).toNat)) (N ++ [(NodeT.mk (hullFrom bx (at_ bx (at_ its 0)) (its.take i.toNat)) 0 0 0 0)]).length I.length) ++ flatN (growT bx leaf g_ (((srt)).drop (((((srt).length) : Int) + 1) / 2).toNat)) ((N ++ [(NodeT.mk (hullFrom bx (at_ bx (at_ its 0)) (its.take i.toNat)) 0 0 0 0)]) ++ flatN (growT bx leaf g_ (((srt)).take (((((srt).length) : Int) + 1) / 2).toNat)) (N ++ [(NodeT.mk (hullFrom bx (at_ bx (at_ its 0)) (its.take i.toNat)) 0 0 0 0)]).length I.length).length (I ++ (growT bx leaf g_ (((srt)).take (((((srt).length) : Int) + 1) / 2).toNat)).items).length) (N.length : Int)).Count))).flatMap eNode) (.int .i64 (((N ++ [(NodeT.mk (hullFrom bx (at_ bx (at_ its 0)) (its.take i.toNat)) 0 0 0 0)]).length) : Int)) rfl rfl ts_3 (Own.at_ e740 o735).1 rfl rfl (blelen (flatMap_length eNode_len _) (by first | omega | (simp only [List.length_set, List.length_append, List.length_cons, List.length_nil]; omega))) (wr_setF (xs := (((N ++ [(NodeT.mk (hullFrom bx (at_ bx (at_ its 0)) (its.take i.toNat)) 0 0 0 0)]) ++ flatN (growT bx leaf g_ (((srt)).take (((((srt).length) : Int) + 1) / 2).toNat)) (N ++ [(NodeT.mk (hullFrom bx (at_ bx (at_ its 0)) (its.take i.toNat)) 0 0 0 0)]).length I.length) ++ flatN (growT bx leaf g_ (((srt)).drop (((((srt).length) : Int) + 1) / 2).toNat)) ((N ++ [(NodeT.mk (hullFrom bx (at_ bx (at_ its 0)) (its.take i.toNat)) 0 0 0 0)]) ++ flatN (growT bx leaf g_ (((srt)).take (((((srt).length) : Int) + 1) / 2).toNat)) (N ++ [(NodeT.mk (hullFrom bx (at_ bx (at_ its 0)) (its.take i.toNat)) 0 0 0 0)]).length I.length).length (I ++ (growT bx leaf g_ (((srt)).take (((((srt).length) : Int) + 1) / 2).toNat)).items).length)) (i := (N.length : Int)) (v := .int .i64 (((N ++ [(NodeT.mk (hullFrom bx (at_ bx (at_ its 0)) (its.take i.toNat)) 0 0 0 0)]).length) : Int)) (y := (NodeT.mk ((at_ (((N ++ [(NodeT.mk (hullFrom bx (at_ bx (at_ its 0)) (its.take i.toNat)) 0 0 0 0)]) ++ flatN (growT bx leaf g_ (((srt)).take (((((srt).length) : Int) + 1) / 2).toNat)) (N ++ [(NodeT.mk (hullFrom bx (at_ bx (at_ its 0)) (its.take i.toNat)) 0 0 0 0)]).length I.length) ++ flatN (growT bx leaf g_ (((srt)).drop (((((srt).length) : Int) + 1) / 2).toNat)) ((N ++ [(NodeT.mk (hullFrom bx (at_ bx (at_ its 0)) (its.take i.toNat)) 0 0 0 0)]) ++ flatN (growT bx leaf g_ (((srt)).take (((((srt).length) : Int) + 1) / 2).toNat)) (N ++ [(NodeT.mk (hullFrom bx (at_ bx (at_ its 0)) (its.take i.toNat)) 0 0 0 0)]).length I.length).length (I ++ (growT bx leaf g_ (((srt)).take (((((srt).length) : Int) + 1) / 2).toNat)).items).length) (N.length : Int)).Box) (((N ++ [(NodeT.mk (hullFrom bx (at_ bx (at_ its 0)) (its.take i.toNat)) 0 0 0 0)]).length) : Int) ((at_ (((N ++ [(NodeT.mk (hullFrom bx (at_ bx (at_ its 0)) (its.take i.toNat)) 0 0 0 0)]) ++ flatN (growT bx leaf g_ (((srt)).take (((((srt).length) : Int) + 1) / 2).toNat)) (N ++ [(NodeT.mk (hullFrom bx (at_ bx (at_ its 0)) (its.take i.toNat)) 0 0 0 0)]).length I.length) ++ flatN (growT bx leaf g_ (((srt)).drop (((((srt).length) : Int) + 1) / 2).toNat)) ((N ++ [(NodeT.mk (hullFrom bx (at_ bx (at_ its 0)) (its.take i.toNat)) 0 0 0 0)]) ++ flatN (growT bx leaf g_ (((srt)).take (((((srt).length) : Int) + 1) / 2).toNat)) (N ++ [(NodeT.mk (hullFrom bx (at_ bx (at_ its 0)) (its.take i.toNat)) 0 0 0 0)]).length I.length).length (I ++ (growT bx leaf g_ (((srt)).take (((((srt).length) : Int) + 1) / 2).toNat)).items).length) (N.length : Int)).Right) ((at_ (((N ++ [(NodeT.mk (hullFrom bx (at_ bx (at_ its 0)) (its.take i.toNat)) 0 0 0 0)]) ++ flatN (growT bx leaf g_ (((srt)).take (((((srt).length) : Int) + 1) / 2).toNat)) (N ++ [(NodeT.mk (hullFrom bx (at_ bx (at_ its 0)) (its.take i.toNat)) 0 0 0 0)]).length I.length) ++ flatN (growT bx leaf g_ (((srt)).drop (((((srt).length) : Int) + 1) / 2).toNat)) ((N ++ [(NodeT.mk (hullFrom bx (at_ bx (at_ its 0)) (its.take i.toNat)) 0 0 0 0)]) ++ flatN (growT bx leaf g_ (((srt)).take (((((srt).length) : Int) + 1) / 2).toNat)) (N ++ [(NodeT.mk (hullFrom bx (at_ bx (at_ its 0)) (its.take i.toNat)) 0 0 0 0)]).length I.length).length (I ++ (growT bx leaf g_ (((srt)).take (((((srt).length) : Int) + 1) / 2).toNat)).items).length) (N.length : Int)).First) ((at_ (((N ++ [(NodeT.mk (hullFrom bx (at_ bx (at_ its 0)) (its.take i.toNat)) 0 0 0 0)]) ++ flatN (growT bx leaf g_ (((srt)).take (((((srt).length) : Int) + 1) / 2).toNat)) (N ++ [(NodeT.mk (hullFrom bx (at_ bx (at_ its 0)) (its.take i.toNat)) 0 0 0 0)]).length I.length) ++ flatN (growT bx leaf g_ (((srt)).drop (((((srt).length) : Int) + 1) / 2).toNat)) ((N ++ [(NodeT.mk (hullFrom bx (at_ bx (at_ its 0)) (its.take i.toNat)) 0 0 0 0)]) ++ flatN (growT bx leaf g_ (((srt)).take (((((srt).length) : Int) + 1) / 2).toNat)) (N ++ [(NodeT.mk (hullFrom bx (at_ bx (at_ its 0)) (its.take i.toNat)) 0 0 0 0)]).length I.length).length (I ++ (growT bx leaf g_ (((srt)).take (((((srt).length) : Int) + 1) / 2).toNat)).items).length) (N.length : Int)).Count))) eNode_len (by omega) (by first | omega | (simp only [List.length_set, List.length_append, List.length_cons, List.length_nil]; omega)) (by decide) rfl) ?_)
       intro H742 h743 k744
       have h745 := (k744 _ (NotId.ne q726.2.1 e740)).trans h732
       have h746 := (k744 _ (NotId.ne q727.2.1 e740)).trans h733
       have h747 := (k744 _ (NotId.ne q728.2.1 e740)).trans h730
       have o748 := Own.store e740 o735 h743 (len' := (((((N ++ [(NodeT.mk (hullFrom bx (at_ bx (at_ its 0)) (its.take i.toNat)) 0 0 0 0)]) ++ flatN (growT bx leaf g_ (((srt)).take (((((srt).length) : Int) + 1) / 2).toNat)) (N ++ [(NodeT.mk (hullFrom bx (at_ bx (at_ its 0)) (its.take i.toNat)) 0 0 0 0)]).length I.length) ++ flatN (growT bx leaf g_ (((srt)).drop (((((srt).length) : Int) + 1) / 2).toNat)) ((N ++ [(NodeT.mk (hullFrom bx (at_ bx (at_ its 0)) (its.take i.toNat)) 0 0 0 0)]) ++ flatN (growT bx leaf g_ (((srt)).take (((((srt).length) : Int) + 1) / 2).toNat)) (N ++ [(NodeT.mk (hullFrom bx (at_ bx (at_ its 0)) (its.take i.toNat)) 0 0 0 0)]).length I.length).length (I ++ (growT bx leaf g_ (((srt)).take (((((srt).length) : Int) + 1) / 2).toNat)).items).length).set (N.length : Int).toNat (NodeT.mk ((at_ (((N ++ [(NodeT.mk (hullFrom bx (at_ bx (at_ its 0)) (its.take i.toNat)) 0 0 0 0)]) ++ flatN (growT bx leaf g_ (((srt)).take (((((srt).length) : Int) + 1) / 2).toNat)) (N ++ [(NodeT.mk (hullFrom bx (at_ bx (at_ its 0)) (its.take i.toNat)) 0 0 0 0)]).length I.length) ++ flatN (growT bx leaf g_ (((srt)).drop (((((srt).length) : Int) + 1) / 2).toNat)) ((N ++ [(NodeT.mk (hullFrom bx (at_ bx (at_ its 0)) (its.take i.toNat)) 0 0 0 0)]) ++ flatN (growT bx leaf g_ (((srt)).take (((((srt).length) : Int) + 1) / 2).toNat)) (N ++ [(NodeT.mk (hullFrom bx (at_ bx (at_ its 0)) (its.take i.toNat)) 0 0 0 0)]).length I.length).length (I ++ (growT bx leaf g_ (((srt)).take (((((srt).length) : Int) + 1) / 2).toNat)).items).length) (N.length : Int)).Box) (((N ++ [(NodeT.mk (hullFrom bx (at_ bx (at_ its 0)) (its.take i.toNat)) 0 0 0 0)]).length) : Int) ((at_ (((N ++ [(NodeT.mk (hullFrom bx (at_ bx (at_ its 0)) (its.take i.toNat)) 0 0 0 0)]) ++ flatN (growT bx leaf g_ (((srt)).take (((((srt).length) : Int) + 1) / 2).toNat)) (N ++ [(NodeT.mk (hullFrom bx (at_ bx (at_ its 0)) (its.take i.toNat)) 0 0 0 0)]).length I.length) ++ flatN (growT bx leaf g_ (((srt)).drop (((((srt).length) : Int) + 1) / 2).toNat)) ((N ++ [(NodeT.mk (hullFrom bx (at_ bx (at_ its 0)) (its.take i.toNat)) 0 0 0 0)]) ++ flatN (growT bx leaf g_ (((srt)).take (((((srt).length) : Int) + 1) / 2).toNat)) (N ++ [(NodeT.mk (hullFrom bx (at_ bx (at_ its 0)) (its.take i.toNat)) 0 0 0 0)]).length I.length).length (I ++ (growT bx leaf g_ (((srt)).take (((((srt).length) : Int) + 1) / 2).toNat)).items).length) (N.length : Int)).Right) ((at_ (((N ++ [(NodeT.mk (hullFrom bx (at_ bx (at_ its 0)) (its.take i.toNat)) 0 0 0 0)]) ++ flatN (growT bx leaf g_ (((srt)).take (((((srt).length) : Int) + 1) / 2).toNat)) (N ++ [(NodeT.mk (hullFrom bx (at_ bx (at_ its 0)) (its.take i.toNat)) 0 0 0 0)]).length I.length) ++ flatN (growT bx leaf g_ (((srt)).drop (((((srt).length) : Int) + 1) / 2).toNat)) ((N ++ [(NodeT.mk (hullFrom bx (at_ bx (at_ its 0)) (its.take i.toNat)) 0 0 0 0)]) ++ flatN (growT bx leaf g_ (((srt)).take (((((srt).length) : Int) + 1) / 2).toNat)) (N ++ [(NodeT.mk (hullFrom bx (at_ bx (at_ its 0)) (its.take i.toNat)) 0 0 0 0)]).length I.length).length (I ++ (growT bx leaf g_ (((srt)).take (((((srt).length) : Int) + 1) / 2).toNat)).items).length) (N.length : Int)).First) ((at_ (((N ++ [(NodeT.mk (hullFrom bx (at_ bx (at_ its 0)) (its.take i.toNat)) 0 0 0 0)]) ++ flatN (growT bx leaf g_ (((srt)).take (((((srt).length) : Int) + 1) / 2).toNat)) (N ++ [(NodeT.mk (hullFrom bx (at_ bx (at_ its 0)) (its.take i.toNat)) 0 0 0 0)]).length I.length) ++ flatN (growT bx leaf g_ (((srt)).drop (((((srt).length) : Int) + 1) / 2).toNat)) ((N ++ [(NodeT.mk (hullFrom bx (at_ bx (at_ its 0)) (its.take i.toNat)) 0 0 0 0)]) ++ flatN (growT bx leaf g_ (((srt)).take (((((srt).length) : Int) + 1) / 2).toNat)) (N ++ [(NodeT.mk (hullFrom bx (at_ bx (at_ its 0)) (its.take i.toNat)) 0 0 0 0)]).length I.length).length (I ++ (growT bx leaf g_ (((srt)).take (((((srt).length) : Int) + 1) / 2).toNat)).items).length) (N.length : Int)).Count)))).length) (by rw [List.length_set]) (by rw [flatMap_length eNode_len, List.length_set])
       have m749 := Mono.set m737 (Own.at_ e740 o735).2.1 k744
       have o750 := Own.stay o736 (Sep.symm g725.sep) (fun i hi _ => k744 i (NotId.ne hi e740))
       refine AOps.nil ?_
       change AWP _ _ _ _ _ _
       refine AWP.seq ?_
       refine AWP.region (l := [0, 1, 2, 3, 4, 5, 6]) rfl ?_
       refine AOps.cons rfl rfl (AOp.fieldAddr rfl s293 fl_29_0 ?_ (hid := ⟨_, h747⟩))
       refine AOps.cons rfl rfl (AOp.load (v722) rfl rfl ty_26 h747 rfl ?_)
       refine AOps.cons rfl rfl (AOp.move (.int .i64 (N.length : Int)) rfl s295 ?_)
       refine AOps.cons rfl rfl (AOp.move (.int .i64 ((((N ++ [(NodeT.mk (hullFrom bx (at_ bx (at_ its 0)) (its.take i.toNat)) 0 0 0 0)]) ++ flatN (growT bx leaf g_ (((srt)).take (((((srt).length) : Int) + 1) / 2).toNat)) (N ++ [(NodeT.mk (hullFrom bx (at_ bx (at_ its 0)) (its.take i.toNat)) 0 0 0 0)]).length I.length).length) : Int)) rfl rfl ?_)
       obtain ⟨i751, ver752, e753, h754, _, _⟩ := Own.pos o748 (by first | omega | (simp only [List.length_set, List.length_append, List.length_cons, List.length_nil]; omega))
       refine AOps.cons rfl rfl (AOp.indexAddrO rfl (Eq.trans rfl e753) rfl sl_26 (by first | omega | (simp only [List.length_set, List.length_append, List.length_cons, List.length_nil]; omega)) (by first | omega | (simp only [List.length_set, List.length_append, List.length_cons, List.length_nil]; omega)) h754 ?_)
       refine AOps.cons rfl rfl (AOp.fieldAddr rfl rfl fl_42_2 ?_ (hid := ⟨_, h754⟩))
       refine AOps.cons rfl rfl (AOp.store' (cells' := ((((((N ++ [(NodeT.mk (hullFrom bx (at_ bx (at_ its 0)) (its.take i.toNat)) 0 0 0 0)]) ++ flatN (growT bx leaf g_ (((srt)).take (((((srt).length) : Int) + 1) / 2).toNat)) (N ++ [(NodeT.mk (hullFrom bx (at_ bx (at_ its 0)) (its.take i.toNat)) 0 0 0 0)]).length I.length) ++ flatN (growT bx leaf g_ (((srt)).drop (((((srt).length) : Int) + 1) / 2).toNat)) ((N ++ [(NodeT.mk (hullFrom bx (at_ bx (at_ its 0)) (its.take i.toNat)) 0 0 0 0)]) ++ flatN (growT bx leaf g_ (((srt)).take (((((srt).length) : Int) + 1) / 2).toNat)) (N ++ [(NodeT.mk (hullFrom bx (at_ bx (at_ its 0)) (its.take i.toNat)) 0 0 0 0)]).length I.length).length (I ++ (growT bx leaf g_ (((srt)).take (((((srt).length) : Int) + 1) / 2).toNat)).items).length).set (N.length : Int).toNat (NodeT.mk ((at_ (((N ++ [(NodeT.mk (hullFrom bx (at_ bx (at_ its 0)) (its.take i.toNat)) 0 0 0 0)]) ++ flatN (growT bx leaf g_ (((srt)).take (((((srt).length) : Int) + 1) / 2).toNat)) (N ++ [(NodeT.mk (hullFrom bx (at_ bx (at_ its 0)) (its.take i.toNat)) 0 0 0 0)]).length I.length) ++ flatN (growT bx leaf g_ (((srt)).drop (((((srt).length) : Int) + 1) / 2).toNat)) ((N ++ [(NodeT.mk (hullFrom bx (at_ bx (at_ its 0)) (its.take i.toNat)) 0 0 0 0)]) ++ flatN (growT bx leaf g_ (((srt)).take (((((srt).length) : Int) + 1) / 2).toNat)) (N ++ [(NodeT.mk (hullFrom bx (at_ bx (at_ its 0)) (its.take i.toNat)) 0 0 0 0)]).length I.length).length (I ++ (growT bx leaf g_ (((srt)).take (((((srt).length) : Int) + 1) / 2).toNat)).items).length) (N.length : Int)).Box) (((N ++ [(NodeT.mk (hullFrom bx (at_ bx (at_ its 0)) (its.take i.toNat)) 0 0 0 0)]).length) : Int) ((at_ (((N ++ [(NodeT.mk (hullFrom bx (at_ bx (at_ its 0)) (its.take i.toNat)) 0 0 0 0)]) ++ flatN (growT bx leaf g_ (((srt)).take (((((srt).length) : Int) + 1) / 2).toNat)) (N ++ [(NodeT.mk (hullFrom bx (at_ bx (at_ its 0)) (its.take i.toNat)) 0 0 0 0)]).length I.length) ++ flatN (growT bx leaf g_ (((srt)).drop (((((srt).length) : Int) + 1) / 2).toNat)) ((N ++ [(NodeT.mk (hullFrom bx (at_ bx (at_ its 0)) (its.take i.toNat)) 0 0 0 0)]) ++ flatN (growT bx leaf g_ (((srt)).take (((((srt).length) : Int) + 1) / 2).toNat)) (N ++ [(NodeT.mk (hullFrom bx (at_ bx (at_ its 0)) (its.take i.toNat)) 0 0 0 0)]).length I.length).length (I ++ (growT bx leaf g_ (((srt)).take (((((srt).length) : Int) + 1) / 2).toNat)).items).length) (N.length : Int)).Right) ((at_ (((N ++ [(NodeT.mk (hullFrom bx (at_ bx (at_ its 0)) (its.take i.toNat)) 0 0 0 0)]) ++ flatN (growT bx leaf g_ (((srt)).take (((((srt).length) : Int) + 1) / 2).toNat)) (N ++ [(NodeT.mk (hullFrom bx (at_ bx (at_ its 0)) (its.take i.toNat)) 0 0 0 0)]).length I.length) ++ flatN (growT bx leaf g_ (((srt)).drop (((((srt).length) : Int) + 1) / 2).toNat)) ((N ++ [(NodeT.mk (hullFrom bx (at_ bx (at_ its 0)) (its.take i.toNat)) 0 0 0 0)]) ++ flatN (growT bx leaf g_ (((srt)).take (((((srt).length) : Int) + 1) / 2).toNat)) (N ++ [(NodeT.mk (hullFrom bx (at_ bx (at_ its 0)) (its.take i.toNat)) 0 0 0 0)]).length I.length).length (I ++ (growT bx leaf g_ (((srt)).take (((((srt).length) : Int) + 1) / 2).toNat)).items).length) (N.length : Int)).First) ((at_ (((N ++ [(NodeT.mk (hullFrom bx (at_ bx (at_ its 0)) (its.take i.toNat)) 0 0 0 0)]) ++ flatN (growT bx leaf g_ (((srt)).take (((((srt).length) : Int) + 1) / 2).toNat)) (N ++ [(NodeT.mk (hullFrom bx (at_ bx (at_ its 0)) (its.take i.toNat)) 0 0 0 0)]).length I.length) ++ flatN (growT bx leaf g_ (((srt)).drop (((((srt).length) : Int) + 1) / 2).toNat)) ((N ++ [(NodeT.mk (hullFrom bx (at_ bx (at_ its 0)) (its.take i.toNat)) 0 0 0 0)]) ++ flatN (growT bx leaf g_ (((srt)).take (((((srt).length) : Int) + 1) / 2).toNat)) (N ++ [(NodeT.mk (hullFrom bx (at_ bx (at_ its 0)) (its.take i.toNat)) 0 0 0 0)]).length I.length).length (I ++ (growT bx leaf g_ (((srt)).take (((((srt).length) : Int) + 1) / 2).toNat)).items).length) (N.length : Int)).Count)))).set (N.length : Int).toNat (NodeT.mk ((at_ (((((N ++ [(NodeT.mk (hullFrom bx (at_ bx (at_ its 0)) (its.take i.toNat)) 0 0 0 0)]) ++ flatN (growT bx leaf g_ (((srt)).take (((((srt).length) : Int) + 1) / 2).toNat)) (N ++ [(NodeT.mk (hullFrom bx (at_ bx (at_ its 0)) (its.take i.toNat)) 0 0 0 0)]).length I.length) ++ flatN (growT bx leaf g_ (((srt)).drop (((((srt).length) : Int) + 1) / 2).toNat)) ((N ++ [(NodeT.mk (hullFrom bx (at_ bx (at_ its 0)) (its.take i.toNat)) 0 0 0 0)]) ++ flatN (growT bx leaf g_ (((srt)).take (((((srt).length) : Int) + 1) / 2).toNat)) (N ++ [(NodeT.mk (hullFrom bx (at_ bx (at_ its 0)) (its.take i.toNat)) 0 0 0 0)]).length I.length).length (I ++ (growT bx leaf g_ (((srt)).take (((((srt).length) : Int) + 1) / 2).toNat)).items).length).set (N.length : Int).toNat (NodeT.mk ((at_ (((N ++ [(NodeT.mk (hullFrom bx (at_ bx (at_ its 0)) (its.take i.toNat)) 0 0 0 0)]) ++ flatN (growT bx leaf g_ (((srt)).take (((((srt).length) : Int) + 1) / 2).toNat)) (N ++ [(NodeT.mk (hullFrom bx (at_ bx (at_ its 0)) (its.take i.toNat)) 0 0 0 0)]).length I.length) ++ flatN (growT bx leaf g_ (((srt)).drop (((((srt).length) : Int) + 1) / 2).toNat)) ((N ++ [(NodeT.mk (hullFrom bx (at_ bx (at_ its 0)) (its.take i.toNat)) 0 0 0 0)]) ++ flatN (growT bx leaf g_ (((srt)).take (((((srt).length) : Int) + 1) / 2).toNat)) (N ++ [(NodeT.mk (hullFrom bx (at_ bx (at_ its 0)) (its.take i.toNat)) 0 0 0 0)]).length I.length).length (I ++ (growT bx leaf g_ (((srt)).take (((((srt).length) : Int) + 1) / 2).toNat)).items).length) (N.length : Int)).Box) (((N ++ [(NodeT.mk (hullFrom bx (at_ bx (at_ its 0)) (its.take i.toNat)) 0 0 0 0)]).length) : Int) ((at_ (((N ++ [(NodeT.mk (hullFrom bx (at_ bx (at_ its 0)) (its.take i.toNat)) 0 0 0 0)]) ++ flatN (growT bx leaf g_ (((srt)).take (((((srt).length) : Int) + 1) / 2).toNat)) (N ++ [(NodeT.mk (hullFrom bx (at_ bx (at_ its 0)) (its.take i.toNat)) 0 0 0 0)]).length I.length) ++ flatN (growT bx leaf g_ (((srt)).drop (((((srt).length) : Int) + 1) / 2).toNat)) ((N ++ [(NodeT.mk (hullFrom bx (at_ bx (at_ its 0)) (its.take i.toNat)) 0 0 0 0)]) ++ flatN (growT bx leaf g_ (((srt)).take (((((srt).length) : Int) + 1) / 2).toNat)) (N ++ [(NodeT.mk (hullFrom bx (at_ bx (at_ its 0)) (its.take i.toNat)) 0 0 0 0)]).length I.length).length (I ++ (growT bx leaf g_ (((srt)).take (((((srt).length) : Int) + 1) / 2).toNat)).items).length) (N.length : Int)).Right) ((at_ (((N ++ [(NodeT.mk (hullFrom bx (at_ bx (at_ its 0)) (its.take i.toNat)) 0 0 0 0)]) ++ flatN (growT bx leaf g_ (((srt)).take (((((srt).length) : Int) + 1) / 2).toNat)) (N ++ [(NodeT.mk (hullFrom bx (at_ bx (at_ its 0)) (its.take i.toNat)) 0 0 0 0)]).length I.length) ++ flatN (growT bx leaf g_ (((srt)).drop (((((srt).length) : Int) + 1) / 2).toNat)) ((N ++ [(NodeT.mk (hullFrom bx (at_ bx (at_ its 0)) (its.take i.toNat)) 0 0 0 0)]) ++ flatN (growT bx leaf g_ (((srt)).take (((((srt).length) : Int) + 1) / 2).toNat)) (N ++ [(NodeT.mk (hullFrom bx (at_ bx (at_ its 0)) (its.take i.toNat)) 0 0 0 0)]).length I.length).length (I ++ (growT bx leaf g_ (((srt)).take (((((srt).length) : Int) + 1) / 2).toNat)).items).length) (N.length : Int)).First) ((at_ (((N ++ [(NodeT.mk (hullFrom bx (at_ bx (at_ its 0)) (its.take i.toNat)) 0 0 0 0)]) ++ flatN (growT bx leaf g_ (((srt)).take (((((srt).length) : Int) + 1) / 2).toNat)) (N ++ [(NodeT.mk (hullFrom bx (at_ bx (at_ its 0)) (its.take i.toNat)) 0 0 0 0)]).length I.length) ++ flatN (growT bx leaf g_ (((srt)).drop (((((srt).length) : Int) + 1) / 2).toNat)) ((N ++ [(NodeT.mk (hullFrom bx (at_ bx (at_ its 0)) (its.take i.toNat)) 0 0 0 0)]) ++ flatN (growT bx leaf g_ (((srt)).take (((((srt).length) : Int) + 1) / 2).toNat)) (N ++ [(NodeT.mk (hullFrom bx (at_ bx (at_ its 0)) (its.take i.toNat)) 0 0 0 0)]).length I.length).length (I ++ (growT bx leaf g_ (((srt)).take (((((srt).length) : Int) + 1) / 2).toNat)).items).length) (N.length : Int)).Count)))) (N.length : Int)).Box) ((at_ (((((N ++ [(NodeT.mk (hullFrom bx (at_ bx (at_ its 0)) (its.take i.toNat)) 0 0 0 0)]) ++ flatN (growT bx leaf g_ (((srt)).take (((((srt).length) : Int) + 1) / 2).toNat)) (N ++ [(NodeT.mk (hullFrom bx (at_ bx (at_ its 0)) (its.take i.toNat)) 0 0 0 0)]).length I.length) ++ flatN (growT bx leaf g_ (((srt)).drop (((((srt).length) : Int) + 1) / 2).toNat)) ((N ++ [(NodeT.mk (hullFrom bx (at_ bx (at_ its 0)) (its.take i.toNat)) 0 0 0 0)]) ++ flatN (growT bx leaf g_ (((srt)).take (((((srt).length) : Int) + 1) / 2).toNat)) (N ++ [(NodeT.mk (hullFrom bx (at_ bx (at_ its 0)) (its.take i.toNat)) 0 0 0 0)]).length I.length).length (I ++ (growT bx leaf g_ (((srt)).take (((((srt).length) : Int) + 1) / 2).toNat)).items).length).set (N.length : Int).toNat (NodeT.mk ((at_ (((N ++ [(NodeT.mk (hullFrom bx (at_ bx (at_ its 0)) (its.take i.toNat)) 0 0 0 0)]) ++ flatN (growT bx leaf g_ (((srt)).take (((((srt).length) : Int) + 1) / 2).toNat)) (N ++ [(NodeT.mk (hullFrom bx (at_ bx (at_ its 0)) (its.take i.toNat)) 0 0 0 0)]).length I.length) ++ flatN (growT bx leaf g_ (((srt)).drop (((((srt).length) : Int) + 1) / 2).toNat)) ((N ++ [(NodeT.mk (hullFrom bx (at_ bx (at_ its 0)) (its.take i.toNat)) 0 0 0 0)]) ++ flatN (growT bx leaf g_ (((srt)).take (((((srt).length) : Int) + 1) / 2).toNat)) (N ++ [(NodeT.mk (hullFrom bx (at_ bx (at_ its 0)) (its.take i.toNat)) 0 0 0 0)]).length I.length).length (I ++ (growT bx leaf g_ (((srt)).take (((((srt).length) : Int) + 1) / 2).toNat)).items).length) (N.length : Int)).Box) (((N ++ [(NodeT.mk (hullFrom bx (at_ bx (at_ its 0)) (its.take i.toNat)) 0 0 0 0)]).length) : Int) ((at_ (((N ++ [(NodeT.mk (hullFrom bx (at_ bx (at_ its 0)) (its.take i.toNat)) 0 0 0 0)]) ++ flatN (growT bx leaf g_ (((srt)).take (((((srt).length) : Int) + 1) / 2).toNat)) (N ++ [(NodeT.mk (hullFrom bx (at_ bx (at_ its 0)) (its.take i.toNat)) 0 0 0 0)]).length I.length) ++ flatN (growT bx leaf g_ (((srt)).drop (((((srt).length) : Int) + 1) / 2).toNat)) ((N ++ [(NodeT.mk (hullFrom bx (at_ bx (at_ its 0)) (its.take i.toNat)) 0 0 0 0)]) ++ flatN (growT bx leaf g_ (((srt)).take (((((srt).length) : Int) + 1) / 2).toNat)) (N ++ [(NodeT.mk (hullFrom bx (at_ bx (at_ its 0)) (its.take i.toNat)) 0 0 0 0)]).length I.length).length (I ++ (growT bx leaf g_ (((srt)).take (((((srt).length) : Int) + 1) / 2).toNat)).items).length) (N.length : Int)).Right) ((at_ (((N ++ [(NodeT.mk (hullFrom bx (at_ bx (at_ its 0)) (its.take i.toNat)) 0 0 0 0)]) ++ flatN (growT bx leaf g_ (((srt)).take (((((srt).length) : Int) + 1) / 2).toNat)) (N ++ [(NodeT.mk (hullFrom bx (at_ bx (at_ its 0)) (its.take i.toNat)) 0 0 0 0)]).length I.length) ++ flatN (growT bx leaf g_ (((srt)).drop (((((srt).length) : Int) + 1) / 2).toNat)) ((N ++ [(NodeT.mk (hullFrom bx (at_ bx (at_ its 0)) (its.take i.toNat)) 0 0 0 0)]) ++ flatN (growT bx leaf g_ (((srt)).take (((((srt).length) : Int) + 1) / 2).toNat)) (N ++ [(NodeT.mk (hullFrom bx (at_ bx (at_ its 0)) (its.take i.toNat)) 0 0 0 0)]).length I.length).length (I ++ (growT bx leaf g_ (((srt)).take (((((srt).length) : Int) + 1) / 2).toNat)).items).length) (N.length : Int)).First) ((at_ (((N ++ [(NodeT.mk (hullFrom bx (at_ bx (at_ its 0)) (its.take i.toNat)) 0 0 0 0)]) ++ flatN (growT bx leaf g_ (((srt)).take (((((srt).length) : Int) + 1) / 2).toNat)) (N ++ [(NodeT.mk (hullFrom bx (at_ bx (at_ its 0)) (its.take i.toNat)) 0 0 0 0)]).length I.length) ++ flatN (growT bx leaf g_ (((srt)).drop (((((srt).length) : Int) + 1) / 2).toNat)) ((N ++ [(NodeT.mk (hullFrom bx (at_ bx (at_ its 0)) (its.take i.toNat)) 0 0 0 0)]) ++ flatN (growT bx leaf g_ (((srt)).take (((((srt).length) : Int) + 1) / 2).toNat)) (N ++ [(NodeT.mk (hullFrom bx (at_ bx (at_ its 0)) (its.take i.toNat)) 0 0 0 0)]).length I.length).length (I ++ (growT bx leaf g_ (((srt)).take (((((srt).length) : Int) + 1) / 2).toNat)).items).length) (N.length : Int)).Count)))) (N.length : Int)).Left) ((((N ++ [(NodeT.mk (hullFrom bx (at_ bx (at_ its 0)) (its.take i.toNat)) 0 0 0 0)]) ++ flatN (growT bx leaf g_ (((srt)).take (((((srt).length) : Int) + 1) / 2).toNat)) (N ++ [(NodeT.mk (hullFrom bx (at_ bx (at_ its 0)) (its.take i.toNat)) 0 0 0 0)]).length I.length).length) : Int) ((at_ (((((N ++ [(NodeT.mk (hullFrom bx (at_ bx (at_ its 0)) (its.take i.toNat)) 0 0 0 0)]) ++ flatN (growT bx leaf g_ (((srt)).take (((((srt).length) : Int) + 1) / 2).toNat)) (N ++ [(NodeT.mk (hullFrom bx (at_ bx (at_ its 0)) (its.take i.toNat)) 0 0 0 0)]).length I.length) ++ flatN (growT bx leaf g_ (((srt)).drop (((((srt).length) : Int) + 1) / 2).toNat)) ((N ++ [(NodeT.mk (hullFrom bx (at_ bx (at_ its 0)) (its.take i.toNat)) 0 0 0 0)]) ++ flatN (growT bx leaf g_ (((srt)).take (((((srt).length) : Int) + 1) / 2).toNat)) (N ++ [(NodeT.mk (hullFrom bx (at_ bx (at_ its 0)) (its.take i.toNat)) 0 0 0 0)]).length I.length).length (I ++ (growT bx leaf g_ (((srt)).take (((((srt).length) : Int) + 1) / 2).toNat)).items).length).set (N.length : Int).toNat (NodeT.mk ((at_ (((N ++ [(NodeT.mk (hullFrom bx (at_ bx (at_ its 0)) (its.take i.toNat)) 0 0 0 0)]) ++ flatN (growT bx leaf g_ (((srt)).take (((((srt).length) : Int) + 1) / 2).toNat)) (N ++ [(NodeT.mk (hullFrom bx (at_ bx (at_ its 0)) (its.take i.toNat)) 0 0 0 0)]).length I.length) ++ flatN (growT bx leaf g_ (((srt)).drop (((((srt).length) : Int) + 1) / 2).toNat)) ((N ++ [(NodeT.mk (hullFrom bx (at_ bx (at_ its 0)) (its.take i.toNat)) 0 0 0 0)]) ++ flatN (growT bx leaf g_ (((srt)).take (((((srt).length) : Int) + 1) / 2).toNat)) (N ++ [(NodeT.mk (hullFrom bx (at_ bx (at_ its 0)) (its.take i.toNat)) 0 0 0 0)]).length I.length).length (I ++ (growT bx leaf g_ (((srt)).take (((((srt).length) : Int) + 1) / 2).toNat)).items).length) (N.length : Int)).Box) (((N ++ [(NodeT.mk (hullFrom bx (at_ bx (at_ its 0)) (its.take i.toNat)) 0 0 0 0)]).length) : Int) ((at_ (((N ++ [(NodeT.mk (hullFrom bx (at_ bx (at_ its 0)) (its.take i.toNat)) 0 0 0 0)]) ++ flatN (growT bx leaf g_ (((srt)).take (((((srt).length) : Int) + 1) / 2).toNat)) (N ++ [(NodeT.mk (hullFrom bx (at_ bx (at_ its 0)) (its.take i.toNat)) 0 0 0 0)]).length I.length) ++ flatN (growT bx leaf g_ (((srt)).drop (((((srt).length) : Int) + 1) / 2).toNat)) ((N ++ [(NodeT.mk (hullFrom bx (at_ bx (at_ its 0)) (its.take i.toNat)) 0 0 0 0)]) ++ flatN (growT bx leaf g_ (((srt)).take (((((srt).length) : Int) + 1) / 2).toNat)) (N ++ [(NodeT.mk (hullFrom bx (at_ bx (at_ its 0)) (its.take i.toNat)) 0 0 0 0)]).length I.length).length (I ++ (growT bx leaf g_ (((srt)).take (((((srt).length) : Int) + 1) / 2).toNat)).items).length) (N.length : Int)).Right) ((at_ (((N ++ [(NodeT.mk (hullFrom bx (at_ bx (at_ its 0)) (its.take i.toNat)) 0 0 0 0)]) ++ flatN (growT bx leaf g_ (((srt)).take (((((srt).length) : Int) + 1) / 2).toNat)) (N ++ [(NodeT.mk (hullFrom bx (at_ bx (at_ its 0)) (its.take i.toNat)) 0 0 0 0)]).length I.length) ++ flatN (growT bx leaf g_ (((srt)).drop (((((srt).length) : Int) + 1) / 2).toNat)) ((N ++ [(NodeT.mk (hullFrom bx (at_ bx (at_ its 0)) (its.take i.toNat)) 0 0 0 0)]) ++ flatN (growT bx leaf g_ (((srt)).take (((((srt).length) : Int) + 1) / 2).toNat)) (N ++ [(NodeT.mk (hullFrom bx (at_ bx (at_ its 0)) (its.take i.toNat)) 0 0 0 0)]).length I.length).length (I ++ (growT bx leaf g_ (((srt)).take (((((srt).length) : Int) + 1) / 2).toNat)).items).length) (N.length : Int)).First) ((at_ (((N ++ [(NodeT.mk (hullFrom bx (at_ bx (at_ its 0)) (its.take i.toNat)) 0 0 0 0)]) ++ flatN (growT bx leaf g_ (((srt)).take (((((srt).length) : Int) + 1) / 2).toNat)) (N ++ [(NodeT.mk (hullFrom bx (at_ bx (at_ its 0)) (its.take i.toNat)) 0 0 0 0)]).length I.length) ++ flatN (growT bx leaf g_ (((srt)).drop (((((srt).length) : Int) + 1) / 2).toNat)) ((N ++ [(NodeT.mk (hullFrom bx (at_ bx (at_ its 0)) (its.take i.toNat)) 0 0 0 0)]) ++ flatN (growT bx leaf g_ (((srt)).take (((((srt).length) : Int) + 1) / 2).toNat)) (N ++ [(NodeT.mk (hullFrom bx (at_ bx (at_ its 0)) (its.take i.toNat)) 0 0 0 0)]).length I.length).length (I ++ (growT bx leaf g_ (((srt)).take (((((srt).length) : Int) + 1) / 2).toNat)).items).length) (N.length : Int)).Count)))) (N.length : Int)).First) ((at_ (((((N ++ [(NodeT.mk (hullFrom bx (at_ bx (at_ its 0)) (its.take i.toNat)) 0 0 0 0)]) ++ flatN (growT bx leaf g_ (((srt)).take (((((srt).length) : Int) + 1) / 2).toNat)) (N ++ [(NodeT.mk (hullFrom bx (at_ bx (at_ its 0)) (its.take i.toNat)) 0 0 0 0)]).length I.length) ++ flatN (growT bx leaf g_ (((srt)).drop (((((srt).length) : Int) + 1) / 2).toNat)) ((N ++ [(NodeT.mk (hullFrom bx (at_ bx (at_ its 0)) (its.take i.toNat)) 0 0 0 0)]) ++ flatN (growT bx leaf g_ (((srt)).take (((((srt).length) : Int) + 1) / 2).toNat)) (N ++ [(NodeT.mk (hullFrom bx (at_ bx (at_ its 0)) (its.take i.toNat)) 0 0 0 0)]).length I.length).length (I ++ (growT bx leaf g_ (((srt)).take (((((srt).length) : Int) + 1) / 2).toNat)).items).length).set (N.length : Int).toNat (NodeT.mk ((at_ (((N ++ [(NodeT.mk (hullFrom bx (at_ bx (at_ its 0)) (its.take i.toNat)) 0 0 0 0)]) ++ flatN (growT bx leaf g_ (((srt)).take (((((srt).length) : Int) + 1) / 2).toNat)) (N ++ [(NodeT.mk (hullFrom bx (at_ bx (at_ its 0)) (its.take i.toNat)) 0 0 0 0)]).length I.length) ++ flatN (growT bx leaf g_ (((srt)).drop (((((srt).length) : Int) + 1) / 2).toNat)) ((N ++ [(NodeT.mk (hullFrom bx (at_ bx (at_ its 0)) (its.take i.toNat)) 0 0 0 0)]) ++ flatN (growT bx leaf g_ (((srt)).take (((((srt).length) : Int) + 1) / 2).toNat)) (N ++ [(NodeT.mk (hullFrom bx (at_ bx (at_ its 0)) (its.take i.toNat)) 0 0 0 0)]).length I.length).length (I ++ (growT bx leaf g_ (((srt)).take (((((srt).length) : Int) + 1) / 2).toNat)).items).length) (N.length : Int)).Box) (((N ++ [(NodeT.mk (hullFrom bx (at_ bx (at_ its 0)) (its.take i.toNat)) 0 0 0 0)]).length) : Int) ((at_ (((N ++ [(NodeT.mk (hullFrom bx (at_ bx (at_ its 0)) (its.take i.toNat)) 0 0 0 0)]) ++ flatN (growT bx leaf g_ (((srt)).take (((((srt).length) : Int) + 1) / 2).toNat)) (N ++ [(NodeT.mk (hullFrom bx (at_ bx (at_ its 0)) (its.take i.toNat)) 0 0 0 0)]).length I.length) ++ flatN (growT bx leaf g_ (((srt)).drop (((((srt).length) : Int) + 1) / 2).toNat)) ((N ++ [(NodeT.mk (hullFrom bx (at_ bx (at_ its 0)) (its.take i.toNat)) 0 0 0 0)]) ++ flatN (growT bx leaf g_ (((srt)).take (((((srt).length) : Int) + 1) / 2).toNat)) (N ++ [(NodeT.mk (hullFrom bx (at_ bx (at_ its 0)) (its.take i.toNat)) 0 0 0 0)]).length I.length).length (I ++ (growT bx leaf g_ (((srt)).take (((((srt).length) : Int) + 1) / 2).toNat)).items).length) (N.length : Int)).Right) ((at_ (((N ++ [(NodeT.mk (hullFrom bx (at_ bx (at_ its 0)) (its.take i.toNat)) 0 0 0 0)]) ++ flatN (growT bx leaf g_ (((srt)).take (((((srt).length) : Int) + 1) / 2).toNat)) (N ++ [(NodeT.mk (hullFrom bx (at_ bx (at_ its 0)) (its.take i.toNat)) 0 0 0 0)]).length I.length) ++ flatN (growT bx leaf g_ (((srt)).drop (((((srt).length) : Int) + 1) / 2).toNat)) ((N ++ [(NodeT.mk (hullFrom bx (at_ bx (at_ its 0)) (its.take i.toNat)) 0 0 0 0)]) ++ flatN (growT bx leaf g_ (((srt)).take (((((srt).length) : Int) + 1) / 2).toNat)) (N ++ [(NodeT.mk (hullFrom bx (at_ bx (at_ its 0)) (its.take i.toNat)) 0 0 0 0)]).length I.length).length (I ++ (growT bx leaf g_ (((srt)).take (((((srt).length) : Int) + 1) / 2).toNat)).items).length) (N.length : Int)).First) ((at_ (((N ++ [(NodeT.mk (hullFrom bx (at_ bx (at_ its 0)) (its.take i.toNat)) 0 0 0 0)]) ++ flatN (growT bx leaf g_ (((srt)).take (((((srt).length) : Int) + 1) / 2).toNat)) (N ++ [(NodeT.mk (hullFrom bx (at_ bx (at_ its 0)) (its.take i.toNat)) 0 0 0 0)]).length I.length) ++ flatN (growT bx leaf g_ (((srt)).drop (((((srt).length) : Int) + 1) / 2).toNat)) ((N ++ [(NodeT.mk (hullFrom bx (at_ bx (at_ its 0)) (its.take i.toNat)) 0 0 0 0)]) ++ flatN (growT bx leaf g_ (((srt)).take (((((srt).length) : Int) + 1) / 2).toNat)) (N ++ [(NodeT.mk (hullFrom bx (at_ bx (at_ its 0)) (its.take i.toNat)) 0 0 0 0)]).length I.length).length (I ++ (growT bx leaf g_ (((srt)).take (((((srt).length) : Int) + 1) / 2).toNat)).items).length) (N.length : Int)).Count)))) (N.length : Int)).Count))).flatMap eNode) (.int .i64 ((((N ++ [(NodeT.mk (hullFrom bx (at_ bx (at_ its 0)) (its.take i.toNat)) 0 0 0 0)]) ++ flatN (growT bx leaf g_ (((srt)).take (((((srt).length) : Int) + 1) / 2).toNat)) (N ++ [(NodeT.mk (hullFrom bx (at_ bx (at_ its 0)) (its.take i.toNat)) 0 0 0 0)]).length I.length).length) : Int)) rfl rfl ts_3 (Own.at_ e753 o748).1 rfl rfl (blelen (flatMap_length eNode_len _) (by first | omega | (simp only [List.length_set, List.length_append, List.length_cons, List.length_nil]; omega))) (wr_setF (xs := (((((N ++ [(NodeT.mk (hullFrom bx (at_ bx (at_ its 0)) (its.take i.toNat)) 0 0 0 0)]) ++ flatN (growT bx leaf g_ (((srt)).take (((((srt).length) : Int) + 1) / 2).toNat)) (N ++ [(NodeT.mk (hullFrom bx (at_ bx (at_ its 0)) (its.take i.toNat)) 0 0 0 0)]).length I.length) ++ flatN (growT bx leaf g_ (((srt)).drop (((((srt).length) : Int) + 1) / 2).toNat)) ((N ++ [(NodeT.mk (hullFrom bx (at_ bx (at_ its 0)) (its.take i.toNat)) 0 0 0 0)]) ++ flatN (growT bx leaf g_ (((srt)).take (((((srt).length) : Int) + 1) / 2).toNat)) (N ++ [(NodeT.mk (hullFrom bx (at_ bx (at_ its 0)) (its.take i.toNat)) 0 0 0 0)]).length I.length).length (I ++ (growT bx leaf g_ (((srt)).take (((((srt).length) : Int) + 1) / 2).toNat)).items).length).set (N.length : Int).toNat (NodeT.mk ((at_ (((N ++ [(NodeT.mk (hullFrom bx (at_ bx (at_ its 0)) (its.take i.toNat)) 0 0 0 0)]) ++ flatN (growT bx leaf g_ (((srt)).take (((((srt).length) : Int) + 1) / 2).toNat)) (N ++ [(NodeT.mk (hullFrom bx (at_ bx (at_ its 0)) (its.take i.toNat)) 0 0 0 0)]).length I.length) ++ flatN (growT bx leaf g_ (((srt)).drop (((((srt).length) : Int) + 1) / 2).toNat)) ((N ++ [(NodeT.mk (hullFrom bx (at_ bx (at_ its 0)) (its.take i.toNat)) 0 0 0 0)]) ++ flatN (growT bx leaf g_ (((srt)).take (((((srt).length) : Int) + 1) / 2).toNat)) (N ++ [(NodeT.mk (hullFrom bx (at_ bx (at_ its 0)) (its.take i.toNat)) 0 0 0 0)]).length I.length).length (I ++ (growT bx leaf g_ (((srt)).take (((((srt).length) : Int) + 1) / 2).toNat)).items).length) (N.length : Int)).Box) (((N ++ [(NodeT.mk (hullFrom bx (at_ bx (at_ its 0)) (its.take i.toNat)) 0 0 0 0)]).length) : Int) ((at_ (((N ++ [(NodeT.mk (hullFrom bx (at_ bx (at_ its 0)) (its.take i.toNat)) 0 0 0 0)]) ++ flatN (growT bx leaf g_ (((srt)).take (((((srt).length) : Int) + 1) / 2).toNat)) (N ++ [(NodeT.mk (hullFrom bx (at_ bx (at_ its 0)) (its.take i.toNat)) 0 0 0 0)]).length I.length) ++ flatN (growT bx leaf g_ (((srt)).drop (((((srt).length) : Int) + 1) / 2).toNat)) ((N ++ [(NodeT.mk (hullFrom bx (at_ bx (at_ its 0)) (its.take i.toNat)) 0 0 0 0)]) ++ flatN (growT bx leaf g_ (((srt)).take (((((srt).length) : Int) + 1) / 2).toNat)) (N ++ [(NodeT.mk (hullFrom bx (at_ bx (at_ its 0)) (its.take i.toNat)) 0 0 0 0)]).length I.length).length (I ++ (growT bx leaf g_ (((srt)).take (((((srt).length) : Int) + 1) / 2).toNat)).items).length) (N.length : Int)).Right) ((at_ (((N ++ [(NodeT.mk (hullFrom bx (at_ bx (at_ its 0)) (its.take i.toNat)) 0 0 0 0)]) ++ flatN (growT bx leaf g_ (((srt)).take (((((srt).length) : Int) + 1) / 2).toNat)) (N ++ [(NodeT.mk (hullFrom bx (at_ bx (at_ its 0)) (its.take i.toNat)) 0 0 0 0)]).length I.length) ++ flatN (growT bx leaf g_ (((srt)).drop (((((srt).length) : Int) + 1) / 2).toNat)) ((N ++ [(NodeT.mk (hullFrom bx (at_ bx (at_ its 0)) (its.take i.toNat)) 0 0 0 0)]) ++ flatN (growT bx leaf g_ (((srt)).take (((((srt).length) : Int) + 1) / 2).toNat)) (N ++ [(NodeT.mk (hullFrom bx (at_ bx (at_ its 0)) (its.take i.toNat)) 0 0 0 0)]).length I.length).length (I ++ (growT bx leaf g_ (((srt)).take (((((srt).length) : Int) + 1) / 2).toNat)).items).length) (N.length : Int)).First) ((at_ (((N ++ [(NodeT.mk (hullFrom bx (at_ bx (at_ its 0)) (its.take i.toNat)) 0 0 0 0)]) ++ flatN (growT bx leaf g_ (((srt)).take (((((srt).length) : Int) + 1) / 2).toNat)) (N ++ [(NodeT.mk (hullFrom bx (at_ bx (at_ its 0)) (its.take i.toNat)) 0 0 0 0)]).length I.length) ++ flatN (growT bx leaf g_ (((srt)).drop (((((srt).length) : Int) + 1) / 2).toNat)) ((N ++ [(NodeT.mk (hullFrom bx (at_ bx (at_ its 0)) (its.take i.toNat)) 0 0 0 0)]) ++ flatN (growT bx leaf g_ (((srt)).take (((((srt).length) : Int) + 1) / 2).toNat)) (N ++ [(NodeT.mk (hullFrom bx (at_ bx (at_ its 0)) (its.take i.toNat)) 0 0 0 0)]).length I.length).length (I ++ (growT bx leaf g_ (((srt)).take (((((srt).length) : Int) + 1) / 2).toNat)).items).length) (N.length : Int)).Count))))) (i := (N.length : Int)) (v := .int .i64 ((((N ++ [(NodeT.mk (hullFrom bx (at_ bx (at_ its 0)) (its.take i.toNat)) 0 0 0 0)]) ++ flatN (growT bx leaf g_ (((srt)).take (((((srt).length) : Int) + 1) / 2).toNat)) (N ++ [(NodeT.mk (hullFrom bx (at_ bx (at_ its 0)) (its.take i.toNat)) 0 0 0 0)]).length I.length).length) : Int)) (y := (NodeT.mk ((at_ (((((N ++ [(NodeT.mk (hullFrom bx (at_ bx (at_ its 0)) (its.take i.toNat)) 0 0 0 0)]) ++ flatN (growT bx leaf g_ (((srt)).take (((((srt).length) : Int) + 1) / 2).toNat)) (N ++ [(NodeT.mk (hullFrom bx (at_ bx (at_ its 0)) (its.take i.toNat)) 0 0 0 0)]).length I.length) ++ flatN (growT bx leaf g_ (((srt)).drop (((((srt).length) : Int) + 1) / 2).toNat)) ((N ++ [(NodeT.mk (hullFrom bx (at_ bx (at_ its 0)) (its.take i.toNat)) 0 0 0 0)]) ++ flatN (growT bx leaf g_ (((srt)).take (((((srt).length) : Int) + 1) / 2).toNat)) (N ++ [(NodeT.mk (hullFrom bx (at_ bx (at_ its 0)) (its.take i.toNat)) 0 0 0 0)]).length I.length).length (I ++ (growT bx leaf g_ (((srt)).take (((((srt).length) : Int) + 1) / 2).toNat)).items).length).set (N.length : Int).toNat (NodeT.mk ((at_ (((N ++ [(NodeT.mk (hullFrom bx (at_ bx (at_ its 0)) (its.take i.toNat)) 0 0 0 0)]) ++ flatN (growT bx leaf g_ (((srt)).take (((((srt).length) : Int) + 1) / 2).toNat)) (N ++ [(NodeT.mk (hullFrom bx (at_ bx (at_ its 0)) (its.take i.toNat)) 0 0 0 0)]).length I.length) ++ flatN (growT bx leaf g_ (((srt)).drop (((((srt).length) : Int) + 1) / 2).toNat)) ((N ++ [(NodeT.mk (hullFrom bx (at_ bx (at_ its 0)) (its.take i.toNat)) 0 0 0 0)]) ++ flatN (growT bx leaf g_ (((srt)).take (((((srt).length) : Int) + 1) / 2).toNat)) (N ++ [(NodeT.mk (hullFrom bx (at_ bx (at_ its 0)) (its.take i.toNat)) 0 0 0 0)]).length I.length).length (I ++ (growT bx leaf g_ (((srt)).take (((((srt).length) : Int) + 1) / 2).toNat)).items).length) (N.length : Int)).Box) (((N ++ [(NodeT.mk (hullFrom bx (at_ bx (at_ its 0)) (its.take i.toNat)) 0 0 0 0)]).length) : Int) ((at_ (((N ++ [(NodeT.mk (hullFrom bx (at_ bx (at_ its 0)) (its.take i.toNat)) 0 0 0 0)]) ++ flatN (growT bx leaf g_ (((srt)).take (((((srt).length) : Int) + 1) / 2).toNat)) (N ++ [(NodeT.mk (hullFrom bx (at_ bx (at_ its 0)) (its.take i.toNat)) 0 0 0 0)]).length I.length) ++ flatN (growT bx leaf g_ (((srt)).drop (((((srt).length) : Int) + 1) / 2).toNat)) ((N ++ [(NodeT.mk (hullFrom bx (at_ bx (at_ its 0)) (its.take i.toNat)) 0 0 0 0)]) ++ flatN (growT bx leaf g_ (((srt)).take (((((srt).length) : Int) + 1) / 2).toNat)) (N ++ [(NodeT.mk (hullFrom bx (at_ bx (at_ its 0)) (its.take i.toNat)) 0 0 0 0)]).length I.length).length (I ++ (growT bx leaf g_ (((srt)).take (((((srt).length) : Int) + 1) / 2).toNat)).items).length) (N.length : Int)).Right) ((at_ (((N ++ [(NodeT.mk (hullFrom bx (at_ bx (at_ its 0)) (its.take i.toNat)) 0 0 0 0)]) ++ flatN (growT bx leaf g_ (((srt)).take (((((srt).length) : Int) + 1) / 2).toNat)) (N ++ [(NodeT.mk (hullFrom bx (at_ bx (at_ its 0)) (its.take i.toNat)) 0 0 0 0)]).length I.length) ++ flatN (growT bx leaf g_ (((srt)).drop (((((srt).length) : Int) + 1) / 2).toNat)) ((N ++ [(NodeT.mk (hullFrom bx (at_ bx (at_ its 0)) (its.take i.toNat)) 0 0 0 0)]) ++ flatN (growT bx leaf g_ (((srt)).take (((((srt).length) : Int) + 1) / 2).toNat)) (N ++ [(NodeT.mk (hullFrom bx (at_ bx (at_ its 0)) (its.take i.toNat)) 0 0 0 0)]).length I.length).length (I ++ (growT bx leaf g_ (((srt)).take (((((srt).length) : Int) + 1) / 2).toNat)).items).length) (N.length : Int)).First) ((at_ (((N ++ [(NodeT.mk (hullFrom bx (at_ bx (at_ its 0)) (its.take i.toNat)) 0 0 0 0)]) ++ flatN (growT bx leaf g_ (((srt)).take (((((srt).length) : Int) + 1) / 2).toNat)) (N ++ [(NodeT.mk (hullFrom bx (at_ bx (at_ its 0)) (its.take i.toNat)) 0 0 0 0)]).length I.length) ++ flatN (growT bx leaf g_ (((srt)).drop (((((srt).length) : Int) + 1) / 2).toNat)) ((N ++ [(NodeT.mk (hullFrom bx (at_ bx (at_ its 0)) (its.take i.toNat)) 0 0 0 0)]) ++ flatN (growT bx leaf g_ (((srt)).take (((((srt).length) : Int) + 1) / 2).toNat)) (N ++ [(NodeT.mk (hullFrom bx (at_ bx (at_ its 0)) (its.take i.toNat)) 0 0 0 0)]).length I.length).length (I ++ (growT bx leaf g_ (((srt)).take (((((srt).length) : Int) + 1) / 2).toNat)).items).length) (N.length : Int)).Count)))) (N.length : Int)).Box) ((at_ (((((N ++ [(NodeT.mk (hullFrom bx (at_ bx (at_ its 0)) (its.take i.toNat)) 0 0 0 0)]) ++ flatN (growT bx leaf g_ (((srt)).take (((((srt).length) : Int) + 1) / 2).toNat)) (N ++ [(NodeT.mk (hullFrom bx (at_ bx (at_ its 0)) (its.take i.toNat)) 0 0 0 0)]).length I.length) ++ flatN (growT bx leaf g_ (((srt)).drop (((((srt).length) : Int) + 1) / 2).toNat)) ((N ++ [(NodeT.mk (hullFrom bx (at_ bx (at_ its 0)) (its.take i.toNat)) 0 0 0 0)]) ++ flatN (growT bx leaf g_ (((srt)).take (((((srt).length) : Int) + 1) / 2).toNat)) (N ++ [(NodeT.mk (hullFrom bx (at_ bx (at_ its 0)) (its.take i.toNat)) 0 0 0 0)]).length I.length).length (I ++ (growT bx leaf g_ (((srt)).take (((((srt).length) : Int) + 1) / 2).toNat)).items).length).set (N.length : Int).toNat (NodeT.mk ((at_ (((N ++ [(NodeT.mk (hullFrom bx (at_ bx (at_ its 0)) (its.take i.toNat)) 0 0 0 0)]) ++ flatN (growT bx leaf g_ (((srt)).take (((((srt).length) : Int) + 1) / 2).toNat)) (N ++ [(NodeT.mk (hullFrom bx (at_ bx (at_ its 0)) (its.take i.toNat)) 0 0 0 0)]).length I.length) ++ flatN (growT bx leaf g_ (((srt)).drop (((((srt).length) : Int) + 1) / 2).toNat)) ((N ++ [(NodeT.mk (hullFrom bx (at_ bx (at_ its 0)) (its.take i.toNat)) 0 0 0 0)]) ++ flatN (growT bx leaf g_ (((srt)).take (((((srt).length) : Int) + 1) / 2).toNat)) (N ++ [(NodeT.mk (hullFrom bx (at_ bx (at_ its 0)) (its.take i.toNat)) 0 0 0 0)]).length I.length).length (I ++ (growT bx leaf g_ (((srt)).take (((((srt).length) : Int) + 1) / 2).toNat)).items).length) (N.length : Int)).Box) (((N ++ [(NodeT.mk (hullFrom bx (at_ bx (at_ its 0)) (its.take i.toNat)) 0 0 0 0)]).length) : Int) ((at_ (((N ++ [(NodeT.mk (hullFrom bx (at_ bx (at_ its 0)) (its.take i.toNat)) 0 0 0 0)]) ++ flatN (growT bx leaf g_ (((srt)).take (((((srt).length) : Int) + 1) / 2).toNat)) (N ++ [(NodeT.mk (hullFrom bx (at_ bx (at_ its 0)) (its.take i.toNat)) 0 0 0 0)]).length I.length) ++ flatN (growT bx leaf g_ (((srt)).drop (((((srt).length) : Int) + 1) / 2).toNat)) ((N ++ [(NodeT.mk (hullFrom bx (at_ bx (at_ its 0)) (its.take i.toNat)) 0 0 0 0)]) ++ flatN (growT bx leaf g_ (((srt)).take (((((srt).length) : Int) + 1) / 2).toNat)) (N ++ [(NodeT.mk (hullFrom bx (at_ bx (at_ its 0)) (its.take i.toNat)) 0 0 0 0)]).length I.length).length (I ++ (growT bx leaf g_ (((srt)).take (((((srt).length) : Int) + 1) / 2).toNat)).items).length) (N.length : Int)).Right) ((at_ (((N ++ [(NodeT.mk (hullFrom bx (at_ bx (at_ its 0)) (its.take i.toNat)) 0 0 0 0)]) ++ flatN (growT bx leaf g_ (((srt)).take (((((srt).length) : Int) + 1) / 2).toNat)) (N ++ [(NodeT.mk (hullFrom bx (at_ bx (at_ its 0)) (its.take i.toNat)) 0 0 0 0)]).length I.length) ++ flatN (growT bx leaf g_ (((srt)).drop (((((srt).length) : Int) + 1) / 2).toNat)) ((N ++ [(NodeT.mk (hullFrom bx (at_ bx (at_ its 0)) (its.take i.toNat)) 0 0 0 0)]) ++ flatN (growT bx leaf g_ (((srt)).take (((((srt).length) : Int) + 1) / 2).toNat)) (N ++ [(NodeT.mk (hullFrom bx (at_ bx (at_ its 0)) (its.take i.toNat)) 0 0 0 0)]).length I.length).length (I ++ (growT bx leaf g_ (((srt)).take (((((srt).length) : Int) + 1) / 2).toNat)).items).length) (N.length : Int)).First) ((at_ (((N ++ [(NodeT.mk (hullFrom bx (at_ bx (at_ its 0)) (its.take i.toNat)) 0 0 0 0)]) ++ flatN (growT bx leaf g_ (((srt)).take (((((srt).length) : Int) + 1) / 2).toNat)) (N ++ [(NodeT.mk (hullFrom bx (at_ bx (at_ its 0)) (its.take i.toNat)) 0 0 0 0)]).length I.length) ++ flatN (growT bx leaf g_ (((srt)).drop (((((srt).length) : Int) + 1) / 2).toNat)) ((N ++ [(NodeT.mk (hullFrom bx (at_ bx (at_ its 0)) (its.take i.toNat)) 0 0 0 0)]) ++ flatN (growT bx leaf g_ (((srt)).take (((((srt).length) : Int) + 1) / 2).toNat)) (N ++ [(NodeT.mk (hullFrom bx (at_ bx (at_ its 0)) (its.take i.toNat)) 0 0 0 0)]).length I.length).length (I ++ (growT bx leaf g_ (((srt)).take (((((srt).length) : Int) + 1) / 2).toNat)).items).length) (N.length : Int)).Count)))) (N.length : Int)).Left) ((((N ++ [(NodeT.mk (hullFrom bx (at_ bx (at_ its 0)) (its.take i.toNat)) 0 0 0 0)]) ++ flatN (growT bx leaf g_ (((srt)).take (((((srt).length) : Int) + 1) / 2).toNat)) (N ++ [(NodeT.mk (hullFrom bx (at_ bx (at_ its 0)) (its.take i.toNat)) 0 0 0 0)]).length I.length).length) : Int) ((at_ (((((N ++ [(NodeT.mk (hullFrom bx (at_ bx (at_ its 0)) (its.take i.toNat)) 0 0 0 0)]) ++ flatN (growT bx leaf g_ (((srt)).take (((((srt).length) : Int) + 1) / 2).toNat)) (N ++ [(NodeT.mk (hullFrom bx (at_ bx (at_ its 0)) (its.take i.toNat)) 0 0 0 0)]).length I.length) ++ flatN (growT bx leaf g_ (((srt)).drop (((((srt).length) : Int) + 1) / 2).toNat)) ((N ++ [(NodeT.mk (hullFrom bx (at_ bx (at_ its 0)) (its.take i.toNat)) 0 0 0 0)]) ++ flatN (growT bx leaf g_ (((srt)).take (((((srt).length) : Int) + 1) / 2).toNat)) (N ++ [(NodeT.mk (hullFrom bx (at_ bx (at_ its 0)) (its.take i.toNat)) 0 0 0 0)]).length I.length).length (I ++ (growT bx leaf g_ (((srt)).take (((((srt).length) : Int) + 1) / 2).toNat)).items).length).set (N.length : Int).toNat (NodeT.mk ((at_ (((N ++ [(NodeT.mk (hullFrom bx (at_ bx (at_ its 0)) (its.take i.toNat)) 0 0 0 0)]) ++ flatN (growT bx leaf g_ (((srt)).take (((((srt).length) : Int) + 1) / 2).toNat)) (N ++ [(NodeT.mk (hullFrom bx (at_ bx (at_ its 0)) (its.take i.toNat)) 0 0 0 0)]).length I.length) ++ flatN (growT bx leaf g_ (((srt)).drop (((((srt).length) : Int) + 1) / 2).toNat)) ((N ++ [(NodeT.mk (hullFrom bx (at_ bx (at_ its 0)) (its.take i.toNat)) 0 0 0 0)]) ++ flatN (growT bx leaf g_ (((srt)).take (((((srt).length) : Int) + 1) / 2).toNat)) (N ++ [(NodeT.mk (hullFrom bx (at_ bx (at_ its 0)) (its.take i.toNat)) 0 0 0 0)]).length I.length).length (I ++ (growT bx leaf g_ (((srt)).take (((((srt).length) : Int) + 1) / 2).toNat)).items).length) (N.length : Int)).Box) (((N ++ [(NodeT.mk (hullFrom bx (at_ bx (at_ its 0)) (its.take i.toNat)) 0 0 0 0)]).length) : Int) ((at_ (((N ++ [(NodeT.mk (hullFrom bx (at_ bx (at_ its 0)) (its.take i.toNat)) 0 0 0 0)]) ++ flatN (growT bx leaf g_ (((srt)).take (((((srt).length) : Int) + 1) / 2).toNat)) (N ++ [(NodeT.mk (hullFrom bx (at_ bx (at_ its 0)) (its.take i.toNat)) 0 0 0 0)]).length I.length) ++ flatN (growT bx leaf g_ (((srt)).drop (((((srt).length) : Int) + 1) / 2).toNat)) ((N ++ [(NodeT.mk (hullFrom bx (at_ bx (at_ its 0)) (its.take i.toNat)) 0 0 0 0)]) ++ flatN (growT bx leaf g_ (((srt)).take (((((srt).length) : Int) + 1) / 2).toNat)) (N ++ [(NodeT.mk (hullFrom bx (at_ bx (at_ its 0)) (its.take i.toNat)) 0 0 0 0)]).length I.length).length (I ++ (growT bx leaf g_ (((srt)).take (((((srt).length) : Int) + 1) / 2).toNat)).items).length) (N.length : Int)).Right) ((at_ (((N ++ [(NodeT.mk (hullFrom bx (at_ bx (at_ its 0)) (its.take i.toNat)) 0 0 0 0)]) ++ flatN (growT bx leaf g_ (((srt)).take (((((srt).length) : Int) + 1) / 2).toNat)) (N ++ [(NodeT.mk (hullFrom bx (at_ bx (at_ its 0)) (its.take i.toNat)) 0 0 0 0)]).length I.length) ++ flatN (growT bx leaf g_ (((srt)).drop (((((srt).length) : Int) + 1) / 2).toNat)) ((N ++ [(NodeT.mk (hullFrom bx (at_ bx (at_ its 0)) (its.take i.toNat)) 0 0 0 0)]) ++ flatN (growT bx leaf g_ (((srt)).take (((((srt).length) : Int) + 1) / 2).toNat)) (N ++ [(NodeT.mk (hullFrom bx (at_ bx (at_ its 0)) (its.take i.toNat)) 0 0 0 0)]).length I.length).length (I ++ (growT bx leaf g_ (((srt)).take (((((srt).length) : Int) + 1) / 2).toNat)).items).length) (N.length : Int)).First) ((at_ (((N ++ [(NodeT.mk (hullFrom bx (at_ bx (at_ its 0)) (its.take i.toNat)) 0 0 0 0)]) ++ flatN (growT bx leaf g_ (((srt)).take (((((srt).length) : Int) + 1) / 2).toNat)) (N ++ [(NodeT.mk (hullFrom bx (at_ bx (at_ its 0)) (its.take i.toNat)) 0 0 0 0)]).length I.length) ++ flatN (growT bx leaf g_ (((srt)).drop (((((srt).length) : Int) + 1) / 2).toNat)) ((N ++ [(NodeT.mk (hullFrom bx (at_ bx (at_ its 0)) (its.take i.toNat)) 0 0 0 0)]) ++ flatN (growT bx leaf g_ (((srt)).take (((((srt).length) : Int) + 1) / 2).toNat)) (N ++ [(NodeT.mk (hullFrom bx (at_ bx (at_ its 0)) (its.take i.toNat)) 0 0 0 0)]).length I.length).length (I ++ (growT bx leaf g_ (((srt)).take (((((srt).length) : Int) + 1) / 2).toNat)).items).length) (N.length : Int)).Count)))) (N.length : Int)).First) ((at_ (((((N ++ [(NodeT.mk (hullFrom bx (at_ bx (at_ its 0)) (its.take i.toNat)) 0 0 0 0)]) ++ flatN (growT bx leaf g_ (((srt)).take (((((srt).length) : Int) + 1) / 2).toNat)) (N ++ [(NodeT.mk (hullFrom bx (at_ bx (at_ its 0)) (its.take i.toNat)) 0 0 0 0)]).length I.length) ++ flatN (growT bx leaf g_ (((srt)).drop (((((srt).length) : Int) + 1) / 2).toNat)) ((N ++ [(NodeT.mk (hullFrom bx (at_ bx (at_ its 0)) (its.take i.toNat)) 0 0 0 0)]) ++ flatN (growT bx leaf g_ (((srt)).take (((((srt).length) : Int) + 1) / 2).toNat)) (N ++ [(NodeT.mk (hullFrom bx (at_ bx (at_ its 0)) (its.take i.toNat)) 0 0 0 0)]).length I.length).length (I ++ (growT bx leaf g_ (((srt)).take (((((srt).length) : Int) + 1) / 2).toNat)).items).length).set (N.length : Int).toNat (NodeT.mk ((at_ (((N ++ [(NodeT.mk (hullFrom bx (at_ bx (at_ its 0)) (its.take i.toNat)) 0 0 0 0)]) ++ flatN (growT bx leaf g_ (((srt)).take (((((srt).length) : Int) + 1) / 2).toNat)) (N ++ [(NodeT.mk (hullFrom bx (at_ bx (at_ its 0)) (its.take i.toNat)) 0 0 0 0)]).length I.length) ++ flatN (growT bx leaf g_ (((srt)).drop (((((srt).length) : Int) + 1) / 2).toNat)) ((N ++ [(NodeT.mk (hullFrom bx (at_ bx (at_ its 0)) (its.take i.toNat)) 0 0 0 0)]) ++ flatN (growT bx leaf g_ (((srt)).take (((((srt).length) : Int) + 1) / 2).toNat)) (N ++ [(NodeT.mk (hullFrom bx (at_ bx (at_ its 0)) (its.take i.toNat)) 0 0 0 0)]).length I.length).length (I ++ (growT bx leaf g_ (((srt)).take (((((srt).length) : Int) + 1) / 2).toNat)).items).length) (N.length : Int)).Box) (((N ++ [(NodeT.mk (hullFrom bx (at_ bx (at_ its 0)) (its.take i.toNat)) 0 0 0 0)]).length) : Int) ((at_ (((N ++ [(NodeT.mk (hullFrom bx (at_ bx (at_ its 0)) (its.take i.toNat)) 0 0 0 0)]) ++ flatN (growT bx leaf g_ (((srt)).take (((((srt).length) : Int) + 1) / 2).toNat)) (N ++ [(NodeT.mk (hullFrom bx (at_ bx (at_ its 0)) (its.take i.toNat)) 0 0 0 0)]).length I.length) ++ flatN (growT bx leaf g_ (((srt)).drop (((((srt).length) : Int) + 1) / 2).toNat)) ((N ++ [(NodeT.mk (hullFrom bx (at_ bx (at_ its 0)) (its.take i.toNat)) 0 0 0 0)]) ++ flatN (growT bx leaf g_ (((srt)).take (((((srt).length) : Int) + 1) / 2).toNat)) (N ++ [(NodeT.mk (hullFrom bx (at_ bx (at_ its 0)) (its.take i.toNat)) 0 0 0 0)]).length I.length).length (I ++ (growT bx leaf g_ (((srt)).take (((((srt).length) : Int) + 1) / 2).toNat)).items).length) (N.length : Int)).Right) ((at_ (((N ++ [(NodeT.mk (hullFrom bx (at_ bx (at_ its 0)) (its.take i.toNat)) 0 0 0 0)]) ++ flatN (growT bx leaf g_ (((srt)).take (((((srt).length) : Int) + 1) / 2).toNat)) (N ++ [(NodeT.mk (hullFrom bx (at_ bx (at_ its 0)) (its.take i.toNat)) 0 0 0 0)]).length I.length) ++ flatN (growT bx leaf g_ (((srt)).drop (((((srt).length) : Int) + 1) / 2).toNat)) ((N ++ [(NodeT.mk (hullFrom bx (at_ bx (at_ its 0)) (its.take i.toNat)) 0 0 0 0)]) ++ flatN (growT bx leaf g_ (((srt)).take (((((srt).length) : Int) + 1) / 2).toNat)) (N ++ [(NodeT.mk (hullFrom bx (at_ bx (at_ its 0)) (its.take i.toNat)) 0 0 0 0)]).length I.length).length (I ++ (growT bx leaf g_ (((srt)).take (((((srt).length) : Int) + 1) / 2).toNat)).items).length) (N.length : Int)).First) ((at_ (((N ++ [(NodeT.mk (hullFrom bx (at_ bx (at_ its 0)) (its.take i.toNat)) 0 0 0 0)]) ++ flatN (growT bx leaf g_ (((srt)).take (((((srt).length) : Int) + 1) / 2).toNat)) (N ++ [(NodeT.mk (hullFrom bx (at_ bx (at_ its 0)) (its.take i.toNat)) 0 0 0 0)]).length I.length) ++ flatN (growT bx leaf g_ (((srt)).drop (((((srt).length) : Int) + 1) / 2).toNat)) ((N ++ [(NodeT.mk (hullFrom bx (at_ bx (at_ its 0)) (its.take i.toNat)) 0 0 0 0)]) ++ flatN (growT bx leaf g_ (((srt)).take (((((srt).length) : Int) + 1) / 2).toNat)) (N ++ [(NodeT.mk (hullFrom bx (at_ bx (at_ its 0)) (its.take i.toNat)) 0 0 0 0)]).length I.length).length (I ++ (growT bx leaf g_ (((srt)).take (((((srt).length) : Int) + 1) / 2).toNat)).items).length) (N.length : Int)).Count)))) (N.length : Int)).Count))) eNode_len (by omega) (by first | omega | (simp only [List.length_set, List.length_append, List.length_cons, List.length_nil]; omega)) (by decide) rfl) ?_)
       intro H755 h756 k757
       have h758 := (k757 _ (NotId.ne q726.2.1 e753)).trans h745
       have h759 := (k757 _ (NotId.ne q727.2.1 e753)).trans h746
       have h760 := (k757 _ (NotId.ne q728.2.1 e753)).trans h747
       have o761 := Own.store e753 o748 h756 (len' := (((((((N ++ [(NodeT.mk (hullFrom bx (at_ bx (at_ its 0)) (its.take i.toNat)) 0 0 0 0)]) ++ flatN (growT bx leaf g_ (((srt)).take (((((srt).length) : Int) + 1) / 2).toNat)) (N ++ [(NodeT.mk (hullFrom bx (at_ bx (at_ its 0)) (its.take i.toNat)) 0 0 0 0)]).length I.length) ++ flatN (growT bx leaf g_ (((srt)).drop (((((srt).length) : Int) + 1) / 2).toNat)) ((N ++ [(NodeT.mk (hullFrom bx (at_ bx (at_ its 0)) (its.take i.toNat)) 0 0 0 0)]) ++ flatN (growT bx leaf g_ (((srt)).take (((((srt).length) : Int) + 1) / 2).toNat)) (N ++ [(NodeT.mk (hullFrom bx (at_ bx (at_ its 0)) (its.take i.toNat)) 0 0 0 0)]).length I.length).length (I ++ (growT bx leaf g_ (((srt)).take (((((srt).length) : Int) + 1) / 2).toNat)).items).length).set (N.length : Int).toNat (NodeT.mk ((at_ (((N ++ [(NodeT.mk (hullFrom bx (at_ bx (at_ its 0)) (its.take i.toNat)) 0 0 0 0)]) ++ flatN (growT bx leaf g_ (((srt)).take (((((srt).length) : Int) + 1) / 2).toNat)) (N ++ [(NodeT.mk (hullFrom bx (at_ bx (at_ its 0)) (its.take i.toNat)) 0 0 0 0)]).length I.length) ++ flatN (growT bx leaf g_ (((srt)).drop (((((srt).length) : Int) + 1) / 2).toNat)) ((N ++ [(NodeT.mk (hullFrom bx (at_ bx (at_ its 0)) (its.take i.toNat)) 0 0 0 0)]) ++ flatN (growT bx leaf g_ (((srt)).take (((((srt).length) : Int) + 1) / 2).toNat)) (N ++ [(NodeT.mk (hullFrom bx (at_ bx (at_ its 0)) (its.take i.toNat)) 0 0 0 0)]).length I.length).length (I ++ (growT bx leaf g_ (((srt)).take (((((srt).length) : Int) + 1) / 2).toNat)).items).length) (N.length : Int)).Box) (((N ++ [(NodeT.mk (hullFrom bx (at_ bx (at_ its 0)) (its.take i.toNat)) 0 0 0 0)]).length) : Int) ((at_ (((N ++ [(NodeT.mk (hullFrom bx (at_ bx (at_ its 0)) (its.take i.toNat)) 0 0 0 0)]) ++ flatN (growT bx leaf g_ (((srt)).take (((((srt).length) : Int) + 1) / 2).toNat)) (N ++ [(NodeT.mk (hullFrom bx (at_ bx (at_ its 0)) (its.take i.toNat)) 0 0 0 0)]).length I.length) ++ flatN (growT bx leaf g_ (((srt)).drop (((((srt).length) : Int) + 1) / 2).toNat)) ((N ++ [(NodeT.mk (hullFrom bx (at_ bx (at_ its 0)) (its.take i.toNat)) 0 0 0 0)]) ++ flatN (growT bx leaf g_ (((srt)).take (((((srt).length) : Int) + 1) / 2).toNat)) (N ++ [(NodeT.mk (hullFrom bx (at_ bx (at_ its 0)) (its.take i.toNat)) 0 0 0 0)]).length I.length).length (I ++ (growT bx leaf g_ (((srt)).take (((((srt).length) : Int) + 1) / 2).toNat)).items).length) (N.length : Int)).Right) ((at_ (((N ++ [(NodeT.mk (hullFrom bx (at_ bx (at_ its 0)) (its.take i.toNat)) 0 0 0 0)]) ++ flatN (growT bx leaf g_ (((srt)).take (((((srt).length) : Int) + 1) / 2).toNat)) (N ++ [(NodeT.mk (hullFrom bx (at_ bx (at_ its 0)) (its.take i.toNat)) 0 0 0 0)]).length I.length) ++ flatN (growT bx leaf g_ (((srt)).drop (((((srt).length) : Int) + 1) / 2).toNat)) ((N ++ [(NodeT.mk (hullFrom bx (at_ bx (at_ its 0)) (its.take i.toNat)) 0 0 0 0)]) ++ flatN (growT bx leaf g_ (((srt)).take (((((srt).length) : Int) + 1) / 2).toNat)) (N ++ [(NodeT.mk (hullFrom bx (at_ bx (at_ its 0)) (its.take i.toNat)) 0 0 0 0)]).length I.length).length (I ++ (growT bx leaf g_ (((srt)).take (((((srt).length) : Int) + 1) / 2).toNat)).items).length) (N.length : Int)).First) ((at_ (((N ++ [(NodeT.mk (hullFrom bx (at_ bx (at_ its 0)) (its.take i.toNat)) 0 0 0 0)]) ++ flatN (growT bx leaf g_ (((srt)).take (((((srt).length) : Int) + 1) / 2).toNat)) (N ++ [(NodeT.mk (hullFrom bx (at_ bx (at_ its 0)) (its.take i.toNat)) 0 0 0 0)]).length I.length) ++ flatN (growT bx leaf g_ (((srt)).drop (((((srt).length) : Int) + 1) / 2).toNat)) ((N ++ [(NodeT.mk (hullFrom bx (at_ bx (at_ its 0)) (its.take i.toNat)) 0 0 0 0)]) ++ flatN (growT bx leaf g_ (((srt)).take (((((srt).length) : Int) + 1) / 2).toNat)) (N ++ [(NodeT.mk (hullFrom bx (at_ bx (at_ its 0)) (its.take i.toNat)) 0 0 0 0)]).length I.length).length (I ++ (growT bx leaf g_ (((srt)).take (((((srt).length) : Int) + 1) / 2).toNat)).items).length) (N.length : Int)).Count)))).set (N.length : Int).toNat (NodeT.mk ((at_ (((((N ++ [(NodeT.mk (hullFrom bx (at_ bx (at_ its 0)) (its.take i.toNat)) 0 0 0 0)]) ++ flatN (growT bx leaf g_ (((srt)).take (((((srt).length) : Int) + 1) / 2).toNat)) (N ++ [(NodeT.mk (hullFrom bx (at_ bx (at_ its 0)) (its.take i.toNat)) 0 0 0 0)]).length I.length) ++ flatN (growT bx leaf g_ (((srt)).drop (((((srt).length) : Int) + 1) / 2).toNat)) ((N ++ [(NodeT.mk (hullFrom bx (at_ bx (at_ its 0)) (its.take i.toNat)) 0 0 0 0)]) ++ flatN (growT bx leaf g_ (((srt)).take (((((srt).length) : Int) + 1) / 2).toNat)) (N ++ [(NodeT.mk (hullFrom bx (at_ bx (at_ its 0)) (its.take i.toNat)) 0 0 0 0)]).length I.length).length (I ++ (growT bx leaf g_ (((srt)).take (((((srt).length) : Int) + 1) / 2).toNat)).items).length).set (N.length : Int).toNat (NodeT.mk ((at_ (((N ++ [(NodeT.mk (hullFrom bx (at_ bx (at_ its 0)) (its.take i.toNat)) 0 0 0 0)]) ++ flatN (growT bx leaf g_ (((srt)).take (((((srt).length) : Int) + 1) / 2).toNat)) (N ++ [(NodeT.mk (hullFrom bx (at_ bx (at_ its 0)) (its.take i.toNat)) 0 0 0 0)]).length I.length) ++ flatN (growT bx leaf g_ (((srt)).drop (((((srt).length) : Int) + 1) / 2).toNat)) ((N ++ [(NodeT.mk (hullFrom bx (at_ bx (at_ its 0)) (its.take i.toNat)) 0 0 0 0)]) ++ flatN (growT bx leaf g_ (((srt)).take (((((srt).length) : Int) + 1) / 2).toNat)) (N ++ [(NodeT.mk (hullFrom bx (at_ bx (at_ its 0)) (its.take i.toNat)) 0 0 0 0)]).length I.length).length (I ++ (growT bx leaf g_ (((srt)).take (((((srt).length) : Int) + 1) / 2).toNat)).items).length) (N.length : Int)).Box) (((N ++ [(NodeT.mk (hullFrom bx (at_ bx (at_ its 0)) (its.take i.toNat)) 0 0 0 0)]).length) : Int) ((at_ (((N ++ [(NodeT.mk (hullFrom bx (at_ bx (at_ its 0)) (its.take i.toNat)) 0 0 0 0)]) ++ flatN (growT bx leaf g_ (((srt)).take (((((srt).length) : Int) + 1) / 2).toNat)) (N ++ [(NodeT.mk (hullFrom bx (at_ bx (at_ its 0)) (its.take i.toNat)) 0 0 0 0)]).length I.length) ++ flatN (growT bx leaf g_ (((srt)).drop (((((srt).length) : Int) + 1) / 2).toNat)) ((N ++ [(NodeT.mk (hullFrom bx (at_ bx (at_ its 0)) (its.take i.toNat)) 0 0 0 0)]) ++ flatN (growT bx leaf g_ (((srt)).take (((((srt).length) : Int) + 1) / 2).toNat)) (N ++ [(NodeT.mk (hullFrom bx (at_ bx (at_ its 0)) (its.take i.toNat)) 0 0 0 0)]).length I.length).length (I ++ (growT bx leaf g_ (((srt)).take (((((srt).length) : Int) + 1) / 2).toNat)).items).length) (N.length : Int)).Right) ((at_ (((N ++ [(NodeT.mk (hullFrom bx (at_ bx (at_ its 0)) (its.take i.toNat)) 0 0 0 0)]) ++ flatN (growT bx leaf g_ (((srt)).take (((((srt).length) : Int) + 1) / 2).toNat)) (N ++ [(NodeT.mk (hullFrom bx (at_ bx (at_ its 0)) (its.take i.toNat)) 0 0 0 0)]).length I.length) ++ flatN (growT bx leaf g_ (((srt)).drop (((((srt).length) : Int) + 1) / 2).toNat)) ((N ++ [(NodeT.mk (hullFrom bx (at_ bx (at_ its 0)) (its.take i.toNat)) 0 0 0 0)]) ++ flatN (growT bx leaf g_ (((srt)).take (((((srt).length) : Int) + 1) / 2).toNat)) (N ++ [(NodeT.mk (hullFrom bx (at_ bx (at_ its 0)) (its.take i.toNat)) 0 0 0 0)]).length I.length).length (I ++ (growT bx leaf g_ (((srt)).take (((((srt).length) : Int) + 1) / 2).toNat)).items).length) (N.length : Int)).First) ((at_ (((N ++ [(NodeT.mk (hullFrom bx (at_ bx (at_ its 0)) (its.take i.toNat)) 0 0 0 0)]) ++ flatN (growT bx leaf g_ (((srt)).take (((((srt).length) : Int) + 1) / 2).toNat)) (N ++ [(NodeT.mk (hullFrom bx (at_ bx (at_ its 0)) (its.take i.toNat)) 0 0 0 0)]).length I.length) ++ flatN (growT bx leaf g_ (((srt)).drop (((((srt).length) : Int) + 1) / 2).toNat)) ((N ++ [(NodeT.mk (hullFrom bx (at_ bx (at_ its 0)) (its.take i.toNat)) 0 0 0 0)]) ++ flatN (growT bx leaf g_ (((srt)).take (((((srt).length) : Int) + 1) / 2).toNat)) (N ++ [(NodeT.mk (hullFrom bx (at_ bx (at_ its 0)) (its.take i.toNat)) 0 0 0 0)]).length I.length).length (I ++ (growT bx leaf g_ (((srt)).take (((((srt).length) : Int) + 1) / 2).toNat)).items).length) (N.length : Int)).Count)))) (N.length : Int)).Box) ((at_ (((((N ++ [(NodeT.mk (hullFrom bx (at_ bx (at_ its 0)) (its.take i.toNat)) 0 0 0 0)]) ++ flatN (growT bx leaf g_ (((srt)).take (((((srt).length) : Int) + 1) / 2).toNat)) (N ++ [(NodeT.mk (hullFrom bx (at_ bx (at_ its 0)) (its.take i.toNat)) 0 0 0 0)]).length I.length) ++ flatN (growT bx leaf g_ (((srt)).drop (((((srt).length) : Int) + 1) / 2).toNat)) ((N ++ [(NodeT.mk (hullFrom bx (at_ bx (at_ its 0)) (its.take i.toNat)) 0 0 0 0)]) ++ flatN (growT bx leaf g_ (((srt)).take (((((srt).length) : Int) + 1) / 2).toNat)) (N ++ [(NodeT.mk (hullFrom bx (at_ bx (at_ its 0)) (its.take i.toNat)) 0 0 0 0)]).length I.length).length (I ++ (growT bx leaf g_ (((srt)).take (((((srt).length) : Int) + 1) / 2).toNat)).items).length).set (N.length : Int).toNat (NodeT.mk ((at_ (((N ++ [(NodeT.mk (hullFrom bx (at_ bx (at_ its 0)) (its.take i.toNat)) 0 0 0 0)]) ++ flatN (growT bx leaf g_ (((srt)).take (((((srt).length) : Int) + 1) / 2).toNat)) (N ++ [(NodeT.mk (hullFrom bx (at_ bx (at_ its 0)) (its.take i.toNat)) 0 0 0 0)]).length I.length) ++ flatN (growT bx leaf g_ (((srt)).drop (((((srt).length) : Int) + 1) / 2).toNat)) ((N ++ [(NodeT.mk (hullFrom bx (at_ bx (at_ its 0)) (its.take i.toNat)) 0 0 0 0)]) ++ flatN (growT bx leaf g_ (((srt)).take (((((srt).length) : Int) + 1) / 2).toNat)) (N ++ [(NodeT.mk (hullFrom bx (at_ bx (at_ its 0)) (its.take i.toNat)) 0 0 0 0)]).length I.length).length (I ++ (growT bx leaf g_ (((srt)).take (((((srt).length) : Int) + 1) / 2).toNat)).items).length) (N.length : Int)).Box) (((N ++ [(NodeT.mk (hullFrom bx (at_ bx (at_ its 0)) (its.take i.toNat)) 0 0 0 0)]).length) : Int) ((at_ (((N ++ [(NodeT.mk (hullFrom bx (at_ bx (at_ its 0)) (its.take i.toNat)) 0 0 0 0)]) ++ flatN (growT bx leaf g_ (((srt)).take (((((srt).length) : Int) + 1) / 2).toNat)) (N ++ [(NodeT.mk (hullFrom bx (at_ bx (at_ its 0)) (its.take i.toNat)) 0 0 0 0)]).length I.length) ++ flatN (growT bx leaf g_ (((srt)).drop (((((srt).length) : Int) + 1) / 2).toNat)) ((N ++ [(NodeT.mk (hullFrom bx (at_ bx (at_ its 0)) (its.take i.toNat)) 0 0 0 0)]) ++ flatN (growT bx leaf g_ (((srt)).take (((((srt).length) : Int) + 1) / 2).toNat)) (N ++ [(NodeT.mk (hullFrom bx (at_ bx (at_ its 0)) (its.take i.toNat)) 0 0 0 0)]).length I.length).length (I ++ (growT bx leaf g_ (((srt)).take (((((srt).length) : Int) + 1) / 2).toNat)).items).length) (N.length : Int)).Right) ((at_ (((N ++ [(NodeT.mk (hullFrom bx (at_ bx (at_ its 0)) (its.take i.toNat)) 0 0 0 0)]) ++ flatN (growT bx leaf g_ (((srt)).take (((((srt).length) : Int) + 1) / 2).toNat)) (N ++ [(NodeT.mk (hullFrom bx (at_ bx (at_ its 0)) (its.take i.toNat)) 0 0 0 0)]).length I.length) ++ flatN (growT bx leaf g_ (((srt)).drop (((((srt).length) : Int) + 1) / 2).toNat)) ((N ++ [(NodeT.mk (hullFrom bx (at_ bx (at_ its 0)) (its.take i.toNat)) 0 0 0 0)]) ++ flatN (growT bx leaf g_ (((srt)).take (((((srt).length) : Int) + 1) / 2).toNat)) (N ++ [(NodeT.mk (hullFrom bx (at_ bx (at_ its 0)) (its.take i.toNat)) 0 0 0 0)]).length I.length).length (I ++ (growT bx leaf g_ (((srt)).take (((((srt).length) : Int) + 1) / 2).toNat)).items).length) (N.length : Int)).First) ((at_ (((N ++ [(NodeT.mk (hullFrom bx (at_ bx (at_ its 0)) (its.take i.toNat)) 0 0 0 0)]) ++ flatN (growT bx leaf g_ (((srt)).take (((((srt).length) : Int) + 1) / 2).toNat)) (N ++ [(NodeT.mk (hullFrom bx (at_ bx (at_ its 0)) (its.take i.toNat)) 0 0 0 0)]).length I.length) ++ flatN (growT bx leaf g_ (((srt)).drop (((((srt).length) : Int) + 1) / 2).toNat)) ((N ++ [(NodeT.mk (hullFrom bx (at_ bx (at_ its 0)) (its.take i.toNat)) 0 0 0 0)]) ++ flatN (growT bx leaf g_ (((srt)).take (((((srt).length) : Int) + 1) / 2).toNat)) (N ++ [(NodeT.mk (hullFrom bx (at_ bx (at_ its 0)) (its.take i.toNat)) 0 0 0 0)]).length I.length).length (I ++ (growT bx leaf g_ (((srt)).take (((((srt).length) : Int) + 1) / 2).toNat)).items).length) (N.length : Int)).Count)))) (N.length : Int)).Left) ((((N ++ [(NodeT.mk (hullFrom bx (at_ bx (at_ its 0)) (its.take i.toNat)) 0 0 0 0)]) ++ flatN (growT bx leaf g_ (((srt)).take (((((srt).length) : Int) + 1) / 2).toNat)) (N ++ [(NodeT.mk (hullFrom bx (at_ bx (at_ its 0)) (its.take i.toNat)) 0 0 0 0)]).length I.length).length) : Int) ((at_ (((((N ++ [(NodeT.mk (hullFrom bx (at_ bx (at_ its 0)) (its.take i.toNat)) 0 0 0 0)]) ++ flatN (growT bx leaf g_ (((srt)).take (((((srt).length) : Int) + 1) / 2).toNat)) (N ++ [(NodeT.mk (hullFrom bx (at_ bx (at_ its 0)) (its.take i.toNat)) 0 0 0 0)]).length I.length) ++ flatN (growT bx leaf g_ (((srt)).drop (((((srt).length) : Int) + 1) / 2).toNat)) ((N ++ [(NodeT.mk (hullFrom bx (at_ bx (at_ its 0)) (its.take i.toNat)) 0 0 0 0)]) ++ flatN (growT bx leaf g_ (((srt)).take (((((srt).length) : Int) + 1) / 2).toNat)) (N ++ [(NodeT.mk (hullFrom bx (at_ bx (at_ its 0)) (its.take i.toNat)) 0 0 0 0)]).length I.length).length (I ++ (growT bx leaf g_ (((srt)).take (((((srt).length) : Int) + 1) / 2).toNat)).items).length).set (N.length : Int).toNat (NodeT.mk ((at_ (((N ++ [(NodeT.mk (hullFrom bx (at_ bx (at_ its 0)) (its.take i.toNat)) 0 0 0 0)]) ++ flatN (growT bx leaf g_ (((srt)).take (((((srt).length) : Int) + 1) / 2).toNat)) (N ++ [(NodeT.mk (hullFrom bx (at_ bx (at_ its 0)) (its.take i.toNat)) 0 0 0 0)]).length I.length) ++ flatN (growT bx leaf g_ (((srt)).drop (((((srt).length) : Int) + 1) / 2).toNat)) ((N ++ [(NodeT.mk (hullFrom bx (at_ bx (at_ its 0)) (its.take i.toNat)) 0 0 0 0)]) ++ flatN (growT bx leaf g_ (((srt)).take (((((srt).length) : Int) + 1) / 2).toNat)) (N ++ [(NodeT.mk (hullFrom bx (at_ bx (at_ its 0)) (its.take i.toNat)) 0 0 0 0)]).length I.length).length (I ++ (growT bx leaf g_ (((srt)).take (((((srt).length) : Int) + 1) / 2).toNat)).items).length) (N.length : Int)).Box) (((N ++ [(NodeT.mk (hullFrom bx (at_ bx (at_ its 0)) (its.take i.toNat)) 0 0 0 0)]).length) : Int) ((at_ (((N ++ [(NodeT.mk (hullFrom bx (at_ bx (at_ its 0)) (its.take i.toNat)) 0 0 0 0)]) ++ flatN (growT bx leaf g_ (((srt)).take (((((srt).length) : Int) + 1) / 2).toNat)) (N ++ [(NodeT.mk (hullFrom bx (at_ bx (at_ its 0)) (its.take i.toNat)) 0 0 0 0)]).length I.length) ++ flatN (growT bx leaf g_ (((srt)).drop (((((srt).length) : Int) + 1) / 2).toNat)) ((N ++ [(NodeT.mk (hullFrom bx (at_ bx (at_ its 0)) (its.take i.toNat)) 0 0 0 0)]) ++ flatN (growT bx leaf g_ (((srt)).take (((((srt).length) : Int) + 1) / 2).toNat)) (N ++ [(NodeT.mk (hullFrom bx (at_ bx (at_ its 0)) (its.take i.toNat)) 0 0 0 0)]).length I.length).length (I ++ (growT bx leaf g_ (((srt)).take (((((srt).length) : Int) + 1) / 2).toNat)).items).length) (N.length : Int)).Right) ((at_ (((N ++ [(NodeT.mk (hullFrom bx (at_ bx (at_ its 0)) (its.take i.toNat)) 0 0 0 0)]) ++ flatN (growT bx leaf g_ (((srt)).take (((((srt).length) : Int) + 1) / 2).toNat)) (N ++ [(NodeT.mk (hullFrom bx (at_ bx (at_ its 0)) (its.take i.toNat)) 0 0 0 0)]).length I.length) ++ flatN (growT bx leaf g_ (((srt)).drop (((((srt).length) : Int) + 1) / 2).toNat)) ((N ++ [(NodeT.mk (hullFrom bx (at_ bx (at_ its 0)) (its.take i.toNat)) 0 0 0 0)]) ++ flatN (growT bx leaf g_ (((srt)).take (((((srt).length) : Int) + 1) / 2).toNat)) (N ++ [(NodeT.mk (hullFrom bx (at_ bx (at_ its 0)) (its.take i.toNat)) 0 0 0 0)]).length I.length).length (I ++ (growT bx leaf g_ (((srt)).take (((((srt).length) : Int) + 1) / 2).toNat)).items).length) (N.length : Int)).First) ((at_ (((N ++ [(NodeT.mk (hullFrom bx (at_ bx (at_ its 0)) (its.take i.toNat)) 0 0 0 0)]) ++ flatN (growT bx leaf g_ (((srt)).take (((((srt).length) : Int) + 1) / 2).toNat)) (N ++ [(NodeT.mk (hullFrom bx (at_ bx (at_ its 0)) (its.take i.toNat)) 0 0 0 0)]).length I.length) ++ flatN (growT bx leaf g_ (((srt)).drop (((((srt).length) : Int) + 1) / 2).toNat)) ((N ++ [(NodeT.mk (hullFrom bx (at_ bx (at_ its 0)) (its.take i.toNat)) 0 0 0 0)]) ++ flatN (growT bx leaf g_ (((srt)).take (((((srt).length) : Int) + 1) / 2).toNat)) (N ++ [(NodeT.mk (hullFrom bx (at_ bx (at_ its 0)) (its.take i.toNat)) 0 0 0 0)]).length I.length).length (I ++ (growT bx leaf g_ (((srt)).take (((((srt).length) : Int) + 1) / 2).toNat)).items).length) (N.length : Int)).Count)))) (N.length : Int)).First) ((at_ (((((N ++ [(NodeT.mk (hullFrom bx (at_ bx (at_ its 0)) (its.take i.toNat)) 0 0 0 0)]) ++ flatN (growT bx leaf g_ (((srt)).take (((((srt).length) : Int) + 1) / 2).toNat)) (N ++ [(NodeT.mk (hullFrom bx (at_ bx (at_ its 0)) (its.take i.toNat)) 0 0 0 0)]).length I.length) ++ flatN (growT bx leaf g_ (((srt)).drop (((((srt).length) : Int) + 1) / 2).toNat)) ((N ++ [(NodeT.mk (hullFrom bx (at_ bx (at_ its 0)) (its.take i.toNat)) 0 0 0 0)]) ++ flatN (growT bx leaf g_ (((srt)).take (((((srt).length) : Int) + 1) / 2).toNat)) (N ++ [(NodeT.mk (hullFrom bx (at_ bx (at_ its 0)) (its.take i.toNat)) 0 0 0 0)]).length I.length).length (I ++ (growT bx leaf g_ (((srt)).take (((((srt).length) : Int) + 1) / 2).toNat)).items).length).set (N.length : Int).toNat (NodeT.mk ((at_ (((N ++ [(NodeT.mk (hullFrom bx (at_ bx (at_ its 0)) (its.take i.toNat)) 0 0 0 0)]) ++ flatN (growT bx leaf g_ (((srt)).take (((((srt).length) : Int) + 1) / 2).toNat)) (N ++ [(NodeT.mk (hullFrom bx (at_ bx (at_ its 0)) (its.take i.toNat)) 0 0 0 0)]).length I.length) ++ flatN (growT bx leaf g_ (((srt)).drop (((((srt).length) : Int) + 1) / 2).toNat)) ((N ++ [(NodeT.mk (hullFrom bx (at_ bx (at_ its 0)) (its.take i.toNat)) 0 0 0 0)]) ++ flatN (growT bx leaf g_ (((srt)).take (((((srt).length) : Int) + 1) / 2).toNat)) (N ++ [(NodeT.mk (hullFrom bx (at_ bx (at_ its 0)) (its.take i.toNat)) 0 0 0 0)]).length I.length).length (I ++ (growT bx leaf g_ (((srt)).take (((((srt).length) : Int) + 1) / 2).toNat)).items).length) (N.length : Int)).Box) (((N ++ [(NodeT.mk (hullFrom bx (at_ bx (at_ its 0)) (its.take i.toNat)) 0 0 0 0)]).length) : Int) ((at_ (((N ++ [(NodeT.mk (hullFrom bx (at_ bx (at_ its 0)) (its.take i.toNat)) 0 0 0 0)]) ++ flatN (growT bx leaf g_ (((srt)).take (((((srt).length) : Int) + 1) / 2).toNat)) (N ++ [(NodeT.mk (hullFrom bx (at_ bx (at_ its 0)) (its.take i.toNat)) 0 0 0 0)]).length I.length) ++ flatN (growT bx leaf g_ (((srt)).drop (((((srt).length) : Int) + 1) / 2).toNat)) ((N ++ [(NodeT.mk (hullFrom bx (at_ bx (at_ its 0)) (its.take i.toNat)) 0 0 0 0)]) ++ flatN (growT bx leaf g_ (((srt)).take (((((srt).length) : Int) + 1) / 2).toNat)) (N ++ [(NodeT.mk (hullFrom bx (at_ bx (at_ its 0)) (its.take i.toNat)) 0 0 0 0)]).length I.length).length (I ++ (growT bx leaf g_ (((srt)).take (((((srt).length) : Int) + 1) / 2).toNat)).items).length) (N.length : Int)).Right) ((at_ (((N ++ [(NodeT.mk (hullFrom bx (at_ bx (at_ its 0)) (its.take i.toNat)) 0 0 0 0)]) ++ flatN (growT bx leaf g_ (((srt)).take (((((srt).length) : Int) + 1) / 2).toNat)) (N ++ [(NodeT.mk (hullFrom bx (at_ bx (at_ its 0)) (its.take i.toNat)) 0 0 0 0)]).length I.length) ++ flatN (growT bx leaf g_ (((srt)).drop (((((srt).length) : Int) + 1) / 2).toNat)) ((N ++ [(NodeT.mk (hullFrom bx (at_ bx (at_ its 0)) (its.take i.toNat)) 0 0 0 0)]) ++ flatN (growT bx leaf g_ (((srt)).take (((((srt).length) : Int) + 1) / 2).toNat)) (N ++ [(NodeT.mk (hullFrom bx (at_ bx (at_ its 0)) (its.take i.toNat)) 0 0 0 0)]).length I.length).length (I ++ (growT bx leaf g_ (((srt)).take (((((srt).length) : Int) + 1) / 2).toNat)).items).length) (N.length : Int)).First) ((at_ (((N ++ [(NodeT.mk (hullFrom bx (at_ bx (at_ its 0)) (its.take i.toNat)) 0 0 0 0)]) ++ flatN (growT bx leaf g_ (((srt)).take (((((srt).length) : Int) + 1) / 2).toNat)) (N ++ [(NodeT.mk (hullFrom bx (at_ bx (at_ its 0)) (its.take i.toNat)) 0 0 0 0)]).length I.length) ++ flatN (growT bx leaf g_ (((srt)).drop (((((srt).length) : Int) + 1) / 2).toNat)) ((N ++ [(NodeT.mk (hullFrom bx (at_ bx (at_ its 0)) (its.take i.toNat)) 0 0 0 0)]) ++ flatN (growT bx leaf g_ (((srt)).take (((((srt).length) : Int) + 1) / 2).toNat)) (N ++ [(NodeT.mk (hullFrom bx (at_ bx (at_ its 0)) (its.take i.toNat)) 0 0 0 0)]).length I.length).length (I ++ (growT bx leaf g_ (((srt)).take (((((srt).length) : Int) + 1) / 2).toNat)).items).length) (N.length : Int)).Count)))) (N.length : Int)).Count)))).length) (by rw [List.length_set]) (by rw [flatMap_length eNode_len, List.length_set])
       have m762 := Mono.set m749 (Own.at_ e753 o748).2.1 k757
       have o763 := Own.stay o750 (Sep.symm g725.sep) (fun i hi _ => k757 i (NotId.ne hi e753))
       refine AOps.nil ?_
       change AWP _ _ _ _ _ _
       refine AWP.seq ?_
       refine AWP.region (l := [0, 1]) rfl ?_
       refine AOps.cons rfl rfl (AOp.load (.agg [v722, v723]) rfl s293 ty_29 h760 rfl ?_)
       refine AOps.cons rfl rfl (AOp.store' (cells' := [v722, v723]) (.agg [v722, v723]) s294 rfl ts_29 h758 (by simp only [AV.cells, List.all_cons, List.all_nil, Own.one_ o761, Own.one_ o763]; rfl) rfl rfl rfl ?_)
       intro H764 h765 k766
       have h768 := keep k766 (Ne.symm e31) h759
       have h769 := keep k766 e17 h760
       have o770 := Own.keep o761 k766 q726.2.1
       have o771 := Own.keep o763 k766 q726.2.2
       have m772 := Mono.set m762 z18 k766
       refine AOps.nil ?_
       change AWP _ _ _ _ _ _
       refine AWP.ret ?_
       refine ⟨_, _, Ghost.refl, .inr rfl, _, Res.list1 rfl (.cell (v := .agg [v722, v723]) s294 ty_29 h765 rfl (.nil)), ?_⟩
       have hT := growT_node' (bx := bx) (leaf := leaf) hsrt hg_ b132
       rw [← he1, ← he2] at hT
       rw [hT]
       have hNN : (((((((N ++ [(NodeT.mk (hullFrom bx (at_ bx (at_ its 0)) (its.take i.toNat)) 0 0 0 0)]) ++ flatN (growT bx leaf g_ (((srt)).take (((((srt).length) : Int) + 1) / 2).toNat)) (N ++ [(NodeT.mk (hullFrom bx (at_ bx (at_ its 0)) (its.take i.toNat)) 0 0 0 0)]).length I.length) ++ flatN (growT bx leaf g_ (((srt)).drop (((((srt).length) : Int) + 1) / 2).toNat)) ((N ++ [(NodeT.mk (hullFrom bx (at_ bx (at_ its 0)) (its.take i.toNat)) 0 0 0 0)]) ++ flatN (growT bx leaf g_ (((srt)).take (((((srt).length) : Int) + 1) / 2).toNat)) (N ++ [(NodeT.mk (hullFrom bx (at_ bx (at_ its 0)) (its.take i.toNat)) 0 0 0 0)]).length I.length).length (I ++ (growT bx leaf g_ (((srt)).take (((((srt).length) : Int) + 1) / 2).toNat)).items).length).set (N.length : Int).toNat (NodeT.mk ((at_ (((N ++ [(NodeT.mk (hullFrom bx (at_ bx (at_ its 0)) (its.take i.toNat)) 0 0 0 0)]) ++ flatN (growT bx leaf g_ (((srt)).take (((((srt).length) : Int) + 1) / 2).toNat)) (N ++ [(NodeT.mk (hullFrom bx (at_ bx (at_ its 0)) (its.take i.toNat)) 0 0 0 0)]).length I.length) ++ flatN (growT bx leaf g_ (((srt)).drop (((((srt).length) : Int) + 1) / 2).toNat)) ((N ++ [(NodeT.mk (hullFrom bx (at_ bx (at_ its 0)) (its.take i.toNat)) 0 0 0 0)]) ++ flatN (growT bx leaf g_ (((srt)).take (((((srt).length) : Int) + 1) / 2).toNat)) (N ++ [(NodeT.mk (hullFrom bx (at_ bx (at_ its 0)) (its.take i.toNat)) 0 0 0 0)]).length I.length).length (I ++ (growT bx leaf g_ (((srt)).take (((((srt).length) : Int) + 1) / 2).toNat)).items).length) (N.length : Int)).Box) (((N ++ [(NodeT.mk (hullFrom bx (at_ bx (at_ its 0)) (its.take i.toNat)) 0 0 0 0)]).length) : Int) ((at_ (((N ++ [(NodeT.mk (hullFrom bx (at_ bx (at_ its 0)) (its.take i.toNat)) 0 0 0 0)]) ++ flatN (growT bx leaf g_ (((srt)).take (((((srt).length) : Int) + 1) / 2).toNat)) (N ++ [(NodeT.mk (hullFrom bx (at_ bx (at_ its 0)) (its.take i.toNat)) 0 0 0 0)]).length I.length) ++ flatN (growT bx leaf g_ (((srt)).drop (((((srt).length) : Int) + 1) / 2).toNat)) ((N ++ [(NodeT.mk (hullFrom bx (at_ bx (at_ its 0)) (its.take i.toNat)) 0 0 0 0)]) ++ flatN (growT bx leaf g_ (((srt)).take (((((srt).length) : Int) + 1) / 2).toNat)) (N ++ [(NodeT.mk (hullFrom bx (at_ bx (at_ its 0)) (its.take i.toNat)) 0 0 0 0)]).length I.length).length (I ++ (growT bx leaf g_ (((srt)).take (((((srt).length) : Int) + 1) / 2).toNat)).items).length) (N.length : Int)).Right) ((at_ (((N ++ [(NodeT.mk (hullFrom bx (at_ bx (at_ its 0)) (its.take i.toNat)) 0 0 0 0)]) ++ flatN (growT bx leaf g_ (((srt)).take (((((srt).length) : Int) + 1) / 2).toNat)) (N ++ [(NodeT.mk (hullFrom bx (at_ bx (at_ its 0)) (its.take i.toNat)) 0 0 0 0)]).length I.length) ++ flatN (growT bx leaf g_ (((srt)).drop (((((srt).length) : Int) + 1) / 2).toNat)) ((N ++ [(NodeT.mk (hullFrom bx (at_ bx (at_ its 0)) (its.take i.toNat)) 0 0 0 0)]) ++ flatN (growT bx leaf g_ (((srt)).take (((((srt).length) : Int) + 1) / 2).toNat)) (N ++ [(NodeT.mk (hullFrom bx (at_ bx (at_ its 0)) (its.take i.toNat)) 0 0 0 0)]).length I.length).length (I ++ (growT bx leaf g_ (((srt)).take (((((srt).length) : Int) + 1) / 2).toNat)).items).length) (N.length : Int)).First) ((at_ (((N ++ [(NodeT.mk (hullFrom bx (at_ bx (at_ its 0)) (its.take i.toNat)) 0 0 0 0)]) ++ flatN (growT bx leaf g_ (((srt)).take (((((srt).length) : Int) + 1) / 2).toNat)) (N ++ [(NodeT.mk (hullFrom bx (at_ bx (at_ its 0)) (its.take i.toNat)) 0 0 0 0)]).length I.length) ++ flatN (growT bx leaf g_ (((srt)).drop (((((srt).length) : Int) + 1) / 2).toNat)) ((N ++ [(NodeT.mk (hullFrom bx (at_ bx (at_ its 0)) (its.take i.toNat)) 0 0 0 0)]) ++ flatN (growT bx leaf g_ (((srt)).take (((((srt).length) : Int) + 1) / 2).toNat)) (N ++ [(NodeT.mk (hullFrom bx (at_ bx (at_ its 0)) (its.take i.toNat)) 0 0 0 0)]).length I.length).length (I ++ (growT bx leaf g_ (((srt)).take (((((srt).length) : Int) + 1) / 2).toNat)).items).length) (N.length : Int)).Count)))).set (N.length : Int).toNat (NodeT.mk ((at_ (((((N ++ [(NodeT.mk (hullFrom bx (at_ bx (at_ its 0)) (its.take i.toNat)) 0 0 0 0)]) ++ flatN (growT bx leaf g_ (((srt)).take (((((srt).length) : Int) + 1) / 2).toNat)) (N ++ [(NodeT.mk (hullFrom bx (at_ bx (at_ its 0)) (its.take i.toNat)) 0 0 0 0)]).length I.length) ++ flatN (growT bx leaf g_ (((srt)).drop (((((srt).length) : Int) + 1) / 2).toNat)) ((N ++ [(NodeT.mk (hullFrom bx (at_ bx (at_ its 0)) (its.take i.toNat)) 0 0 0 0)]) ++ flatN (growT bx leaf g_ (((srt)).take (((((srt).length) : Int) + 1) / 2).toNat)) (N ++ [(NodeT.mk (hullFrom bx (at_ bx (at_ its 0)) (its.take i.toNat)) 0 0 0 0)]).length I.length).length (I ++ (growT bx leaf g_ (((srt)).take (((((srt).length) : Int) + 1) / 2).toNat)).items).length).set (N.length : Int).toNat (NodeT.mk ((at_ (((N ++ [(NodeT.mk (hullFrom bx (at_ bx (at_ its 0)) (its.take i.toNat)) 0 0 0 0)]) ++ flatN (growT bx leaf g_ (((srt)).take (((((srt).length) : Int) + 1) / 2).toNat)) (N ++ [(NodeT.mk (hullFrom bx (at_ bx (at_ its 0)) (its.take i.toNat)) 0 0 0 0)]).length I.length) ++ flatN (growT bx leaf g_ (((srt)).drop (((((srt).length) : Int) + 1) / 2).toNat)) ((N ++ [(NodeT.mk (hullFrom bx (at_ bx (at_ its 0)) (its.take i.toNat)) 0 0 0 0)]) ++ flatN (growT bx leaf g_ (((srt)).take (((((srt).length) : Int) + 1) / 2).toNat)) (N ++ [(NodeT.mk (hullFrom bx (at_ bx (at_ its 0)) (its.take i.toNat)) 0 0 0 0)]).length I.length).length (I ++ (growT bx leaf g_ (((srt)).take (((((srt).length) : Int) + 1) / 2).toNat)).items).length) (N.length : Int)).Box) (((N ++ [(NodeT.mk (hullFrom bx (at_ bx (at_ its 0)) (its.take i.toNat)) 0 0 0 0)]).length) : Int) ((at_ (((N ++ [(NodeT.mk (hullFrom bx (at_ bx (at_ its 0)) (its.take i.toNat)) 0 0 0 0)]) ++ flatN (growT bx leaf g_ (((srt)).take (((((srt).length) : Int) + 1) / 2).toNat)) (N ++ [(NodeT.mk (hullFrom bx (at_ bx (at_ its 0)) (its.take i.toNat)) 0 0 0 0)]).length I.length) ++ flatN (growT bx leaf g_ (((srt)).drop (((((srt).length) : Int) + 1) / 2).toNat)) ((N ++ [(NodeT.mk (hullFrom bx (at_ bx (at_ its 0)) (its.take i.toNat)) 0 0 0 0)]) ++ flatN (growT bx leaf g_ (((srt)).take (((((srt).length) : Int) + 1) / 2).toNat)) (N ++ [(NodeT.mk (hullFrom bx (at_ bx (at_ its 0)) (its.take i.toNat)) 0 0 0 0)]).length I.length).length (I ++ (growT bx leaf g_ (((srt)).take (((((srt).length) : Int) + 1) / 2).toNat)).items).length) (N.length : Int)).Right) ((at_ (((N ++ [(NodeT.mk (hullFrom bx (at_ bx (at_ its 0)) (its.take i.toNat)) 0 0 0 0)]) ++ flatN (growT bx leaf g_ (((srt)).take (((((srt).length) : Int) + 1) / 2).toNat)) (N ++ [(NodeT.mk (hullFrom bx (at_ bx (at_ its 0)) (its.take i.toNat)) 0 0 0 0)]).length I.length) ++ flatN (growT bx leaf g_ (((srt)).drop (((((srt).length) : Int) + 1) / 2).toNat)) ((N ++ [(NodeT.mk (hullFrom bx (at_ bx (at_ its 0)) (its.take i.toNat)) 0 0 0 0)]) ++ flatN (growT bx leaf g_ (((srt)).take (((((srt).length) : Int) + 1) / 2).toNat)) (N ++ [(NodeT.mk (hullFrom bx (at_ bx (at_ its 0)) (its.take i.toNat)) 0 0 0 0)]).length I.length).length (I ++ (growT bx leaf g_ (((srt)).take (((((srt).length) : Int) + 1) / 2).toNat)).items).length) (N.length : Int)).First) ((at_ (((N ++ [(NodeT.mk (hullFrom bx (at_ bx (at_ its 0)) (its.take i.toNat)) 0 0 0 0)]) ++ flatN (growT bx leaf g_ (((srt)).take (((((srt).length) : Int) + 1) / 2).toNat)) (N ++ [(NodeT.mk (hullFrom bx (at_ bx (at_ its 0)) (its.take i.toNat)) 0 0 0 0)]).length I.length) ++ flatN (growT bx leaf g_ (((srt)).drop (((((srt).length) : Int) + 1) / 2).toNat)) ((N ++ [(NodeT.mk (hullFrom bx (at_ bx (at_ its 0)) (its.take i.toNat)) 0 0 0 0)]) ++ flatN (growT bx leaf g_ (((srt)).take (((((srt).length) : Int) + 1) / 2).toNat)) (N ++ [(NodeT.mk (hullFrom bx (at_ bx (at_ its 0)) (its.take i.toNat)) 0 0 0 0)]).length I.length).length (I ++ (growT bx leaf g_ (((srt)).take (((((srt).length) : Int) + 1) / 2).toNat)).items).length) (N.length : Int)).Count)))) (N.length : Int)).Box) ((at_ (((((N ++ [(NodeT.mk (hullFrom bx (at_ bx (at_ its 0)) (its.take i.toNat)) 0 0 0 0)]) ++ flatN (growT bx leaf g_ (((srt)).take (((((srt).length) : Int) + 1) / 2).toNat)) (N ++ [(NodeT.mk (hullFrom bx (at_ bx (at_ its 0)) (its.take i.toNat)) 0 0 0 0)]).length I.length) ++ flatN (growT bx leaf g_ (((srt)).drop (((((srt).length) : Int) + 1) / 2).toNat)) ((N ++ [(NodeT.mk (hullFrom bx (at_ bx (at_ its 0)) (its.take i.toNat)) 0 0 0 0)]) ++ flatN (growT bx leaf g_ (((srt)).take (((((srt).length) : Int) + 1) / 2).toNat)) (N ++ [(NodeT.mk (hullFrom bx (at_ bx (at_ its 0)) (its.take i.toNat)) 0 0 0 0)]).length I.length).length (I ++ (growT bx leaf g_ (((srt)).take (((((srt).length) : Int) + 1) / 2).toNat)).items).length).set (N.length : Int).toNat (NodeT.mk ((at_ (((N ++ [(NodeT.mk (hullFrom bx (at_ bx (at_ its 0)) (its.take i.toNat)) 0 0 0 0)]) ++ flatN (growT bx leaf g_ (((srt)).take (((((srt).length) : Int) + 1) / 2).toNat)) (N ++ [(NodeT.mk (hullFrom bx (at_ bx (at_ its 0)) (its.take i.toNat)) 0 0 0 0)]).length I.length) ++ flatN (growT bx leaf g_ (((srt)).drop (((((srt).length) : Int) + 1) / 2).toNat)) ((N ++ [(NodeT.mk (hullFrom bx (at_ bx (at_ its 0)) (its.take i.toNat)) 0 0 0 0)]) ++ flatN (growT bx leaf g_ (((srt)).take (((((srt).length) : Int) + 1) / 2).toNat)) (N ++ [(NodeT.mk (hullFrom bx (at_ bx (at_ its 0)) (its.take i.toNat)) 0 0 0 0)]).length I.length).length (I ++ (growT bx leaf g_ (((srt)).take (((((srt).length) : Int) + 1) / 2).toNat)).items).length) (N.length : Int)).Box) (((N ++ [(NodeT.mk (hullFrom bx (at_ bx (at_ its 0)) (its.take i.toNat)) 0 0 0 0)]).length) : Int) ((at_ (((N ++ [(NodeT.mk (hullFrom bx (at_ bx (at_ its 0)) (its.take i.toNat)) 0 0 0 0)]) ++ flatN (growT bx leaf g_ (((srt)).take (((((srt).length) : Int) + 1) / 2).toNat)) (N ++ [(NodeT.mk (hullFrom bx (at_ bx (at_ its 0)) (its.take i.toNat)) 0 0 0 0)]).length I.length) ++ flatN (growT bx leaf g_ (((srt)).drop (((((srt).length) : Int) + 1) / 2).toNat)) ((N ++ [(NodeT.mk (hullFrom bx (at_ bx (at_ its 0)) (its.take i.toNat)) 0 0 0 0)]) ++ flatN (growT bx leaf g_ (((srt)).take (((((srt).length) : Int) + 1) / 2).toNat)) (N ++ [(NodeT.mk (hullFrom bx (at_ bx (at_ its 0)) (its.take i.toNat)) 0 0 0 0)]).length I.length).length (I ++ (growT bx leaf g_ (((srt)).take (((((srt).length) : Int) + 1) / 2).toNat)).items).length) (N.length : Int)).Right) ((at_ (((N ++ [(NodeT.mk (hullFrom bx (at_ bx (at_ its 0)) (its.take i.toNat)) 0 0 0 0)]) ++ flatN (growT bx leaf g_ (((srt)).take (((((srt).length) : Int) + 1) / 2).toNat)) (N ++ [(NodeT.mk (hullFrom bx (at_ bx (at_ its 0)) (its.take i.toNat)) 0 0 0 0)]).length I.length) ++ flatN (growT bx leaf g_ (((srt)).drop (((((srt).length) : Int) + 1) / 2).toNat)) ((N ++ [(NodeT.mk (hullFrom bx (at_ bx (at_ its 0)) (its.take i.toNat)) 0 0 0 0)]) ++ flatN (growT bx leaf g_ (((srt)).take (((((srt).length) : Int) + 1) / 2).toNat)) (N ++ [(NodeT.mk (hullFrom bx (at_ bx (at_ its 0)) (its.take i.toNat)) 0 0 0 0)]).length I.length).length (I ++ (growT bx leaf g_ (((srt)).take (((((srt).length) : Int) + 1) / 2).toNat)).items).length) (N.length : Int)).First) ((at_ (((N ++ [(NodeT.mk (hullFrom bx (at_ bx (at_ its 0)) (its.take i.toNat)) 0 0 0 0)]) ++ flatN (growT bx leaf g_ (((srt)).take (((((srt).length) : Int) + 1) / 2).toNat)) (N ++ [(NodeT.mk (hullFrom bx (at_ bx (at_ its 0)) (its.take i.toNat)) 0 0 0 0)]).length I.length) ++ flatN (growT bx leaf g_ (((srt)).drop (((((srt).length) : Int) + 1) / 2).toNat)) ((N ++ [(NodeT.mk (hullFrom bx (at_ bx (at_ its 0)) (its.take i.toNat)) 0 0 0 0)]) ++ flatN (growT bx leaf g_ (((srt)).take (((((srt).length) : Int) + 1) / 2).toNat)) (N ++ [(NodeT.mk (hullFrom bx (at_ bx (at_ its 0)) (its.take i.toNat)) 0 0 0 0)]).length I.length).length (I ++ (growT bx leaf g_ (((srt)).take (((((srt).length) : Int) + 1) / 2).toNat)).items).length) (N.length : Int)).Count)))) (N.length : Int)).Left) ((((N ++ [(NodeT.mk (hullFrom bx (at_ bx (at_ its 0)) (its.take i.toNat)) 0 0 0 0)]) ++ flatN (growT bx leaf g_ (((srt)).take (((((srt).length) : Int) + 1) / 2).toNat)) (N ++ [(NodeT.mk (hullFrom bx (at_ bx (at_ its 0)) (its.take i.toNat)) 0 0 0 0)]).length I.length).length) : Int) ((at_ (((((N ++ [(NodeT.mk (hullFrom bx (at_ bx (at_ its 0)) (its.take i.toNat)) 0 0 0 0)]) ++ flatN (growT bx leaf g_ (((srt)).take (((((srt).length) : Int) + 1) / 2).toNat)) (N ++ [(NodeT.mk (hullFrom bx (at_ bx (at_ its 0)) (its.take i.toNat)) 0 0 0 0)]).length I.length) ++ flatN (growT bx leaf g_ (((srt)).drop (((((srt).length) : Int) + 1) / 2).toNat)) ((N ++ [(NodeT.mk (hullFrom bx (at_ bx (at_ its 0)) (its.take i.toNat)) 0 0 0 0)]) ++ flatN (growT bx leaf g_ (((srt)).take (((((srt).length) : Int) + 1) / 2).toNat)) (N ++ [(NodeT.mk (hullFrom bx (at_ bx (at_ its 0)) (its.take i.toNat)) 0 0 0 0)]).length I.length).length (I ++ (growT bx leaf g_ (((srt)).take (((((srt).length) : Int) + 1) / 2).toNat)).items).length).set (N.length : Int).toNat (NodeT.mk ((at_ (((N ++ [(NodeT.mk (hullFrom bx (at_ bx (at_ its 0)) (its.take i.toNat)) 0 0 0 0)]) ++ flatN (growT bx leaf g_ (((srt)).take (((((srt).length) : Int) + 1) / 2).toNat)) (N ++ [(NodeT.mk (hullFrom bx (at_ bx (at_ its 0)) (its.take i.toNat)) 0 0 0 0)]).length I.length) ++ flatN (growT bx leaf g_ (((srt)).drop (((((srt).length) : Int) + 1) / 2).toNat)) ((N ++ [(NodeT.mk (hullFrom bx (at_ bx (at_ its 0)) (its.take i.toNat)) 0 0 0 0)]) ++ flatN (growT bx leaf g_ (((srt)).take (((((srt).length) : Int) + 1) / 2).toNat)) (N ++ [(NodeT.mk (hullFrom bx (at_ bx (at_ its 0)) (its.take i.toNat)) 0 0 0 0)]).length I.length).length (I ++ (growT bx leaf g_ (((srt)).take (((((srt).length) : Int) + 1) / 2).toNat)).items).length) (N.length : Int)).Box) (((N ++ [(NodeT.mk (hullFrom bx (at_ bx (at_ its 0)) (its.take i.toNat)) 0 0 0 0)]).length) : Int) ((at_ (((N ++ [(NodeT.mk (hullFrom bx (at_ bx (at_ its 0)) (its.take i.toNat)) 0 0 0 0)]) ++ flatN (growT bx leaf g_ (((srt)).take (((((srt).length) : Int) + 1) / 2).toNat)) (N ++ [(NodeT.mk (hullFrom bx (at_ bx (at_ its 0)) (its.take i.toNat)) 0 0 0 0)]).length I.length) ++ flatN (growT bx leaf g_ (((srt)).drop (((((srt).length) : Int) + 1) / 2).toNat)) ((N ++ [(NodeT.mk (hullFrom bx (at_ bx (at_ its 0)) (its.take i.toNat)) 0 0 0 0)]) ++ flatN (growT bx leaf g_ (((srt)).take (((((srt).length) : Int) + 1) / 2).toNat)) (N ++ [(NodeT.mk (hullFrom bx (at_ bx (at_ its 0)) (its.take i.toNat)) 0 0 0 0)]).length I.length).length (I ++ (growT bx leaf g_ (((srt)).take (((((srt).length) : Int) + 1) / 2).toNat)).items).length) (N.length : Int)).Right) ((at_ (((N ++ [(NodeT.mk (hullFrom bx (at_ bx (at_ its 0)) (its.take i.toNat)) 0 0 0 0)]) ++ flatN (growT bx leaf g_ (((srt)).take (((((srt).length) : Int) + 1) / 2).toNat)) (N ++ [(NodeT.mk (hullFrom bx (at_ bx (at_ its 0)) (its.take i.toNat)) 0 0 0 0)]).length I.length) ++ flatN (growT bx leaf g_ (((srt)).drop (((((srt).length) : Int) + 1) / 2).toNat)) ((N ++ [(NodeT.mk (hullFrom bx (at_ bx (at_ its 0)) (its.take i.toNat)) 0 0 0 0)]) ++ flatN (growT bx leaf g_ (((srt)).take (((((srt).length) : Int) + 1) / 2).toNat)) (N ++ [(NodeT.mk (hullFrom bx (at_ bx (at_ its 0)) (its.take i.toNat)) 0 0 0 0)]).length I.length).length (I ++ (growT bx leaf g_ (((srt)).take (((((srt).length) : Int) + 1) / 2).toNat)).items).length) (N.length : Int)).First) ((at_ (((N ++ [(NodeT.mk (hullFrom bx (at_ bx (at_ its 0)) (its.take i.toNat)) 0 0 0 0)]) ++ flatN (growT bx leaf g_ (((srt)).take (((((srt).length) : Int) + 1) / 2).toNat)) (N ++ [(NodeT.mk (hullFrom bx (at_ bx (at_ its 0)) (its.take i.toNat)) 0 0 0 0)]).length I.length) ++ flatN (growT bx leaf g_ (((srt)).drop (((((srt).length) : Int) + 1) / 2).toNat)) ((N ++ [(NodeT.mk (hullFrom bx (at_ bx (at_ its 0)) (its.take i.toNat)) 0 0 0 0)]) ++ flatN (growT bx leaf g_ (((srt)).take (((((srt).length) : Int) + 1) / 2).toNat)) (N ++ [(NodeT.mk (hullFrom bx (at_ bx (at_ its 0)) (its.take i.toNat)) 0 0 0 0)]).length I.length).length (I ++ (growT bx leaf g_ (((srt)).take (((((srt).length) : Int) + 1) / 2).toNat)).items).length) (N.length : Int)).Count)))) (N.length : Int)).First) ((at_ (((((N ++ [(NodeT.mk (hullFrom bx (at_ bx (at_ its 0)) (its.take i.toNat)) 0 0 0 0)]) ++ flatN (growT bx leaf g_ (((srt)).take (((((srt).length) : Int) + 1) / 2).toNat)) (N ++ [(NodeT.mk (hullFrom bx (at_ bx (at_ its 0)) (its.take i.toNat)) 0 0 0 0)]).length I.length) ++ flatN (growT bx leaf g_ (((srt)).drop (((((srt).length) : Int) + 1) / 2).toNat)) ((N ++ [(NodeT.mk (hullFrom bx (at_ bx (at_ its 0)) (its.take i.toNat)) 0 0 0 0)]) ++ flatN (growT bx leaf g_ (((srt)).take (((((srt).length) : Int) + 1) / 2).toNat)) (N ++ [(NodeT.mk (hullFrom bx (at_ bx (at_ its 0)) (its.take i.toNat)) 0 0 0 0)]).length I.length).length (I ++ (growT bx leaf g_ (((srt)).take (((((srt).length) : Int) + 1) / 2).toNat)).items).length).set (N.length : Int).toNat (NodeT.mk ((at_ (((N ++ [(NodeT.mk (hullFrom bx (at_ bx (at_ its 0)) (its.take i.toNat)) 0 0 0 0)]) ++ flatN (growT bx leaf g_ (((srt)).take (((((srt).length) : Int) + 1) / 2).toNat)) (N ++ [(NodeT.mk (hullFrom bx (at_ bx (at_ its 0)) (its.take i.toNat)) 0 0 0 0)]).length I.length) ++ flatN (growT bx leaf g_ (((srt)).drop (((((srt).length) : Int) + 1) / 2).toNat)) ((N ++ [(NodeT.mk (hullFrom bx (at_ bx (at_ its 0)) (its.take i.toNat)) 0 0 0 0)]) ++ flatN (growT bx leaf g_ (((srt)).take (((((srt).length) : Int) + 1) / 2).toNat)) (N ++ [(NodeT.mk (hullFrom bx (at_ bx (at_ its 0)) (its.take i.toNat)) 0 0 0 0)]).length I.length).length (I ++ (growT bx leaf g_ (((srt)).take (((((srt).length) : Int) + 1) / 2).toNat)).items).length) (N.length : Int)).Box) (((N ++ [(NodeT.mk (hullFrom bx (at_ bx (at_ its 0)) (its.take i.toNat)) 0 0 0 0)]).length) : Int) ((at_ (((N ++ [(NodeT.mk (hullFrom bx (at_ bx (at_ its 0)) (its.take i.toNat)) 0 0 0 0)]) ++ flatN (growT bx leaf g_ (((srt)).take (((((srt).length) : Int) + 1) / 2).toNat)) (N ++ [(NodeT.mk (hullFrom bx (at_ bx (at_ its 0)) (its.take i.toNat)) 0 0 0 0)]).length I.length) ++ flatN (growT bx leaf g_ (((srt)).drop (((((srt).length) : Int) + 1) / 2).toNat)) ((N ++ [(NodeT.mk (hullFrom bx (at_ bx (at_ its 0)) (its.take i.toNat)) 0 0 0 0)]) ++ flatN (growT bx leaf g_ (((srt)).take (((((srt).length) : Int) + 1) / 2).toNat)) (N ++ [(NodeT.mk (hullFrom bx (at_ bx (at_ its 0)) (its.take i.toNat)) 0 0 0 0)]).length I.length).length (I ++ (growT bx leaf g_ (((srt)).take (((((srt).length) : Int) + 1) / 2).toNat)).items).length) (N.length : Int)).Right) ((at_ (((N ++ [(NodeT.mk (hullFrom bx (at_ bx (at_ its 0)) (its.take i.toNat)) 0 0 0 0)]) ++ flatN (growT bx leaf g_ (((srt)).take (((((srt).length) : Int) + 1) / 2).toNat)) (N ++ [(NodeT.mk (hullFrom bx (at_ bx (at_ its 0)) (its.take i.toNat)) 0 0 0 0)]).length I.length) ++ flatN (growT bx leaf g_ (((srt)).drop (((((srt).length) : Int) + 1) / 2).toNat)) ((N ++ [(NodeT.mk (hullFrom bx (at_ bx (at_ its 0)) (its.take i.toNat)) 0 0 0 0)]) ++ flatN (growT bx leaf g_ (((srt)).take (((((srt).length) : Int) + 1) / 2).toNat)) (N ++ [(NodeT.mk (hullFrom bx (at_ bx (at_ its 0)) (its.take i.toNat)) 0 0 0 0)]).length I.length).length (I ++ (growT bx leaf g_ (((srt)).take (((((srt).length) : Int) + 1) / 2).toNat)).items).length) (N.length : Int)).First) ((at_ (((N ++ [(NodeT.mk (hullFrom bx (at_ bx (at_ its 0)) (its.take i.toNat)) 0 0 0 0)]) ++ flatN (growT bx leaf g_ (((srt)).take (((((srt).length) : Int) + 1) / 2).toNat)) (N ++ [(NodeT.mk (hullFrom bx (at_ bx (at_ its 0)) (its.take i.toNat)) 0 0 0 0)]).length I.length) ++ flatN (growT bx leaf g_ (((srt)).drop (((((srt).length) : Int) + 1) / 2).toNat)) ((N ++ [(NodeT.mk (hullFrom bx (at_ bx (at_ its 0)) (its.take i.toNat)) 0 0 0 0)]) ++ flatN (growT bx leaf g_ (((srt)).take (((((srt).length) : Int) + 1) / 2).toNat)) (N ++ [(NodeT.mk (hullFrom bx (at_ bx (at_ its 0)) (its.take i.toNat)) 0 0 0 0)]).length I.length).length (I ++ (growT bx leaf g_ (((srt)).take (((((srt).length) : Int) + 1) / 2).toNat)).items).length) (N.length : Int)).Count)))) (N.length : Int)).Count)))) = N ++ flatN (.node (hull bx its) (growT bx leaf g_ (((srt)).take (((((srt).length) : Int) + 1) / 2).toNat)) (growT bx leaf g_ (((srt)).drop (((((srt).length) : Int) + 1) / 2).toNat))) N.length I.length := by exact grow_nodeN2 (hull_end (by omega)) rfl rfl rfl
       have hII : ((I ++ (growT bx leaf g_ (((srt)).take (((((srt).length) : Int) + 1) / 2).toNat)).items) ++ (growT bx leaf g_ (((srt)).drop (((((srt).length) : Int) + 1) / 2).toNat)).items) = I ++ ((growT bx leaf g_ (((srt)).take (((((srt).length) : Int) + 1) / 2).toNat)).items ++ (growT bx leaf g_ (((srt)).drop (((((srt).length) : Int) + 1) / 2).toNat)).items) := List.append_assoc _ _ _
       exact ⟨v722, v723, rfl, ⟨m772, (Own.re o770 (congrArg List.length hNN) (congrArg (fun l : List NodeT => l.flatMap eNode) hNN)), (Own.re o771 (congrArg List.length hII) (congrArg (fun l : List Int => l.map eI) hII)), g725.sep⟩⟩
end Go.Proofs.B
