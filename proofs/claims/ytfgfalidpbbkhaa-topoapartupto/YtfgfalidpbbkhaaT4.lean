/- A part of the proof that a law of the edges and fans of faces answers true for every input of its bulk: own work, by an AI agent. -/
import Derived.Test.YtfgfalidpbbkhaaTTy
import Derived.Test.YtfgfalidpbbkhaaTSpec5
import Derived.Test.YtfgfalidpbbkhaaTKey
import Derived.KernelRfl
import Derived.Test.YtfgfalidpbbkhaaT3
namespace Go.Proofs.T
open Go Go.AH
set_option maxRecDepth 4000
set_option linter.unusedSimpArgs false
set_option linter.unusedVariables false
theorem c38 {H0 : Heap} {sid mid : Nat} (fs : List (List Int)) (hfs : fs.length ≤ 1048576) (hfss : ∀ l ∈ fs, l.length ≤ 1048576) (f v b : Int) (hf : 0 ≤ f ∧ f < fs.length) (hv : v ∈ at_ fs f) (hb : -1 ≤ b ∧ b ≤ 1) (hs : H0 sid = some (.row 0 [.sl fs.length (fs.map eF), .map mid])) : ACalls Try.prog 38 [.ptr sid 0 0, .int .i64 f, .int .i64 v, .int .i64 b] H0 fun r H' => r = (.int .i64 (nextS (at_ fs f) v b)) ∧ Mono H0 H' := by
  refine ACalls.of_body' (n := 31) rfl rfl rfl rfl ?_
  have m0 := Mono.refl H0
  refine AWP.seq ?_
  refine AWP.region (l := [0]) rfl ?_
  refine AOps.cons rfl rfl (AOp.assign (.int .i64 0) rfl rfl ?_)
  refine AOps.nil ?_
  change AWP _ _ _ _ _ _
  refine AWP.seq ?_
  have hq : (at_ fs f).length ≤ 1048576 := hfss _ (at_mem (by omega) (by omega))
  have hix := ix_in hv
  refine AWP.region (l := [0, 1, 2, 3, 4, 5, 6, 7]) rfl ?_
  refine AOps.cons rfl rfl (AOp.move (.ptr sid 0 0) rfl rfl ?_)
  refine AOps.cons rfl rfl (AOp.nilCheck (.ptr sid 0 0) rfl rfl rfl ?_)
  refine AOps.cons rfl rfl (AOp.fieldAddr rfl rfl fl_54_0 ?_ (hid := ⟨_, hs⟩))
  refine AOps.cons rfl rfl (AOp.load (.sl fs.length (fs.map eF)) rfl rfl ty_22 hs rfl ?_)
  refine AOps.cons rfl rfl (AOp.move (.int .i64 f) rfl rfl ?_)
  refine AOps.cons rfl rfl (AOp.indexAddrS rfl rfl rfl sl_22 (by omega) (by omega) ?_)
  refine AOps.cons rfl rfl (AOp.loadF (.sl (at_ fs f).length ((at_ fs f).map eI)) rfl rfl ty_35 (ld1 (by omega) (by omega)) ?_)
  refine AOps.cons rfl rfl (AOp.assign (.sl (at_ fs f).length ((at_ fs f).map eI)) rfl rfl ?_)
  refine AOps.nil ?_
  change AWP _ _ _ _ _ _
  refine AWP.seq ?_
  refine AWP.region (l := [0, 1, 2, 3, 4, 5, 6, 7, 8, 9, 10, 11, 12, 13, 14]) rfl ?_
  refine AOps.cons rfl rfl (AOp.move (.sl (at_ fs f).length ((at_ fs f).map eI)) rfl rfl ?_)
  refine AOps.cons rfl rfl (AOp.move (.sl (at_ fs f).length ((at_ fs f).map eI)) rfl rfl ?_)
  refine AOps.cons rfl rfl (AOp.move (.int .i64 v) rfl rfl ?_)
  refine AOps.cons rfl rfl (AOp.pcall («as» := [.sl (at_ fs f).length ((at_ fs f).map eI), .int .i64 v]) rfl rfl (rfl) tf_41 (c41 _ (by first | omega | (simp; omega)) _) ?_)
  intro H1 m2
  have h3 := m2 _ _ hs
  have m4 := m0.trans m2
  refine AOps.cons rfl rfl (AOp.move (.int .i64 b) rfl rfl ?_)
  refine AOps.cons rfl rfl (AOp.bin (.int .i64 (ixI (at_ fs f) v + b)) rfl rfl rfl (iadd (by omega)) ?_)
  refine AOps.cons rfl rfl (AOp.move (.sl (at_ fs f).length ((at_ fs f).map eI)) rfl rfl ?_)
  refine AOps.cons rfl rfl (AOp.len (m := (at_ fs f).length) rfl rfl (.inr (.inl ⟨_, rfl⟩)) u_35 ?_)
  refine AOps.cons rfl rfl (AOp.bin (.int .i64 (ixI (at_ fs f) v + b + (((at_ fs f).length) : Int))) rfl rfl rfl (iadd (by omega)) ?_)
  refine AOps.cons rfl rfl (AOp.move (.sl (at_ fs f).length ((at_ fs f).map eI)) rfl rfl ?_)
  refine AOps.cons rfl rfl (AOp.len (m := (at_ fs f).length) rfl rfl (.inr (.inl ⟨_, rfl⟩)) u_35 ?_)
  have r5 := mod_in (x := ixI (at_ fs f) v + b + (((at_ fs f).length) : Int)) (y := (((at_ fs f).length) : Int)) (by omega)
  refine AOps.cons rfl rfl (AOp.remP rfl rfl rfl (by omega) (by omega) ?_)
  refine AOps.cons rfl rfl (AOp.indexAddrS rfl rfl rfl sl_35 (by omega) (by omega) ?_)
  refine AOps.cons rfl rfl (AOp.loadF (.int .i64 (at_ (at_ fs f) ((ixI (at_ fs f) v + b + (((at_ fs f).length) : Int)) % (((at_ fs f).length) : Int)))) rfl rfl ty_3 (ld1 (by omega) (by omega)) ?_)
  refine AOps.cons rfl rfl (AOp.assign (.int .i64 (at_ (at_ fs f) ((ixI (at_ fs f) v + b + (((at_ fs f).length) : Int)) % (((at_ fs f).length) : Int)))) rfl rfl ?_)
  refine AOps.nil ?_
  change AWP _ _ _ _ _ _
  refine AWP.ret ?_
  refine ⟨_, _, Ghost.refl, .inr rfl, _, Res.one rfl rfl, ?_, m4⟩
  exact (congrArg (AV.int .i64) (show (at_ (at_ fs f) ((ixI (at_ fs f) v + b + (((at_ fs f).length) : Int)) % (((at_ fs f).length) : Int)) : Int) = nextS (at_ fs f) v b from by exact beside_eq hv))

theorem c25 {H0 : Heap} {sid mid : Nat} (fs : List (List Int)) (hfs : fs.length ≤ 1048576) (hfss : ∀ l ∈ fs, l.length ≤ 1048576) (n v : Int) (hn : n ≤ 1000) (hv : 0 ≤ v ∧ v < n) (hg : goodS n fs) (hs : H0 sid = some (.row 0 [.sl fs.length (fs.map eF), .map mid])) (hsm : H0 mid = some (.map ((sides fs).map eS))) : ACalls Try.prog 25 [.ptr sid 0 0, .int .i64 v, .sl (mineU fs v fs.length).length ((mineU fs v fs.length).map eI)] H0 fun r H' => r = (.tup [.sl (fanL fs v).length ((fanL fs v).map eI), .bool (fanR fs v), .bool (fanOK fs v)]) ∧ Mono H0 H' := by
  have hK := good_keys hg
  have hKR := good_KR hn hg
  have hml := mine_le fs v fs.length
  have hmm : ∀ f ∈ mineU fs v fs.length, 0 ≤ f ∧ f < fs.length ∧ v ∈ at_ fs f := fun f hf => mem_mineU.1 hf
  have hnb : ∀ f : Int, 0 ≤ f → f < fs.length → v ∈ at_ fs f → ∀ b : Int, 0 ≤ nextS (at_ fs f) v b ∧ nextS (at_ fs f) v b < n := fun f h0 h1 h2 b => next_in hg h0 h1 h2 b
  refine ACalls.of_body' (n := 92) rfl rfl rfl rfl ?_
  have m0 := Mono.refl H0
  refine AWP.seq ?_
  refine AWP.region (l := [0, 1, 2]) rfl ?_
  refine AOps.cons rfl rfl (AOp.assign (.snil) rfl rfl ?_)
  refine AOps.cons rfl rfl (AOp.assign (.bool false) rfl rfl ?_)
  refine AOps.cons rfl rfl (AOp.assign (.bool false) rfl rfl ?_)
  refine AOps.nil ?_
  change AWP _ _ _ _ _ _
  refine AWP.seq ?_
  refine AWP.seq ?_
  refine AWP.region (l := [0, 1, 2]) rfl ?_
  refine AOps.cons rfl rfl (AOp.move (.sl (mineU fs v fs.length).length ((mineU fs v fs.length).map eI)) rfl rfl ?_)
  refine AOps.cons rfl rfl (AOp.len (m := (mineU fs v fs.length).length) rfl rfl (.inr (.inl ⟨_, rfl⟩)) u_35 ?_)
  refine AOps.cons rfl rfl (AOp.bin (.bool (decide ((((mineU fs v fs.length).length) : Int) = 0))) rfl rfl rfl ieq ?_)
  refine AOps.nil ?_
  change AWP _ _ _ _ _ _
  by_cases b1 : (((mineU fs v fs.length).length) : Int) = 0
  ·
    refine AWP.condT rfl (decide_eq_true b1) ?_
    refine AWP.seq ?_
    have he : mineU fs v fs.length = [] := List.eq_nil_of_length_eq_zero (by omega)
    refine AWP.region (l := [0, 1, 2]) rfl ?_
    refine AOps.cons rfl rfl (AOp.assign (.snil) rfl rfl ?_)
    refine AOps.cons rfl rfl (AOp.assign (.bool false) rfl rfl ?_)
    refine AOps.cons rfl rfl (AOp.assign (.bool false) rfl rfl ?_)
    refine AOps.nil ?_
    change AWP _ _ _ _ _ _
    refine AWP.ret ?_
    refine Fin.frz 6 (Own.nil H0 H0 1) rfl m0 fun H2 m3 k4 => ?_
    have h5 := (k4 _ (NotId.nil _)).trans hs
    have h6 := (k4 _ (NotId.nil _)).trans hsm
    refine ⟨_, _, Ghost.refl, .inr rfl, _, Res.three rfl rfl rfl rfl, ?_, m3⟩
    exact congrArg AV.tup (lc (congrArg (fun l : List Int => AV.sl l.length (l.map eI)) (show ([] : List Int) = fanL fs v from by unfold fanL; rw [if_pos he])) (lc (congrArg AV.bool (show (false : Bool) = fanR fs v from by unfold fanR; rw [if_pos he])) (lc (congrArg AV.bool (show (false : Bool) = fanOK fs v from by unfold fanOK; rw [if_pos he])) rfl)))
  ·
    refine AWP.condF rfl (decide_eq_false b1) ?_
    refine AWP.skip ?_
    change AWP _ _ _ _ _ _
    refine AWP.seq ?_
    have hne : mineU fs v fs.length ≠ [] := fun e => by have h0 := congrArg List.length e; simp only [List.length_nil] at h0; omega
    have hx := mem_mineU.1 (head_mem hne)
    refine AWP.region (l := [0, 1, 2, 3, 4]) rfl ?_
    refine AOps.cons rfl rfl (AOp.move (.sl (mineU fs v fs.length).length ((mineU fs v fs.length).map eI)) rfl rfl ?_)
    refine AOps.cons rfl rfl (AOp.indexAddrS rfl rfl rfl sl_35 (by omega) (by omega) ?_)
    refine AOps.cons rfl rfl (AOp.loadF (.int .i64 (at_ (mineU fs v fs.length) 0)) rfl rfl ty_3 (ld1 (by omega) (by omega)) ?_)
    refine AOps.cons rfl rfl (AOp.assign (.int .i64 (at_ (mineU fs v fs.length) 0)) rfl rfl ?_)
    refine AOps.cons rfl rfl (AOp.assign (.bool true) rfl rfl ?_)
    refine AOps.nil ?_
    change AWP _ _ _ _ _ _
    refine AWP.seq ?_
    refine AWP.seq ?_
    refine AWP.region (l := [0, 1, 2]) rfl ?_
    refine AOps.cons rfl rfl (AOp.move (.sl (mineU fs v fs.length).length ((mineU fs v fs.length).map eI)) rfl rfl ?_)
    refine AOps.cons rfl rfl (AOp.len (m := (mineU fs v fs.length).length) rfl rfl (.inr (.inl ⟨_, rfl⟩)) u_35 ?_)
    refine AOps.cons rfl rfl (AOp.move (.int .i64 0) rfl rfl ?_)
    refine AOps.nil ?_
    change AWP _ _ _ _ _ _
    refine AWP.block ?_
    refine AWP.loop (fun q7 fq Hq => ∃ (i : Int), q7 = ((((mineU fs v fs.length).length : Int) : Int) - i).toNat ∧ fq 26 = .int .i64 i ∧ fq 9 = .int .i64 (foldB fs v ((mineU fs v fs.length).take i.toNat) (at_ (mineU fs v fs.length) 0)) ∧ fq 10 = .bool (allG fs v ((mineU fs v fs.length).take i.toNat)) ∧ fq 0 = .ptr sid 0 0 ∧ fq 1 = .int .i64 v ∧ fq 2 = .sl (mineU fs v fs.length).length ((mineU fs v fs.length).map eI) ∧ fq 6 = .snil ∧ fq 7 = .bool false ∧ fq 8 = .bool false ∧ fq 24 = .sl (mineU fs v fs.length).length ((mineU fs v fs.length).map eI) ∧ fq 25 = .int .i64 (((mineU fs v fs.length).length) : Int) ∧ Hq sid = some (.row 0 ([.sl fs.length (fs.map eF), .map mid])) ∧ Hq mid = some (.map ((sides fs).map eS)) ∧ Mono H0 Hq ∧ (0 ≤ i) ∧ (i ≤ ((mineU fs v fs.length).length : Int))) (k := ((((mineU fs v fs.length).length : Int) : Int) - 0).toNat) ?_ ?_
    ·
      exact ⟨0, rfl, rfl, (congrArg (AV.int .i64) (show (at_ (mineU fs v fs.length) 0 : Int) = foldB fs v ((mineU fs v fs.length).take (0 : Int).toNat) (at_ (mineU fs v fs.length) 0) from by rfl)), (congrArg AV.bool (show (true : Bool) = allG fs v ((mineU fs v fs.length).take (0 : Int).toNat) from by rfl)), rfl, rfl, rfl, rfl, rfl, rfl, rfl, rfl, hs, hsm, m0, by omega, by omega⟩
    ·
      rintro _ f9 H8 ⟨i, rfl, s10, s11, s12, s13, s14, s15, s16, s17, s18, s19, s20, h21, h22, m23, hi0, hi1⟩
      refine AWP.seq ?_
      refine AWP.region (l := [0]) rfl ?_
      refine AOps.cons rfl rfl (AOp.bin (.bool (decide (i < (((mineU fs v fs.length).length) : Int)))) rfl s10 s20 rfl ?_)
      refine AOps.nil ?_
      change AWP _ _ _ _ _ _
      refine AWP.seq ?_
      by_cases b24 : i < (((mineU fs v fs.length).length) : Int)
      ·
        refine AWP.condT rfl (decide_eq_true b24) ?_
        refine AWP.skip ?_
        change AWP _ _ _ _ _ _
        refine AWP.seq ?_
        refine AWP.block ?_
        refine AWP.seq ?_
        refine AWP.region (l := [0, 1, 2]) rfl ?_
        refine AOps.cons rfl rfl (AOp.indexAddrS rfl s19 s10 sl_35 (by omega) (by omega) ?_)
        refine AOps.cons rfl rfl (AOp.loadF (.int .i64 (at_ (mineU fs v fs.length) i)) rfl rfl ty_3 (ld1 (by omega) (by omega)) ?_)
        refine AOps.cons rfl rfl (AOp.assign (.int .i64 (at_ (mineU fs v fs.length) i)) rfl rfl ?_)
        refine AOps.nil ?_
        change AWP _ _ _ _ _ _
        refine AWP.seq ?_
        have hm1 := hmm _ (at_mem hi0 (by omega))
        have hm2 := hnb _ hm1.1 hm1.2.1 hm1.2.2 1
        have hm3 := hm1.2.2
        refine AWP.region_quiet mixed (by kernel_rfl) 16 [] rfl (by kernel_rfl) (Mono H8) (Mono.refl _) ?_
        refine QE.op rfl rfl (.inl ⟨rfl, fun f' H' hf hM => AOp.move (.ptr sid 0 0) rfl ((hf 0 rfl).trans s13) ⟨rfl, hM⟩⟩) ?_
        refine QE.op rfl rfl (.inl ⟨rfl, fun f' H' hf hM => AOp.nilCheck (.ptr sid 0 0) rfl ((hf 31 rfl).trans rfl) rfl ⟨rfl, hM⟩⟩) ?_
        refine QE.op rfl rfl (.inl ⟨rfl, fun f' H' hf hM => AOp.fieldAddr rfl ((hf 32 rfl).trans rfl) fl_54_1 ⟨rfl, hM⟩ (hid := ⟨_, (hM _ _ h21)⟩)⟩) ?_
        refine QE.op rfl rfl (.inl ⟨rfl, fun f' H' hf hM => AOp.load (.map mid) rfl ((hf 33 rfl).trans rfl) ty_52 (hM _ _ h21) rfl ⟨rfl, hM⟩⟩) ?_
        refine QE.op rfl rfl (.inl ⟨rfl, fun f' H' hf hM => AOp.move (.ptr sid 0 0) rfl ((hf 0 rfl).trans s13) ⟨rfl, hM⟩⟩) ?_
        refine QE.op rfl rfl (.inl ⟨rfl, fun f' H' hf hM => AOp.move (.int .i64 (at_ (mineU fs v fs.length) i)) rfl ((hf 12 rfl).trans rfl) ⟨rfl, hM⟩⟩) ?_
        refine QE.op rfl rfl (.inl ⟨rfl, fun f' H' hf hM => AOp.move (.int .i64 v) rfl ((hf 1 rfl).trans s14) ⟨rfl, hM⟩⟩) ?_
        refine QE.op rfl rfl (.inl ⟨rfl, fun f' H' hf hM => AOp.pcallH («as» := [.ptr sid 0 0, .int .i64 (at_ (mineU fs v fs.length) i), .int .i64 v, .int .i64 1]) rfl rfl (lapp (lcons ((hf 35 rfl).trans rfl) (lcons ((hf 36 rfl).trans rfl) (lcons ((hf 37 rfl).trans rfl) (lcons rfl rfl)))) rfl) tf_38 (c38 _ (by assumption) (by assumption) _ _ _ (by omega) (by assumption) (by omega) (hM _ _ h21)) fun H2 m2 => ⟨rfl, hM.trans m2⟩⟩) ?_
        refine QE.op rfl rfl (.inl ⟨rfl, fun f' H' hf hM => AOp.move (.int .i64 v) rfl ((hf 1 rfl).trans s14) ⟨rfl, hM⟩⟩) ?_
        refine QE.op rfl rfl (.inl ⟨rfl, fun f' H' hf hM => AOp.build (cells := [.int .i64 (nextS (at_ fs (at_ (mineU fs v fs.length) i)) v 1), .int .i64 v]) rfl tz_63 pl_63 (lconsP ((hf 38 rfl).trans rfl) (lconsP ((hf 39 rfl).trans rfl) rfl)) rfl ⟨rfl, hM⟩⟩) ?_
        refine QE.op rfl rfl (.inl ⟨rfl, fun f' H' hf hM => AOp.lookupOk' rfl ((hf 34 rfl).trans rfl) (hM _ _ h22) ((hf 40 rfl).trans rfl) (kok63 ⟨by omega, by omega⟩ ⟨by omega, by omega⟩) (kes hKR) tm52 tzv_3 (look_sides hK (nextS (at_ fs (at_ (mineU fs v fs.length) i)) v 1) (v)) ⟨rfl, hM⟩⟩) ?_
        refine QE.op rfl rfl (.inl ⟨rfl, fun f' H' hf hM => AOp.move (.tup [.int .i64 (gotA fs (nextS (at_ fs (at_ (mineU fs v fs.length) i)) v 1) v), .bool (decide (0 ≤ alongS fs (nextS (at_ fs (at_ (mineU fs v fs.length) i)) v 1) v))]) rfl ((hf 41 rfl).trans rfl) ⟨rfl, hM⟩⟩) ?_
        refine QE.op rfl rfl (.inl ⟨rfl, fun f' H' hf hM => AOp.extract (.int .i64 (gotA fs (nextS (at_ fs (at_ (mineU fs v fs.length) i)) v 1) v)) rfl ((hf 30 rfl).trans rfl) rfl ⟨rfl, hM⟩⟩) ?_
        refine QE.op rfl rfl (.inl ⟨rfl, fun f' H' hf hM => AOp.extract (.bool (decide (0 ≤ alongS fs (nextS (at_ fs (at_ (mineU fs v fs.length) i)) v 1) v))) rfl ((hf 30 rfl).trans rfl) rfl ⟨rfl, hM⟩⟩) ?_
        refine QE.op rfl rfl (.inl ⟨rfl, fun f' H' hf hM => AOp.assign (.int .i64 (gotA fs (nextS (at_ fs (at_ (mineU fs v fs.length) i)) v 1) v)) rfl ((hf 42 rfl).trans rfl) ⟨rfl, hM⟩⟩) ?_
        refine QE.op rfl rfl (.inl ⟨rfl, fun f' H' hf hM => AOp.assign (.bool (decide (0 ≤ alongS fs (nextS (at_ fs (at_ (mineU fs v fs.length) i)) v 1) v))) rfl ((hf 43 rfl).trans rfl) ⟨rfl, hM⟩⟩) ?_
        refine QE.done fun H25 m26 => ?_
        have h27 := m26 _ _ h21
        have h28 := m26 _ _ h22
        have m29 := m23.trans m26
        refine AOps.nil ?_
        change AWP _ _ _ _ _ _
        refine AWP.seq ?_
        refine AWP.region (l := [0, 1]) rfl ?_
        refine AOps.cons rfl rfl (AOp.move (.bool (decide (0 ≤ alongS fs (nextS (at_ fs (at_ (mineU fs v fs.length) i)) v 1) v))) rfl rfl ?_)
        refine AOps.cons rfl rfl (AOp.not rfl rfl ?_)
        refine AOps.nil ?_
        change AWP _ _ _ _ _ _
        by_cases b30 : 0 ≤ alongS fs (nextS (at_ fs (at_ (mineU fs v fs.length) i)) v 1) v
        ·
          refine AWP.condF rfl (nb (decide_eq_true b30)) ?_
          refine AWP.skip ?_
          change AWP _ _ _ _ _ _
          refine AWP.region (l := [0, 1]) rfl ?_
          refine AOps.cons rfl rfl (AOp.bin (.int .i64 (i + 1)) rfl s10 rfl (iadd (by omega)) ?_)
          refine AOps.cons rfl rfl (AOp.move (.int .i64 (i + 1)) rfl rfl ?_)
          refine AOps.nil ?_
          exact ⟨_, by omega, i + 1, rfl, rfl, (s11.trans (congrArg (AV.int .i64) (show (foldB fs v ((mineU fs v fs.length).take i.toNat) (at_ (mineU fs v fs.length) 0) : Int) = foldB fs v ((mineU fs v fs.length).take (i + 1).toNat) (at_ (mineU fs v fs.length) 0) from by exact (fold_F (x := at_ (mineU fs v fs.length) 0) hi0 (by omega) (by omega)).1.symm))), (s12.trans (congrArg AV.bool (show (allG fs v ((mineU fs v fs.length).take i.toNat) : Bool) = allG fs v ((mineU fs v fs.length).take (i + 1).toNat) from by exact (fold_F (x := at_ (mineU fs v fs.length) 0) hi0 (by omega) (by omega)).2.symm))), s13, s14, s15, s16, s17, s18, s19, s20, h27, h28, m29, by omega, by omega⟩
        ·
          refine AWP.condT rfl (nb (decide_eq_false b30)) ?_
          refine AWP.region (l := [0, 1, 2]) rfl ?_
          refine AOps.cons rfl rfl (AOp.move (.int .i64 (at_ (mineU fs v fs.length) i)) rfl rfl ?_)
          refine AOps.cons rfl rfl (AOp.assign (.int .i64 (at_ (mineU fs v fs.length) i)) rfl rfl ?_)
          refine AOps.cons rfl rfl (AOp.assign (.bool false) rfl rfl ?_)
          refine AOps.nil ?_
          change AWP _ _ _ _ _ _
          refine AWP.region (l := [0, 1]) rfl ?_
          refine AOps.cons rfl rfl (AOp.bin (.int .i64 (i + 1)) rfl s10 rfl (iadd (by omega)) ?_)
          refine AOps.cons rfl rfl (AOp.move (.int .i64 (i + 1)) rfl rfl ?_)
          refine AOps.nil ?_
          exact ⟨_, by omega, i + 1, rfl, rfl, (congrArg (AV.int .i64) (show (at_ (mineU fs v fs.length) i : Int) = foldB fs v ((mineU fs v fs.length).take (i + 1).toNat) (at_ (mineU fs v fs.length) 0) from by exact (fold_T (x := at_ (mineU fs v fs.length) 0) hi0 (by omega) (by omega)).1.symm)), (congrArg AV.bool (show (false : Bool) = allG fs v ((mineU fs v fs.length).take (i + 1).toNat) from by exact (fold_T (x := at_ (mineU fs v fs.length) 0) hi0 (by omega) (by omega)).2.symm)), s13, s14, s15, s16, s17, s18, s19, s20, h27, h28, m29, by omega, by omega⟩
      ·
        refine AWP.condF rfl (decide_eq_false b24) ?_
        refine AWP.exit ?_
        change AWP _ _ _ _ _ _
        refine AWP.seq ?_
        have hie : i = (mineU fs v fs.length).length := by omega
        have hh := fold_head (fs := fs) (v := v)
        have htk : (mineU fs v fs.length).take i.toNat = mineU fs v fs.length := take_all (by omega)
        refine AWP.region (l := [0, 1, 2]) rfl ?_
        refine AOps.cons rfl rfl (AOp.move (.int .i64 (foldB fs v ((mineU fs v fs.length).take i.toNat) (at_ (mineU fs v fs.length) 0))) rfl s11 ?_)
        refine AOps.cons rfl rfl (AOp.buildSlice (cells := [.int .i64 (foldB fs v ((mineU fs v fs.length).take i.toNat) (at_ (mineU fs v fs.length) 0))]) rfl u_35 ts_3 tz_3 rfl rfl rfl ?_)
        intro i31 H32 n33 h34 k35
        have e36 := ne_new h21 n33
        have e37 := ne_new h22 n33
        have z38 := Mono.free m23 n33
        have h39 := keep k35 (ne_new h21 n33) h21
        have h40 := keep k35 (ne_new h22 n33) h22
        have m41 := Mono.new m23 n33 k35
        refine AOps.cons rfl rfl (AOp.assign (.slm i31 0 1 0 1) rfl rfl ?_)
        refine AOps.nil ?_
        change AWP _ _ _ _ _ _
        refine AWP.seq ?_
        refine AWP.block ?_
        obtain ⟨v42, e43⟩ : ∃ v : AV, v = .slm i31 0 1 0 1 := ⟨_, rfl⟩
        have o44 : Own H0 H32 1 v42 1 [.int .i64 (foldB fs v ((mineU fs v fs.length).take i.toNat) (at_ (mineU fs v fs.length) 0))] := .inr ⟨_, _, e43, h34, z38, rfl⟩
        have no45 : NotId v42 sid := by rw [e43]; exact NotId.slm e36
        have no46 : NotId v42 mid := by rw [e43]; exact NotId.slm e37
        refine AWP.loop (fun q47 fq Hq => ∃ (k : Nat) (w15 : AV), q47 = fs.length + 1 - k ∧ fq 9 = .int .i64 (headS fs v) ∧ fq 10 = .bool (roundB fs v) ∧ fq 0 = .ptr sid 0 0 ∧ fq 1 = .int .i64 v ∧ fq 2 = .sl (mineU fs v fs.length).length ((mineU fs v fs.length).map eI) ∧ fq 6 = .snil ∧ fq 7 = .bool false ∧ fq 8 = .bool false ∧ fq 15 = w15 ∧ Own H0 Hq 1 w15 (orbS fs v (headS fs v) k).length ((orbS fs v (headS fs v) k).map eI) ∧ NotId w15 sid ∧ NotId w15 mid ∧ Hq sid = some (.row 0 ([.sl fs.length (fs.map eF), .map mid])) ∧ Hq mid = some (.map ((sides fs).map eS)) ∧ Mono H0 Hq ∧ (Runs fs v (headS fs v) k) ∧ (1 ≤ k)) (k := fs.length + 1 - 1) ?_ ?_
        ·
          exact ⟨1, v42, rfl, (s11.trans (congrArg (AV.int .i64) (show (foldB fs v ((mineU fs v fs.length).take i.toNat) (at_ (mineU fs v fs.length) 0) : Int) = headS fs v from by rw [htk]; exact hh.1))), (s12.trans (congrArg AV.bool (show (allG fs v ((mineU fs v fs.length).take i.toNat) : Bool) = roundB fs v from by rw [htk]; exact hh.2))), s13, s14, s15, s16, s17, s18, e43.symm, (have hx : (([foldB fs v ((mineU fs v fs.length).take i.toNat) (at_ (mineU fs v fs.length) 0)] : List Int) : List Int) = orbS fs v (headS fs v) 1 := (by rw [htk, hh.1]; rfl); Own.re (o44) (congrArg List.length hx) (congrArg (fun l : List Int => l.map eI) hx)), no45, no46, h39, h40, m41, by exact runs_one hx.1, by omega⟩
        ·
          rintro _ f49 H48 ⟨k, w15, rfl, s50, s51, s52, s53, s54, s55, s56, s57, s58, o59, no60, no61, h62, h63, m64, hr, hk1⟩
          refine AWP.seq ?_
          refine AWP.seq ?_
          refine AWP.region (l := [0, 1, 2, 3, 4]) rfl ?_
          refine AOps.cons rfl rfl (AOp.move (w15) rfl s58 ?_)
          refine AOps.cons rfl rfl (AOp.len_own (m := ((orbS fs v (headS fs v) k).length)) rfl rfl o59 u_35 ?_)
          refine AOps.cons rfl rfl (AOp.move (.sl (mineU fs v fs.length).length ((mineU fs v fs.length).map eI)) rfl s54 ?_)
          refine AOps.cons rfl rfl (AOp.len (m := (mineU fs v fs.length).length) rfl rfl (.inr (.inl ⟨_, rfl⟩)) u_35 ?_)
          refine AOps.cons rfl rfl (AOp.bin (.bool (decide ((((orbS fs v (headS fs v) k).length) : Int) ≤ (((mineU fs v fs.length).length) : Int)))) rfl rfl rfl rfl ?_)
          refine AOps.nil ?_
          change AWP _ _ _ _ _ _
          by_cases b65 : (((orbS fs v (headS fs v) k).length) : Int) ≤ (((mineU fs v fs.length).length) : Int)
          ·
            refine AWP.condT rfl (decide_eq_true b65) ?_
            refine AWP.skip ?_
            change AWP _ _ _ _ _ _
            refine AWP.block ?_
            refine AWP.seq ?_
            have hol := orb_len fs v (headS fs v) k
            have hlast : at_ (orbS fs v (headS fs v) k) (((orbS fs v (headS fs v) k).length : Int) - 1) = iterS (stepS fs v) (headS fs v) (k - 1) := orb_last hk1
            have hme := run_mem hg hx.1 hx.2.1 hx.2.2 hr (k - 1) (by omega)
            have hbn := hnb _ hme.1 hme.2.1 hme.2.2 (-1)
            have hv3 := hme.2.2
            rw [← hlast] at hbn hv3 hme
            have hit : alongS fs v (nextS (at_ fs (at_ (orbS fs v (headS fs v) k) (((orbS fs v (headS fs v) k).length : Int) - 1))) v (-1)) = iterS (stepS fs v) (headS fs v) k := by rw [hlast]; exact iter_pred hk1
            refine AWP.region_quiet mixed (by kernel_rfl) 21 [] rfl (by kernel_rfl) (Mono H48) (Mono.refl _) ?_
            refine QE.op rfl rfl (.inl ⟨rfl, fun f' H' hf hM => AOp.move (.ptr sid 0 0) rfl ((hf 0 rfl).trans s52) ⟨rfl, hM⟩⟩) ?_
            refine QE.op rfl rfl (.inl ⟨rfl, fun f' H' hf hM => AOp.nilCheck (.ptr sid 0 0) rfl ((hf 56 rfl).trans rfl) rfl ⟨rfl, hM⟩⟩) ?_
            refine QE.op rfl rfl (.inl ⟨rfl, fun f' H' hf hM => AOp.fieldAddr rfl ((hf 57 rfl).trans rfl) fl_54_1 ⟨rfl, hM⟩ (hid := ⟨_, (hM _ _ h62)⟩)⟩) ?_
            refine QE.op rfl rfl (.inl ⟨rfl, fun f' H' hf hM => AOp.load (.map mid) rfl ((hf 58 rfl).trans rfl) ty_52 (hM _ _ h62) rfl ⟨rfl, hM⟩⟩) ?_
            refine QE.op rfl rfl (.inl ⟨rfl, fun f' H' hf hM => AOp.move (.int .i64 v) rfl ((hf 1 rfl).trans s53) ⟨rfl, hM⟩⟩) ?_
            refine QE.op rfl rfl (.inl ⟨rfl, fun f' H' hf hM => AOp.move (.ptr sid 0 0) rfl ((hf 0 rfl).trans s52) ⟨rfl, hM⟩⟩) ?_
            refine QE.op rfl rfl (.inl ⟨rfl, fun f' H' hf hM => AOp.move (w15) rfl ((hf 15 rfl).trans s58) ⟨rfl, hM⟩⟩) ?_
            refine QE.op rfl rfl (.inl ⟨rfl, fun f' H' hf hM => AOp.move (w15) rfl ((hf 15 rfl).trans s58) ⟨rfl, hM⟩⟩) ?_
            refine QE.op rfl rfl (.inl ⟨rfl, fun f' H' hf hM => AOp.len_own (m := ((orbS fs v (headS fs v) k).length)) rfl ((hf 63 rfl).trans rfl) o59 u_35 ⟨rfl, hM⟩⟩) ?_
            refine QE.op rfl rfl (.inl ⟨rfl, fun f' H' hf hM => AOp.bin (.int .i64 ((((orbS fs v (headS fs v) k).length) : Int) - 1)) rfl ((hf 64 rfl).trans rfl) rfl (isub (by omega)) ⟨rfl, hM⟩⟩) ?_
            obtain ⟨i66, ver67, e68, h69, _, _⟩ := Own.pos o59 (by omega)
            refine QE.op rfl rfl (.inl ⟨rfl, fun f' H' hf hM => AOp.indexAddrO rfl (Eq.trans ((hf 62 rfl).trans rfl) e68) ((hf 65 rfl).trans rfl) sl_35 (by omega) (by omega) (hM _ _ h69) ⟨rfl, hM⟩⟩) ?_
            refine QE.op rfl rfl (.inl ⟨rfl, fun f' H' hf hM => AOp.load (.int .i64 (at_ (orbS fs v (headS fs v) k) ((((orbS fs v (headS fs v) k).length) : Int) - 1))) rfl ((hf 66 rfl).trans rfl) ty_3 (hM _ _ h69) (ld1 (by omega) (by omega)) ⟨rfl, hM⟩⟩) ?_
            refine QE.op rfl rfl (.inl ⟨rfl, fun f' H' hf hM => AOp.move (.int .i64 v) rfl ((hf 1 rfl).trans s53) ⟨rfl, hM⟩⟩) ?_
            refine QE.op rfl rfl (.inl ⟨rfl, fun f' H' hf hM => AOp.pcallH («as» := [.ptr sid 0 0, .int .i64 (at_ (orbS fs v (headS fs v) k) ((((orbS fs v (headS fs v) k).length) : Int) - 1)), .int .i64 v, .int .i64 (-1)]) rfl rfl (lapp (lcons ((hf 61 rfl).trans rfl) (lcons ((hf 67 rfl).trans rfl) (lcons ((hf 68 rfl).trans rfl) (lcons rfl rfl)))) rfl) tf_38 (c38 _ (by assumption) (by assumption) _ _ _ (by omega) (by assumption) (by omega) (hM _ _ h62)) fun H2 m2 => ⟨rfl, hM.trans m2⟩⟩) ?_
            refine QE.op rfl rfl (.inl ⟨rfl, fun f' H' hf hM => AOp.build (cells := [.int .i64 v, .int .i64 (nextS (at_ fs (at_ (orbS fs v (headS fs v) k) ((((orbS fs v (headS fs v) k).length) : Int) - 1))) v (-1))]) rfl tz_63 pl_63 (lconsP ((hf 60 rfl).trans rfl) (lconsP ((hf 69 rfl).trans rfl) rfl)) rfl ⟨rfl, hM⟩⟩) ?_
            refine QE.op rfl rfl (.inl ⟨rfl, fun f' H' hf hM => AOp.lookupOk' rfl ((hf 59 rfl).trans rfl) (hM _ _ h63) ((hf 70 rfl).trans rfl) (kok63 ⟨by omega, by omega⟩ ⟨by omega, by omega⟩) (kes hKR) tm52 tzv_3 (look_sides hK (v) (nextS (at_ fs (at_ (orbS fs v (headS fs v) k) ((((orbS fs v (headS fs v) k).length) : Int) - 1))) v (-1))) ⟨rfl, hM⟩⟩) ?_
            refine QE.op rfl rfl (.inl ⟨rfl, fun f' H' hf hM => AOp.move (.tup [.int .i64 (gotA fs v (nextS (at_ fs (at_ (orbS fs v (headS fs v) k) ((((orbS fs v (headS fs v) k).length) : Int) - 1))) v (-1))), .bool (decide (0 ≤ alongS fs v (nextS (at_ fs (at_ (orbS fs v (headS fs v) k) ((((orbS fs v (headS fs v) k).length) : Int) - 1))) v (-1))))]) rfl ((hf 71 rfl).trans rfl) ⟨rfl, hM⟩⟩) ?_
            refine QE.op rfl rfl (.inl ⟨rfl, fun f' H' hf hM => AOp.extract (.int .i64 (gotA fs v (nextS (at_ fs (at_ (orbS fs v (headS fs v) k) ((((orbS fs v (headS fs v) k).length) : Int) - 1))) v (-1)))) rfl ((hf 55 rfl).trans rfl) rfl ⟨rfl, hM⟩⟩) ?_
            refine QE.op rfl rfl (.inl ⟨rfl, fun f' H' hf hM => AOp.extract (.bool (decide (0 ≤ alongS fs v (nextS (at_ fs (at_ (orbS fs v (headS fs v) k) ((((orbS fs v (headS fs v) k).length) : Int) - 1))) v (-1))))) rfl ((hf 55 rfl).trans rfl) rfl ⟨rfl, hM⟩⟩) ?_
            refine QE.op rfl rfl (.inl ⟨rfl, fun f' H' hf hM => AOp.assign (.int .i64 (gotA fs v (nextS (at_ fs (at_ (orbS fs v (headS fs v) k) ((((orbS fs v (headS fs v) k).length) : Int) - 1))) v (-1)))) rfl ((hf 72 rfl).trans rfl) ⟨rfl, hM⟩⟩) ?_
            refine QE.op rfl rfl (.inl ⟨rfl, fun f' H' hf hM => AOp.assign (.bool (decide (0 ≤ alongS fs v (nextS (at_ fs (at_ (orbS fs v (headS fs v) k) ((((orbS fs v (headS fs v) k).length) : Int) - 1))) v (-1))))) rfl ((hf 73 rfl).trans rfl) ⟨rfl, hM⟩⟩) ?_
            refine QE.done fun H70 m71 => ?_
            have h72 := m71 _ _ h62
            have h73 := m71 _ _ h63
            have o74 := Own.mono o59 m71
            have m75 := m64.trans m71
            refine AOps.nil ?_
            change AWP _ _ _ _ _ _
            refine AWP.seq ?_
            refine AWP.seq ?_
            refine AWP.region (l := [0, 1, 2, 3, 4, 5, 6]) rfl ?_
            refine AOps.cons rfl rfl (AOp.move (.bool (decide (0 ≤ alongS fs v (nextS (at_ fs (at_ (orbS fs v (headS fs v) k) ((((orbS fs v (headS fs v) k).length) : Int) - 1))) v (-1))))) rfl rfl ?_)
            refine AOps.cons rfl rfl (AOp.not rfl rfl ?_)
            refine AOps.cons rfl rfl (AOp.move (.bool (!(decide (0 ≤ alongS fs v (nextS (at_ fs (at_ (orbS fs v (headS fs v) k) ((((orbS fs v (headS fs v) k).length) : Int) - 1))) v (-1)))))) rfl rfl ?_)
            by_cases b76 : 0 ≤ alongS fs v (nextS (at_ fs (at_ (orbS fs v (headS fs v) k) ((((orbS fs v (headS fs v) k).length) : Int) - 1))) v (-1))
            ·
              refine AOps.yes rfl rfl rfl rfl rfl rfl rfl (nb (decide_eq_true b76)) (AOp.move (.int .i64 (gotA fs v (nextS (at_ fs (at_ (orbS fs v (headS fs v) k) ((((orbS fs v (headS fs v) k).length) : Int) - 1))) v (-1)))) rfl rfl ?_)
              refine AOps.yes rfl rfl rfl rfl rfl rfl rfl (nb (decide_eq_true b76)) (AOp.move (.int .i64 (headS fs v)) rfl s50 ?_)
              refine AOps.yes rfl rfl rfl rfl rfl rfl rfl (nb (decide_eq_true b76)) (AOp.bin (.bool (decide (gotA fs v (nextS (at_ fs (at_ (orbS fs v (headS fs v) k) ((((orbS fs v (headS fs v) k).length) : Int) - 1))) v (-1)) = headS fs v))) rfl rfl rfl ieq ?_)
              refine AOps.cons rfl rfl (AOp.pickF (.bool (decide (gotA fs v (nextS (at_ fs (at_ (orbS fs v (headS fs v) k) ((((orbS fs v (headS fs v) k).length) : Int) - 1))) v (-1)) = headS fs v))) rfl rfl (nb (decide_eq_true b76)) rfl ?_)
              refine AOps.nil ?_
              change AWP _ _ _ _ _ _
              by_cases b77 : gotA fs v (nextS (at_ fs (at_ (orbS fs v (headS fs v) k) ((((orbS fs v (headS fs v) k).length) : Int) - 1))) v (-1)) = headS fs v
              ·
                refine AWP.condT rfl (decide_eq_true b77) ?_
                refine AWP.exit ?_
                change AWP _ _ _ _ _ _
                refine AWP.seq ?_
                have hol := orb_len fs v (headS fs v) k
                have hle := run_le hg hx.1 hx.2.1 hx.2.2 hr
                have hst : isStop fs v (headS fs v) k := ⟨hk1, .inr (by have h1 := b77; unfold gotA at h1; rw [if_pos b76] at h1; omega)⟩
                have hfl : fanL fs v = orbS fs v (headS fs v) k := by unfold fanL; rw [if_neg hne, ← stop_of (by omega) hr hst]
                refine AWP.region (l := [0, 1, 2, 3, 4, 5, 6, 7, 8, 9]) rfl ?_
                refine AOps.cons rfl rfl (AOp.move (w15) rfl s58 ?_)
                refine AOps.cons rfl rfl (AOp.move (.bool (roundB fs v)) rfl s51 ?_)
                refine AOps.cons rfl rfl (AOp.move (w15) rfl s58 ?_)
                refine AOps.cons rfl rfl (AOp.len_own (m := ((orbS fs v (headS fs v) k).length)) rfl rfl o74 u_35 ?_)
                refine AOps.cons rfl rfl (AOp.move (.sl (mineU fs v fs.length).length ((mineU fs v fs.length).map eI)) rfl s54 ?_)
                refine AOps.cons rfl rfl (AOp.len (m := (mineU fs v fs.length).length) rfl rfl (.inr (.inl ⟨_, rfl⟩)) u_35 ?_)
                refine AOps.cons rfl rfl (AOp.bin (.bool (decide ((((orbS fs v (headS fs v) k).length) : Int) = (((mineU fs v fs.length).length) : Int)))) rfl rfl rfl ieq ?_)
                refine AOps.cons rfl rfl (AOp.assign (w15) rfl rfl ?_)
                refine AOps.cons rfl rfl (AOp.assign (.bool (roundB fs v)) rfl rfl ?_)
                refine AOps.cons rfl rfl (AOp.assign (.bool (decide ((((orbS fs v (headS fs v) k).length) : Int) = (((mineU fs v fs.length).length) : Int)))) rfl rfl ?_)
                refine AOps.nil ?_
                change AWP _ _ _ _ _ _
                refine AWP.ret ?_
                refine Fin.frz 6 o74 rfl m75 fun H78 m79 k80 => ?_
                have h81 := (k80 _ no60).trans h72
                have h82 := (k80 _ no61).trans h73
                refine ⟨_, _, Ghost.refl, .inr rfl, _, Res.three rfl rfl rfl rfl, ?_, m79⟩
                exact congrArg AV.tup (lc (congrArg (fun l : List Int => AV.sl l.length (l.map eI)) (show ((orbS fs v (headS fs v) k) : List Int) = fanL fs v from by rw [hfl])) (lc (congrArg AV.bool (show (roundB fs v : Bool) = fanR fs v from by unfold fanR; rw [if_neg hne])) (lc (congrArg AV.bool (show (decide ((((orbS fs v (headS fs v) k).length) : Int) = (((mineU fs v fs.length).length) : Int)) : Bool) = fanOK fs v from by unfold fanOK; rw [if_neg hne, hfl]; exact decide_eq_decide.2 (by omega))) rfl)))
              ·
                refine AWP.condF rfl (decide_eq_false b77) ?_
                refine AWP.skip ?_
                change AWP _ _ _ _ _ _
                have hga : gotA fs v (nextS (at_ fs (at_ (orbS fs v (headS fs v) k) (((orbS fs v (headS fs v) k).length : Int) - 1))) v (-1)) = iterS (stepS fs v) (headS fs v) k := by unfold gotA; rw [if_pos b76]; exact hit
                have hr2 := runs_step hr (by have := b76; omega) (.inr (by have := b77; rw [hga] at this; exact this))
                have hle2 := run_le hg hx.1 hx.2.1 hx.2.2 hr2
                refine AWP.region (l := [0, 1, 2, 3, 4]) rfl ?_
                refine AOps.cons rfl rfl (AOp.move (w15) rfl s58 ?_)
                refine AOps.cons rfl rfl (AOp.move (.int .i64 (gotA fs v (nextS (at_ fs (at_ (orbS fs v (headS fs v) k) ((((orbS fs v (headS fs v) k).length) : Int) - 1))) v (-1)))) rfl rfl ?_)
                refine AOps.cons rfl rfl (AOp.buildSlice (cells := [.int .i64 (gotA fs v (nextS (at_ fs (at_ (orbS fs v (headS fs v) k) ((((orbS fs v (headS fs v) k).length) : Int) - 1))) v (-1)))]) rfl u_35 ts_3 tz_3 rfl rfl rfl ?_)
                intro i83 H84 n85 h86 k87
                have e88 := ne_new h72 n85
                have e89 := ne_new h73 n85
                have z90 := Mono.free m75 n85
                have h91 := keep k87 (ne_new h72 n85) h72
                have h92 := keep k87 (ne_new h73 n85) h73
                have o93 := Own.keep o74 k87 (Own.notnew o74 n85)
                have no94 := Own.notnew o74 n85
                have m95 := Mono.new m75 n85 k87
                refine AOps.cons rfl rfl (AOp.append_own (es := 1) (m := 1) (len := ((orbS fs v (headS fs v) k).length)) (old := (orbS fs v (headS fs v) k).map eI) (cells := [.int .i64 (gotA fs v (nextS (at_ fs (at_ (orbS fs v (headS fs v) k) ((((orbS fs v (headS fs v) k).length) : Int) - 1))) v (-1)))]) rfl u_35 ts_3 tzn_3 tb_3 (by decide) ni_35 rfl o93 m95 rfl (.slm h86 rfl) (one_of rfl) (by decide) (by first | omega | (simp; omega)) ?_)
                intro v96 H97 o98 m99 k100 j101
                have o102 := Own.snoc1 (xs := ((orbS fs v (headS fs v) k) : List Int)) (y := gotA fs v (nextS (at_ fs (at_ (orbS fs v (headS fs v) k) ((((orbS fs v (headS fs v) k).length) : Int) - 1))) v (-1))) (e := eI) (by simp) o98
                have h103 := (k100 _ no60 (by rw [h91]; simp)).trans h91
                have no104 := j101 _ no60 (by rw [h91]; simp)
                have h105 := (k100 _ no61 (by rw [h92]; simp)).trans h92
                have no106 := j101 _ no61 (by rw [h92]; simp)
                refine AOps.cons rfl rfl (AOp.assign (v96) rfl rfl ?_)
                refine AOps.nil ?_
                exact ⟨_, by omega, k + 1, v96, rfl, s50, s51, s52, s53, s54, s55, s56, s57, rfl, (have hx : (((orbS fs v (headS fs v) k) ++ [gotA fs v (nextS (at_ fs (at_ (orbS fs v (headS fs v) k) ((((orbS fs v (headS fs v) k).length) : Int) - 1))) v (-1))]) : List Int) = orbS fs v (headS fs v) (k + 1) := (by rw [orb_step, hga]); Own.re o102 (congrArg List.length hx) (congrArg (fun l : List Int => l.map eI) hx)), no104, no106, h103, h105, m99, by exact hr2, by omega⟩
            ·
              refine AOps.no rfl rfl rfl rfl rfl rfl rfl (ble_of (nb (decide_eq_false b76)) (by decide)) ?_
              refine AOps.no rfl rfl rfl rfl rfl rfl rfl (ble_of (nb (decide_eq_false b76)) (by decide)) ?_
              refine AOps.no rfl rfl rfl rfl rfl rfl rfl (ble_of (nb (decide_eq_false b76)) (by decide)) ?_
              refine AOps.cons rfl rfl (AOp.pickT (.bool true) rfl rfl (nb (decide_eq_false b76)) rfl ?_)
              refine AOps.nil ?_
              change AWP _ _ _ _ _ _
              refine AWP.condT rfl rfl ?_
              refine AWP.exit ?_
              change AWP _ _ _ _ _ _
              refine AWP.seq ?_
              have hol := orb_len fs v (headS fs v) k
              have hle := run_le hg hx.1 hx.2.1 hx.2.2 hr
              have hst : isStop fs v (headS fs v) k := ⟨hk1, .inl (by omega)⟩
              have hfl : fanL fs v = orbS fs v (headS fs v) k := by unfold fanL; rw [if_neg hne, ← stop_of (by omega) hr hst]
              refine AWP.region (l := [0, 1, 2, 3, 4, 5, 6, 7, 8, 9]) rfl ?_
              refine AOps.cons rfl rfl (AOp.move (w15) rfl s58 ?_)
              refine AOps.cons rfl rfl (AOp.move (.bool (roundB fs v)) rfl s51 ?_)
              refine AOps.cons rfl rfl (AOp.move (w15) rfl s58 ?_)
              refine AOps.cons rfl rfl (AOp.len_own (m := ((orbS fs v (headS fs v) k).length)) rfl rfl o74 u_35 ?_)
              refine AOps.cons rfl rfl (AOp.move (.sl (mineU fs v fs.length).length ((mineU fs v fs.length).map eI)) rfl s54 ?_)
              refine AOps.cons rfl rfl (AOp.len (m := (mineU fs v fs.length).length) rfl rfl (.inr (.inl ⟨_, rfl⟩)) u_35 ?_)
              refine AOps.cons rfl rfl (AOp.bin (.bool (decide ((((orbS fs v (headS fs v) k).length) : Int) = (((mineU fs v fs.length).length) : Int)))) rfl rfl rfl ieq ?_)
              refine AOps.cons rfl rfl (AOp.assign (w15) rfl rfl ?_)
              refine AOps.cons rfl rfl (AOp.assign (.bool (roundB fs v)) rfl rfl ?_)
              refine AOps.cons rfl rfl (AOp.assign (.bool (decide ((((orbS fs v (headS fs v) k).length) : Int) = (((mineU fs v fs.length).length) : Int)))) rfl rfl ?_)
              refine AOps.nil ?_
              change AWP _ _ _ _ _ _
              refine AWP.ret ?_
              refine Fin.frz 6 o74 rfl m75 fun H107 m108 k109 => ?_
              have h110 := (k109 _ no60).trans h72
              have h111 := (k109 _ no61).trans h73
              refine ⟨_, _, Ghost.refl, .inr rfl, _, Res.three rfl rfl rfl rfl, ?_, m108⟩
              exact congrArg AV.tup (lc (congrArg (fun l : List Int => AV.sl l.length (l.map eI)) (show ((orbS fs v (headS fs v) k) : List Int) = fanL fs v from by rw [hfl])) (lc (congrArg AV.bool (show (roundB fs v : Bool) = fanR fs v from by unfold fanR; rw [if_neg hne])) (lc (congrArg AV.bool (show (decide ((((orbS fs v (headS fs v) k).length) : Int) = (((mineU fs v fs.length).length) : Int)) : Bool) = fanOK fs v from by unfold fanOK; rw [if_neg hne, hfl]; exact decide_eq_decide.2 (by omega))) rfl)))
          ·
            refine AWP.condF rfl (decide_eq_false b65) ?_
            refine AWP.exit ?_
            change AWP _ _ _ _ _ _
            refine AWP.seq ?_
            have hol := orb_len fs v (headS fs v) k
            have hle := run_le hg hx.1 hx.2.1 hx.2.2 hr
            have hst : isStop fs v (headS fs v) k := by exfalso; omega
            have hfl : fanL fs v = orbS fs v (headS fs v) k := by unfold fanL; rw [if_neg hne, ← stop_of (by omega) hr hst]
            refine AWP.region (l := [0, 1, 2, 3, 4, 5, 6, 7, 8, 9]) rfl ?_
            refine AOps.cons rfl rfl (AOp.move (w15) rfl s58 ?_)
            refine AOps.cons rfl rfl (AOp.move (.bool (roundB fs v)) rfl s51 ?_)
            refine AOps.cons rfl rfl (AOp.move (w15) rfl s58 ?_)
            refine AOps.cons rfl rfl (AOp.len_own (m := ((orbS fs v (headS fs v) k).length)) rfl rfl o59 u_35 ?_)
            refine AOps.cons rfl rfl (AOp.move (.sl (mineU fs v fs.length).length ((mineU fs v fs.length).map eI)) rfl s54 ?_)
            refine AOps.cons rfl rfl (AOp.len (m := (mineU fs v fs.length).length) rfl rfl (.inr (.inl ⟨_, rfl⟩)) u_35 ?_)
            refine AOps.cons rfl rfl (AOp.bin (.bool (decide ((((orbS fs v (headS fs v) k).length) : Int) = (((mineU fs v fs.length).length) : Int)))) rfl rfl rfl ieq ?_)
            refine AOps.cons rfl rfl (AOp.assign (w15) rfl rfl ?_)
            refine AOps.cons rfl rfl (AOp.assign (.bool (roundB fs v)) rfl rfl ?_)
            refine AOps.cons rfl rfl (AOp.assign (.bool (decide ((((orbS fs v (headS fs v) k).length) : Int) = (((mineU fs v fs.length).length) : Int)))) rfl rfl ?_)
            refine AOps.nil ?_
            change AWP _ _ _ _ _ _
            refine AWP.ret ?_
            refine Fin.frz 6 o59 rfl m64 fun H112 m113 k114 => ?_
            have h115 := (k114 _ no60).trans h62
            have h116 := (k114 _ no61).trans h63
            refine ⟨_, _, Ghost.refl, .inr rfl, _, Res.three rfl rfl rfl rfl, ?_, m113⟩
            exact congrArg AV.tup (lc (congrArg (fun l : List Int => AV.sl l.length (l.map eI)) (show ((orbS fs v (headS fs v) k) : List Int) = fanL fs v from by rw [hfl])) (lc (congrArg AV.bool (show (roundB fs v : Bool) = fanR fs v from by unfold fanR; rw [if_neg hne])) (lc (congrArg AV.bool (show (decide ((((orbS fs v (headS fs v) k).length) : Int) = (((mineU fs v fs.length).length) : Int)) : Bool) = fanOK fs v from by unfold fanOK; rw [if_neg hne, hfl]; exact decide_eq_decide.2 (by omega))) rfl)))

theorem c35 {H0 : Heap} {sid mid cid : Nat} (fs : List (List Int)) (hfs : fs.length ≤ 1048576) (hfss : ∀ l ∈ fs, l.length ≤ 1048576) (w : Int × Int) (hw : inR w.1 ∧ inR w.2) (hK : Keys (sides fs)) (hKR : KR (sides fs)) (hc : H0 cid = some (.row 0 [.ptr sid 0 0])) (hs : H0 sid = some (.row 0 [.sl fs.length (fs.map eF), .map mid])) (hsm : H0 mid = some (.map ((sides fs).map eS))) : ACalls Try.prog 35 [.agg [.int .i64 w.1, .int .i64 w.2], .ptr cid 0 0] H0 fun r H' => r = (.int .i64 (alongS fs w.1 w.2)) ∧ Mono H0 H' := by
  refine ACalls.of_body' (n := 17) rfl rfl rfl rfl ?_
  have m0 := Mono.refl H0
  refine AWP.seq ?_
  refine AWP.region (l := [0, 1]) rfl ?_
  refine AOps.cons rfl rfl (AOp.box (.agg [.int .i64 w.1, .int .i64 w.2]) rfl rfl rfl ?_)
  intro i1 H2 n3 h4 k5
  have e6 := ne_new hs n3
  have e7 := ne_new hsm n3
  have e8 := ne_new hc n3
  have z9 := Mono.free m0 n3
  have h10 := keep k5 (ne_new hs n3) hs
  have h11 := keep k5 (ne_new hsm n3) hsm
  have h12 := keep k5 (ne_new hc n3) hc
  have m13 := Mono.new m0 n3 k5
  refine AOps.cons rfl rfl (AOp.assign (.int .i64 0) rfl rfl ?_)
  refine AOps.nil ?_
  change AWP _ _ _ _ _ _
  refine AWP.seq ?_
  refine AWP.seq ?_
  refine AWP.region_quiet mixed (by kernel_rfl) 11 [] rfl (by kernel_rfl) (Mono H2) (Mono.refl _) ?_
  refine QE.op rfl rfl (.inl ⟨rfl, fun f' H' hf hM => AOp.load (.ptr sid 0 0) rfl ((hf 1 rfl).trans rfl) ty_51 (hM _ _ h12) rfl ⟨rfl, hM⟩⟩) ?_
  refine QE.op rfl rfl (.inl ⟨rfl, fun f' H' hf hM => AOp.nilCheck (.ptr sid 0 0) rfl ((hf 7 rfl).trans rfl) rfl ⟨rfl, hM⟩⟩) ?_
  refine QE.op rfl rfl (.inl ⟨rfl, fun f' H' hf hM => AOp.fieldAddr rfl ((hf 8 rfl).trans rfl) fl_54_1 ⟨rfl, hM⟩ (hid := ⟨_, (hM _ _ h10)⟩)⟩) ?_
  refine QE.op rfl rfl (.inl ⟨rfl, fun f' H' hf hM => AOp.load (.map mid) rfl ((hf 9 rfl).trans rfl) ty_52 (hM _ _ h10) rfl ⟨rfl, hM⟩⟩) ?_
  refine QE.op rfl rfl (.inl ⟨rfl, fun f' H' hf hM => AOp.load (.agg [.int .i64 w.1, .int .i64 w.2]) rfl ((hf 2 rfl).trans rfl) ty_63 (hM _ _ h4) rfl ⟨rfl, hM⟩⟩) ?_
  refine QE.op rfl rfl (.inl ⟨rfl, fun f' H' hf hM => AOp.lookupOk' rfl ((hf 10 rfl).trans rfl) (hM _ _ h11) ((hf 11 rfl).trans rfl) (kok63 hw.1 hw.2) (kes hKR) tm52 tzv_3 (look_sides hK (w.1) (w.2)) ⟨rfl, hM⟩⟩) ?_
  refine QE.op rfl rfl (.inl ⟨rfl, fun f' H' hf hM => AOp.move (.tup [.int .i64 (gotA fs w.1 w.2), .bool (decide (0 ≤ alongS fs w.1 w.2))]) rfl ((hf 12 rfl).trans rfl) ⟨rfl, hM⟩⟩) ?_
  refine QE.op rfl rfl (.inl ⟨rfl, fun f' H' hf hM => AOp.extract (.int .i64 (gotA fs w.1 w.2)) rfl ((hf 6 rfl).trans rfl) rfl ⟨rfl, hM⟩⟩) ?_
  refine QE.op rfl rfl (.inl ⟨rfl, fun f' H' hf hM => AOp.extract (.bool (decide (0 ≤ alongS fs w.1 w.2))) rfl ((hf 6 rfl).trans rfl) rfl ⟨rfl, hM⟩⟩) ?_
  refine QE.op rfl rfl (.inl ⟨rfl, fun f' H' hf hM => AOp.assign (.int .i64 (gotA fs w.1 w.2)) rfl ((hf 13 rfl).trans rfl) ⟨rfl, hM⟩⟩) ?_
  refine QE.op rfl rfl (.inl ⟨rfl, fun f' H' hf hM => AOp.assign (.bool (decide (0 ≤ alongS fs w.1 w.2))) rfl ((hf 14 rfl).trans rfl) ⟨rfl, hM⟩⟩) ?_
  refine QE.done fun H14 m15 => ?_
  have h16 := m15 _ _ h10
  have h17 := m15 _ _ h11
  have h18 := m15 _ _ h12
  have h19 := m15 _ _ h4
  have m20 := m13.trans m15
  refine AOps.nil ?_
  change AWP _ _ _ _ _ _
  refine AWP.seq ?_
  refine AWP.region (l := [0]) rfl ?_
  refine AOps.cons rfl rfl (AOp.move (.bool (decide (0 ≤ alongS fs w.1 w.2))) rfl rfl ?_)
  refine AOps.nil ?_
  change AWP _ _ _ _ _ _
  by_cases b21 : 0 ≤ alongS fs w.1 w.2
  ·
    refine AWP.condT rfl (decide_eq_true b21) ?_
    refine AWP.seq ?_
    refine AWP.region (l := [0, 1]) rfl ?_
    refine AOps.cons rfl rfl (AOp.move (.int .i64 (gotA fs w.1 w.2)) rfl rfl ?_)
    refine AOps.cons rfl rfl (AOp.assign (.int .i64 (gotA fs w.1 w.2)) rfl rfl ?_)
    refine AOps.nil ?_
    change AWP _ _ _ _ _ _
    refine AWP.ret ?_
    refine ⟨_, _, Ghost.refl, .inr rfl, _, Res.one rfl rfl, ?_, m20⟩
    exact (congrArg (AV.int .i64) (show (gotA fs w.1 w.2 : Int) = alongS fs w.1 w.2 from by unfold gotA; rw [if_pos b21]))
  ·
    refine AWP.condF rfl (decide_eq_false b21) ?_
    refine AWP.skip ?_
    change AWP _ _ _ _ _ _
    refine AWP.seq ?_
    refine AWP.region (l := [0]) rfl ?_
    refine AOps.cons rfl rfl (AOp.assign (.int .i64 (-1)) rfl rfl ?_)
    refine AOps.nil ?_
    change AWP _ _ _ _ _ _
    refine AWP.ret ?_
    refine ⟨_, _, Ghost.refl, .inr rfl, _, Res.one rfl rfl, ?_, m20⟩
    exact (congrArg (AV.int .i64) (show (-1 : Int) = alongS fs w.1 w.2 from by have := (along_keys hK w.1 w.2).2; omega))

theorem c23 {H0 : Heap} {sid mid : Nat} (fs : List (List Int)) (hfs : fs.length ≤ 1048576) (hfss : ∀ l ∈ fs, l.length ≤ 1048576) (n f : Int) (hn : n ≤ 1000) (hf : 0 ≤ f ∧ f < fs.length) (hpre : ∀ g : Int, 0 ≤ g → g < f → addF n fs g) (hne : sid ≠ mid) (hs : H0 sid = some (.row 0 [.sl fs.length (fs.map eF), .map mid])) (hsm : H0 mid = some (.map ((psides fs f 0).map eS))) : ACalls Try.prog 23 [.ptr sid 0 0, .int .i64 f, .int .i64 n] H0 fun r H' => Mono (hide H0 mid) H' ∧ ∃ L, H' mid = some (.map (L.map eS)) ∧ ((r = .bool true ∧ addF n fs f ∧ L = psides fs (f + 1) 0) ∨ (r = .bool false ∧ ¬ addF n fs f)) := by
  refine ACalls.of_body' (n := 70) rfl rfl rfl rfl ?_
  have m0 := hide_mono H0 mid
  refine AWP.seq ?_
  refine AWP.region (l := [0]) rfl ?_
  refine AOps.cons rfl rfl (AOp.assign (.bool false) rfl rfl ?_)
  refine AOps.nil ?_
  change AWP _ _ _ _ _ _
  refine AWP.seq ?_
  refine AWP.region (l := [0, 1, 2, 3, 4, 5, 6, 7]) rfl ?_
  refine AOps.cons rfl rfl (AOp.move (.ptr sid 0 0) rfl rfl ?_)
  refine AOps.cons rfl rfl (AOp.nilCheck (.ptr sid 0 0) rfl rfl rfl ?_)
  refine AOps.cons rfl rfl (AOp.fieldAddr rfl rfl fl_54_0 ?_ (hid := ⟨_, hs⟩))
  refine AOps.cons rfl rfl (AOp.load (.sl fs.length (fs.map eF)) rfl rfl ty_22 hs rfl ?_)
  refine AOps.cons rfl rfl (AOp.move (.int .i64 f) rfl rfl ?_)
  refine AOps.cons rfl rfl (AOp.indexAddrS rfl rfl rfl sl_22 (by omega) (by omega) ?_)
  refine AOps.cons rfl rfl (AOp.loadF (.sl (at_ fs f).length ((at_ fs f).map eI)) rfl rfl ty_35 (ld1 (by omega) (by omega)) ?_)
  refine AOps.cons rfl rfl (AOp.assign (.sl (at_ fs f).length ((at_ fs f).map eI)) rfl rfl ?_)
  refine AOps.nil ?_
  change AWP _ _ _ _ _ _
  refine AWP.seq ?_
  refine AWP.seq ?_
  have hq : (at_ fs f).length ≤ 1048576 := hfss _ (at_mem (by omega) (by omega))
  refine AWP.region (l := [0, 1, 2]) rfl ?_
  refine AOps.cons rfl rfl (AOp.move (.sl (at_ fs f).length ((at_ fs f).map eI)) rfl rfl ?_)
  refine AOps.cons rfl rfl (AOp.len (m := (at_ fs f).length) rfl rfl (.inr (.inl ⟨_, rfl⟩)) u_35 ?_)
  refine AOps.cons rfl rfl (AOp.bin (.bool (decide ((((at_ fs f).length) : Int) < 3))) rfl rfl rfl rfl ?_)
  refine AOps.nil ?_
  change AWP _ _ _ _ _ _
  by_cases b1 : (((at_ fs f).length) : Int) < 3
  ·
    refine AWP.condT rfl (decide_eq_true b1) ?_
    refine AWP.seq ?_
    refine AWP.region (l := [0]) rfl ?_
    refine AOps.cons rfl rfl (AOp.assign (.bool false) rfl rfl ?_)
    refine AOps.nil ?_
    change AWP _ _ _ _ _ _
    refine AWP.ret ?_
    refine ⟨_, _, Ghost.refl, .inr rfl, _, Res.one rfl rfl, m0, ?_⟩
    exact ⟨_, hsm, .inr ⟨rfl, fun h => by have := h.1; omega⟩⟩
  ·
    refine AWP.condF rfl (decide_eq_false b1) ?_
    refine AWP.skip ?_
    change AWP _ _ _ _ _ _
    refine AWP.seq ?_
    refine AWP.seq ?_
    refine AWP.region (l := [0, 1, 2]) rfl ?_
    refine AOps.cons rfl rfl (AOp.move (.sl (at_ fs f).length ((at_ fs f).map eI)) rfl rfl ?_)
    refine AOps.cons rfl rfl (AOp.len (m := (at_ fs f).length) rfl rfl (.inr (.inl ⟨_, rfl⟩)) u_35 ?_)
    refine AOps.cons rfl rfl (AOp.move (.int .i64 0) rfl rfl ?_)
    refine AOps.nil ?_
    change AWP _ _ _ _ _ _
    refine AWP.block ?_
    refine AWP.loop (fun q2 fq Hq => ∃ (i : Int), q2 = ((((at_ fs f).length : Int) : Int) - i).toNat ∧ fq 26 = .int .i64 i ∧ fq 0 = .ptr sid 0 0 ∧ fq 1 = .int .i64 f ∧ fq 2 = .int .i64 n ∧ fq 7 = .sl (at_ fs f).length ((at_ fs f).map eI) ∧ fq 24 = .sl (at_ fs f).length ((at_ fs f).map eI) ∧ fq 25 = .int .i64 (((at_ fs f).length) : Int) ∧ Hq sid = some (.row 0 ([.sl fs.length (fs.map eF), .map mid])) ∧ Hq mid = some (.map ((psides fs f 0).map eS)) ∧ Mono (hide H0 mid) Hq ∧ (0 ≤ i) ∧ (i ≤ ((at_ fs f).length : Int)) ∧ (∀ j : Int, 0 ≤ j → j < i → 0 ≤ at_ (at_ fs f) j ∧ at_ (at_ fs f) j < n) ∧ (∀ j k : Int, 0 ≤ k → k < j → j < i → at_ (at_ fs f) j ≠ at_ (at_ fs f) k)) (k := ((((at_ fs f).length : Int) : Int) - 0).toNat) ?_ ?_
    ·
      exact ⟨0, rfl, rfl, rfl, rfl, rfl, rfl, rfl, rfl, hs, hsm, m0, by omega, by omega, by intro j; omega, by intro j; omega⟩
    ·
      rintro _ f4 H3 ⟨i, rfl, s5, s6, s7, s8, s9, s10, s11, h12, h13, m14, hi0, hi1, preA, preB⟩
      refine AWP.seq ?_
      refine AWP.region (l := [0]) rfl ?_
      refine AOps.cons rfl rfl (AOp.bin (.bool (decide (i < (((at_ fs f).length) : Int)))) rfl s5 s11 rfl ?_)
      refine AOps.nil ?_
      change AWP _ _ _ _ _ _
      refine AWP.seq ?_
      by_cases b15 : i < (((at_ fs f).length) : Int)
      ·
        refine AWP.condT rfl (decide_eq_true b15) ?_
        refine AWP.skip ?_
        change AWP _ _ _ _ _ _
        refine AWP.seq ?_
        refine AWP.block ?_
        refine AWP.seq ?_
        refine AWP.region (l := [0, 1, 2, 3, 4]) rfl ?_
        refine AOps.cons rfl rfl (AOp.move (.int .i64 i) rfl s5 ?_)
        refine AOps.cons rfl rfl (AOp.indexAddrS rfl s10 s5 sl_35 (by omega) (by omega) ?_)
        refine AOps.cons rfl rfl (AOp.loadF (.int .i64 (at_ (at_ fs f) i)) rfl rfl ty_3 (ld1 (by omega) (by omega)) ?_)
        refine AOps.cons rfl rfl (AOp.assign (.int .i64 i) rfl rfl ?_)
        refine AOps.cons rfl rfl (AOp.assign (.int .i64 (at_ (at_ fs f) i)) rfl rfl ?_)
        refine AOps.nil ?_
        change AWP _ _ _ _ _ _
        refine AWP.seq ?_
        refine AWP.region (l := [0, 1, 2, 3, 4, 5, 6, 7, 8, 9, 10, 11, 12, 13]) rfl ?_
        refine AOps.cons rfl rfl (AOp.move (.int .i64 (at_ (at_ fs f) i)) rfl rfl ?_)
        refine AOps.cons rfl rfl (AOp.bin (.bool (decide (at_ (at_ fs f) i < 0))) rfl rfl rfl rfl ?_)
        refine AOps.cons rfl rfl (AOp.move (.bool (decide (at_ (at_ fs f) i < 0))) rfl rfl ?_)
        by_cases b16 : at_ (at_ fs f) i < 0
        ·
          refine AOps.no rfl rfl rfl rfl rfl rfl rfl (ble_of (decide_eq_true b16) (by decide)) ?_
          refine AOps.no rfl rfl rfl rfl rfl rfl rfl (ble_of (decide_eq_true b16) (by decide)) ?_
          refine AOps.no rfl rfl rfl rfl rfl rfl rfl (ble_of (decide_eq_true b16) (by decide)) ?_
          refine AOps.cons rfl rfl (AOp.pickT (.bool true) rfl rfl (decide_eq_true b16) rfl ?_)
          refine AOps.cons rfl rfl (AOp.move (.bool true) rfl rfl ?_)
          refine AOps.no rfl rfl rfl rfl rfl rfl rfl (ble_of rfl (by decide)) ?_
          refine AOps.no rfl rfl rfl rfl rfl rfl rfl (ble_of rfl (by decide)) ?_
          refine AOps.no rfl rfl rfl rfl rfl rfl rfl (ble_of rfl (by decide)) ?_
          refine AOps.no rfl rfl rfl rfl rfl rfl rfl (ble_of rfl (by decide)) ?_
          refine AOps.no rfl rfl rfl rfl rfl rfl rfl (ble_of rfl (by decide)) ?_
          refine AOps.cons rfl rfl (AOp.pickT (.bool true) rfl rfl rfl rfl ?_)
          refine AOps.nil ?_
          change AWP _ _ _ _ _ _
          refine AWP.condT rfl rfl ?_
          refine AWP.seq ?_
          refine AWP.region (l := [0]) rfl ?_
          refine AOps.cons rfl rfl (AOp.assign (.bool false) rfl rfl ?_)
          refine AOps.nil ?_
          change AWP _ _ _ _ _ _
          refine AWP.ret ?_
          refine ⟨_, _, Ghost.refl, .inr rfl, _, Res.one rfl rfl, m14, ?_⟩
          exact ⟨_, h13, .inr ⟨rfl, fun h => by have := h.2.1 i hi0 (by omega); omega⟩⟩
        ·
          refine AOps.yes rfl rfl rfl rfl rfl rfl rfl (decide_eq_false b16) (AOp.move (.int .i64 (at_ (at_ fs f) i)) rfl rfl ?_)
          refine AOps.yes rfl rfl rfl rfl rfl rfl rfl (decide_eq_false b16) (AOp.move (.int .i64 n) rfl s8 ?_)
          refine AOps.yes rfl rfl rfl rfl rfl rfl rfl (decide_eq_false b16) (AOp.bin (.bool (decide (at_ (at_ fs f) i ≥ n))) rfl rfl rfl rfl ?_)
          refine AOps.cons rfl rfl (AOp.pickF (.bool (decide (at_ (at_ fs f) i ≥ n))) rfl rfl (decide_eq_false b16) rfl ?_)
          refine AOps.cons rfl rfl (AOp.move (.bool (decide (at_ (at_ fs f) i ≥ n))) rfl rfl ?_)
          by_cases b17 : at_ (at_ fs f) i ≥ n
          ·
            refine AOps.no rfl rfl rfl rfl rfl rfl rfl (ble_of (decide_eq_true b17) (by decide)) ?_
            refine AOps.no rfl rfl rfl rfl rfl rfl rfl (ble_of (decide_eq_true b17) (by decide)) ?_
            refine AOps.no rfl rfl rfl rfl rfl rfl rfl (ble_of (decide_eq_true b17) (by decide)) ?_
            refine AOps.no rfl rfl rfl rfl rfl rfl rfl (ble_of (decide_eq_true b17) (by decide)) ?_
            refine AOps.no rfl rfl rfl rfl rfl rfl rfl (ble_of (decide_eq_true b17) (by decide)) ?_
            refine AOps.cons rfl rfl (AOp.pickT (.bool true) rfl rfl (decide_eq_true b17) rfl ?_)
            refine AOps.nil ?_
            change AWP _ _ _ _ _ _
            refine AWP.condT rfl rfl ?_
            refine AWP.seq ?_
            refine AWP.region (l := [0]) rfl ?_
            refine AOps.cons rfl rfl (AOp.assign (.bool false) rfl rfl ?_)
            refine AOps.nil ?_
            change AWP _ _ _ _ _ _
            refine AWP.ret ?_
            refine ⟨_, _, Ghost.refl, .inr rfl, _, Res.one rfl rfl, m14, ?_⟩
            exact ⟨_, h13, .inr ⟨rfl, fun h => by have := h.2.1 i hi0 (by omega); omega⟩⟩
          ·
            refine AOps.yes rfl rfl rfl rfl rfl rfl rfl (decide_eq_false b17) (AOp.move (.sl (at_ fs f).length ((at_ fs f).map eI)) rfl s9 ?_)
            refine AOps.yes rfl rfl rfl rfl rfl rfl rfl (decide_eq_false b17) (AOp.move (.int .i64 i) rfl rfl ?_)
            refine AOps.yes rfl rfl rfl rfl rfl rfl rfl (decide_eq_false b17) (AOp.sliceST1 (l := 0) (h := i) rfl rfl  sl_35 rfl (hi_of rfl) (by omega) (by omega) (by omega) ?_)
            refine AOps.yes rfl rfl rfl rfl rfl rfl rfl (decide_eq_false b17) (AOp.move (.int .i64 (at_ (at_ fs f) i)) rfl rfl ?_)
            refine AOps.yes rfl rfl rfl rfl rfl rfl rfl (decide_eq_false b17) (AOp.pcall («as» := [.sl ((at_ fs f).take i.toNat).length (((at_ fs f).take i.toNat).map eI), .int .i64 (at_ (at_ fs f) i)]) rfl rfl (rfl) tf_33 (c33 _ (by first | omega | (simp; omega)) _) ?_)
            intro H18 m19
            have h20 := m19 _ _ h12
            have h21 := m19 _ _ h13
            have m22 := m14.trans m19
            refine AOps.cons rfl rfl (AOp.pickF (.bool (decide (at_ (at_ fs f) i ∈ ((at_ fs f).take i.toNat)))) rfl rfl (decide_eq_false b17) rfl ?_)
            refine AOps.nil ?_
            change AWP _ _ _ _ _ _
            by_cases b23 : at_ (at_ fs f) i ∈ ((at_ fs f).take i.toNat)
            ·
              refine AWP.condT rfl (decide_eq_true b23) ?_
              refine AWP.seq ?_
              refine AWP.region (l := [0]) rfl ?_
              refine AOps.cons rfl rfl (AOp.assign (.bool false) rfl rfl ?_)
              refine AOps.nil ?_
              change AWP _ _ _ _ _ _
              refine AWP.ret ?_
              refine ⟨_, _, Ghost.refl, .inr rfl, _, Res.one rfl rfl, m22, ?_⟩
              exact ⟨_, h21, .inr ⟨rfl, fun h => (take_mem hi0 (by omega) b23).elim fun k hk => h.2.2.1 i k hk.1 hk.2.1 (by omega) hk.2.2.symm⟩⟩
            ·
              refine AWP.condF rfl (decide_eq_false b23) ?_
              refine AWP.skip ?_
              change AWP _ _ _ _ _ _
              refine AWP.region (l := [0, 1]) rfl ?_
              refine AOps.cons rfl rfl (AOp.bin (.int .i64 (i + 1)) rfl s5 rfl (iadd (by omega)) ?_)
              refine AOps.cons rfl rfl (AOp.move (.int .i64 (i + 1)) rfl rfl ?_)
              refine AOps.nil ?_
              exact ⟨_, by omega, i + 1, rfl, rfl, s6, s7, s8, s9, s10, s11, h20, h21, m22, by omega, by omega, by exact fa_step preA (by omega), by exact apart_step hi0 (by omega) preB b23⟩
      ·
        refine AWP.condF rfl (decide_eq_false b15) ?_
        refine AWP.exit ?_
        change AWP _ _ _ _ _ _
        refine AWP.seq ?_
        refine AWP.seq ?_
        have hwl := wayF_len (at_ fs f)
        have hA : ∀ j : Int, 0 ≤ j → j < (at_ fs f).length → 0 ≤ at_ (at_ fs f) j ∧ at_ (at_ fs f) j < n := fun j h0 h1 => preA j h0 (by omega)
        have hB : Apart (at_ fs f) := fun i k h1 h2 h3 => preB i k h1 h2 (by omega)
        refine AWP.region (l := [0, 1, 2, 3]) rfl ?_
        refine AOps.cons rfl rfl (AOp.move (.sl (at_ fs f).length ((at_ fs f).map eI)) rfl s9 ?_)
        refine AOps.cons rfl rfl (AOp.pcall («as» := [.sl (at_ fs f).length ((at_ fs f).map eI)]) rfl rfl (rfl) tf_34 (c34 _ (by omega)) ?_)
        intro H24 m25
        have h26 := m25 _ _ h12
        have h27 := m25 _ _ h13
        have m28 := m14.trans m25
        refine AOps.cons rfl rfl (AOp.len (m := (wayF (at_ fs f)).length) rfl rfl (.inr (.inl ⟨_, rfl⟩)) u_69 ?_)
        refine AOps.cons rfl rfl (AOp.move (.int .i64 0) rfl rfl ?_)
        refine AOps.nil ?_
        change AWP _ _ _ _ _ _
        refine AWP.block ?_
        refine AWP.loop (fun q29 fq Hq => ∃ (i : Int), q29 = ((((at_ fs f).length : Int) : Int) - i).toNat ∧ fq 49 = .int .i64 i ∧ fq 0 = .ptr sid 0 0 ∧ fq 1 = .int .i64 f ∧ fq 47 = .sl (wayF (at_ fs f)).length ((wayF (at_ fs f)).flatMap eW) ∧ fq 48 = .int .i64 (((wayF (at_ fs f)).length) : Int) ∧ Hq sid = some (.row 0 ([.sl fs.length (fs.map eF), .map mid])) ∧ Hq mid = some (.map ((psides fs f i).map eS)) ∧ Mono (hide H0 mid) Hq ∧ (0 ≤ i) ∧ (i ≤ ((at_ fs f).length : Int)) ∧ (∀ j : Int, 0 ≤ j → j < i → hitsL (psides fs f j) (at_ (at_ fs f) j) (at_ (at_ fs f) ((j + 1) % (at_ fs f).length)) = [])) (k := ((((at_ fs f).length : Int) : Int) - 0).toNat) ?_ ?_
        ·
          exact ⟨0, rfl, rfl, s6, s7, rfl, rfl, h26, h27, m28, by omega, by omega, by intro j; omega⟩
        ·
          rintro _ f31 H30 ⟨i, rfl, s32, s33, s34, s35, s36, h37, h38, m39, hi0, hi1, preD⟩
          refine AWP.seq ?_
          refine AWP.region (l := [0]) rfl ?_
          refine AOps.cons rfl rfl (AOp.bin (.bool (decide (i < (((wayF (at_ fs f)).length) : Int)))) rfl s32 s36 rfl ?_)
          refine AOps.nil ?_
          change AWP _ _ _ _ _ _
          refine AWP.seq ?_
          by_cases b40 : i < (((wayF (at_ fs f)).length) : Int)
          ·
            refine AWP.condT rfl (decide_eq_true b40) ?_
            refine AWP.skip ?_
            change AWP _ _ _ _ _ _
            refine AWP.seq ?_
            refine AWP.block ?_
            refine AWP.seq ?_
            have hwi := at_wayF (l := at_ fs f) hi0 (by omega)
            have hri := mod_in (x := i + 1) (y := ((at_ fs f).length : Int)) (by omega)
            have hA1 := hA i hi0 (by omega)
            have hA2 := hA _ hri.1 hri.2
            have hka : inR (at_ (wayF (at_ fs f)) i).1 := by rw [hwi]; unfold inR; omega
            have hkb : inR (at_ (wayF (at_ fs f)) i).2 := by rw [hwi]; unfold inR; omega
            have hKRi : KR (psides fs f i) := psides_KR hn hf.1 (fun g h0 h1 h2 => (hpre g h0 h1).2.1) hA
            obtain ⟨lx, hlk1, hlk2⟩ := look_hits (psides fs f i) (at_ (wayF (at_ fs f)) i).1 (at_ (wayF (at_ fs f)) i).2
            refine AWP.region (l := [0, 1, 2, 3]) rfl ?_
            refine AOps.cons rfl rfl (AOp.indexAddrS rfl s35 s32 sl_69 (by omega) (by omega) ?_)
            refine AOps.cons rfl rfl (AOp.loadF (.agg [.int .i64 ((at_ (wayF (at_ fs f)) i).1), .int .i64 ((at_ (wayF (at_ fs f)) i).2)]) rfl rfl ty_63 (ldM eW_len (by omega) (by omega)) ?_)
            refine AOps.cons rfl rfl (AOp.alloc rfl tz_63 ?_)
            intro i41 H42 n43 h44 k45
            have e46 := ne_new h37 n43
            have e47 := ne_new h38 n43
            have z48 := Mono.free m39 n43
            have h49 := keep k45 (ne_new h37 n43) h37
            have h50 := keep k45 (ne_new h38 n43) h38
            have m51 := Mono.new m39 n43 k45
            refine AOps.cons rfl rfl (AOp.store' (cells' := [.int .i64 ((at_ (wayF (at_ fs f)) i).1), .int .i64 ((at_ (wayF (at_ fs f)) i).2)]) (.agg [.int .i64 ((at_ (wayF (at_ fs f)) i).1), .int .i64 ((at_ (wayF (at_ fs f)) i).2)]) rfl rfl ts_63 h44 rfl rfl rfl rfl ?_)
            intro H52 h53 k54
            have h55 := keep k54 e46 h49
            have h56 := keep k54 e47 h50
            have m58 := Mono.set m51 z48 k54
            refine AOps.nil ?_
            change AWP _ _ _ _ _ _
            refine AWP.seq ?_
            refine AWP.seq ?_
            refine AWP.region_quiet mixed (by kernel_rfl) 11 [] rfl (by kernel_rfl) (Mono H52) (Mono.refl _) ?_
            refine QE.op rfl rfl (.inl ⟨rfl, fun f' H' hf hM => AOp.move (.ptr sid 0 0) rfl ((hf 0 rfl).trans s33) ⟨rfl, hM⟩⟩) ?_
            refine QE.op rfl rfl (.inl ⟨rfl, fun f' H' hf hM => AOp.nilCheck (.ptr sid 0 0) rfl ((hf 54 rfl).trans rfl) rfl ⟨rfl, hM⟩⟩) ?_
            refine QE.op rfl rfl (.inl ⟨rfl, fun f' H' hf hM => AOp.fieldAddr rfl ((hf 55 rfl).trans rfl) fl_54_1 ⟨rfl, hM⟩ (hid := ⟨_, (hM _ _ h55)⟩)⟩) ?_
            refine QE.op rfl rfl (.inl ⟨rfl, fun f' H' hf hM => AOp.load (.map mid) rfl ((hf 56 rfl).trans rfl) ty_52 (hM _ _ h55) rfl ⟨rfl, hM⟩⟩) ?_
            refine QE.op rfl rfl (.inl ⟨rfl, fun f' H' hf hM => AOp.load (.agg [.int .i64 ((at_ (wayF (at_ fs f)) i).1), .int .i64 ((at_ (wayF (at_ fs f)) i).2)]) rfl ((hf 11 rfl).trans rfl) ty_63 (hM _ _ h53) rfl ⟨rfl, hM⟩⟩) ?_
            refine QE.op rfl rfl (.inl ⟨rfl, fun f' H' hf hM => AOp.lookupOk' rfl ((hf 57 rfl).trans rfl) (hM _ _ h56) ((hf 58 rfl).trans rfl) (kok63 hka hkb) (kes hKRi) tm52 tzv_3 (⟨hlk1, hlk2⟩) ⟨rfl, hM⟩⟩) ?_
            refine QE.op rfl rfl (.inl ⟨rfl, fun f' H' hf hM => AOp.move (.tup [.int .i64 lx, .bool (!decide (hitsL (psides fs f i) ((at_ (wayF (at_ fs f)) i).1) ((at_ (wayF (at_ fs f)) i).2) = []))]) rfl ((hf 59 rfl).trans rfl) ⟨rfl, hM⟩⟩) ?_
            refine QE.op rfl rfl (.inl ⟨rfl, fun f' H' hf hM => AOp.extract (.int .i64 lx) rfl ((hf 53 rfl).trans rfl) rfl ⟨rfl, hM⟩⟩) ?_
            refine QE.op rfl rfl (.inl ⟨rfl, fun f' H' hf hM => AOp.extract (.bool (!decide (hitsL (psides fs f i) ((at_ (wayF (at_ fs f)) i).1) ((at_ (wayF (at_ fs f)) i).2) = []))) rfl ((hf 53 rfl).trans rfl) rfl ⟨rfl, hM⟩⟩) ?_
            refine QE.op rfl rfl (.inl ⟨rfl, fun f' H' hf hM => AOp.assign (.int .i64 lx) rfl ((hf 60 rfl).trans rfl) ⟨rfl, hM⟩⟩) ?_
            refine QE.op rfl rfl (.inl ⟨rfl, fun f' H' hf hM => AOp.assign (.bool (!decide (hitsL (psides fs f i) ((at_ (wayF (at_ fs f)) i).1) ((at_ (wayF (at_ fs f)) i).2) = []))) rfl ((hf 61 rfl).trans rfl) ⟨rfl, hM⟩⟩) ?_
            refine QE.done fun H59 m60 => ?_
            have h61 := m60 _ _ h55
            have h62 := m60 _ _ h56
            have h63 := m60 _ _ h53
            have m64 := m58.trans m60
            refine AOps.nil ?_
            change AWP _ _ _ _ _ _
            refine AWP.seq ?_
            refine AWP.region (l := [0]) rfl ?_
            refine AOps.cons rfl rfl (AOp.move (.bool (!decide (hitsL (psides fs f i) ((at_ (wayF (at_ fs f)) i).1) ((at_ (wayF (at_ fs f)) i).2) = []))) rfl rfl ?_)
            refine AOps.nil ?_
            change AWP _ _ _ _ _ _
            by_cases b65 : hitsL (psides fs f i) ((at_ (wayF (at_ fs f)) i).1) ((at_ (wayF (at_ fs f)) i).2) = []
            ·
              refine AWP.condF rfl (nb (decide_eq_true b65)) ?_
              refine AWP.skip ?_
              change AWP _ _ _ _ _ _
              refine AWP.region_quiet mixed (by kernel_rfl) 6 [6] rfl (by kernel_rfl) (Mono H59) (Mono.refl _) ?_
              refine QE.op rfl rfl (.inl ⟨rfl, fun f' H' hf hM => AOp.move (.ptr sid 0 0) rfl ((hf 0 rfl).trans s33) ⟨rfl, hM⟩⟩) ?_
              refine QE.op rfl rfl (.inl ⟨rfl, fun f' H' hf hM => AOp.nilCheck (.ptr sid 0 0) rfl ((hf 63 rfl).trans rfl) rfl ⟨rfl, hM⟩⟩) ?_
              refine QE.op rfl rfl (.inl ⟨rfl, fun f' H' hf hM => AOp.fieldAddr rfl ((hf 64 rfl).trans rfl) fl_54_1 ⟨rfl, hM⟩ (hid := ⟨_, (hM _ _ h61)⟩)⟩) ?_
              refine QE.op rfl rfl (.inl ⟨rfl, fun f' H' hf hM => AOp.load (.map mid) rfl ((hf 65 rfl).trans rfl) ty_52 (hM _ _ h61) rfl ⟨rfl, hM⟩⟩) ?_
              refine QE.op rfl rfl (.inl ⟨rfl, fun f' H' hf hM => AOp.load (.agg [.int .i64 ((at_ (wayF (at_ fs f)) i).1), .int .i64 ((at_ (wayF (at_ fs f)) i).2)]) rfl ((hf 11 rfl).trans rfl) ty_63 (hM _ _ h63) rfl ⟨rfl, hM⟩⟩) ?_
              refine QE.op rfl rfl (.inl ⟨rfl, fun f' H' hf hM => AOp.move (.int .i64 f) rfl ((hf 1 rfl).trans s34) ⟨rfl, hM⟩⟩) ?_
              refine QE.done fun H66 m67 => ?_
              have h68 := m67 _ _ h61
              have h69 := m67 _ _ h62
              have h70 := m67 _ _ h63
              have m71 := m64.trans m67
              refine AOps.cons rfl rfl (AOp.mapUpdate2 (es' := (psides fs f i ++ [(at_ (wayF (at_ fs f)) i, f.toNat)]).map eS) rfl h69 rfl (kok63 hka hkb) (kes hKRi) tm52 rfl ((by have := mputL (f := f.toNat) (w := at_ (wayF (at_ fs f)) i) b65; rw [Int.toNat_of_nonneg hf.1] at this; exact this)) ?_)
              intro H72 h73 k74
              have h75 := keep k74 hne h68
              have h77 := keep k74 (Ne.symm e47) h70
              have m78 := Mono.set m71 (hide_none H0 mid) k74
              refine AOps.nil ?_
              change AWP _ _ _ _ _ _
              refine AWP.region (l := [0, 1]) rfl ?_
              refine AOps.cons rfl rfl (AOp.bin (.int .i64 (i + 1)) rfl s32 rfl (iadd (by omega)) ?_)
              refine AOps.cons rfl rfl (AOp.move (.int .i64 (i + 1)) rfl rfl ?_)
              refine AOps.nil ?_
              exact ⟨_, by omega, i + 1, rfl, rfl, s33, s34, s35, s36, h75, (by rw [psides_step hi0 (by omega), ← hwi]; exact h73), m78, by omega, by omega, by exact fa_step preD (by have := b65; rw [hwi] at this; exact this)⟩
            ·
              refine AWP.condT rfl (nb (decide_eq_false b65)) ?_
              refine AWP.seq ?_
              refine AWP.region (l := [0]) rfl ?_
              refine AOps.cons rfl rfl (AOp.assign (.bool false) rfl rfl ?_)
              refine AOps.nil ?_
              change AWP _ _ _ _ _ _
              refine AWP.ret ?_
              refine ⟨_, _, Ghost.refl, .inr rfl, _, Res.one rfl rfl, m64, ?_⟩
              exact ⟨_, h62, .inr ⟨rfl, fun h => b65 (by have := h.2.2.2 i hi0 (by omega); rw [hwi]; exact this)⟩⟩
          ·
            refine AWP.condF rfl (decide_eq_false b40) ?_
            refine AWP.exit ?_
            change AWP _ _ _ _ _ _
            refine AWP.seq ?_
            have hadd : ((at_ fs f).length : Int) ≤ i → addF n fs f := fun _ => ⟨by omega, hA, hB, fun j h0 h1 => preD j h0 (by omega)⟩
            refine AWP.region (l := [0]) rfl ?_
            refine AOps.cons rfl rfl (AOp.assign (.bool true) rfl rfl ?_)
            refine AOps.nil ?_
            change AWP _ _ _ _ _ _
            refine AWP.ret ?_
            refine ⟨_, _, Ghost.refl, .inr rfl, _, Res.one rfl rfl, m39, ?_⟩
            exact ⟨psides fs f i, h38, .inl ⟨rfl, hadd (by omega), by rw [psides_end hf.1 hf.2 (by omega), psides_0]⟩⟩
end Go.Proofs.T
