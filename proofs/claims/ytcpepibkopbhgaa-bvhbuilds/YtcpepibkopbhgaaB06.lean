/- A part of the proof that a law answers true for every input of its row: own work, by an AI agent. -/
import Derived.Test.YtcpepibkopbhgaaB04
import Derived.Test.YtcpepibkopbhgaaB03
import Derived.Test.YtcpepibkopbhgaaB05
set_option linter.unusedSimpArgs false
set_option linter.unusedVariables false
set_option linter.defProp false
namespace Go.Proofs.B
open Go Go.AH Go.Maps
set_option maxRecDepth 4000
theorem rfar_eq (b : BoxT) : farB b = (!R_ref00_Within b.Lo 131072 || !R_ref00_Within b.Hi 131072) := by rw [farB_eq, within_eq, within_eq]
theorem rfar_F {b : BoxT} (h1 : R_ref00_Within b.Lo 131072 = true) (h2 : R_ref00_Within b.Hi 131072 = true) : farB b = false := by rw [rfar_eq, h1, h2]; rfl
theorem rfar_T1 {b : BoxT} (h1 : R_ref00_Within b.Lo 131072 = false) : farB b = true := by rw [rfar_eq, h1]; rfl
theorem rfar_T2 {b : BoxT} (h1 : R_ref00_Within b.Hi 131072 = false) : farB b = true := by rw [rfar_eq, h1]; simp
theorem any_F {l : List BoxT} {i : Int} (h1 : (l.length : Int) ≤ i) (hp : ∀ j : Int, 0 ≤ j → j < i → farB (at_ l j) = false) : l.any farB = false := by
  rw [← idxB_any, ← idxB_none h1 hp]; rfl
theorem any_T {l : List BoxT} {i : Int} (h0 : 0 ≤ i) (h1 : i < l.length) (h : farB (at_ l i) = true) : l.any farB = true := List.any_eq_true.2 ⟨_, at_mem_l h0 h1, h⟩
/-! ### Depth -/
def BT.depth : BT → Nat
  | .leaf _ _ => 1
  | .node _ l r => 1 + max l.depth r.depth
theorem BT.depth_pos : ∀ t : BT, 1 ≤ t.depth
  | .leaf _ _ => Nat.le_refl _
  | .node _ _ _ => by simp only [BT.depth]; omega
theorem growT_depth (bx : List BoxT) (leaf : Int) : ∀ (f : Nat) (its : List Int), (growT bx leaf f its).depth ≤ f + 1
  | 0, its => Nat.le_refl _
  | f + 1, its => by
    simp only [growT]
    split
    · simp only [BT.depth]; omega
    · have h1 := growT_depth bx leaf f ((isort (keyLt bx (axisR bx its)) its).take ((its.length + 1) / 2))
      have h2 := growT_depth bx leaf f ((isort (keyLt bx (axisR bx its)) its).drop ((its.length + 1) / 2))
      simp only [BT.depth]; omega
theorem root_fuel {bx : List BoxT} {leaf : Int} (hl : 1 ≤ leaf) (f : Nat) (h : bx.length ≤ 2 ^ f) : rootT bx leaf = growT bx leaf f (iota bx.length) :=
  growT_fuel bx leaf hl _ _ _ (by rw [iota_len]; exact two_pow_ge _) (by rw [iota_len]; exact h)
theorem root_depth {bx : List BoxT} {leaf : Int} (hl : 1 ≤ leaf) (h : bx.length ≤ 1048576) : (rootT bx leaf).depth ≤ 21 := by
  rw [root_fuel hl 20 (by simpa using h)]; exact growT_depth _ _ _ _
/-! ### Ranges of a tree's numbers -/
theorem flat_ran : ∀ {t : BT} {p q : Int}, BOK t → 0 ≤ p → 0 ≤ q → p + t.size ≤ 1099511627776 → q + t.items.length ≤ 1099511627776 → ∀ x ∈ flatN t p q, ranN x
  | .leaf b its, p, q, h, h1, h2, h3, h4, x, hx => by
    simp only [flatN, List.mem_singleton] at hx; subst hx
    simp only [BT.items, BT.size] at h3 h4
    exact ⟨ranB_ok h.1, by unfold inR; simp only; omega, by unfold inR; simp only; omega, by unfold inR; simp only; omega, by unfold inR; simp only; omega⟩
  | .node b l r, p, q, h, h1, h2, h3, h4, x, hx => by
    simp only [flatN, List.mem_cons, List.mem_append] at hx
    simp only [BT.items, BT.size, List.length_append] at h3 h4
    rcases hx with rfl | hx | hx
    · exact ⟨ranB_ok h.1, by unfold inR; simp only; omega, by unfold inR; simp only; omega, by unfold inR; simp only; omega, by unfold inR; simp only; omega⟩
    · exact flat_ran h.2.1 (by omega) h2 (by omega) (by omega) x hx
    · exact flat_ran h.2.2 (by omega) (by omega) (by omega) (by omega) x hx
theorem build_ran {bx : List BoxT} {leaf : Int} (hbx : bx.length ≤ 1048576) : ∀ x ∈ (buildR bx leaf).1.Nodes, ranN x := by
  by_cases he : (buildR bx leaf).2 = 0
  · obtain ⟨h1, h2, h3⟩ := buildR_ok he
    rcases h3 with ⟨h3, h4⟩ | ⟨h3, h4⟩
    · rw [h4]; intro x hx; cases hx
    · rw [h4]
      have hs := root_size h1 h3
      have hl := root_len bx leaf
      exact flat_ran (root_bok h1 h2 h3) (Int.le_refl _) (Int.le_refl _) (by omega) (by omega)
  · rw [buildR_bad he]; intro x hx; cases hx
theorem build_lens {bx : List BoxT} {leaf : Int} (hbx : bx.length ≤ 1048576) : (buildR bx leaf).1.Nodes.length ≤ 2097152 ∧ (buildR bx leaf).1.Items.length ≤ 1048576 := by
  by_cases he : (buildR bx leaf).2 = 0
  · have hf := all_facts hbx he
    have h1 := hf.il; have h2 := hf.nl
    omega
  · rw [buildR_bad he]; exact ⟨Nat.zero_le _, Nat.zero_le _⟩
/-! ### What the document's touch comes to -/
structure OT (B : Heap) (xs : List Int) (v : AV) (H : Heap) : Prop where
  hm : Mono B H
  o : Own B H 1 v xs.length (xs.map eI)
theorem OT.down {B : Heap} {xs : List Int} {v : AV} {H : Heap} (h : OT B xs v H) : OT (baseOf H [] v .snil) xs v H := ⟨base_mono _ _ _ _, h.o.toBase (.inl rfl)⟩
theorem OT.up {B : Heap} {xs ys : List Int} {v v' : AV} {H H' : Heap} (h : OT B xs v H) (g : OT (baseOf H [] v .snil) ys v' H') : OT B ys v' H' :=
  ⟨mono_fromBase g.hm h.hm (by simp) h.o (Own.nil B H 1), g.o.fromBase h.hm (by simp) h.o (Own.nil B H 1)⟩
theorem OT.other {ys : List Int} {v v' : AV} {H H' : Heap} (g : OT (baseOf H [] v .snil) ys v' H') {j : Nat} {X : AB} (hj : H j = some X) (n3 : NotId v j) : H' j = some X ∧ NotId v' j := by
  have e : baseOf H [] v .snil j = some X := by rw [base_get (by simp) n3 (NotId.nil _)]; exact hj
  exact ⟨g.hm j X e, Own.free g.o e⟩
def TouchOK (N : List NodeT) (I : List Int) (o d : VT) (T : BT) : Prop := ∀ (p q deep : Int), POK N I (T, p, q) → (T.depth : Int) ≤ deep → deep ≤ 100 →
  ∀ {B H : Heap} {out : List Int} {v : AV}, out.length + T.items.length ≤ 1073741824 → OT B out v H →
  ACalls Try.prog 24 [.agg [.sl N.length (N.flatMap eNode), .sl I.length (I.map eI)], .int .i64 p, .agg [.int .i64 o.X, .int .i64 o.Y, .int .i64 o.Z], .agg [.int .i64 d.X, .int .i64 d.Y, .int .i64 d.Z], v, .int .i64 deep] H fun r H' => OT B (out ++ touchT (hitB o d) T) r H'
theorem touch_F {hit : BoxT → Bool} : ∀ {t : BT}, hit t.box = false → touchT hit t = []
  | .leaf _ _, h => by simp only [BT.box] at h; simp [touchT, h]
  | .node _ _ _, h => by simp only [BT.box] at h; simp [touchT, h]
theorem touch_leaf {hit : BoxT → Bool} {N : List NodeT} {I : List Int} {t : BT} {p q : Int} (h : POK N I (t, p, q)) (hh : hit t.box = true) (hc : (at_ N p).Count > 0) : touchT hit t = (I.drop (at_ N p).First.toNat).take (at_ N p).Count.toNat := by
  obtain ⟨pl, q0, ok⟩ := h
  cases t with
  | leaf b its =>
    obtain ⟨_, h2, h3, h4, h5⟩ := pl
    simp only at h2 h3 h4 h5
    simp only [h2, touchT, BT.box] at hh ⊢
    rw [hh, if_pos rfl]
    have : ((its.length : Nat) : Int).toNat = its.length := by omega
    rw [this, h5]
  | node b l r => obtain ⟨_, h2, _⟩ := pl; simp only at h2; rw [h2] at hc; simp at hc
theorem touch_kids {N : List NodeT} {I : List Int} {t : BT} {p q : Int} (h : POK N I (t, p, q)) (hc : ¬ (at_ N p).Count > 0) : ∃ b l r, t = .node b l r ∧ POK N I (l, (at_ N p).Left, q) ∧ POK N I (r, (at_ N p).Right, q + l.items.length) := by
  obtain ⟨pl, q0, ok⟩ := h
  cases t with
  | leaf b its =>
    obtain ⟨_, h2, h3, h4, h5⟩ := pl
    simp only at h2; rw [h2] at hc; simp only at hc
    have := List.length_pos_iff.2 ok.2; omega
  | node b l r =>
    obtain ⟨_, h2, h3, h4⟩ := pl
    obtain ⟨_, o2, o3⟩ := ok
    simp only at h2 q0
    refine ⟨b, l, r, rfl, ?_, ?_⟩
    · rw [h2]; exact ⟨h3, q0, o2⟩
    · rw [h2]; exact ⟨h4, by simp only; omega, o3⟩
theorem touch_at {N : List NodeT} {I : List Int} {t : BT} {p q : Int} (h : POK N I (t, p, q)) : (0 ≤ p ∧ p < N.length) ∧ okBox (at_ N p).Box ∧ (at_ N p).Box = t.box ∧ (0 ≤ (at_ N p).Count ∧ (at_ N p).Count ≤ I.length ∧ 0 ≤ (at_ N p).First ∧ (at_ N p).First + (at_ N p).Count ≤ I.length) := by
  obtain ⟨pl, q0, ok⟩ := h
  obtain ⟨g1, g2⟩ := placed_at pl
  refine ⟨g1, by rw [g2]; exact BOK_box ok, g2, ?_⟩
  cases t with
  | leaf b its => obtain ⟨_, h2, h3, h4, _⟩ := pl; simp only at h2 h3 h4 ⊢; rw [h2]; simp only; omega
  | node b l r => obtain ⟨_, h2, h3, h4⟩ := pl; simp only at h2 ⊢; rw [h2]; simp only; omega
def touB (bx : List BoxT) (leaf : Int) (o d : VT) : List Int × Int := if (buildR bx leaf).2 = 0 then touR bx leaf o d else ([], 0)
theorem touB_len {bx : List BoxT} {leaf : Int} {o d : VT} (h : bx.length ≤ 1048576) : (touB bx leaf o d).1.length ≤ 1048576 := by
  unfold touB; split
  · exact Nat.le_trans tou_len.1 h
  · exact Nat.zero_le _
end Go.Proofs.B
namespace Go.Proofs.B
open Go Go.AH
set_option maxRecDepth 4000
theorem c_rgrow (bx : List BoxT) (h_bx : bx.length ≤ 1048576) (hok : ∀ b ∈ bx, okBox b) (leaf : Int) (hlf : 1 ≤ leaf) : ∀ f, f ≤ 60 → RGrowOK bx leaf f
  | f => fun hf its hne hp hl hin {B H N I Nv Iv} hbN hbI gs =>
    c_rgrow_step bx h_bx hok leaf hlf f hf (fun g hg => by subst hg; exact c_rgrow bx h_bx hok leaf hlf g (by omega)) its hne hp hl hin hbN hbI gs
end Go.Proofs.B
namespace Go.Proofs.B
open Go Go.AH
set_option maxRecDepth 4000
set_option linter.unusedSimpArgs false
set_option linter.unusedVariables false
theorem c_rBuild (bx : List BoxT) (h_bx : bx.length ≤ 1048576) (leaf : Int) : PC Try.prog 10 [.sl bx.length (bx.flatMap eBox), .int .i64 leaf] (.tup [.agg [.sl ((buildR bx leaf).1.Nodes).length (((buildR bx leaf).1.Nodes).flatMap eNode), .sl ((buildR bx leaf).1.Items).length (((buildR bx leaf).1.Items).map eI)], .int .i64 ((buildR bx leaf).2)]) := by
 intro H0
 refine ACalls.of_body' (n := 48) rfl rfl rfl rfl ?_
 have m0 := Mono.refl H0
 refine AWP.seq ?_
 refine AWP.region (l := [0, 1]) rfl ?_
 refine AOps.cons rfl rfl (AOp.alloc rfl tz_29 ?_)
 intro i1 H2 n3 h4 k5
 have z6 := Mono.free m0 n3
 have m7 := Mono.new m0 n3 k5
 refine AOps.cons rfl rfl (AOp.assign (.int .i64 0) rfl rfl ?_)
 refine AOps.nil ?_
 change AWP _ _ _ _ _ _
 refine AWP.seq ?_
 refine AWP.seq ?_
 refine AWP.region (l := [0, 1]) rfl ?_
 refine AOps.cons rfl rfl (AOp.move (.int .i64 leaf) rfl rfl ?_)
 refine AOps.cons rfl rfl (AOp.bin (.bool (decide (leaf < 1))) rfl rfl rfl rfl ?_)
 refine AOps.nil ?_
 change AWP _ _ _ _ _ _
 by_cases b8 : leaf < 1
 ·
  refine AWP.condT rfl (decide_eq_true b8) ?_
  refine AWP.seq ?_
  refine AWP.region (l := [0, 1, 2]) rfl ?_
  refine AOps.cons rfl rfl (AOp.build (cells := [.snil, .snil]) rfl tz_29 pl_29 rfl rfl ?_)
  refine AOps.cons rfl rfl (AOp.store' (cells' := [.snil, .snil]) (.agg [.snil, .snil]) rfl rfl ts_29 h4 rfl rfl rfl rfl ?_)
  intro H9 h10 k11
  have m13 := Mono.set m7 z6 k11
  refine AOps.cons rfl rfl (AOp.assign (.int .i64 20) rfl rfl ?_)
  refine AOps.nil ?_
  change AWP _ _ _ _ _ _
  refine AWP.ret ?_
  refine Fin.frzCell 0 (Own.nil H0 H9 1) h10 z6 rfl (NotId.nil _) m13 fun H14 h15 m16 k17 => ?_
  have h18 : H14 i1 = some (.row 0 ([.sl 0 ([]), .snil])) := h15
  refine Fin.frzCell 1 (Own.nil H0 H14 1) h18 z6 rfl (NotId.nil _) m16 fun H19 h20 m21 k22 => ?_
  have h23 : H19 i1 = some (.row 0 ([.sl 0 ([]), .sl 0 ([])])) := h20
  refine ⟨_, _, Ghost.refl, .inr rfl, _, Res.list rfl rfl (.cell (v := .agg [.sl 0 ([]), .sl 0 ([])]) rfl ty_29 h23 rfl (.tmp rfl (.nil))), ?_, m21⟩
  exact congrArg AV.tup (lc (congrArg AV.agg (lc (congrArg (fun l : List NodeT => AV.sl l.length (l.flatMap eNode)) (show ([] : List NodeT) = (buildR bx leaf).1.Nodes from by rw [build_20 b8])) (lc (congrArg (fun l : List Int => AV.sl l.length (l.map eI)) (show ([] : List Int) = (buildR bx leaf).1.Items from by rw [build_20 b8])) rfl))) (lc (congrArg (AV.int .i64) (show (20 : Int) = (buildR bx leaf).2 from by rw [build_20 b8])) rfl))
 ·
  refine AWP.condF rfl (decide_eq_false b8) ?_
  refine AWP.skip ?_
  change AWP _ _ _ _ _ _
  refine AWP.seq ?_
  refine AWP.region (l := [0, 1]) rfl ?_
  refine AOps.cons rfl rfl (AOp.buildSlice (cells := []) rfl u_27 ts_3 tz_3 rfl rfl rfl ?_)
  intro i24 H25 n26 h27 k28
  have e29 := ne_new h4 n26
  have z30 := Mono.free m7 n26
  have h31 := keep k28 (ne_new h4 n26) h4
  have m32 := Mono.new m7 n26 k28
  obtain ⟨v33, e34⟩ : ∃ v : AV, v = .slm i24 0 1 0 0 := ⟨_, rfl⟩
  have o35 : Own H0 H25 1 v33 0 [] := .inr ⟨_, _, e34, h27, z30, rfl⟩
  have no36 : NotId v33 i1 := by rw [e34]; exact NotId.slm e29
  refine AOps.cons rfl rfl (AOp.assign (v33) rfl e34.symm ?_)
  refine AOps.nil ?_
  change AWP _ _ _ _ _ _
  refine AWP.seq ?_
  refine AWP.seq ?_
  refine AWP.region (l := [0]) rfl ?_
  refine AOps.cons rfl rfl (AOp.assign (.int .i64 0) rfl rfl ?_)
  refine AOps.nil ?_
  change AWP _ _ _ _ _ _
  refine AWP.block ?_
  refine AWP.loop (fun q37 fq Hq => ∃ (i : Int) (w6 : AV), q37 = (((bx.length : Int) : Int) - i).toNat ∧ fq 7 = .int .i64 i ∧ fq 0 = .sl bx.length (bx.flatMap eBox) ∧ fq 1 = .int .i64 leaf ∧ fq 4 = .ptr i1 0 0 ∧ fq 6 = w6 ∧ Own H0 Hq 1 w6 (iota i.toNat).length ((iota i.toNat).map eI) ∧ NotId w6 i1 ∧ Hq i1 = some (.row 0 ([.snil, .snil])) ∧ Mono H0 Hq ∧ (0 ≤ i) ∧ (i ≤ (bx.length : Int)) ∧ (∀ j : Int, 0 ≤ j → j < i → farB (at_ bx j) = false)) (k := (((bx.length : Int) : Int) - 0).toNat) ?_ ?_
  ·
   exact ⟨0, v33, rfl, rfl, rfl, rfl, rfl, rfl, (have hx : ([] : List Int) = iota (0 : Int).toNat := (by rfl); Own.re o35 (congrArg List.length hx) (congrArg (fun l : List Int => l.map eI) hx)), no36, h31, m32, by omega, by omega, by intro j; omega⟩
  ·
   rintro _ f39 H38 ⟨i, w6, rfl, s40, s41, s42, s43, s44, o45, no46, h47, m48, hi0, hi1, pre⟩
   refine AWP.seq ?_
   refine AWP.seq ?_
   refine AWP.region (l := [0, 1, 2, 3]) rfl ?_
   refine AOps.cons rfl rfl (AOp.move (.int .i64 i) rfl s40 ?_)
   refine AOps.cons rfl rfl (AOp.move (.sl bx.length (bx.flatMap eBox)) rfl s41 ?_)
   refine AOps.cons rfl rfl (AOp.len (m := bx.length) rfl rfl (.inr (.inl ⟨_, rfl⟩)) u_22 ?_)
   refine AOps.cons rfl rfl (AOp.bin (.bool (decide (i < (bx.length : Int)))) rfl rfl rfl rfl ?_)
   refine AOps.nil ?_
   change AWP _ _ _ _ _ _
   by_cases b49 : i < (bx.length : Int)
   ·
    refine AWP.condT rfl (decide_eq_true b49) ?_
    refine AWP.skip ?_
    change AWP _ _ _ _ _ _
    refine AWP.seq ?_
    refine AWP.block ?_
    refine AWP.seq ?_
    refine AWP.seq ?_
    refine AWP.region (l := [0, 1, 2, 3, 4, 5, 6, 7, 8, 9, 10, 11, 12, 13, 14, 15]) rfl ?_
    refine AOps.cons rfl rfl (AOp.move (.sl bx.length (bx.flatMap eBox)) rfl s41 ?_)
    refine AOps.cons rfl rfl (AOp.move (.int .i64 i) rfl s40 ?_)
    refine AOps.cons rfl rfl (AOp.indexAddrS rfl rfl rfl sl_22 (by omega) (by omega) ?_)
    refine AOps.cons rfl rfl (AOp.fieldAddrF rfl rfl fl_37_0 ?_)
    refine AOps.cons rfl rfl (AOp.loadF (.agg [.int .i64 (((at_ bx i).Lo).X), .int .i64 (((at_ bx i).Lo).Y), .int .i64 (((at_ bx i).Lo).Z)]) rfl rfl ty_24 (ldS eBox_len (by omega) (by omega) rfl (by decide)) ?_)
    refine AOps.cons rfl rfl (AOp.pcall («as» := [.agg [.int .i64 (((at_ bx i).Lo).X), .int .i64 (((at_ bx i).Lo).Y), .int .i64 (((at_ bx i).Lo).Z)], .int .i64 131072]) rfl rfl (rfl) tf_21 (c_ref00_Within ((at_ bx i).Lo) 131072 (by omega)) ?_)
    intro H50 m51
    have h52 := m51 _ _ h47
    have o53 := Own.mono o45 m51
    have m54 := m48.trans m51
    refine AOps.cons rfl rfl (AOp.not rfl rfl ?_)
    refine AOps.cons rfl rfl (AOp.move (.bool (!(R_ref00_Within ((at_ bx i).Lo) 131072))) rfl rfl ?_)
    rcases Bool.eq_false_or_eq_true (R_ref00_Within ((at_ bx i).Lo) 131072) with b55 | b55
    ·
     refine AOps.yes rfl rfl rfl rfl rfl rfl rfl (nb b55) (AOp.move (.sl bx.length (bx.flatMap eBox)) rfl s41 ?_)
     refine AOps.yes rfl rfl rfl rfl rfl rfl rfl (nb b55) (AOp.move (.int .i64 i) rfl s40 ?_)
     refine AOps.yes rfl rfl rfl rfl rfl rfl rfl (nb b55) (AOp.indexAddrS rfl rfl rfl sl_22 (by omega) (by omega) ?_)
     refine AOps.yes rfl rfl rfl rfl rfl rfl rfl (nb b55) (AOp.fieldAddrF rfl rfl fl_37_1 ?_)
     refine AOps.yes rfl rfl rfl rfl rfl rfl rfl (nb b55) (AOp.loadF (.agg [.int .i64 (((at_ bx i).Hi).X), .int .i64 (((at_ bx i).Hi).Y), .int .i64 (((at_ bx i).Hi).Z)]) rfl rfl ty_24 (ldS eBox_len (by omega) (by omega) rfl (by decide)) ?_)
     refine AOps.yes rfl rfl rfl rfl rfl rfl rfl (nb b55) (AOp.pcall («as» := [.agg [.int .i64 (((at_ bx i).Hi).X), .int .i64 (((at_ bx i).Hi).Y), .int .i64 (((at_ bx i).Hi).Z)], .int .i64 131072]) rfl rfl (rfl) tf_21 (c_ref00_Within ((at_ bx i).Hi) 131072 (by omega)) ?_)
     intro H56 m57
     have h58 := m57 _ _ h52
     have o59 := Own.mono o53 m57
     have m60 := m54.trans m57
     refine AOps.yes rfl rfl rfl rfl rfl rfl rfl (nb b55) (AOp.not rfl rfl ?_)
     refine AOps.cons rfl rfl (AOp.pickF (.bool (!(R_ref00_Within ((at_ bx i).Hi) 131072))) rfl rfl (nb b55) rfl ?_)
     refine AOps.nil ?_
     change AWP _ _ _ _ _ _
     rcases Bool.eq_false_or_eq_true (R_ref00_Within ((at_ bx i).Hi) 131072) with b61 | b61
     ·
      refine AWP.condF rfl (nb b61) ?_
      refine AWP.skip ?_
      change AWP _ _ _ _ _ _
      refine AWP.region (l := [0, 1, 2, 3, 4]) rfl ?_
      refine AOps.cons rfl rfl (AOp.move (w6) rfl s44 ?_)
      refine AOps.cons rfl rfl (AOp.move (.int .i64 i) rfl s40 ?_)
      refine AOps.cons rfl rfl (AOp.buildSlice (cells := [.int .i64 i]) rfl u_27 ts_3 tz_3 rfl rfl rfl ?_)
      intro i62 H63 n64 h65 k66
      have e67 := ne_new h58 n64
      have z68 := Mono.free m60 n64
      have h69 := keep k66 (ne_new h58 n64) h58
      have o70 := Own.keep o59 k66 (Own.notnew o59 n64)
      have no71 := Own.notnew o59 n64
      have m72 := Mono.new m60 n64 k66
      refine AOps.cons rfl rfl (AOp.append_own (es := 1) (m := 1) (len := ((iota i.toNat).length)) (old := (iota i.toNat).map eI) (cells := [.int .i64 i]) rfl u_27 ts_3 tzn_3 tb_3 (by decide) ni_27 rfl o70 m72 rfl (.slm h65 rfl) (one_of rfl) (by decide) (by rw [iota_len]; omega) ?_)
      intro v73 H74 o75 m76 k77 j78
      have o79 := Own.snoc1 (xs := ((iota i.toNat) : List Int)) (y := i) (e := eI) (by simp) o75
      have h80 := (k77 _ no46 (by rw [h69]; simp)).trans h69
      have no81 := j78 _ no46 (by rw [h69]; simp)
      refine AOps.cons rfl rfl (AOp.assign (v73) rfl rfl ?_)
      refine AOps.nil ?_
      change AWP _ _ _ _ _ _
      refine AWP.region (l := [0, 1, 2]) rfl ?_
      refine AOps.cons rfl rfl (AOp.move (.int .i64 i) rfl s40 ?_)
      refine AOps.cons rfl rfl (AOp.bin (.int .i64 (i + 1)) rfl rfl rfl (iadd (by omega)) ?_)
      refine AOps.cons rfl rfl (AOp.assign (.int .i64 (i + 1)) rfl rfl ?_)
      refine AOps.nil ?_
      exact ⟨_, by omega, i + 1, v73, rfl, rfl, s41, s42, s43, rfl, (have hx : (((iota i.toNat) ++ [i]) : List Int) = iota (i + 1).toNat := (by rw [← iota_step hi0]); Own.re o79 (congrArg List.length hx) (congrArg (fun l : List Int => l.map eI) hx)), no81, h80, m76, by omega, by omega, by exact fa_step pre (rfar_F b55 b61)⟩
     ·
      refine AWP.condT rfl (nb b61) ?_
      refine AWP.seq ?_
      refine AWP.region (l := [0, 1, 2]) rfl ?_
      refine AOps.cons rfl rfl (AOp.build (cells := [.snil, .snil]) rfl tz_29 pl_29 rfl rfl ?_)
      refine AOps.cons rfl rfl (AOp.store' (cells' := [.snil, .snil]) (.agg [.snil, .snil]) s43 rfl ts_29 h58 rfl rfl rfl rfl ?_)
      intro H82 h83 k84
      have o86 := Own.keep o59 k84 no46
      have m87 := Mono.set m60 z6 k84
      refine AOps.cons rfl rfl (AOp.assign (.int .i64 21) rfl rfl ?_)
      refine AOps.nil ?_
      change AWP _ _ _ _ _ _
      refine AWP.ret ?_
      refine Fin.frzCell 0 (Own.nil H0 H82 1) h83 z6 rfl (NotId.nil _) m87 fun H88 h89 m90 k91 => ?_
      have o92 := Own.stay2 o86 (Sep.nilR _) no46 k91
      have h93 : H88 i1 = some (.row 0 ([.sl 0 ([]), .snil])) := h89
      refine Fin.frzCell 1 (Own.nil H0 H88 1) h93 z6 rfl (NotId.nil _) m90 fun H94 h95 m96 k97 => ?_
      have o98 := Own.stay2 o92 (Sep.nilR _) no46 k97
      have h99 : H94 i1 = some (.row 0 ([.sl 0 ([]), .sl 0 ([])])) := h95
      refine ⟨_, _, Ghost.refl, .inr rfl, _, Res.list rfl rfl (.cell (v := .agg [.sl 0 ([]), .sl 0 ([])]) s43 ty_29 h99 rfl (.tmp rfl (.nil))), ?_, m96⟩
      exact congrArg AV.tup (lc (congrArg AV.agg (lc (congrArg (fun l : List NodeT => AV.sl l.length (l.flatMap eNode)) (show ([] : List NodeT) = (buildR bx leaf).1.Nodes from by rw [build_21 b8 (any_T hi0 (by omega) (rfar_T2 b61))])) (lc (congrArg (fun l : List Int => AV.sl l.length (l.map eI)) (show ([] : List Int) = (buildR bx leaf).1.Items from by rw [build_21 b8 (any_T hi0 (by omega) (rfar_T2 b61))])) rfl))) (lc (congrArg (AV.int .i64) (show (21 : Int) = (buildR bx leaf).2 from by rw [build_21 b8 (any_T hi0 (by omega) (rfar_T2 b61))])) rfl))
    ·
     refine AOps.no rfl rfl rfl rfl rfl rfl rfl (ble_of (nb b55) (by decide)) ?_
     refine AOps.no rfl rfl rfl rfl rfl rfl rfl (ble_of (nb b55) (by decide)) ?_
     refine AOps.no rfl rfl rfl rfl rfl rfl rfl (ble_of (nb b55) (by decide)) ?_
     refine AOps.no rfl rfl rfl rfl rfl rfl rfl (ble_of (nb b55) (by decide)) ?_
     refine AOps.no rfl rfl rfl rfl rfl rfl rfl (ble_of (nb b55) (by decide)) ?_
     refine AOps.no rfl rfl rfl rfl rfl rfl rfl (ble_of (nb b55) (by decide)) ?_
     refine AOps.no rfl rfl rfl rfl rfl rfl rfl (ble_of (nb b55) (by decide)) ?_
     refine AOps.cons rfl rfl (AOp.pickT (.bool true) rfl rfl (nb b55) rfl ?_)
     refine AOps.nil ?_
     change AWP _ _ _ _ _ _
     refine AWP.condT rfl rfl ?_
     refine AWP.seq ?_
     refine AWP.region (l := [0, 1, 2]) rfl ?_
     refine AOps.cons rfl rfl (AOp.build (cells := [.snil, .snil]) rfl tz_29 pl_29 rfl rfl ?_)
     refine AOps.cons rfl rfl (AOp.store' (cells' := [.snil, .snil]) (.agg [.snil, .snil]) s43 rfl ts_29 h52 rfl rfl rfl rfl ?_)
     intro H100 h101 k102
     have o104 := Own.keep o53 k102 no46
     have m105 := Mono.set m54 z6 k102
     refine AOps.cons rfl rfl (AOp.assign (.int .i64 21) rfl rfl ?_)
     refine AOps.nil ?_
     change AWP _ _ _ _ _ _
     refine AWP.ret ?_
     refine Fin.frzCell 0 (Own.nil H0 H100 1) h101 z6 rfl (NotId.nil _) m105 fun H106 h107 m108 k109 => ?_
     have o110 := Own.stay2 o104 (Sep.nilR _) no46 k109
     have h111 : H106 i1 = some (.row 0 ([.sl 0 ([]), .snil])) := h107
     refine Fin.frzCell 1 (Own.nil H0 H106 1) h111 z6 rfl (NotId.nil _) m108 fun H112 h113 m114 k115 => ?_
     have o116 := Own.stay2 o110 (Sep.nilR _) no46 k115
     have h117 : H112 i1 = some (.row 0 ([.sl 0 ([]), .sl 0 ([])])) := h113
     refine ⟨_, _, Ghost.refl, .inr rfl, _, Res.list rfl rfl (.cell (v := .agg [.sl 0 ([]), .sl 0 ([])]) s43 ty_29 h117 rfl (.tmp rfl (.nil))), ?_, m114⟩
     exact congrArg AV.tup (lc (congrArg AV.agg (lc (congrArg (fun l : List NodeT => AV.sl l.length (l.flatMap eNode)) (show ([] : List NodeT) = (buildR bx leaf).1.Nodes from by rw [build_21 b8 (any_T hi0 (by omega) (rfar_T1 b55))])) (lc (congrArg (fun l : List Int => AV.sl l.length (l.map eI)) (show ([] : List Int) = (buildR bx leaf).1.Items from by rw [build_21 b8 (any_T hi0 (by omega) (rfar_T1 b55))])) rfl))) (lc (congrArg (AV.int .i64) (show (21 : Int) = (buildR bx leaf).2 from by rw [build_21 b8 (any_T hi0 (by omega) (rfar_T1 b55))])) rfl))
   ·
    refine AWP.condF rfl (decide_eq_false b49) ?_
    refine AWP.exit ?_
    change AWP _ _ _ _ _ _
    refine AWP.seq ?_
    refine AWP.seq ?_
    refine AWP.frz 6 o45 s44 m48 fun H118 m119 k120 => ?_
    have h121 := (k120 _ no46).trans h47
    have hii : i = (bx.length : Int) := by omega
    have hio : (iota i.toNat).length = i.toNat := iota_len _
    refine AWP.region (l := [0, 1, 2]) rfl ?_
    refine AOps.cons rfl rfl (AOp.move (.sl (iota i.toNat).length ((iota i.toNat).map eI)) rfl rfl ?_)
    refine AOps.cons rfl rfl (AOp.len (m := (iota i.toNat).length) rfl rfl (.inr (.inl ⟨_, rfl⟩)) u_27 ?_)
    refine AOps.cons rfl rfl (AOp.bin (.bool (decide ((((iota i.toNat).length) : Int) = 0))) rfl rfl rfl ieq ?_)
    refine AOps.nil ?_
    change AWP _ _ _ _ _ _
    by_cases b122 : (((iota i.toNat).length) : Int) = 0
    ·
     refine AWP.condT rfl (decide_eq_true b122) ?_
     refine AWP.seq ?_
     refine AWP.region (l := [0, 1, 2]) rfl ?_
     refine AOps.cons rfl rfl (AOp.build (cells := [.snil, .snil]) rfl tz_29 pl_29 rfl rfl ?_)
     refine AOps.cons rfl rfl (AOp.store' (cells' := [.snil, .snil]) (.agg [.snil, .snil]) s43 rfl ts_29 h121 rfl rfl rfl rfl ?_)
     intro H123 h124 k125
     have m127 := Mono.set m119 z6 k125
     refine AOps.cons rfl rfl (AOp.assign (.int .i64 0) rfl rfl ?_)
     refine AOps.nil ?_
     change AWP _ _ _ _ _ _
     refine AWP.ret ?_
     refine Fin.frzCell 0 (Own.nil H0 H123 1) h124 z6 rfl (NotId.nil _) m127 fun H128 h129 m130 k131 => ?_
     have h132 : H128 i1 = some (.row 0 ([.sl 0 ([]), .snil])) := h129
     refine Fin.frzCell 1 (Own.nil H0 H128 1) h132 z6 rfl (NotId.nil _) m130 fun H133 h134 m135 k136 => ?_
     have h137 : H133 i1 = some (.row 0 ([.sl 0 ([]), .sl 0 ([])])) := h134
     refine ⟨_, _, Ghost.refl, .inr rfl, _, Res.list rfl rfl (.cell (v := .agg [.sl 0 ([]), .sl 0 ([])]) s43 ty_29 h137 rfl (.tmp rfl (.nil))), ?_, m135⟩
     exact congrArg AV.tup (lc (congrArg AV.agg (lc (congrArg (fun l : List NodeT => AV.sl l.length (l.flatMap eNode)) (show ([] : List NodeT) = (buildR bx leaf).1.Nodes from by rw [build_nil b8 (any_F (by omega) pre) (by omega)])) (lc (congrArg (fun l : List Int => AV.sl l.length (l.map eI)) (show ([] : List Int) = (buildR bx leaf).1.Items from by rw [build_nil b8 (any_F (by omega) pre) (by omega)])) rfl))) (lc (congrArg (AV.int .i64) (show (0 : Int) = (buildR bx leaf).2 from by rw [build_nil b8 (any_F (by omega) pre) (by omega)])) rfl))
    ·
     refine AWP.condF rfl (decide_eq_false b122) ?_
     refine AWP.skip ?_
     change AWP _ _ _ _ _ _
     refine AWP.seq ?_
     have hlf : 1 ≤ leaf := by have := b8; omega
     have hok := any_ok (any_F (by omega) pre)
     refine AWP.region (l := [0, 1, 2, 3, 4, 5, 6]) rfl ?_
     refine AOps.cons rfl rfl (AOp.build (cells := [.snil, .snil]) rfl tz_29 pl_29 rfl rfl ?_)
     refine AOps.cons rfl rfl (AOp.move (.sl bx.length (bx.flatMap eBox)) rfl s41 ?_)
     refine AOps.cons rfl rfl (AOp.move (.sl (iota i.toNat).length ((iota i.toNat).map eI)) rfl rfl ?_)
     refine AOps.cons rfl rfl (AOp.move (.int .i64 leaf) rfl s42 ?_)
     have g138 : GT H0 [] [] .snil .snil H118 := ⟨m119, .nil _ _ _, .nil _ _ _, Sep.nilL _⟩
     have g139 := GT.down g138
     have hN140 := c_rgrow bx h_bx hok leaf hlf 60 (by decide) (iota bx.length) (by intro e; have := congrArg List.length e; rw [iota_len, List.length_nil] at this; omega) (by rw [iota_len]; exact Nat.le_trans h_bx (by decide)) (by rw [iota_len]; exact h_bx) (by intro k hk; have := mem_iota.1 hk; omega) (B := baseOf H118 [] .snil .snil) (H := H118) (by rw [iota_len]; simp only [List.length_nil]; omega) (by rw [iota_len]; simp only [List.length_nil]; omega) g139
     rw [show iota bx.length = (iota i.toNat) from by congr 1; omega] at hN140
     refine AOps.cons rfl rfl (AOp.xcall («as» := [.agg [.snil, .snil], .sl bx.length (bx.flatMap eBox), .sl (iota i.toNat).length ((iota i.toNat).map eI), .int .i64 leaf, .int .i64 60]) rfl rfl (rfl) tf_22 hN140 ?_)
     rintro _ H141 ⟨v142, v143, rfl, g144⟩
     have g145 := GT.up g138 g144
     have q146 := GT.other g144 h121 (NotId.nil _) (NotId.nil _)
     refine AOps.cons rfl rfl (AOp.store' (cells' := [v142, v143]) (.agg [v142, v143]) s43 rfl ts_29 q146.1 (by simp only [AV.cells, List.all_cons, List.all_nil, Own.one_ g145.oN, Own.one_ g145.oI]; rfl) rfl rfl rfl ?_)
     intro H147 h148 k149
     have o151 := Own.keep g145.oN k149 q146.2.1
     have o152 := Own.keep g145.oI k149 q146.2.2
     have m153 := Mono.set g145.hm z6 k149
     refine AOps.cons rfl rfl (AOp.assign (.int .i64 0) rfl rfl ?_)
     refine AOps.nil ?_
     change AWP _ _ _ _ _ _
     refine AWP.ret ?_
     refine Fin.frzCell 0 o151 h148 z6 rfl q146.2.1 m153 fun H154 h155 m156 k157 => ?_
     have o158 := Own.stay2 o152 (Sep.symm g145.sep) q146.2.2 k157
     have h159 : H154 i1 = some (.row 0 ([.sl (([] : List NodeT) ++ flatN (growT bx leaf 60 (iota i.toNat)) ([] : List NodeT).length ([] : List Int).length).length ((([] : List NodeT) ++ flatN (growT bx leaf 60 (iota i.toNat)) ([] : List NodeT).length ([] : List Int).length).flatMap eNode), v143])) := h155
     refine Fin.frzCell 1 o158 h159 z6 rfl q146.2.2 m156 fun H160 h161 m162 k163 => ?_
     have h164 : H160 i1 = some (.row 0 ([.sl (([] : List NodeT) ++ flatN (growT bx leaf 60 (iota i.toNat)) ([] : List NodeT).length ([] : List Int).length).length ((([] : List NodeT) ++ flatN (growT bx leaf 60 (iota i.toNat)) ([] : List NodeT).length ([] : List Int).length).flatMap eNode), .sl (([] : List Int) ++ (growT bx leaf 60 (iota i.toNat)).items).length ((([] : List Int) ++ (growT bx leaf 60 (iota i.toNat)).items).map eI)])) := h161
     refine ⟨_, _, Ghost.refl, .inr rfl, _, Res.list rfl rfl (.cell (v := .agg [.sl (([] : List NodeT) ++ flatN (growT bx leaf 60 (iota i.toNat)) ([] : List NodeT).length ([] : List Int).length).length ((([] : List NodeT) ++ flatN (growT bx leaf 60 (iota i.toNat)) ([] : List NodeT).length ([] : List Int).length).flatMap eNode), .sl (([] : List Int) ++ (growT bx leaf 60 (iota i.toNat)).items).length ((([] : List Int) ++ (growT bx leaf 60 (iota i.toNat)).items).map eI)]) s43 ty_29 h164 rfl (.tmp rfl (.nil))), ?_, m162⟩
     exact congrArg AV.tup (lc (congrArg AV.agg (lc (congrArg (fun l : List NodeT => AV.sl l.length (l.flatMap eNode)) (show ((([] : List NodeT) ++ flatN (growT bx leaf 60 (iota i.toNat)) ([] : List NodeT).length ([] : List Int).length) : List NodeT) = (buildR bx leaf).1.Nodes from by rw [build_T b8 (any_F (by omega) pre) (by omega), root_fuel hlf 60 (Nat.le_trans h_bx (by decide))] <;> first | rfl | (rw [show iota i.toNat = iota bx.length from by congr 1; omega]; rfl))) (lc (congrArg (fun l : List Int => AV.sl l.length (l.map eI)) (show ((([] : List Int) ++ (growT bx leaf 60 (iota i.toNat)).items) : List Int) = (buildR bx leaf).1.Items from by rw [build_T b8 (any_F (by omega) pre) (by omega), root_fuel hlf 60 (Nat.le_trans h_bx (by decide))] <;> first | rfl | (rw [show iota i.toNat = iota bx.length from by congr 1; omega]; rfl))) rfl))) (lc (congrArg (AV.int .i64) (show (0 : Int) = (buildR bx leaf).2 from by rw [build_T b8 (any_F (by omega) pre) (by omega), root_fuel hlf 60 (Nat.le_trans h_bx (by decide))] <;> first | rfl | (rw [show iota i.toNat = iota bx.length from by congr 1; omega]; rfl))) rfl))
end Go.Proofs.B
namespace Go.Proofs.B
open Go Go.AH
set_option maxRecDepth 4000
set_option linter.unusedSimpArgs false
set_option linter.unusedVariables false
theorem c_rtouch_step (N : List NodeT) (I : List Int) (hNl : N.length ≤ 2097152) (hIl : I.length ≤ 1048576) (o d : VT) (hrd : ranV d) (hb0 : badOD o d = false) (T : BT) (ih : ∀ b l r, T = .node b l r → TouchOK N I o d l ∧ TouchOK N I o d r) (p q deep : Int) (hP : POK N I (T, p, q)) (hdp : (T.depth : Int) ≤ deep) (hd1 : deep ≤ 100) {B H0 : Heap} {out : List Int} {v : AV} (hol : out.length + T.items.length ≤ 1073741824) (gs : OT B out v H0)  : ACalls Try.prog 24 [.agg [.sl N.length (N.flatMap eNode), .sl I.length (I.map eI)], .int .i64 p, .agg [.int .i64 o.X, .int .i64 o.Y, .int .i64 o.Z], .agg [.int .i64 d.X, .int .i64 d.Y, .int .i64 d.Z], v, .int .i64 deep] H0 (fun r H' => OT B (out ++ touchT (hitB o d) T) r H') := by
 obtain ⟨hm, ow⟩ := gs
 obtain ⟨hpr, hbk, hbx_, hcn⟩ := touch_at hP
 have hd0 := T.depth_pos
 refine ACalls.of_body' (n := 77) rfl rfl rfl rfl ?_
 have m0 := hm
 refine AWP.seq ?_
 refine AWP.region (l := [0, 1, 2, 3]) rfl ?_
 refine AOps.cons rfl rfl (AOp.box (.agg [.sl N.length (N.flatMap eNode), .sl I.length (I.map eI)]) rfl rfl rfl ?_)
 intro i1 H2 n3 h4 k5
 have z6 := Mono.free m0 n3
 have o7 := Own.keep ow k5 (Own.notnew ow n3)
 have no8 := Own.notnew ow n3
 have m9 := Mono.new m0 n3 k5
 refine AOps.cons rfl rfl (AOp.box (.agg [.int .i64 o.X, .int .i64 o.Y, .int .i64 o.Z]) rfl rfl rfl ?_)
 intro i10 H11 n12 h13 k14
 have e15 := ne_new h4 n12
 have z16 := Mono.free m9 n12
 have h17 := keep k14 (ne_new h4 n12) h4
 have o18 := Own.keep o7 k14 (Own.notnew o7 n12)
 have no19 := Own.notnew o7 n12
 have m20 := Mono.new m9 n12 k14
 refine AOps.cons rfl rfl (AOp.box (.agg [.int .i64 d.X, .int .i64 d.Y, .int .i64 d.Z]) rfl rfl rfl ?_)
 intro i21 H22 n23 h24 k25
 have e26 := ne_new h17 n23
 have e27 := ne_new h13 n23
 have z28 := Mono.free m20 n23
 have h29 := keep k25 (ne_new h17 n23) h17
 have h30 := keep k25 (ne_new h13 n23) h13
 have o31 := Own.keep o18 k25 (Own.notnew o18 n23)
 have no32 := Own.notnew o18 n23
 have m33 := Mono.new m20 n23 k25
 refine AOps.cons rfl rfl (AOp.assign (.snil) rfl rfl ?_)
 refine AOps.nil ?_
 change AWP _ _ _ _ _ _
 refine AWP.seq ?_
 refine AWP.frzP 6 h29 z6 rfl m33 fun H34 m35 k36 => ?_
 have h37 := (k36 _ (Ne.symm e15)).trans h30
 have h38 := (k36 _ (Ne.symm e26)).trans h24
 have o39 := Own.keep o31 k36 no8
 refine AWP.frzP 8 h37 z16 rfl m35 fun H40 m41 k42 => ?_
 have h43 := (k42 _ (Ne.symm e27)).trans h38
 have o44 := Own.keep o39 k42 no19
 refine AWP.frzP 9 h43 z28 rfl m41 fun H45 m46 k47 => ?_
 have o48 := Own.keep o44 k47 no32
 refine AWP.freshN fun b49 hb50 => ?_
 obtain ⟨i51, e52⟩ : ∃ x, x = b49 + 0 := ⟨_, rfl⟩
 have n53 := hb50 0; rw [← e52] at n53
 obtain ⟨i54, e55⟩ : ∃ x, x = b49 + 1 := ⟨_, rfl⟩
 have n56 := hb50 1; rw [← e55] at n56
 refine AWP.region_strA mixed (by kernel_rfl) [(14, i51, .row 0 ([.int .i64 0, .int .i64 0])), (15, i54, .row 0 ([.int .i64 0, .int .i64 0]))] [0, 1, 2, 3, 4, 5, 6, 7, 8, 9, 10, 11, 12, 13, 14, 15] [(16, some [11, 12, 13]), (17, some [12, 13]), (18, none)] [19] (by kernel_rfl) (by kernel_rfl) ⟨n53, ⟨⟨rfl, (by show i54 ≠ i51; omega)⟩, trivial⟩, ⟨n56, trivial, trivial⟩⟩ ?_
 have z57 := Mono.free m46 n53
 have no58 := Own.notnew o48 n53
 have z59 := Mono.free m46 n56
 have no60 := Own.notnew o48 n56
 have e61 : i51 ≠ i54 := by omega
 refine STRN.op rfl rfl rfl (.inl ⟨rfl, fun H1 f' H' hf hN hM => AOp.loadF (.agg [.int .i64 o.X, .int .i64 o.Y, .int .i64 o.Z]) rfl ((hf 8 rfl).trans rfl) ty_24 rfl ⟨rfl, hN⟩⟩) ?_
 refine STRN.op rfl rfl rfl (.inl ⟨rfl, fun H1 f' H' hf hN hM => AOp.loadF (.agg [.int .i64 d.X, .int .i64 d.Y, .int .i64 d.Z]) rfl ((hf 9 rfl).trans rfl) ty_24 rfl ⟨rfl, hN⟩⟩) ?_
 refine STRN.op rfl rfl rfl (.inl ⟨rfl, fun H1 f' H' hf hN hM => AOp.fieldAddrF rfl ((hf 6 rfl).trans rfl) fl_29_0 ⟨rfl, hN⟩⟩) ?_
 refine STRN.op rfl rfl rfl (.inl ⟨rfl, fun H1 f' H' hf hN hM => AOp.loadF (.sl N.length (N.flatMap eNode)) rfl ((hf 21 rfl).trans rfl) ty_26 rfl ⟨rfl, hN⟩⟩) ?_
 refine STRN.op rfl rfl rfl (.inl ⟨rfl, fun H1 f' H' hf hN hM => AOp.move (.int .i64 p) rfl ((hf 1 rfl).trans rfl) ⟨rfl, hN⟩⟩) ?_
 refine STRN.op rfl rfl rfl (.inl ⟨rfl, fun H1 f' H' hf hN hM => AOp.indexAddrS rfl ((hf 22 rfl).trans rfl) ((hf 23 rfl).trans rfl) sl_26 (by omega) (by omega) ⟨rfl, hN⟩⟩) ?_
 refine STRN.op rfl rfl rfl (.inl ⟨rfl, fun H1 f' H' hf hN hM => AOp.fieldAddrF rfl ((hf 24 rfl).trans rfl) fl_42_0 ⟨rfl, hN⟩⟩) ?_
 refine STRN.op rfl rfl rfl (.inl ⟨rfl, fun H1 f' H' hf hN hM => AOp.loadF (.agg [.int .i64 ((((at_ N p).Box).Lo).X), .int .i64 ((((at_ N p).Box).Lo).Y), .int .i64 ((((at_ N p).Box).Lo).Z), .int .i64 ((((at_ N p).Box).Hi).X), .int .i64 ((((at_ N p).Box).Hi).Y), .int .i64 ((((at_ N p).Box).Hi).Z)]) rfl ((hf 25 rfl).trans rfl) ty_37 (ldS eNode_len (by omega) (by omega) rfl (by decide)) ⟨rfl, hN⟩⟩) ?_
 refine STRN.op rfl rfl rfl (.inl ⟨rfl, fun H1 f' H' hf hN hM => AOp.pcall («as» := [.agg [.int .i64 o.X, .int .i64 o.Y, .int .i64 o.Z], .agg [.int .i64 d.X, .int .i64 d.Y, .int .i64 d.Z], .agg [.int .i64 ((((at_ N p).Box).Lo).X), .int .i64 ((((at_ N p).Box).Lo).Y), .int .i64 ((((at_ N p).Box).Lo).Z), .int .i64 ((((at_ N p).Box).Hi).X), .int .i64 ((((at_ N p).Box).Hi).Y), .int .i64 ((((at_ N p).Box).Hi).Z)]]) rfl rfl (lapp (lcons ((hf 19 rfl).trans rfl) (lcons ((hf 20 rfl).trans rfl) (lcons ((hf 26 rfl).trans rfl) rfl))) rfl) tf_23 (c_rRange o d ((at_ N p).Box) hrd) fun H2 m2 => ⟨rfl, hN.trans m2⟩⟩) ?_
 refine STRN.op rfl rfl rfl (.inl ⟨rfl, fun H1 f' H' hf hN hM => AOp.move (.tup [.agg [.int .i64 (((rangeF o d ((at_ N p).Box)).1).N), .int .i64 (((rangeF o d ((at_ N p).Box)).1).D)], .agg [.int .i64 (((rangeF o d ((at_ N p).Box)).2.1).N), .int .i64 (((rangeF o d ((at_ N p).Box)).2.1).D)], .bool ((rangeF o d ((at_ N p).Box)).2.2.1), .int .i64 ((rangeF o d ((at_ N p).Box)).2.2.2)]) rfl ((hf 27 rfl).trans rfl) ⟨rfl, hN⟩⟩) ?_
 refine STRN.op rfl rfl rfl (.inl ⟨rfl, fun H1 f' H' hf hN hM => AOp.extract (.agg [.int .i64 (((rangeF o d ((at_ N p).Box)).1).N), .int .i64 (((rangeF o d ((at_ N p).Box)).1).D)]) rfl ((hf 18 rfl).trans rfl) rfl ⟨rfl, hN⟩⟩) ?_
 refine STRN.op rfl rfl rfl (.inl ⟨rfl, fun H1 f' H' hf hN hM => AOp.extract (.agg [.int .i64 (((rangeF o d ((at_ N p).Box)).2.1).N), .int .i64 (((rangeF o d ((at_ N p).Box)).2.1).D)]) rfl ((hf 18 rfl).trans rfl) rfl ⟨rfl, hN⟩⟩) ?_
 refine STRN.op rfl rfl rfl (.inl ⟨rfl, fun H1 f' H' hf hN hM => AOp.extract (.bool ((rangeF o d ((at_ N p).Box)).2.2.1)) rfl ((hf 18 rfl).trans rfl) rfl ⟨rfl, hN⟩⟩) ?_
 refine STRN.op rfl rfl rfl (.inl ⟨rfl, fun H1 f' H' hf hN hM => AOp.extract (.int .i64 ((rangeF o d ((at_ N p).Box)).2.2.2)) rfl ((hf 18 rfl).trans rfl) rfl ⟨rfl, hN⟩⟩) ?_
 refine STRN.alloc (id := i51) (Z := [.int .i64 0, .int .i64 0]) (.head _) rfl rfl rfl rfl rfl tz_46 ?_
 refine STRN.alloc (id := i54) (Z := [.int .i64 0, .int .i64 0]) (.tail _ (.head _)) rfl rfl rfl rfl rfl tz_46 ?_
 refine STRN.done fun H62 m63 hu64 => ?_
 have o65 := Own.mono o48 m63
 have m66 := m46.trans m63
 have h67 : H62 i51 = some (.row 0 ([.int .i64 0, .int .i64 0])) := hu64 _ (.head _)
 have h68 : H62 i54 = some (.row 0 ([.int .i64 0, .int .i64 0])) := hu64 _ (.tail _ (.head _))
 refine STR.st rfl rfl rfl fun f69 H70 hf71 m72 => ?_
 have h73 := m72 _ _ h67
 have h74 := m72 _ _ h68
 have o75 := Own.mono o65 m72
 have m76 := m66.trans m72
 refine AOp.store' (cells' := [.int .i64 (((rangeF o d ((at_ N p).Box)).1).N), .int .i64 (((rangeF o d ((at_ N p).Box)).1).D)]) (.agg [.int .i64 (((rangeF o d ((at_ N p).Box)).1).N), .int .i64 (((rangeF o d ((at_ N p).Box)).1).D)]) ((hf71 13 rfl).trans rfl) ((hf71 28 rfl).trans rfl) ts_46 h73 rfl rfl rfl rfl ?_
 intro H77 h78 k79
 have h81 := keep k79 (Ne.symm e61) h74
 have o82 := Own.keep o75 k79 no58
 have m83 := Mono.set m76 z57 k79
 refine ⟨rfl, .inr (RevR.skip rfl (RevR.skip rfl (RevR.cons rfl (.inl ⟨rfl, fun H1 f' H' hf hN hM => AOp.extract (.int .i64 ((rangeF o d ((at_ N p).Box)).2.2.2)) rfl ((hf 18 rfl).trans rfl) rfl ⟨rfl, hN⟩⟩) (RevR.cons rfl (.inl ⟨rfl, fun H1 f' H' hf hN hM => AOp.extract (.bool ((rangeF o d ((at_ N p).Box)).2.2.1)) rfl ((hf 18 rfl).trans rfl) rfl ⟨rfl, hN⟩⟩) (RevR.cons rfl (.inl ⟨rfl, fun H1 f' H' hf hN hM => AOp.extract (.agg [.int .i64 (((rangeF o d ((at_ N p).Box)).2.1).N), .int .i64 (((rangeF o d ((at_ N p).Box)).2.1).D)]) rfl ((hf 18 rfl).trans rfl) rfl ⟨rfl, hN⟩⟩) (RevR.skip rfl (RevR.skip rfl (RevR.skip rfl (RevR.skip rfl (RevR.skip rfl (RevR.skip rfl (RevR.skip rfl (RevR.skip rfl (RevR.skip rfl (RevR.skip rfl (RevR.skip rfl RevR.nil)))))))))))))))), ?_⟩
 refine STR.st rfl rfl rfl fun f84 H85 hf86 m87 => ?_
 have h88 := m87 _ _ h81
 have h89 := m87 _ _ h78
 have o90 := Own.mono o82 m87
 have m91 := m83.trans m87
 refine AOp.store' (cells' := [.int .i64 (((rangeF o d ((at_ N p).Box)).2.1).N), .int .i64 (((rangeF o d ((at_ N p).Box)).2.1).D)]) (.agg [.int .i64 (((rangeF o d ((at_ N p).Box)).2.1).N), .int .i64 (((rangeF o d ((at_ N p).Box)).2.1).D)]) ((hf86 14 rfl).trans rfl) ((hf86 29 rfl).trans rfl) ts_46 h88 rfl rfl rfl rfl ?_
 intro H92 h93 k94
 have h96 := keep k94 e61 h89
 have o97 := Own.keep o90 k94 no60
 have m98 := Mono.set m91 z59 k94
 refine ⟨rfl, .inr (RevR.skip rfl (RevR.skip rfl (RevR.skip rfl (RevR.cons rfl (.inl ⟨rfl, fun H1 f' H' hf hN hM => AOp.extract (.int .i64 ((rangeF o d ((at_ N p).Box)).2.2.2)) rfl ((hf 18 rfl).trans rfl) rfl ⟨rfl, hN⟩⟩) (RevR.cons rfl (.inl ⟨rfl, fun H1 f' H' hf hN hM => AOp.extract (.bool ((rangeF o d ((at_ N p).Box)).2.2.1)) rfl ((hf 18 rfl).trans rfl) rfl ⟨rfl, hN⟩⟩) (RevR.skip rfl (RevR.skip rfl (RevR.skip rfl (RevR.skip rfl (RevR.skip rfl (RevR.skip rfl (RevR.skip rfl (RevR.skip rfl (RevR.skip rfl (RevR.skip rfl (RevR.skip rfl (RevR.skip rfl RevR.nil))))))))))))))))), ?_⟩
 refine STR.op rfl rfl (.inl ⟨rfl, fun H1 f' H' hf hN hM => AOp.assign (.bool ((rangeF o d ((at_ N p).Box)).2.2.1)) rfl ((hf 30 rfl).trans rfl) ⟨rfl, hN⟩⟩) ?_
 refine STR.done fun H99 m100 => ?_
 have h101 := m100 _ _ h96
 have h102 := m100 _ _ h93
 have o103 := Own.mono o97 m100
 have m104 := m98.trans m100
 refine AOps.cons rfl rfl (AOp.assign (.int .i64 ((rangeF o d ((at_ N p).Box)).2.2.2)) rfl rfl ?_)
 refine AOps.nil ?_
 change AWP _ _ _ _ _ _
 refine AWP.seq ?_
 refine AWP.seq ?_
 refine AWP.frzP 13 h101 z57 rfl m104 fun H105 m106 k107 => ?_
 have h108 := (k107 _ (Ne.symm e61)).trans h102
 have o109 := Own.keep o103 k107 no58
 refine AWP.frzP 14 h108 z59 rfl m106 fun H110 m111 k112 => ?_
 have o113 := Own.keep o109 k112 no60
 have herr : (rangeF o d (at_ N p).Box).2.2.2 = 0 := by rw [rangeF_err hbk, hb0]; rfl
 refine AWP.region (l := [0, 1, 2, 3, 4, 5]) rfl ?_
 refine AOps.cons rfl rfl (AOp.move (.bool ((rangeF o d ((at_ N p).Box)).2.2.1)) rfl rfl ?_)
 refine AOps.cons rfl rfl (AOp.not rfl rfl ?_)
 refine AOps.cons rfl rfl (AOp.move (.bool (!((rangeF o d ((at_ N p).Box)).2.2.1))) rfl rfl ?_)
 rcases Bool.eq_false_or_eq_true ((rangeF o d ((at_ N p).Box)).2.2.1) with b114 | b114
 ·
  refine AOps.yes rfl rfl rfl rfl rfl rfl rfl (nb b114) (AOp.move (.int .i64 deep) rfl rfl ?_)
  refine AOps.yes rfl rfl rfl rfl rfl rfl rfl (nb b114) (AOp.bin (.bool (decide (deep = 0))) rfl rfl rfl ieq ?_)
  refine AOps.cons rfl rfl (AOp.pickF (.bool (decide (deep = 0))) rfl rfl (nb b114) rfl ?_)
  refine AOps.nil ?_
  change AWP _ _ _ _ _ _
  by_cases b115 : deep = 0
  ·
   refine AWP.condT rfl (decide_eq_true b115) ?_
   refine AWP.seq ?_
   refine AWP.region (l := [0, 1]) rfl ?_
   refine AOps.cons rfl rfl (AOp.move (v) rfl rfl ?_)
   refine AOps.cons rfl rfl (AOp.assign (v) rfl rfl ?_)
   refine AOps.nil ?_
   change AWP _ _ _ _ _ _
   refine AWP.ret ?_
   refine ⟨_, _, Ghost.refl, .inr rfl, _, Res.one rfl rfl, ?_⟩
   have hx : out = out ++ touchT (hitB o d) T := by exfalso; omega
   exact ⟨m111, Own.re o113 (congrArg List.length hx) (congrArg (fun l : List Int => l.map eI) hx)⟩
  ·
   refine AWP.condF rfl (decide_eq_false b115) ?_
   refine AWP.skip ?_
   change AWP _ _ _ _ _ _
   refine AWP.seq ?_
   refine AWP.region (l := [0, 1, 2, 3, 4, 5, 6]) rfl ?_
   refine AOps.cons rfl rfl (AOp.fieldAddrF rfl rfl fl_29_0 ?_)
   refine AOps.cons rfl rfl (AOp.loadF (.sl N.length (N.flatMap eNode)) rfl rfl ty_26 rfl ?_)
   refine AOps.cons rfl rfl (AOp.move (.int .i64 p) rfl rfl ?_)
   refine AOps.cons rfl rfl (AOp.indexAddrS rfl rfl rfl sl_26 (by omega) (by omega) ?_)
   refine AOps.cons rfl rfl (AOp.loadF (.agg [.int .i64 ((((at_ N p).Box).Lo).X), .int .i64 ((((at_ N p).Box).Lo).Y), .int .i64 ((((at_ N p).Box).Lo).Z), .int .i64 ((((at_ N p).Box).Hi).X), .int .i64 ((((at_ N p).Box).Hi).Y), .int .i64 ((((at_ N p).Box).Hi).Z), .int .i64 ((at_ N p).Left), .int .i64 ((at_ N p).Right), .int .i64 ((at_ N p).First), .int .i64 ((at_ N p).Count)]) rfl rfl ty_42 (ldM eNode_len (by omega) (by omega)) ?_)
   refine AOps.cons rfl rfl (AOp.alloc rfl tz_42 ?_)
   intro i116 H117 n118 h119 k120
   have z121 := Mono.free m111 n118
   have o122 := Own.keep o113 k120 (Own.notnew o113 n118)
   have no123 := Own.notnew o113 n118
   have m124 := Mono.new m111 n118 k120
   refine AOps.cons rfl rfl (AOp.store' (cells' := [.int .i64 ((((at_ N p).Box).Lo).X), .int .i64 ((((at_ N p).Box).Lo).Y), .int .i64 ((((at_ N p).Box).Lo).Z), .int .i64 ((((at_ N p).Box).Hi).X), .int .i64 ((((at_ N p).Box).Hi).Y), .int .i64 ((((at_ N p).Box).Hi).Z), .int .i64 ((at_ N p).Left), .int .i64 ((at_ N p).Right), .int .i64 ((at_ N p).First), .int .i64 ((at_ N p).Count)]) (.agg [.int .i64 ((((at_ N p).Box).Lo).X), .int .i64 ((((at_ N p).Box).Lo).Y), .int .i64 ((((at_ N p).Box).Lo).Z), .int .i64 ((((at_ N p).Box).Hi).X), .int .i64 ((((at_ N p).Box).Hi).Y), .int .i64 ((((at_ N p).Box).Hi).Z), .int .i64 ((at_ N p).Left), .int .i64 ((at_ N p).Right), .int .i64 ((at_ N p).First), .int .i64 ((at_ N p).Count)]) rfl rfl ts_42 h119 rfl rfl rfl rfl ?_)
   intro H125 h126 k127
   have o129 := Own.keep o122 k127 no123
   have m130 := Mono.set m124 z121 k127
   refine AOps.nil ?_
   change AWP _ _ _ _ _ _
   refine AWP.seq ?_
   refine AWP.seq ?_
   refine AWP.frzP 17 h126 z121 rfl m130 fun H131 m132 k133 => ?_
   have o134 := Own.keep o129 k133 no123
   refine AWP.region (l := [0, 1, 2]) rfl ?_
   refine AOps.cons rfl rfl (AOp.fieldAddrF rfl rfl fl_42_4 ?_)
   refine AOps.cons rfl rfl (AOp.loadF (.int .i64 ((at_ N p).Count)) rfl rfl ty_3 rfl ?_)
   refine AOps.cons rfl rfl (AOp.bin (.bool (decide ((at_ N p).Count > 0))) rfl rfl rfl rfl ?_)
   refine AOps.nil ?_
   change AWP _ _ _ _ _ _
   by_cases b135 : (at_ N p).Count > 0
   ·
    refine AWP.condT rfl (decide_eq_true b135) ?_
    refine AWP.seq ?_
    refine AWP.region (l := [0, 1, 2, 3, 4, 5, 6, 7, 8, 9, 10, 11, 12]) rfl ?_
    refine AOps.cons rfl rfl (AOp.move (v) rfl rfl ?_)
    refine AOps.cons rfl rfl (AOp.fieldAddrF rfl rfl fl_29_1 ?_)
    refine AOps.cons rfl rfl (AOp.loadF (.sl I.length (I.map eI)) rfl rfl ty_27 rfl ?_)
    refine AOps.cons rfl rfl (AOp.fieldAddrF rfl rfl fl_42_3 ?_)
    refine AOps.cons rfl rfl (AOp.loadF (.int .i64 ((at_ N p).First)) rfl rfl ty_3 rfl ?_)
    refine AOps.cons rfl rfl (AOp.fieldAddrF rfl rfl fl_42_3 ?_)
    refine AOps.cons rfl rfl (AOp.loadF (.int .i64 ((at_ N p).First)) rfl rfl ty_3 rfl ?_)
    refine AOps.cons rfl rfl (AOp.fieldAddrF rfl rfl fl_42_4 ?_)
    refine AOps.cons rfl rfl (AOp.loadF (.int .i64 ((at_ N p).Count)) rfl rfl ty_3 rfl ?_)
    refine AOps.cons rfl rfl (AOp.bin (.int .i64 ((at_ N p).First + ((at_ N p).Count))) rfl rfl rfl (iadd (by omega)) ?_)
    refine AOps.cons rfl rfl (AOp.sliceSG1 (l := (at_ N p).First) (h := (at_ N p).First + ((at_ N p).Count)) rfl rfl  sl_27 (lo_of rfl) (hi_of rfl) (by omega) (by omega) (by omega) ?_)
    refine AOps.cons rfl rfl (AOp.append_any (es := 1) (m := (((I).drop ((at_ N p).First).toNat).take (((at_ N p).First + ((at_ N p).Count)).toNat - ((at_ N p).First).toNat)).length) (len := out.length) (old := out.map eI) (cells := (((I).drop ((at_ N p).First).toNat).take (((at_ N p).First + ((at_ N p).Count)).toNat - ((at_ N p).First).toNat)).map eI) rfl u_27 ts_3 tzn_3 tb_3 (by decide) ni_27 rfl o134 m132 rfl (.sl (by simp)) (by exact one_map eI_one)  (by first | omega | (simp; omega)) ?_)
    intro v136 H137 o138 m139 k140 j141
    have o142 := Own.app1 (xs := (out : List Int)) (ys := ((I).drop ((at_ N p).First).toNat).take (((at_ N p).First + ((at_ N p).Count)).toNat - ((at_ N p).First).toNat)) (e := eI) (by simp) o138
    refine AOps.cons rfl rfl (AOp.assign (v136) rfl rfl ?_)
    refine AOps.nil ?_
    change AWP _ _ _ _ _ _
    refine AWP.ret ?_
    refine ⟨_, _, Ghost.refl, .inr rfl, _, Res.one rfl rfl, ?_⟩
    have hx : (out ++ (((I).drop ((at_ N p).First).toNat).take (((at_ N p).First + ((at_ N p).Count)).toNat - ((at_ N p).First).toNat))) = out ++ touchT (hitB o d) T := by rw [touch_leaf hP (by rw [← hbx_]; exact (hit_of hbk herr b114)) b135]; first | rfl | (congr 3; omega) | (congr 2; congr 1; omega)
    exact ⟨m139, Own.re o142 (congrArg List.length hx) (congrArg (fun l : List Int => l.map eI) hx)⟩
   ·
    refine AWP.condF rfl (decide_eq_false b135) ?_
    refine AWP.skip ?_
    change AWP _ _ _ _ _ _
    refine AWP.seq ?_
    obtain ⟨b, l, r, hTe, hPl, hPr⟩ := touch_kids hP b135
    obtain ⟨ihl, ihr⟩ := ih b l r hTe
    subst hTe
    simp only [BT.depth, BT.items, List.length_append] at hdp hol
    refine AWP.region (l := [0, 1, 2, 3, 4, 5, 6, 7, 8, 9]) rfl ?_
    refine AOps.cons rfl rfl (AOp.loadF (.agg [.sl N.length (N.flatMap eNode), .sl I.length (I.map eI)]) rfl rfl ty_29 rfl ?_)
    refine AOps.cons rfl rfl (AOp.fieldAddrF rfl rfl fl_42_1 ?_)
    refine AOps.cons rfl rfl (AOp.loadF (.int .i64 ((at_ N p).Left)) rfl rfl ty_3 rfl ?_)
    refine AOps.cons rfl rfl (AOp.loadF (.agg [.int .i64 o.X, .int .i64 o.Y, .int .i64 o.Z]) rfl rfl ty_24 rfl ?_)
    refine AOps.cons rfl rfl (AOp.loadF (.agg [.int .i64 d.X, .int .i64 d.Y, .int .i64 d.Z]) rfl rfl ty_24 rfl ?_)
    refine AOps.cons rfl rfl (AOp.move (v) rfl rfl ?_)
    refine AOps.cons rfl rfl (AOp.move (.int .i64 deep) rfl rfl ?_)
    refine AOps.cons rfl rfl (AOp.bin (.int .i64 (deep - 1)) rfl rfl rfl (isub (by omega)) ?_)
    have g143 : OT B out v H131 := ⟨m132, o134⟩
    have g144 := OT.down g143
    have hN145 := ihl (at_ N p).Left q (deep - 1) hPl (by omega) (by omega) (by omega) g144
    refine AOps.cons rfl rfl (AOp.xcall («as» := [.agg [.sl N.length (N.flatMap eNode), .sl I.length (I.map eI)], .int .i64 ((at_ N p).Left), .agg [.int .i64 o.X, .int .i64 o.Y, .int .i64 o.Z], .agg [.int .i64 d.X, .int .i64 d.Y, .int .i64 d.Z], v, .int .i64 (deep - 1)]) rfl rfl (rfl) tf_24 hN145 ?_)
    rintro v147 H146 g148
    have g149 := OT.up g143 g148
    refine AOps.cons rfl rfl (AOp.assign (v147) rfl rfl ?_)
    refine AOps.nil ?_
    change AWP _ _ _ _ _ _
    refine AWP.seq ?_
    refine AWP.region (l := [0, 1, 2, 3, 4, 5, 6, 7, 8, 9]) rfl ?_
    refine AOps.cons rfl rfl (AOp.loadF (.agg [.sl N.length (N.flatMap eNode), .sl I.length (I.map eI)]) rfl rfl ty_29 rfl ?_)
    refine AOps.cons rfl rfl (AOp.fieldAddrF rfl rfl fl_42_2 ?_)
    refine AOps.cons rfl rfl (AOp.loadF (.int .i64 ((at_ N p).Right)) rfl rfl ty_3 rfl ?_)
    refine AOps.cons rfl rfl (AOp.loadF (.agg [.int .i64 o.X, .int .i64 o.Y, .int .i64 o.Z]) rfl rfl ty_24 rfl ?_)
    refine AOps.cons rfl rfl (AOp.loadF (.agg [.int .i64 d.X, .int .i64 d.Y, .int .i64 d.Z]) rfl rfl ty_24 rfl ?_)
    refine AOps.cons rfl rfl (AOp.move (v147) rfl rfl ?_)
    refine AOps.cons rfl rfl (AOp.move (.int .i64 deep) rfl rfl ?_)
    refine AOps.cons rfl rfl (AOp.bin (.int .i64 (deep - 1)) rfl rfl rfl (isub (by omega)) ?_)
    have g150 : OT B (out ++ touchT (hitB o d) l) v147 H146 := ⟨g149.hm, g149.o⟩
    have g151 := OT.down g150
    have hN152 := ihr (at_ N p).Right (q + l.items.length) (deep - 1) hPr (by omega) (by omega) (by rw [List.length_append]; have := touch_len (hitB o d) l; omega) g151
    refine AOps.cons rfl rfl (AOp.xcall («as» := [.agg [.sl N.length (N.flatMap eNode), .sl I.length (I.map eI)], .int .i64 ((at_ N p).Right), .agg [.int .i64 o.X, .int .i64 o.Y, .int .i64 o.Z], .agg [.int .i64 d.X, .int .i64 d.Y, .int .i64 d.Z], v147, .int .i64 (deep - 1)]) rfl rfl (rfl) tf_24 hN152 ?_)
    rintro v154 H153 g155
    have g156 := OT.up g150 g155
    refine AOps.cons rfl rfl (AOp.assign (v154) rfl rfl ?_)
    refine AOps.nil ?_
    change AWP _ _ _ _ _ _
    refine AWP.ret ?_
    refine ⟨_, _, Ghost.refl, .inr rfl, _, Res.one rfl rfl, ?_⟩
    have hx : ((out ++ touchT (hitB o d) l) ++ touchT (hitB o d) r) = out ++ touchT (hitB o d) (.node b l r) := by rw [touchT, if_pos (show hitB o d b = true from (by show hitB o d (BT.node b l r).box = true; rw [← hbx_]; exact (hit_of hbk herr b114))), List.append_assoc]
    exact ⟨g156.hm, Own.re g156.o (congrArg List.length hx) (congrArg (fun l : List Int => l.map eI) hx)⟩
 ·
  refine AOps.no rfl rfl rfl rfl rfl rfl rfl (ble_of (nb b114) (by decide)) ?_
  refine AOps.no rfl rfl rfl rfl rfl rfl rfl (ble_of (nb b114) (by decide)) ?_
  refine AOps.cons rfl rfl (AOp.pickT (.bool true) rfl rfl (nb b114) rfl ?_)
  refine AOps.nil ?_
  change AWP _ _ _ _ _ _
  refine AWP.condT rfl rfl ?_
  refine AWP.seq ?_
  refine AWP.region (l := [0, 1]) rfl ?_
  refine AOps.cons rfl rfl (AOp.move (v) rfl rfl ?_)
  refine AOps.cons rfl rfl (AOp.assign (v) rfl rfl ?_)
  refine AOps.nil ?_
  change AWP _ _ _ _ _ _
  refine AWP.ret ?_
  refine ⟨_, _, Ghost.refl, .inr rfl, _, Res.one rfl rfl, ?_⟩
  have hx : out = out ++ touchT (hitB o d) T := by rw [touch_F (by rw [← hbx_]; exact (hit_of hbk herr b114)), List.append_nil]
  exact ⟨m111, Own.re o113 (congrArg List.length hx) (congrArg (fun l : List Int => l.map eI) hx)⟩
end Go.Proofs.B
namespace Go.Proofs.B
open Go Go.AH
set_option maxRecDepth 4000
theorem c_rtouch (N : List NodeT) (I : List Int) (hNl : N.length ≤ 2097152) (hIl : I.length ≤ 1048576) (o d : VT) (hrd : ranV d) (hb0 : badOD o d = false) : ∀ T : BT, TouchOK N I o d T
  | .leaf b its => fun p q deep hP hdp hd1 {B H out v} hol gs => c_rtouch_step N I hNl hIl o d hrd hb0 (.leaf b its) (fun _ _ _ e => by cases e) p q deep hP hdp hd1 hol gs
  | .node b l r => fun p q deep hP hdp hd1 {B H out v} hol gs => c_rtouch_step N I hNl hIl o d hrd hb0 (.node b l r) (fun b' l' r' e => by cases e; exact ⟨c_rtouch N I hNl hIl o d hrd hb0 l, c_rtouch N I hNl hIl o d hrd hb0 r⟩) p q deep hP hdp hd1 hol gs
end Go.Proofs.B
namespace Go.Proofs.B
open Go Go.AH
set_option maxRecDepth 4000
set_option linter.unusedSimpArgs false
set_option linter.unusedVariables false
theorem c_rTouched (bx : List BoxT) (leaf : Int) (h_bx : bx.length ≤ 1048576) (he : (buildR bx leaf).2 = 0) (N : List NodeT) (I : List Int) (hN : N = (buildR bx leaf).1.Nodes) (hI : I = (buildR bx leaf).1.Items) (o d : VT) (hrd : ranV d) : PC Try.prog 13 [.agg [.sl N.length (N.flatMap eNode), .sl I.length (I.map eI)], .agg [.int .i64 o.X, .int .i64 o.Y, .int .i64 o.Z], .agg [.int .i64 d.X, .int .i64 d.Y, .int .i64 d.Z]] (.tup [.sl ((touR bx leaf o d).1).length (((touR bx leaf o d).1).map eI), .int .i64 ((touR bx leaf o d).2)]) := by
 intro H0
 have hf := tou_facts h_bx he hN hI
 refine ACalls.of_body' (n := 36) rfl rfl rfl rfl ?_
 have m0 := Mono.refl H0
 refine AWP.seq ?_
 refine AWP.region (l := [0, 1, 2, 3, 4]) rfl ?_
 refine AOps.cons rfl rfl (AOp.box (.agg [.sl N.length (N.flatMap eNode), .sl I.length (I.map eI)]) rfl rfl rfl ?_)
 intro i1 H2 n3 h4 k5
 have z6 := Mono.free m0 n3
 have m7 := Mono.new m0 n3 k5
 refine AOps.cons rfl rfl (AOp.box (.agg [.int .i64 o.X, .int .i64 o.Y, .int .i64 o.Z]) rfl rfl rfl ?_)
 intro i8 H9 n10 h11 k12
 have e13 := ne_new h4 n10
 have z14 := Mono.free m7 n10
 have h15 := keep k12 (ne_new h4 n10) h4
 have m16 := Mono.new m7 n10 k12
 refine AOps.cons rfl rfl (AOp.box (.agg [.int .i64 d.X, .int .i64 d.Y, .int .i64 d.Z]) rfl rfl rfl ?_)
 intro i17 H18 n19 h20 k21
 have e22 := ne_new h15 n19
 have e23 := ne_new h11 n19
 have z24 := Mono.free m16 n19
 have h25 := keep k21 (ne_new h15 n19) h15
 have h26 := keep k21 (ne_new h11 n19) h11
 have m27 := Mono.new m16 n19 k21
 refine AOps.cons rfl rfl (AOp.assign (.snil) rfl rfl ?_)
 refine AOps.cons rfl rfl (AOp.assign (.int .i64 0) rfl rfl ?_)
 refine AOps.nil ?_
 change AWP _ _ _ _ _ _
 refine AWP.seq ?_
 refine AWP.seq ?_
 refine AWP.frzP 3 h25 z6 rfl m27 fun H28 m29 k30 => ?_
 have h31 := (k30 _ (Ne.symm e13)).trans h26
 have h32 := (k30 _ (Ne.symm e22)).trans h20
 refine AWP.frzP 4 h31 z14 rfl m29 fun H33 m34 k35 => ?_
 have h36 := (k35 _ (Ne.symm e23)).trans h32
 refine AWP.frzP 5 h36 z24 rfl m34 fun H37 m38 k39 => ?_
 refine AWP.region (l := [0, 1, 2, 3]) rfl ?_
 refine AOps.cons rfl rfl (AOp.fieldAddrF rfl rfl fl_29_0 ?_)
 refine AOps.cons rfl rfl (AOp.loadF (.sl N.length (N.flatMap eNode)) rfl rfl ty_26 rfl ?_)
 refine AOps.cons rfl rfl (AOp.len (m := N.length) rfl rfl (.inr (.inl ⟨_, rfl⟩)) u_26 ?_)
 refine AOps.cons rfl rfl (AOp.bin (.bool (decide ((N.length : Int) = 0))) rfl rfl rfl ieq ?_)
 refine AOps.nil ?_
 change AWP _ _ _ _ _ _
 by_cases b40 : (N.length : Int) = 0
 ·
  refine AWP.condT rfl (decide_eq_true b40) ?_
  refine AWP.seq ?_
  refine AWP.region (l := [0, 1]) rfl ?_
  refine AOps.cons rfl rfl (AOp.assign (.snil) rfl rfl ?_)
  refine AOps.cons rfl rfl (AOp.assign (.int .i64 0) rfl rfl ?_)
  refine AOps.nil ?_
  change AWP _ _ _ _ _ _
  refine AWP.ret ?_
  refine Fin.frz 6 (Own.nil H0 H37 1) rfl m38 fun H41 m42 k43 => ?_
  refine ⟨_, _, Ghost.refl, .inr rfl, _, Res.two rfl rfl rfl, ?_, m42⟩
  exact congrArg AV.tup (lc (congrArg (fun l : List Int => AV.sl l.length (l.map eI)) (show ([] : List Int) = (touR bx leaf o d).1 from by rw [tou_nil (by omega)])) (lc (congrArg (AV.int .i64) (show (0 : Int) = (touR bx leaf o d).2 from by rw [tou_nil (by omega)])) rfl))
 ·
  refine AWP.condF rfl (decide_eq_false b40) ?_
  refine AWP.skip ?_
  change AWP _ _ _ _ _ _
  refine AWP.seq ?_
  obtain ⟨hn0, hb0_, hNl, hIl, hroot, hsz, htl⟩ := hf.resolve_left (by omega)
  obtain ⟨hpr, hbk, hbx_, hcn⟩ := touch_at hroot
  have hdt := root_depth (buildR_ok he).1 h_bx
  refine AWP.freshN fun b44 hb45 => ?_
  obtain ⟨i46, e47⟩ : ∃ x, x = b44 + 0 := ⟨_, rfl⟩
  have n48 := hb45 0; rw [← e47] at n48
  obtain ⟨i49, e50⟩ : ∃ x, x = b44 + 1 := ⟨_, rfl⟩
  have n51 := hb45 1; rw [← e50] at n51
  refine AWP.region_strA mixed (by kernel_rfl) [(13, i46, .row 0 ([.int .i64 0, .int .i64 0])), (14, i49, .row 0 ([.int .i64 0, .int .i64 0]))] [0, 1, 2, 3, 4, 5, 6, 7, 8, 9, 10, 11, 12, 13, 14] [(15, some [10, 11, 12]), (16, some [11, 12]), (17, none)] [18] (by kernel_rfl) (by kernel_rfl) ⟨n48, ⟨⟨rfl, (by show i49 ≠ i46; omega)⟩, trivial⟩, ⟨n51, trivial, trivial⟩⟩ ?_
  have z52 := Mono.free m38 n48
  have z53 := Mono.free m38 n51
  have e54 : i46 ≠ i49 := by omega
  refine STRN.op rfl rfl rfl (.inl ⟨rfl, fun H1 f' H' hf hN hM => AOp.loadF (.agg [.int .i64 o.X, .int .i64 o.Y, .int .i64 o.Z]) rfl ((hf 4 rfl).trans rfl) ty_24 rfl ⟨rfl, hN⟩⟩) ?_
  refine STRN.op rfl rfl rfl (.inl ⟨rfl, fun H1 f' H' hf hN hM => AOp.loadF (.agg [.int .i64 d.X, .int .i64 d.Y, .int .i64 d.Z]) rfl ((hf 5 rfl).trans rfl) ty_24 rfl ⟨rfl, hN⟩⟩) ?_
  refine STRN.op rfl rfl rfl (.inl ⟨rfl, fun H1 f' H' hf hN hM => AOp.fieldAddrF rfl ((hf 3 rfl).trans rfl) fl_29_0 ⟨rfl, hN⟩⟩) ?_
  refine STRN.op rfl rfl rfl (.inl ⟨rfl, fun H1 f' H' hf hN hM => AOp.loadF (.sl N.length (N.flatMap eNode)) rfl ((hf 19 rfl).trans rfl) ty_26 rfl ⟨rfl, hN⟩⟩) ?_
  refine STRN.op rfl rfl rfl (.inl ⟨rfl, fun H1 f' H' hf hN hM => AOp.indexAddrS rfl ((hf 20 rfl).trans rfl) rfl sl_26 (by omega) (by omega) ⟨rfl, hN⟩⟩) ?_
  refine STRN.op rfl rfl rfl (.inl ⟨rfl, fun H1 f' H' hf hN hM => AOp.fieldAddrF rfl ((hf 21 rfl).trans rfl) fl_42_0 ⟨rfl, hN⟩⟩) ?_
  refine STRN.op rfl rfl rfl (.inl ⟨rfl, fun H1 f' H' hf hN hM => AOp.loadF (.agg [.int .i64 ((((at_ N 0).Box).Lo).X), .int .i64 ((((at_ N 0).Box).Lo).Y), .int .i64 ((((at_ N 0).Box).Lo).Z), .int .i64 ((((at_ N 0).Box).Hi).X), .int .i64 ((((at_ N 0).Box).Hi).Y), .int .i64 ((((at_ N 0).Box).Hi).Z)]) rfl ((hf 22 rfl).trans rfl) ty_37 (ldS eNode_len (by omega) (by omega) rfl (by decide)) ⟨rfl, hN⟩⟩) ?_
  refine STRN.op rfl rfl rfl (.inl ⟨rfl, fun H1 f' H' hf hN hM => AOp.pcall («as» := [.agg [.int .i64 o.X, .int .i64 o.Y, .int .i64 o.Z], .agg [.int .i64 d.X, .int .i64 d.Y, .int .i64 d.Z], .agg [.int .i64 ((((at_ N 0).Box).Lo).X), .int .i64 ((((at_ N 0).Box).Lo).Y), .int .i64 ((((at_ N 0).Box).Lo).Z), .int .i64 ((((at_ N 0).Box).Hi).X), .int .i64 ((((at_ N 0).Box).Hi).Y), .int .i64 ((((at_ N 0).Box).Hi).Z)]]) rfl rfl (lapp (lcons ((hf 17 rfl).trans rfl) (lcons ((hf 18 rfl).trans rfl) (lcons ((hf 23 rfl).trans rfl) rfl))) rfl) tf_23 (c_rRange o d ((at_ N 0).Box) hrd) fun H2 m2 => ⟨rfl, hN.trans m2⟩⟩) ?_
  refine STRN.op rfl rfl rfl (.inl ⟨rfl, fun H1 f' H' hf hN hM => AOp.move (.tup [.agg [.int .i64 (((rangeF o d ((at_ N 0).Box)).1).N), .int .i64 (((rangeF o d ((at_ N 0).Box)).1).D)], .agg [.int .i64 (((rangeF o d ((at_ N 0).Box)).2.1).N), .int .i64 (((rangeF o d ((at_ N 0).Box)).2.1).D)], .bool ((rangeF o d ((at_ N 0).Box)).2.2.1), .int .i64 ((rangeF o d ((at_ N 0).Box)).2.2.2)]) rfl ((hf 24 rfl).trans rfl) ⟨rfl, hN⟩⟩) ?_
  refine STRN.op rfl rfl rfl (.inl ⟨rfl, fun H1 f' H' hf hN hM => AOp.extract (.agg [.int .i64 (((rangeF o d ((at_ N 0).Box)).1).N), .int .i64 (((rangeF o d ((at_ N 0).Box)).1).D)]) rfl ((hf 16 rfl).trans rfl) rfl ⟨rfl, hN⟩⟩) ?_
  refine STRN.op rfl rfl rfl (.inl ⟨rfl, fun H1 f' H' hf hN hM => AOp.extract (.agg [.int .i64 (((rangeF o d ((at_ N 0).Box)).2.1).N), .int .i64 (((rangeF o d ((at_ N 0).Box)).2.1).D)]) rfl ((hf 16 rfl).trans rfl) rfl ⟨rfl, hN⟩⟩) ?_
  refine STRN.op rfl rfl rfl (.inl ⟨rfl, fun H1 f' H' hf hN hM => AOp.extract (.bool ((rangeF o d ((at_ N 0).Box)).2.2.1)) rfl ((hf 16 rfl).trans rfl) rfl ⟨rfl, hN⟩⟩) ?_
  refine STRN.op rfl rfl rfl (.inl ⟨rfl, fun H1 f' H' hf hN hM => AOp.extract (.int .i64 ((rangeF o d ((at_ N 0).Box)).2.2.2)) rfl ((hf 16 rfl).trans rfl) rfl ⟨rfl, hN⟩⟩) ?_
  refine STRN.alloc (id := i46) (Z := [.int .i64 0, .int .i64 0]) (.head _) rfl rfl rfl rfl rfl tz_46 ?_
  refine STRN.alloc (id := i49) (Z := [.int .i64 0, .int .i64 0]) (.tail _ (.head _)) rfl rfl rfl rfl rfl tz_46 ?_
  refine STRN.done fun H55 m56 hu57 => ?_
  have m58 := m38.trans m56
  have h59 : H55 i46 = some (.row 0 ([.int .i64 0, .int .i64 0])) := hu57 _ (.head _)
  have h60 : H55 i49 = some (.row 0 ([.int .i64 0, .int .i64 0])) := hu57 _ (.tail _ (.head _))
  refine STR.st rfl rfl rfl fun f61 H62 hf63 m64 => ?_
  have h65 := m64 _ _ h59
  have h66 := m64 _ _ h60
  have m67 := m58.trans m64
  refine AOp.store' (cells' := [.int .i64 (((rangeF o d ((at_ N 0).Box)).1).N), .int .i64 (((rangeF o d ((at_ N 0).Box)).1).D)]) (.agg [.int .i64 (((rangeF o d ((at_ N 0).Box)).1).N), .int .i64 (((rangeF o d ((at_ N 0).Box)).1).D)]) ((hf63 8 rfl).trans rfl) ((hf63 25 rfl).trans rfl) ts_46 h65 rfl rfl rfl rfl ?_
  intro H68 h69 k70
  have h72 := keep k70 (Ne.symm e54) h66
  have m73 := Mono.set m67 z52 k70
  refine ⟨rfl, .inr (RevR.skip rfl (RevR.skip rfl (RevR.cons rfl (.inl ⟨rfl, fun H1 f' H' hf hN hM => AOp.extract (.int .i64 ((rangeF o d ((at_ N 0).Box)).2.2.2)) rfl ((hf 16 rfl).trans rfl) rfl ⟨rfl, hN⟩⟩) (RevR.cons rfl (.inl ⟨rfl, fun H1 f' H' hf hN hM => AOp.extract (.bool ((rangeF o d ((at_ N 0).Box)).2.2.1)) rfl ((hf 16 rfl).trans rfl) rfl ⟨rfl, hN⟩⟩) (RevR.cons rfl (.inl ⟨rfl, fun H1 f' H' hf hN hM => AOp.extract (.agg [.int .i64 (((rangeF o d ((at_ N 0).Box)).2.1).N), .int .i64 (((rangeF o d ((at_ N 0).Box)).2.1).D)]) rfl ((hf 16 rfl).trans rfl) rfl ⟨rfl, hN⟩⟩) (RevR.skip rfl (RevR.skip rfl (RevR.skip rfl (RevR.skip rfl (RevR.skip rfl (RevR.skip rfl (RevR.skip rfl (RevR.skip rfl (RevR.skip rfl (RevR.skip rfl RevR.nil))))))))))))))), ?_⟩
  refine STR.st rfl rfl rfl fun f74 H75 hf76 m77 => ?_
  have h78 := m77 _ _ h72
  have h79 := m77 _ _ h69
  have m80 := m73.trans m77
  refine AOp.store' (cells' := [.int .i64 (((rangeF o d ((at_ N 0).Box)).2.1).N), .int .i64 (((rangeF o d ((at_ N 0).Box)).2.1).D)]) (.agg [.int .i64 (((rangeF o d ((at_ N 0).Box)).2.1).N), .int .i64 (((rangeF o d ((at_ N 0).Box)).2.1).D)]) ((hf76 9 rfl).trans rfl) ((hf76 26 rfl).trans rfl) ts_46 h78 rfl rfl rfl rfl ?_
  intro H81 h82 k83
  have h85 := keep k83 e54 h79
  have m86 := Mono.set m80 z53 k83
  refine ⟨rfl, .inr (RevR.skip rfl (RevR.skip rfl (RevR.skip rfl (RevR.cons rfl (.inl ⟨rfl, fun H1 f' H' hf hN hM => AOp.extract (.int .i64 ((rangeF o d ((at_ N 0).Box)).2.2.2)) rfl ((hf 16 rfl).trans rfl) rfl ⟨rfl, hN⟩⟩) (RevR.cons rfl (.inl ⟨rfl, fun H1 f' H' hf hN hM => AOp.extract (.bool ((rangeF o d ((at_ N 0).Box)).2.2.1)) rfl ((hf 16 rfl).trans rfl) rfl ⟨rfl, hN⟩⟩) (RevR.skip rfl (RevR.skip rfl (RevR.skip rfl (RevR.skip rfl (RevR.skip rfl (RevR.skip rfl (RevR.skip rfl (RevR.skip rfl (RevR.skip rfl (RevR.skip rfl (RevR.skip rfl RevR.nil)))))))))))))))), ?_⟩
  refine STR.op rfl rfl (.inl ⟨rfl, fun H1 f' H' hf hN hM => AOp.assign (.bool ((rangeF o d ((at_ N 0).Box)).2.2.1)) rfl ((hf 27 rfl).trans rfl) ⟨rfl, hN⟩⟩) ?_
  refine STR.done fun H87 m88 => ?_
  have h89 := m88 _ _ h85
  have h90 := m88 _ _ h82
  have m91 := m86.trans m88
  refine AOps.cons rfl rfl (AOp.assign (.int .i64 ((rangeF o d ((at_ N 0).Box)).2.2.2)) rfl rfl ?_)
  refine AOps.nil ?_
  change AWP _ _ _ _ _ _
  refine AWP.seq ?_
  refine AWP.seq ?_
  refine AWP.frzP 8 h89 z52 rfl m91 fun H92 m93 k94 => ?_
  have h95 := (k94 _ (Ne.symm e54)).trans h90
  refine AWP.frzP 9 h95 z53 rfl m93 fun H96 m97 k98 => ?_
  refine AWP.region (l := [0, 1]) rfl ?_
  refine AOps.cons rfl rfl (AOp.move (.int .i64 ((rangeF o d ((at_ N 0).Box)).2.2.2)) rfl rfl ?_)
  refine AOps.cons rfl rfl (AOp.bin (.bool (!decide ((rangeF o d ((at_ N 0).Box)).2.2.2 = 0))) rfl rfl rfl ine ?_)
  refine AOps.nil ?_
  change AWP _ _ _ _ _ _
  by_cases b99 : (rangeF o d ((at_ N 0).Box)).2.2.2 = 0
  ·
   refine AWP.condF rfl (nb (decide_eq_true b99)) ?_
   refine AWP.skip ?_
   change AWP _ _ _ _ _ _
   refine AWP.seq ?_
   have hb0 := err_F hbk b99
   refine AWP.region (l := [0, 1, 2, 3, 4, 5]) rfl ?_
   refine AOps.cons rfl rfl (AOp.loadF (.agg [.sl N.length (N.flatMap eNode), .sl I.length (I.map eI)]) rfl rfl ty_29 rfl ?_)
   refine AOps.cons rfl rfl (AOp.loadF (.agg [.int .i64 o.X, .int .i64 o.Y, .int .i64 o.Z]) rfl rfl ty_24 rfl ?_)
   refine AOps.cons rfl rfl (AOp.loadF (.agg [.int .i64 d.X, .int .i64 d.Y, .int .i64 d.Z]) rfl rfl ty_24 rfl ?_)
   have g100 : OT H0 ([] : List Int) .snil H96 := ⟨m97, (Own.nil H0 H96 1)⟩
   have g101 := OT.down g100
   have hN102 := c_rtouch N I (by omega) (by omega) o d hrd hb0 (rootT bx leaf) 0 0 70 hroot (by omega) (by omega) (by rw [root_len]; simp only [List.length_nil]; omega) g101
   refine AOps.cons rfl rfl (AOp.xcall («as» := [.agg [.sl N.length (N.flatMap eNode), .sl I.length (I.map eI)], .int .i64 0, .agg [.int .i64 o.X, .int .i64 o.Y, .int .i64 o.Z], .agg [.int .i64 d.X, .int .i64 d.Y, .int .i64 d.Z], .snil, .int .i64 70]) rfl rfl (rfl) tf_24 hN102 ?_)
   rintro v104 H103 g105
   have g106 := OT.up g100 g105
   refine AOps.cons rfl rfl (AOp.assign (v104) rfl rfl ?_)
   refine AOps.cons rfl rfl (AOp.assign (.int .i64 0) rfl rfl ?_)
   refine AOps.nil ?_
   change AWP _ _ _ _ _ _
   refine AWP.ret ?_
   refine Fin.frz 6 g106.o rfl g106.hm fun H107 m108 k109 => ?_
   refine ⟨_, _, Ghost.refl, .inr rfl, _, Res.two rfl rfl rfl, ?_, m108⟩
   exact congrArg AV.tup (lc (congrArg (fun l : List Int => AV.sl l.length (l.map eI)) (show ((([] : List Int) ++ touchT (hitB o d) (rootT bx leaf)) : List Int) = (touR bx leaf o d).1 from by rw [tou_T hb0_ hb0] <;> rfl)) (lc (congrArg (AV.int .i64) (show (0 : Int) = (touR bx leaf o d).2 from by rw [tou_T hb0_ hb0] <;> rfl)) rfl))
  ·
   refine AWP.condT rfl (nb (decide_eq_false b99)) ?_
   refine AWP.seq ?_
   refine AWP.region (l := [0, 1, 2]) rfl ?_
   refine AOps.cons rfl rfl (AOp.move (.int .i64 ((rangeF o d ((at_ N 0).Box)).2.2.2)) rfl rfl ?_)
   refine AOps.cons rfl rfl (AOp.assign (.snil) rfl rfl ?_)
   refine AOps.cons rfl rfl (AOp.assign (.int .i64 ((rangeF o d ((at_ N 0).Box)).2.2.2)) rfl rfl ?_)
   refine AOps.nil ?_
   change AWP _ _ _ _ _ _
   refine AWP.ret ?_
   refine Fin.frz 6 (Own.nil H0 H96 1) rfl m97 fun H110 m111 k112 => ?_
   refine ⟨_, _, Ghost.refl, .inr rfl, _, Res.two rfl rfl rfl, ?_, m111⟩
   exact congrArg AV.tup (lc (congrArg (fun l : List Int => AV.sl l.length (l.map eI)) (show ([] : List Int) = (touR bx leaf o d).1 from by rw [tou_bad hb0_ (err_T hbk b99).1] <;> exact (err_T hbk b99).2)) (lc (congrArg (AV.int .i64) (show ((rangeF o d ((at_ N 0).Box)).2.2.2 : Int) = (touR bx leaf o d).2 from by rw [tou_bad hb0_ (err_T hbk b99).1] <;> exact (err_T hbk b99).2)) rfl))
theorem c_rSame (N : List NodeT) (I : List Int) (hNr : ∀ x ∈ N, ranN x) (hNl : N.length ≤ 2097152) (hIl : I.length ≤ 1048576) : PC Try.prog 11 [.agg [.sl N.length (N.flatMap eNode), .sl I.length (I.map eI)], .agg [.sl N.length (N.flatMap eNode), .sl I.length (I.map eI)]] (.bool true) := by
 intro H0
 refine ACalls.of_body' (n := 39) rfl rfl rfl rfl ?_
 have m0 := Mono.refl H0
 refine AWP.seq ?_
 refine AWP.region (l := [0, 1, 2]) rfl ?_
 refine AOps.cons rfl rfl (AOp.box (.agg [.sl N.length (N.flatMap eNode), .sl I.length (I.map eI)]) rfl rfl rfl ?_)
 intro i1 H2 n3 h4 k5
 have z6 := Mono.free m0 n3
 have m7 := Mono.new m0 n3 k5
 refine AOps.cons rfl rfl (AOp.box (.agg [.sl N.length (N.flatMap eNode), .sl I.length (I.map eI)]) rfl rfl rfl ?_)
 intro i8 H9 n10 h11 k12
 have e13 := ne_new h4 n10
 have z14 := Mono.free m7 n10
 have h15 := keep k12 (ne_new h4 n10) h4
 have m16 := Mono.new m7 n10 k12
 refine AOps.cons rfl rfl (AOp.assign (.bool false) rfl rfl ?_)
 refine AOps.nil ?_
 change AWP _ _ _ _ _ _
 refine AWP.seq ?_
 refine AWP.seq ?_
 refine AWP.frzP 2 h15 z6 rfl m16 fun H17 m18 k19 => ?_
 have h20 := (k19 _ (Ne.symm e13)).trans h11
 refine AWP.frzP 3 h20 z14 rfl m18 fun H21 m22 k23 => ?_
 refine AWP.region (l := [0, 1, 2, 3, 4, 5, 6, 7, 8, 9, 10, 11, 12, 13, 14]) rfl ?_
 refine AOps.cons rfl rfl (AOp.fieldAddrF rfl rfl fl_29_0 ?_)
 refine AOps.cons rfl rfl (AOp.loadF (.sl N.length (N.flatMap eNode)) rfl rfl ty_26 rfl ?_)
 refine AOps.cons rfl rfl (AOp.len (m := N.length) rfl rfl (.inr (.inl ⟨_, rfl⟩)) u_26 ?_)
 refine AOps.cons rfl rfl (AOp.fieldAddrF rfl rfl fl_29_0 ?_)
 refine AOps.cons rfl rfl (AOp.loadF (.sl N.length (N.flatMap eNode)) rfl rfl ty_26 rfl ?_)
 refine AOps.cons rfl rfl (AOp.len (m := N.length) rfl rfl (.inr (.inl ⟨_, rfl⟩)) u_26 ?_)
 refine AOps.cons rfl rfl (AOp.bin (.bool (!decide ((N.length : Int) = (N.length : Int)))) rfl rfl rfl ine ?_)
 refine AOps.cons rfl rfl (AOp.move (.bool (!decide ((N.length : Int) = (N.length : Int)))) rfl rfl ?_)
 refine AOps.yes rfl rfl rfl rfl rfl rfl rfl (nb (decide_eq_true rfl)) (AOp.fieldAddrF rfl rfl fl_29_1 ?_)
 refine AOps.yes rfl rfl rfl rfl rfl rfl rfl (nb (decide_eq_true rfl)) (AOp.loadF (.sl I.length (I.map eI)) rfl rfl ty_27 rfl ?_)
 refine AOps.yes rfl rfl rfl rfl rfl rfl rfl (nb (decide_eq_true rfl)) (AOp.fieldAddrF rfl rfl fl_29_1 ?_)
 refine AOps.yes rfl rfl rfl rfl rfl rfl rfl (nb (decide_eq_true rfl)) (AOp.loadF (.sl I.length (I.map eI)) rfl rfl ty_27 rfl ?_)
 refine AOps.yes rfl rfl rfl rfl rfl rfl rfl (nb (decide_eq_true rfl)) (AOp.pcall («as» := [.sl I.length (I.map eI), .sl I.length (I.map eI)]) rfl rfl (rfl) tf_14 (c_SameInts _ _ (by first | omega | assumption | simp) (by first | omega | assumption | simp)) ?_)
 intro H24 m25
 have m26 := m22.trans m25
 refine AOps.yes rfl rfl rfl rfl rfl rfl rfl (nb (decide_eq_true rfl)) (AOp.not rfl rfl ?_)
 refine AOps.cons rfl rfl (AOp.pickF (.bool (!(decide (I = I)))) rfl rfl (nb (decide_eq_true rfl)) rfl ?_)
 refine AOps.nil ?_
 change AWP _ _ _ _ _ _
 refine AWP.condF rfl (nb (decide_eq_true rfl)) ?_
 refine AWP.skip ?_
 change AWP _ _ _ _ _ _
 refine AWP.seq ?_
 refine AWP.seq ?_
 refine AWP.region (l := [0]) rfl ?_
 refine AOps.cons rfl rfl (AOp.assign (.int .i64 0) rfl rfl ?_)
 refine AOps.nil ?_
 change AWP _ _ _ _ _ _
 refine AWP.block ?_
 refine AWP.loop (fun q27 fq Hq => ∃ (i : Int), q27 = (((N.length : Int) : Int) - i).toNat ∧ fq 5 = .int .i64 i ∧ fq 2 = .fptr [.sl N.length (N.flatMap eNode), .sl I.length (I.map eI)] 0 ∧ fq 3 = .fptr [.sl N.length (N.flatMap eNode), .sl I.length (I.map eI)] 0 ∧ Mono H0 Hq ∧ (0 ≤ i) ∧ (i ≤ (N.length : Int))) (k := (((N.length : Int) : Int) - 0).toNat) ?_ ?_
 ·
  exact ⟨0, rfl, rfl, rfl, rfl, m26, by omega, by omega⟩
 ·
  rintro _ f29 H28 ⟨i, rfl, s30, s31, s32, m33, hi0, hi1⟩
  refine AWP.seq ?_
  refine AWP.seq ?_
  refine AWP.region (l := [0, 1, 2, 3, 4]) rfl ?_
  refine AOps.cons rfl rfl (AOp.move (.int .i64 i) rfl s30 ?_)
  refine AOps.cons rfl rfl (AOp.fieldAddrF rfl s31 fl_29_0 ?_)
  refine AOps.cons rfl rfl (AOp.loadF (.sl N.length (N.flatMap eNode)) rfl rfl ty_26 rfl ?_)
  refine AOps.cons rfl rfl (AOp.len (m := N.length) rfl rfl (.inr (.inl ⟨_, rfl⟩)) u_26 ?_)
  refine AOps.cons rfl rfl (AOp.bin (.bool (decide (i < (N.length : Int)))) rfl rfl rfl rfl ?_)
  refine AOps.nil ?_
  change AWP _ _ _ _ _ _
  by_cases b34 : i < (N.length : Int)
  ·
   refine AWP.condT rfl (decide_eq_true b34) ?_
   refine AWP.skip ?_
   change AWP _ _ _ _ _ _
   refine AWP.seq ?_
   refine AWP.block ?_
   refine AWP.seq ?_
   refine AWP.region_quiet mixed (by kernel_rfl) 11 [] rfl (by kernel_rfl) (Mono H28) (Mono.refl _) ?_
   refine QE.op rfl rfl (.inl ⟨rfl, fun f' H' hf hM => AOp.fieldAddrF rfl ((hf 2 rfl).trans s31) fl_29_0 ⟨rfl, hM⟩⟩) ?_
   refine QE.op rfl rfl (.inl ⟨rfl, fun f' H' hf hM => AOp.loadF (.sl N.length (N.flatMap eNode)) rfl ((hf 28 rfl).trans rfl) ty_26 rfl ⟨rfl, hM⟩⟩) ?_
   refine QE.op rfl rfl (.inl ⟨rfl, fun f' H' hf hM => AOp.move (.int .i64 i) rfl ((hf 5 rfl).trans s30) ⟨rfl, hM⟩⟩) ?_
   refine QE.op rfl rfl (.inl ⟨rfl, fun f' H' hf hM => AOp.indexAddrS rfl ((hf 29 rfl).trans rfl) ((hf 30 rfl).trans rfl) sl_26 (by omega) (by omega) ⟨rfl, hM⟩⟩) ?_
   refine QE.op rfl rfl (.inl ⟨rfl, fun f' H' hf hM => AOp.loadF (.agg [.int .i64 ((((at_ N i).Box).Lo).X), .int .i64 ((((at_ N i).Box).Lo).Y), .int .i64 ((((at_ N i).Box).Lo).Z), .int .i64 ((((at_ N i).Box).Hi).X), .int .i64 ((((at_ N i).Box).Hi).Y), .int .i64 ((((at_ N i).Box).Hi).Z), .int .i64 ((at_ N i).Left), .int .i64 ((at_ N i).Right), .int .i64 ((at_ N i).First), .int .i64 ((at_ N i).Count)]) rfl ((hf 31 rfl).trans rfl) ty_42 (ldM eNode_len (by omega) (by omega)) ⟨rfl, hM⟩⟩) ?_
   refine QE.op rfl rfl (.inl ⟨rfl, fun f' H' hf hM => AOp.fieldAddrF rfl ((hf 3 rfl).trans s32) fl_29_0 ⟨rfl, hM⟩⟩) ?_
   refine QE.op rfl rfl (.inl ⟨rfl, fun f' H' hf hM => AOp.loadF (.sl N.length (N.flatMap eNode)) rfl ((hf 33 rfl).trans rfl) ty_26 rfl ⟨rfl, hM⟩⟩) ?_
   refine QE.op rfl rfl (.inl ⟨rfl, fun f' H' hf hM => AOp.move (.int .i64 i) rfl ((hf 5 rfl).trans s30) ⟨rfl, hM⟩⟩) ?_
   refine QE.op rfl rfl (.inl ⟨rfl, fun f' H' hf hM => AOp.indexAddrS rfl ((hf 34 rfl).trans rfl) ((hf 35 rfl).trans rfl) sl_26 (by omega) (by omega) ⟨rfl, hM⟩⟩) ?_
   refine QE.op rfl rfl (.inl ⟨rfl, fun f' H' hf hM => AOp.loadF (.agg [.int .i64 ((((at_ N i).Box).Lo).X), .int .i64 ((((at_ N i).Box).Lo).Y), .int .i64 ((((at_ N i).Box).Lo).Z), .int .i64 ((((at_ N i).Box).Hi).X), .int .i64 ((((at_ N i).Box).Hi).Y), .int .i64 ((((at_ N i).Box).Hi).Z), .int .i64 ((at_ N i).Left), .int .i64 ((at_ N i).Right), .int .i64 ((at_ N i).First), .int .i64 ((at_ N i).Count)]) rfl ((hf 36 rfl).trans rfl) ty_42 (ldM eNode_len (by omega) (by omega)) ⟨rfl, hM⟩⟩) ?_
   refine QE.op rfl rfl (.inl ⟨rfl, fun f' H' hf hM => AOp.neAggD rfl ((hf 32 rfl).trans rfl) ((hf 37 rfl).trans rfl) teq42 (kokN (v := (at_ N i)) (hNr _ (at_mem_l (by omega) (by omega)))) (kokN (v := (at_ N i)) (hNr _ (at_mem_l (by omega) (by omega)))) (eNode_iff (at_ N i) (at_ N i)) ⟨rfl, hM⟩⟩) ?_
   refine QE.done fun H35 m36 => ?_
   have m37 := m33.trans m36
   refine AOps.nil ?_
   change AWP _ _ _ _ _ _
   refine AWP.condF rfl (nb (decide_eq_true rfl)) ?_
   refine AWP.skip ?_
   change AWP _ _ _ _ _ _
   refine AWP.region (l := [0, 1, 2]) rfl ?_
   refine AOps.cons rfl rfl (AOp.move (.int .i64 i) rfl s30 ?_)
   refine AOps.cons rfl rfl (AOp.bin (.int .i64 (i + 1)) rfl rfl rfl (iadd (by omega)) ?_)
   refine AOps.cons rfl rfl (AOp.assign (.int .i64 (i + 1)) rfl rfl ?_)
   refine AOps.nil ?_
   exact ⟨_, by omega, i + 1, rfl, rfl, s31, s32, m37, by omega, by omega⟩
  ·
   refine AWP.condF rfl (decide_eq_false b34) ?_
   refine AWP.exit ?_
   change AWP _ _ _ _ _ _
   refine AWP.seq ?_
   refine AWP.region (l := [0]) rfl ?_
   refine AOps.cons rfl rfl (AOp.assign (.bool true) rfl rfl ?_)
   refine AOps.nil ?_
   change AWP _ _ _ _ _ _
   refine AWP.ret ?_
   refine ⟨_, _, Ghost.refl, .inr rfl, _, Res.one rfl rfl, ?_, m33⟩
   exact rfl
theorem c_Touched0 (o d : VT) : PC Try.prog 12 [.agg [.sl ([] : List NodeT).length (([] : List NodeT).flatMap eNode), .sl ([] : List Int).length (([] : List Int).map eI)], .agg [.int .i64 o.X, .int .i64 o.Y, .int .i64 o.Z], .agg [.int .i64 d.X, .int .i64 d.Y, .int .i64 d.Z]] (.tup [.sl ([] : List Int).length (([] : List Int).map eI), .int .i64 0]) := by
 intro H0
 refine ACalls.of_body' (n := 79) rfl rfl rfl rfl ?_
 have m0 := Mono.refl H0
 refine AWP.seq ?_
 refine AWP.region (l := [0, 1, 2, 3, 4]) rfl ?_
 refine AOps.cons rfl rfl (AOp.box (.agg [.sl ([] : List NodeT).length (([] : List NodeT).flatMap eNode), .sl ([] : List Int).length (([] : List Int).map eI)]) rfl rfl rfl ?_)
 intro i1 H2 n3 h4 k5
 have z6 := Mono.free m0 n3
 have m7 := Mono.new m0 n3 k5
 refine AOps.cons rfl rfl (AOp.box (.agg [.int .i64 o.X, .int .i64 o.Y, .int .i64 o.Z]) rfl rfl rfl ?_)
 intro i8 H9 n10 h11 k12
 have e13 := ne_new h4 n10
 have z14 := Mono.free m7 n10
 have h15 := keep k12 (ne_new h4 n10) h4
 have m16 := Mono.new m7 n10 k12
 refine AOps.cons rfl rfl (AOp.box (.agg [.int .i64 d.X, .int .i64 d.Y, .int .i64 d.Z]) rfl rfl rfl ?_)
 intro i17 H18 n19 h20 k21
 have e22 := ne_new h15 n19
 have e23 := ne_new h11 n19
 have z24 := Mono.free m16 n19
 have h25 := keep k21 (ne_new h15 n19) h15
 have h26 := keep k21 (ne_new h11 n19) h11
 have m27 := Mono.new m16 n19 k21
 refine AOps.cons rfl rfl (AOp.assign (.snil) rfl rfl ?_)
 refine AOps.cons rfl rfl (AOp.assign (.int .i64 0) rfl rfl ?_)
 refine AOps.nil ?_
 change AWP _ _ _ _ _ _
 refine AWP.seq ?_
 refine AWP.seq ?_
 refine AWP.frzP 3 h25 z6 rfl m27 fun H28 m29 k30 => ?_
 have h31 := (k30 _ (Ne.symm e13)).trans h26
 have h32 := (k30 _ (Ne.symm e22)).trans h20
 refine AWP.frzP 4 h31 z14 rfl m29 fun H33 m34 k35 => ?_
 have h36 := (k35 _ (Ne.symm e23)).trans h32
 refine AWP.frzP 5 h36 z24 rfl m34 fun H37 m38 k39 => ?_
 refine AWP.region (l := [0, 1, 2, 3]) rfl ?_
 refine AOps.cons rfl rfl (AOp.fieldAddrF rfl rfl fl_29_0 ?_)
 refine AOps.cons rfl rfl (AOp.loadF (.sl ([] : List NodeT).length (([] : List NodeT).flatMap eNode)) rfl rfl ty_26 rfl ?_)
 refine AOps.cons rfl rfl (AOp.len (m := ([] : List NodeT).length) rfl rfl (.inr (.inl ⟨_, rfl⟩)) u_26 ?_)
 refine AOps.cons rfl rfl (AOp.bin (.bool (decide (((([] : List NodeT).length) : Int) = 0))) rfl rfl rfl ieq ?_)
 refine AOps.nil ?_
 change AWP _ _ _ _ _ _
 refine AWP.condT rfl (decide_eq_true (rfl)) ?_
 refine AWP.seq ?_
 refine AWP.region (l := [0, 1]) rfl ?_
 refine AOps.cons rfl rfl (AOp.assign (.snil) rfl rfl ?_)
 refine AOps.cons rfl rfl (AOp.assign (.int .i64 0) rfl rfl ?_)
 refine AOps.nil ?_
 change AWP _ _ _ _ _ _
 refine AWP.ret ?_
 refine Fin.frz 6 (Own.nil H0 H37 1) rfl m38 fun H40 m41 k42 => ?_
 refine ⟨_, _, Ghost.refl, .inr rfl, _, Res.two rfl rfl rfl, ?_, m41⟩
 exact congrArg AV.tup (lc (congrArg (fun l : List Int => AV.sl l.length (l.map eI)) (show ([] : List Int) = ([] : List Int) from by first | rfl | omega | simp_all)) (lc rfl rfl))
theorem c_rTouched0 (o d : VT) : PC Try.prog 13 [.agg [.sl ([] : List NodeT).length (([] : List NodeT).flatMap eNode), .sl ([] : List Int).length (([] : List Int).map eI)], .agg [.int .i64 o.X, .int .i64 o.Y, .int .i64 o.Z], .agg [.int .i64 d.X, .int .i64 d.Y, .int .i64 d.Z]] (.tup [.sl ([] : List Int).length (([] : List Int).map eI), .int .i64 0]) := by
 intro H0
 refine ACalls.of_body' (n := 36) rfl rfl rfl rfl ?_
 have m0 := Mono.refl H0
 refine AWP.seq ?_
 refine AWP.region (l := [0, 1, 2, 3, 4]) rfl ?_
 refine AOps.cons rfl rfl (AOp.box (.agg [.sl ([] : List NodeT).length (([] : List NodeT).flatMap eNode), .sl ([] : List Int).length (([] : List Int).map eI)]) rfl rfl rfl ?_)
 intro i1 H2 n3 h4 k5
 have z6 := Mono.free m0 n3
 have m7 := Mono.new m0 n3 k5
 refine AOps.cons rfl rfl (AOp.box (.agg [.int .i64 o.X, .int .i64 o.Y, .int .i64 o.Z]) rfl rfl rfl ?_)
 intro i8 H9 n10 h11 k12
 have e13 := ne_new h4 n10
 have z14 := Mono.free m7 n10
 have h15 := keep k12 (ne_new h4 n10) h4
 have m16 := Mono.new m7 n10 k12
 refine AOps.cons rfl rfl (AOp.box (.agg [.int .i64 d.X, .int .i64 d.Y, .int .i64 d.Z]) rfl rfl rfl ?_)
 intro i17 H18 n19 h20 k21
 have e22 := ne_new h15 n19
 have e23 := ne_new h11 n19
 have z24 := Mono.free m16 n19
 have h25 := keep k21 (ne_new h15 n19) h15
 have h26 := keep k21 (ne_new h11 n19) h11
 have m27 := Mono.new m16 n19 k21
 refine AOps.cons rfl rfl (AOp.assign (.snil) rfl rfl ?_)
 refine AOps.cons rfl rfl (AOp.assign (.int .i64 0) rfl rfl ?_)
 refine AOps.nil ?_
 change AWP _ _ _ _ _ _
 refine AWP.seq ?_
 refine AWP.seq ?_
 refine AWP.frzP 3 h25 z6 rfl m27 fun H28 m29 k30 => ?_
 have h31 := (k30 _ (Ne.symm e13)).trans h26
 have h32 := (k30 _ (Ne.symm e22)).trans h20
 refine AWP.frzP 4 h31 z14 rfl m29 fun H33 m34 k35 => ?_
 have h36 := (k35 _ (Ne.symm e23)).trans h32
 refine AWP.frzP 5 h36 z24 rfl m34 fun H37 m38 k39 => ?_
 refine AWP.region (l := [0, 1, 2, 3]) rfl ?_
 refine AOps.cons rfl rfl (AOp.fieldAddrF rfl rfl fl_29_0 ?_)
 refine AOps.cons rfl rfl (AOp.loadF (.sl ([] : List NodeT).length (([] : List NodeT).flatMap eNode)) rfl rfl ty_26 rfl ?_)
 refine AOps.cons rfl rfl (AOp.len (m := ([] : List NodeT).length) rfl rfl (.inr (.inl ⟨_, rfl⟩)) u_26 ?_)
 refine AOps.cons rfl rfl (AOp.bin (.bool (decide (((([] : List NodeT).length) : Int) = 0))) rfl rfl rfl ieq ?_)
 refine AOps.nil ?_
 change AWP _ _ _ _ _ _
 refine AWP.condT rfl (decide_eq_true (rfl)) ?_
 refine AWP.seq ?_
 refine AWP.region (l := [0, 1]) rfl ?_
 refine AOps.cons rfl rfl (AOp.assign (.snil) rfl rfl ?_)
 refine AOps.cons rfl rfl (AOp.assign (.int .i64 0) rfl rfl ?_)
 refine AOps.nil ?_
 change AWP _ _ _ _ _ _
 refine AWP.ret ?_
 refine Fin.frz 6 (Own.nil H0 H37 1) rfl m38 fun H40 m41 k42 => ?_
 refine ⟨_, _, Ghost.refl, .inr rfl, _, Res.two rfl rfl rfl, ?_, m41⟩
 exact congrArg AV.tup (lc (congrArg (fun l : List Int => AV.sl l.length (l.map eI)) (show ([] : List Int) = ([] : List Int) from by first | rfl | omega | simp_all)) (lc rfl rfl))
end Go.Proofs.B
namespace Go.Proofs.B
open Go Go.AH
set_option maxRecDepth 4000
theorem c_TouchedB (bx : List BoxT) (leaf : Int) (h_bx : bx.length ≤ 1048576) (o d : VT) (hrd : ranV d) : PC Try.prog 12 [.agg [.sl (buildR bx leaf).1.Nodes.length ((buildR bx leaf).1.Nodes.flatMap eNode), .sl (buildR bx leaf).1.Items.length ((buildR bx leaf).1.Items.map eI)], .agg [.int .i64 o.X, .int .i64 o.Y, .int .i64 o.Z], .agg [.int .i64 d.X, .int .i64 d.Y, .int .i64 d.Z]] (.tup [.sl (touB bx leaf o d).1.length ((touB bx leaf o d).1.map eI), .int .i64 (touB bx leaf o d).2]) := by
  by_cases he : (buildR bx leaf).2 = 0
  · have e : touB bx leaf o d = touR bx leaf o d := by unfold touB; rw [if_pos he]
    rw [e]; exact c_Touched bx leaf h_bx he _ _ rfl rfl o d hrd
  · have e : touB bx leaf o d = ([], 0) := by unfold touB; rw [if_neg he]
    rw [e, buildR_bad he]; exact c_Touched0 o d
theorem c_rTouchedB (bx : List BoxT) (leaf : Int) (h_bx : bx.length ≤ 1048576) (o d : VT) (hrd : ranV d) : PC Try.prog 13 [.agg [.sl (buildR bx leaf).1.Nodes.length ((buildR bx leaf).1.Nodes.flatMap eNode), .sl (buildR bx leaf).1.Items.length ((buildR bx leaf).1.Items.map eI)], .agg [.int .i64 o.X, .int .i64 o.Y, .int .i64 o.Z], .agg [.int .i64 d.X, .int .i64 d.Y, .int .i64 d.Z]] (.tup [.sl (touB bx leaf o d).1.length ((touB bx leaf o d).1.map eI), .int .i64 (touB bx leaf o d).2]) := by
  by_cases he : (buildR bx leaf).2 = 0
  · have e : touB bx leaf o d = touR bx leaf o d := by unfold touB; rw [if_pos he]
    rw [e]; exact c_rTouched bx leaf h_bx he _ _ rfl rfl o d hrd
  · have e : touB bx leaf o d = ([], 0) := by unfold touB; rw [if_neg he]
    rw [e, buildR_bad he]; exact c_rTouched0 o d
end Go.Proofs.B
namespace Go.Proofs.B
open Go Go.AH
set_option maxRecDepth 4000
set_option linter.unusedSimpArgs false
set_option linter.unusedVariables false
theorem c_BvhBuilds (bx : List BoxT) (leaf : Int) (o d : VT) (hrd : ranV d) (hbx : ∀ b ∈ bx, ranB b) : PC Try.prog 3 [.sl bx.length (bx.flatMap eBox), .int .i64 leaf, .agg [.int .i64 o.X, .int .i64 o.Y, .int .i64 o.Z], .agg [.int .i64 d.X, .int .i64 d.Y, .int .i64 d.Z]] (.bool true) := by
 intro H0
 refine ACalls.of_body' (n := 85) rfl rfl rfl rfl ?_
 have m0 := Mono.refl H0
 refine AWP.seq ?_
 refine AWP.region (l := [0, 1, 2]) rfl ?_
 refine AOps.cons rfl rfl (AOp.box (.agg [.int .i64 o.X, .int .i64 o.Y, .int .i64 o.Z]) rfl rfl rfl ?_)
 intro i1 H2 n3 h4 k5
 have z6 := Mono.free m0 n3
 have m7 := Mono.new m0 n3 k5
 refine AOps.cons rfl rfl (AOp.box (.agg [.int .i64 d.X, .int .i64 d.Y, .int .i64 d.Z]) rfl rfl rfl ?_)
 intro i8 H9 n10 h11 k12
 have e13 := ne_new h4 n10
 have z14 := Mono.free m7 n10
 have h15 := keep k12 (ne_new h4 n10) h4
 have m16 := Mono.new m7 n10 k12
 refine AOps.cons rfl rfl (AOp.assign (.bool false) rfl rfl ?_)
 refine AOps.nil ?_
 change AWP _ _ _ _ _ _
 refine AWP.seq ?_
 refine AWP.seq ?_
 refine AWP.frzP 6 h15 z6 rfl m16 fun H17 m18 k19 => ?_
 have h20 := (k19 _ (Ne.symm e13)).trans h11
 refine AWP.frzP 7 h20 z14 rfl m18 fun H21 m22 k23 => ?_
 refine AWP.region (l := [0, 1]) rfl ?_
 refine AOps.cons rfl rfl (AOp.pcall («as» := []) rfl rfl (rfl) tf_8 (c_alive) ?_)
 intro H24 m25
 have m26 := m22.trans m25
 refine AOps.cons rfl rfl (AOp.not rfl rfl ?_)
 refine AOps.nil ?_
 change AWP _ _ _ _ _ _
 refine AWP.condF rfl rfl ?_
 refine AWP.skip ?_
 change AWP _ _ _ _ _ _
 refine AWP.seq ?_
 refine AWP.seq ?_
 refine AWP.region (l := [0, 1, 2]) rfl ?_
 refine AOps.cons rfl rfl (AOp.move (.sl bx.length (bx.flatMap eBox)) rfl rfl ?_)
 refine AOps.cons rfl rfl (AOp.len (m := bx.length) rfl rfl (.inr (.inl ⟨_, rfl⟩)) u_22 ?_)
 refine AOps.cons rfl rfl (AOp.bin (.bool (decide ((bx.length : Int) > 200))) rfl rfl rfl rfl ?_)
 refine AOps.nil ?_
 change AWP _ _ _ _ _ _
 by_cases b27 : (bx.length : Int) > 200
 ·
  refine AWP.condT rfl (decide_eq_true b27) ?_
  refine AWP.seq ?_
  refine AWP.region (l := [0]) rfl ?_
  refine AOps.cons rfl rfl (AOp.assign (.bool true) rfl rfl ?_)
  refine AOps.nil ?_
  change AWP _ _ _ _ _ _
  refine AWP.ret ?_
  refine ⟨_, _, Ghost.refl, .inr rfl, _, Res.one rfl rfl, ?_, m26⟩
  exact rfl
 ·
  refine AWP.condF rfl (decide_eq_false b27) ?_
  refine AWP.skip ?_
  change AWP _ _ _ _ _ _
  refine AWP.seq ?_
  refine AWP.region (l := [0, 1, 2, 3]) rfl ?_
  refine AOps.cons rfl rfl (AOp.buildSlice (cells := []) rfl u_22 ts_37 tz_37 rfl rfl rfl ?_)
  intro i28 H29 n30 h31 k32
  have z33 := Mono.free m26 n30
  have m34 := Mono.new m26 n30 k32
  obtain ⟨v35, e36⟩ : ∃ v : AV, v = .slm i28 0 6 0 0 := ⟨_, rfl⟩
  have o37 : Own H0 H29 6 v35 0 [] := .inr ⟨_, _, e36, h31, z33, rfl⟩
  refine AOps.cons rfl rfl (AOp.move (.sl bx.length (bx.flatMap eBox)) rfl rfl ?_)
  refine AOps.cons rfl rfl (AOp.append_any (es := 6) (m := bx.length) (len := 0) (old := []) (cells := bx.flatMap eBox) rfl u_22 ts_37 tzn_37 tb_37 (by decide) ni_22 e36.symm o37 m34 rfl (.sl (flatMap_length eBox_len _)) (by exact one_flat eBox_one)  (by first | omega | (simp; omega)) ?_)
  intro v38 H39 o40 m41 k42 j43
  have o44 := Own.appM (xs := ([] : List BoxT)) (ys := bx) (e := eBox) (by simp) o40
  refine AOps.cons rfl rfl (AOp.assign (v38) rfl rfl ?_)
  refine AOps.nil ?_
  change AWP _ _ _ _ _ _
  refine AWP.seq ?_
  refine AWP.frz 9 o44 rfl m41 fun H45 m46 k47 => ?_
  have hbl : ([] ++ bx).length = bx.length := rfl
  refine AWP.region (l := [0, 1, 2, 3, 4, 5, 6, 7, 8]) rfl ?_
  refine AOps.cons rfl rfl (AOp.move (.sl bx.length (bx.flatMap eBox)) rfl rfl ?_)
  refine AOps.cons rfl rfl (AOp.move (.int .i64 leaf) rfl rfl ?_)
  refine AOps.cons rfl rfl (AOp.pcall («as» := [.sl bx.length (bx.flatMap eBox), .int .i64 leaf]) rfl rfl (rfl) tf_9 (c_Build bx (by first | omega | assumption | (simp; done)) _) ?_)
  intro H48 m49
  have m50 := m46.trans m49
  refine AOps.cons rfl rfl (AOp.move (.tup [.agg [.sl ((buildR bx leaf).1.Nodes).length (((buildR bx leaf).1.Nodes).flatMap eNode), .sl ((buildR bx leaf).1.Items).length (((buildR bx leaf).1.Items).map eI)], .int .i64 ((buildR bx leaf).2)]) rfl rfl ?_)
  refine AOps.cons rfl rfl (AOp.extract (.agg [.sl ((buildR bx leaf).1.Nodes).length (((buildR bx leaf).1.Nodes).flatMap eNode), .sl ((buildR bx leaf).1.Items).length (((buildR bx leaf).1.Items).map eI)]) rfl rfl rfl ?_)
  refine AOps.cons rfl rfl (AOp.extract (.int .i64 ((buildR bx leaf).2)) rfl rfl rfl ?_)
  refine AOps.cons rfl rfl (AOp.alloc rfl tz_29 ?_)
  intro i51 H52 n53 h54 k55
  have z56 := Mono.free m50 n53
  have m57 := Mono.new m50 n53 k55
  refine AOps.cons rfl rfl (AOp.store' (cells' := [.sl ((buildR bx leaf).1.Nodes).length (((buildR bx leaf).1.Nodes).flatMap eNode), .sl ((buildR bx leaf).1.Items).length (((buildR bx leaf).1.Items).map eI)]) (.agg [.sl ((buildR bx leaf).1.Nodes).length (((buildR bx leaf).1.Nodes).flatMap eNode), .sl ((buildR bx leaf).1.Items).length (((buildR bx leaf).1.Items).map eI)]) rfl rfl ts_29 h54 rfl rfl rfl rfl ?_)
  intro H58 h59 k60
  have m62 := Mono.set m57 z56 k60
  refine AOps.cons rfl rfl (AOp.assign (.int .i64 ((buildR bx leaf).2)) rfl rfl ?_)
  refine AOps.nil ?_
  change AWP _ _ _ _ _ _
  refine AWP.seq ?_
  refine AWP.frzP 10 h59 z56 rfl m62 fun H63 m64 k65 => ?_
  refine AWP.region (l := [0, 1, 2, 3, 4, 5, 6, 7, 8]) rfl ?_
  refine AOps.cons rfl rfl (AOp.move (.sl bx.length (bx.flatMap eBox)) rfl rfl ?_)
  refine AOps.cons rfl rfl (AOp.move (.int .i64 leaf) rfl rfl ?_)
  refine AOps.cons rfl rfl (AOp.pcall («as» := [.sl bx.length (bx.flatMap eBox), .int .i64 leaf]) rfl rfl (rfl) tf_10 (c_rBuild bx (by first | omega | assumption | (simp; done)) _) ?_)
  intro H66 m67
  have m68 := m64.trans m67
  refine AOps.cons rfl rfl (AOp.move (.tup [.agg [.sl ((buildR bx leaf).1.Nodes).length (((buildR bx leaf).1.Nodes).flatMap eNode), .sl ((buildR bx leaf).1.Items).length (((buildR bx leaf).1.Items).map eI)], .int .i64 ((buildR bx leaf).2)]) rfl rfl ?_)
  refine AOps.cons rfl rfl (AOp.extract (.agg [.sl ((buildR bx leaf).1.Nodes).length (((buildR bx leaf).1.Nodes).flatMap eNode), .sl ((buildR bx leaf).1.Items).length (((buildR bx leaf).1.Items).map eI)]) rfl rfl rfl ?_)
  refine AOps.cons rfl rfl (AOp.extract (.int .i64 ((buildR bx leaf).2)) rfl rfl rfl ?_)
  refine AOps.cons rfl rfl (AOp.alloc rfl tz_29 ?_)
  intro i69 H70 n71 h72 k73
  have z74 := Mono.free m68 n71
  have m75 := Mono.new m68 n71 k73
  refine AOps.cons rfl rfl (AOp.store' (cells' := [.sl ((buildR bx leaf).1.Nodes).length (((buildR bx leaf).1.Nodes).flatMap eNode), .sl ((buildR bx leaf).1.Items).length (((buildR bx leaf).1.Items).map eI)]) (.agg [.sl ((buildR bx leaf).1.Nodes).length (((buildR bx leaf).1.Nodes).flatMap eNode), .sl ((buildR bx leaf).1.Items).length (((buildR bx leaf).1.Items).map eI)]) rfl rfl ts_29 h72 rfl rfl rfl rfl ?_)
  intro H76 h77 k78
  have m80 := Mono.set m75 z74 k78
  refine AOps.cons rfl rfl (AOp.assign (.int .i64 ((buildR bx leaf).2)) rfl rfl ?_)
  refine AOps.nil ?_
  change AWP _ _ _ _ _ _
  refine AWP.seq ?_
  refine AWP.seq ?_
  refine AWP.frzP 12 h77 z74 rfl m80 fun H81 m82 k83 => ?_
  refine AWP.region (l := [0, 1, 2, 3, 4, 5, 6, 7, 8]) rfl ?_
  refine AOps.cons rfl rfl (AOp.loadF (.agg [.sl ((buildR bx leaf).1.Nodes).length (((buildR bx leaf).1.Nodes).flatMap eNode), .sl ((buildR bx leaf).1.Items).length (((buildR bx leaf).1.Items).map eI)]) rfl rfl ty_29 rfl ?_)
  refine AOps.cons rfl rfl (AOp.loadF (.agg [.sl ((buildR bx leaf).1.Nodes).length (((buildR bx leaf).1.Nodes).flatMap eNode), .sl ((buildR bx leaf).1.Items).length (((buildR bx leaf).1.Items).map eI)]) rfl rfl ty_29 rfl ?_)
  refine AOps.cons rfl rfl (AOp.pcall («as» := [.agg [.sl ((buildR bx leaf).1.Nodes).length (((buildR bx leaf).1.Nodes).flatMap eNode), .sl ((buildR bx leaf).1.Items).length (((buildR bx leaf).1.Items).map eI)], .agg [.sl ((buildR bx leaf).1.Nodes).length (((buildR bx leaf).1.Nodes).flatMap eNode), .sl ((buildR bx leaf).1.Items).length (((buildR bx leaf).1.Items).map eI)]]) rfl rfl (rfl) tf_11 (c_rSame _ _ (build_ran (by omega)) (build_lens (by omega)).1 (build_lens (by omega)).2) ?_)
  intro H84 m85
  have m86 := m82.trans m85
  refine AOps.cons rfl rfl (AOp.not rfl rfl ?_)
  refine AOps.cons rfl rfl (AOp.move (.bool (!true)) rfl rfl ?_)
  refine AOps.yes rfl rfl rfl rfl rfl rfl rfl rfl (AOp.move (.int .i64 ((buildR bx leaf).2)) rfl rfl ?_)
  refine AOps.yes rfl rfl rfl rfl rfl rfl rfl rfl (AOp.move (.int .i64 ((buildR bx leaf).2)) rfl rfl ?_)
  refine AOps.yes rfl rfl rfl rfl rfl rfl rfl rfl (AOp.bin (.bool (!decide ((buildR bx leaf).2 = (buildR bx leaf).2))) rfl rfl rfl ine ?_)
  refine AOps.cons rfl rfl (AOp.pickF (.bool (!decide ((buildR bx leaf).2 = (buildR bx leaf).2))) rfl rfl rfl rfl ?_)
  refine AOps.nil ?_
  change AWP _ _ _ _ _ _
  refine AWP.condF rfl (nb (decide_eq_true rfl)) ?_
  refine AWP.skip ?_
  change AWP _ _ _ _ _ _
  refine AWP.seq ?_
  refine AWP.region (l := [0, 1, 2, 3, 4, 5, 6, 7, 8]) rfl ?_
  refine AOps.cons rfl rfl (AOp.loadF (.agg [.sl ((buildR bx leaf).1.Nodes).length (((buildR bx leaf).1.Nodes).flatMap eNode), .sl ((buildR bx leaf).1.Items).length (((buildR bx leaf).1.Items).map eI)]) rfl rfl ty_29 rfl ?_)
  refine AOps.cons rfl rfl (AOp.loadF (.agg [.int .i64 o.X, .int .i64 o.Y, .int .i64 o.Z]) rfl rfl ty_24 rfl ?_)
  refine AOps.cons rfl rfl (AOp.loadF (.agg [.int .i64 d.X, .int .i64 d.Y, .int .i64 d.Z]) rfl rfl ty_24 rfl ?_)
  refine AOps.cons rfl rfl (AOp.pcall («as» := [.agg [.sl ((buildR bx leaf).1.Nodes).length (((buildR bx leaf).1.Nodes).flatMap eNode), .sl ((buildR bx leaf).1.Items).length (((buildR bx leaf).1.Items).map eI)], .agg [.int .i64 o.X, .int .i64 o.Y, .int .i64 o.Z], .agg [.int .i64 d.X, .int .i64 d.Y, .int .i64 d.Z]]) rfl rfl (rfl) tf_12 (c_TouchedB bx leaf (by omega) o d hrd) ?_)
  intro H87 m88
  have m89 := m86.trans m88
  refine AOps.cons rfl rfl (AOp.move (.tup [.sl ((touB bx leaf o d).1).length (((touB bx leaf o d).1).map eI), .int .i64 ((touB bx leaf o d).2)]) rfl rfl ?_)
  refine AOps.cons rfl rfl (AOp.extract (.sl ((touB bx leaf o d).1).length (((touB bx leaf o d).1).map eI)) rfl rfl rfl ?_)
  refine AOps.cons rfl rfl (AOp.extract (.int .i64 ((touB bx leaf o d).2)) rfl rfl rfl ?_)
  refine AOps.cons rfl rfl (AOp.assign (.sl ((touB bx leaf o d).1).length (((touB bx leaf o d).1).map eI)) rfl rfl ?_)
  refine AOps.cons rfl rfl (AOp.assign (.int .i64 ((touB bx leaf o d).2)) rfl rfl ?_)
  refine AOps.nil ?_
  change AWP _ _ _ _ _ _
  refine AWP.seq ?_
  refine AWP.region (l := [0, 1, 2, 3, 4, 5, 6, 7, 8]) rfl ?_
  refine AOps.cons rfl rfl (AOp.loadF (.agg [.sl ((buildR bx leaf).1.Nodes).length (((buildR bx leaf).1.Nodes).flatMap eNode), .sl ((buildR bx leaf).1.Items).length (((buildR bx leaf).1.Items).map eI)]) rfl rfl ty_29 rfl ?_)
  refine AOps.cons rfl rfl (AOp.loadF (.agg [.int .i64 o.X, .int .i64 o.Y, .int .i64 o.Z]) rfl rfl ty_24 rfl ?_)
  refine AOps.cons rfl rfl (AOp.loadF (.agg [.int .i64 d.X, .int .i64 d.Y, .int .i64 d.Z]) rfl rfl ty_24 rfl ?_)
  refine AOps.cons rfl rfl (AOp.pcall («as» := [.agg [.sl ((buildR bx leaf).1.Nodes).length (((buildR bx leaf).1.Nodes).flatMap eNode), .sl ((buildR bx leaf).1.Items).length (((buildR bx leaf).1.Items).map eI)], .agg [.int .i64 o.X, .int .i64 o.Y, .int .i64 o.Z], .agg [.int .i64 d.X, .int .i64 d.Y, .int .i64 d.Z]]) rfl rfl (rfl) tf_13 (c_rTouchedB bx leaf (by omega) o d hrd) ?_)
  intro H90 m91
  have m92 := m89.trans m91
  refine AOps.cons rfl rfl (AOp.move (.tup [.sl ((touB bx leaf o d).1).length (((touB bx leaf o d).1).map eI), .int .i64 ((touB bx leaf o d).2)]) rfl rfl ?_)
  refine AOps.cons rfl rfl (AOp.extract (.sl ((touB bx leaf o d).1).length (((touB bx leaf o d).1).map eI)) rfl rfl rfl ?_)
  refine AOps.cons rfl rfl (AOp.extract (.int .i64 ((touB bx leaf o d).2)) rfl rfl rfl ?_)
  refine AOps.cons rfl rfl (AOp.assign (.sl ((touB bx leaf o d).1).length (((touB bx leaf o d).1).map eI)) rfl rfl ?_)
  refine AOps.cons rfl rfl (AOp.assign (.int .i64 ((touB bx leaf o d).2)) rfl rfl ?_)
  refine AOps.nil ?_
  change AWP _ _ _ _ _ _
  refine AWP.seq ?_
  refine AWP.seq ?_
  refine AWP.region (l := [0]) rfl ?_
  refine AOps.cons rfl rfl (AOp.assign (.int .i64 0) rfl rfl ?_)
  refine AOps.nil ?_
  change AWP _ _ _ _ _ _
  refine AWP.block ?_
  refine AWP.loop (fun q93 fq Hq => ∃ (i : Int), q93 = (((bx.length : Int) : Int) - i).toNat ∧ fq 18 = .int .i64 i ∧ fq 0 = .sl bx.length (bx.flatMap eBox) ∧ fq 9 = .sl bx.length (bx.flatMap eBox) ∧ fq 14 = .sl ((touB bx leaf o d).1).length (((touB bx leaf o d).1).map eI) ∧ fq 15 = .int .i64 ((touB bx leaf o d).2) ∧ fq 16 = .sl ((touB bx leaf o d).1).length (((touB bx leaf o d).1).map eI) ∧ fq 17 = .int .i64 ((touB bx leaf o d).2) ∧ Mono H0 Hq ∧ (0 ≤ i) ∧ (i ≤ (bx.length : Int))) (k := (((bx.length : Int) : Int) - 0).toNat) ?_ ?_
  ·
   exact ⟨0, rfl, rfl, rfl, rfl, rfl, rfl, rfl, rfl, m92, by omega, by omega⟩
  ·
   rintro _ f95 H94 ⟨i, rfl, s96, s97, s98, s99, s100, s101, s102, m103, hi0, hi1⟩
   refine AWP.seq ?_
   refine AWP.seq ?_
   refine AWP.region (l := [0, 1, 2, 3]) rfl ?_
   refine AOps.cons rfl rfl (AOp.move (.int .i64 i) rfl s96 ?_)
   refine AOps.cons rfl rfl (AOp.move (.sl bx.length (bx.flatMap eBox)) rfl s97 ?_)
   refine AOps.cons rfl rfl (AOp.len (m := bx.length) rfl rfl (.inr (.inl ⟨_, rfl⟩)) u_22 ?_)
   refine AOps.cons rfl rfl (AOp.bin (.bool (decide (i < (bx.length : Int)))) rfl rfl rfl rfl ?_)
   refine AOps.nil ?_
   change AWP _ _ _ _ _ _
   by_cases b104 : i < (bx.length : Int)
   ·
    refine AWP.condT rfl (decide_eq_true b104) ?_
    refine AWP.skip ?_
    change AWP _ _ _ _ _ _
    refine AWP.seq ?_
    refine AWP.block ?_
    refine AWP.seq ?_
    refine AWP.region_quiet mixed (by kernel_rfl) 9 [] rfl (by kernel_rfl) (Mono H94) (Mono.refl _) ?_
    refine QE.op rfl rfl (.inl ⟨rfl, fun f' H' hf hM => AOp.move (.sl bx.length (bx.flatMap eBox)) rfl ((hf 9 rfl).trans s98) ⟨rfl, hM⟩⟩) ?_
    refine QE.op rfl rfl (.inl ⟨rfl, fun f' H' hf hM => AOp.move (.int .i64 i) rfl ((hf 18 rfl).trans s96) ⟨rfl, hM⟩⟩) ?_
    refine QE.op rfl rfl (.inl ⟨rfl, fun f' H' hf hM => AOp.indexAddrS rfl ((hf 68 rfl).trans rfl) ((hf 69 rfl).trans rfl) sl_22 (by omega) (by omega) ⟨rfl, hM⟩⟩) ?_
    refine QE.op rfl rfl (.inl ⟨rfl, fun f' H' hf hM => AOp.loadF (.agg [.int .i64 (((at_ bx i).Lo).X), .int .i64 (((at_ bx i).Lo).Y), .int .i64 (((at_ bx i).Lo).Z), .int .i64 (((at_ bx i).Hi).X), .int .i64 (((at_ bx i).Hi).Y), .int .i64 (((at_ bx i).Hi).Z)]) rfl ((hf 70 rfl).trans rfl) ty_37 (ldM eBox_len (by omega) (by omega)) ⟨rfl, hM⟩⟩) ?_
    refine QE.op rfl rfl (.inl ⟨rfl, fun f' H' hf hM => AOp.move (.sl bx.length (bx.flatMap eBox)) rfl ((hf 0 rfl).trans s97) ⟨rfl, hM⟩⟩) ?_
    refine QE.op rfl rfl (.inl ⟨rfl, fun f' H' hf hM => AOp.move (.int .i64 i) rfl ((hf 18 rfl).trans s96) ⟨rfl, hM⟩⟩) ?_
    refine QE.op rfl rfl (.inl ⟨rfl, fun f' H' hf hM => AOp.indexAddrS rfl ((hf 72 rfl).trans rfl) ((hf 73 rfl).trans rfl) sl_22 (by omega) (by omega) ⟨rfl, hM⟩⟩) ?_
    refine QE.op rfl rfl (.inl ⟨rfl, fun f' H' hf hM => AOp.loadF (.agg [.int .i64 (((at_ bx i).Lo).X), .int .i64 (((at_ bx i).Lo).Y), .int .i64 (((at_ bx i).Lo).Z), .int .i64 (((at_ bx i).Hi).X), .int .i64 (((at_ bx i).Hi).Y), .int .i64 (((at_ bx i).Hi).Z)]) rfl ((hf 74 rfl).trans rfl) ty_37 (ldM eBox_len (by omega) (by omega)) ⟨rfl, hM⟩⟩) ?_
    refine QE.op rfl rfl (.inl ⟨rfl, fun f' H' hf hM => AOp.neAggD rfl ((hf 71 rfl).trans rfl) ((hf 75 rfl).trans rfl) teq37 (kokB (v := (at_ bx i)) (hbx _ (at_mem_l (by omega) (by omega)))) (kokB (v := (at_ bx i)) (hbx _ (at_mem_l (by omega) (by omega)))) (eBox_iff (at_ bx i) (at_ bx i)) ⟨rfl, hM⟩⟩) ?_
    refine QE.done fun H105 m106 => ?_
    have m107 := m103.trans m106
    refine AOps.nil ?_
    change AWP _ _ _ _ _ _
    refine AWP.condF rfl (nb (decide_eq_true rfl)) ?_
    refine AWP.skip ?_
    change AWP _ _ _ _ _ _
    refine AWP.region (l := [0, 1, 2]) rfl ?_
    refine AOps.cons rfl rfl (AOp.move (.int .i64 i) rfl s96 ?_)
    refine AOps.cons rfl rfl (AOp.bin (.int .i64 (i + 1)) rfl rfl rfl (iadd (by omega)) ?_)
    refine AOps.cons rfl rfl (AOp.assign (.int .i64 (i + 1)) rfl rfl ?_)
    refine AOps.nil ?_
    exact ⟨_, by omega, i + 1, rfl, rfl, s97, s98, s99, s100, s101, s102, m107, by omega, by omega⟩
   ·
    refine AWP.condF rfl (decide_eq_false b104) ?_
    refine AWP.exit ?_
    change AWP _ _ _ _ _ _
    refine AWP.seq ?_
    refine AWP.region (l := [0, 1, 2, 3, 4, 5, 6, 7, 8]) rfl ?_
    refine AOps.cons rfl rfl (AOp.move (.sl ((touB bx leaf o d).1).length (((touB bx leaf o d).1).map eI)) rfl s99 ?_)
    refine AOps.cons rfl rfl (AOp.move (.sl ((touB bx leaf o d).1).length (((touB bx leaf o d).1).map eI)) rfl s101 ?_)
    refine AOps.cons rfl rfl (AOp.pcall («as» := [.sl ((touB bx leaf o d).1).length (((touB bx leaf o d).1).map eI), .sl ((touB bx leaf o d).1).length (((touB bx leaf o d).1).map eI)]) rfl rfl (rfl) tf_14 (c_SameInts _ _ (touB_len (by omega)) (touB_len (by omega))) ?_)
    intro H108 m109
    have m110 := m103.trans m109
    refine AOps.cons rfl rfl (AOp.move (.bool (decide ((touB bx leaf o d).1 = (touB bx leaf o d).1))) rfl rfl ?_)
    refine AOps.yes rfl rfl rfl rfl rfl rfl rfl (decide_eq_true rfl) (AOp.move (.int .i64 ((touB bx leaf o d).2)) rfl s100 ?_)
    refine AOps.yes rfl rfl rfl rfl rfl rfl rfl (decide_eq_true rfl) (AOp.move (.int .i64 ((touB bx leaf o d).2)) rfl s102 ?_)
    refine AOps.yes rfl rfl rfl rfl rfl rfl rfl (decide_eq_true rfl) (AOp.bin (.bool (decide ((touB bx leaf o d).2 = (touB bx leaf o d).2))) rfl rfl rfl ieq ?_)
    refine AOps.cons rfl rfl (AOp.pickT (.bool (decide ((touB bx leaf o d).2 = (touB bx leaf o d).2))) rfl rfl (decide_eq_true rfl) rfl ?_)
    refine AOps.cons rfl rfl (AOp.assign (.bool (decide ((touB bx leaf o d).2 = (touB bx leaf o d).2))) rfl rfl ?_)
    refine AOps.nil ?_
    change AWP _ _ _ _ _ _
    refine AWP.ret ?_
    refine ⟨_, _, Ghost.refl, .inr rfl, _, Res.one rfl rfl, ?_, m110⟩
    exact (congrArg AV.bool (show (decide ((touB bx leaf o d).2 = (touB bx leaf o d).2) : Bool) = true from by first | rfl | exact decide_eq_true rfl))
end Go.Proofs.B
