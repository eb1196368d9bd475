/- A part of the proof that a law answers true for every input of its row: own work, by an AI agent. -/
import Derived.Test.YtcpepibkopbhgaaB02
import Derived.Test.YtcpepibkopbhgaaB00
import Derived.Test.YtcpepibkopbhgaaB01
import Derived.OpenShut
import Derived.Deep.Slices
import Derived.Lib.LaidTab
import Derived.Deep.OwnRows
import Derived.WideKeyArgs
import Derived.Test.YtcpepibkopbhgaaRows
import Derived.WalkKit
import Derived.ProofKit
import Derived.JoinedCond
import Derived.Deep.DeepHandedRow
import Derived.Deep.Matrix
import Derived.KernelRfl
set_option linter.unusedSimpArgs false
set_option linter.unusedVariables false
set_option linter.defProp false
namespace Go.Proofs.B
open Go Go.AH
set_option maxRecDepth 4000
theorem Src.seg {H : Heap} {iid iv off n : Nat} {pre post : List AV} {xs : List Int} (hi : H iid = some (.row iv (pre ++ (xs.map eI ++ post)))) (hoff : off = pre.length) (hn : n = xs.length) : Src H 1 (.slm iid iv 1 off n) n (xs.map eI) := by
  subst hoff hn
  have := Src.slm (H := H) (es := 1) (off := pre.length) (m := xs.length) hi (Nat.ble_eq_true_of_le (by simp))
  have e : ((pre ++ (xs.map eI ++ post)).drop pre.length).take (xs.length * 1) = xs.map eI := by
    rw [List.drop_left, Nat.mul_one]
    exact List.take_left' (by simp)
  rw [e] at this; exact this
theorem hull_step {bx : List BoxT} {b : BoxT} {its : List Int} {i : Int} (h0 : 0 ≤ i) (h1 : i < its.length) : joinB (hullFrom bx b (its.take i.toNat)) (at_ bx (at_ its i)) = hullFrom bx b (its.take (i + 1).toNat) := by
  rw [take_snoc h0 h1]; unfold hullFrom; rw [List.foldl_append]; rfl
theorem hull_end {bx : List BoxT} {its : List Int} {i : Int} (h1 : (its.length : Int) ≤ i) : hullFrom bx (at_ bx (at_ its 0)) (its.take i.toNat) = hull bx its := by
  rw [take_all h1]; rfl
theorem growT_size (bx : List BoxT) (leaf : Int) (hl : 1 ≤ leaf) : ∀ (f : Nat) (its : List Int), its ≠ [] → (growT bx leaf f its).size + 1 ≤ 2 * its.length
  | 0, its, h => by have := List.length_pos_iff.2 h; simp only [growT, BT.size]; omega
  | f + 1, its, h => by
    have h0 := List.length_pos_iff.2 h
    simp only [growT]
    split
    · simp only [BT.size]; omega
    · rename_i hlen
      have hsl := isort_len (keyLt bx (axisR bx its)) its
      have e1 : ((isort (keyLt bx (axisR bx its)) its).take ((its.length + 1) / 2)).length = (its.length + 1) / 2 := by rw [List.length_take, hsl]; omega
      have e2 : ((isort (keyLt bx (axisR bx its)) its).drop ((its.length + 1) / 2)).length = its.length - (its.length + 1) / 2 := by rw [List.length_drop, hsl]
      have a := growT_size bx leaf hl f _ (fun e => by rw [e] at e1; simp at e1; omega : (isort (keyLt bx (axisR bx its)) its).take ((its.length + 1) / 2) ≠ [])
      have b := growT_size bx leaf hl f _ (fun e => by rw [e] at e2; simp at e2; omega : (isort (keyLt bx (axisR bx its)) its).drop ((its.length + 1) / 2) ≠ [])
      rw [e1] at a; rw [e2] at b
      simp only [BT.size]; omega
theorem growT_len (bx : List BoxT) (leaf : Int) (f : Nat) (its : List Int) : (growT bx leaf f its).items.length = its.length := (growT_items bx leaf f its).length_eq
/-- What a builder holds while its tree grows. -/
structure GS (B : Heap) (tid tv iid iv : Nat) (bx : List BoxT) (leaf : Int) (pre : List AV) (its : List Int) (post : List AV) (N : List NodeT) (I : List Int) (Nv Iv : AV) (H : Heap) : Prop where
  hm : Mono B H
  t0 : B tid = none
  i0 : B iid = none
  ti : tid ≠ iid
  ht : H tid = some (.row tv [Nv, Iv, .sl bx.length (bx.flatMap eBox), .int .i64 leaf])
  hi : H iid = some (.row iv (pre ++ (its.map eI ++ post)))
  oN : Own B H 10 Nv N.length (N.flatMap eNode)
  oI : Own B H 1 Iv I.length (I.map eI)
  sep : Sep Nv Iv
  nt : NotId Nv tid
  ni : NotId Nv iid
  it : NotId Iv tid
  ii : NotId Iv iid
/-- What growing comes to. -/
def GR (B : Heap) (tid tv iid iv : Nat) (bx : List BoxT) (leaf : Int) (pre : List AV) (n : Nat) (post : List AV) (N : List NodeT) (I : List Int) (T : BT) (r : AV) (H' : Heap) : Prop :=
  r = .int .i64 N.length ∧ ∃ Nv Iv its, its.length = n ∧ GS B tid tv iid iv bx leaf pre its post (N ++ flatN T N.length I.length) (I ++ T.items) Nv Iv H'
def GrowOK (bx : List BoxT) (leaf : Int) (f : Nat) : Prop := ∀ (its : List Int), its ≠ [] → its.length ≤ 2 ^ f → its.length ≤ 1048576 → (∀ k ∈ its, 0 ≤ k ∧ k < bx.length) →
  ∀ {B H : Heap} {tid tv iid iv off : Nat} {pre post : List AV} {N : List NodeT} {I : List Int} {Nv Iv : AV}, off = pre.length → N.length + 2 * its.length ≤ 2147483648 → I.length + its.length ≤ 2147483648 → GS B tid tv iid iv bx leaf pre its post N I Nv Iv H →
  ACalls Try.prog 20 [.ptr tid tv 0, .slm iid iv 1 off its.length] H (GR B tid tv iid iv bx leaf pre its.length post N I (growT bx leaf f its))
/-- The state over a base that leaves the tree's own blocks out. -/
theorem GS.down {B : Heap} {tid tv iid iv : Nat} {bx : List BoxT} {leaf : Int} {pre post pre' post' : List AV} {its its' : List Int} {N : List NodeT} {I : List Int} {Nv Iv : AV} {H : Heap} (h : GS B tid tv iid iv bx leaf pre its post N I Nv Iv H) (e : pre ++ (its.map eI ++ post) = pre' ++ (its'.map eI ++ post')) :
    GS (baseOf H [tid, iid] Nv Iv) tid tv iid iv bx leaf pre' its' post' N I Nv Iv H where
  hm := base_mono _ _ _ _
  t0 := base_none (by simp)
  i0 := base_none (by simp)
  ti := h.ti
  ht := h.ht
  hi := by rw [← e]; exact h.hi
  oN := h.oN.toBase (.inl rfl)
  oI := h.oI.toBase (.inr rfl)
  sep := h.sep
  nt := h.nt
  ni := h.ni
  it := h.it
  ii := h.ii
theorem GS.up {B : Heap} {tid tv iid iv : Nat} {bx : List BoxT} {leaf : Int} {pre post pre' post' : List AV} {its its' : List Int} {N N' : List NodeT} {I I' : List Int} {Nv Iv Nv' Iv' : AV} {H H' : Heap} (h : GS B tid tv iid iv bx leaf pre its post N I Nv Iv H) (g : GS (baseOf H [tid, iid] Nv Iv) tid tv iid iv bx leaf pre' its' post' N' I' Nv' Iv' H') : GS B tid tv iid iv bx leaf pre' its' post' N' I' Nv' Iv' H' :=
  have hl : ∀ i ∈ [tid, iid], B i = none := by
    intro i hi; simp only [List.mem_cons, List.not_mem_nil, or_false] at hi
    rcases hi with rfl | rfl
    · exact h.t0
    · exact h.i0
  { hm := mono_fromBase g.hm h.hm hl h.oN h.oI
    t0 := h.t0
    i0 := h.i0
    ti := h.ti
    ht := g.ht
    hi := g.hi
    oN := g.oN.fromBase h.hm hl h.oN h.oI
    oI := g.oI.fromBase h.hm hl h.oN h.oI
    sep := g.sep
    nt := g.nt
    ni := g.ni
    it := g.it
    ii := g.ii }
/-- Whatever else there was is there still. -/
theorem GS.other {tid tv iid iv : Nat} {bx : List BoxT} {leaf : Int} {pre' post' : List AV} {its' : List Int} {N' : List NodeT} {I' : List Int} {Nv Iv Nv' Iv' : AV} {H H' : Heap} (g : GS (baseOf H [tid, iid] Nv Iv) tid tv iid iv bx leaf pre' its' post' N' I' Nv' Iv' H') {j : Nat} {X : AB} (hj : H j = some X) (n1 : j ≠ tid) (n2 : j ≠ iid) (n3 : NotId Nv j) (n4 : NotId Iv j) :
    H' j = some X ∧ NotId Nv' j ∧ NotId Iv' j := by
  have e : baseOf H [tid, iid] Nv Iv j = some X := by rw [base_get (by simp [n1, n2]) n3 n4]; exact hj
  exact ⟨g.hm j X e, Own.free g.oN e, Own.free g.oI e⟩
theorem grow_pos {f : Nat} {its : List Int} {leaf : Int} (hlf : 1 ≤ leaf) (hp : its.length ≤ 2 ^ f) (h : leaf < its.length) : ∃ g, g + 1 = f := by
  cases f with
  | zero => simp at hp; omega
  | succ g => exact ⟨g, rfl⟩
theorem grow_halves {bx : List BoxT} {a : Int} {its : List Int} {f g : Nat} (hg : g + 1 = f) (hp : its.length ≤ 2 ^ f) (hl : its.length ≤ 1048576) (hin : ∀ k ∈ its, 0 ≤ k ∧ k < (bx.length : Int)) (h2 : 2 ≤ its.length) :
    ((isort (keyLt bx a) its).take ((its.length + 1) / 2)).length = (its.length + 1) / 2 ∧ ((isort (keyLt bx a) its).drop ((its.length + 1) / 2)).length = its.length - (its.length + 1) / 2 ∧
    (isort (keyLt bx a) its).take ((its.length + 1) / 2) ≠ [] ∧ (isort (keyLt bx a) its).drop ((its.length + 1) / 2) ≠ [] ∧
    ((isort (keyLt bx a) its).take ((its.length + 1) / 2)).length ≤ 2 ^ g ∧ ((isort (keyLt bx a) its).drop ((its.length + 1) / 2)).length ≤ 2 ^ g ∧
    ((isort (keyLt bx a) its).take ((its.length + 1) / 2)).length ≤ 1048576 ∧ ((isort (keyLt bx a) its).drop ((its.length + 1) / 2)).length ≤ 1048576 ∧
    (∀ k ∈ (isort (keyLt bx a) its).take ((its.length + 1) / 2), 0 ≤ k ∧ k < (bx.length : Int)) ∧ (∀ k ∈ (isort (keyLt bx a) its).drop ((its.length + 1) / 2), 0 ≤ k ∧ k < (bx.length : Int)) := by
  have hsl := isort_len (keyLt bx a) its
  have hm := isort_perm (keyLt bx a) its
  have e1 : ((isort (keyLt bx a) its).take ((its.length + 1) / 2)).length = (its.length + 1) / 2 := by rw [List.length_take, hsl]; omega
  have e2 : ((isort (keyLt bx a) its).drop ((its.length + 1) / 2)).length = its.length - (its.length + 1) / 2 := by rw [List.length_drop, hsl]
  subst hg
  rw [Nat.pow_succ] at hp
  refine ⟨e1, e2, fun e => by rw [e] at e1; simp at e1; omega, fun e => by rw [e] at e2; simp at e2; omega, by omega, by omega, by omega, by omega, fun k hk => hin k (hm.mem_iff.1 (List.mem_of_mem_take hk)), fun k hk => hin k (hm.mem_iff.1 (List.mem_of_mem_drop hk))⟩
theorem growT_leaf {bx : List BoxT} {leaf : Int} {f : Nat} {its : List Int} (h : (its.length : Int) ≤ leaf) : growT bx leaf f its = .leaf (hull bx its) its := by
  cases f with
  | zero => rfl
  | succ g => simp only [growT]; rw [if_pos h]
theorem growT_node {bx : List BoxT} {leaf : Int} {f g : Nat} {its : List Int} (hg : g + 1 = f) (h : ¬ (its.length : Int) ≤ leaf) : growT bx leaf f its = .node (hull bx its) (growT bx leaf g ((isort (keyLt bx (axisR bx its)) its).take ((its.length + 1) / 2))) (growT bx leaf g ((isort (keyLt bx (axisR bx its)) its).drop ((its.length + 1) / 2))) := by
  subst hg; simp only [growT]; rw [if_neg h]
theorem set_mid {N : List NodeT} {x y : NodeT} {C : List NodeT} : (N ++ x :: C).set (N.length : Int).toNat y = N ++ y :: C := by
  have e : ((N.length : Int)).toNat = N.length := by omega
  rw [e, List.set_append_right _ _ (Nat.le_refl _), Nat.sub_self]; rfl
theorem grow_leafN {N : List NodeT} {x : NodeT} {b h : BoxT} {p q : Int} {its : List Int} (e : b = h) : (N ++ [x]).set (N.length : Int).toNat (NodeT.mk b 0 0 q (its.length : Int)) = N ++ flatN (.leaf h its) p q := by
  subst e; exact set_mid
theorem grow_nodeN {N : List NodeT} {x : NodeT} {I : List Int} {b h : BoxT} {L R : BT} (e : b = h) :
    ((((N ++ [x]) ++ flatN L (N ++ [x]).length I.length) ++ flatN R ((N ++ [x]) ++ flatN L (N ++ [x]).length I.length).length (I ++ L.items).length).set (N.length : Int).toNat (NodeT.mk b ((N ++ [x]).length : Int) (((N ++ [x]) ++ flatN L (N ++ [x]).length I.length).length : Int) 0 0)) = N ++ flatN (.node h L R) N.length I.length := by
  subst e
  rw [List.append_assoc (N ++ [x]), List.append_assoc N [x], List.singleton_append, set_mid]
  simp only [flatN, List.length_append, List.length_cons, List.length_nil, flatN_len]
  congr 1
end Go.Proofs.B
namespace Go.Proofs.B
open Go Go.AH
set_option maxRecDepth 4000
set_option linter.unusedSimpArgs false
set_option linter.unusedVariables false
theorem c_grow_step (bx : List BoxT) (hok : ∀ b ∈ bx, okBox b) (leaf : Int) (hlf : 1 ≤ leaf) (f : Nat) (ih : ∀ g_, g_ + 1 = f → GrowOK bx leaf g_) (its : List Int) (hne : its ≠ []) (hp : its.length ≤ 2 ^ f) (hl : its.length ≤ 1048576) (hin : ∀ k ∈ its, 0 ≤ k ∧ k < bx.length) {B H0 : Heap} {tid tv iid iv off : Nat} {pre post : List AV} {N : List NodeT} {I : List Int} {Nv Iv : AV} (hoff : off = pre.length) (hbN : N.length + 2 * its.length ≤ 2147483648) (hbI : I.length + its.length ≤ 2147483648) (gs : GS B tid tv iid iv bx leaf pre its post N I Nv Iv H0)  : ACalls Try.prog 20 [.ptr tid tv 0, .slm iid iv 1 off its.length] H0 (GR B tid tv iid iv bx leaf pre its.length post N I (growT bx leaf f its)) := by
 obtain ⟨hm, t0, i0, ti, ht, hi, oN, oI, sep, nt, ni, it, ii⟩ := gs
 have hpos := List.length_pos_iff.2 hne
 refine ACalls.of_body' (n := 116) rfl rfl rfl rfl ?_
 have m0 := hm
 refine AWP.seq ?_
 refine AWP.region (l := [0, 1]) rfl ?_
 refine AOps.cons rfl rfl (AOp.box (.ptr tid tv 0) rfl rfl rfl ?_)
 intro i1 H2 n3 h4 k5
 have e6 := ne_new ht n3
 have e7 := ne_new hi n3
 have z8 := Mono.free m0 n3
 have h9 := keep k5 (ne_new ht n3) ht
 have h10 := keep k5 (ne_new hi n3) hi
 have o11 := Own.keep oN k5 (Own.notnew oN n3)
 have no12 := Own.notnew oN n3
 have o13 := Own.keep oI k5 (Own.notnew oI n3)
 have no14 := Own.notnew oI n3
 have m15 := Mono.new m0 n3 k5
 refine AOps.cons rfl rfl (AOp.assign (.int .i64 0) rfl rfl ?_)
 refine AOps.nil ?_
 change AWP _ _ _ _ _ _
 refine AWP.seq ?_
 have hk0 := hin _ (at_mem_l (l := its) (i := 0) (by omega) (by omega))
 refine AWP.region_quietA mixed (by kernel_rfl) 10 11 [11] rfl (by kernel_rfl) (B := .row 0 ([.int .i64 0, .int .i64 0, .int .i64 0, .int .i64 0, .int .i64 0, .int .i64 0, .int .i64 0, .int .i64 0, .int .i64 0, .int .i64 0])) (va := fun i => .ptr i 0 0) (by decide) fun i16 n17 _ hs18 => ?_
 refine QEA.op rfl rfl rfl (.inl ⟨rfl, fun H1 f' H' hf hN hM => AOp.load (.ptr tid tv 0) rfl ((hf 2 rfl).trans rfl) ty_54 (hM _ _ h4) rfl ⟨rfl, hN⟩⟩) ?_
 refine QEA.op rfl rfl rfl (.inl ⟨rfl, fun H1 f' H' hf hN hM => AOp.nilCheck (.ptr tid tv 0) rfl ((hf 11 rfl).trans rfl) rfl ⟨rfl, hN⟩⟩) ?_
 refine QEA.op rfl rfl rfl (.inl ⟨rfl, fun H1 f' H' hf hN hM => AOp.fieldAddr rfl ((hf 12 rfl).trans rfl) fl_56_1 ⟨rfl, hN⟩ (hid := ⟨_, (hM _ _ h9)⟩)⟩) ?_
 refine QEA.op rfl rfl rfl (.inl ⟨rfl, fun H1 f' H' hf hN hM => AOp.load (.sl bx.length (bx.flatMap eBox)) rfl ((hf 13 rfl).trans rfl) ty_22 (hM _ _ h9) rfl ⟨rfl, hN⟩⟩) ?_
 refine QEA.op rfl rfl rfl (.inl ⟨rfl, fun H1 f' H' hf hN hM => AOp.move (.slm iid iv 1 off its.length) rfl ((hf 1 rfl).trans rfl) ⟨rfl, hN⟩⟩) ?_
 refine QEA.op rfl rfl rfl (.inl ⟨rfl, fun H1 f' H' hf hN hM => AOp.indexAddrM (i := (0 : Int)) rfl ((hf 15 rfl).trans rfl) rfl sl_27 (by omega) (by omega) ⟨_, (hM _ _ h10)⟩ ⟨rfl, hN⟩⟩) ?_
 refine QEA.op rfl rfl rfl (.inl ⟨rfl, fun H1 f' H' hf hN hM => AOp.load (.int .i64 (at_ its (0 : Int))) rfl ((hf 16 rfl).trans rfl) ty_3 (hM _ _ h10) (ld_seg hoff (by omega) (by omega)) ⟨rfl, hN⟩⟩) ?_
 refine QEA.op rfl rfl rfl (.inl ⟨rfl, fun H1 f' H' hf hN hM => AOp.indexAddrS rfl ((hf 14 rfl).trans rfl) ((hf 17 rfl).trans rfl) sl_22 (by omega) (by omega) ⟨rfl, hN⟩⟩) ?_
 refine QEA.op rfl rfl rfl (.inl ⟨rfl, fun H1 f' H' hf hN hM => AOp.loadF (.agg [.int .i64 (((at_ bx (at_ its (0 : Int))).Lo).X), .int .i64 (((at_ bx (at_ its (0 : Int))).Lo).Y), .int .i64 (((at_ bx (at_ its (0 : Int))).Lo).Z), .int .i64 (((at_ bx (at_ its (0 : Int))).Hi).X), .int .i64 (((at_ bx (at_ its (0 : Int))).Hi).Y), .int .i64 (((at_ bx (at_ its (0 : Int))).Hi).Z)]) rfl ((hf 18 rfl).trans rfl) ty_37 (ldM eBox_len (by omega) (by omega)) ⟨rfl, hN⟩⟩) ?_
 refine QEA.op rfl rfl rfl (.inl ⟨rfl, fun H1 f' H' hf hN hM => AOp.build (cells := [.int .i64 (((at_ bx (at_ its (0 : Int))).Lo).X), .int .i64 (((at_ bx (at_ its (0 : Int))).Lo).Y), .int .i64 (((at_ bx (at_ its (0 : Int))).Lo).Z), .int .i64 (((at_ bx (at_ its (0 : Int))).Hi).X), .int .i64 (((at_ bx (at_ its (0 : Int))).Hi).Y), .int .i64 (((at_ bx (at_ its (0 : Int))).Hi).Z), .int .i64 0, .int .i64 0, .int .i64 0, .int .i64 0]) rfl tz_42 pl_42 (lconsP ((hf 19 rfl).trans rfl) rfl) rfl ⟨rfl, hN⟩⟩) ?_
 refine QEA.alloc rfl rfl rfl rfl rfl tz_42 ?_
 refine QEA.done fun H19 m21 => ?_
 have m20 := hs18 _ m21
 have e22 := ne_new h9 n17
 have e23 := ne_new h10 n17
 have e24 := ne_new h4 n17
 have z25 := Mono.free m15 n17
 have no26 := Own.notnew o11 n17
 have no27 := Own.notnew o13 n17
 have h28 := m20 _ _ h9
 have h29 := m20 _ _ h10
 have h30 := m20 _ _ h4
 have o31 := Own.mono o11 m20
 have o32 := Own.mono o13 m20
 have m33 := m15.trans m20
 have h34 : H19 i16 = some (.row 0 ([.int .i64 0, .int .i64 0, .int .i64 0, .int .i64 0, .int .i64 0, .int .i64 0, .int .i64 0, .int .i64 0, .int .i64 0, .int .i64 0])) := m21 i16 _ (updH_same _ _ _)
 refine AOps.cons rfl rfl (AOp.store' (cells' := [.int .i64 (((at_ bx (at_ its (0 : Int))).Lo).X), .int .i64 (((at_ bx (at_ its (0 : Int))).Lo).Y), .int .i64 (((at_ bx (at_ its (0 : Int))).Lo).Z), .int .i64 (((at_ bx (at_ its (0 : Int))).Hi).X), .int .i64 (((at_ bx (at_ its (0 : Int))).Hi).Y), .int .i64 (((at_ bx (at_ its (0 : Int))).Hi).Z), .int .i64 0, .int .i64 0, .int .i64 0, .int .i64 0]) (.agg [.int .i64 (((at_ bx (at_ its (0 : Int))).Lo).X), .int .i64 (((at_ bx (at_ its (0 : Int))).Lo).Y), .int .i64 (((at_ bx (at_ its (0 : Int))).Lo).Z), .int .i64 (((at_ bx (at_ its (0 : Int))).Hi).X), .int .i64 (((at_ bx (at_ its (0 : Int))).Hi).Y), .int .i64 (((at_ bx (at_ its (0 : Int))).Hi).Z), .int .i64 0, .int .i64 0, .int .i64 0, .int .i64 0]) rfl rfl ts_42 h34 rfl rfl rfl rfl ?_)
 intro H35 h36 k37
 have h38 := keep k37 e22 h28
 have h39 := keep k37 e23 h29
 have h40 := keep k37 e24 h30
 have o42 := Own.keep o31 k37 no26
 have o43 := Own.keep o32 k37 no27
 have m44 := Mono.set m33 z25 k37
 refine AOps.nil ?_
 change AWP _ _ _ _ _ _
 refine AWP.seq ?_
 refine AWP.seq ?_
 refine AWP.region (l := [0, 1, 2]) rfl ?_
 refine AOps.cons rfl rfl (AOp.move (.slm iid iv 1 off its.length) rfl rfl ?_)
 refine AOps.cons rfl rfl (AOp.len (m := its.length) rfl rfl (.inr (.inr ⟨_, _, _, _, rfl⟩)) u_27 ?_)
 refine AOps.cons rfl rfl (AOp.move (.int .i64 0) rfl rfl ?_)
 refine AOps.nil ?_
 change AWP _ _ _ _ _ _
 refine AWP.block ?_
 refine AWP.loop (fun q45 fq Hq => ∃ (i : Int), q45 = (((its.length : Int) : Int) - i).toNat ∧ fq 23 = .int .i64 i ∧ fq 1 = .slm iid iv 1 off its.length ∧ fq 2 = .ptr i1 0 0 ∧ fq 4 = .int .i64 0 ∧ fq 5 = .ptr i16 0 0 ∧ fq 21 = .slm iid iv 1 off its.length ∧ fq 22 = .int .i64 (its.length : Int) ∧ Own B Hq 10 Nv N.length (N.flatMap eNode) ∧ Own B Hq 1 Iv I.length (I.map eI) ∧ NotId Nv tid ∧ NotId Nv iid ∧ NotId Nv i1 ∧ NotId Nv i16 ∧ NotId Iv tid ∧ NotId Iv iid ∧ NotId Iv i1 ∧ NotId Iv i16 ∧ Sep Nv Iv ∧ Hq tid = some (.row tv ([Nv, Iv, .sl bx.length (bx.flatMap eBox), .int .i64 leaf])) ∧ Hq iid = some (.row iv (pre ++ ((its).map eI ++ post))) ∧ Hq i1 = some (.row 0 ([.ptr tid tv 0])) ∧ Hq i16 = some (.row 0 ([.int .i64 (((hullFrom bx (at_ bx (at_ its 0)) (its.take i.toNat)).Lo).X), .int .i64 (((hullFrom bx (at_ bx (at_ its 0)) (its.take i.toNat)).Lo).Y), .int .i64 (((hullFrom bx (at_ bx (at_ its 0)) (its.take i.toNat)).Lo).Z), .int .i64 (((hullFrom bx (at_ bx (at_ its 0)) (its.take i.toNat)).Hi).X), .int .i64 (((hullFrom bx (at_ bx (at_ its 0)) (its.take i.toNat)).Hi).Y), .int .i64 (((hullFrom bx (at_ bx (at_ its 0)) (its.take i.toNat)).Hi).Z), .int .i64 0, .int .i64 0, .int .i64 0, .int .i64 0])) ∧ Mono B Hq ∧ (0 ≤ i) ∧ (i ≤ (its.length : Int))) (k := (((its.length : Int) : Int) - 0).toNat) ?_ ?_
 ·
  exact ⟨0, rfl, rfl, rfl, rfl, rfl, rfl, rfl, rfl, o42, o43, nt, ni, no12, no26, it, ii, no14, no27, sep, h38, h39, h40, (h36.trans (congrArg (fun c => some (AB.row 0 c)) (show ([.int .i64 (((at_ bx (at_ its (0 : Int))).Lo).X), .int .i64 (((at_ bx (at_ its (0 : Int))).Lo).Y), .int .i64 (((at_ bx (at_ its (0 : Int))).Lo).Z), .int .i64 (((at_ bx (at_ its (0 : Int))).Hi).X), .int .i64 (((at_ bx (at_ its (0 : Int))).Hi).Y), .int .i64 (((at_ bx (at_ its (0 : Int))).Hi).Z), .int .i64 0, .int .i64 0, .int .i64 0, .int .i64 0] : List AV) = [.int .i64 (((hullFrom bx (at_ bx (at_ its 0)) (its.take (0 : Int).toNat)).Lo).X), .int .i64 (((hullFrom bx (at_ bx (at_ its 0)) (its.take (0 : Int).toNat)).Lo).Y), .int .i64 (((hullFrom bx (at_ bx (at_ its 0)) (its.take (0 : Int).toNat)).Lo).Z), .int .i64 (((hullFrom bx (at_ bx (at_ its 0)) (its.take (0 : Int).toNat)).Hi).X), .int .i64 (((hullFrom bx (at_ bx (at_ its 0)) (its.take (0 : Int).toNat)).Hi).Y), .int .i64 (((hullFrom bx (at_ bx (at_ its 0)) (its.take (0 : Int).toNat)).Hi).Z), .int .i64 0, .int .i64 0, .int .i64 0, .int .i64 0] from by first | rfl | (rw [← hull_step hi0 (by omega)] <;> rfl)))), m44, by omega, by omega⟩
 ·
  rintro _ f47 H46 ⟨i, rfl, s48, s49, s50, s51, s52, s53, s54, o55, o56, no57, no58, no59, no60, no61, no62, no63, no64, sp65, h66, h67, h68, h69, m70, hi0, hi1⟩
  refine AWP.seq ?_
  refine AWP.region (l := [0]) rfl ?_
  refine AOps.cons rfl rfl (AOp.bin (.bool (decide (i < (its.length : Int)))) rfl s48 s54 rfl ?_)
  refine AOps.nil ?_
  change AWP _ _ _ _ _ _
  refine AWP.seq ?_
  by_cases b71 : i < (its.length : Int)
  ·
   refine AWP.condT rfl (decide_eq_true b71) ?_
   refine AWP.skip ?_
   change AWP _ _ _ _ _ _
   refine AWP.seq ?_
   refine AWP.block ?_
   refine AWP.seq ?_
   refine AWP.region (l := [0, 1, 2]) rfl ?_
   refine AOps.cons rfl rfl (AOp.indexAddrM (i := i) rfl s53 s48 sl_27 (by omega) (by omega) ⟨_, h67⟩ ?_)
   refine AOps.cons rfl rfl (AOp.load (.int .i64 (at_ its i)) rfl rfl ty_3 h67 (ld_seg hoff (by omega) (by omega)) ?_)
   refine AOps.cons rfl rfl (AOp.assign (.int .i64 (at_ its i)) rfl rfl ?_)
   refine AOps.nil ?_
   change AWP _ _ _ _ _ _
   have hki := hin _ (at_mem_l hi0 (by omega : i < its.length))
   refine AWP.region_quiet mixed (by kernel_rfl) 11 [11] rfl (by kernel_rfl) (Mono H46) (Mono.refl _) ?_
   refine QE.op rfl rfl (.inl ⟨rfl, fun f' H' hf hM => AOp.fieldAddr rfl ((hf 5 rfl).trans s52) fl_42_0 ⟨rfl, hM⟩ (hid := ⟨_, (hM _ _ h69)⟩)⟩) ?_
   refine QE.op rfl rfl (.inl ⟨rfl, fun f' H' hf hM => AOp.load (.agg [.int .i64 (((hullFrom bx (at_ bx (at_ its 0)) (its.take i.toNat)).Lo).X), .int .i64 (((hullFrom bx (at_ bx (at_ its 0)) (its.take i.toNat)).Lo).Y), .int .i64 (((hullFrom bx (at_ bx (at_ its 0)) (its.take i.toNat)).Lo).Z), .int .i64 (((hullFrom bx (at_ bx (at_ its 0)) (its.take i.toNat)).Hi).X), .int .i64 (((hullFrom bx (at_ bx (at_ its 0)) (its.take i.toNat)).Hi).Y), .int .i64 (((hullFrom bx (at_ bx (at_ its 0)) (its.take i.toNat)).Hi).Z)]) rfl ((hf 27 rfl).trans rfl) ty_37 (hM _ _ h69) rfl ⟨rfl, hM⟩⟩) ?_
   refine QE.op rfl rfl (.inl ⟨rfl, fun f' H' hf hM => AOp.load (.ptr tid tv 0) rfl ((hf 2 rfl).trans s50) ty_54 (hM _ _ h68) rfl ⟨rfl, hM⟩⟩) ?_
   refine QE.op rfl rfl (.inl ⟨rfl, fun f' H' hf hM => AOp.nilCheck (.ptr tid tv 0) rfl ((hf 29 rfl).trans rfl) rfl ⟨rfl, hM⟩⟩) ?_
   refine QE.op rfl rfl (.inl ⟨rfl, fun f' H' hf hM => AOp.fieldAddr rfl ((hf 30 rfl).trans rfl) fl_56_1 ⟨rfl, hM⟩ (hid := ⟨_, (hM _ _ h66)⟩)⟩) ?_
   refine QE.op rfl rfl (.inl ⟨rfl, fun f' H' hf hM => AOp.load (.sl bx.length (bx.flatMap eBox)) rfl ((hf 31 rfl).trans rfl) ty_22 (hM _ _ h66) rfl ⟨rfl, hM⟩⟩) ?_
   refine QE.op rfl rfl (.inl ⟨rfl, fun f' H' hf hM => AOp.move (.int .i64 (at_ its i)) rfl ((hf 7 rfl).trans rfl) ⟨rfl, hM⟩⟩) ?_
   refine QE.op rfl rfl (.inl ⟨rfl, fun f' H' hf hM => AOp.indexAddrS rfl ((hf 32 rfl).trans rfl) ((hf 33 rfl).trans rfl) sl_22 (by omega) (by omega) ⟨rfl, hM⟩⟩) ?_
   refine QE.op rfl rfl (.inl ⟨rfl, fun f' H' hf hM => AOp.loadF (.agg [.int .i64 (((at_ bx (at_ its i)).Lo).X), .int .i64 (((at_ bx (at_ its i)).Lo).Y), .int .i64 (((at_ bx (at_ its i)).Lo).Z), .int .i64 (((at_ bx (at_ its i)).Hi).X), .int .i64 (((at_ bx (at_ its i)).Hi).Y), .int .i64 (((at_ bx (at_ its i)).Hi).Z)]) rfl ((hf 34 rfl).trans rfl) ty_37 (ldM eBox_len (by omega) (by omega)) ⟨rfl, hM⟩⟩) ?_
   refine QE.op rfl rfl (.inl ⟨rfl, fun f' H' hf hM => AOp.pcall («as» := [.agg [.int .i64 (((hullFrom bx (at_ bx (at_ its 0)) (its.take i.toNat)).Lo).X), .int .i64 (((hullFrom bx (at_ bx (at_ its 0)) (its.take i.toNat)).Lo).Y), .int .i64 (((hullFrom bx (at_ bx (at_ its 0)) (its.take i.toNat)).Lo).Z), .int .i64 (((hullFrom bx (at_ bx (at_ its 0)) (its.take i.toNat)).Hi).X), .int .i64 (((hullFrom bx (at_ bx (at_ its 0)) (its.take i.toNat)).Hi).Y), .int .i64 (((hullFrom bx (at_ bx (at_ its 0)) (its.take i.toNat)).Hi).Z)], .agg [.int .i64 (((at_ bx (at_ its i)).Lo).X), .int .i64 (((at_ bx (at_ its i)).Lo).Y), .int .i64 (((at_ bx (at_ its i)).Lo).Z), .int .i64 (((at_ bx (at_ its i)).Hi).X), .int .i64 (((at_ bx (at_ its i)).Hi).Y), .int .i64 (((at_ bx (at_ its i)).Hi).Z)]]) rfl rfl (lapp (lcons ((hf 28 rfl).trans rfl) (lcons ((hf 35 rfl).trans rfl) rfl)) rfl) tf_15 (c_Join _ _) fun H2 m2 => ⟨rfl, hM.trans m2⟩⟩) ?_
   refine QE.op rfl rfl (.inl ⟨rfl, fun f' H' hf hM => AOp.fieldAddr rfl ((hf 5 rfl).trans s52) fl_42_0 ⟨rfl, hM⟩ (hid := ⟨_, (hM _ _ h69)⟩)⟩) ?_
   refine QE.done fun H72 m73 => ?_
   have h74 := m73 _ _ h66
   have h75 := m73 _ _ h67
   have h76 := m73 _ _ h68
   have h77 := m73 _ _ h69
   have o78 := Own.mono o55 m73
   have o79 := Own.mono o56 m73
   have m80 := m70.trans m73
   refine AOps.cons rfl rfl (AOp.store' (cells' := [.int .i64 (((joinB (hullFrom bx (at_ bx (at_ its 0)) (its.take i.toNat)) (at_ bx (at_ its i))).Lo).X), .int .i64 (((joinB (hullFrom bx (at_ bx (at_ its 0)) (its.take i.toNat)) (at_ bx (at_ its i))).Lo).Y), .int .i64 (((joinB (hullFrom bx (at_ bx (at_ its 0)) (its.take i.toNat)) (at_ bx (at_ its i))).Lo).Z), .int .i64 (((joinB (hullFrom bx (at_ bx (at_ its 0)) (its.take i.toNat)) (at_ bx (at_ its i))).Hi).X), .int .i64 (((joinB (hullFrom bx (at_ bx (at_ its 0)) (its.take i.toNat)) (at_ bx (at_ its i))).Hi).Y), .int .i64 (((joinB (hullFrom bx (at_ bx (at_ its 0)) (its.take i.toNat)) (at_ bx (at_ its i))).Hi).Z), .int .i64 0, .int .i64 0, .int .i64 0, .int .i64 0]) (.agg [.int .i64 (((joinB (hullFrom bx (at_ bx (at_ its 0)) (its.take i.toNat)) (at_ bx (at_ its i))).Lo).X), .int .i64 (((joinB (hullFrom bx (at_ bx (at_ its 0)) (its.take i.toNat)) (at_ bx (at_ its i))).Lo).Y), .int .i64 (((joinB (hullFrom bx (at_ bx (at_ its 0)) (its.take i.toNat)) (at_ bx (at_ its i))).Lo).Z), .int .i64 (((joinB (hullFrom bx (at_ bx (at_ its 0)) (its.take i.toNat)) (at_ bx (at_ its i))).Hi).X), .int .i64 (((joinB (hullFrom bx (at_ bx (at_ its 0)) (its.take i.toNat)) (at_ bx (at_ its i))).Hi).Y), .int .i64 (((joinB (hullFrom bx (at_ bx (at_ its 0)) (its.take i.toNat)) (at_ bx (at_ its i))).Hi).Z)]) rfl rfl ts_37 h77 rfl rfl rfl rfl ?_)
   intro H81 h82 k83
   have h84 := keep k83 e22 h74
   have h85 := keep k83 e23 h75
   have h86 := keep k83 e24 h76
   have o88 := Own.keep o78 k83 no60
   have o89 := Own.keep o79 k83 no64
   have m90 := Mono.set m80 z25 k83
   refine AOps.nil ?_
   change AWP _ _ _ _ _ _
   refine AWP.region (l := [0, 1]) rfl ?_
   refine AOps.cons rfl rfl (AOp.bin (.int .i64 (i + 1)) rfl s48 rfl (iadd (by omega)) ?_)
   refine AOps.cons rfl rfl (AOp.move (.int .i64 (i + 1)) rfl rfl ?_)
   refine AOps.nil ?_
   exact ⟨_, by omega, i + 1, rfl, rfl, s49, s50, s51, s52, s53, s54, o88, o89, no57, no58, no59, no60, no61, no62, no63, no64, sp65, h84, h85, h86, (h82.trans (congrArg (fun c => some (AB.row 0 c)) (show ([.int .i64 (((joinB (hullFrom bx (at_ bx (at_ its 0)) (its.take i.toNat)) (at_ bx (at_ its i))).Lo).X), .int .i64 (((joinB (hullFrom bx (at_ bx (at_ its 0)) (its.take i.toNat)) (at_ bx (at_ its i))).Lo).Y), .int .i64 (((joinB (hullFrom bx (at_ bx (at_ its 0)) (its.take i.toNat)) (at_ bx (at_ its i))).Lo).Z), .int .i64 (((joinB (hullFrom bx (at_ bx (at_ its 0)) (its.take i.toNat)) (at_ bx (at_ its i))).Hi).X), .int .i64 (((joinB (hullFrom bx (at_ bx (at_ its 0)) (its.take i.toNat)) (at_ bx (at_ its i))).Hi).Y), .int .i64 (((joinB (hullFrom bx (at_ bx (at_ its 0)) (its.take i.toNat)) (at_ bx (at_ its i))).Hi).Z), .int .i64 0, .int .i64 0, .int .i64 0, .int .i64 0] : List AV) = [.int .i64 (((hullFrom bx (at_ bx (at_ its 0)) (its.take (i + 1).toNat)).Lo).X), .int .i64 (((hullFrom bx (at_ bx (at_ its 0)) (its.take (i + 1).toNat)).Lo).Y), .int .i64 (((hullFrom bx (at_ bx (at_ its 0)) (its.take (i + 1).toNat)).Lo).Z), .int .i64 (((hullFrom bx (at_ bx (at_ its 0)) (its.take (i + 1).toNat)).Hi).X), .int .i64 (((hullFrom bx (at_ bx (at_ its 0)) (its.take (i + 1).toNat)).Hi).Y), .int .i64 (((hullFrom bx (at_ bx (at_ its 0)) (its.take (i + 1).toNat)).Hi).Z), .int .i64 0, .int .i64 0, .int .i64 0, .int .i64 0] from by first | rfl | (rw [← hull_step hi0 (by omega)] <;> rfl)))), m90, by omega, by omega⟩
  ·
   refine AWP.condF rfl (decide_eq_false b71) ?_
   refine AWP.exit ?_
   change AWP _ _ _ _ _ _
   refine AWP.seq ?_
   refine AWP.region (l := [0, 1, 2, 3, 4, 5, 6]) rfl ?_
   refine AOps.cons rfl rfl (AOp.load (.ptr tid tv 0) rfl s50 ty_54 h68 rfl ?_)
   refine AOps.cons rfl rfl (AOp.nilCheck (.ptr tid tv 0) rfl rfl rfl ?_)
   refine AOps.cons rfl rfl (AOp.fieldAddr rfl rfl fl_56_0 ?_ (hid := ⟨_, h66⟩))
   refine AOps.cons rfl rfl (AOp.fieldAddr rfl rfl fl_29_0 ?_ (hid := ⟨_, h66⟩))
   refine AOps.cons rfl rfl (AOp.load (Nv) rfl rfl ty_26 h66 rfl ?_)
   refine AOps.cons rfl rfl (AOp.len_own (m := N.length) rfl rfl o55 u_26 ?_)
   refine AOps.cons rfl rfl (AOp.assign (.int .i64 (N.length : Int)) rfl rfl ?_)
   refine AOps.nil ?_
   change AWP _ _ _ _ _ _
   refine AWP.seq ?_
   refine AWP.region_str mixed (by kernel_rfl) [(0, none), (1, none), (2, none), (3, none), (4, none), (5, none), (6, none), (7, some [0, 1, 2, 3, 4, 5]), (8, some [0])] [9, 10, 11, 12] (by kernel_rfl) ?_
   refine STR.op rfl rfl (.inl ⟨rfl, fun H1 f' H' hf hN hM => AOp.load (.ptr tid tv 0) rfl ((hf 2 rfl).trans s50) ty_54 (hM _ _ h68) rfl ⟨rfl, hN⟩⟩) ?_
   refine STR.op rfl rfl (.inl ⟨rfl, fun H1 f' H' hf hN hM => AOp.load (.ptr tid tv 0) rfl ((hf 2 rfl).trans s50) ty_54 (hM _ _ h68) rfl ⟨rfl, hN⟩⟩) ?_
   refine STR.op rfl rfl (.inl ⟨rfl, fun H1 f' H' hf hN hM => AOp.nilCheck (.ptr tid tv 0) rfl ((hf 46 rfl).trans rfl) rfl ⟨rfl, hN⟩⟩) ?_
   refine STR.op rfl rfl (.inl ⟨rfl, fun H1 f' H' hf hN hM => AOp.fieldAddr rfl ((hf 47 rfl).trans rfl) fl_56_0 ⟨rfl, hN⟩ (hid := ⟨_, (hM _ _ h66)⟩)⟩) ?_
   refine STR.op rfl rfl (.inl ⟨rfl, fun H1 f' H' hf hN hM => AOp.fieldAddr rfl ((hf 48 rfl).trans rfl) fl_29_0 ⟨rfl, hN⟩ (hid := ⟨_, (hM _ _ h66)⟩)⟩) ?_
   refine STR.op rfl rfl (.inl ⟨rfl, fun H1 f' H' hf hN hM => AOp.load (Nv) rfl ((hf 49 rfl).trans rfl) ty_26 (hM _ _ h66) rfl ⟨rfl, hN⟩⟩) ?_
   refine STR.op rfl rfl (.inl ⟨rfl, fun H1 f' H' hf hN hM => AOp.load (.agg [.int .i64 (((hullFrom bx (at_ bx (at_ its 0)) (its.take i.toNat)).Lo).X), .int .i64 (((hullFrom bx (at_ bx (at_ its 0)) (its.take i.toNat)).Lo).Y), .int .i64 (((hullFrom bx (at_ bx (at_ its 0)) (its.take i.toNat)).Lo).Z), .int .i64 (((hullFrom bx (at_ bx (at_ its 0)) (its.take i.toNat)).Hi).X), .int .i64 (((hullFrom bx (at_ bx (at_ its 0)) (its.take i.toNat)).Hi).Y), .int .i64 (((hullFrom bx (at_ bx (at_ its 0)) (its.take i.toNat)).Hi).Z), .int .i64 0, .int .i64 0, .int .i64 0, .int .i64 0]) rfl ((hf 5 rfl).trans s52) ty_42 (hM _ _ h69) rfl ⟨rfl, hN⟩⟩) ?_
   refine STR.eff rfl rfl rfl fun f91 H92 hf93 m94 => ?_
   have h95 := m94 _ _ h66
   have h96 := m94 _ _ h67
   have h97 := m94 _ _ h68
   have h98 := m94 _ _ h69
   have o99 := Own.mono o55 m94
   have o100 := Own.mono o56 m94
   have m101 := m70.trans m94
   refine AOp.buildSlice (cells := [.int .i64 (((hullFrom bx (at_ bx (at_ its 0)) (its.take i.toNat)).Lo).X), .int .i64 (((hullFrom bx (at_ bx (at_ its 0)) (its.take i.toNat)).Lo).Y), .int .i64 (((hullFrom bx (at_ bx (at_ its 0)) (its.take i.toNat)).Lo).Z), .int .i64 (((hullFrom bx (at_ bx (at_ its 0)) (its.take i.toNat)).Hi).X), .int .i64 (((hullFrom bx (at_ bx (at_ its 0)) (its.take i.toNat)).Hi).Y), .int .i64 (((hullFrom bx (at_ bx (at_ its 0)) (its.take i.toNat)).Hi).Z), .int .i64 0, .int .i64 0, .int .i64 0, .int .i64 0]) rfl u_26 ts_42 tz_42 rfl (lconsP ((hf93 51 rfl).trans rfl) rfl) rfl ?_
   intro i102 H103 n104 h105 k106
   have e107 := ne_new h95 n104
   have e108 := ne_new h96 n104
   have e109 := ne_new h97 n104
   have e110 := ne_new h98 n104
   have z111 := Mono.free m101 n104
   have h112 := keep k106 (ne_new h95 n104) h95
   have h113 := keep k106 (ne_new h96 n104) h96
   have h114 := keep k106 (ne_new h97 n104) h97
   have h115 := keep k106 (ne_new h98 n104) h98
   have o116 := Own.keep o99 k106 (Own.notnew o99 n104)
   have no117 := Own.notnew o99 n104
   have o118 := Own.keep o100 k106 (Own.notnew o100 n104)
   have no119 := Own.notnew o100 n104
   have m120 := Mono.new m101 n104 k106
   refine ⟨_, rfl, .inl (Mono.new (Mono.refl _) n104 k106), ?_⟩
   refine STR.eff rfl rfl rfl fun f121 H122 hf123 m124 => ?_
   have h125 := m124 _ _ h112
   have h126 := m124 _ _ h113
   have h127 := m124 _ _ h114
   have h128 := m124 _ _ h115
   have h129 := m124 _ _ h105
   have o130 := Own.mono o116 m124
   have o131 := Own.mono o118 m124
   have m132 := m120.trans m124
   refine AOp.append_own (es := 10) (m := 1) (len := N.length) (old := N.flatMap eNode) (cells := [.int .i64 (((hullFrom bx (at_ bx (at_ its 0)) (its.take i.toNat)).Lo).X), .int .i64 (((hullFrom bx (at_ bx (at_ its 0)) (its.take i.toNat)).Lo).Y), .int .i64 (((hullFrom bx (at_ bx (at_ its 0)) (its.take i.toNat)).Lo).Z), .int .i64 (((hullFrom bx (at_ bx (at_ its 0)) (its.take i.toNat)).Hi).X), .int .i64 (((hullFrom bx (at_ bx (at_ its 0)) (its.take i.toNat)).Hi).Y), .int .i64 (((hullFrom bx (at_ bx (at_ its 0)) (its.take i.toNat)).Hi).Z), .int .i64 0, .int .i64 0, .int .i64 0, .int .i64 0]) rfl u_26 ts_42 tzn_42 tb_42 (by decide) ni_26 ((hf123 50 rfl).trans rfl) o130 m132 ((hf123 52 rfl).trans rfl) (.slm h129 rfl) (one_of rfl) (by decide) (by first | omega | (simp; omega)) ?_
   intro v133 H134 o135 m136 k137 j138
   have o139 := Own.snocM (xs := (N : List NodeT)) (y := (NodeT.mk (hullFrom bx (at_ bx (at_ its 0)) (its.take i.toNat)) 0 0 0 0)) (e := eNode) (by simp) o135
   have h140 := (k137 _ no57 (by rw [h125]; simp)).trans h125
   have no141 := j138 _ no57 (by rw [h125]; simp)
   have h142 := (k137 _ no58 (by rw [h126]; simp)).trans h126
   have no143 := j138 _ no58 (by rw [h126]; simp)
   have h144 := (k137 _ no59 (by rw [h127]; simp)).trans h127
   have no145 := j138 _ no59 (by rw [h127]; simp)
   have h146 := (k137 _ no60 (by rw [h128]; simp)).trans h128
   have no147 := j138 _ no60 (by rw [h128]; simp)
   have sp149 := Own.sep o131 (Sep.symm sp65) j138
   have o148 := Own.stay o131 (Sep.symm sp65) k137
   refine ⟨_, rfl, .inr (RevR.skip rfl (RevR.skip rfl (RevR.skip rfl (RevR.skip rfl (RevR.skip rfl (RevR.skip rfl (RevR.skip rfl (RevR.cons rfl (.inl ⟨rfl, fun H1 f' H' hf hN hM => AOp.load (.ptr tid tv 0) rfl ((hf 2 rfl).trans s50) ty_54 (hM _ _ h144) rfl ⟨rfl, hN⟩⟩) RevR.nil)))))))), ?_⟩
   refine STR.done fun H150 m151 => ?_
   have h152 := m151 _ _ h140
   have h153 := m151 _ _ h142
   have h154 := m151 _ _ h144
   have h155 := m151 _ _ h146
   have o156 := Own.mono o148 m151
   have o157 := Own.mono o139 m151
   have m158 := m136.trans m151
   refine AOps.cons rfl rfl (AOp.nilCheck (.ptr tid tv 0) rfl rfl rfl ?_)
   refine AOps.cons rfl rfl (AOp.fieldAddr rfl rfl fl_56_0 ?_ (hid := ⟨_, h152⟩))
   refine AOps.cons rfl rfl (AOp.fieldAddr rfl rfl fl_29_0 ?_ (hid := ⟨_, h152⟩))
   refine AOps.cons rfl rfl (AOp.storeO (cells' := [v133, Iv, .sl bx.length (bx.flatMap eBox), .int .i64 leaf]) rfl rfl o157 ts_26 h152 rfl rfl ?_)
   intro H159 h160 k161
   have h163 := keep k161 (Ne.symm ti) h153
   have h164 := keep k161 (Ne.symm e6) h154
   have h165 := keep k161 (Ne.symm e22) h155
   have o166 := Own.keep o156 k161 no61
   have o167 := Own.keep o157 k161 no141
   have m168 := Mono.set m158 t0 k161
   refine AOps.nil ?_
   change AWP _ _ _ _ _ _
   refine AWP.seq ?_
   refine AWP.seq ?_
   refine AWP.region (l := [0, 1, 2, 3, 4, 5, 6]) rfl ?_
   refine AOps.cons rfl rfl (AOp.move (.slm iid iv 1 off its.length) rfl s49 ?_)
   refine AOps.cons rfl rfl (AOp.len (m := its.length) rfl rfl (.inr (.inr ⟨_, _, _, _, rfl⟩)) u_27 ?_)
   refine AOps.cons rfl rfl (AOp.load (.ptr tid tv 0) rfl s50 ty_54 h164 rfl ?_)
   refine AOps.cons rfl rfl (AOp.nilCheck (.ptr tid tv 0) rfl rfl rfl ?_)
   refine AOps.cons rfl rfl (AOp.fieldAddr rfl rfl fl_56_2 ?_ (hid := ⟨_, h160⟩))
   refine AOps.cons rfl rfl (AOp.load (.int .i64 leaf) rfl rfl ty_3 h160 rfl ?_)
   refine AOps.cons rfl rfl (AOp.bin (.bool (decide ((its.length : Int) ≤ leaf))) rfl rfl rfl rfl ?_)
   refine AOps.nil ?_
   change AWP _ _ _ _ _ _
   by_cases b169 : (its.length : Int) ≤ leaf
   ·
    refine AWP.condT rfl (decide_eq_true b169) ?_
    refine AWP.seq ?_
    refine AWP.region (l := [0, 1, 2, 3, 4, 5, 6, 7, 8, 9, 10, 11]) rfl ?_
    refine AOps.cons rfl rfl (AOp.load (.ptr tid tv 0) rfl s50 ty_54 h164 rfl ?_)
    refine AOps.cons rfl rfl (AOp.nilCheck (.ptr tid tv 0) rfl rfl rfl ?_)
    refine AOps.cons rfl rfl (AOp.fieldAddr rfl rfl fl_56_0 ?_ (hid := ⟨_, h160⟩))
    refine AOps.cons rfl rfl (AOp.fieldAddr rfl rfl fl_29_1 ?_ (hid := ⟨_, h160⟩))
    refine AOps.cons rfl rfl (AOp.load (Iv) rfl rfl ty_27 h160 rfl ?_)
    refine AOps.cons rfl rfl (AOp.len_own (m := I.length) rfl rfl o166 u_27 ?_)
    refine AOps.cons rfl rfl (AOp.move (.slm iid iv 1 off its.length) rfl s49 ?_)
    refine AOps.cons rfl rfl (AOp.len (m := its.length) rfl rfl (.inr (.inr ⟨_, _, _, _, rfl⟩)) u_27 ?_)
    refine AOps.cons rfl rfl (AOp.fieldAddr rfl s52 fl_42_3 ?_ (hid := ⟨_, h165⟩))
    refine AOps.cons rfl rfl (AOp.store' (cells' := [.int .i64 (((hullFrom bx (at_ bx (at_ its 0)) (its.take i.toNat)).Lo).X), .int .i64 (((hullFrom bx (at_ bx (at_ its 0)) (its.take i.toNat)).Lo).Y), .int .i64 (((hullFrom bx (at_ bx (at_ its 0)) (its.take i.toNat)).Lo).Z), .int .i64 (((hullFrom bx (at_ bx (at_ its 0)) (its.take i.toNat)).Hi).X), .int .i64 (((hullFrom bx (at_ bx (at_ its 0)) (its.take i.toNat)).Hi).Y), .int .i64 (((hullFrom bx (at_ bx (at_ its 0)) (its.take i.toNat)).Hi).Z), .int .i64 0, .int .i64 0, .int .i64 (I.length : Int), .int .i64 0]) (.int .i64 (I.length : Int)) rfl rfl ts_3 h165 rfl rfl rfl rfl ?_)
    intro H170 h171 k172
    have h173 := keep k172 e23 h163
    have h174 := keep k172 e24 h164
    have h176 := keep k172 e22 h160
    have o177 := Own.keep o166 k172 no64
    have o178 := Own.keep o167 k172 no147
    have m179 := Mono.set m168 z25 k172
    refine AOps.cons rfl rfl (AOp.fieldAddr rfl s52 fl_42_4 ?_ (hid := ⟨_, h171⟩))
    refine AOps.cons rfl rfl (AOp.store' (cells' := [.int .i64 (((hullFrom bx (at_ bx (at_ its 0)) (its.take i.toNat)).Lo).X), .int .i64 (((hullFrom bx (at_ bx (at_ its 0)) (its.take i.toNat)).Lo).Y), .int .i64 (((hullFrom bx (at_ bx (at_ its 0)) (its.take i.toNat)).Lo).Z), .int .i64 (((hullFrom bx (at_ bx (at_ its 0)) (its.take i.toNat)).Hi).X), .int .i64 (((hullFrom bx (at_ bx (at_ its 0)) (its.take i.toNat)).Hi).Y), .int .i64 (((hullFrom bx (at_ bx (at_ its 0)) (its.take i.toNat)).Hi).Z), .int .i64 0, .int .i64 0, .int .i64 (I.length : Int), .int .i64 (its.length : Int)]) (.int .i64 (its.length : Int)) rfl rfl ts_3 h171 rfl rfl rfl rfl ?_)
    intro H180 h181 k182
    have h183 := keep k182 e23 h173
    have h184 := keep k182 e24 h174
    have h185 := keep k182 e22 h176
    have o187 := Own.keep o177 k182 no64
    have o188 := Own.keep o178 k182 no147
    have m189 := Mono.set m179 z25 k182
    refine AOps.nil ?_
    change AWP _ _ _ _ _ _
    refine AWP.region_str mixed (by kernel_rfl) [(0, none), (1, none), (2, none), (3, none), (4, none), (5, none), (6, none), (7, some [0])] [8, 9, 10, 11] (by kernel_rfl) ?_
    refine STR.op rfl rfl (.inl ⟨rfl, fun H1 f' H' hf hN hM => AOp.load (.ptr tid tv 0) rfl ((hf 2 rfl).trans s50) ty_54 (hM _ _ h184) rfl ⟨rfl, hN⟩⟩) ?_
    refine STR.op rfl rfl (.inl ⟨rfl, fun H1 f' H' hf hN hM => AOp.load (.ptr tid tv 0) rfl ((hf 2 rfl).trans s50) ty_54 (hM _ _ h184) rfl ⟨rfl, hN⟩⟩) ?_
    refine STR.op rfl rfl (.inl ⟨rfl, fun H1 f' H' hf hN hM => AOp.nilCheck (.ptr tid tv 0) rfl ((hf 75 rfl).trans rfl) rfl ⟨rfl, hN⟩⟩) ?_
    refine STR.op rfl rfl (.inl ⟨rfl, fun H1 f' H' hf hN hM => AOp.fieldAddr rfl ((hf 76 rfl).trans rfl) fl_56_0 ⟨rfl, hN⟩ (hid := ⟨_, (hM _ _ h185)⟩)⟩) ?_
    refine STR.op rfl rfl (.inl ⟨rfl, fun H1 f' H' hf hN hM => AOp.fieldAddr rfl ((hf 77 rfl).trans rfl) fl_29_1 ⟨rfl, hN⟩ (hid := ⟨_, (hM _ _ h185)⟩)⟩) ?_
    refine STR.op rfl rfl (.inl ⟨rfl, fun H1 f' H' hf hN hM => AOp.load (Iv) rfl ((hf 78 rfl).trans rfl) ty_27 (hM _ _ h185) rfl ⟨rfl, hN⟩⟩) ?_
    refine STR.op rfl rfl (.inl ⟨rfl, fun H1 f' H' hf hN hM => AOp.move (.slm iid iv 1 off its.length) rfl ((hf 1 rfl).trans s49) ⟨rfl, hN⟩⟩) ?_
    refine STR.eff rfl rfl rfl fun f190 H191 hf192 m193 => ?_
    have h194 := m193 _ _ h183
    have h195 := m193 _ _ h184
    have h196 := m193 _ _ h185
    have h197 := m193 _ _ h181
    have o198 := Own.mono o187 m193
    have o199 := Own.mono o188 m193
    have m200 := m189.trans m193
    refine AOp.append_any (es := 1) (m := its.length) (len := I.length) (old := I.map eI) (cells := (its).map eI) rfl u_27 ts_3 tzn_3 tb_3 (by decide) ni_27 ((hf192 79 rfl).trans rfl) o198 m200 ((hf192 80 rfl).trans rfl) (Src.seg h194 hoff rfl) (by exact one_map eI_one)  (by first | omega | (simp; omega)) ?_
    intro v201 H202 o203 m204 k205 j206
    have o207 := Own.app1 (xs := (I : List Int)) (ys := its) (e := eI) (by simp) o203
    have h208 := (k205 _ no62 (by rw [h194]; simp)).trans h194
    have no209 := j206 _ no62 (by rw [h194]; simp)
    have h210 := (k205 _ no63 (by rw [h195]; simp)).trans h195
    have no211 := j206 _ no63 (by rw [h195]; simp)
    have h212 := (k205 _ no61 (by rw [h196]; simp)).trans h196
    have no213 := j206 _ no61 (by rw [h196]; simp)
    have h214 := (k205 _ no64 (by rw [h197]; simp)).trans h197
    have no215 := j206 _ no64 (by rw [h197]; simp)
    have sp217 := Own.sep o199 (Sep.symm sp149) j206
    have o216 := Own.stay o199 (Sep.symm sp149) k205
    refine ⟨_, rfl, .inr (RevR.skip rfl (RevR.skip rfl (RevR.skip rfl (RevR.skip rfl (RevR.skip rfl (RevR.skip rfl (RevR.cons rfl (.inl ⟨rfl, fun H1 f' H' hf hN hM => AOp.load (.ptr tid tv 0) rfl ((hf 2 rfl).trans s50) ty_54 (hM _ _ h210) rfl ⟨rfl, hN⟩⟩) RevR.nil))))))), ?_⟩
    refine STR.done fun H218 m219 => ?_
    have h220 := m219 _ _ h208
    have h221 := m219 _ _ h210
    have h222 := m219 _ _ h212
    have h223 := m219 _ _ h214
    have o224 := Own.mono o216 m219
    have o225 := Own.mono o207 m219
    have m226 := m204.trans m219
    refine AOps.cons rfl rfl (AOp.nilCheck (.ptr tid tv 0) rfl rfl rfl ?_)
    refine AOps.cons rfl rfl (AOp.fieldAddr rfl rfl fl_56_0 ?_ (hid := ⟨_, h222⟩))
    refine AOps.cons rfl rfl (AOp.fieldAddr rfl rfl fl_29_1 ?_ (hid := ⟨_, h222⟩))
    refine AOps.cons rfl rfl (AOp.storeO (cells' := [v133, v201, .sl bx.length (bx.flatMap eBox), .int .i64 leaf]) rfl rfl o225 ts_27 h222 rfl rfl ?_)
    intro H227 h228 k229
    have h230 := keep k229 (Ne.symm ti) h220
    have h231 := keep k229 (Ne.symm e6) h221
    have h233 := keep k229 (Ne.symm e22) h223
    have o234 := Own.keep o224 k229 no141
    have o235 := Own.keep o225 k229 no213
    have m236 := Mono.set m226 t0 k229
    refine AOps.nil ?_
    change AWP _ _ _ _ _ _
    refine AWP.seq ?_
    have hnl : N.length < (N ++ [(NodeT.mk (hullFrom bx (at_ bx (at_ its 0)) (its.take i.toNat)) 0 0 0 0)]).length := by simp only [List.length_append, List.length_cons, List.length_nil]; omega
    refine AWP.region_quiet mixed (by kernel_rfl) 8 [8] rfl (by kernel_rfl) (Mono H227) (Mono.refl _) ?_
    refine QE.op rfl rfl (.inl ⟨rfl, fun f' H' hf hM => AOp.load (.ptr tid tv 0) rfl ((hf 2 rfl).trans s50) ty_54 (hM _ _ h231) rfl ⟨rfl, hM⟩⟩) ?_
    refine QE.op rfl rfl (.inl ⟨rfl, fun f' H' hf hM => AOp.nilCheck (.ptr tid tv 0) rfl ((hf 107 rfl).trans rfl) rfl ⟨rfl, hM⟩⟩) ?_
    refine QE.op rfl rfl (.inl ⟨rfl, fun f' H' hf hM => AOp.fieldAddr rfl ((hf 108 rfl).trans rfl) fl_56_0 ⟨rfl, hM⟩ (hid := ⟨_, (hM _ _ h228)⟩)⟩) ?_
    refine QE.op rfl rfl (.inl ⟨rfl, fun f' H' hf hM => AOp.fieldAddr rfl ((hf 109 rfl).trans rfl) fl_29_0 ⟨rfl, hM⟩ (hid := ⟨_, (hM _ _ h228)⟩)⟩) ?_
    refine QE.op rfl rfl (.inl ⟨rfl, fun f' H' hf hM => AOp.load (v133) rfl ((hf 110 rfl).trans rfl) ty_26 (hM _ _ h228) rfl ⟨rfl, hM⟩⟩) ?_
    refine QE.op rfl rfl (.inl ⟨rfl, fun f' H' hf hM => AOp.move (.int .i64 (N.length : Int)) rfl ((hf 8 rfl).trans rfl) ⟨rfl, hM⟩⟩) ?_
    refine QE.op rfl rfl (.inl ⟨rfl, fun f' H' hf hM => AOp.load (.agg [.int .i64 (((hullFrom bx (at_ bx (at_ its 0)) (its.take i.toNat)).Lo).X), .int .i64 (((hullFrom bx (at_ bx (at_ its 0)) (its.take i.toNat)).Lo).Y), .int .i64 (((hullFrom bx (at_ bx (at_ its 0)) (its.take i.toNat)).Lo).Z), .int .i64 (((hullFrom bx (at_ bx (at_ its 0)) (its.take i.toNat)).Hi).X), .int .i64 (((hullFrom bx (at_ bx (at_ its 0)) (its.take i.toNat)).Hi).Y), .int .i64 (((hullFrom bx (at_ bx (at_ its 0)) (its.take i.toNat)).Hi).Z), .int .i64 0, .int .i64 0, .int .i64 (I.length : Int), .int .i64 (its.length : Int)]) rfl ((hf 5 rfl).trans s52) ty_42 (hM _ _ h233) rfl ⟨rfl, hM⟩⟩) ?_
    obtain ⟨i237, ver238, e239, h240, _, _⟩ := Own.pos o234 (by omega)
    refine QE.op rfl rfl (.inl ⟨rfl, fun f' H' hf hM => AOp.indexAddrO rfl (Eq.trans ((hf 111 rfl).trans rfl) e239) ((hf 112 rfl).trans rfl) sl_26 (by omega) (by omega) (hM _ _ h240) ⟨rfl, hM⟩⟩) ?_
    refine QE.done fun H241 m242 => ?_
    have h243 := m242 _ _ h230
    have h244 := m242 _ _ h231
    have h245 := m242 _ _ h233
    have h246 := m242 _ _ h228
    have o247 := Own.mono o234 m242
    have o248 := Own.mono o235 m242
    have m249 := m236.trans m242
    refine AOps.cons rfl rfl (AOp.store' (cells' := ((N ++ [(NodeT.mk (hullFrom bx (at_ bx (at_ its 0)) (its.take i.toNat)) 0 0 0 0)]).set (N.length : Int).toNat (NodeT.mk (hullFrom bx (at_ bx (at_ its 0)) (its.take i.toNat)) 0 0 (I.length : Int) (its.length : Int))).flatMap eNode) (.agg [.int .i64 (((hullFrom bx (at_ bx (at_ its 0)) (its.take i.toNat)).Lo).X), .int .i64 (((hullFrom bx (at_ bx (at_ its 0)) (its.take i.toNat)).Lo).Y), .int .i64 (((hullFrom bx (at_ bx (at_ its 0)) (its.take i.toNat)).Lo).Z), .int .i64 (((hullFrom bx (at_ bx (at_ its 0)) (its.take i.toNat)).Hi).X), .int .i64 (((hullFrom bx (at_ bx (at_ its 0)) (its.take i.toNat)).Hi).Y), .int .i64 (((hullFrom bx (at_ bx (at_ its 0)) (its.take i.toNat)).Hi).Z), .int .i64 0, .int .i64 0, .int .i64 (I.length : Int), .int .i64 (its.length : Int)]) rfl rfl ts_42 (Own.at_ e239 o247).1 rfl rfl (blelen (flatMap_length eNode_len _) (by omega)) (wr_setM (xs := (N ++ [(NodeT.mk (hullFrom bx (at_ bx (at_ its 0)) (its.take i.toNat)) 0 0 0 0)])) (i := (N.length : Int)) (v := (NodeT.mk (hullFrom bx (at_ bx (at_ its 0)) (its.take i.toNat)) 0 0 (I.length : Int) (its.length : Int))) eNode_len (by omega) (by omega)) ?_)
    intro H250 h251 k252
    have h253 := (k252 _ (NotId.ne no143 e239)).trans h243
    have h254 := (k252 _ (NotId.ne no145 e239)).trans h244
    have h255 := (k252 _ (NotId.ne no147 e239)).trans h245
    have h256 := (k252 _ (NotId.ne no141 e239)).trans h246
    have o257 := Own.store e239 o247 h251 (len' := (((N ++ [(NodeT.mk (hullFrom bx (at_ bx (at_ its 0)) (its.take i.toNat)) 0 0 0 0)]).set (N.length : Int).toNat (NodeT.mk (hullFrom bx (at_ bx (at_ its 0)) (its.take i.toNat)) 0 0 (I.length : Int) (its.length : Int)))).length) (by rw [List.length_set]) (by rw [flatMap_length eNode_len, List.length_set])
    have m258 := Mono.set m249 (Own.at_ e239 o247).2.1 k252
    have o259 := Own.stay o248 (Sep.symm sp217) (fun i hi _ => k252 i (NotId.ne hi e239))
    refine AOps.nil ?_
    change AWP _ _ _ _ _ _
    refine AWP.seq ?_
    refine AWP.region (l := [0, 1]) rfl ?_
    refine AOps.cons rfl rfl (AOp.move (.int .i64 (N.length : Int)) rfl rfl ?_)
    refine AOps.cons rfl rfl (AOp.assign (.int .i64 (N.length : Int)) rfl rfl ?_)
    refine AOps.nil ?_
    change AWP _ _ _ _ _ _
    refine AWP.ret ?_
    refine ⟨_, _, Ghost.refl, .inr rfl, _, Res.one rfl rfl, ?_⟩
    have hT := growT_leaf (bx := bx) (leaf := leaf) (f := f) (its := its) b169
    rw [hT]
    have hNN : (((N ++ [(NodeT.mk (hullFrom bx (at_ bx (at_ its 0)) (its.take i.toNat)) 0 0 0 0)]).set (N.length : Int).toNat (NodeT.mk (hullFrom bx (at_ bx (at_ its 0)) (its.take i.toNat)) 0 0 (I.length : Int) (its.length : Int)))) = N ++ flatN (BT.leaf (hull bx its) its) N.length I.length := by exact grow_leafN (hull_end (by omega))
    have hII : (I ++ its) = I ++ BT.items (BT.leaf (hull bx its) its) := by rfl
    exact ⟨rfl, v133, v201, its, rfl, ⟨m258, t0, i0, ti, h256, h253, (Own.re o257 (by rw [hNN]) (by rw [hNN])), (Own.re o259 (by rw [hII]) (by rw [hII])), sp217, no141, no143, no213, no209⟩⟩
   ·
    refine AWP.condF rfl (decide_eq_false b169) ?_
    refine AWP.seq ?_
    obtain ⟨g_, hg_⟩ : ∃ g_, g_ + 1 = f := grow_pos hlf hp (by have := b169; omega)
    obtain ⟨htk, hdk, htne, hdne, htp, hdp, htl, hdl, htin, hdin⟩ := grow_halves (bx := bx) (a := axisR bx its) hg_ hp hl hin (by omega)
    have hgt := growT_size bx leaf hlf g_ _ htne
    have hgd := growT_size bx leaf hlf g_ _ hdne
    rw [htk] at hgt
    rw [hdk] at hgd
    refine AWP.region (l := [0, 1, 2, 3, 4]) rfl ?_
    refine AOps.cons rfl rfl (AOp.load (.ptr tid tv 0) rfl s50 ty_54 h164 rfl ?_)
    refine AOps.cons rfl rfl (AOp.move (.slm iid iv 1 off its.length) rfl s49 ?_)
    refine AOps.cons rfl rfl (AOp.pcallH («as» := [.ptr tid tv 0, .slm iid iv 1 off its.length]) rfl rfl (rfl) tf_28 (c_axisL bx hok leaf its hl hne hin h160 h163 hoff) ?_)
    intro H260 m261
    have h262 := m261 _ _ h163
    have h263 := m261 _ _ h164
    have h264 := m261 _ _ h165
    have h265 := m261 _ _ h160
    have o266 := Own.mono o166 m261
    have o267 := Own.mono o167 m261
    have m268 := m168.trans m261
    refine AOps.cons rfl rfl (AOp.alloc rfl tz_3 ?_)
    intro i269 H270 n271 h272 k273
    have e274 := ne_new h262 n271
    have e275 := ne_new h263 n271
    have e276 := ne_new h264 n271
    have e277 := ne_new h265 n271
    have z278 := Mono.free m268 n271
    have h279 := keep k273 (ne_new h262 n271) h262
    have h280 := keep k273 (ne_new h263 n271) h263
    have h281 := keep k273 (ne_new h264 n271) h264
    have h282 := keep k273 (ne_new h265 n271) h265
    have o283 := Own.keep o266 k273 (Own.notnew o266 n271)
    have no284 := Own.notnew o266 n271
    have o285 := Own.keep o267 k273 (Own.notnew o267 n271)
    have no286 := Own.notnew o267 n271
    have m287 := Mono.new m268 n271 k273
    refine AOps.cons rfl rfl (AOp.store' (cells' := [.int .i64 (axisR bx its)]) (.int .i64 (axisR bx its)) rfl rfl ts_3 h272 rfl rfl rfl rfl ?_)
    intro H288 h289 k290
    have h291 := keep k290 e274 h279
    have h292 := keep k290 e275 h280
    have h293 := keep k290 e276 h281
    have h294 := keep k290 e277 h282
    have o296 := Own.keep o283 k290 no284
    have o297 := Own.keep o285 k290 no286
    have m298 := Mono.set m287 z278 k290
    refine AOps.nil ?_
    change AWP _ _ _ _ _ _
    refine AWP.seq ?_
    refine AWP.region (l := [0, 1, 2]) rfl ?_
    refine AOps.cons rfl rfl (AOp.move (.slm iid iv 1 off its.length) rfl s49 ?_)
    refine AOps.cons rfl rfl (AOp.makeFunc (cs := [.ptr i1 0 0, .ptr i269 0 0]) rfl (lcons s50 (lcons rfl rfl)) ?_)
    refine AOps.cons rfl rfl (AOp.xcall («as» := [.slm iid iv 1 off its.length, .fn 30 [.ptr i1 0 0, .ptr i269 0 0]]) rfl rfl (rfl) tf_29 (c_sort bx hok leaf (axisR bx its) (axisR_rng bx its) its hl hne hin h294 h291 hoff h292 h289 ti (Ne.symm e7) (Ne.symm e274)) ?_)
    rintro _ H299 ⟨rfl, h300, k301⟩
    have h303 := keep k301 (Ne.symm e7) h292
    have h304 := keep k301 (Ne.symm e23) h293
    have h305 := keep k301 ti h294
    have h306 := keep k301 (Ne.symm e274) h289
    have o307 := Own.keep o296 k301 no62
    have o308 := Own.keep o297 k301 no143
    have m309 := Mono.set m298 i0 k301
    refine AOps.nil ?_
    change AWP _ _ _ _ _ _
    refine AWP.seq ?_
    refine AWP.region (l := [0, 1, 2, 3, 4]) rfl ?_
    refine AOps.cons rfl rfl (AOp.move (.slm iid iv 1 off its.length) rfl s49 ?_)
    refine AOps.cons rfl rfl (AOp.len (m := its.length) rfl rfl (.inr (.inr ⟨_, _, _, _, rfl⟩)) u_27 ?_)
    refine AOps.cons rfl rfl (AOp.bin (.int .i64 ((its.length : Int) + 1)) rfl rfl rfl (iadd (by omega)) ?_)
    refine AOps.cons rfl rfl (AOp.quoP rfl rfl rfl (by omega) ?_)
    refine AOps.cons rfl rfl (AOp.assign (.int .i64 (((its.length : Int) + 1) / 2)) rfl rfl ?_)
    refine AOps.nil ?_
    change AWP _ _ _ _ _ _
    refine AWP.seq ?_
    refine AWP.region_quiet mixed (by kernel_rfl) 4 [4, 5, 6] rfl (by kernel_rfl) (Mono H299) (Mono.refl _) ?_
    refine QE.op rfl rfl (.inl ⟨rfl, fun f' H' hf hM => AOp.load (.ptr tid tv 0) rfl ((hf 2 rfl).trans s50) ty_54 (hM _ _ h303) rfl ⟨rfl, hM⟩⟩) ?_
    refine QE.op rfl rfl (.inl ⟨rfl, fun f' H' hf hM => AOp.move (.slm iid iv 1 off its.length) rfl ((hf 1 rfl).trans s49) ⟨rfl, hM⟩⟩) ?_
    refine QE.op rfl rfl (.inl ⟨rfl, fun f' H' hf hM => AOp.move (.int .i64 (((its.length : Int) + 1) / 2)) rfl ((hf 10 rfl).trans rfl) ⟨rfl, hM⟩⟩) ?_
    refine QE.op rfl rfl (.inl ⟨rfl, fun f' H' hf hM => AOp.sliceM (l := 0) (h := ((its.length : Int) + 1) / 2) rfl ((hf 96 rfl).trans rfl) ⟨_, (hM _ _ h300)⟩ sl_27 rfl (hi_of ((hf 97 rfl).trans rfl)) (by omega) (by omega) (by omega) (by omega) ⟨rfl, hM⟩⟩) ?_
    refine QE.done fun H310 m311 => ?_
    have h312 := m311 _ _ h303
    have h313 := m311 _ _ h304
    have h314 := m311 _ _ h305
    have h315 := m311 _ _ h306
    have h316 := m311 _ _ h300
    have o317 := Own.mono o307 m311
    have o318 := Own.mono o308 m311
    have m319 := m309.trans m311
    have g320 : GS B tid tv iid iv bx leaf pre (isort (keyLt bx (axisR bx its)) its) post (N ++ [(NodeT.mk (hullFrom bx (at_ bx (at_ its 0)) (its.take i.toNat)) 0 0 0 0)]) I v133 Iv H310 := ⟨m319, t0, i0, ti, h314, h316, o318, o317, (Sep.symm sp149), no141, no143, no61, no62⟩
    have g321 := GS.down (pre' := pre) (its' := ((isort (keyLt bx (axisR bx its)) its).take ((its.length + 1) / 2))) (post' := (((isort (keyLt bx (axisR bx its)) its).drop ((its.length + 1) / 2)).map eI ++ post)) g320 (by rw [← List.append_assoc (List.map eI _), ← List.map_append, List.take_append_drop])
    have hoff1 : off + (0 : Int).toNat * 1 = pre.length := by simpa using hoff
    have hN322 := ih g_ hg_ ((isort (keyLt bx (axisR bx its)) its).take ((its.length + 1) / 2)) htne htp htl htin (B := baseOf H310 [tid, iid] v133 Iv) (H := H310) hoff1 (by simp only [List.length_append, List.length_cons, List.length_nil, flatN_len]; omega) (by first | omega | (simp only [List.length_append, growT_len]; omega)) g321
    rw [htk] at hN322
    refine AOps.cons rfl rfl (AOp.xcall («as» := [.ptr tid tv 0, .slm iid iv 1 (off + (0 : Int).toNat * 1) ((((its.length : Int) + 1) / 2).toNat - (0 : Int).toNat)]) rfl rfl (rfl) tf_20 (by have hc := hN322; rw [show ((its.length + 1) / 2) = ((((its.length : Int) + 1) / 2).toNat - (0 : Int).toNat) from by omega] at hc; exact hc) ?_)
    rintro _ H323 ⟨rfl, v324, v325, l326, hl327, g328⟩
    have g329 := GS.up g320 g328
    have q330 := GS.other g328 h312 (Ne.symm e6) (Ne.symm e7) no145 no63
    have q331 := GS.other g328 h313 (Ne.symm e22) (Ne.symm e23) no147 no64
    have q332 := GS.other g328 h315 (Ne.symm e277) (Ne.symm e274) no286 no284
    refine AOps.cons rfl rfl (AOp.fieldAddr rfl s52 fl_42_1 ?_ (hid := ⟨_, q331.1⟩))
    refine AOps.cons rfl rfl (AOp.store' (cells' := [.int .i64 (((hullFrom bx (at_ bx (at_ its 0)) (its.take i.toNat)).Lo).X), .int .i64 (((hullFrom bx (at_ bx (at_ its 0)) (its.take i.toNat)).Lo).Y), .int .i64 (((hullFrom bx (at_ bx (at_ its 0)) (its.take i.toNat)).Lo).Z), .int .i64 (((hullFrom bx (at_ bx (at_ its 0)) (its.take i.toNat)).Hi).X), .int .i64 (((hullFrom bx (at_ bx (at_ its 0)) (its.take i.toNat)).Hi).Y), .int .i64 (((hullFrom bx (at_ bx (at_ its 0)) (its.take i.toNat)).Hi).Z), .int .i64 ((N ++ [(NodeT.mk (hullFrom bx (at_ bx (at_ its 0)) (its.take i.toNat)) 0 0 0 0)]).length : Int), .int .i64 0, .int .i64 0, .int .i64 0]) (.int .i64 ((N ++ [(NodeT.mk (hullFrom bx (at_ bx (at_ its 0)) (its.take i.toNat)) 0 0 0 0)]).length : Int)) rfl rfl ts_3 q331.1 rfl rfl rfl rfl ?_)
    intro H333 h334 k335
    have h336 := keep k335 e24 q330.1
    have h338 := keep k335 (Ne.symm e276) q332.1
    have h339 := keep k335 e22 g329.ht
    have h340 := keep k335 e23 g329.hi
    have o341 := Own.keep g329.oN k335 q331.2.1
    have o342 := Own.keep g329.oI k335 q331.2.2
    have m343 := Mono.set g329.hm z25 k335
    refine AOps.nil ?_
    change AWP _ _ _ _ _ _
    refine AWP.region_quiet mixed (by kernel_rfl) 4 [4, 5, 6] rfl (by kernel_rfl) (Mono H333) (Mono.refl _) ?_
    refine QE.op rfl rfl (.inl ⟨rfl, fun f' H' hf hM => AOp.load (.ptr tid tv 0) rfl ((hf 2 rfl).trans s50) ty_54 (hM _ _ h336) rfl ⟨rfl, hM⟩⟩) ?_
    refine QE.op rfl rfl (.inl ⟨rfl, fun f' H' hf hM => AOp.move (.slm iid iv 1 off its.length) rfl ((hf 1 rfl).trans s49) ⟨rfl, hM⟩⟩) ?_
    refine QE.op rfl rfl (.inl ⟨rfl, fun f' H' hf hM => AOp.move (.int .i64 (((its.length : Int) + 1) / 2)) rfl ((hf 10 rfl).trans rfl) ⟨rfl, hM⟩⟩) ?_
    refine QE.op rfl rfl (.inl ⟨rfl, fun f' H' hf hM => AOp.sliceM (l := ((its.length : Int) + 1) / 2) (h := (its.length : Int)) rfl ((hf 102 rfl).trans rfl) ⟨_, (hM _ _ h340)⟩ sl_27 (lo_of ((hf 103 rfl).trans rfl)) rfl (by omega) (by omega) (by omega) (by omega) ⟨rfl, hM⟩⟩) ?_
    refine QE.done fun H344 m345 => ?_
    have h346 := m345 _ _ h336
    have h347 := m345 _ _ h338
    have h348 := m345 _ _ h339
    have h349 := m345 _ _ h340
    have h350 := m345 _ _ h334
    have o351 := Own.mono o341 m345
    have o352 := Own.mono o342 m345
    have m353 := m343.trans m345
    have g354 : GS B tid tv iid iv bx leaf pre l326 (((isort (keyLt bx (axisR bx its)) its).drop ((its.length + 1) / 2)).map eI ++ post) ((N ++ [(NodeT.mk (hullFrom bx (at_ bx (at_ its 0)) (its.take i.toNat)) 0 0 0 0)]) ++ flatN (growT bx leaf g_ ((isort (keyLt bx (axisR bx its)) its).take ((its.length + 1) / 2))) (N ++ [(NodeT.mk (hullFrom bx (at_ bx (at_ its 0)) (its.take i.toNat)) 0 0 0 0)]).length I.length) (I ++ (growT bx leaf g_ ((isort (keyLt bx (axisR bx its)) its).take ((its.length + 1) / 2))).items) v324 v325 H344 := ⟨m353, t0, i0, ti, h348, h349, o351, o352, g329.sep, g329.nt, g329.ni, g329.it, g329.ii⟩
    have g355 := GS.down (pre' := (pre ++ l326.map eI)) (its' := ((isort (keyLt bx (axisR bx its)) its).drop ((its.length + 1) / 2))) (post' := post) g354 (by rw [List.append_assoc])
    have hoff2 : off + (((its.length : Int) + 1) / 2).toNat * 1 = (pre ++ l326.map eI).length := by rw [List.length_append, List.length_map, hl327]; omega
    have hN356 := ih g_ hg_ ((isort (keyLt bx (axisR bx its)) its).drop ((its.length + 1) / 2)) hdne hdp hdl hdin (B := baseOf H344 [tid, iid] v324 v325) (H := H344) hoff2 (by simp only [List.length_append, List.length_cons, List.length_nil, flatN_len, growT_len]; omega) (by first | omega | (simp only [List.length_append, growT_len]; omega)) g355
    rw [hdk] at hN356
    refine AOps.cons rfl rfl (AOp.xcall («as» := [.ptr tid tv 0, .slm iid iv 1 (off + (((its.length : Int) + 1) / 2).toNat * 1) ((its.length : Int).toNat - (((its.length : Int) + 1) / 2).toNat)]) rfl rfl (rfl) tf_20 (by have hc := hN356; rw [show (its.length - ((its.length + 1) / 2)) = ((its.length : Int).toNat - (((its.length : Int) + 1) / 2).toNat) from by omega] at hc; exact hc) ?_)
    rintro _ H357 ⟨rfl, v358, v359, l360, hl361, g362⟩
    have g363 := GS.up g354 g362
    have q364 := GS.other g362 h346 (Ne.symm e6) (Ne.symm e7) q330.2.1 q330.2.2
    have q365 := GS.other g362 h347 (Ne.symm e277) (Ne.symm e274) q332.2.1 q332.2.2
    have q366 := GS.other g362 h350 (Ne.symm e22) (Ne.symm e23) q331.2.1 q331.2.2
    refine AOps.cons rfl rfl (AOp.fieldAddr rfl s52 fl_42_2 ?_ (hid := ⟨_, q366.1⟩))
    refine AOps.cons rfl rfl (AOp.store' (cells' := [.int .i64 (((hullFrom bx (at_ bx (at_ its 0)) (its.take i.toNat)).Lo).X), .int .i64 (((hullFrom bx (at_ bx (at_ its 0)) (its.take i.toNat)).Lo).Y), .int .i64 (((hullFrom bx (at_ bx (at_ its 0)) (its.take i.toNat)).Lo).Z), .int .i64 (((hullFrom bx (at_ bx (at_ its 0)) (its.take i.toNat)).Hi).X), .int .i64 (((hullFrom bx (at_ bx (at_ its 0)) (its.take i.toNat)).Hi).Y), .int .i64 (((hullFrom bx (at_ bx (at_ its 0)) (its.take i.toNat)).Hi).Z), .int .i64 ((N ++ [(NodeT.mk (hullFrom bx (at_ bx (at_ its 0)) (its.take i.toNat)) 0 0 0 0)]).length : Int), .int .i64 (((N ++ [(NodeT.mk (hullFrom bx (at_ bx (at_ its 0)) (its.take i.toNat)) 0 0 0 0)]) ++ flatN (growT bx leaf g_ ((isort (keyLt bx (axisR bx its)) its).take ((its.length + 1) / 2))) (N ++ [(NodeT.mk (hullFrom bx (at_ bx (at_ its 0)) (its.take i.toNat)) 0 0 0 0)]).length I.length).length : Int), .int .i64 0, .int .i64 0]) (.int .i64 (((N ++ [(NodeT.mk (hullFrom bx (at_ bx (at_ its 0)) (its.take i.toNat)) 0 0 0 0)]) ++ flatN (growT bx leaf g_ ((isort (keyLt bx (axisR bx its)) its).take ((its.length + 1) / 2))) (N ++ [(NodeT.mk (hullFrom bx (at_ bx (at_ its 0)) (its.take i.toNat)) 0 0 0 0)]).length I.length).length : Int)) rfl rfl ts_3 q366.1 rfl rfl rfl rfl ?_)
    intro H367 h368 k369
    have h370 := keep k369 e24 q364.1
    have h371 := keep k369 (Ne.symm e276) q365.1
    have h373 := keep k369 e22 g363.ht
    have h374 := keep k369 e23 g363.hi
    have o375 := Own.keep g363.oN k369 q366.2.1
    have o376 := Own.keep g363.oI k369 q366.2.2
    have m377 := Mono.set g363.hm z25 k369
    refine AOps.nil ?_
    change AWP _ _ _ _ _ _
    refine AWP.seq ?_
    have hnl : N.length < (((N ++ [(NodeT.mk (hullFrom bx (at_ bx (at_ its 0)) (its.take i.toNat)) 0 0 0 0)]) ++ flatN (growT bx leaf g_ ((isort (keyLt bx (axisR bx its)) its).take ((its.length + 1) / 2))) (N ++ [(NodeT.mk (hullFrom bx (at_ bx (at_ its 0)) (its.take i.toNat)) 0 0 0 0)]).length I.length) ++ flatN (growT bx leaf g_ ((isort (keyLt bx (axisR bx its)) its).drop ((its.length + 1) / 2))) ((N ++ [(NodeT.mk (hullFrom bx (at_ bx (at_ its 0)) (its.take i.toNat)) 0 0 0 0)]) ++ flatN (growT bx leaf g_ ((isort (keyLt bx (axisR bx its)) its).take ((its.length + 1) / 2))) (N ++ [(NodeT.mk (hullFrom bx (at_ bx (at_ its 0)) (its.take i.toNat)) 0 0 0 0)]).length I.length).length (I ++ (growT bx leaf g_ ((isort (keyLt bx (axisR bx its)) its).take ((its.length + 1) / 2))).items).length).length := by simp only [List.length_append, List.length_cons, List.length_nil]; omega
    refine AWP.region_quiet mixed (by kernel_rfl) 8 [8] rfl (by kernel_rfl) (Mono H367) (Mono.refl _) ?_
    refine QE.op rfl rfl (.inl ⟨rfl, fun f' H' hf hM => AOp.load (.ptr tid tv 0) rfl ((hf 2 rfl).trans s50) ty_54 (hM _ _ h370) rfl ⟨rfl, hM⟩⟩) ?_
    refine QE.op rfl rfl (.inl ⟨rfl, fun f' H' hf hM => AOp.nilCheck (.ptr tid tv 0) rfl ((hf 107 rfl).trans rfl) rfl ⟨rfl, hM⟩⟩) ?_
    refine QE.op rfl rfl (.inl ⟨rfl, fun f' H' hf hM => AOp.fieldAddr rfl ((hf 108 rfl).trans rfl) fl_56_0 ⟨rfl, hM⟩ (hid := ⟨_, (hM _ _ h373)⟩)⟩) ?_
    refine QE.op rfl rfl (.inl ⟨rfl, fun f' H' hf hM => AOp.fieldAddr rfl ((hf 109 rfl).trans rfl) fl_29_0 ⟨rfl, hM⟩ (hid := ⟨_, (hM _ _ h373)⟩)⟩) ?_
    refine QE.op rfl rfl (.inl ⟨rfl, fun f' H' hf hM => AOp.load (v358) rfl ((hf 110 rfl).trans rfl) ty_26 (hM _ _ h373) rfl ⟨rfl, hM⟩⟩) ?_
    refine QE.op rfl rfl (.inl ⟨rfl, fun f' H' hf hM => AOp.move (.int .i64 (N.length : Int)) rfl ((hf 8 rfl).trans rfl) ⟨rfl, hM⟩⟩) ?_
    refine QE.op rfl rfl (.inl ⟨rfl, fun f' H' hf hM => AOp.load (.agg [.int .i64 (((hullFrom bx (at_ bx (at_ its 0)) (its.take i.toNat)).Lo).X), .int .i64 (((hullFrom bx (at_ bx (at_ its 0)) (its.take i.toNat)).Lo).Y), .int .i64 (((hullFrom bx (at_ bx (at_ its 0)) (its.take i.toNat)).Lo).Z), .int .i64 (((hullFrom bx (at_ bx (at_ its 0)) (its.take i.toNat)).Hi).X), .int .i64 (((hullFrom bx (at_ bx (at_ its 0)) (its.take i.toNat)).Hi).Y), .int .i64 (((hullFrom bx (at_ bx (at_ its 0)) (its.take i.toNat)).Hi).Z), .int .i64 ((N ++ [(NodeT.mk (hullFrom bx (at_ bx (at_ its 0)) (its.take i.toNat)) 0 0 0 0)]).length : Int), .int .i64 (((N ++ [(NodeT.mk (hullFrom bx (at_ bx (at_ its 0)) (its.take i.toNat)) 0 0 0 0)]) ++ flatN (growT bx leaf g_ ((isort (keyLt bx (axisR bx its)) its).take ((its.length + 1) / 2))) (N ++ [(NodeT.mk (hullFrom bx (at_ bx (at_ its 0)) (its.take i.toNat)) 0 0 0 0)]).length I.length).length : Int), .int .i64 0, .int .i64 0]) rfl ((hf 5 rfl).trans s52) ty_42 (hM _ _ h368) rfl ⟨rfl, hM⟩⟩) ?_
    obtain ⟨i378, ver379, e380, h381, _, _⟩ := Own.pos o375 (by omega)
    refine QE.op rfl rfl (.inl ⟨rfl, fun f' H' hf hM => AOp.indexAddrO rfl (Eq.trans ((hf 111 rfl).trans rfl) e380) ((hf 112 rfl).trans rfl) sl_26 (by omega) (by omega) (hM _ _ h381) ⟨rfl, hM⟩⟩) ?_
    refine QE.done fun H382 m383 => ?_
    have h384 := m383 _ _ h370
    have h385 := m383 _ _ h371
    have h386 := m383 _ _ h373
    have h387 := m383 _ _ h374
    have h388 := m383 _ _ h368
    have o389 := Own.mono o375 m383
    have o390 := Own.mono o376 m383
    have m391 := m377.trans m383
    refine AOps.cons rfl rfl (AOp.store' (cells' := ((((N ++ [(NodeT.mk (hullFrom bx (at_ bx (at_ its 0)) (its.take i.toNat)) 0 0 0 0)]) ++ flatN (growT bx leaf g_ ((isort (keyLt bx (axisR bx its)) its).take ((its.length + 1) / 2))) (N ++ [(NodeT.mk (hullFrom bx (at_ bx (at_ its 0)) (its.take i.toNat)) 0 0 0 0)]).length I.length) ++ flatN (growT bx leaf g_ ((isort (keyLt bx (axisR bx its)) its).drop ((its.length + 1) / 2))) ((N ++ [(NodeT.mk (hullFrom bx (at_ bx (at_ its 0)) (its.take i.toNat)) 0 0 0 0)]) ++ flatN (growT bx leaf g_ ((isort (keyLt bx (axisR bx its)) its).take ((its.length + 1) / 2))) (N ++ [(NodeT.mk (hullFrom bx (at_ bx (at_ its 0)) (its.take i.toNat)) 0 0 0 0)]).length I.length).length (I ++ (growT bx leaf g_ ((isort (keyLt bx (axisR bx its)) its).take ((its.length + 1) / 2))).items).length).set (N.length : Int).toNat (NodeT.mk (hullFrom bx (at_ bx (at_ its 0)) (its.take i.toNat)) ((N ++ [(NodeT.mk (hullFrom bx (at_ bx (at_ its 0)) (its.take i.toNat)) 0 0 0 0)]).length : Int) (((N ++ [(NodeT.mk (hullFrom bx (at_ bx (at_ its 0)) (its.take i.toNat)) 0 0 0 0)]) ++ flatN (growT bx leaf g_ ((isort (keyLt bx (axisR bx its)) its).take ((its.length + 1) / 2))) (N ++ [(NodeT.mk (hullFrom bx (at_ bx (at_ its 0)) (its.take i.toNat)) 0 0 0 0)]).length I.length).length : Int) 0 0)).flatMap eNode) (.agg [.int .i64 (((hullFrom bx (at_ bx (at_ its 0)) (its.take i.toNat)).Lo).X), .int .i64 (((hullFrom bx (at_ bx (at_ its 0)) (its.take i.toNat)).Lo).Y), .int .i64 (((hullFrom bx (at_ bx (at_ its 0)) (its.take i.toNat)).Lo).Z), .int .i64 (((hullFrom bx (at_ bx (at_ its 0)) (its.take i.toNat)).Hi).X), .int .i64 (((hullFrom bx (at_ bx (at_ its 0)) (its.take i.toNat)).Hi).Y), .int .i64 (((hullFrom bx (at_ bx (at_ its 0)) (its.take i.toNat)).Hi).Z), .int .i64 ((N ++ [(NodeT.mk (hullFrom bx (at_ bx (at_ its 0)) (its.take i.toNat)) 0 0 0 0)]).length : Int), .int .i64 (((N ++ [(NodeT.mk (hullFrom bx (at_ bx (at_ its 0)) (its.take i.toNat)) 0 0 0 0)]) ++ flatN (growT bx leaf g_ ((isort (keyLt bx (axisR bx its)) its).take ((its.length + 1) / 2))) (N ++ [(NodeT.mk (hullFrom bx (at_ bx (at_ its 0)) (its.take i.toNat)) 0 0 0 0)]).length I.length).length : Int), .int .i64 0, .int .i64 0]) rfl rfl ts_42 (Own.at_ e380 o389).1 rfl rfl (blelen (flatMap_length eNode_len _) (by omega)) (wr_setM (xs := (((N ++ [(NodeT.mk (hullFrom bx (at_ bx (at_ its 0)) (its.take i.toNat)) 0 0 0 0)]) ++ flatN (growT bx leaf g_ ((isort (keyLt bx (axisR bx its)) its).take ((its.length + 1) / 2))) (N ++ [(NodeT.mk (hullFrom bx (at_ bx (at_ its 0)) (its.take i.toNat)) 0 0 0 0)]).length I.length) ++ flatN (growT bx leaf g_ ((isort (keyLt bx (axisR bx its)) its).drop ((its.length + 1) / 2))) ((N ++ [(NodeT.mk (hullFrom bx (at_ bx (at_ its 0)) (its.take i.toNat)) 0 0 0 0)]) ++ flatN (growT bx leaf g_ ((isort (keyLt bx (axisR bx its)) its).take ((its.length + 1) / 2))) (N ++ [(NodeT.mk (hullFrom bx (at_ bx (at_ its 0)) (its.take i.toNat)) 0 0 0 0)]).length I.length).length (I ++ (growT bx leaf g_ ((isort (keyLt bx (axisR bx its)) its).take ((its.length + 1) / 2))).items).length)) (i := (N.length : Int)) (v := (NodeT.mk (hullFrom bx (at_ bx (at_ its 0)) (its.take i.toNat)) ((N ++ [(NodeT.mk (hullFrom bx (at_ bx (at_ its 0)) (its.take i.toNat)) 0 0 0 0)]).length : Int) (((N ++ [(NodeT.mk (hullFrom bx (at_ bx (at_ its 0)) (its.take i.toNat)) 0 0 0 0)]) ++ flatN (growT bx leaf g_ ((isort (keyLt bx (axisR bx its)) its).take ((its.length + 1) / 2))) (N ++ [(NodeT.mk (hullFrom bx (at_ bx (at_ its 0)) (its.take i.toNat)) 0 0 0 0)]).length I.length).length : Int) 0 0)) eNode_len (by omega) (by omega)) ?_)
    intro H392 h393 k394
    have h395 := (k394 _ (NotId.ne q364.2.1 e380)).trans h384
    have h396 := (k394 _ (NotId.ne q365.2.1 e380)).trans h385
    have h397 := (k394 _ (NotId.ne g363.nt e380)).trans h386
    have h398 := (k394 _ (NotId.ne g363.ni e380)).trans h387
    have h399 := (k394 _ (NotId.ne q366.2.1 e380)).trans h388
    have o400 := Own.store e380 o389 h393 (len' := (((((N ++ [(NodeT.mk (hullFrom bx (at_ bx (at_ its 0)) (its.take i.toNat)) 0 0 0 0)]) ++ flatN (growT bx leaf g_ ((isort (keyLt bx (axisR bx its)) its).take ((its.length + 1) / 2))) (N ++ [(NodeT.mk (hullFrom bx (at_ bx (at_ its 0)) (its.take i.toNat)) 0 0 0 0)]).length I.length) ++ flatN (growT bx leaf g_ ((isort (keyLt bx (axisR bx its)) its).drop ((its.length + 1) / 2))) ((N ++ [(NodeT.mk (hullFrom bx (at_ bx (at_ its 0)) (its.take i.toNat)) 0 0 0 0)]) ++ flatN (growT bx leaf g_ ((isort (keyLt bx (axisR bx its)) its).take ((its.length + 1) / 2))) (N ++ [(NodeT.mk (hullFrom bx (at_ bx (at_ its 0)) (its.take i.toNat)) 0 0 0 0)]).length I.length).length (I ++ (growT bx leaf g_ ((isort (keyLt bx (axisR bx its)) its).take ((its.length + 1) / 2))).items).length).set (N.length : Int).toNat (NodeT.mk (hullFrom bx (at_ bx (at_ its 0)) (its.take i.toNat)) ((N ++ [(NodeT.mk (hullFrom bx (at_ bx (at_ its 0)) (its.take i.toNat)) 0 0 0 0)]).length : Int) (((N ++ [(NodeT.mk (hullFrom bx (at_ bx (at_ its 0)) (its.take i.toNat)) 0 0 0 0)]) ++ flatN (growT bx leaf g_ ((isort (keyLt bx (axisR bx its)) its).take ((its.length + 1) / 2))) (N ++ [(NodeT.mk (hullFrom bx (at_ bx (at_ its 0)) (its.take i.toNat)) 0 0 0 0)]).length I.length).length : Int) 0 0))).length) (by rw [List.length_set]) (by rw [flatMap_length eNode_len, List.length_set])
    have m401 := Mono.set m391 (Own.at_ e380 o389).2.1 k394
    have o402 := Own.stay o390 (Sep.symm g363.sep) (fun i hi _ => k394 i (NotId.ne hi e380))
    refine AOps.nil ?_
    change AWP _ _ _ _ _ _
    refine AWP.seq ?_
    refine AWP.region (l := [0, 1]) rfl ?_
    refine AOps.cons rfl rfl (AOp.move (.int .i64 (N.length : Int)) rfl rfl ?_)
    refine AOps.cons rfl rfl (AOp.assign (.int .i64 (N.length : Int)) rfl rfl ?_)
    refine AOps.nil ?_
    change AWP _ _ _ _ _ _
    refine AWP.ret ?_
    refine ⟨_, _, Ghost.refl, .inr rfl, _, Res.one rfl rfl, ?_⟩
    have hT := growT_node (bx := bx) (leaf := leaf) (its := its) hg_ b169
    rw [hT]
    have hNN : (((((N ++ [(NodeT.mk (hullFrom bx (at_ bx (at_ its 0)) (its.take i.toNat)) 0 0 0 0)]) ++ flatN (growT bx leaf g_ ((isort (keyLt bx (axisR bx its)) its).take ((its.length + 1) / 2))) (N ++ [(NodeT.mk (hullFrom bx (at_ bx (at_ its 0)) (its.take i.toNat)) 0 0 0 0)]).length I.length) ++ flatN (growT bx leaf g_ ((isort (keyLt bx (axisR bx its)) its).drop ((its.length + 1) / 2))) ((N ++ [(NodeT.mk (hullFrom bx (at_ bx (at_ its 0)) (its.take i.toNat)) 0 0 0 0)]) ++ flatN (growT bx leaf g_ ((isort (keyLt bx (axisR bx its)) its).take ((its.length + 1) / 2))) (N ++ [(NodeT.mk (hullFrom bx (at_ bx (at_ its 0)) (its.take i.toNat)) 0 0 0 0)]).length I.length).length (I ++ (growT bx leaf g_ ((isort (keyLt bx (axisR bx its)) its).take ((its.length + 1) / 2))).items).length).set (N.length : Int).toNat (NodeT.mk (hullFrom bx (at_ bx (at_ its 0)) (its.take i.toNat)) ((N ++ [(NodeT.mk (hullFrom bx (at_ bx (at_ its 0)) (its.take i.toNat)) 0 0 0 0)]).length : Int) (((N ++ [(NodeT.mk (hullFrom bx (at_ bx (at_ its 0)) (its.take i.toNat)) 0 0 0 0)]) ++ flatN (growT bx leaf g_ ((isort (keyLt bx (axisR bx its)) its).take ((its.length + 1) / 2))) (N ++ [(NodeT.mk (hullFrom bx (at_ bx (at_ its 0)) (its.take i.toNat)) 0 0 0 0)]).length I.length).length : Int) 0 0))) = N ++ flatN (BT.node (hull bx its) (growT bx leaf g_ ((isort (keyLt bx (axisR bx its)) its).take ((its.length + 1) / 2))) (growT bx leaf g_ ((isort (keyLt bx (axisR bx its)) its).drop ((its.length + 1) / 2)))) N.length I.length := by exact grow_nodeN (hull_end (by omega))
    have hII : ((I ++ (growT bx leaf g_ ((isort (keyLt bx (axisR bx its)) its).take ((its.length + 1) / 2))).items) ++ (growT bx leaf g_ ((isort (keyLt bx (axisR bx its)) its).drop ((its.length + 1) / 2))).items) = I ++ BT.items (BT.node (hull bx its) (growT bx leaf g_ ((isort (keyLt bx (axisR bx its)) its).take ((its.length + 1) / 2))) (growT bx leaf g_ ((isort (keyLt bx (axisR bx its)) its).drop ((its.length + 1) / 2)))) := by exact (List.append_assoc _ _ _)
    exact ⟨rfl, v358, v359, (l326 ++ l360), (by rw [List.length_append, hl327, hl361]; omega), ⟨m401, t0, i0, ti, h397, (by have hq := h398; rw [List.append_assoc] at hq; rw [List.map_append, List.append_assoc]; exact hq), (Own.re o400 (by rw [hNN]) (by rw [hNN])), (Own.re o402 (by rw [hII]) (by rw [hII])), g363.sep, g363.nt, g363.ni, g363.it, g363.ii⟩⟩
end Go.Proofs.B
namespace Go.Proofs.B
open Go Go.AH
set_option maxRecDepth 4000
theorem c_grow (bx : List BoxT) (hok : ∀ b ∈ bx, okBox b) (leaf : Int) (hlf : 1 ≤ leaf) : ∀ f, GrowOK bx leaf f
  | f => fun its hne hp hl hin {B H tid tv iid iv off pre post N I Nv Iv} hoff hbN hbI gs =>
    c_grow_step bx hok leaf hlf f (fun g hg => by subst hg; exact c_grow bx hok leaf hlf g) its hne hp hl hin hoff hbN hbI gs
def idxB (l : List BoxT) : Int := match l.findIdx? farB with | some k => k | none => -1
theorem idxB_hit {l : List BoxT} {i : Int} (h0 : 0 ≤ i) (h1 : i < l.length) (hp : ∀ j : Int, 0 ≤ j → j < i → farB (at_ l j) = false) (h : farB (at_ l i) = true) : i = idxB l := by
  have hl : i.toNat < l.length := by omega
  have e : l.findIdx? farB = some i.toNat := by
    rw [List.findIdx?_eq_some_iff_getElem]
    refine ⟨hl, ?_, fun j hj => ?_⟩
    · have : at_ l i = l[i.toNat] := by simp [at_, hl]
      rw [← this]; exact h
    · have := hp j (by omega) (by omega)
      have hj' : j < l.length := by omega
      have e2 : at_ l (j : Int) = l[j] := by simp [at_, hj']
      rw [e2] at this; simp [this]
  unfold idxB; rw [e]; simp only; omega
theorem idxB_none {l : List BoxT} {i : Int} (h1 : (l.length : Int) ≤ i) (hp : ∀ j : Int, 0 ≤ j → j < i → farB (at_ l j) = false) : (-1 : Int) = idxB l := by
  have e : l.findIdx? farB = none := by
    rw [List.findIdx?_eq_none_iff]
    intro x hx
    obtain ⟨k, h2, h3⟩ := List.getElem_of_mem hx
    have := hp k (by omega) (by omega)
    have e2 : at_ l (k : Int) = l[k] := by simp [at_, h2]
    rw [e2, h3] at this; exact this
  unfold idxB; rw [e]
theorem fa_step {p : Int → Prop} {i : Int} (h : ∀ j : Int, 0 ≤ j → j < i → p j) (hi : p i) : ∀ j : Int, 0 ≤ j → j < i + 1 → p j := by
  intro j h1 h2
  by_cases e : j = i
  · subst e; exact hi
  · exact h j h1 (by omega)
theorem idxB_any (l : List BoxT) : decide (idxB l ≥ 0) = l.any farB := by
  unfold idxB
  cases h : l.findIdx? farB with
  | none =>
    rw [List.findIdx?_eq_none_iff] at h
    have : l.any farB = false := by rw [List.any_eq_false]; intro x hx; rw [h x hx]; decide
    rw [this]; rfl
  | some k =>
    rw [List.findIdx?_eq_some_iff_getElem] at h
    obtain ⟨h1, h2, _⟩ := h
    have : l.any farB = true := List.any_eq_true.2 ⟨_, List.getElem_mem h1, h2⟩
    rw [this, decide_eq_true_eq]; simp only; omega
theorem farB_eq (b : BoxT) : farB b = (!R_vec_Within b.Lo 131072 || !R_vec_Within b.Hi 131072) := by
  unfold farB okBox
  have h1 := within_iff (a := b.Lo) (m := 131072)
  have h2 := within_iff (a := b.Hi) (m := 131072)
  cases e1 : R_vec_Within b.Lo 131072 <;> cases e2 : R_vec_Within b.Hi 131072 <;> simp_all
theorem any_ok {bx : List BoxT} (h : bx.any farB = false) : ∀ b ∈ bx, okBox b := by
  intro b hb
  rw [List.any_eq_false] at h
  have := h b hb
  simpa [farB] using this
theorem build_20 {bx : List BoxT} {leaf : Int} (h : leaf < 1) : buildR bx leaf = (⟨[], []⟩, 20) := by unfold buildR; rw [if_pos h]
theorem build_21 {bx : List BoxT} {leaf : Int} (h : ¬ leaf < 1) (g : bx.any farB = true) : buildR bx leaf = (⟨[], []⟩, 21) := by unfold buildR; rw [if_neg h, if_pos g]
theorem build_nil {bx : List BoxT} {leaf : Int} (h : ¬ leaf < 1) (g : bx.any farB = false) (k : (bx.length : Int) = 0) : buildR bx leaf = (⟨[], []⟩, 0) := by unfold buildR; rw [if_neg h, if_neg (by rw [g]; decide), if_pos (by omega)]
theorem build_T {bx : List BoxT} {leaf : Int} (h : ¬ leaf < 1) (g : bx.any farB = false) (k : ¬ (bx.length : Int) = 0) : buildR bx leaf = (⟨flatN (rootT bx leaf) 0 0, (rootT bx leaf).items⟩, 0) := by unfold buildR; rw [if_neg h, if_neg (by rw [g]; decide), if_neg (by omega)]
theorem iota_step {i : Int} (h : 0 ≤ i) : iota i.toNat ++ [i] = iota (i + 1).toNat := by
  have e : (i + 1).toNat = i.toNat + 1 := by omega
  have e2 : ((i.toNat : Nat) : Int) = i := by omega
  rw [e, iota_snoc, e2]
end Go.Proofs.B
namespace Go.Proofs.B
open Go Go.AH
set_option maxRecDepth 4000
set_option linter.unusedSimpArgs false
set_option linter.unusedVariables false
theorem c_far (b : BoxT) : PC Try.prog 17 [.agg [.int .i64 b.Lo.X, .int .i64 b.Lo.Y, .int .i64 b.Lo.Z, .int .i64 b.Hi.X, .int .i64 b.Hi.Y, .int .i64 b.Hi.Z]] (.bool (farB b)) := by
 intro H0
 refine ACalls.of_body' (n := 13) rfl rfl rfl rfl ?_
 have m0 := Mono.refl H0
 refine AWP.seq ?_
 refine AWP.region (l := [0, 1]) rfl ?_
 refine AOps.cons rfl rfl (AOp.box (.agg [.int .i64 b.Lo.X, .int .i64 b.Lo.Y, .int .i64 b.Lo.Z, .int .i64 b.Hi.X, .int .i64 b.Hi.Y, .int .i64 b.Hi.Z]) rfl rfl rfl ?_)
 intro i1 H2 n3 h4 k5
 have z6 := Mono.free m0 n3
 have m7 := Mono.new m0 n3 k5
 refine AOps.cons rfl rfl (AOp.assign (.bool false) rfl rfl ?_)
 refine AOps.nil ?_
 change AWP _ _ _ _ _ _
 refine AWP.seq ?_
 refine AWP.frzP 1 h4 z6 rfl m7 fun H8 m9 k10 => ?_
 refine AWP.region (l := [0, 1, 2, 3, 4, 5, 6, 7, 8, 9, 10]) rfl ?_
 refine AOps.cons rfl rfl (AOp.fieldAddrF rfl rfl fl_37_0 ?_)
 refine AOps.cons rfl rfl (AOp.loadF (.agg [.int .i64 b.Lo.X, .int .i64 b.Lo.Y, .int .i64 b.Lo.Z]) rfl rfl ty_24 rfl ?_)
 refine AOps.cons rfl rfl (AOp.pcall («as» := [.agg [.int .i64 b.Lo.X, .int .i64 b.Lo.Y, .int .i64 b.Lo.Z], .int .i64 131072]) rfl rfl (rfl) tf_18 (c_vec_Within b.Lo 131072 (by omega)) ?_)
 intro H11 m12
 have m13 := m9.trans m12
 refine AOps.cons rfl rfl (AOp.not rfl rfl ?_)
 refine AOps.cons rfl rfl (AOp.move (.bool (!(R_vec_Within b.Lo 131072))) rfl rfl ?_)
 rcases Bool.eq_false_or_eq_true (R_vec_Within b.Lo 131072) with b14 | b14
 ·
  refine AOps.yes rfl rfl rfl rfl rfl rfl rfl (nb b14) (AOp.fieldAddrF rfl rfl fl_37_1 ?_)
  refine AOps.yes rfl rfl rfl rfl rfl rfl rfl (nb b14) (AOp.loadF (.agg [.int .i64 b.Hi.X, .int .i64 b.Hi.Y, .int .i64 b.Hi.Z]) rfl rfl ty_24 rfl ?_)
  refine AOps.yes rfl rfl rfl rfl rfl rfl rfl (nb b14) (AOp.pcall («as» := [.agg [.int .i64 b.Hi.X, .int .i64 b.Hi.Y, .int .i64 b.Hi.Z], .int .i64 131072]) rfl rfl (rfl) tf_18 (c_vec_Within b.Hi 131072 (by omega)) ?_)
  intro H15 m16
  have m17 := m13.trans m16
  refine AOps.yes rfl rfl rfl rfl rfl rfl rfl (nb b14) (AOp.not rfl rfl ?_)
  refine AOps.cons rfl rfl (AOp.pickF (.bool (!(R_vec_Within b.Hi 131072))) rfl rfl (nb b14) rfl ?_)
  refine AOps.cons rfl rfl (AOp.assign (.bool (!(R_vec_Within b.Hi 131072))) rfl rfl ?_)
  refine AOps.nil ?_
  change AWP _ _ _ _ _ _
  refine AWP.ret ?_
  refine ⟨_, _, Ghost.refl, .inr rfl, _, Res.one rfl rfl, ?_, m17⟩
  exact (congrArg AV.bool (show (!(R_vec_Within b.Hi 131072) : Bool) = farB b from by rw [farB_eq]; simp [b14]))
 ·
  refine AOps.no rfl rfl rfl rfl rfl rfl rfl (ble_of (nb b14) (by decide)) ?_
  refine AOps.no rfl rfl rfl rfl rfl rfl rfl (ble_of (nb b14) (by decide)) ?_
  refine AOps.no rfl rfl rfl rfl rfl rfl rfl (ble_of (nb b14) (by decide)) ?_
  refine AOps.no rfl rfl rfl rfl rfl rfl rfl (ble_of (nb b14) (by decide)) ?_
  refine AOps.cons rfl rfl (AOp.pickT (.bool true) rfl rfl (nb b14) rfl ?_)
  refine AOps.cons rfl rfl (AOp.assign (.bool true) rfl rfl ?_)
  refine AOps.nil ?_
  change AWP _ _ _ _ _ _
  refine AWP.ret ?_
  refine ⟨_, _, Ghost.refl, .inr rfl, _, Res.one rfl rfl, ?_, m13⟩
  exact (congrArg AV.bool (show (true : Bool) = farB b from by rw [farB_eq]; simp [b14]))
theorem c_IndexFar (bx : List BoxT) (h_bx : bx.length ≤ 1048576) : PC Try.prog 27 [.sl bx.length (bx.flatMap eBox), .fn 17 []] (.int .i64 (idxB bx)) := by
 intro H0
 refine ACalls.of_body' (n := 19) rfl rfl rfl rfl ?_
 have m0 := Mono.refl H0
 refine AWP.seq ?_
 refine AWP.region (l := [0]) rfl ?_
 refine AOps.cons rfl rfl (AOp.assign (.int .i64 0) rfl rfl ?_)
 refine AOps.nil ?_
 change AWP _ _ _ _ _ _
 refine AWP.seq ?_
 refine AWP.seq ?_
 refine AWP.region (l := [0, 1, 2]) rfl ?_
 refine AOps.cons rfl rfl (AOp.move (.sl bx.length (bx.flatMap eBox)) rfl rfl ?_)
 refine AOps.cons rfl rfl (AOp.len (m := bx.length) rfl rfl (.inr (.inl ⟨_, rfl⟩)) u_22 ?_)
 refine AOps.cons rfl rfl (AOp.move (.int .i64 0) rfl rfl ?_)
 refine AOps.nil ?_
 change AWP _ _ _ _ _ _
 refine AWP.block ?_
 refine AWP.loop (fun q1 fq Hq => ∃ (i : Int), q1 = (((bx.length : Int) : Int) - i).toNat ∧ fq 8 = .int .i64 i ∧ fq 0 = .sl bx.length (bx.flatMap eBox) ∧ fq 1 = .fn 17 [] ∧ fq 7 = .int .i64 (bx.length : Int) ∧ Mono H0 Hq ∧ (0 ≤ i) ∧ (i ≤ (bx.length : Int)) ∧ (∀ j : Int, 0 ≤ j → j < i → farB (at_ bx j) = false)) (k := (((bx.length : Int) : Int) - 0).toNat) ?_ ?_
 ·
  exact ⟨0, rfl, rfl, rfl, rfl, rfl, m0, by omega, by omega, by intro j; omega⟩
 ·
  rintro _ f3 H2 ⟨i, rfl, s4, s5, s6, s7, m8, hi0, hi1, pre⟩
  refine AWP.seq ?_
  refine AWP.region (l := [0]) rfl ?_
  refine AOps.cons rfl rfl (AOp.bin (.bool (decide (i < (bx.length : Int)))) rfl s4 s7 rfl ?_)
  refine AOps.nil ?_
  change AWP _ _ _ _ _ _
  refine AWP.seq ?_
  by_cases b9 : i < (bx.length : Int)
  ·
   refine AWP.condT rfl (decide_eq_true b9) ?_
   refine AWP.skip ?_
   change AWP _ _ _ _ _ _
   refine AWP.seq ?_
   refine AWP.block ?_
   refine AWP.seq ?_
   refine AWP.region (l := [0, 1]) rfl ?_
   refine AOps.cons rfl rfl (AOp.move (.int .i64 i) rfl s4 ?_)
   refine AOps.cons rfl rfl (AOp.assign (.int .i64 i) rfl rfl ?_)
   refine AOps.nil ?_
   change AWP _ _ _ _ _ _
   refine AWP.seq ?_
   refine AWP.region (l := [0, 1, 2, 3, 4, 5]) rfl ?_
   refine AOps.cons rfl rfl (AOp.move (.fn 17 []) rfl s6 ?_)
   refine AOps.cons rfl rfl (AOp.move (.sl bx.length (bx.flatMap eBox)) rfl s5 ?_)
   refine AOps.cons rfl rfl (AOp.move (.int .i64 i) rfl rfl ?_)
   refine AOps.cons rfl rfl (AOp.indexAddrS rfl rfl rfl sl_22 (by omega) (by omega) ?_)
   refine AOps.cons rfl rfl (AOp.loadF (.agg [.int .i64 (((at_ bx i).Lo).X), .int .i64 (((at_ bx i).Lo).Y), .int .i64 (((at_ bx i).Lo).Z), .int .i64 (((at_ bx i).Hi).X), .int .i64 (((at_ bx i).Hi).Y), .int .i64 (((at_ bx i).Hi).Z)]) rfl rfl ty_37 (ldM eBox_len (by omega) (by omega)) ?_)
   refine AOps.cons rfl rfl (AOp.pcall («as» := [.agg [.int .i64 (((at_ bx i).Lo).X), .int .i64 (((at_ bx i).Lo).Y), .int .i64 (((at_ bx i).Lo).Z), .int .i64 (((at_ bx i).Hi).X), .int .i64 (((at_ bx i).Hi).Y), .int .i64 (((at_ bx i).Hi).Z)]]) rfl rfl (rfl) tf_17 (c_far _) ?_)
   intro H10 m11
   have m12 := m8.trans m11
   refine AOps.nil ?_
   change AWP _ _ _ _ _ _
   rcases Bool.eq_false_or_eq_true (farB (at_ bx i)) with b13 | b13
   ·
    refine AWP.condT rfl b13 ?_
    refine AWP.seq ?_
    refine AWP.region (l := [0, 1]) rfl ?_
    refine AOps.cons rfl rfl (AOp.move (.int .i64 i) rfl rfl ?_)
    refine AOps.cons rfl rfl (AOp.assign (.int .i64 i) rfl rfl ?_)
    refine AOps.nil ?_
    change AWP _ _ _ _ _ _
    refine AWP.ret ?_
    refine ⟨_, _, Ghost.refl, .inr rfl, _, Res.one rfl rfl, ?_, m12⟩
    exact (congrArg (AV.int .i64) (show (i : Int) = idxB bx from by exact idxB_hit hi0 (by omega) pre b13))
   ·
    refine AWP.condF rfl b13 ?_
    refine AWP.skip ?_
    change AWP _ _ _ _ _ _
    refine AWP.region (l := [0, 1]) rfl ?_
    refine AOps.cons rfl rfl (AOp.bin (.int .i64 (i + 1)) rfl s4 rfl (iadd (by omega)) ?_)
    refine AOps.cons rfl rfl (AOp.move (.int .i64 (i + 1)) rfl rfl ?_)
    refine AOps.nil ?_
    exact ⟨_, by omega, i + 1, rfl, rfl, s5, s6, s7, m12, by omega, by omega, by exact fa_step pre b13⟩
  ·
   refine AWP.condF rfl (decide_eq_false b9) ?_
   refine AWP.exit ?_
   change AWP _ _ _ _ _ _
   refine AWP.seq ?_
   refine AWP.region (l := [0]) rfl ?_
   refine AOps.cons rfl rfl (AOp.assign (.int .i64 (-1)) rfl rfl ?_)
   refine AOps.nil ?_
   change AWP _ _ _ _ _ _
   refine AWP.ret ?_
   refine ⟨_, _, Ghost.refl, .inr rfl, _, Res.one rfl rfl, ?_, m8⟩
   exact (congrArg (AV.int .i64) (show (-1 : Int) = idxB bx from by exact idxB_none (by omega) pre))
theorem c_ContainsFar (bx : List BoxT) (h_bx : bx.length ≤ 1048576) : PC Try.prog 19 [.sl bx.length (bx.flatMap eBox), .fn 17 []] (.bool (bx.any farB)) := by
 intro H0
 refine ACalls.of_body' (n := 9) rfl rfl rfl rfl ?_
 have m0 := Mono.refl H0
 refine AWP.seq ?_
 refine AWP.region (l := [0]) rfl ?_
 refine AOps.cons rfl rfl (AOp.assign (.bool false) rfl rfl ?_)
 refine AOps.nil ?_
 change AWP _ _ _ _ _ _
 refine AWP.seq ?_
 refine AWP.region (l := [0, 1, 2, 3, 4]) rfl ?_
 refine AOps.cons rfl rfl (AOp.move (.sl bx.length (bx.flatMap eBox)) rfl rfl ?_)
 refine AOps.cons rfl rfl (AOp.move (.fn 17 []) rfl rfl ?_)
 refine AOps.cons rfl rfl (AOp.pcall («as» := [.sl bx.length (bx.flatMap eBox), .fn 17 []]) rfl rfl (rfl) tf_27 (c_IndexFar _ (by omega)) ?_)
 intro H1 m2
 have m3 := m0.trans m2
 refine AOps.cons rfl rfl (AOp.bin (.bool (decide (idxB bx ≥ 0))) rfl rfl rfl rfl ?_)
 refine AOps.cons rfl rfl (AOp.assign (.bool (decide (idxB bx ≥ 0))) rfl rfl ?_)
 refine AOps.nil ?_
 change AWP _ _ _ _ _ _
 refine AWP.ret ?_
 refine ⟨_, _, Ghost.refl, .inr rfl, _, Res.one rfl rfl, ?_, m3⟩
 exact (congrArg AV.bool (show (decide (idxB bx ≥ 0) : Bool) = bx.any farB from by exact idxB_any bx))
theorem c_Build (bx : List BoxT) (h_bx : bx.length ≤ 1048576) (leaf : Int) : PC Try.prog 9 [.sl bx.length (bx.flatMap eBox), .int .i64 leaf] (.tup [.agg [.sl ((buildR bx leaf).1.Nodes).length (((buildR bx leaf).1.Nodes).flatMap eNode), .sl ((buildR bx leaf).1.Items).length (((buildR bx leaf).1.Items).map eI)], .int .i64 ((buildR bx leaf).2)]) := by
 intro H0
 refine ACalls.of_body' (n := 45) rfl rfl rfl rfl ?_
 have m0 := Mono.refl H0
 refine AWP.seq ?_
 refine AWP.region (l := [0, 1]) rfl ?_
 refine AOps.cons rfl rfl (AOp.alloc rfl tz_29 ?_)
 intro i1 H2 n3 h4 k5
 have z6 := Mono.free m0 n3
 have m7 := Mono.new m0 n3 k5
 refine AOps.cons rfl rfl (AOp.assign (.int .i64 0) rfl rfl ?_)
 refine AOps.nil ?_
 change AWP _ _ _ _ _ _
 refine AWP.seq ?_
 refine AWP.region (l := [0]) rfl ?_
 refine AOps.cons rfl rfl (AOp.assign (.fn 17 []) rfl rfl ?_)
 refine AOps.nil ?_
 change AWP _ _ _ _ _ _
 refine AWP.seq ?_
 refine AWP.block ?_
 refine AWP.seq ?_
 refine AWP.region (l := [0, 1, 2]) rfl ?_
 refine AOps.cons rfl rfl (AOp.move (.int .i64 leaf) rfl rfl ?_)
 refine AOps.cons rfl rfl (AOp.bin (.bool (decide (leaf < 1))) rfl rfl rfl rfl ?_)
 refine AOps.cons rfl rfl (AOp.assign (.bool (decide (leaf < 1))) rfl rfl ?_)
 refine AOps.nil ?_
 change AWP _ _ _ _ _ _
 by_cases b8 : leaf < 1
 ·
  refine AWP.condT rfl (decide_eq_true b8) ?_
  refine AWP.seq ?_
  refine AWP.region (l := [0, 1, 2]) rfl ?_
  refine AOps.cons rfl rfl (AOp.build (cells := [.snil, .snil]) rfl tz_29 pl_29 rfl rfl ?_)
  refine AOps.cons rfl rfl (AOp.store' (cells' := [.snil, .snil]) (.agg [.snil, .snil]) rfl rfl ts_29 h4 rfl rfl rfl rfl ?_)
  intro H9 h10 k11
  have m13 := Mono.set m7 z6 k11
  refine AOps.cons rfl rfl (AOp.assign (.int .i64 20) rfl rfl ?_)
  refine AOps.nil ?_
  change AWP _ _ _ _ _ _
  refine AWP.ret ?_
  refine Fin.frzCell 0 (Own.nil H0 H9 1) h10 z6 rfl (NotId.nil _) m13 fun H14 h15 m16 k17 => ?_
  have h18 : H14 i1 = some (.row 0 ([.sl 0 ([]), .snil])) := h15
  refine Fin.frzCell 1 (Own.nil H0 H14 1) h18 z6 rfl (NotId.nil _) m16 fun H19 h20 m21 k22 => ?_
  have h23 : H19 i1 = some (.row 0 ([.sl 0 ([]), .sl 0 ([])])) := h20
  refine ⟨_, _, Ghost.refl, .inr rfl, _, Res.list rfl rfl (.cell (v := .agg [.sl 0 ([]), .sl 0 ([])]) rfl ty_29 h23 rfl (.tmp rfl (.nil))), ?_, m21⟩
  exact congrArg AV.tup (lc (congrArg AV.agg (lc (congrArg (fun l : List NodeT => AV.sl l.length (l.flatMap eNode)) (show ([] : List NodeT) = (buildR bx leaf).1.Nodes from by rw [build_20 b8] <;> (first | rfl | (simp only [List.nil_append]; rfl)))) (lc (congrArg (fun l : List Int => AV.sl l.length (l.map eI)) (show ([] : List Int) = (buildR bx leaf).1.Items from by rw [build_20 b8] <;> (first | rfl | (simp only [List.nil_append]; rfl)))) rfl))) (lc (congrArg (AV.int .i64) (show (20 : Int) = (buildR bx leaf).2 from by rw [build_20 b8] <;> (first | rfl | (simp only [List.nil_append]; rfl)))) rfl))
 ·
  refine AWP.condF rfl (decide_eq_false b8) ?_
  refine AWP.seq ?_
  refine AWP.region (l := [0, 1, 2, 3]) rfl ?_
  refine AOps.cons rfl rfl (AOp.move (.sl bx.length (bx.flatMap eBox)) rfl rfl ?_)
  refine AOps.cons rfl rfl (AOp.move (.fn 17 []) rfl rfl ?_)
  refine AOps.cons rfl rfl (AOp.pcall («as» := [.sl bx.length (bx.flatMap eBox), .fn 17 []]) rfl rfl (rfl) tf_19 (c_ContainsFar _ (by omega)) ?_)
  intro H24 m25
  have h26 := m25 _ _ h4
  have m27 := m7.trans m25
  refine AOps.cons rfl rfl (AOp.assign (.bool (bx.any farB)) rfl rfl ?_)
  refine AOps.nil ?_
  change AWP _ _ _ _ _ _
  rcases Bool.eq_false_or_eq_true (bx.any farB) with b28 | b28
  ·
   refine AWP.condT rfl b28 ?_
   refine AWP.seq ?_
   refine AWP.region (l := [0, 1, 2]) rfl ?_
   refine AOps.cons rfl rfl (AOp.build (cells := [.snil, .snil]) rfl tz_29 pl_29 rfl rfl ?_)
   refine AOps.cons rfl rfl (AOp.store' (cells' := [.snil, .snil]) (.agg [.snil, .snil]) rfl rfl ts_29 h26 rfl rfl rfl rfl ?_)
   intro H29 h30 k31
   have m33 := Mono.set m27 z6 k31
   refine AOps.cons rfl rfl (AOp.assign (.int .i64 21) rfl rfl ?_)
   refine AOps.nil ?_
   change AWP _ _ _ _ _ _
   refine AWP.ret ?_
   refine Fin.frzCell 0 (Own.nil H0 H29 1) h30 z6 rfl (NotId.nil _) m33 fun H34 h35 m36 k37 => ?_
   have h38 : H34 i1 = some (.row 0 ([.sl 0 ([]), .snil])) := h35
   refine Fin.frzCell 1 (Own.nil H0 H34 1) h38 z6 rfl (NotId.nil _) m36 fun H39 h40 m41 k42 => ?_
   have h43 : H39 i1 = some (.row 0 ([.sl 0 ([]), .sl 0 ([])])) := h40
   refine ⟨_, _, Ghost.refl, .inr rfl, _, Res.list rfl rfl (.cell (v := .agg [.sl 0 ([]), .sl 0 ([])]) rfl ty_29 h43 rfl (.tmp rfl (.nil))), ?_, m41⟩
   exact congrArg AV.tup (lc (congrArg AV.agg (lc (congrArg (fun l : List NodeT => AV.sl l.length (l.flatMap eNode)) (show ([] : List NodeT) = (buildR bx leaf).1.Nodes from by rw [build_21 b8 b28] <;> (first | rfl | (simp only [List.nil_append]; rfl)))) (lc (congrArg (fun l : List Int => AV.sl l.length (l.map eI)) (show ([] : List Int) = (buildR bx leaf).1.Items from by rw [build_21 b8 b28] <;> (first | rfl | (simp only [List.nil_append]; rfl)))) rfl))) (lc (congrArg (AV.int .i64) (show (21 : Int) = (buildR bx leaf).2 from by rw [build_21 b8 b28] <;> (first | rfl | (simp only [List.nil_append]; rfl)))) rfl))
  ·
   refine AWP.condF rfl b28 ?_
   refine AWP.seq ?_
   refine AWP.region (l := [0, 1, 2, 3]) rfl ?_
   refine AOps.cons rfl rfl (AOp.move (.sl bx.length (bx.flatMap eBox)) rfl rfl ?_)
   refine AOps.cons rfl rfl (AOp.len (m := bx.length) rfl rfl (.inr (.inl ⟨_, rfl⟩)) u_22 ?_)
   refine AOps.cons rfl rfl (AOp.bin (.bool (decide ((bx.length : Int) = 0))) rfl rfl rfl ieq ?_)
   refine AOps.cons rfl rfl (AOp.assign (.bool (decide ((bx.length : Int) = 0))) rfl rfl ?_)
   refine AOps.nil ?_
   change AWP _ _ _ _ _ _
   by_cases b44 : (bx.length : Int) = 0
   ·
    refine AWP.condT rfl (decide_eq_true b44) ?_
    refine AWP.seq ?_
    refine AWP.region (l := [0, 1, 2]) rfl ?_
    refine AOps.cons rfl rfl (AOp.build (cells := [.snil, .snil]) rfl tz_29 pl_29 rfl rfl ?_)
    refine AOps.cons rfl rfl (AOp.store' (cells' := [.snil, .snil]) (.agg [.snil, .snil]) rfl rfl ts_29 h26 rfl rfl rfl rfl ?_)
    intro H45 h46 k47
    have m49 := Mono.set m27 z6 k47
    refine AOps.cons rfl rfl (AOp.assign (.int .i64 0) rfl rfl ?_)
    refine AOps.nil ?_
    change AWP _ _ _ _ _ _
    refine AWP.ret ?_
    refine Fin.frzCell 0 (Own.nil H0 H45 1) h46 z6 rfl (NotId.nil _) m49 fun H50 h51 m52 k53 => ?_
    have h54 : H50 i1 = some (.row 0 ([.sl 0 ([]), .snil])) := h51
    refine Fin.frzCell 1 (Own.nil H0 H50 1) h54 z6 rfl (NotId.nil _) m52 fun H55 h56 m57 k58 => ?_
    have h59 : H55 i1 = some (.row 0 ([.sl 0 ([]), .sl 0 ([])])) := h56
    refine ⟨_, _, Ghost.refl, .inr rfl, _, Res.list rfl rfl (.cell (v := .agg [.sl 0 ([]), .sl 0 ([])]) rfl ty_29 h59 rfl (.tmp rfl (.nil))), ?_, m57⟩
    exact congrArg AV.tup (lc (congrArg AV.agg (lc (congrArg (fun l : List NodeT => AV.sl l.length (l.flatMap eNode)) (show ([] : List NodeT) = (buildR bx leaf).1.Nodes from by rw [build_nil b8 b28 b44] <;> (first | rfl | (simp only [List.nil_append]; rfl)))) (lc (congrArg (fun l : List Int => AV.sl l.length (l.map eI)) (show ([] : List Int) = (buildR bx leaf).1.Items from by rw [build_nil b8 b28 b44] <;> (first | rfl | (simp only [List.nil_append]; rfl)))) rfl))) (lc (congrArg (AV.int .i64) (show (0 : Int) = (buildR bx leaf).2 from by rw [build_nil b8 b28 b44] <;> (first | rfl | (simp only [List.nil_append]; rfl)))) rfl))
   ·
    refine AWP.condF rfl (decide_eq_false b44) ?_
    refine AWP.skip ?_
    change AWP _ _ _ _ _ _
    refine AWP.seq ?_
    have hok := any_ok b28
    refine AWP.region (l := [0, 1, 2, 3, 4]) rfl ?_
    refine AOps.cons rfl rfl (AOp.move (.sl bx.length (bx.flatMap eBox)) rfl rfl ?_)
    refine AOps.cons rfl rfl (AOp.move (.int .i64 leaf) rfl rfl ?_)
    refine AOps.cons rfl rfl (AOp.build (cells := [.snil, .snil, .sl bx.length (bx.flatMap eBox), .int .i64 leaf]) rfl tz_56 pl_56 rfl rfl ?_)
    refine AOps.cons rfl rfl (AOp.box (.agg [.snil, .snil, .sl bx.length (bx.flatMap eBox), .int .i64 leaf]) rfl rfl rfl ?_)
    intro i60 H61 n62 h63 k64
    have e65 := ne_new h26 n62
    have z66 := Mono.free m27 n62
    have h67 := keep k64 (ne_new h26 n62) h26
    have m68 := Mono.new m27 n62 k64
    refine AOps.cons rfl rfl (AOp.assign (.ptr i60 0 0) rfl rfl ?_)
    refine AOps.nil ?_
    change AWP _ _ _ _ _ _
    refine AWP.seq ?_
    refine AWP.region (l := [0]) rfl ?_
    refine AOps.cons rfl rfl (AOp.assign (.snil) rfl rfl ?_)
    refine AOps.nil ?_
    change AWP _ _ _ _ _ _
    refine AWP.seq ?_
    refine AWP.seq ?_
    refine AWP.region (l := [0, 1, 2]) rfl ?_
    refine AOps.cons rfl rfl (AOp.move (.sl bx.length (bx.flatMap eBox)) rfl rfl ?_)
    refine AOps.cons rfl rfl (AOp.len (m := bx.length) rfl rfl (.inr (.inl ⟨_, rfl⟩)) u_22 ?_)
    refine AOps.cons rfl rfl (AOp.move (.int .i64 0) rfl rfl ?_)
    refine AOps.nil ?_
    change AWP _ _ _ _ _ _
    refine AWP.block ?_
    refine AWP.loop (fun q69 fq Hq => ∃ (i : Int) (w8 : AV), q69 = (((bx.length : Int) : Int) - i).toNat ∧ fq 30 = .int .i64 i ∧ fq 4 = .ptr i1 0 0 ∧ fq 5 = .int .i64 0 ∧ fq 7 = .ptr i60 0 0 ∧ fq 29 = .int .i64 (bx.length : Int) ∧ fq 8 = w8 ∧ Own H0 Hq 1 w8 (iota i.toNat).length ((iota i.toNat).map eI) ∧ NotId w8 i1 ∧ NotId w8 i60 ∧ Hq i1 = some (.row 0 ([.snil, .snil])) ∧ Hq i60 = some (.row 0 ([.snil, .snil, .sl bx.length (bx.flatMap eBox), .int .i64 leaf])) ∧ Mono H0 Hq ∧ (0 ≤ i) ∧ (i ≤ (bx.length : Int))) (k := (((bx.length : Int) : Int) - 0).toNat) ?_ ?_
    ·
     exact ⟨0, .snil, rfl, rfl, rfl, rfl, rfl, rfl, rfl, Own.nil _ _ _, (NotId.nil _), (NotId.nil _), h67, h63, m68, by omega, by omega⟩
    ·
     rintro _ f71 H70 ⟨i, w8, rfl, s72, s73, s74, s75, s76, s77, o78, no79, no80, h81, h82, m83, hi0, hi1⟩
     refine AWP.seq ?_
     refine AWP.region (l := [0]) rfl ?_
     refine AOps.cons rfl rfl (AOp.bin (.bool (decide (i < (bx.length : Int)))) rfl s72 s76 rfl ?_)
     refine AOps.nil ?_
     change AWP _ _ _ _ _ _
     refine AWP.seq ?_
     by_cases b84 : i < (bx.length : Int)
     ·
      refine AWP.condT rfl (decide_eq_true b84) ?_
      refine AWP.skip ?_
      change AWP _ _ _ _ _ _
      refine AWP.seq ?_
      refine AWP.block ?_
      refine AWP.seq ?_
      refine AWP.region (l := [0, 1]) rfl ?_
      refine AOps.cons rfl rfl (AOp.move (.int .i64 i) rfl s72 ?_)
      refine AOps.cons rfl rfl (AOp.assign (.int .i64 i) rfl rfl ?_)
      refine AOps.nil ?_
      change AWP _ _ _ _ _ _
      refine AWP.region (l := [0, 1, 2, 3, 4]) rfl ?_
      refine AOps.cons rfl rfl (AOp.move (w8) rfl s77 ?_)
      refine AOps.cons rfl rfl (AOp.move (.int .i64 i) rfl rfl ?_)
      refine AOps.cons rfl rfl (AOp.buildSlice (cells := [.int .i64 i]) rfl u_27 ts_3 tz_3 rfl rfl rfl ?_)
      intro i85 H86 n87 h88 k89
      have e90 := ne_new h81 n87
      have e91 := ne_new h82 n87
      have z92 := Mono.free m83 n87
      have h93 := keep k89 (ne_new h81 n87) h81
      have h94 := keep k89 (ne_new h82 n87) h82
      have o95 := Own.keep o78 k89 (Own.notnew o78 n87)
      have no96 := Own.notnew o78 n87
      have m97 := Mono.new m83 n87 k89
      refine AOps.cons rfl rfl (AOp.append_own (es := 1) (m := 1) (len := ((iota i.toNat).length)) (old := (iota i.toNat).map eI) (cells := [.int .i64 i]) rfl u_27 ts_3 tzn_3 tb_3 (by decide) ni_27 rfl o95 m97 rfl (.slm h88 rfl) (one_of rfl) (by decide) (by rw [iota_len]; omega) ?_)
      intro v98 H99 o100 m101 k102 j103
      have o104 := Own.snoc1 (xs := ((iota i.toNat) : List Int)) (y := i) (e := eI) (by simp) o100
      have h105 := (k102 _ no79 (by rw [h93]; simp)).trans h93
      have no106 := j103 _ no79 (by rw [h93]; simp)
      have h107 := (k102 _ no80 (by rw [h94]; simp)).trans h94
      have no108 := j103 _ no80 (by rw [h94]; simp)
      refine AOps.cons rfl rfl (AOp.assign (v98) rfl rfl ?_)
      refine AOps.nil ?_
      change AWP _ _ _ _ _ _
      refine AWP.region (l := [0, 1]) rfl ?_
      refine AOps.cons rfl rfl (AOp.bin (.int .i64 (i + 1)) rfl s72 rfl (iadd (by omega)) ?_)
      refine AOps.cons rfl rfl (AOp.move (.int .i64 (i + 1)) rfl rfl ?_)
      refine AOps.nil ?_
      exact ⟨_, by omega, i + 1, v98, rfl, rfl, s73, s74, s75, s76, rfl, (have hx : (((iota i.toNat) ++ [i]) : List Int) = iota (i + 1).toNat := (by rw [← iota_step hi0]); Own.re o104 (congrArg List.length hx) (congrArg (fun l : List Int => l.map eI) hx)), no106, no108, h105, h107, m101, by omega, by omega⟩
     ·
      refine AWP.condF rfl (decide_eq_false b84) ?_
      refine AWP.exit ?_
      change AWP _ _ _ _ _ _
      refine AWP.seq ?_
      have hi_ : i = (bx.length : Int) := by omega
      subst hi_
      refine AWP.region (l := [0, 1, 2]) rfl ?_
      refine AOps.cons rfl rfl (AOp.move (.ptr i60 0 0) rfl s75 ?_)
      refine AOps.cons rfl rfl (AOp.move (w8) rfl s77 ?_)
      obtain ⟨i109, vr110, e111, h112, z113, q114⟩ := Own.pos o78 (by rw [iota_len]; omega)
      have n115 : i60 ≠ i109 := no80 _ _ _ _ _ e111
      have g116 : GS H0 i60 0 i109 vr110 bx leaf [] (iota (bx.length : Int).toNat) [] [] [] .snil .snil H70 := ⟨m83, z66, z113, n115, h82, (h112.trans (by rw [List.nil_append, List.append_nil])), .nil _ _ _, .nil _ _ _, Sep.nilL _, NotId.nil _, NotId.nil _, NotId.nil _, NotId.nil _⟩
      have hg117 := c_grow bx hok leaf (by omega) bx.length (iota (bx.length : Int).toNat) (by intro e; have := congrArg List.length e; rw [iota_len, List.length_nil] at this; omega) (by rw [iota_len]; exact Nat.le_trans (by omega) (two_pow_ge _)) (by rw [iota_len]; omega) (by intro k hk; have := mem_iota.1 hk; omega) (B := baseOf H70 [i60, i109] .snil .snil) (H := H70) (off := 0) (pre := []) rfl (by rw [iota_len]; simp only [List.length_nil]; omega) (by rw [iota_len]; simp only [List.length_nil]; omega) (GS.down g116 rfl)
      refine AOps.cons rfl rfl (AOp.xcall («as» := [.ptr i60 0 0, w8]) rfl rfl (rfl) tf_20 (by rw [e111]; exact hg117) ?_)
      rintro _ H118 ⟨rfl, v119, v120, l121, hl122, g123⟩
      have g124 := GS.up g116 g123
      have q125 := GS.other g123 h81 e65 (no79 _ _ _ _ _ e111) (NotId.nil _) (NotId.nil _)
      refine AOps.nil ?_
      change AWP _ _ _ _ _ _
      refine AWP.seq ?_
      refine AWP.region (l := [0, 1, 2, 3, 4, 5]) rfl ?_
      refine AOps.cons rfl rfl (AOp.move (.ptr i60 0 0) rfl s75 ?_)
      refine AOps.cons rfl rfl (AOp.nilCheck (.ptr i60 0 0) rfl rfl rfl ?_)
      refine AOps.cons rfl rfl (AOp.fieldAddr rfl rfl fl_56_0 ?_ (hid := ⟨_, g124.ht⟩))
      refine AOps.cons rfl rfl (AOp.load (.agg [v119, v120]) rfl rfl ty_29 g124.ht rfl ?_)
      refine AOps.cons rfl rfl (AOp.store' (cells' := [v119, v120]) (.agg [v119, v120]) s73 rfl ts_29 q125.1 (by simp only [AV.cells, List.all_cons, List.all_nil, Own.one_ g124.oN, Own.one_ g124.oI]; rfl) rfl rfl rfl ?_)
      intro H126 h127 k128
      have h130 := keep k128 (Ne.symm e65) g124.ht
      have o131 := Own.keep g124.oN k128 q125.2.1
      have o132 := Own.keep g124.oI k128 q125.2.2
      have m133 := Mono.set g124.hm z6 k128
      refine AOps.cons rfl rfl (AOp.assign (.int .i64 0) rfl rfl ?_)
      refine AOps.nil ?_
      change AWP _ _ _ _ _ _
      refine AWP.ret ?_
      refine Fin.frzCell 0 o131 h127 z6 rfl q125.2.1 m133 fun H134 h135 m136 k137 => ?_
      have h138 := (k137 _ (Ne.symm e65) g124.nt).trans h130
      have o139 := Own.stay2 o132 (Sep.symm g124.sep) q125.2.2 k137
      have h140 : H134 i1 = some (.row 0 ([.sl (([] : List NodeT) ++ flatN (growT bx leaf bx.length (iota (bx.length : Int).toNat)) ([] : List NodeT).length ([] : List Int).length).length ((([] : List NodeT) ++ flatN (growT bx leaf bx.length (iota (bx.length : Int).toNat)) ([] : List NodeT).length ([] : List Int).length).flatMap eNode), v120])) := h135
      refine Fin.frzCell 1 o139 h140 z6 rfl q125.2.2 m136 fun H141 h142 m143 k144 => ?_
      have h145 := (k144 _ (Ne.symm e65) g124.it).trans h138
      have h146 : H141 i1 = some (.row 0 ([.sl (([] : List NodeT) ++ flatN (growT bx leaf bx.length (iota (bx.length : Int).toNat)) ([] : List NodeT).length ([] : List Int).length).length ((([] : List NodeT) ++ flatN (growT bx leaf bx.length (iota (bx.length : Int).toNat)) ([] : List NodeT).length ([] : List Int).length).flatMap eNode), .sl (([] : List Int) ++ (growT bx leaf bx.length (iota (bx.length : Int).toNat)).items).length ((([] : List Int) ++ (growT bx leaf bx.length (iota (bx.length : Int).toNat)).items).map eI)])) := h142
      refine ⟨_, _, Ghost.refl, .inr rfl, _, Res.list rfl rfl (.cell (v := .agg [.sl (([] : List NodeT) ++ flatN (growT bx leaf bx.length (iota (bx.length : Int).toNat)) ([] : List NodeT).length ([] : List Int).length).length ((([] : List NodeT) ++ flatN (growT bx leaf bx.length (iota (bx.length : Int).toNat)) ([] : List NodeT).length ([] : List Int).length).flatMap eNode), .sl (([] : List Int) ++ (growT bx leaf bx.length (iota (bx.length : Int).toNat)).items).length ((([] : List Int) ++ (growT bx leaf bx.length (iota (bx.length : Int).toNat)).items).map eI)]) s73 ty_29 h146 rfl (.tmp rfl (.nil))), ?_, m143⟩
      exact congrArg AV.tup (lc (congrArg AV.agg (lc (congrArg (fun l : List NodeT => AV.sl l.length (l.flatMap eNode)) (show ((([] : List NodeT) ++ flatN (growT bx leaf bx.length (iota (bx.length : Int).toNat)) ([] : List NodeT).length ([] : List Int).length) : List NodeT) = (buildR bx leaf).1.Nodes from by rw [build_T b8 b28 b44] <;> (first | rfl | (simp only [List.nil_append]; rfl)))) (lc (congrArg (fun l : List Int => AV.sl l.length (l.map eI)) (show ((([] : List Int) ++ (growT bx leaf bx.length (iota (bx.length : Int).toNat)).items) : List Int) = (buildR bx leaf).1.Items from by rw [build_T b8 b28 b44] <;> (first | rfl | (simp only [List.nil_append]; rfl)))) rfl))) (lc (congrArg (AV.int .i64) (show (0 : Int) = (buildR bx leaf).2 from by rw [build_T b8 b28 b44] <;> (first | rfl | (simp only [List.nil_append]; rfl)))) rfl))
end Go.Proofs.B
namespace Go.Proofs.B
open Go Go.AH
set_option maxRecDepth 4000
def hitB (o d : VT) (b : BoxT) : Bool := (rangeR o d b).isSome
theorem rangeF_err {o d : VT} {b : BoxT} (hb : okBox b) : (rangeF o d b).2.2.2 = if badOD o d then 21 else 0 := by
  have h1 := boxIn_iff.2 hb
  unfold rangeF; rw [h1]
  cases badOD o d
  · simp only [Bool.not_true, Bool.or_self, Bool.false_eq_true, if_false]; cases rangeR o d b <;> rfl
  · rfl
theorem rangeF_hit {o d : VT} {b : BoxT} (hb : okBox b) : (rangeF o d b).2.2.1 = (!badOD o d && hitB o d b) := by
  have h1 := boxIn_iff.2 hb
  unfold rangeF hitB; rw [h1]
  cases badOD o d
  · simp only [Bool.not_true, Bool.or_self, Bool.false_eq_true, if_false]; cases rangeR o d b <;> rfl
  · rfl
def BOK : BT → Prop
  | .leaf b its => okBox b ∧ its ≠ []
  | .node b l r => okBox b ∧ BOK l ∧ BOK r
theorem hullFrom_ok (bx : List BoxT) : ∀ (its : List Int) (b : BoxT), okBox b → (∀ k ∈ its, okBox (at_ bx k)) → okBox (hullFrom bx b its)
  | [], _, h, _ => h
  | x :: xs, b, h, hk => hullFrom_ok bx xs _ (okBox_join h (hk x List.mem_cons_self)) fun k h' => hk k (List.mem_cons_of_mem _ h')
theorem hull_ok {bx : List BoxT} {its : List Int} (hne : its ≠ []) (hk : ∀ k ∈ its, okBox (at_ bx k)) : okBox (hull bx its) := hullFrom_ok bx its _ (hk _ (at_zero_mem hne)) hk
theorem growT_bok (bx : List BoxT) (leaf : Int) (hl : 1 ≤ leaf) : ∀ (f : Nat) (its : List Int), its ≠ [] → its.length ≤ 2 ^ f → (∀ k ∈ its, okBox (at_ bx k)) → BOK (growT bx leaf f its)
  | 0, its, h, _, hk => ⟨hull_ok h hk, h⟩
  | f + 1, its, h, hp, hk => by
    simp only [growT]
    split
    · exact ⟨hull_ok h hk, h⟩
    · rename_i hlen
      have hm := isort_perm (keyLt bx (axisR bx its)) its
      have hsl := isort_len (keyLt bx (axisR bx its)) its
      rw [Nat.pow_succ] at hp
      refine ⟨hull_ok h hk, growT_bok bx leaf hl f _ (fun e => ?_) (by simp only [List.length_take, hsl]; omega) fun k h' => hk k (hm.mem_iff.1 (List.mem_of_mem_take h')), growT_bok bx leaf hl f _ (fun e => ?_) (by simp only [List.length_drop, hsl]; omega) fun k h' => hk k (hm.mem_iff.1 (List.mem_of_mem_drop h'))⟩
      · have := congrArg List.length e; simp only [List.length_take, hsl, List.length_nil] at this; omega
      · have := congrArg List.length e; simp only [List.length_drop, hsl, List.length_nil] at this; omega
theorem root_bok {bx : List BoxT} {leaf : Int} (hl : 1 ≤ leaf) (hok : ∀ b ∈ bx, okBox b) (hne : bx ≠ []) : BOK (rootT bx leaf) :=
  growT_bok bx leaf hl _ _ (fun e => hne (by have := congrArg List.length e; rw [iota_len] at this; exact List.eq_nil_of_length_eq_zero this)) (by rw [iota_len]; exact two_pow_ge _) fun k hk => hok _ (at_mem_l (mem_iota.1 hk).1 (mem_iota.1 hk).2)
theorem root_len (bx : List BoxT) (leaf : Int) : (rootT bx leaf).items.length = bx.length := by rw [(root_items bx leaf).length_eq, iota_len]
theorem root_size {bx : List BoxT} {leaf : Int} (hl : 1 ≤ leaf) (hne : bx ≠ []) : (rootT bx leaf).size + 1 ≤ 2 * bx.length := by
  have := growT_size bx leaf hl bx.length (iota bx.length) (fun e => hne (by have := congrArg List.length e; rw [iota_len] at this; exact List.eq_nil_of_length_eq_zero this))
  rw [iota_len] at this; exact this
theorem touch_len (hit : BoxT → Bool) (t : BT) : (touchT hit t).length ≤ t.items.length := (touchT_sub hit t).length_le

/-! ### The stack -/
abbrev PT3 := BT × Int × Int
def stk (P : List PT3) : List Int := P.map fun x => x.2.1
def szP : List PT3 → Nat
  | [] => 0
  | x :: xs => x.1.size + szP xs
theorem szP_app : ∀ a b : List PT3, szP (a ++ b) = szP a + szP b
  | [], b => by simp [szP]
  | x :: xs, b => by simp [szP, szP_app xs b]; omega
theorem stk_len (P : List PT3) : (stk P).length = P.length := by simp [stk]
theorem len_szP : ∀ P : List PT3, P.length ≤ szP P
  | [] => Nat.le_refl _
  | x :: xs => by have := len_szP xs; have := x.1.pos; simp [szP]; omega
def todo (hit : BoxT → Bool) (P : List PT3) : List Int := P.reverse.flatMap fun x => touchT hit x.1
def nxtP (P : List PT3) : List PT3 := match P.getLast? with
  | some (.node _ l r, p, q) => P.dropLast ++ [(r, p + 1 + l.size, q + l.items.length), (l, p + 1, q)]
  | _ => P.dropLast
structure POK (N : List NodeT) (I : List Int) (x : PT3) : Prop where
  pl : Placed N I x.1 x.2.1 x.2.2
  q0 : 0 ≤ x.2.2
  ok : BOK x.1
def topN (N : List NodeT) (P : List PT3) : NodeT := at_ N (at_ (stk P) (((stk P).length : Int) - 1))
theorem BOK_box : ∀ {t : BT}, BOK t → okBox t.box
  | .leaf _ _, h => h.1
  | .node _ _ _, h => h.1
theorem last_of {P : List PT3} (h : 0 < (stk P).length) : ∃ Q x, P = Q ++ [x] := by
  rw [stk_len] at h
  exact ⟨P.dropLast, P.getLast (List.length_pos_iff.1 h), (List.dropLast_concat_getLast _).symm⟩
theorem top_at (Q : List PT3) (x : PT3) : at_ (stk (Q ++ [x])) (((stk (Q ++ [x])).length : Int) - 1) = x.2.1 := by
  rw [stk_len]
  simp only [stk, List.map_append, List.length_append, List.length_cons, List.length_nil]
  exact at_mid _ _ _ (by simp)
theorem top_ok {N : List NodeT} {I : List Int} {P : List PT3} (h : 0 < (stk P).length) (hP : ∀ x ∈ P, POK N I x) :
    (0 ≤ at_ (stk P) (((stk P).length : Int) - 1) ∧ at_ (stk P) (((stk P).length : Int) - 1) < N.length) ∧ okBox (topN N P).Box ∧ (0 ≤ (topN N P).Count ∧ (topN N P).Count ≤ I.length ∧ 0 ≤ (topN N P).First ∧ (topN N P).First + (topN N P).Count ≤ I.length) := by
  obtain ⟨Q, x, rfl⟩ := last_of h
  obtain ⟨pl, q0, ok⟩ := hP x (by simp)
  have e := top_at Q x
  unfold topN; rw [e]
  obtain ⟨g1, g2⟩ := placed_at pl
  refine ⟨g1, by rw [g2]; exact BOK_box ok, ?_⟩
  obtain ⟨t, p, q⟩ := x
  cases t with
  | leaf b its => obtain ⟨_, h2, h3, h4, _⟩ := pl; simp only at h2 h3 h4 ⊢; rw [h2]; simp only; omega
  | node b l r => obtain ⟨_, h2, h3, h4⟩ := pl; simp only at h2 ⊢; rw [h2]; simp only; omega
theorem todo_last (hit : BoxT → Bool) (Q : List PT3) (x : PT3) : todo hit (Q ++ [x]) = touchT hit x.1 ++ todo hit Q := by
  simp [todo]
theorem top_skip {N : List NodeT} {I : List Int} {P : List PT3} {hit : BoxT → Bool} (h : 0 < (stk P).length) (hP : ∀ x ∈ P, POK N I x) (hh : hit (topN N P).Box = false) : todo hit P = todo hit P.dropLast := by
  obtain ⟨Q, x, rfl⟩ := last_of h
  have pl := (hP x (by simp)).pl
  have e := top_at Q x
  unfold topN at hh; rw [e, (placed_at pl).2] at hh
  rw [todo_last, List.dropLast_concat]
  obtain ⟨t, p, q⟩ := x
  cases t <;> simp only [touchT, BT.box] at hh ⊢ <;> rw [hh] <;> rfl
theorem top_leaf {N : List NodeT} {I : List Int} {P : List PT3} {hit : BoxT → Bool} (h : 0 < (stk P).length) (hP : ∀ x ∈ P, POK N I x) (hh : hit (topN N P).Box = true) (hc : 0 < (topN N P).Count) : todo hit P = (I.drop (topN N P).First.toNat).take (topN N P).Count.toNat ++ todo hit P.dropLast := by
  obtain ⟨Q, x, rfl⟩ := last_of h
  have pl := (hP x (by simp)).pl
  have e := top_at Q x
  unfold topN at hh hc ⊢; rw [e] at hh hc ⊢; rw [(placed_at pl).2] at hh
  rw [todo_last, List.dropLast_concat]
  obtain ⟨t, p, q⟩ := x
  cases t with
  | leaf b its =>
    obtain ⟨_, h2, h3, h4, h5⟩ := pl
    simp only at h2 h3 h4 h5
    simp only [h2, touchT, BT.box] at hh ⊢
    rw [hh, if_pos rfl]
    have : ((its.length : Nat) : Int).toNat = its.length := by omega
    rw [this, h5]
  | node b l r => obtain ⟨_, h2, _⟩ := pl; simp only at h2 hc; rw [h2] at hc; simp at hc
theorem top_node {N : List NodeT} {I : List Int} {P : List PT3} {hit : BoxT → Bool} (h : 0 < (stk P).length) (hP : ∀ x ∈ P, POK N I x) (hh : hit (topN N P).Box = true) (hc : ¬ 0 < (topN N P).Count) :
    todo hit P = todo hit (nxtP P) ∧ stk (nxtP P) = stk P.dropLast ++ [(topN N P).Right, (topN N P).Left] ∧ szP (nxtP P) < szP P ∧ ∀ x ∈ nxtP P, POK N I x := by
  obtain ⟨Q, x, rfl⟩ := last_of h
  obtain ⟨pl, q0, ok⟩ := hP x (by simp)
  have e := top_at Q x
  unfold topN at hh hc ⊢; rw [e] at hh hc ⊢; rw [(placed_at pl).2] at hh
  obtain ⟨t, p, q⟩ := x
  cases t with
  | leaf b its =>
    obtain ⟨_, h2, h3, h4, h5⟩ := pl
    simp only at h2 hc; rw [h2] at hc; simp only at hc
    have := List.length_pos_iff.2 ok.2; omega
  | node b l r =>
    have e2 : nxtP (Q ++ [(BT.node b l r, p, q)]) = Q ++ [(r, p + 1 + l.size, q + l.items.length), (l, p + 1, q)] := by
      unfold nxtP; rw [List.getLast?_concat, List.dropLast_concat]
    rw [e2, List.dropLast_concat]
    obtain ⟨_, h2, h3, h4⟩ := pl
    obtain ⟨_, o2, o3⟩ := ok
    simp only at h2 q0
    refine ⟨?_, ?_, ?_, ?_⟩
    · rw [todo_last]
      simp only [BT.box] at hh
      simp only [touchT, hh, if_true, todo, List.reverse_append, List.reverse_cons, List.reverse_nil, List.nil_append, List.flatMap_append, List.flatMap_cons, List.flatMap_nil, List.append_nil, List.cons_append, List.append_assoc]
    · simp only [stk, List.map_append, List.map_cons, List.map_nil]; rw [h2]
    · simp only [szP_app, szP, BT.size]; omega
    · intro y hy
      rcases List.mem_append.1 hy with hy | hy
      · exact hP y (List.mem_append.2 (.inl hy))
      · simp only [List.mem_cons, List.not_mem_nil, or_false] at hy
        rcases hy with rfl | rfl
        · exact ⟨h4, by simp only; omega, o3⟩
        · exact ⟨h3, q0, o2⟩
theorem pop_ok {N : List NodeT} {I : List Int} {P : List PT3} (h : 0 < (stk P).length) (hP : ∀ x ∈ P, POK N I x) : (∀ x ∈ P.dropLast, POK N I x) ∧ szP P.dropLast < szP P ∧ stk P.dropLast = (stk P).take (((stk P).length : Int) - 1).toNat := by
  obtain ⟨Q, x, rfl⟩ := last_of h
  rw [List.dropLast_concat]
  refine ⟨fun y hy => hP y (List.mem_append.2 (.inl hy)), ?_, ?_⟩
  · have := x.1.pos; simp only [szP_app, szP]; omega
  · have : (((stk (Q ++ [x])).length : Int) - 1).toNat = Q.length := by rw [stk_len]; simp
    rw [this]; simp [stk]
theorem top_end {hit : BoxT → Bool} {P : List PT3} (h : ¬ ((stk P).length : Int) > 0) : todo hit P = [] := by
  rw [stk_len] at h
  have : P = [] := List.eq_nil_of_length_eq_zero (by omega)
  subst this; rfl
def touR (bx : List BoxT) (leaf : Int) (o d : VT) : List Int × Int := if bx.length = 0 then ([], 0) else if badOD o d = true then ([], 21) else (touchT (hitB o d) (rootT bx leaf), 0)
theorem tou_nil {bx : List BoxT} {leaf : Int} {o d : VT} (h : bx.length = 0) : touR bx leaf o d = ([], 0) := by unfold touR; rw [if_pos h]
theorem tou_bad {bx : List BoxT} {leaf : Int} {o d : VT} (h : bx.length ≠ 0) (g : badOD o d = true) : touR bx leaf o d = ([], 21) := by unfold touR; rw [if_neg h, if_pos g]
theorem tou_T {bx : List BoxT} {leaf : Int} {o d : VT} (h : bx.length ≠ 0) (g : badOD o d = false) : touR bx leaf o d = (touchT (hitB o d) (rootT bx leaf), 0) := by unfold touR; rw [if_neg h, if_neg (by rw [g]; decide)]
theorem tou_facts {bx : List BoxT} {leaf : Int} {N : List NodeT} {I : List Int} (hbx : bx.length ≤ 1048576) (he : (buildR bx leaf).2 = 0) (hN : N = (buildR bx leaf).1.Nodes) (hI : I = (buildR bx leaf).1.Items) :
    (N.length = 0 ∧ bx.length = 0) ∨ (0 < N.length ∧ bx.length ≠ 0 ∧ N.length ≤ 2097152 ∧ I.length ≤ 1048576 ∧ POK N I (rootT bx leaf, 0, 0) ∧ (rootT bx leaf).size ≤ 2097152 ∧ ∀ hit, (touchT hit (rootT bx leaf)).length ≤ 1048576) := by
  obtain ⟨h1, h2, h3⟩ := buildR_ok he
  rcases h3 with ⟨h3, h4⟩ | ⟨h3, h4⟩
  · left; rw [hN, h4, h3]; exact ⟨rfl, rfl⟩
  · right
    rw [h4] at hN hI
    have hs := root_size h1 h3
    have hl := root_len bx leaf
    have hp := (rootT bx leaf).pos
    have hl0 : bx.length ≠ 0 := fun e => h3 (List.eq_nil_of_length_eq_zero e)
    simp only at hN hI
    have hNl : N.length = (rootT bx leaf).size := by rw [hN, flatN_len]
    refine ⟨by omega, hl0, by omega, by rw [hI]; omega, ⟨?_, Int.le_refl _, root_bok h1 h2 h3⟩, by omega, fun hit => Nat.le_trans (touch_len hit _) (by omega)⟩
    rw [hN, hI]; exact root_placed bx leaf
theorem err_T {o d : VT} {b : BoxT} (hb : okBox b) (h : ¬ (rangeF o d b).2.2.2 = 0) : badOD o d = true ∧ (rangeF o d b).2.2.2 = 21 := by
  rw [rangeF_err hb] at *
  cases hx : badOD o d
  · rw [hx] at h; exact absurd rfl h
  · exact ⟨rfl, rfl⟩
theorem err_F {o d : VT} {b : BoxT} (hb : okBox b) (h : (rangeF o d b).2.2.2 = 0) : badOD o d = false := by
  rw [rangeF_err hb] at h
  cases hx : badOD o d
  · rfl
  · rw [hx] at h; cases h
theorem hit_of {o d : VT} {b : BoxT} {x : Bool} (hb : okBox b) (h0 : (rangeF o d b).2.2.2 = 0) (h : (rangeF o d b).2.2.1 = x) : hitB o d b = x := by
  rw [rangeF_hit hb, err_F hb h0] at h; simpa using h
theorem stk_nil {P : List PT3} (h : ¬ ((stk P).length : Int) > 0) : P = [] := by rw [stk_len] at h; exact List.eq_nil_of_length_eq_zero (by omega)
theorem out_le {hit : BoxT → Bool} {out : List Int} {P : List PT3} {T : List Int} (h : out ++ todo hit P = T) (hl : T.length ≤ 1048576) : out.length ≤ 1048576 := by
  have := congrArg List.length h
  rw [List.length_append] at this; omega
end Go.Proofs.B
namespace Go.Proofs.B
open Go Go.AH
set_option maxRecDepth 4000
set_option linter.unusedSimpArgs false
set_option linter.unusedVariables false
theorem c_Touched (bx : List BoxT) (leaf : Int) (h_bx : bx.length ≤ 1048576) (he : (buildR bx leaf).2 = 0) (N : List NodeT) (I : List Int) (hN : N = (buildR bx leaf).1.Nodes) (hI : I = (buildR bx leaf).1.Items) (o d : VT) (hrd : ranV d) : PC Try.prog 12 [.agg [.sl N.length (N.flatMap eNode), .sl I.length (I.map eI)], .agg [.int .i64 o.X, .int .i64 o.Y, .int .i64 o.Z], .agg [.int .i64 d.X, .int .i64 d.Y, .int .i64 d.Z]] (.tup [.sl ((touR bx leaf o d).1).length (((touR bx leaf o d).1).map eI), .int .i64 ((touR bx leaf o d).2)]) := by
 intro H0
 have hf := tou_facts h_bx he hN hI
 refine ACalls.of_body' (n := 79) rfl rfl rfl rfl ?_
 have m0 := Mono.refl H0
 refine AWP.seq ?_
 refine AWP.region (l := [0, 1, 2, 3, 4]) rfl ?_
 refine AOps.cons rfl rfl (AOp.box (.agg [.sl N.length (N.flatMap eNode), .sl I.length (I.map eI)]) rfl rfl rfl ?_)
 intro i1 H2 n3 h4 k5
 have z6 := Mono.free m0 n3
 have m7 := Mono.new m0 n3 k5
 refine AOps.cons rfl rfl (AOp.box (.agg [.int .i64 o.X, .int .i64 o.Y, .int .i64 o.Z]) rfl rfl rfl ?_)
 intro i8 H9 n10 h11 k12
 have e13 := ne_new h4 n10
 have z14 := Mono.free m7 n10
 have h15 := keep k12 (ne_new h4 n10) h4
 have m16 := Mono.new m7 n10 k12
 refine AOps.cons rfl rfl (AOp.box (.agg [.int .i64 d.X, .int .i64 d.Y, .int .i64 d.Z]) rfl rfl rfl ?_)
 intro i17 H18 n19 h20 k21
 have e22 := ne_new h15 n19
 have e23 := ne_new h11 n19
 have z24 := Mono.free m16 n19
 have h25 := keep k21 (ne_new h15 n19) h15
 have h26 := keep k21 (ne_new h11 n19) h11
 have m27 := Mono.new m16 n19 k21
 refine AOps.cons rfl rfl (AOp.assign (.snil) rfl rfl ?_)
 refine AOps.cons rfl rfl (AOp.assign (.int .i64 0) rfl rfl ?_)
 refine AOps.nil ?_
 change AWP _ _ _ _ _ _
 refine AWP.seq ?_
 refine AWP.seq ?_
 refine AWP.frzP 3 h25 z6 rfl m27 fun H28 m29 k30 => ?_
 have h31 := (k30 _ (Ne.symm e13)).trans h26
 have h32 := (k30 _ (Ne.symm e22)).trans h20
 refine AWP.frzP 4 h31 z14 rfl m29 fun H33 m34 k35 => ?_
 have h36 := (k35 _ (Ne.symm e23)).trans h32
 refine AWP.frzP 5 h36 z24 rfl m34 fun H37 m38 k39 => ?_
 refine AWP.region (l := [0, 1, 2, 3]) rfl ?_
 refine AOps.cons rfl rfl (AOp.fieldAddrF rfl rfl fl_29_0 ?_)
 refine AOps.cons rfl rfl (AOp.loadF (.sl N.length (N.flatMap eNode)) rfl rfl ty_26 rfl ?_)
 refine AOps.cons rfl rfl (AOp.len (m := N.length) rfl rfl (.inr (.inl ⟨_, rfl⟩)) u_26 ?_)
 refine AOps.cons rfl rfl (AOp.bin (.bool (decide ((N.length : Int) = 0))) rfl rfl rfl ieq ?_)
 refine AOps.nil ?_
 change AWP _ _ _ _ _ _
 by_cases b40 : (N.length : Int) = 0
 ·
  refine AWP.condT rfl (decide_eq_true b40) ?_
  refine AWP.seq ?_
  refine AWP.region (l := [0, 1]) rfl ?_
  refine AOps.cons rfl rfl (AOp.assign (.snil) rfl rfl ?_)
  refine AOps.cons rfl rfl (AOp.assign (.int .i64 0) rfl rfl ?_)
  refine AOps.nil ?_
  change AWP _ _ _ _ _ _
  refine AWP.ret ?_
  refine Fin.frz 6 (Own.nil H0 H37 1) rfl m38 fun H41 m42 k43 => ?_
  refine ⟨_, _, Ghost.refl, .inr rfl, _, Res.two rfl rfl rfl, ?_, m42⟩
  exact congrArg AV.tup (lc (congrArg (fun l : List Int => AV.sl l.length (l.map eI)) (show ([] : List Int) = (touR bx leaf o d).1 from by rw [tou_nil (by omega)])) (lc (congrArg (AV.int .i64) (show (0 : Int) = (touR bx leaf o d).2 from by rw [tou_nil (by omega)])) rfl))
 ·
  refine AWP.condF rfl (decide_eq_false b40) ?_
  refine AWP.skip ?_
  change AWP _ _ _ _ _ _
  refine AWP.seq ?_
  obtain ⟨hn0, hb0, hNl, hIl, hroot, hsz, htl⟩ := hf.resolve_left (by omega)
  refine AWP.region (l := [0]) rfl ?_
  refine AOps.cons rfl rfl (AOp.assign (.snil) rfl rfl ?_)
  refine AOps.nil ?_
  change AWP _ _ _ _ _ _
  refine AWP.seq ?_
  refine AWP.region (l := [0, 1]) rfl ?_
  refine AOps.cons rfl rfl (AOp.buildSlice (cells := [.int .i64 0]) rfl u_27 ts_3 tz_3 rfl rfl rfl ?_)
  intro i44 H45 n46 h47 k48
  have z49 := Mono.free m38 n46
  have m50 := Mono.new m38 n46 k48
  refine AOps.cons rfl rfl (AOp.assign (.slm i44 0 1 0 1) rfl rfl ?_)
  refine AOps.nil ?_
  change AWP _ _ _ _ _ _
  refine AWP.seq ?_
  refine AWP.block ?_
  obtain ⟨v51, e52⟩ : ∃ v : AV, v = .slm i44 0 1 0 1 := ⟨_, rfl⟩
  have o53 : Own H0 H45 1 v51 1 [.int .i64 0] := .inr ⟨_, _, e52, h47, z49, rfl⟩
  refine AWP.loop (fun q54 fq Hq => ∃ (P : List PT3) (out : List Int) (w8 : AV) (w9 : AV), q54 = 2 * szP P ∧ fq 3 = .fptr [.sl N.length (N.flatMap eNode), .sl I.length (I.map eI)] 0 ∧ fq 4 = .fptr [.int .i64 o.X, .int .i64 o.Y, .int .i64 o.Z] 0 ∧ fq 5 = .fptr [.int .i64 d.X, .int .i64 d.Y, .int .i64 d.Z] 0 ∧ fq 8 = w8 ∧ Own H0 Hq 1 w8 (out).length ((out).map eI) ∧ fq 9 = w9 ∧ Own H0 Hq 1 w9 (stk P).length ((stk P).map eI) ∧ Sep w8 w9 ∧ Mono H0 Hq ∧ (∀ x ∈ P, POK N I x) ∧ (out ++ todo (hitB o d) P = touchT (hitB o d) (rootT bx leaf)) ∧ (badOD o d = false ∨ P ≠ []) ∧ (szP P ≤ 2097152)) (k := 2 * szP ([(rootT bx leaf, 0, 0)])) ?_ ?_
  ·
   exact ⟨[(rootT bx leaf, 0, 0)], [], .snil, v51, rfl, rfl, rfl, rfl, rfl, Own.nil _ _ _, e52.symm, (have hx : (([0] : List Int) : List Int) = stk ([(rootT bx leaf, 0, 0)]) := (by rfl); Own.re (o53) (congrArg List.length hx) (congrArg (fun l : List Int => l.map eI) hx)), (Sep.nilL _), m50, by intro x hx; rw [List.mem_singleton] at hx; subst hx; exact hroot, by simp [todo], by exact .inr (by simp), by simp [szP]; omega⟩
  ·
   rintro _ f56 H55 ⟨P, out, w8, w9, rfl, s57, s58, s59, s60, o61, s62, o63, sp64, m65, hP, hT, hbd, hz⟩
   refine AWP.seq ?_
   refine AWP.seq ?_
   refine AWP.region (l := [0, 1, 2]) rfl ?_
   refine AOps.cons rfl rfl (AOp.move (w9) rfl s62 ?_)
   refine AOps.cons rfl rfl (AOp.len_own (m := ((stk P).length)) rfl rfl o63 u_27 ?_)
   refine AOps.cons rfl rfl (AOp.bin (.bool (decide ((((stk P).length) : Int) > 0))) rfl rfl rfl rfl ?_)
   refine AOps.nil ?_
   change AWP _ _ _ _ _ _
   by_cases b66 : (((stk P).length) : Int) > 0
   ·
    refine AWP.condT rfl (decide_eq_true b66) ?_
    refine AWP.skip ?_
    change AWP _ _ _ _ _ _
    refine AWP.block ?_
    refine AWP.seq ?_
    have htk := top_ok (N := N) (I := I) (by omega) hP
    unfold topN at htk
    have hol := out_le hT (htl _)
    have hsl := len_szP P
    have hsk := stk_len P
    refine AWP.region_quietA mixed (by kernel_rfl) 10 11 [11] rfl (by kernel_rfl) (B := .row 0 ([.int .i64 0, .int .i64 0, .int .i64 0, .int .i64 0, .int .i64 0, .int .i64 0, .int .i64 0, .int .i64 0, .int .i64 0, .int .i64 0])) (va := fun i => .ptr i 0 0) (by decide) fun i67 n68 _ hs69 => ?_
    refine QEA.op rfl rfl rfl (.inl ⟨rfl, fun H1 f' H' hf hN hM => AOp.fieldAddrF rfl ((hf 3 rfl).trans s57) fl_29_0 ⟨rfl, hN⟩⟩) ?_
    refine QEA.op rfl rfl rfl (.inl ⟨rfl, fun H1 f' H' hf hN hM => AOp.loadF (.sl N.length (N.flatMap eNode)) rfl ((hf 23 rfl).trans rfl) ty_26 rfl ⟨rfl, hN⟩⟩) ?_
    refine QEA.op rfl rfl rfl (.inl ⟨rfl, fun H1 f' H' hf hN hM => AOp.move (w9) rfl ((hf 9 rfl).trans s62) ⟨rfl, hN⟩⟩) ?_
    refine QEA.op rfl rfl rfl (.inl ⟨rfl, fun H1 f' H' hf hN hM => AOp.move (w9) rfl ((hf 9 rfl).trans s62) ⟨rfl, hN⟩⟩) ?_
    refine QEA.op rfl rfl rfl (.inl ⟨rfl, fun H1 f' H' hf hN hM => AOp.len_own (m := ((stk P).length)) rfl ((hf 26 rfl).trans rfl) o63 u_27 ⟨rfl, hN⟩⟩) ?_
    refine QEA.op rfl rfl rfl (.inl ⟨rfl, fun H1 f' H' hf hN hM => AOp.bin (.int .i64 ((((stk P).length) : Int) - 1)) rfl ((hf 27 rfl).trans rfl) rfl (isub (by omega)) ⟨rfl, hN⟩⟩) ?_
    obtain ⟨i70, ver71, e72, h73, _, _⟩ := Own.pos o63 (by omega)
    refine QEA.op rfl rfl rfl (.inl ⟨rfl, fun H1 f' H' hf hN hM => AOp.indexAddrO rfl (Eq.trans ((hf 25 rfl).trans rfl) e72) ((hf 28 rfl).trans rfl) sl_27 (by omega) (by omega) (hM _ _ h73) ⟨rfl, hN⟩⟩) ?_
    refine QEA.op rfl rfl rfl (.inl ⟨rfl, fun H1 f' H' hf hN hM => AOp.load (.int .i64 (at_ (stk P) ((((stk P).length) : Int) - 1))) rfl ((hf 29 rfl).trans rfl) ty_3 (hM _ _ h73) (ld1 (by omega) (by omega)) ⟨rfl, hN⟩⟩) ?_
    refine QEA.op rfl rfl rfl (.inl ⟨rfl, fun H1 f' H' hf hN hM => AOp.indexAddrS rfl ((hf 24 rfl).trans rfl) ((hf 30 rfl).trans rfl) sl_26 (by omega) (by omega) ⟨rfl, hN⟩⟩) ?_
    refine QEA.op rfl rfl rfl (.inl ⟨rfl, fun H1 f' H' hf hN hM => AOp.loadF (.agg [.int .i64 ((((at_ N (at_ (stk P) ((((stk P).length) : Int) - 1))).Box).Lo).X), .int .i64 ((((at_ N (at_ (stk P) ((((stk P).length) : Int) - 1))).Box).Lo).Y), .int .i64 ((((at_ N (at_ (stk P) ((((stk P).length) : Int) - 1))).Box).Lo).Z), .int .i64 ((((at_ N (at_ (stk P) ((((stk P).length) : Int) - 1))).Box).Hi).X), .int .i64 ((((at_ N (at_ (stk P) ((((stk P).length) : Int) - 1))).Box).Hi).Y), .int .i64 ((((at_ N (at_ (stk P) ((((stk P).length) : Int) - 1))).Box).Hi).Z), .int .i64 ((at_ N (at_ (stk P) ((((stk P).length) : Int) - 1))).Left), .int .i64 ((at_ N (at_ (stk P) ((((stk P).length) : Int) - 1))).Right), .int .i64 ((at_ N (at_ (stk P) ((((stk P).length) : Int) - 1))).First), .int .i64 ((at_ N (at_ (stk P) ((((stk P).length) : Int) - 1))).Count)]) rfl ((hf 31 rfl).trans rfl) ty_42 (ldM eNode_len (by omega) (by omega)) ⟨rfl, hN⟩⟩) ?_
    refine QEA.alloc rfl rfl rfl rfl rfl tz_42 ?_
    refine QEA.done fun H74 m76 => ?_
    have m75 := hs69 _ m76
    have z77 := Mono.free m65 n68
    have no78 := Own.notnew o61 n68
    have no79 := Own.notnew o63 n68
    have o80 := Own.mono o61 m75
    have o81 := Own.mono o63 m75
    have m82 := m65.trans m75
    have h83 : H74 i67 = some (.row 0 ([.int .i64 0, .int .i64 0, .int .i64 0, .int .i64 0, .int .i64 0, .int .i64 0, .int .i64 0, .int .i64 0, .int .i64 0, .int .i64 0])) := m76 i67 _ (updH_same _ _ _)
    refine AOps.cons rfl rfl (AOp.store' (cells' := [.int .i64 ((((at_ N (at_ (stk P) ((((stk P).length) : Int) - 1))).Box).Lo).X), .int .i64 ((((at_ N (at_ (stk P) ((((stk P).length) : Int) - 1))).Box).Lo).Y), .int .i64 ((((at_ N (at_ (stk P) ((((stk P).length) : Int) - 1))).Box).Lo).Z), .int .i64 ((((at_ N (at_ (stk P) ((((stk P).length) : Int) - 1))).Box).Hi).X), .int .i64 ((((at_ N (at_ (stk P) ((((stk P).length) : Int) - 1))).Box).Hi).Y), .int .i64 ((((at_ N (at_ (stk P) ((((stk P).length) : Int) - 1))).Box).Hi).Z), .int .i64 ((at_ N (at_ (stk P) ((((stk P).length) : Int) - 1))).Left), .int .i64 ((at_ N (at_ (stk P) ((((stk P).length) : Int) - 1))).Right), .int .i64 ((at_ N (at_ (stk P) ((((stk P).length) : Int) - 1))).First), .int .i64 ((at_ N (at_ (stk P) ((((stk P).length) : Int) - 1))).Count)]) (.agg [.int .i64 ((((at_ N (at_ (stk P) ((((stk P).length) : Int) - 1))).Box).Lo).X), .int .i64 ((((at_ N (at_ (stk P) ((((stk P).length) : Int) - 1))).Box).Lo).Y), .int .i64 ((((at_ N (at_ (stk P) ((((stk P).length) : Int) - 1))).Box).Lo).Z), .int .i64 ((((at_ N (at_ (stk P) ((((stk P).length) : Int) - 1))).Box).Hi).X), .int .i64 ((((at_ N (at_ (stk P) ((((stk P).length) : Int) - 1))).Box).Hi).Y), .int .i64 ((((at_ N (at_ (stk P) ((((stk P).length) : Int) - 1))).Box).Hi).Z), .int .i64 ((at_ N (at_ (stk P) ((((stk P).length) : Int) - 1))).Left), .int .i64 ((at_ N (at_ (stk P) ((((stk P).length) : Int) - 1))).Right), .int .i64 ((at_ N (at_ (stk P) ((((stk P).length) : Int) - 1))).First), .int .i64 ((at_ N (at_ (stk P) ((((stk P).length) : Int) - 1))).Count)]) rfl rfl ts_42 h83 rfl rfl rfl rfl ?_)
    intro H84 h85 k86
    have o88 := Own.keep o80 k86 no78
    have o89 := Own.keep o81 k86 no79
    have m90 := Mono.set m82 z77 k86
    refine AOps.nil ?_
    change AWP _ _ _ _ _ _
    refine AWP.seq ?_
    refine AWP.frzP 10 h85 z77 rfl m90 fun H91 m92 k93 => ?_
    have o94 := Own.keep o88 k93 no78
    have o95 := Own.keep o89 k93 no79
    refine AWP.region (l := [0, 1, 2, 3, 4, 5]) rfl ?_
    refine AOps.cons rfl rfl (AOp.move (w9) rfl s62 ?_)
    refine AOps.cons rfl rfl (AOp.move (w9) rfl s62 ?_)
    refine AOps.cons rfl rfl (AOp.len_own (m := ((stk P).length)) rfl rfl o95 u_27 ?_)
    refine AOps.cons rfl rfl (AOp.bin (.int .i64 ((((stk P).length) : Int) - 1)) rfl rfl rfl (isub (by omega)) ?_)
    refine AOps.cons rfl rfl (AOp.slice_own (h := (((stk P).length) : Int) - 1) rfl rfl sl_27 o95 m92 (by omega) (hi_of rfl) (by omega) (by omega) ?_)
    intro v96 H97 o98 m99 k100 j101
    have o102 : Own H0 H97 1 v96 (((stk P)).take ((((stk P).length) : Int) - 1).toNat).length ((((stk P)).take ((((stk P).length) : Int) - 1).toNat).map eI) := Own.re o98 (by rw [List.length_take]; omega) (by rw [Nat.mul_one, List.map_take])
    have sp104 := Own.sep o94 sp64 j101
    have o103 := Own.stay o94 sp64 k100
    refine AOps.cons rfl rfl (AOp.assign (v96) rfl rfl ?_)
    refine AOps.nil ?_
    change AWP _ _ _ _ _ _
    refine AWP.seq ?_
    refine AWP.region (l := [0, 1, 2, 3, 4, 5, 6, 7, 8, 9, 10, 11, 12, 13, 14, 15]) rfl ?_
    refine AOps.cons rfl rfl (AOp.loadF (.agg [.int .i64 o.X, .int .i64 o.Y, .int .i64 o.Z]) rfl s58 ty_24 rfl ?_)
    refine AOps.cons rfl rfl (AOp.loadF (.agg [.int .i64 d.X, .int .i64 d.Y, .int .i64 d.Z]) rfl s59 ty_24 rfl ?_)
    refine AOps.cons rfl rfl (AOp.fieldAddrF rfl rfl fl_42_0 ?_)
    refine AOps.cons rfl rfl (AOp.loadF (.agg [.int .i64 ((((at_ N (at_ (stk P) ((((stk P).length) : Int) - 1))).Box).Lo).X), .int .i64 ((((at_ N (at_ (stk P) ((((stk P).length) : Int) - 1))).Box).Lo).Y), .int .i64 ((((at_ N (at_ (stk P) ((((stk P).length) : Int) - 1))).Box).Lo).Z), .int .i64 ((((at_ N (at_ (stk P) ((((stk P).length) : Int) - 1))).Box).Hi).X), .int .i64 ((((at_ N (at_ (stk P) ((((stk P).length) : Int) - 1))).Box).Hi).Y), .int .i64 ((((at_ N (at_ (stk P) ((((stk P).length) : Int) - 1))).Box).Hi).Z)]) rfl rfl ty_37 rfl ?_)
    refine AOps.cons rfl rfl (AOp.pcall («as» := [.agg [.int .i64 o.X, .int .i64 o.Y, .int .i64 o.Z], .agg [.int .i64 d.X, .int .i64 d.Y, .int .i64 d.Z], .agg [.int .i64 ((((at_ N (at_ (stk P) ((((stk P).length) : Int) - 1))).Box).Lo).X), .int .i64 ((((at_ N (at_ (stk P) ((((stk P).length) : Int) - 1))).Box).Lo).Y), .int .i64 ((((at_ N (at_ (stk P) ((((stk P).length) : Int) - 1))).Box).Lo).Z), .int .i64 ((((at_ N (at_ (stk P) ((((stk P).length) : Int) - 1))).Box).Hi).X), .int .i64 ((((at_ N (at_ (stk P) ((((stk P).length) : Int) - 1))).Box).Hi).Y), .int .i64 ((((at_ N (at_ (stk P) ((((stk P).length) : Int) - 1))).Box).Hi).Z)]]) rfl rfl (rfl) tf_16 (c_Range o d ((at_ N (at_ (stk P) ((((stk P).length) : Int) - 1))).Box) hrd) ?_)
    intro H105 m106
    have o107 := Own.mono o103 m106
    have o108 := Own.mono o102 m106
    have m109 := m99.trans m106
    refine AOps.cons rfl rfl (AOp.move (.tup [.agg [.int .i64 (((rangeF o d ((at_ N (at_ (stk P) ((((stk P).length) : Int) - 1))).Box)).1).N), .int .i64 (((rangeF o d ((at_ N (at_ (stk P) ((((stk P).length) : Int) - 1))).Box)).1).D)], .agg [.int .i64 (((rangeF o d ((at_ N (at_ (stk P) ((((stk P).length) : Int) - 1))).Box)).2.1).N), .int .i64 (((rangeF o d ((at_ N (at_ (stk P) ((((stk P).length) : Int) - 1))).Box)).2.1).D)], .bool ((rangeF o d ((at_ N (at_ (stk P) ((((stk P).length) : Int) - 1))).Box)).2.2.1), .int .i64 ((rangeF o d ((at_ N (at_ (stk P) ((((stk P).length) : Int) - 1))).Box)).2.2.2)]) rfl rfl ?_)
    refine AOps.cons rfl rfl (AOp.extract (.agg [.int .i64 (((rangeF o d ((at_ N (at_ (stk P) ((((stk P).length) : Int) - 1))).Box)).1).N), .int .i64 (((rangeF o d ((at_ N (at_ (stk P) ((((stk P).length) : Int) - 1))).Box)).1).D)]) rfl rfl rfl ?_)
    refine AOps.cons rfl rfl (AOp.extract (.agg [.int .i64 (((rangeF o d ((at_ N (at_ (stk P) ((((stk P).length) : Int) - 1))).Box)).2.1).N), .int .i64 (((rangeF o d ((at_ N (at_ (stk P) ((((stk P).length) : Int) - 1))).Box)).2.1).D)]) rfl rfl rfl ?_)
    refine AOps.cons rfl rfl (AOp.extract (.bool ((rangeF o d ((at_ N (at_ (stk P) ((((stk P).length) : Int) - 1))).Box)).2.2.1)) rfl rfl rfl ?_)
    refine AOps.cons rfl rfl (AOp.extract (.int .i64 ((rangeF o d ((at_ N (at_ (stk P) ((((stk P).length) : Int) - 1))).Box)).2.2.2)) rfl rfl rfl ?_)
    refine AOps.cons rfl rfl (AOp.alloc rfl tz_46 ?_)
    intro i110 H111 n112 h113 k114
    have z115 := Mono.free m109 n112
    have o116 := Own.keep o107 k114 (Own.notnew o107 n112)
    have no117 := Own.notnew o107 n112
    have o118 := Own.keep o108 k114 (Own.notnew o108 n112)
    have no119 := Own.notnew o108 n112
    have m120 := Mono.new m109 n112 k114
    refine AOps.cons rfl rfl (AOp.alloc rfl tz_46 ?_)
    intro i121 H122 n123 h124 k125
    have e126 := ne_new h113 n123
    have z127 := Mono.free m120 n123
    have h128 := keep k125 (ne_new h113 n123) h113
    have o129 := Own.keep o116 k125 (Own.notnew o116 n123)
    have no130 := Own.notnew o116 n123
    have o131 := Own.keep o118 k125 (Own.notnew o118 n123)
    have no132 := Own.notnew o118 n123
    have m133 := Mono.new m120 n123 k125
    refine AOps.cons rfl rfl (AOp.store' (cells' := [.int .i64 (((rangeF o d ((at_ N (at_ (stk P) ((((stk P).length) : Int) - 1))).Box)).1).N), .int .i64 (((rangeF o d ((at_ N (at_ (stk P) ((((stk P).length) : Int) - 1))).Box)).1).D)]) (.agg [.int .i64 (((rangeF o d ((at_ N (at_ (stk P) ((((stk P).length) : Int) - 1))).Box)).1).N), .int .i64 (((rangeF o d ((at_ N (at_ (stk P) ((((stk P).length) : Int) - 1))).Box)).1).D)]) rfl rfl ts_46 h128 rfl rfl rfl rfl ?_)
    intro H134 h135 k136
    have h138 := keep k136 (Ne.symm e126) h124
    have o139 := Own.keep o129 k136 no117
    have o140 := Own.keep o131 k136 no119
    have m141 := Mono.set m133 z115 k136
    refine AOps.cons rfl rfl (AOp.store' (cells' := [.int .i64 (((rangeF o d ((at_ N (at_ (stk P) ((((stk P).length) : Int) - 1))).Box)).2.1).N), .int .i64 (((rangeF o d ((at_ N (at_ (stk P) ((((stk P).length) : Int) - 1))).Box)).2.1).D)]) (.agg [.int .i64 (((rangeF o d ((at_ N (at_ (stk P) ((((stk P).length) : Int) - 1))).Box)).2.1).N), .int .i64 (((rangeF o d ((at_ N (at_ (stk P) ((((stk P).length) : Int) - 1))).Box)).2.1).D)]) rfl rfl ts_46 h138 rfl rfl rfl rfl ?_)
    intro H142 h143 k144
    have h146 := keep k144 e126 h135
    have o147 := Own.keep o139 k144 no130
    have o148 := Own.keep o140 k144 no132
    have m149 := Mono.set m141 z127 k144
    refine AOps.cons rfl rfl (AOp.assign (.bool ((rangeF o d ((at_ N (at_ (stk P) ((((stk P).length) : Int) - 1))).Box)).2.2.1)) rfl rfl ?_)
    refine AOps.cons rfl rfl (AOp.assign (.int .i64 ((rangeF o d ((at_ N (at_ (stk P) ((((stk P).length) : Int) - 1))).Box)).2.2.2)) rfl rfl ?_)
    refine AOps.nil ?_
    change AWP _ _ _ _ _ _
    refine AWP.block ?_
    refine AWP.seq ?_
    refine AWP.frzP 11 h146 z115 rfl m149 fun H150 m151 k152 => ?_
    have h153 := (k152 _ (Ne.symm e126)).trans h143
    have o154 := Own.keep o147 k152 no117
    have o155 := Own.keep o148 k152 no119
    refine AWP.frzP 12 h153 z127 rfl m151 fun H156 m157 k158 => ?_
    have o159 := Own.keep o154 k158 no130
    have o160 := Own.keep o155 k158 no132
    refine AWP.region (l := [0, 1, 2]) rfl ?_
    refine AOps.cons rfl rfl (AOp.move (.int .i64 ((rangeF o d ((at_ N (at_ (stk P) ((((stk P).length) : Int) - 1))).Box)).2.2.2)) rfl rfl ?_)
    refine AOps.cons rfl rfl (AOp.bin (.bool (!decide ((rangeF o d ((at_ N (at_ (stk P) ((((stk P).length) : Int) - 1))).Box)).2.2.2 = 0))) rfl rfl rfl ine ?_)
    refine AOps.cons rfl rfl (AOp.assign (.bool (!decide ((rangeF o d ((at_ N (at_ (stk P) ((((stk P).length) : Int) - 1))).Box)).2.2.2 = 0))) rfl rfl ?_)
    refine AOps.nil ?_
    change AWP _ _ _ _ _ _
    by_cases b161 : (rangeF o d ((at_ N (at_ (stk P) ((((stk P).length) : Int) - 1))).Box)).2.2.2 = 0
    ·
     refine AWP.condF rfl (nb (decide_eq_true b161)) ?_
     refine AWP.seq ?_
     have herr := b161
     refine AWP.region (l := [0, 1, 2]) rfl ?_
     refine AOps.cons rfl rfl (AOp.move (.bool ((rangeF o d ((at_ N (at_ (stk P) ((((stk P).length) : Int) - 1))).Box)).2.2.1)) rfl rfl ?_)
     refine AOps.cons rfl rfl (AOp.not rfl rfl ?_)
     refine AOps.cons rfl rfl (AOp.assign (.bool (!((rangeF o d ((at_ N (at_ (stk P) ((((stk P).length) : Int) - 1))).Box)).2.2.1))) rfl rfl ?_)
     refine AOps.nil ?_
     change AWP _ _ _ _ _ _
     rcases Bool.eq_false_or_eq_true ((rangeF o d ((at_ N (at_ (stk P) ((((stk P).length) : Int) - 1))).Box)).2.2.1) with b162 | b162
     ·
      refine AWP.condF rfl (nb b162) ?_
      refine AWP.seq ?_
      refine AWP.region (l := [0, 1, 2, 3]) rfl ?_
      refine AOps.cons rfl rfl (AOp.fieldAddrF rfl rfl fl_42_4 ?_)
      refine AOps.cons rfl rfl (AOp.loadF (.int .i64 ((at_ N (at_ (stk P) ((((stk P).length) : Int) - 1))).Count)) rfl rfl ty_3 rfl ?_)
      refine AOps.cons rfl rfl (AOp.bin (.bool (decide ((at_ N (at_ (stk P) ((((stk P).length) : Int) - 1))).Count > 0))) rfl rfl rfl rfl ?_)
      refine AOps.cons rfl rfl (AOp.assign (.bool (decide ((at_ N (at_ (stk P) ((((stk P).length) : Int) - 1))).Count > 0))) rfl rfl ?_)
      refine AOps.nil ?_
      change AWP _ _ _ _ _ _
      by_cases b163 : (at_ N (at_ (stk P) ((((stk P).length) : Int) - 1))).Count > 0
      ·
       refine AWP.condT rfl (decide_eq_true b163) ?_
       refine AWP.region (l := [0, 1, 2, 3, 4, 5, 6, 7, 8, 9, 10, 11, 12]) rfl ?_
       refine AOps.cons rfl rfl (AOp.move (w8) rfl s60 ?_)
       refine AOps.cons rfl rfl (AOp.fieldAddrF rfl s57 fl_29_1 ?_)
       refine AOps.cons rfl rfl (AOp.loadF (.sl I.length (I.map eI)) rfl rfl ty_27 rfl ?_)
       refine AOps.cons rfl rfl (AOp.fieldAddrF rfl rfl fl_42_3 ?_)
       refine AOps.cons rfl rfl (AOp.loadF (.int .i64 ((at_ N (at_ (stk P) ((((stk P).length) : Int) - 1))).First)) rfl rfl ty_3 rfl ?_)
       refine AOps.cons rfl rfl (AOp.fieldAddrF rfl rfl fl_42_3 ?_)
       refine AOps.cons rfl rfl (AOp.loadF (.int .i64 ((at_ N (at_ (stk P) ((((stk P).length) : Int) - 1))).First)) rfl rfl ty_3 rfl ?_)
       refine AOps.cons rfl rfl (AOp.fieldAddrF rfl rfl fl_42_4 ?_)
       refine AOps.cons rfl rfl (AOp.loadF (.int .i64 ((at_ N (at_ (stk P) ((((stk P).length) : Int) - 1))).Count)) rfl rfl ty_3 rfl ?_)
       refine AOps.cons rfl rfl (AOp.bin (.int .i64 ((at_ N (at_ (stk P) ((((stk P).length) : Int) - 1))).First + ((at_ N (at_ (stk P) ((((stk P).length) : Int) - 1))).Count))) rfl rfl rfl (iadd (by omega)) ?_)
       refine AOps.cons rfl rfl (AOp.sliceSG1 (l := (at_ N (at_ (stk P) ((((stk P).length) : Int) - 1))).First) (h := (at_ N (at_ (stk P) ((((stk P).length) : Int) - 1))).First + ((at_ N (at_ (stk P) ((((stk P).length) : Int) - 1))).Count)) rfl rfl  sl_27 (lo_of rfl) (hi_of rfl) (by omega) (by omega) (by omega) ?_)
       refine AOps.cons rfl rfl (AOp.append_any (es := 1) (m := (((I).drop ((at_ N (at_ (stk P) ((((stk P).length) : Int) - 1))).First).toNat).take (((at_ N (at_ (stk P) ((((stk P).length) : Int) - 1))).First + ((at_ N (at_ (stk P) ((((stk P).length) : Int) - 1))).Count)).toNat - ((at_ N (at_ (stk P) ((((stk P).length) : Int) - 1))).First).toNat)).length) (len := ((out).length)) (old := (out).map eI) (cells := (((I).drop ((at_ N (at_ (stk P) ((((stk P).length) : Int) - 1))).First).toNat).take (((at_ N (at_ (stk P) ((((stk P).length) : Int) - 1))).First + ((at_ N (at_ (stk P) ((((stk P).length) : Int) - 1))).Count)).toNat - ((at_ N (at_ (stk P) ((((stk P).length) : Int) - 1))).First).toNat)).map eI) rfl u_27 ts_3 tzn_3 tb_3 (by decide) ni_27 rfl o159 m157 rfl (.sl (by simp)) (by exact one_map eI_one)  (by first | omega | (simp; omega)) ?_)
       intro v164 H165 o166 m167 k168 j169
       have o170 := Own.app1 (xs := ((out) : List Int)) (ys := ((I).drop ((at_ N (at_ (stk P) ((((stk P).length) : Int) - 1))).First).toNat).take (((at_ N (at_ (stk P) ((((stk P).length) : Int) - 1))).First + ((at_ N (at_ (stk P) ((((stk P).length) : Int) - 1))).Count)).toNat - ((at_ N (at_ (stk P) ((((stk P).length) : Int) - 1))).First).toNat)) (e := eI) (by simp) o166
       have sp172 := Own.sep o160 (Sep.symm sp104) j169
       have o171 := Own.stay o160 (Sep.symm sp104) k168
       refine AOps.cons rfl rfl (AOp.assign (v164) rfl rfl ?_)
       refine AOps.nil ?_
       exact ⟨_, by have := (pop_ok (by omega) hP).2.1; omega, P.dropLast, (out ++ (I.drop (at_ N (at_ (stk P) (((stk P).length : Int) - 1))).First.toNat).take (at_ N (at_ (stk P) (((stk P).length : Int) - 1))).Count.toNat), v164, v96, rfl, s57, s58, s59, rfl, (have hx : (((out) ++ (((I).drop ((at_ N (at_ (stk P) ((((stk P).length) : Int) - 1))).First).toNat).take (((at_ N (at_ (stk P) ((((stk P).length) : Int) - 1))).First + ((at_ N (at_ (stk P) ((((stk P).length) : Int) - 1))).Count)).toNat - ((at_ N (at_ (stk P) ((((stk P).length) : Int) - 1))).First).toNat))) : List Int) = (out ++ (I.drop (at_ N (at_ (stk P) (((stk P).length : Int) - 1))).First.toNat).take (at_ N (at_ (stk P) (((stk P).length : Int) - 1))).Count.toNat) := (by first | rfl | (rw [show ((at_ N (at_ (stk P) (((stk P).length : Int) - 1))).First + ((at_ N (at_ (stk P) (((stk P).length : Int) - 1))).Count)).toNat - (at_ N (at_ (stk P) (((stk P).length : Int) - 1))).First.toNat = (at_ N (at_ (stk P) (((stk P).length : Int) - 1))).Count.toNat from by omega])); Own.re o170 (congrArg List.length hx) (congrArg (fun l : List Int => l.map eI) hx)), rfl, (have hx : ((((stk P)).take ((((stk P).length) : Int) - 1).toNat) : List Int) = stk P.dropLast := (by exact (pop_ok (by omega) hP).2.2.symm); Own.re o171 (congrArg List.length hx) (congrArg (fun l : List Int => l.map eI) hx)), (Sep.symm sp172), m167, by exact (pop_ok (by omega) hP).1, by rw [List.append_assoc]; exact (congrArg (fun l => out ++ l) (top_leaf (by omega) hP (hit_of htk.2.1 herr b162) (by exact b163)).symm).trans hT, by exact .inl (err_F htk.2.1 herr), by have := (pop_ok (by omega) hP).2.1; omega⟩
      ·
       refine AWP.condF rfl (decide_eq_false b163) ?_
       refine AWP.region (l := [0, 1, 2, 3, 4, 5, 6, 7]) rfl ?_
       refine AOps.cons rfl rfl (AOp.move (v96) rfl rfl ?_)
       refine AOps.cons rfl rfl (AOp.fieldAddrF rfl rfl fl_42_2 ?_)
       refine AOps.cons rfl rfl (AOp.loadF (.int .i64 ((at_ N (at_ (stk P) ((((stk P).length) : Int) - 1))).Right)) rfl rfl ty_3 rfl ?_)
       refine AOps.cons rfl rfl (AOp.fieldAddrF rfl rfl fl_42_1 ?_)
       refine AOps.cons rfl rfl (AOp.loadF (.int .i64 ((at_ N (at_ (stk P) ((((stk P).length) : Int) - 1))).Left)) rfl rfl ty_3 rfl ?_)
       refine AOps.cons rfl rfl (AOp.buildSlice (cells := [.int .i64 ((at_ N (at_ (stk P) ((((stk P).length) : Int) - 1))).Right), .int .i64 ((at_ N (at_ (stk P) ((((stk P).length) : Int) - 1))).Left)]) rfl u_27 ts_3 tz_3 rfl rfl rfl ?_)
       intro i173 H174 n175 h176 k177
       have z178 := Mono.free m157 n175
       have o179 := Own.keep o159 k177 (Own.notnew o159 n175)
       have no180 := Own.notnew o159 n175
       have o181 := Own.keep o160 k177 (Own.notnew o160 n175)
       have no182 := Own.notnew o160 n175
       have m183 := Mono.new m157 n175 k177
       refine AOps.cons rfl rfl (AOp.append_own (es := 1) (m := 2) (len := ((((stk P)).take ((((stk P).length) : Int) - 1).toNat).length)) (old := (((stk P)).take ((((stk P).length) : Int) - 1).toNat).map eI) (cells := [.int .i64 ((at_ N (at_ (stk P) ((((stk P).length) : Int) - 1))).Right), .int .i64 ((at_ N (at_ (stk P) ((((stk P).length) : Int) - 1))).Left)]) rfl u_27 ts_3 tzn_3 tb_3 (by decide) ni_27 rfl o181 m183 rfl (.slm h176 rfl) (one_of rfl) (by decide) (by first | omega | (simp; omega)) ?_)
       intro v184 H185 o186 m187 k188 j189
       have o190 := Own.app1 (xs := ((((stk P)).take ((((stk P).length) : Int) - 1).toNat) : List Int)) (ys := ([(at_ N (at_ (stk P) ((((stk P).length) : Int) - 1))).Right, (at_ N (at_ (stk P) ((((stk P).length) : Int) - 1))).Left] : List Int)) (e := eI) (by simp) o186
       have sp192 := Own.sep o179 sp104 j189
       have o191 := Own.stay o179 sp104 k188
       refine AOps.cons rfl rfl (AOp.assign (v184) rfl rfl ?_)
       refine AOps.nil ?_
       exact ⟨_, by have := (top_node (by omega) hP (hit_of htk.2.1 herr b162) (by exact b163)).2.2.1; omega, (nxtP P), out, w8, v184, rfl, s57, s58, s59, s60, o191, rfl, (have hx : (((((stk P)).take ((((stk P).length) : Int) - 1).toNat) ++ [(at_ N (at_ (stk P) ((((stk P).length) : Int) - 1))).Right, (at_ N (at_ (stk P) ((((stk P).length) : Int) - 1))).Left]) : List Int) = stk (nxtP P) := (by exact ((top_node (by omega) hP (hit_of htk.2.1 herr b162) (by exact b163)).2.1.trans (by rw [(pop_ok (by omega) hP).2.2]; rfl)).symm); Own.re o190 (congrArg List.length hx) (congrArg (fun l : List Int => l.map eI) hx)), sp192, m187, by exact (top_node (by omega) hP (hit_of htk.2.1 herr b162) (by exact b163)).2.2.2, by rw [← (top_node (by omega) hP (hit_of htk.2.1 herr b162) (by exact b163)).1]; exact hT, by exact .inl (err_F htk.2.1 herr), by have := (top_node (by omega) hP (hit_of htk.2.1 herr b162) (by exact b163)).2.2.1; omega⟩
     ·
      refine AWP.condT rfl (nb b162) ?_
      refine AWP.skip ?_
      exact ⟨_, by have := (pop_ok (by omega) hP).2.1; omega, P.dropLast, out, w8, v96, rfl, s57, s58, s59, s60, o159, rfl, (have hx : ((((stk P)).take ((((stk P).length) : Int) - 1).toNat) : List Int) = stk P.dropLast := (by exact (pop_ok (by omega) hP).2.2.symm); Own.re o160 (congrArg List.length hx) (congrArg (fun l : List Int => l.map eI) hx)), sp104, m157, by exact (pop_ok (by omega) hP).1, by rw [← top_skip (by omega) hP (hit_of htk.2.1 herr b162)]; exact hT, by exact .inl (err_F htk.2.1 herr), by have := (pop_ok (by omega) hP).2.1; omega⟩
    ·
     refine AWP.condT rfl (nb (decide_eq_false b161)) ?_
     refine AWP.seq ?_
     refine AWP.region (l := [0, 1, 2]) rfl ?_
     refine AOps.cons rfl rfl (AOp.move (.int .i64 ((rangeF o d ((at_ N (at_ (stk P) ((((stk P).length) : Int) - 1))).Box)).2.2.2)) rfl rfl ?_)
     refine AOps.cons rfl rfl (AOp.assign (.snil) rfl rfl ?_)
     refine AOps.cons rfl rfl (AOp.assign (.int .i64 ((rangeF o d ((at_ N (at_ (stk P) ((((stk P).length) : Int) - 1))).Box)).2.2.2)) rfl rfl ?_)
     refine AOps.nil ?_
     change AWP _ _ _ _ _ _
     refine AWP.ret ?_
     refine Fin.frz 6 (Own.nil H0 H156 1) rfl m157 fun H193 m194 k195 => ?_
     have o196 := Own.stay o159 (Sep.nilR _) (fun i hi _ => k195 i hi)
     have o197 := Own.stay o160 (Sep.nilR _) (fun i hi _ => k195 i hi)
     refine ⟨_, _, Ghost.refl, .inr rfl, _, Res.two rfl rfl rfl, ?_, m194⟩
     exact congrArg AV.tup (lc (congrArg (fun l : List Int => AV.sl l.length (l.map eI)) (show ([] : List Int) = (touR bx leaf o d).1 from by rw [tou_bad hb0 (err_T htk.2.1 b161).1] <;> exact (err_T htk.2.1 b161).2)) (lc (congrArg (AV.int .i64) (show ((rangeF o d ((at_ N (at_ (stk P) ((((stk P).length) : Int) - 1))).Box)).2.2.2 : Int) = (touR bx leaf o d).2 from by rw [tou_bad hb0 (err_T htk.2.1 b161).1] <;> exact (err_T htk.2.1 b161).2)) rfl))
   ·
    refine AWP.condF rfl (decide_eq_false b66) ?_
    refine AWP.exit ?_
    change AWP _ _ _ _ _ _
    refine AWP.seq ?_
    refine AWP.region (l := [0, 1, 2]) rfl ?_
    refine AOps.cons rfl rfl (AOp.move (w8) rfl s60 ?_)
    refine AOps.cons rfl rfl (AOp.assign (w8) rfl rfl ?_)
    refine AOps.cons rfl rfl (AOp.assign (.int .i64 0) rfl rfl ?_)
    refine AOps.nil ?_
    change AWP _ _ _ _ _ _
    refine AWP.ret ?_
    refine Fin.frz 6 o61 rfl m65 fun H198 m199 k200 => ?_
    have o201 := Own.stay o63 (Sep.symm sp64) (fun i hi _ => k200 i hi)
    refine ⟨_, _, Ghost.refl, .inr rfl, _, Res.two rfl rfl rfl, ?_, m199⟩
    exact congrArg AV.tup (lc (congrArg (fun l : List Int => AV.sl l.length (l.map eI)) (show ((out) : List Int) = (touR bx leaf o d).1 from by rw [tou_T hb0 (hbd.resolve_right fun h => h (stk_nil (by omega)))]; show _ = touchT (hitB o d) (rootT bx leaf); rw [← hT, top_end (by omega), List.append_nil])) (lc (congrArg (AV.int .i64) (show (0 : Int) = (touR bx leaf o d).2 from by rw [tou_T hb0 (hbd.resolve_right fun h => h (stk_nil (by omega)))])) rfl))
end Go.Proofs.B
namespace Go.Proofs.B
open Go Go.AH
set_option maxRecDepth 4000
theorem ext_at {α : Type} [Inhabited α] {a b : List α} (hl : a.length = b.length) (h : ∀ j : Int, 0 ≤ j → j < a.length → at_ a j = at_ b j) : a = b := by
  refine List.ext_getElem hl fun j h1 h2 => ?_
  have := h j (by omega) (by omega)
  simpa [at_, h1, h2] using this
theorem pre_step {α : Type} [Inhabited α] {a b : List α} {i : Int} (h : ∀ j : Int, 0 ≤ j → j < i → at_ a j = at_ b j) (hi : at_ a i = at_ b i) : ∀ j : Int, 0 ≤ j → j < i + 1 → at_ a j = at_ b j := fun j h1 h2 => by
  by_cases e : j = i
  · subst e; exact hi
  · exact h j h1 (by omega)
abbrev alB : List BoxT := [BoxT.mk (VT.mk 0 0 0) (VT.mk 1 1 1), BoxT.mk (VT.mk 9 0 0) (VT.mk 10 1 1), BoxT.mk (VT.mk 5 0 0) (VT.mk 6 1 1)]
theorem al_e : (buildR alB 2).2 = 0 := by kernel_rfl
theorem al_n : (buildR alB 2).1.Nodes.length = 3 := by kernel_rfl
theorem al_i : (buildR alB 2).1.Items = [0, 2, 1] := by kernel_rfl
theorem al_t : touR alB 2 (VT.mk 9 0 (-3)) (VT.mk 0 0 1) = ([1], 0) := by kernel_rfl
/-! ### All -/
structure AllF (bx : List BoxT) (leaf : Int) (N : List NodeT) (I : List Int) : Prop where
  il : I.length = bx.length
  nl : N.length ≤ 2097152
  inr : ∀ k ∈ I, 0 ≤ k ∧ k < (bx.length : Int)
  nd : I.Nodup
  nok : ∀ i : Int, 0 ≤ i → i < N.length → NodeOK bx leaf N I i
  sum : sumC N = bx.length
  bok : ∀ i : Int, 0 ≤ i → i < N.length → okBox (at_ N i).Box
  ok : ∀ b ∈ bx, okBox b
theorem box_all : ∀ {t : BT} {p q : Int}, BOK t → ∀ x ∈ flatN t p q, okBox x.Box
  | .leaf b its, p, q, h, x, hx => by simp only [flatN, List.mem_singleton] at hx; subst hx; exact h.1
  | .node b l r, p, q, h, x, hx => by
    simp only [flatN, List.mem_cons, List.mem_append] at hx
    rcases hx with rfl | hx | hx
    · exact h.1
    · exact box_all h.2.1 x hx
    · exact box_all h.2.2 x hx
theorem all_facts {bx : List BoxT} {leaf : Int} (hbx : bx.length ≤ 1048576) (he : (buildR bx leaf).2 = 0) : AllF bx leaf (buildR bx leaf).1.Nodes (buildR bx leaf).1.Items := by
  obtain ⟨h1, h2, h3⟩ := buildR_ok he
  rcases h3 with ⟨h3, h4⟩ | ⟨h3, h4⟩
  · rw [h4, h3]
    exact ⟨rfl, Nat.zero_le _, (fun k hk => by cases hk), List.nodup_nil, (fun i h0 h1 => by simp at h1; omega), rfl, (fun i h0 h1 => by simp at h1; omega), (fun b hb => by cases hb)⟩
  · rw [h4]
    have hs := root_size h1 h3
    have hp := root_items bx leaf
    have hl := root_len bx leaf
    have hb := root_bok h1 h2 h3
    refine ⟨hl, ?_, fun k hk => mem_iota.1 (hp.mem_iff.1 hk), hp.nodup_iff.2 (iota_nodup _), fun i h0 h5 => ?_, ?_, fun i h0 h5 => box_all hb _ (at_mem_l h0 h5), h2⟩
    · rw [flatN_len]; omega
    · exact node_ok h1 (root_placed bx leaf) (Int.le_refl _) (root_wf h1 h3) i h0 (by rw [flatN_len] at h5; omega)
    · rw [sumC_flat, hl]
theorem ranB_ok {b : BoxT} (h : okBox b) : ranB b := by
  simp only [okBox, inSp] at h
  refine ⟨⟨?_, ?_, ?_⟩, ?_, ?_, ?_⟩ <;> (unfold inR; omega)
end Go.Proofs.B
namespace Go.Proofs.B
open Go Go.AH
set_option maxRecDepth 4000
set_option linter.unusedSimpArgs false
set_option linter.unusedVariables false
theorem c_SameInts (a b : List Int) (ha : a.length ≤ 1048576) (hb : b.length ≤ 1048576) : PC Try.prog 14 [.sl a.length (a.map eI), .sl b.length (b.map eI)] (.bool (decide (a = b))) := by
 intro H0
 refine ACalls.of_body' (n := 26) rfl rfl rfl rfl ?_
 have m0 := Mono.refl H0
 refine AWP.seq ?_
 refine AWP.region (l := [0]) rfl ?_
 refine AOps.cons rfl rfl (AOp.assign (.bool false) rfl rfl ?_)
 refine AOps.nil ?_
 change AWP _ _ _ _ _ _
 refine AWP.seq ?_
 refine AWP.seq ?_
 refine AWP.region (l := [0, 1, 2, 3, 4]) rfl ?_
 refine AOps.cons rfl rfl (AOp.move (.sl a.length (a.map eI)) rfl rfl ?_)
 refine AOps.cons rfl rfl (AOp.len (m := a.length) rfl rfl (.inr (.inl ⟨_, rfl⟩)) u_27 ?_)
 refine AOps.cons rfl rfl (AOp.move (.sl b.length (b.map eI)) rfl rfl ?_)
 refine AOps.cons rfl rfl (AOp.len (m := b.length) rfl rfl (.inr (.inl ⟨_, rfl⟩)) u_27 ?_)
 refine AOps.cons rfl rfl (AOp.bin (.bool (!decide ((a.length : Int) = (b.length : Int)))) rfl rfl rfl ine ?_)
 refine AOps.nil ?_
 change AWP _ _ _ _ _ _
 by_cases b1 : (a.length : Int) = (b.length : Int)
 ·
  refine AWP.condF rfl (nb (decide_eq_true b1)) ?_
  refine AWP.skip ?_
  change AWP _ _ _ _ _ _
  refine AWP.seq ?_
  refine AWP.seq ?_
  refine AWP.region (l := [0]) rfl ?_
  refine AOps.cons rfl rfl (AOp.assign (.int .i64 0) rfl rfl ?_)
  refine AOps.nil ?_
  change AWP _ _ _ _ _ _
  refine AWP.block ?_
  refine AWP.loop (fun q2 fq Hq => ∃ (i : Int), q2 = (((a.length : Int) : Int) - i).toNat ∧ fq 5 = .int .i64 i ∧ fq 0 = .sl a.length (a.map eI) ∧ fq 1 = .sl b.length (b.map eI) ∧ Mono H0 Hq ∧ (0 ≤ i) ∧ (i ≤ (a.length : Int)) ∧ ((a.length : Int) = b.length) ∧ (∀ j : Int, 0 ≤ j → j < i → at_ a j = at_ b j)) (k := (((a.length : Int) : Int) - 0).toNat) ?_ ?_
  ·
   exact ⟨0, rfl, rfl, rfl, rfl, m0, by omega, by omega, by assumption, by intro j; omega⟩
  ·
   rintro _ f4 H3 ⟨i, rfl, s5, s6, s7, m8, hi0, hi1, hl, pre⟩
   refine AWP.seq ?_
   refine AWP.seq ?_
   refine AWP.region (l := [0, 1, 2, 3]) rfl ?_
   refine AOps.cons rfl rfl (AOp.move (.int .i64 i) rfl s5 ?_)
   refine AOps.cons rfl rfl (AOp.move (.sl a.length (a.map eI)) rfl s6 ?_)
   refine AOps.cons rfl rfl (AOp.len (m := a.length) rfl rfl (.inr (.inl ⟨_, rfl⟩)) u_27 ?_)
   refine AOps.cons rfl rfl (AOp.bin (.bool (decide (i < (a.length : Int)))) rfl rfl rfl rfl ?_)
   refine AOps.nil ?_
   change AWP _ _ _ _ _ _
   by_cases b9 : i < (a.length : Int)
   ·
    refine AWP.condT rfl (decide_eq_true b9) ?_
    refine AWP.skip ?_
    change AWP _ _ _ _ _ _
    refine AWP.seq ?_
    refine AWP.block ?_
    refine AWP.seq ?_
    refine AWP.region_quiet mixed (by kernel_rfl) 9 [] rfl (by kernel_rfl) (Mono H3) (Mono.refl _) ?_
    refine QE.op rfl rfl (.inl ⟨rfl, fun f' H' hf hM => AOp.move (.sl a.length (a.map eI)) rfl ((hf 0 rfl).trans s6) ⟨rfl, hM⟩⟩) ?_
    refine QE.op rfl rfl (.inl ⟨rfl, fun f' H' hf hM => AOp.move (.int .i64 i) rfl ((hf 5 rfl).trans s5) ⟨rfl, hM⟩⟩) ?_
    refine QE.op rfl rfl (.inl ⟨rfl, fun f' H' hf hM => AOp.indexAddrS rfl ((hf 17 rfl).trans rfl) ((hf 18 rfl).trans rfl) sl_27 (by omega) (by omega) ⟨rfl, hM⟩⟩) ?_
    refine QE.op rfl rfl (.inl ⟨rfl, fun f' H' hf hM => AOp.loadF (.int .i64 (at_ a i)) rfl ((hf 19 rfl).trans rfl) ty_3 (ld1 (by omega) (by omega)) ⟨rfl, hM⟩⟩) ?_
    refine QE.op rfl rfl (.inl ⟨rfl, fun f' H' hf hM => AOp.move (.sl b.length (b.map eI)) rfl ((hf 1 rfl).trans s7) ⟨rfl, hM⟩⟩) ?_
    refine QE.op rfl rfl (.inl ⟨rfl, fun f' H' hf hM => AOp.move (.int .i64 i) rfl ((hf 5 rfl).trans s5) ⟨rfl, hM⟩⟩) ?_
    refine QE.op rfl rfl (.inl ⟨rfl, fun f' H' hf hM => AOp.indexAddrS rfl ((hf 21 rfl).trans rfl) ((hf 22 rfl).trans rfl) sl_27 (by omega) (by omega) ⟨rfl, hM⟩⟩) ?_
    refine QE.op rfl rfl (.inl ⟨rfl, fun f' H' hf hM => AOp.loadF (.int .i64 (at_ b i)) rfl ((hf 23 rfl).trans rfl) ty_3 (ld1 (by omega) (by omega)) ⟨rfl, hM⟩⟩) ?_
    refine QE.op rfl rfl (.inl ⟨rfl, fun f' H' hf hM => AOp.bin (.bool (!decide (at_ a i = at_ b i))) rfl ((hf 20 rfl).trans rfl) ((hf 24 rfl).trans rfl) ine ⟨rfl, hM⟩⟩) ?_
    refine QE.done fun H10 m11 => ?_
    have m12 := m8.trans m11
    refine AOps.nil ?_
    change AWP _ _ _ _ _ _
    by_cases b13 : at_ a i = at_ b i
    ·
     refine AWP.condF rfl (nb (decide_eq_true b13)) ?_
     refine AWP.skip ?_
     change AWP _ _ _ _ _ _
     refine AWP.region (l := [0, 1, 2]) rfl ?_
     refine AOps.cons rfl rfl (AOp.move (.int .i64 i) rfl s5 ?_)
     refine AOps.cons rfl rfl (AOp.bin (.int .i64 (i + 1)) rfl rfl rfl (iadd (by omega)) ?_)
     refine AOps.cons rfl rfl (AOp.assign (.int .i64 (i + 1)) rfl rfl ?_)
     refine AOps.nil ?_
     exact ⟨_, by omega, i + 1, rfl, rfl, s6, s7, m12, by omega, by omega, by assumption, by exact pre_step pre (b13)⟩
    ·
     refine AWP.condT rfl (nb (decide_eq_false b13)) ?_
     refine AWP.seq ?_
     refine AWP.region (l := [0]) rfl ?_
     refine AOps.cons rfl rfl (AOp.assign (.bool false) rfl rfl ?_)
     refine AOps.nil ?_
     change AWP _ _ _ _ _ _
     refine AWP.ret ?_
     refine ⟨_, _, Ghost.refl, .inr rfl, _, Res.one rfl rfl, ?_, m12⟩
     exact (congrArg AV.bool (rfl.trans (decide_eq_false (show ¬ (a = b) from by rintro rfl; first | omega | (exact absurd rfl b13))).symm))
   ·
    refine AWP.condF rfl (decide_eq_false b9) ?_
    refine AWP.exit ?_
    change AWP _ _ _ _ _ _
    refine AWP.seq ?_
    refine AWP.region (l := [0]) rfl ?_
    refine AOps.cons rfl rfl (AOp.assign (.bool true) rfl rfl ?_)
    refine AOps.nil ?_
    change AWP _ _ _ _ _ _
    refine AWP.ret ?_
    refine ⟨_, _, Ghost.refl, .inr rfl, _, Res.one rfl rfl, ?_, m8⟩
    exact (congrArg AV.bool (rfl.trans (decide_eq_true (show a = b from by exact ext_at (by omega) (fun j h1 h2 => pre j h1 (by omega)))).symm))
 ·
  refine AWP.condT rfl (nb (decide_eq_false b1)) ?_
  refine AWP.seq ?_
  refine AWP.region (l := [0]) rfl ?_
  refine AOps.cons rfl rfl (AOp.assign (.bool false) rfl rfl ?_)
  refine AOps.nil ?_
  change AWP _ _ _ _ _ _
  refine AWP.ret ?_
  refine ⟨_, _, Ghost.refl, .inr rfl, _, Res.one rfl rfl, ?_, m0⟩
  exact (congrArg AV.bool (rfl.trans (decide_eq_false (show ¬ (a = b) from by rintro rfl; first | omega | (exact absurd rfl b1))).symm))
theorem c_alive : PC Try.prog 8 [] (.bool true) := by
 intro H0
 refine ACalls.of_body' (n := 50) rfl rfl rfl rfl ?_
 have m0 := Mono.refl H0
 refine AWP.seq ?_
 refine AWP.region (l := [0]) rfl ?_
 refine AOps.cons rfl rfl (AOp.assign (.bool false) rfl rfl ?_)
 refine AOps.nil ?_
 change AWP _ _ _ _ _ _
 refine AWP.seq ?_
 refine AWP.region (l := [0, 1, 2, 3, 4, 5, 6, 7, 8, 9]) rfl ?_
 refine AOps.cons rfl rfl (AOp.build (cells := [.int .i64 1, .int .i64 1, .int .i64 1]) rfl tz_24 pl_24 rfl rfl ?_)
 refine AOps.cons rfl rfl (AOp.build (cells := [.int .i64 0, .int .i64 0, .int .i64 0, .int .i64 1, .int .i64 1, .int .i64 1]) rfl tz_37 pl_37 rfl rfl ?_)
 refine AOps.cons rfl rfl (AOp.build (cells := [.int .i64 9, .int .i64 0, .int .i64 0]) rfl tz_24 pl_24 rfl rfl ?_)
 refine AOps.cons rfl rfl (AOp.build (cells := [.int .i64 10, .int .i64 1, .int .i64 1]) rfl tz_24 pl_24 rfl rfl ?_)
 refine AOps.cons rfl rfl (AOp.build (cells := [.int .i64 9, .int .i64 0, .int .i64 0, .int .i64 10, .int .i64 1, .int .i64 1]) rfl tz_37 pl_37 rfl rfl ?_)
 refine AOps.cons rfl rfl (AOp.build (cells := [.int .i64 5, .int .i64 0, .int .i64 0]) rfl tz_24 pl_24 rfl rfl ?_)
 refine AOps.cons rfl rfl (AOp.build (cells := [.int .i64 6, .int .i64 1, .int .i64 1]) rfl tz_24 pl_24 rfl rfl ?_)
 refine AOps.cons rfl rfl (AOp.build (cells := [.int .i64 5, .int .i64 0, .int .i64 0, .int .i64 6, .int .i64 1, .int .i64 1]) rfl tz_37 pl_37 rfl rfl ?_)
 refine AOps.cons rfl rfl (AOp.buildSlice (cells := [.int .i64 0, .int .i64 0, .int .i64 0, .int .i64 1, .int .i64 1, .int .i64 1, .int .i64 9, .int .i64 0, .int .i64 0, .int .i64 10, .int .i64 1, .int .i64 1, .int .i64 5, .int .i64 0, .int .i64 0, .int .i64 6, .int .i64 1, .int .i64 1]) rfl u_22 ts_37 tz_37 rfl rfl rfl ?_)
 intro i1 H2 n3 h4 k5
 have z6 := Mono.free m0 n3
 have m7 := Mono.new m0 n3 k5
 refine AOps.cons rfl rfl (AOp.assign (.slm i1 0 6 0 3) rfl rfl ?_)
 refine AOps.nil ?_
 change AWP _ _ _ _ _ _
 refine AWP.seq ?_
 refine AWP.region (l := [0, 1, 2, 3, 4, 5, 6, 7]) rfl ?_
 refine AOps.cons rfl rfl (AOp.move (.slm i1 0 6 0 3) rfl rfl ?_)
 obtain ⟨v8, e9⟩ : ∃ v : AV, v = .slm i1 0 6 0 3 := ⟨_, rfl⟩
 have o10 : Own H0 H2 6 v8 3 [.int .i64 0, .int .i64 0, .int .i64 0, .int .i64 1, .int .i64 1, .int .i64 1, .int .i64 9, .int .i64 0, .int .i64 0, .int .i64 10, .int .i64 1, .int .i64 1, .int .i64 5, .int .i64 0, .int .i64 0, .int .i64 6, .int .i64 1, .int .i64 1] := .inr ⟨_, _, e9, h4, z6, rfl⟩
 refine AOps.cons rfl rfl ?_
 refine AOp.frz 16 (o10) e9.symm m7 fun H11 m12 k13 => ?_
 refine AOp.pcall («as» := [.sl ([(BoxT.mk (VT.mk 0 0 0) (VT.mk 1 1 1)), (BoxT.mk (VT.mk 9 0 0) (VT.mk 10 1 1)), (BoxT.mk (VT.mk 5 0 0) (VT.mk 6 1 1))] : List BoxT).length (([(BoxT.mk (VT.mk 0 0 0) (VT.mk 1 1 1)), (BoxT.mk (VT.mk 9 0 0) (VT.mk 10 1 1)), (BoxT.mk (VT.mk 5 0 0) (VT.mk 6 1 1))] : List BoxT).flatMap eBox), .int .i64 2]) rfl rfl (rfl) tf_9 (c_Build ([(BoxT.mk (VT.mk 0 0 0) (VT.mk 1 1 1)), (BoxT.mk (VT.mk 9 0 0) (VT.mk 10 1 1)), (BoxT.mk (VT.mk 5 0 0) (VT.mk 6 1 1))] : List BoxT) (by first | omega | assumption | (simp; done)) _) ?_
 intro H14 m15
 have m16 := m12.trans m15
 refine AOps.cons rfl rfl (AOp.move (.tup [.agg [.sl ((buildR ([(BoxT.mk (VT.mk 0 0 0) (VT.mk 1 1 1)), (BoxT.mk (VT.mk 9 0 0) (VT.mk 10 1 1)), (BoxT.mk (VT.mk 5 0 0) (VT.mk 6 1 1))] : List BoxT) 2).1.Nodes).length (((buildR ([(BoxT.mk (VT.mk 0 0 0) (VT.mk 1 1 1)), (BoxT.mk (VT.mk 9 0 0) (VT.mk 10 1 1)), (BoxT.mk (VT.mk 5 0 0) (VT.mk 6 1 1))] : List BoxT) 2).1.Nodes).flatMap eNode), .sl ((buildR ([(BoxT.mk (VT.mk 0 0 0) (VT.mk 1 1 1)), (BoxT.mk (VT.mk 9 0 0) (VT.mk 10 1 1)), (BoxT.mk (VT.mk 5 0 0) (VT.mk 6 1 1))] : List BoxT) 2).1.Items).length (((buildR ([(BoxT.mk (VT.mk 0 0 0) (VT.mk 1 1 1)), (BoxT.mk (VT.mk 9 0 0) (VT.mk 10 1 1)), (BoxT.mk (VT.mk 5 0 0) (VT.mk 6 1 1))] : List BoxT) 2).1.Items).map eI)], .int .i64 ((buildR ([(BoxT.mk (VT.mk 0 0 0) (VT.mk 1 1 1)), (BoxT.mk (VT.mk 9 0 0) (VT.mk 10 1 1)), (BoxT.mk (VT.mk 5 0 0) (VT.mk 6 1 1))] : List BoxT) 2).2)]) rfl rfl ?_)
 refine AOps.cons rfl rfl (AOp.extract (.agg [.sl ((buildR ([(BoxT.mk (VT.mk 0 0 0) (VT.mk 1 1 1)), (BoxT.mk (VT.mk 9 0 0) (VT.mk 10 1 1)), (BoxT.mk (VT.mk 5 0 0) (VT.mk 6 1 1))] : List BoxT) 2).1.Nodes).length (((buildR ([(BoxT.mk (VT.mk 0 0 0) (VT.mk 1 1 1)), (BoxT.mk (VT.mk 9 0 0) (VT.mk 10 1 1)), (BoxT.mk (VT.mk 5 0 0) (VT.mk 6 1 1))] : List BoxT) 2).1.Nodes).flatMap eNode), .sl ((buildR ([(BoxT.mk (VT.mk 0 0 0) (VT.mk 1 1 1)), (BoxT.mk (VT.mk 9 0 0) (VT.mk 10 1 1)), (BoxT.mk (VT.mk 5 0 0) (VT.mk 6 1 1))] : List BoxT) 2).1.Items).length (((buildR ([(BoxT.mk (VT.mk 0 0 0) (VT.mk 1 1 1)), (BoxT.mk (VT.mk 9 0 0) (VT.mk 10 1 1)), (BoxT.mk (VT.mk 5 0 0) (VT.mk 6 1 1))] : List BoxT) 2).1.Items).map eI)]) rfl rfl rfl ?_)
 refine AOps.cons rfl rfl (AOp.extract (.int .i64 ((buildR ([(BoxT.mk (VT.mk 0 0 0) (VT.mk 1 1 1)), (BoxT.mk (VT.mk 9 0 0) (VT.mk 10 1 1)), (BoxT.mk (VT.mk 5 0 0) (VT.mk 6 1 1))] : List BoxT) 2).2)) rfl rfl rfl ?_)
 refine AOps.cons rfl rfl (AOp.alloc rfl tz_29 ?_)
 intro i17 H18 n19 h20 k21
 have z22 := Mono.free m16 n19
 have m23 := Mono.new m16 n19 k21
 refine AOps.cons rfl rfl (AOp.store' (cells' := [.sl ((buildR ([(BoxT.mk (VT.mk 0 0 0) (VT.mk 1 1 1)), (BoxT.mk (VT.mk 9 0 0) (VT.mk 10 1 1)), (BoxT.mk (VT.mk 5 0 0) (VT.mk 6 1 1))] : List BoxT) 2).1.Nodes).length (((buildR ([(BoxT.mk (VT.mk 0 0 0) (VT.mk 1 1 1)), (BoxT.mk (VT.mk 9 0 0) (VT.mk 10 1 1)), (BoxT.mk (VT.mk 5 0 0) (VT.mk 6 1 1))] : List BoxT) 2).1.Nodes).flatMap eNode), .sl ((buildR ([(BoxT.mk (VT.mk 0 0 0) (VT.mk 1 1 1)), (BoxT.mk (VT.mk 9 0 0) (VT.mk 10 1 1)), (BoxT.mk (VT.mk 5 0 0) (VT.mk 6 1 1))] : List BoxT) 2).1.Items).length (((buildR ([(BoxT.mk (VT.mk 0 0 0) (VT.mk 1 1 1)), (BoxT.mk (VT.mk 9 0 0) (VT.mk 10 1 1)), (BoxT.mk (VT.mk 5 0 0) (VT.mk 6 1 1))] : List BoxT) 2).1.Items).map eI)]) (.agg [.sl ((buildR ([(BoxT.mk (VT.mk 0 0 0) (VT.mk 1 1 1)), (BoxT.mk (VT.mk 9 0 0) (VT.mk 10 1 1)), (BoxT.mk (VT.mk 5 0 0) (VT.mk 6 1 1))] : List BoxT) 2).1.Nodes).length (((buildR ([(BoxT.mk (VT.mk 0 0 0) (VT.mk 1 1 1)), (BoxT.mk (VT.mk 9 0 0) (VT.mk 10 1 1)), (BoxT.mk (VT.mk 5 0 0) (VT.mk 6 1 1))] : List BoxT) 2).1.Nodes).flatMap eNode), .sl ((buildR ([(BoxT.mk (VT.mk 0 0 0) (VT.mk 1 1 1)), (BoxT.mk (VT.mk 9 0 0) (VT.mk 10 1 1)), (BoxT.mk (VT.mk 5 0 0) (VT.mk 6 1 1))] : List BoxT) 2).1.Items).length (((buildR ([(BoxT.mk (VT.mk 0 0 0) (VT.mk 1 1 1)), (BoxT.mk (VT.mk 9 0 0) (VT.mk 10 1 1)), (BoxT.mk (VT.mk 5 0 0) (VT.mk 6 1 1))] : List BoxT) 2).1.Items).map eI)]) rfl rfl ts_29 h20 rfl rfl rfl rfl ?_)
 intro H24 h25 k26
 have m28 := Mono.set m23 z22 k26
 refine AOps.cons rfl rfl (AOp.assign (.int .i64 ((buildR ([(BoxT.mk (VT.mk 0 0 0) (VT.mk 1 1 1)), (BoxT.mk (VT.mk 9 0 0) (VT.mk 10 1 1)), (BoxT.mk (VT.mk 5 0 0) (VT.mk 6 1 1))] : List BoxT) 2).2)) rfl rfl ?_)
 refine AOps.nil ?_
 change AWP _ _ _ _ _ _
 refine AWP.seq ?_
 refine AWP.frzP 2 h25 z22 rfl m28 fun H29 m30 k31 => ?_
 refine AWP.region (l := [0, 1, 2, 3, 4, 5, 6, 7, 8]) rfl ?_
 refine AOps.cons rfl rfl (AOp.loadF (.agg [.sl ((buildR ([(BoxT.mk (VT.mk 0 0 0) (VT.mk 1 1 1)), (BoxT.mk (VT.mk 9 0 0) (VT.mk 10 1 1)), (BoxT.mk (VT.mk 5 0 0) (VT.mk 6 1 1))] : List BoxT) 2).1.Nodes).length (((buildR ([(BoxT.mk (VT.mk 0 0 0) (VT.mk 1 1 1)), (BoxT.mk (VT.mk 9 0 0) (VT.mk 10 1 1)), (BoxT.mk (VT.mk 5 0 0) (VT.mk 6 1 1))] : List BoxT) 2).1.Nodes).flatMap eNode), .sl ((buildR ([(BoxT.mk (VT.mk 0 0 0) (VT.mk 1 1 1)), (BoxT.mk (VT.mk 9 0 0) (VT.mk 10 1 1)), (BoxT.mk (VT.mk 5 0 0) (VT.mk 6 1 1))] : List BoxT) 2).1.Items).length (((buildR ([(BoxT.mk (VT.mk 0 0 0) (VT.mk 1 1 1)), (BoxT.mk (VT.mk 9 0 0) (VT.mk 10 1 1)), (BoxT.mk (VT.mk 5 0 0) (VT.mk 6 1 1))] : List BoxT) 2).1.Items).map eI)]) rfl rfl ty_29 rfl ?_)
 refine AOps.cons rfl rfl (AOp.build (cells := [.int .i64 9, .int .i64 0, .int .i64 (-3)]) rfl tz_24 pl_24 rfl rfl ?_)
 refine AOps.cons rfl rfl (AOp.build (cells := [.int .i64 0, .int .i64 0, .int .i64 1]) rfl tz_24 pl_24 rfl rfl ?_)
 refine AOps.cons rfl rfl (AOp.pcall («as» := [.agg [.sl ((buildR ([(BoxT.mk (VT.mk 0 0 0) (VT.mk 1 1 1)), (BoxT.mk (VT.mk 9 0 0) (VT.mk 10 1 1)), (BoxT.mk (VT.mk 5 0 0) (VT.mk 6 1 1))] : List BoxT) 2).1.Nodes).length (((buildR ([(BoxT.mk (VT.mk 0 0 0) (VT.mk 1 1 1)), (BoxT.mk (VT.mk 9 0 0) (VT.mk 10 1 1)), (BoxT.mk (VT.mk 5 0 0) (VT.mk 6 1 1))] : List BoxT) 2).1.Nodes).flatMap eNode), .sl ((buildR ([(BoxT.mk (VT.mk 0 0 0) (VT.mk 1 1 1)), (BoxT.mk (VT.mk 9 0 0) (VT.mk 10 1 1)), (BoxT.mk (VT.mk 5 0 0) (VT.mk 6 1 1))] : List BoxT) 2).1.Items).length (((buildR ([(BoxT.mk (VT.mk 0 0 0) (VT.mk 1 1 1)), (BoxT.mk (VT.mk 9 0 0) (VT.mk 10 1 1)), (BoxT.mk (VT.mk 5 0 0) (VT.mk 6 1 1))] : List BoxT) 2).1.Items).map eI)], .agg [.int .i64 9, .int .i64 0, .int .i64 (-3)], .agg [.int .i64 0, .int .i64 0, .int .i64 1]]) rfl rfl (rfl) tf_12 (c_Touched ([(BoxT.mk (VT.mk 0 0 0) (VT.mk 1 1 1)), (BoxT.mk (VT.mk 9 0 0) (VT.mk 10 1 1)), (BoxT.mk (VT.mk 5 0 0) (VT.mk 6 1 1))] : List BoxT) 2 (by first | omega | assumption | simp) al_e _ _ rfl rfl (VT.mk 9 0 (-3)) (VT.mk 0 0 1) (by refine ⟨?_, ?_, ?_⟩ <;> (unfold inR; constructor <;> decide))) ?_)
 intro H32 m33
 have m34 := m30.trans m33
 refine AOps.cons rfl rfl (AOp.move (.tup [.sl ((touR ([(BoxT.mk (VT.mk 0 0 0) (VT.mk 1 1 1)), (BoxT.mk (VT.mk 9 0 0) (VT.mk 10 1 1)), (BoxT.mk (VT.mk 5 0 0) (VT.mk 6 1 1))] : List BoxT) 2 (VT.mk 9 0 (-3)) (VT.mk 0 0 1)).1).length (((touR ([(BoxT.mk (VT.mk 0 0 0) (VT.mk 1 1 1)), (BoxT.mk (VT.mk 9 0 0) (VT.mk 10 1 1)), (BoxT.mk (VT.mk 5 0 0) (VT.mk 6 1 1))] : List BoxT) 2 (VT.mk 9 0 (-3)) (VT.mk 0 0 1)).1).map eI), .int .i64 ((touR ([(BoxT.mk (VT.mk 0 0 0) (VT.mk 1 1 1)), (BoxT.mk (VT.mk 9 0 0) (VT.mk 10 1 1)), (BoxT.mk (VT.mk 5 0 0) (VT.mk 6 1 1))] : List BoxT) 2 (VT.mk 9 0 (-3)) (VT.mk 0 0 1)).2)]) rfl rfl ?_)
 refine AOps.cons rfl rfl (AOp.extract (.sl ((touR ([(BoxT.mk (VT.mk 0 0 0) (VT.mk 1 1 1)), (BoxT.mk (VT.mk 9 0 0) (VT.mk 10 1 1)), (BoxT.mk (VT.mk 5 0 0) (VT.mk 6 1 1))] : List BoxT) 2 (VT.mk 9 0 (-3)) (VT.mk 0 0 1)).1).length (((touR ([(BoxT.mk (VT.mk 0 0 0) (VT.mk 1 1 1)), (BoxT.mk (VT.mk 9 0 0) (VT.mk 10 1 1)), (BoxT.mk (VT.mk 5 0 0) (VT.mk 6 1 1))] : List BoxT) 2 (VT.mk 9 0 (-3)) (VT.mk 0 0 1)).1).map eI)) rfl rfl rfl ?_)
 refine AOps.cons rfl rfl (AOp.extract (.int .i64 ((touR ([(BoxT.mk (VT.mk 0 0 0) (VT.mk 1 1 1)), (BoxT.mk (VT.mk 9 0 0) (VT.mk 10 1 1)), (BoxT.mk (VT.mk 5 0 0) (VT.mk 6 1 1))] : List BoxT) 2 (VT.mk 9 0 (-3)) (VT.mk 0 0 1)).2)) rfl rfl rfl ?_)
 refine AOps.cons rfl rfl (AOp.assign (.sl ((touR ([(BoxT.mk (VT.mk 0 0 0) (VT.mk 1 1 1)), (BoxT.mk (VT.mk 9 0 0) (VT.mk 10 1 1)), (BoxT.mk (VT.mk 5 0 0) (VT.mk 6 1 1))] : List BoxT) 2 (VT.mk 9 0 (-3)) (VT.mk 0 0 1)).1).length (((touR ([(BoxT.mk (VT.mk 0 0 0) (VT.mk 1 1 1)), (BoxT.mk (VT.mk 9 0 0) (VT.mk 10 1 1)), (BoxT.mk (VT.mk 5 0 0) (VT.mk 6 1 1))] : List BoxT) 2 (VT.mk 9 0 (-3)) (VT.mk 0 0 1)).1).map eI)) rfl rfl ?_)
 refine AOps.cons rfl rfl (AOp.assign (.int .i64 ((touR ([(BoxT.mk (VT.mk 0 0 0) (VT.mk 1 1 1)), (BoxT.mk (VT.mk 9 0 0) (VT.mk 10 1 1)), (BoxT.mk (VT.mk 5 0 0) (VT.mk 6 1 1))] : List BoxT) 2 (VT.mk 9 0 (-3)) (VT.mk 0 0 1)).2)) rfl rfl ?_)
 refine AOps.nil ?_
 change AWP _ _ _ _ _ _
 refine AWP.seq ?_
 refine AWP.region (l := [0, 1, 2, 3, 4, 5, 6, 7, 8, 9, 10, 11, 12, 13, 14, 15, 16, 17, 18, 19, 20, 21, 22, 23]) rfl ?_
 refine AOps.cons rfl rfl (AOp.move (.int .i64 ((buildR ([(BoxT.mk (VT.mk 0 0 0) (VT.mk 1 1 1)), (BoxT.mk (VT.mk 9 0 0) (VT.mk 10 1 1)), (BoxT.mk (VT.mk 5 0 0) (VT.mk 6 1 1))] : List BoxT) 2).2)) rfl rfl ?_)
 refine AOps.cons rfl rfl (AOp.bin (.bool (decide ((buildR ([(BoxT.mk (VT.mk 0 0 0) (VT.mk 1 1 1)), (BoxT.mk (VT.mk 9 0 0) (VT.mk 10 1 1)), (BoxT.mk (VT.mk 5 0 0) (VT.mk 6 1 1))] : List BoxT) 2).2 = 0))) rfl rfl rfl ieq ?_)
 refine AOps.cons rfl rfl (AOp.move (.bool (decide ((buildR ([(BoxT.mk (VT.mk 0 0 0) (VT.mk 1 1 1)), (BoxT.mk (VT.mk 9 0 0) (VT.mk 10 1 1)), (BoxT.mk (VT.mk 5 0 0) (VT.mk 6 1 1))] : List BoxT) 2).2 = 0))) rfl rfl ?_)
 refine AOps.yes rfl rfl rfl rfl rfl rfl rfl (decide_eq_true (al_e)) (AOp.move (.int .i64 ((touR ([(BoxT.mk (VT.mk 0 0 0) (VT.mk 1 1 1)), (BoxT.mk (VT.mk 9 0 0) (VT.mk 10 1 1)), (BoxT.mk (VT.mk 5 0 0) (VT.mk 6 1 1))] : List BoxT) 2 (VT.mk 9 0 (-3)) (VT.mk 0 0 1)).2)) rfl rfl ?_)
 refine AOps.yes rfl rfl rfl rfl rfl rfl rfl (decide_eq_true (al_e)) (AOp.bin (.bool (decide ((touR ([(BoxT.mk (VT.mk 0 0 0) (VT.mk 1 1 1)), (BoxT.mk (VT.mk 9 0 0) (VT.mk 10 1 1)), (BoxT.mk (VT.mk 5 0 0) (VT.mk 6 1 1))] : List BoxT) 2 (VT.mk 9 0 (-3)) (VT.mk 0 0 1)).2 = 0))) rfl rfl rfl ieq ?_)
 refine AOps.cons rfl rfl (AOp.pickT (.bool (decide ((touR ([(BoxT.mk (VT.mk 0 0 0) (VT.mk 1 1 1)), (BoxT.mk (VT.mk 9 0 0) (VT.mk 10 1 1)), (BoxT.mk (VT.mk 5 0 0) (VT.mk 6 1 1))] : List BoxT) 2 (VT.mk 9 0 (-3)) (VT.mk 0 0 1)).2 = 0))) rfl rfl (decide_eq_true (al_e)) rfl ?_)
 refine AOps.cons rfl rfl (AOp.move (.bool (decide ((touR ([(BoxT.mk (VT.mk 0 0 0) (VT.mk 1 1 1)), (BoxT.mk (VT.mk 9 0 0) (VT.mk 10 1 1)), (BoxT.mk (VT.mk 5 0 0) (VT.mk 6 1 1))] : List BoxT) 2 (VT.mk 9 0 (-3)) (VT.mk 0 0 1)).2 = 0))) rfl rfl ?_)
 refine AOps.yes rfl rfl rfl rfl rfl rfl rfl (decide_eq_true ((by rw [al_t]))) (AOp.fieldAddrF rfl rfl fl_29_0 ?_)
 refine AOps.yes rfl rfl rfl rfl rfl rfl rfl (decide_eq_true ((by rw [al_t]))) (AOp.loadF (.sl ((buildR ([(BoxT.mk (VT.mk 0 0 0) (VT.mk 1 1 1)), (BoxT.mk (VT.mk 9 0 0) (VT.mk 10 1 1)), (BoxT.mk (VT.mk 5 0 0) (VT.mk 6 1 1))] : List BoxT) 2).1.Nodes).length (((buildR ([(BoxT.mk (VT.mk 0 0 0) (VT.mk 1 1 1)), (BoxT.mk (VT.mk 9 0 0) (VT.mk 10 1 1)), (BoxT.mk (VT.mk 5 0 0) (VT.mk 6 1 1))] : List BoxT) 2).1.Nodes).flatMap eNode)) rfl rfl ty_26 rfl ?_)
 refine AOps.yes rfl rfl rfl rfl rfl rfl rfl (decide_eq_true ((by rw [al_t]))) (AOp.len (m := ((buildR ([(BoxT.mk (VT.mk 0 0 0) (VT.mk 1 1 1)), (BoxT.mk (VT.mk 9 0 0) (VT.mk 10 1 1)), (BoxT.mk (VT.mk 5 0 0) (VT.mk 6 1 1))] : List BoxT) 2).1.Nodes).length) rfl rfl (.inr (.inl ⟨_, rfl⟩)) u_26 ?_)
 refine AOps.yes rfl rfl rfl rfl rfl rfl rfl (decide_eq_true ((by rw [al_t]))) (AOp.bin (.bool (decide (((((buildR ([(BoxT.mk (VT.mk 0 0 0) (VT.mk 1 1 1)), (BoxT.mk (VT.mk 9 0 0) (VT.mk 10 1 1)), (BoxT.mk (VT.mk 5 0 0) (VT.mk 6 1 1))] : List BoxT) 2).1.Nodes).length) : Int) = 3))) rfl rfl rfl ieq ?_)
 refine AOps.cons rfl rfl (AOp.pickT (.bool (decide (((((buildR ([(BoxT.mk (VT.mk 0 0 0) (VT.mk 1 1 1)), (BoxT.mk (VT.mk 9 0 0) (VT.mk 10 1 1)), (BoxT.mk (VT.mk 5 0 0) (VT.mk 6 1 1))] : List BoxT) 2).1.Nodes).length) : Int) = 3))) rfl rfl (decide_eq_true ((by rw [al_t]))) rfl ?_)
 refine AOps.cons rfl rfl (AOp.move (.bool (decide (((((buildR ([(BoxT.mk (VT.mk 0 0 0) (VT.mk 1 1 1)), (BoxT.mk (VT.mk 9 0 0) (VT.mk 10 1 1)), (BoxT.mk (VT.mk 5 0 0) (VT.mk 6 1 1))] : List BoxT) 2).1.Nodes).length) : Int) = 3))) rfl rfl ?_)
 refine AOps.yes rfl rfl rfl rfl rfl rfl rfl (decide_eq_true ((by rw [al_n]; rfl))) (AOp.fieldAddrF rfl rfl fl_29_1 ?_)
 refine AOps.yes rfl rfl rfl rfl rfl rfl rfl (decide_eq_true ((by rw [al_n]; rfl))) (AOp.loadF (.sl ((buildR ([(BoxT.mk (VT.mk 0 0 0) (VT.mk 1 1 1)), (BoxT.mk (VT.mk 9 0 0) (VT.mk 10 1 1)), (BoxT.mk (VT.mk 5 0 0) (VT.mk 6 1 1))] : List BoxT) 2).1.Items).length (((buildR ([(BoxT.mk (VT.mk 0 0 0) (VT.mk 1 1 1)), (BoxT.mk (VT.mk 9 0 0) (VT.mk 10 1 1)), (BoxT.mk (VT.mk 5 0 0) (VT.mk 6 1 1))] : List BoxT) 2).1.Items).map eI)) rfl rfl ty_27 rfl ?_)
 refine AOps.yes rfl rfl rfl rfl rfl rfl rfl (decide_eq_true ((by rw [al_n]; rfl))) (AOp.buildSlice (cells := [.int .i64 0, .int .i64 2, .int .i64 1]) rfl u_27 ts_3 tz_3 rfl rfl rfl ?_)
 intro i35 H36 n37 h38 k39
 have z40 := Mono.free m34 n37
 have m41 := Mono.new m34 n37 k39
 obtain ⟨v42, e43⟩ : ∃ v : AV, v = .slm i35 0 1 0 3 := ⟨_, rfl⟩
 have o44 : Own H0 H36 1 v42 3 [.int .i64 0, .int .i64 2, .int .i64 1] := .inr ⟨_, _, e43, h38, z40, rfl⟩
 refine AOps.yes rfl rfl rfl rfl rfl rfl rfl (decide_eq_true ((by rw [al_n]; rfl))) ?_
 refine AOp.frz 42 (o44) e43.symm m41 fun H45 m46 k47 => ?_
 refine AOp.pcall («as» := [.sl ((buildR ([(BoxT.mk (VT.mk 0 0 0) (VT.mk 1 1 1)), (BoxT.mk (VT.mk 9 0 0) (VT.mk 10 1 1)), (BoxT.mk (VT.mk 5 0 0) (VT.mk 6 1 1))] : List BoxT) 2).1.Items).length (((buildR ([(BoxT.mk (VT.mk 0 0 0) (VT.mk 1 1 1)), (BoxT.mk (VT.mk 9 0 0) (VT.mk 10 1 1)), (BoxT.mk (VT.mk 5 0 0) (VT.mk 6 1 1))] : List BoxT) 2).1.Items).map eI), .sl ([0, 2, 1] : List Int).length (([0, 2, 1] : List Int).map eI)]) rfl rfl (rfl) tf_14 (c_SameInts _ _ (by first | (rw [al_i]; decide) | (rw [al_t]; decide)) (by decide)) ?_
 intro H48 m49
 have m50 := m46.trans m49
 refine AOps.cons rfl rfl (AOp.pickT (.bool (decide ((buildR ([(BoxT.mk (VT.mk 0 0 0) (VT.mk 1 1 1)), (BoxT.mk (VT.mk 9 0 0) (VT.mk 10 1 1)), (BoxT.mk (VT.mk 5 0 0) (VT.mk 6 1 1))] : List BoxT) 2).1.Items = ([0, 2, 1] : List Int)))) rfl rfl (decide_eq_true ((by rw [al_n]; rfl))) rfl ?_)
 refine AOps.cons rfl rfl (AOp.move (.bool (decide ((buildR ([(BoxT.mk (VT.mk 0 0 0) (VT.mk 1 1 1)), (BoxT.mk (VT.mk 9 0 0) (VT.mk 10 1 1)), (BoxT.mk (VT.mk 5 0 0) (VT.mk 6 1 1))] : List BoxT) 2).1.Items = ([0, 2, 1] : List Int)))) rfl rfl ?_)
 refine AOps.yes rfl rfl rfl rfl rfl rfl rfl (decide_eq_true (al_i)) (AOp.move (.sl ((touR ([(BoxT.mk (VT.mk 0 0 0) (VT.mk 1 1 1)), (BoxT.mk (VT.mk 9 0 0) (VT.mk 10 1 1)), (BoxT.mk (VT.mk 5 0 0) (VT.mk 6 1 1))] : List BoxT) 2 (VT.mk 9 0 (-3)) (VT.mk 0 0 1)).1).length (((touR ([(BoxT.mk (VT.mk 0 0 0) (VT.mk 1 1 1)), (BoxT.mk (VT.mk 9 0 0) (VT.mk 10 1 1)), (BoxT.mk (VT.mk 5 0 0) (VT.mk 6 1 1))] : List BoxT) 2 (VT.mk 9 0 (-3)) (VT.mk 0 0 1)).1).map eI)) rfl rfl ?_)
 refine AOps.yes rfl rfl rfl rfl rfl rfl rfl (decide_eq_true (al_i)) (AOp.buildSlice (cells := [.int .i64 1]) rfl u_27 ts_3 tz_3 rfl rfl rfl ?_)
 intro i51 H52 n53 h54 k55
 have z56 := Mono.free m50 n53
 have m57 := Mono.new m50 n53 k55
 obtain ⟨v58, e59⟩ : ∃ v : AV, v = .slm i51 0 1 0 1 := ⟨_, rfl⟩
 have o60 : Own H0 H52 1 v58 1 [.int .i64 1] := .inr ⟨_, _, e59, h54, z56, rfl⟩
 refine AOps.yes rfl rfl rfl rfl rfl rfl rfl (decide_eq_true (al_i)) ?_
 refine AOp.frz 47 (o60) e59.symm m57 fun H61 m62 k63 => ?_
 refine AOp.pcall («as» := [.sl ((touR ([(BoxT.mk (VT.mk 0 0 0) (VT.mk 1 1 1)), (BoxT.mk (VT.mk 9 0 0) (VT.mk 10 1 1)), (BoxT.mk (VT.mk 5 0 0) (VT.mk 6 1 1))] : List BoxT) 2 (VT.mk 9 0 (-3)) (VT.mk 0 0 1)).1).length (((touR ([(BoxT.mk (VT.mk 0 0 0) (VT.mk 1 1 1)), (BoxT.mk (VT.mk 9 0 0) (VT.mk 10 1 1)), (BoxT.mk (VT.mk 5 0 0) (VT.mk 6 1 1))] : List BoxT) 2 (VT.mk 9 0 (-3)) (VT.mk 0 0 1)).1).map eI), .sl ([1] : List Int).length (([1] : List Int).map eI)]) rfl rfl (rfl) tf_14 (c_SameInts _ _ (by first | (rw [al_i]; decide) | (rw [al_t]; decide)) (by decide)) ?_
 intro H64 m65
 have m66 := m62.trans m65
 refine AOps.cons rfl rfl (AOp.pickT (.bool (decide ((touR ([(BoxT.mk (VT.mk 0 0 0) (VT.mk 1 1 1)), (BoxT.mk (VT.mk 9 0 0) (VT.mk 10 1 1)), (BoxT.mk (VT.mk 5 0 0) (VT.mk 6 1 1))] : List BoxT) 2 (VT.mk 9 0 (-3)) (VT.mk 0 0 1)).1 = ([1] : List Int)))) rfl rfl (decide_eq_true (al_i)) rfl ?_)
 refine AOps.cons rfl rfl (AOp.assign (.bool (decide ((touR ([(BoxT.mk (VT.mk 0 0 0) (VT.mk 1 1 1)), (BoxT.mk (VT.mk 9 0 0) (VT.mk 10 1 1)), (BoxT.mk (VT.mk 5 0 0) (VT.mk 6 1 1))] : List BoxT) 2 (VT.mk 9 0 (-3)) (VT.mk 0 0 1)).1 = ([1] : List Int)))) rfl rfl ?_)
 refine AOps.nil ?_
 change AWP _ _ _ _ _ _
 refine AWP.ret ?_
 refine ⟨_, _, Ghost.refl, .inr rfl, _, Res.one rfl rfl, ?_, m66⟩
 exact (congrArg AV.bool (show (decide ((touR ([(BoxT.mk (VT.mk 0 0 0) (VT.mk 1 1 1)), (BoxT.mk (VT.mk 9 0 0) (VT.mk 10 1 1)), (BoxT.mk (VT.mk 5 0 0) (VT.mk 6 1 1))] : List BoxT) 2 (VT.mk 9 0 (-3)) (VT.mk 0 0 1)).1 = ([1] : List Int)) : Bool) = true from by rfl))
end Go.Proofs.B
namespace Go.Proofs.B
open Go Go.AH
set_option maxRecDepth 4000
set_option linter.unusedSimpArgs false
set_option linter.unusedVariables false
end Go.Proofs.B
namespace Go.Proofs.B
open Go Go.AH
set_option maxRecDepth 4000
structure TouF (bx : List BoxT) (o d : VT) (L : List Int) : Prop where
  len : L.length ≤ bx.length
  inr : ∀ k ∈ L, 0 ≤ k ∧ k < (bx.length : Int)
  nd : L.Nodup
  has : ∀ i : Int, 0 ≤ i → i < bx.length → (rangeF o d (at_ bx i)).2.2.1 = true → i ∈ L
/-! ### One -/
/-! ### Leaves -/
theorem tou_len {bx : List BoxT} {leaf : Int} {o d : VT} : (touR bx leaf o d).1.length ≤ bx.length ∧ (touR bx leaf o d).1.Nodup := by
  unfold touR
  split
  · exact ⟨Nat.zero_le _, List.nodup_nil⟩
  · split
    · exact ⟨Nat.zero_le _, List.nodup_nil⟩
    · have hs := touchT_sub (hitB o d) (rootT bx leaf)
      have := hs.length_le; rw [root_len] at this
      exact ⟨this, hs.nodup ((root_items bx leaf).nodup_iff.2 (iota_nodup _))⟩
end Go.Proofs.B
namespace Go.Proofs.B
open Go Go.AH
set_option maxRecDepth 4000
set_option linter.unusedSimpArgs false
set_option linter.unusedVariables false
end Go.Proofs.B
namespace Go.Proofs.B
open Go Go.AH
set_option maxRecDepth 4000
end Go.Proofs.B
namespace Go.Proofs.B
open Go Go.AH
set_option maxRecDepth 4000
set_option linter.unusedSimpArgs false
set_option linter.unusedVariables false
end Go.Proofs.B
namespace Go.AH
variable [Globs]
set_option linter.unusedSectionVars false
open Go Go.Deep
def nH : Heap := fun _ => none
abbrev idM : Nat → Nat := fun i => i
theorem nH_owned {μ : Nat → Nat} {b : Nat} : ¬ Owned μ nH b := by
  rintro ⟨_, _, h, _⟩; cases h
theorem nH_HR {w : World} {μ : Nat → Nat} (hg : GOK w μ nH) : HR w μ nH where
  glob := hg
  rows := fun _ _ _ h => by cases h
  maps := fun _ _ h => by cases h
  born := fun _ _ _ _ h => by cases h
  iters := fun _ _ h => by cases h
  inj := fun _ _ _ _ h => by cases h
  fin := ⟨0, fun _ _ => rfl⟩
theorem Ext.since0 {W W' : World} {μ μ' : Nat → Nat} {H' : Heap} (h : Ext W μ nH W' μ' H') : World.Since W.heap.size W W' :=
  ⟨h.rest.2.1, h.rest.1, h.rest.2.2.1, h.size, fun k hk => (h.frz k ⟨hk, nH_owned⟩).1⟩
theorem cell_spot0 {W : World} {a : Addr} {v : Value} (h : W.cell? a = some v) : a = ⟨a.block, a.off, none⟩ ∧ a.block < W.heap.size := by
  unfold World.cell? at h
  split at h
  · rename_i c e fr hb
    have hlt : a.block < W.heap.size := (Array.getElem?_eq_some_iff.1 hb).1
    split at h
    · cases h
    · rename_i hs
      refine ⟨?_, hlt⟩
      cases a with
      | mk b o s => cases s with
        | none => rfl
        | some s => simp at hs
  · cases h
section
variable {w : World} {μ : Nat → Nat} {H : Heap}
theorem VRs.nil : VRs w μ H [] [] := ⟨rfl, fun j x y h => by simp at h⟩
theorem VRs.one {x : AV} {v : Value} (h : VR w μ H x v) : VRs w μ H [x] [v] := ⟨rfl, fun j a b h1 h2 => by
  match j with
  | 0 => simp at h1 h2; subst h1 h2; exact h
  | j + 1 => simp at h1⟩
theorem VRs.app {xs ys : List AV} {«as» bs : List Value} (h : VRs w μ H xs «as») (g : VRs w μ H ys bs) : VRs w μ H (xs ++ ys) («as» ++ bs) := by
  refine ⟨by simp [h.1, g.1], fun j x y hx hy => ?_⟩
  rcases Nat.lt_or_ge j xs.length with hj | hj
  · rw [List.getElem?_append_left hj] at hx
    rw [List.getElem?_append_left (by rw [← h.1]; exact hj)] at hy
    exact h.2 j x y hx hy
  · rw [List.getElem?_append_right hj] at hx
    rw [List.getElem?_append_right (by rw [← h.1]; exact hj), ← h.1] at hy
    exact g.2 _ x y hx hy
/-- Two pieces, one behind the other. -/
theorem VRs.glue {xs ys : List AV} {cs : List Value} {o o' a b n : Nat} (h : VRs w μ H xs ((cs.drop o).take a)) (g : VRs w μ H ys ((cs.drop o').take b)) (ho : o' = o + a) (hn : n = a + b) : VRs w μ H (xs ++ ys) ((cs.drop o).take n) := by
  subst ho hn
  have e : (cs.drop o).take (a + b) = (cs.drop o).take a ++ (cs.drop (o + a)).take b := by
    rw [List.take_add, List.drop_drop]
  rw [e]; exact h.app g
theorem VRs.whole {xs : List AV} {cs : List Value} {n : Nat} (h : VRs w μ H xs ((cs.drop 0).take n)) (hn : cs.length = n) : VRs w μ H xs cs := by
  subst hn; simpa using h
theorem VRs.part {xs : List AV} {cs : List Value} {n : Nat} (h : VRs w μ H xs cs) (hn : cs.length = n) : VRs w μ H xs ((cs.drop 0).take n) := by
  subst hn; simpa using h
theorem VRs.agg {xs : List AV} {cs : Array Value} (h : VRs w μ H xs cs.toList) : VR w μ H (.agg xs) (.agg cs) := .agg (by simpa using h.1) fun j x y hx hy => h.2 j x y hx (by simpa using hy)
theorem VRs.get1 {x : AV} {v : Value} (h : VRs w μ H [x] [v]) : VR w μ H x v := h.2 0 x v rfl rfl
end
section
variable {D : Type} {enc : TypeId × Value → D} {P : Program} {W : World}
/-- What is read at a type stands for an abstract value of one kind. -/
def Opn (enc : TypeId × Value → D) (P : Program) (W : World) (t : TypeId) {α : Type} (e : α → List AV) (Q : α → DataW D → Prop) : Prop :=
  ∀ (sp : Nat → Bool) (held : Bool) (fuel : Nat) (cs : List Value) (x : DataW D × List MemPlace), DataW.trod enc P W 0 sp held fuel t cs = some x → ∃ v, VRs W idM nH (e v) cs ∧ Q v x.1
theorem Opn.int {t : TypeId} {k : IntKind} (ht : P.underlying t = some (.int k)) : Opn enc P W t (fun n : Int => [.int k n]) (fun n _ => (Lit.int k n).wf = true) := fun sp held fuel cs x h => by
  obtain ⟨n, rfl, rfl, hw⟩ := DataW.trod_int ht h
  exact ⟨n, .one (.int _ _), hw⟩
theorem Opn.str {t : TypeId} (ht : P.underlying t = some .string) : Opn enc P W t (fun s : ByteArray => [.str s]) (fun s d => d = .lit (.string s.data.toList)) := fun sp held fuel cs x h => by
  obtain ⟨s, rfl, rfl, hw⟩ := DataW.trod_string ht h
  exact ⟨s, .one (.str _), rfl⟩
theorem Opn.bool {t : TypeId} (ht : P.underlying t = some .bool) : Opn enc P W t (fun s : Bool => [.bool s]) (fun _ _ => True) := fun sp held fuel cs x h => by
  obtain ⟨s, rfl, rfl⟩ := DataW.trod_bool ht h
  exact ⟨s, .one (.bool _), trivial⟩
theorem Opn.imp {t : TypeId} {α : Type} {e : α → List AV} {Q Q' : α → DataW D → Prop} (h : Opn enc P W t e Q) (hq : ∀ v d, Q v d → Q' v d) : Opn enc P W t e Q' := fun sp held fuel cs x hx => by
  obtain ⟨v, h1, h2⟩ := h sp held fuel cs x hx
  exact ⟨v, h1, hq _ _ h2⟩
/-- A slice, by value. -/
theorem Opn.slice {t el : TypeId} {m : Nat} {α : Type} {e : α → List AV} {Q : α → DataW D → Prop} (ht : P.underlying t = some (.slice el)) (hm : P.cellsOf el = m) (hm0 : 0 < m) (he : Opn enc P W el e Q) :
    Opn enc P W t (fun l : List α => [.sl l.length (l.flatMap e)]) (fun l d => (l = [] ∧ d = .nil) ∨ ∃ ds sp, d = .slice ds sp ∧ l.length = ds.length ∧ ∀ x ∈ l, ∃ y ∈ ds, Q x y) := fun sp held fuel cs x h => by
  rcases Go.Deep.open_slice ht h with ⟨rfl, rfl⟩ | ⟨a, len, cap, mm, n, Dd, Pl, rfl, hb, hl, hcm, hmm, rfl, hx⟩
  · exact ⟨[], .one (.sl0 _ _), .inl ⟨rfl, rfl⟩⟩
  · rw [hm] at hx
    have hle : len ≤ mm := by rw [hmm]; split <;> omega
    have key : ∀ k, k ≤ len → ∃ l : List α, l.length = k ∧ (l.flatMap e).length = k * m ∧ (∃ ys : Nat → Value, ∀ j x, (l.flatMap e)[j]? = some x → W.cell? (a.add j) = some (ys j) ∧ VR W idM nH x (ys j)) ∧ ∀ x ∈ l, ∃ y ∈ (List.range len).map Dd, Q x y := by
      intro k
      induction k with
      | zero => intro _; exact ⟨[], rfl, by simp, ⟨fun _ => default, fun j x h => by simp at h⟩, fun _ h => by cases h⟩
      | succ k ih =>
        intro hk
        obtain ⟨l, h1, h2, ⟨ys, h3⟩, h4⟩ := ih (by omega)
        obtain ⟨cs', h5, h6⟩ := hx k (by omega)
        obtain ⟨v, h7, h8⟩ := he _ _ _ _ _ h6
        obtain ⟨_, hlen, hcell⟩ := World.cells?_some h5
        have hvl : (e v).length = m := by rw [h7.1, hlen]
        refine ⟨l ++ [v], by simp [h1], ?_, ⟨fun j => if j < k * m then ys j else cs'.getD (j - k * m) default, fun j x hj => ?_⟩, fun x hx => ?_⟩
        · rw [List.flatMap_append, List.flatMap_singleton, List.length_append, h2, hvl, Nat.add_mul]; omega
        · rw [List.flatMap_append, List.flatMap_singleton] at hj
          by_cases hjk : j < k * m
          · rw [List.getElem?_append_left (by omega)] at hj
            simp only [hjk, if_true]
            exact h3 j x hj
          · rw [List.getElem?_append_right (by omega), h2] at hj
            simp only [hjk, if_false]
            have hjl : j - k * m < cs'.length := by
              rcases Nat.lt_or_ge (j - k * m) (e v).length with g | g
              · omega
              · rw [List.getElem?_eq_none g] at hj; cases hj
            have hc := hcell (j - k * m) (by omega)
            rw [Go.Deep.add_add, show k * m + (j - k * m) = j by omega] at hc
            have hg : cs'.getD (j - k * m) default = cs'[j - k * m] := by simp [List.getD, hjl]
            refine ⟨?_, h7.2 _ _ _ hj (by rw [hg]; exact List.getElem?_eq_getElem hjl)⟩
            rw [hg, hc]; exact List.getElem?_eq_getElem hjl
        · rcases List.mem_append.1 hx with hx | hx
          · exact h4 x hx
          · simp at hx; subst hx
            exact ⟨_, List.mem_map_of_mem (List.mem_range.2 (by omega)), h8⟩
    obtain ⟨l, h1, h2, ⟨ys, h3⟩, h4⟩ := key len (Nat.le_refl _)
    refine ⟨l, .one ?_, .inr ⟨_, _, rfl, by simp [h1], h4⟩⟩
    rw [h1]
    by_cases h0 : len = 0
    · subst h0
      have : l = [] := List.eq_nil_of_length_eq_zero h1
      subst this
      exact .sl0 _ _
    · have hpos : 0 < (l.flatMap e).length := by rw [h2]; exact Nat.mul_pos (by omega) hm0
      have hc0 := (h3 0 _ (List.getElem?_eq_getElem hpos)).1
      obtain ⟨e0, hlt⟩ := cell_spot0 hc0
      have e2 : a = ⟨a.block, a.off, none⟩ := by
        have := congrArg Addr.spot e0
        cases a; simp [Addr.add] at this; subst this; rfl
      rw [e2]
      refine .sl (ys := ys) hl ⟨by simpa [Addr.add] using hlt, nH_owned⟩ (fun j x hx => ?_) (fun j x hx => (h3 j x hx).2)
      have := (h3 j x hx).1
      rw [e2] at this
      have e3 : (⟨a.block, a.off, none⟩ : Addr).add j = ⟨a.block, a.off + j, none⟩ := by
        by_cases hj : j = 0 <;> simp [Addr.add, hj]
      rw [e3] at this
      exact this
end
end Go.AH
namespace Go.Proofs.B
open Go Go.AH Go.ChangeShapes Go.WideShapes Go.ChangeAt Go.RowKit Go.Deep Go.Proofs.Ytcpepibkopbhgaa
set_option maxRecDepth 8000
set_option linter.unusedSimpArgs false
set_option linter.unusedVariables false
section
variable {H : Type} {enc : TypeId × Value → H} {W : World}
theorem c3 : Try.prog.cellsOf 3 = 1 := by kernel_rfl
theorem c24 : Try.prog.cellsOf 24 = 3 := by kernel_rfl
theorem c37 : Try.prog.cellsOf 37 = 6 := by kernel_rfl
theorem opI : Opn enc Try.prog W 3 (fun n : Int => [.int .i64 n]) (fun n _ => inR n) := (Opn.int u_3).imp fun n _ h => bounds_i64 h
theorem opV : Opn enc Try.prog W 24 eV (fun v _ => ranV v) := fun sp held fuel cs x h => by
  obtain ⟨xs, n, _, rfl, hl, hxl, hf⟩ := DataW.trod_struct Try.underlying24 h
  match xs, hxl with
  | [y0, y1, y2], _ =>
    obtain ⟨a, a1, a2⟩ := opI (enc := enc) (W := W) _ _ _ _ _ (hf 0 _ rfl)
    obtain ⟨b, b1, b2⟩ := opI (enc := enc) (W := W) _ _ _ _ _ (hf 1 _ rfl)
    obtain ⟨c, e1, e2⟩ := opI (enc := enc) (W := W) _ _ _ _ _ (hf 2 _ rfl)
    simp only [c3] at a1 b1 e1
    exact ⟨⟨a, b, c⟩, (a1.glue (b1.glue e1 rfl rfl) rfl (n := 3) rfl).whole (by rw [hl, c24]), a2, b2, e2⟩
theorem opBox : Opn enc Try.prog W 37 eBox (fun v _ => ranB v) := fun sp held fuel cs x h => by
  obtain ⟨xs, n, _, rfl, hl, hxl, hf⟩ := DataW.trod_struct Try.underlying37 h
  match xs, hxl with
  | [y0, y1], _ =>
    obtain ⟨a, a1, a2⟩ := opV (enc := enc) (W := W) _ _ _ _ _ (hf 0 _ rfl)
    obtain ⟨b, b1, b2⟩ := opV (enc := enc) (W := W) _ _ _ _ _ (hf 1 _ rfl)
    have a1 : VRs W idM nH (eV a) ((cs.drop 0).take (Try.prog.cellsOf 24)) := a1
    have b1 : VRs W idM nH (eV b) ((cs.drop 3).take (Try.prog.cellsOf 24)) := b1
    rw [c24] at a1 b1
    exact ⟨⟨a, b⟩, (a1.glue b1 rfl (n := 6) rfl).whole (by rw [hl, c37]), a2, b2⟩
theorem opBoxes : Opn enc Try.prog W 22 (fun l : List BoxT => [.sl l.length (l.flatMap eBox)]) (fun l _ => ∀ b ∈ l, ranB b) := fun sp held fuel cs x h => by
  obtain ⟨l, h1, h2⟩ := Opn.slice u_22 c37 (by omega) opBox sp held fuel cs x h
  refine ⟨l, h1, ?_⟩
  rcases h2 with ⟨rfl, _⟩ | ⟨ds, s, he, hlen, hall⟩
  · exact fun _ h => by cases h
  · exact fun t ht => let ⟨y, hy, hb⟩ := hall t ht; hb
/-- A structure that is handed in. -/
theorem arg_agg {r : Reach} {b0 : Nat} {t : TypeId} {fs : Array Field} {v : Value} {d : DataW H} {p : List MemPlace} {α : Type} {e : α → List AV} {Q : α → DataW H → Prop} (ht : Try.prog.underlying t = some (.struct fs)) (ho : Opn enc Try.prog W t e Q) (hv : Value.okWide Try.prog W r b0 t v) {sp : Nat → Bool} {held : Bool} (hd : DataW.Trod enc Try.prog W 0 sp held t v d p) :
    ∃ a, VR W idM nH (.agg (e a)) v ∧ Q a d := by
  obtain ⟨cs, rfl, _, _⟩ : ∃ cs, v = .agg cs ∧ cs.size = Try.prog.cellsOf t ∧ Row.okWide Try.prog W r b0 t cs := by simpa [Value.okWide, ht] using hv
  obtain ⟨fuel, hf⟩ := hd
  obtain ⟨a, h1, h2⟩ := ho _ _ _ _ _ hf
  exact ⟨a, VRs.agg h1, h2⟩
/-- A slice that is handed in. -/
theorem arg_sl {r : Reach} {b0 : Nat} {t el : TypeId} {v : Value} {d : DataW H} {p : List MemPlace} {α : Type} {e : α → AV} {Q : α → DataW H → Prop} (ht : Try.prog.underlying t = some (.slice el)) (ho : Opn enc Try.prog W t (fun a => [e a]) Q) (hv : Value.okWide Try.prog W r b0 t v) {sp : Nat → Bool} {held : Bool} (hd : DataW.Trod enc Try.prog W 0 sp held t v d p) :
    ∃ a, VR W idM nH (e a) v ∧ Q a d := by
  obtain ⟨ad, len, cap, rfl⟩ := okWide_slice ht hv
  obtain ⟨fuel, hf⟩ := hd
  obtain ⟨a, h1, h2⟩ := ho _ _ _ _ _ hf
  exact ⟨a, VRs.get1 h1, h2⟩
theorem own : ownKnob Try.prog.godebug = none := by kernel_rfl
theorem stays {W W' : World} (hs : World.Since W.heap.size W W') {x : MemPlace} (h : x.block < W.heap.size) : W.sameAt W' x := by
  cases x with
  | cell b o => exact hs.cell (a := ⟨b, o, none⟩) h
  | map b => exact hs.block b h
theorem globs_none {W : World} : GOK W idM nH := ⟨(fun g cells h => by cases h), (fun g cs h => by cases h)⟩
end
end Go.Proofs.B
namespace Go.Proofs.B
open Go Go.AH
set_option maxRecDepth 4000
/-! ### Numbers of many digits -/
def val : List Int → Int
  | [] => 0
  | d :: ds => d + 65536 * val ds
def digs : Nat → Int → List Int
  | 0, _ => []
  | k + 1, n => n % 65536 :: digs k (n / 65536)
theorem digs_len : ∀ (k : Nat) (n : Int), (digs k n).length = k
  | 0, _ => rfl
  | k + 1, n => by simp [digs, digs_len k]
theorem digs_rng : ∀ (k : Nat) (n : Int), ∀ x ∈ digs k n, 0 ≤ x ∧ x < 65536
  | 0, _, x, h => by cases h
  | k + 1, n, x, h => by
    rcases List.mem_cons.1 h with rfl | h
    · omega
    · exact digs_rng k _ x h
abbrev Dig (l : List Int) : Prop := ∀ x ∈ l, 0 ≤ x ∧ x < 65536
theorem pw_pos (k : Nat) : (0 : Int) < 65536 ^ k := Int.pow_pos (by decide)
theorem val_rng : ∀ {l : List Int}, Dig l → 0 ≤ val l ∧ val l < 65536 ^ l.length
  | [], _ => by simp [val]
  | d :: ds, h => by
    have h1 := h d List.mem_cons_self
    have h2 := val_rng (l := ds) fun x hx => h x (List.mem_cons_of_mem _ hx)
    simp only [val, List.length_cons, Int.pow_succ]
    omega
theorem val_digs : ∀ {l : List Int}, Dig l → l = digs l.length (val l)
  | [], _ => rfl
  | d :: ds, h => by
    have h1 := h d List.mem_cons_self
    have h2 := val_digs (l := ds) fun x hx => h x (List.mem_cons_of_mem _ hx)
    simp only [val, List.length_cons, digs]
    have e1 : (d + 65536 * val ds) % 65536 = d := by omega
    have e2 : (d + 65536 * val ds) / 65536 = val ds := by omega
    rw [e1, e2, ← h2]
theorem digs_val : ∀ (k : Nat) (n : Int), 0 ≤ n → n < 65536 ^ k → val (digs k n) = n
  | 0, n, h0, h1 => by simp at h1; simp [digs, val]; omega
  | k + 1, n, h0, h1 => by
    rw [Int.pow_succ] at h1
    have := digs_val k (n / 65536) (by omega) (by omega)
    simp only [digs, val, this]; omega
theorem digs_eq {l : List Int} {k : Nat} {n : Int} (h : Dig l) (hl : l.length = k) (hv : val l = n) : l = digs k n := by
  subst hl hv; exact val_digs h
theorem digs_inj {k : Nat} {a b : Int} (ha : 0 ≤ a ∧ a < 65536 ^ k) (hb : 0 ≤ b ∧ b < 65536 ^ k) : digs k a = digs k b ↔ a = b :=
  ⟨fun h => by have := congrArg val h; rw [digs_val k a ha.1 ha.2, digs_val k b hb.1 hb.2] at this; exact this, fun h => by rw [h]⟩
theorem digs_at : ∀ (k : Nat) (n : Int) (i : Nat), i < k → at_ (digs k n) (i : Int) = n / 65536 ^ i % 65536
  | 0, n, i, h => by omega
  | k + 1, n, 0, h => by simp [digs, at_]
  | k + 1, n, i + 1, h => by
    have := digs_at k (n / 65536) i (by omega)
    have e : at_ (digs (k + 1) n) ((i + 1 : Nat) : Int) = at_ (digs k (n / 65536)) (i : Int) := by simp only [digs, at_, Int.toNat_natCast]; rfl
    rw [e, this, Int.pow_succ, Int.mul_comm, Int.ediv_ediv_of_nonneg (by decide)]
theorem val_set : ∀ {l : List Int} {j : Nat} (x : Int), j < l.length → val (l.set j x) = val l + (x - l.getD j default) * 65536 ^ j
  | [], j, x, h => by simp at h
  | d :: ds, 0, x, h => by simp [val]; omega
  | d :: ds, j + 1, x, h => by
    simp at h
    have := val_set (l := ds) (j := j) x h
    simp only [List.set_cons_succ, val, this, List.getD_cons_succ, Int.pow_succ, Int.mul_add]
    have e : 65536 * ((x - ds.getD j default) * 65536 ^ j) = (x - ds.getD j default) * (65536 ^ j * 65536) := by rw [Int.mul_comm 65536, Int.mul_assoc]
    rw [e]; omega
theorem set_dig {l : List Int} {j : Nat} {x : Int} (h : Dig l) (hx : 0 ≤ x ∧ x < 65536) : Dig (l.set j x) := fun y hy => by
  rcases List.mem_or_eq_of_mem_set hy with hy | rfl
  · exact h y hy
  · exact hx
theorem inner_step {out : List Int} {i k : Nat} {A a b c Bk s : Int} (hl : i + k < out.length) (hv : val out + c * 65536 ^ (i + k) = A + a * 65536 ^ i * Bk) (hs : s = out.getD (i + k) default + a * b + c) :
    val (out.set (i + k) (s % 65536)) + s / 65536 * 65536 ^ (i + (k + 1)) = A + a * 65536 ^ i * (Bk + b * 65536 ^ k) := by
  rw [val_set _ hl]
  generalize ho : out.getD (i + k) default = o at *
  have eP : (65536 : Int) ^ (i + k) = 65536 ^ i * 65536 ^ k := Int.pow_add _ _ _
  have eQ : (65536 : Int) ^ (i + (k + 1)) = 65536 ^ (i + k) * 65536 := by rw [← Nat.add_assoc, Int.pow_succ]
  generalize hP : (65536 : Int) ^ (i + k) = P at *
  rw [eQ]
  have e1 : (s % 65536 - o) * P = s % 65536 * P - o * P := Int.sub_mul _ _ _
  have e2 : s / 65536 * (P * 65536) = s / 65536 * 65536 * P := by rw [Int.mul_comm P, Int.mul_assoc]
  have e3 : s * P = s % 65536 * P + s / 65536 * 65536 * P := by rw [← Int.add_mul]; congr 1; omega
  have e4 : s * P = o * P + a * b * P + c * P := by rw [hs, Int.add_mul, Int.add_mul]
  have e5 : a * 65536 ^ i * (Bk + b * 65536 ^ k) = a * 65536 ^ i * Bk + a * 65536 ^ i * (b * 65536 ^ k) := Int.mul_add _ _ _
  have e6 : a * 65536 ^ i * (b * 65536 ^ k) = a * b * P := by
    rw [eP, Int.mul_assoc a, Int.mul_assoc a b]
    congr 1
    rw [← Int.mul_assoc, Int.mul_comm (65536 ^ i) b, Int.mul_assoc]
  omega
theorem mod_step (n : Int) (k : Nat) : n % 65536 ^ (k + 1) = n % 65536 ^ k + n / 65536 ^ k % 65536 * 65536 ^ k := by
  rw [Int.pow_succ]
  have hp := pw_pos k
  generalize (65536 : Int) ^ k = P at *
  have h1 := Int.emod_add_mul_ediv n P
  have h2 := Int.emod_add_mul_ediv (n / P) 65536
  have h3 : n = (n % P + n / P % 65536 * P) + P * 65536 * (n / P / 65536) := by
    have e : P * (n / P) = n / P % 65536 * P + P * 65536 * (n / P / 65536) := by
      have : n / P = n / P % 65536 + 65536 * (n / P / 65536) := by omega
      calc P * (n / P) = P * (n / P % 65536 + 65536 * (n / P / 65536)) := by rw [← this]
        _ = _ := by rw [Int.mul_add, Int.mul_comm P (n / P % 65536), Int.mul_assoc]
    omega
  have hr1 := Int.emod_nonneg n (show P ≠ 0 by omega)
  have hr2 := Int.emod_lt_of_pos n hp
  have hd : 0 ≤ n / P % 65536 ∧ n / P % 65536 ≤ 65535 := by omega
  have hb := Int.mul_le_mul_of_nonneg_right hd.2 (show 0 ≤ P by omega)
  have hb0 := Int.mul_nonneg hd.1 (show 0 ≤ P by omega)
  have hlt : n % P + n / P % 65536 * P < P * 65536 := by omega
  calc n % (P * 65536) = ((n % P + n / P % 65536 * P) + P * 65536 * (n / P / 65536)) % (P * 65536) := by rw [← h3]
    _ = (n % P + n / P % 65536 * P) % (P * 65536) := Int.add_mul_emod_self_left _ _ _
    _ = _ := Int.emod_eq_of_lt (by omega) hlt
end Go.Proofs.B
namespace Go.Proofs.B
open Go Go.AH
set_option maxRecDepth 4000
structure NumT where
  Neg : Bool
  D : (List Int)
  deriving DecidableEq, Inhabited
end Go.Proofs.B
namespace Go.Proofs.B
open Go Go.AH Go.Maps
set_option maxRecDepth 4000
def eD (l : List Int) : List AV := l.map eI
theorem AOp.quoU {n : Nat} {f : Nat → AV} {H : Heap} {K : (Nat → AV) → Heap → Prop} {ty : TypeId} {pos : String} {after : Array Edge} {guard : Option (Nat × Bool)} {d : Nat} {t t' : TypeId} {x y : Operand} {p q : Int} (hn : Nat.ble (d + 1) n = true) (hx : ev f x = .int .u64 p) (hy : ev f y = .int .u64 q)
    (hp : 0 ≤ p ∧ p < 18446744073709551616 ∧ 1 ≤ q) (hK : K (upd f d (.int .u64 (p / q))) H) : AOp Try.prog n ⟨some d, .binOp .quo t x y t', ty, pos, after, guard⟩ K f H :=
  .quo hn hx hy (by omega) (by
    have e : IntKind.u64.wrap (p.tdiv q) = p / q := by
      rw [IntKind.wrap_u64, Int.tdiv_eq_ediv_of_nonneg hp.1]
      have h1 := Int.ediv_nonneg hp.1 (show 0 ≤ q by omega)
      have h2 := Int.ediv_le_self q hp.1
      omega
    rw [e]; exact hK)
theorem eD_iff (a b : List Int) : a = b ↔ eD a = eD b := by
  refine ⟨fun h => by rw [h], fun h => ?_⟩
  unfold eD at h
  exact (List.map_inj_right fun x y e => by cases e; rfl).1 h
theorem teq99 : TEq Try.prog 99 := TEq.mk' laid (m := 5) (by decide) (row_lt (by kernel_rfl)) (by kernel_rfl) (by kernel_rfl) (by kernel_rfl)
theorem kokD {l : List Int} (h : l.length = 18 ∧ Dig l) : KOK Try.prog 99 (.agg (eD l)) :=
  KOK.flat (xs := l) 4 rfl (by kernel_rfl) (by kernel_rfl) (by kernel_rfl) (by rw [h.1]; kernel_rfl) fun x hx => by have := h.2 x hx; unfold inR; omega
theorem pw_nn {n : Int} (h : 0 ≤ n) (k : Nat) : 0 ≤ n / 65536 ^ k := Int.ediv_nonneg h (Int.le_of_lt (pw_pos k))
theorem pw_lt {n B : Int} (h : 0 ≤ n) (hb : n < B) (k : Nat) : n / 65536 ^ k < B := Int.lt_of_le_of_lt (Int.ediv_le_self _ h) hb
theorem pw_div (n : Int) {i : Int} (h : 0 ≤ i) : n / 65536 ^ i.toNat / 65536 = n / 65536 ^ (i + 1).toNat := by
  have e : (i + 1).toNat = i.toNat + 1 := by omega
  rw [e, Int.pow_succ, Int.ediv_ediv_of_nonneg (Int.le_of_lt (pw_pos _))]
theorem rep_at {j : Int} (h0 : 0 ≤ j) (h1 : j < 18) : at_ (List.replicate 18 (0 : Int)) j = 0 := by
  have : j.toNat < 18 := by omega
  unfold at_; rw [List.getD_eq_getElem?_getD, List.getElem?_replicate, if_pos this]; rfl
theorem dig_step {n i : Int} {out : List Int} (h0 : 0 ≤ i) (h1 : i < 4) (hl : out.length = 18) (hv : val out = n % 65536 ^ i.toNat) (hz : ∀ j : Int, i ≤ j → j < 18 → at_ out j = 0) : val (out.set i.toNat (n / 65536 ^ i.toNat % 65536)) = n % 65536 ^ (i + 1).toNat := by
  have e : (i + 1).toNat = i.toNat + 1 := by omega
  have z := hz i (Int.le_refl _) (by omega)
  rw [val_set _ (by omega), e, mod_step, hv]
  unfold at_ at z; rw [z, Int.sub_zero]
theorem dig_zero {i x : Int} {out : List Int} (h0 : 0 ≤ i) (h1 : i < 4) (hl : out.length = 18) (hz : ∀ j : Int, i ≤ j → j < 18 → at_ out j = 0) : ∀ j : Int, i + 1 ≤ j → j < 18 → at_ (out.set i.toNat x) j = 0 := fun j h2 h3 => by
  have := hz j (by omega) h3
  unfold at_ at this ⊢
  rw [List.getD_eq_getElem?_getD, List.getElem?_set_ne (by omega), ← List.getD_eq_getElem?_getD]; exact this
theorem dig_end {n i : Int} (hn : 0 ≤ n ∧ n < 18446744073709551616) (h : 4 ≤ i) : n % 65536 ^ i.toNat = n := by
  refine Int.emod_eq_of_lt hn.1 (Int.lt_of_lt_of_le hn.2 ?_)
  obtain ⟨m, hm⟩ : ∃ m, i.toNat = 4 + m := ⟨i.toNat - 4, by omega⟩
  rw [hm, Int.pow_add]
  have := pw_pos m
  have h2 := Int.mul_le_mul_of_nonneg_left (show (1 : Int) ≤ 65536 ^ m by omega) (show (0 : Int) ≤ 65536 ^ 4 by decide)
  have e : (65536 : Int) ^ 4 = 18446744073709551616 := by decide
  omega
end Go.Proofs.B
namespace Go.Proofs.B
open Go Go.AH Go.Maps
set_option maxRecDepth 4000
def timesN (s t : Bool) (u v : Int) : Bool := (s != t) && !decide (u * v = 0)
def cmpS (s : Bool) (u : Int) (t : Bool) (v : Int) : Int := if s = t then (if s = true then -cmpI u v else cmpI u v) else (if s = true then -1 else 1)
theorem cmpI_rng (x y : Int) : -1 ≤ cmpI x y ∧ cmpI x y ≤ 1 := by unfold cmpI; split; omega; split <;> omega
theorem val_lt : ∀ {a b : List Int} {i : Nat}, a.length = b.length → Dig a → Dig b → i < a.length → (∀ j, i < j → j < a.length → a.getD j 0 = b.getD j 0) → a.getD i 0 < b.getD i 0 → val a < val b
  | [], _, i, _, _, _, h, _, _ => by simp at h
  | x :: xs, [], i, h, _, _, _, _, _ => by simp at h
  | x :: xs, y :: ys, 0, hl, ha, hb, h, he, hlt => by
    have e : xs = ys := by
      refine List.ext_getElem (by simpa using hl) fun j h1 h2 => ?_
      have := he (j + 1) (by omega) (by simp; omega)
      simpa [h1, h2] using this
    subst e
    simp only [List.getD_cons_zero] at hlt
    simp only [val]; omega
  | x :: xs, y :: ys, i + 1, hl, ha, hb, h, he, hlt => by
    have hx := ha x List.mem_cons_self
    have hy := hb y List.mem_cons_self
    have := val_lt (a := xs) (b := ys) (i := i) (by simpa using hl) (fun z hz => ha z (List.mem_cons_of_mem _ hz)) (fun z hz => hb z (List.mem_cons_of_mem _ hz)) (by simpa using h) (fun j h1 h2 => by
      have := he (j + 1) (by omega) (by simp; omega)
      simpa using this) (by simpa using hlt)
    simp only [val]; omega
abbrev B18 (u : Int) : Prop := 0 ≤ u ∧ u < 65536 ^ 18
theorem cmp_top {u v : Int} (hu : B18 u) (hv : B18 v) {i : Int} (h0 : 0 ≤ i) (h1 : i < 18) (he : ∀ j : Int, i < j → j < 18 → at_ (digs 18 u) j = at_ (digs 18 v) j) (h : at_ (digs 18 u) i < at_ (digs 18 v) i) : u < v := by
  have := val_lt (a := digs 18 u) (b := digs 18 v) (i := i.toNat) (by rw [digs_len, digs_len]) (digs_rng _ _) (digs_rng _ _) (by rw [digs_len]; omega) (fun j h2 h3 => by
    rw [digs_len] at h3
    have := he (j : Int) (by omega) (by omega)
    exact this) h
  rw [digs_val 18 u hu.1 hu.2, digs_val 18 v hv.1 hv.2] at this
  exact this
theorem cmp_eq {u v : Int} (hu : B18 u) (hv : B18 v) {i : Int} (h0 : i < 0) (he : ∀ j : Int, i < j → j < 18 → at_ (digs 18 u) j = at_ (digs 18 v) j) : u = v := by
  refine (digs_inj (k := 18) hu hv).1 (List.ext_getElem (by rw [digs_len, digs_len]) fun j h1 h2 => ?_)
  rw [digs_len] at h1 h2
  have := he (j : Int) (by omega) (by omega)
  simp only [at_, Int.toNat_natCast] at this
  rwa [List.getD_eq_getElem?_getD, List.getElem?_eq_getElem (by rw [digs_len]; exact h1), List.getD_eq_getElem?_getD, List.getElem?_eq_getElem (by rw [digs_len]; exact h2)] at this
theorem cmpI_lt {x y : Int} (h : x < y) : cmpI x y = -1 := by unfold cmpI; rw [if_pos h]
theorem cmpI_gt {x y : Int} (h : y < x) : cmpI x y = 1 := by unfold cmpI; rw [if_neg (by omega), if_pos h]
theorem cmpI_eq {x y : Int} (h : x = y) : cmpI x y = 0 := by unfold cmpI; rw [if_neg (by omega), if_neg (by omega)]
theorem he_step {u v i : Int} (he : ∀ j : Int, i < j → j < 18 → at_ (digs 18 u) j = at_ (digs 18 v) j) (h : at_ (digs 18 u) i = at_ (digs 18 v) i) : ∀ j : Int, i - 1 < j → j < 18 → at_ (digs 18 u) j = at_ (digs 18 v) j := fun j h1 h2 => by
  by_cases e : j = i
  · subst e; exact h
  · exact he j (by omega) h2
theorem mul_18 {u v : Int} (hu : 0 ≤ u ∧ u < 18446744073709551616) (hv : 0 ≤ v ∧ v < 18446744073709551616) : B18 (u * v) := by
  have := mul_rng (x := u) (k := v) (A := 18446744073709551616) (C := 18446744073709551616) (by omega) (by omega)
  refine ⟨Int.mul_nonneg hu.1 hv.1, Int.lt_of_le_of_lt this.2 (by decide)⟩
theorem zero_digs {u : Int} (h : B18 u) : digs 18 u = ([0, 0, 0, 0, 0, 0, 0, 0, 0, 0, 0, 0, 0, 0, 0, 0, 0, 0] : List Int) ↔ u = 0 := by
  have e : ([0, 0, 0, 0, 0, 0, 0, 0, 0, 0, 0, 0, 0, 0, 0, 0, 0, 0] : List Int) = digs 18 0 := rfl
  rw [e]; exact digs_inj h ⟨by decide, by decide⟩
theorem natAbs_U {n : Int} (h : -9223372036854775808 ≤ n ∧ n ≤ 9223372036854775807) : 0 ≤ (n.natAbs : Int) ∧ (n.natAbs : Int) < 18446744073709551616 := by omega
/-! ### The loops of the product -/
theorem wtop (u : Int) {i : Int} (h : 9 ≤ i) (hu : 0 ≤ u ∧ u < 18446744073709551616) : u % 65536 ^ i.toNat = u := by
  exact dig_end hu (by omega)
theorem in_start {out : List Int} {u v i : Int} (h : val out = u % 65536 ^ i.toNat * v) : val out + 0 * 65536 ^ (i.toNat + (0 : Int).toNat) = u % 65536 ^ i.toNat * v + at_ (digs 18 u) i * 65536 ^ i.toNat * (v % 65536 ^ (0 : Int).toNat) := by
  rw [h]; simp [Int.emod_one]
theorem in_step {out : List Int} {u v i k c s : Int} (h0 : 0 ≤ i) (h1 : i < 9) (k0 : 0 ≤ k) (k1 : k < 9) (hl : out.length = 18) (hv : val out + c * 65536 ^ (i.toNat + k.toNat) = u % 65536 ^ i.toNat * v + at_ (digs 18 u) i * 65536 ^ i.toNat * (v % 65536 ^ k.toNat)) (hs : s = at_ out (i + k) + at_ (digs 18 u) i * at_ (digs 18 v) k + c) :
    val (out.set (i + k).toNat (s % 65536)) + s / 65536 * 65536 ^ (i.toNat + (k + 1).toNat) = u % 65536 ^ i.toNat * v + at_ (digs 18 u) i * 65536 ^ i.toNat * (v % 65536 ^ (k + 1).toNat) := by
  have e1 : (i + k).toNat = i.toNat + k.toNat := by omega
  have e2 : (k + 1).toNat = k.toNat + 1 := by omega
  have e3 : v % 65536 ^ (k.toNat + 1) = v % 65536 ^ k.toNat + at_ (digs 18 v) k * 65536 ^ k.toNat := by
    rw [mod_step]
    have := digs_at 18 v k.toNat (by omega)
    rw [show ((k.toNat : Nat) : Int) = k by omega] at this
    rw [this]
  rw [e1, e2, e3]
  exact inner_step (by rw [hl]; omega) hv (by rw [hs]; unfold at_; rw [e1])
theorem in_end {out : List Int} {u v i k c : Int} (h0 : 0 ≤ i) (h1 : i < 9) (hk : k = 9) (hu : 0 ≤ u ∧ u < 18446744073709551616) (hw : 0 ≤ v ∧ v < 18446744073709551616) (hd : Dig out) (hc : 0 ≤ c) (hv : val out + c * 65536 ^ (i.toNat + k.toNat) = u % 65536 ^ i.toNat * v + at_ (digs 18 u) i * 65536 ^ i.toNat * (v % 65536 ^ k.toNat)) : val out = u % 65536 ^ (i + 1).toNat * v := by
  subst hk
  have e2 : (i + 1).toNat = i.toNat + 1 := by omega
  have e3 : u % 65536 ^ (i.toNat + 1) = u % 65536 ^ i.toNat + at_ (digs 18 u) i * 65536 ^ i.toNat := by
    rw [mod_step]
    have := digs_at 18 u i.toNat (by omega)
    rw [show ((i.toNat : Nat) : Int) = i by omega] at this
    rw [this]
  rw [wtop v (by decide) hw] at hv
  have e4 : u % 65536 ^ (i + 1).toNat * v = u % 65536 ^ i.toNat * v + at_ (digs 18 u) i * 65536 ^ i.toNat * v := by rw [e2, e3, Int.add_mul]
  rw [← e4] at hv
  -- the carry is nought
  have hp := pw_pos (i.toNat + 1)
  have m0 := Int.emod_nonneg u (show (65536 : Int) ^ (i + 1).toNat ≠ 0 by rw [e2]; omega)
  have m1 := Int.emod_lt_of_pos u (show (0 : Int) < 65536 ^ (i + 1).toNat by rw [e2]; exact hp)
  have hb : u % 65536 ^ (i + 1).toNat * v < 65536 ^ (i.toNat + (9 : Int).toNat) := by
    have a1 : u % 65536 ^ (i + 1).toNat * v ≤ 65536 ^ (i + 1).toNat * v := Int.mul_le_mul_of_nonneg_right (by omega) hw.1
    have a2 : 65536 ^ (i + 1).toNat * v < 65536 ^ (i + 1).toNat * 65536 ^ 8 := by
      refine Int.mul_lt_mul_of_pos_left (Int.lt_of_lt_of_le hw.2 (by decide)) (by rw [e2]; exact hp)
    have a3 : (65536 : Int) ^ (i.toNat + (9 : Int).toNat) = 65536 ^ (i + 1).toNat * 65536 ^ 8 := by rw [← Int.pow_add]; congr 1; omega
    omega
  have hz : c = 0 := by
    rcases Int.lt_or_le 0 c with h | h
    · exfalso
      have p9 := pw_pos (i.toNat + (9 : Int).toNat)
      have := Int.mul_le_mul_of_nonneg_right (show 1 ≤ c by omega) (Int.le_of_lt p9)
      have := (val_rng hd).1
      omega
    · omega
  rw [hz, Int.zero_mul, Int.add_zero] at hv
  exact hv
theorem s_rng {out : List Int} {u v i k c : Int} (hl : out.length = 18) (hd : Dig out) (h0 : 0 ≤ i) (h1 : i < 9) (k0 : 0 ≤ k) (k1 : k < 9) (hc : 0 ≤ c ∧ c < 65536) :
    (0 ≤ at_ (digs 18 u) i * at_ (digs 18 v) k ∧ at_ (digs 18 u) i * at_ (digs 18 v) k ≤ 4294836225) ∧ 0 ≤ at_ out (i + k) ∧ at_ out (i + k) < 65536 := by
  have a := digs_rng 18 u _ (at_mem_l (i := i) h0 (by rw [digs_len]; omega))
  have b := digs_rng 18 v _ (at_mem_l (i := k) k0 (by rw [digs_len]; omega))
  have o := hd _ (at_mem_l (i := i + k) (by omega) (by omega))
  refine ⟨⟨Int.mul_nonneg a.1 b.1, ?_⟩, o⟩
  have h1 := Int.mul_le_mul_of_nonneg_right (show at_ (digs 18 u) i ≤ 65535 by omega) b.1
  have h2 : 65535 * at_ (digs 18 v) k ≤ 65535 * 65535 := by omega
  omega
end Go.Proofs.B
