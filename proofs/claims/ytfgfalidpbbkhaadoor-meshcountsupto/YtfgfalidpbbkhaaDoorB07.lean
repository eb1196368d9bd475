/- A part of the proof that a law answers true for every input of its row: own work, by an AI agent. -/
import Derived.Test.YtfgfalidpbbkhaaDoorB05
import Derived.Test.YtfgfalidpbbkhaaDoorB06
set_option linter.unusedSimpArgs false
set_option linter.unusedVariables false
namespace Go.Proofs.M
open Go Go.AH
/-! ### What a mesh's triangles are made of -/
theorem strF_mem {N : SpotT → Int} {k r m : Int} {Q : I3T → Prop} (h1 : ∀ i t, 0 ≤ i → i < r → 1 ≤ t → t ≤ m - 1 → Q ⟨N (outS k i r), N (outS k (i + 1) r), N (besS k t m)⟩) (h2 : ∀ i t, 0 ≤ i → i ≤ r → 1 ≤ t → t < m - 1 → Q ⟨N (outS k i r), N (besS k (t + 1) m), N (besS k t m)⟩) :
    ∀ {n : Nat} {i t : Int}, 0 ≤ i → i ≤ r → 1 ≤ t → t ≤ m - 1 → ∀ x ∈ strF N k r m n i t, Q x
  | 0, _, _, _, _, _, _, x, hx => by cases hx
  | n + 1, i, t, a, b, c, d, x, hx => by
    unfold strF at hx
    split at hx
    · rename_i g
      split at hx
      · rename_i e
        rcases List.mem_cons.1 hx with rfl | hx
        · exact h1 i t a e.1 c d
        · exact strF_mem h1 h2 (by omega) (by omega) c d x hx
      · rename_i e
        have ht : t < m - 1 := by
          rcases Int.lt_or_le t (m - 1) with g' | g'
          · exact g'
          · exact absurd ⟨by omega, .inl (by omega)⟩ e
        rcases List.mem_cons.1 hx with rfl | hx
        · exact h2 i t a b c ht
        · exact strF_mem h1 h2 a b (by omega) (by omega) x hx
    · cases hx
theorem tris_mem {N : SpotT → Int} {rs : List Int} {m : Int} {Q : I3T → Prop} (hr : rates rs) (hm : 1 ≤ m) (h0 : m = 1 → Q ⟨0, 1, 2⟩ ∧ Q ⟨0, 2, 3⟩)
    (hmid : ∀ a b, 1 ≤ a → a < m - 1 → 1 ≤ b → b < m - 1 → Q ⟨N (inn a b), N (inn (a + 1) b), N (inn (a + 1) (b + 1))⟩ ∧ Q ⟨N (inn a b), N (inn (a + 1) (b + 1)), N (inn a (b + 1))⟩)
    (h1 : ∀ k i t, 0 ≤ k → k < 4 → 0 ≤ i → i < at_ rs k → 1 ≤ t → t ≤ m - 1 → Q ⟨N (outS k i (at_ rs k)), N (outS k (i + 1) (at_ rs k)), N (besS k t m)⟩) (h2 : ∀ k i t, 0 ≤ k → k < 4 → 0 ≤ i → i ≤ at_ rs k → 1 ≤ t → t < m - 1 → Q ⟨N (outS k i (at_ rs k)), N (besS k (t + 1) m), N (besS k t m)⟩) : ∀ x ∈ trisL N rs m, Q x := by
  intro x hx
  unfold trisL at hx
  split at hx
  · rename_i e
    obtain ⟨a, b⟩ := h0 e
    rcases List.mem_cons.1 hx with rfl | hx
    · exact a
    · rcases List.mem_cons.1 hx with rfl | hx
      · exact b
      · cases hx
  · rename_i e
    rcases List.mem_append.1 hx with hx | hx
    · simp only [midO, midI, List.mem_flatMap, mem_rg] at hx
      obtain ⟨b, ⟨b1, b2⟩, a, ⟨a1, a2⟩, hx⟩ := hx
      obtain ⟨q1, q2⟩ := hmid a b a1 a2 b1 b2
      simp only [midC, List.mem_cons, List.not_mem_nil, or_false] at hx
      rcases hx with rfl | rfl
      · exact q1
      · exact q2
    · simp only [strO, List.mem_flatMap, mem_rg] at hx
      obtain ⟨k, ⟨k1, k2⟩, hx⟩ := hx
      have := hr k k1 k2
      exact strF_mem (fun i t => h1 k i t k1 k2) (fun i t => h2 k i t k1 k2) (Int.le_refl _) (by omega) (Int.le_refl _) (by omega) x hx
theorem numL_rng (l : List SpotT) (s : SpotT) : -1 ≤ numL l s ∧ numL l s ≤ l.length := by
  by_cases h : s ∈ l
  · have := numL_mem h; omega
  · rw [numL_not h]; omega
theorem ranI3_of {a b c : Int} (ha : -1 ≤ a ∧ a ≤ 400) (hb : -1 ≤ b ∧ b ≤ 400) (hc : -1 ≤ c ∧ c ≤ 400) : ranI3 ⟨a, b, c⟩ := ⟨inR_of (B := 400) (by simp only; omega) (by decide), inR_of (B := 400) (by simp only; omega) (by decide), inR_of (B := 400) (by simp only; omega) (by decide)⟩
theorem ranK_of {a b c d e : Int} (ha : -1000 ≤ a ∧ a ≤ 1000) (hb : inR b) (hc : inR c) (hd : inR d) (he : -1000 ≤ e ∧ e ≤ 1000) : ranK ⟨a, b, c, d, e⟩ := ⟨inR_of ha (by decide), hb, hc, hd, inR_of he (by decide)⟩
theorem inR_small {a : Int} (h : -1000 ≤ a ∧ a ≤ 1000) : inR a := inR_of h (by decide)
theorem kD_ran {p : PatchT} {cage id : Int} {s : SkinT} (hc : inR cage) (hi : inR id) (hp : ∀ c ∈ p.aCorners, inR c) (hr : rates (R_rate_Sides p.aP s.Unit)) (hm : maxL (R_rate_Sides p.aP s.Unit) ≤ 16) {x : SpotT} (hx : x ∈ spotsL (R_rate_Sides p.aP s.Unit) (maxL (R_rate_Sides p.aP s.Unit))) : ranK (kD p cage id s x) := by
  have hco : ∀ k : Int, 0 ≤ k → k < 4 → inR (at_ p.aCorners k) := fun k h0 h4 => hp _ (at_mem h0 (by have := p.lCorners; omega))
  unfold kD vtxD R_mesh_vertex
  rcases mem_spots.1 hx with ⟨k1, k2, k3, k4⟩ | ⟨k1, k2, k3, k4, k5⟩ | ⟨k1, k2, k3, k4, k5⟩
  · rw [if_pos k1]
    exact ranK_of (by omega) hc (hco _ k2 k3) (inR_small (by omega)) (by omega)
  · rw [if_neg (by omega), if_pos k1]
    have := hr x.A k2 k3
    unfold R_mesh_side
    split
    · exact ranK_of (by omega) hc (hco _ (by omega) (by omega)) (hco _ k2 k3) (by omega)
    · exact ranK_of (by omega) hc (hco _ k2 k3) (hco _ (by omega) (by omega)) (by omega)
  · rw [if_neg (by omega), if_neg (by omega)]
    exact ranK_of (by omega) hi (inR_small (by omega)) (inR_small (by omega)) (by omega)
theorem ranM_dice {p : PatchT} {cage id : Int} {s : SkinT} {texs : List TexT} (hc : inR cage) (hi : inR id) (hp : ∀ c ∈ p.aCorners, inR c) : ranM (diceR p cage id s texs).1 := by
  by_cases h : (diceR p cage id s texs).2 = 0
  · obtain ⟨hf, hr, m1, m2, ho, e⟩ := dice_ok0 h
    obtain ⟨f1, f2, f3, f4, f5⟩ := fine_pts hf
    rw [e]
    refine ⟨fun v hv => ?_, fun k hk => ?_, ?_⟩
    · obtain ⟨x, hx, rfl⟩ := List.mem_map.1 hv
      obtain ⟨d, hd, hin⟩ := fD_near (cage := cage) (id := id) hf hx (ho _ hx)
      rw [hd]
      exact ranV_of (inV_vec_Add (vtx_in hf hx) hin) (by omega)
    · obtain ⟨x, hx, rfl⟩ := List.mem_map.1 hk
      exact kD_ran hc hi hp hr m1 hx
    · have hl := spots_len hr m1
      have hn : ∀ x, -1 ≤ numL (spotsL (R_rate_Sides p.aP s.Unit) (maxL (R_rate_Sides p.aP s.Unit))) x ∧ numL (spotsL (R_rate_Sides p.aP s.Unit) (maxL (R_rate_Sides p.aP s.Unit))) x ≤ 400 := fun x => by
        have := numL_rng (spotsL (R_rate_Sides p.aP s.Unit) (maxL (R_rate_Sides p.aP s.Unit))) x
        omega
      refine tris_mem hr m2 (fun _ => ⟨ranI3_of (by omega) (by omega) (by omega), ranI3_of (by omega) (by omega) (by omega)⟩) (fun a b _ _ _ _ => ⟨ranI3_of (hn _) (hn _) (hn _), ranI3_of (hn _) (hn _) (hn _)⟩) (fun k i t _ _ _ _ _ _ => ranI3_of (hn _) (hn _) (hn _)) (fun k i t _ _ _ _ _ _ => ranI3_of (hn _) (hn _) (hn _))
  · rw [dice_no h]
    exact ⟨fun _ h => (by cases h), fun _ h => (by cases h), fun _ h => (by cases h)⟩
/-! ### MeshCounts -/
theorem numL_inj {l : List SpotT} {a b : SpotT} (ha : a ∈ l) (hb : b ∈ l) (h : numL l a = numL l b) : a = b := by
  have h1 := (numL_mem ha).2.2
  have h2 := (numL_mem hb).2.2
  rw [h] at h1
  exact h1.symm.trans h2
theorem out_spot {rs : List Int} {m k i : Int} (h0 : 0 ≤ k) (h4 : k < 4) (i0 : 0 ≤ i) (i1 : i ≤ at_ rs k) : outS k i (at_ rs k) ∈ spotsL rs m := by
  unfold outS
  split
  · exact spot_cor h0 h4
  · split
    · exact spot_cor (by omega) (by omega)
    · exact spot_edg h0 h4 (by omega) (by omega)
theorem bes_spot {rs : List Int} {m k t : Int} (t0 : 1 ≤ t) (t1 : t < m) : besS k t m ∈ spotsL rs m := by
  unfold besS
  (repeat' split) <;> exact spot_inn (by omega) (by omega) (by omega) (by omega)
theorem out_kind (k i r : Int) : (outS k i r).Kind = 1 ∨ (outS k i r).Kind = 2 := by
  unfold outS cor edg
  (repeat' split) <;> simp
theorem bes_kind (k t m : Int) : (besS k t m).Kind = 3 := by
  unfold besS inn
  (repeat' split) <;> rfl
theorem out_ne {k i r : Int} (h0 : 0 ≤ k) (h4 : k < 4) (i0 : 0 ≤ i) (i1 : i < r) : outS k i r ≠ outS k (i + 1) r := by
  intro e
  unfold outS at e
  rw [if_neg (show ¬ i + 1 = 0 by omega)] at e
  by_cases a : i = 0
  · rw [if_pos a] at e
    by_cases b : i + 1 = r
    · rw [if_pos b] at e
      have := congrArg SpotT.A e
      simp only [cor] at this; omega
    · rw [if_neg b] at e
      have := congrArg SpotT.Kind e
      simp only [cor, edg] at this; omega
  · rw [if_neg a, if_neg (show ¬ i = r by omega)] at e
    by_cases b : i + 1 = r
    · rw [if_pos b] at e
      have := congrArg SpotT.Kind e
      simp only [cor, edg] at this; omega
    · rw [if_neg b] at e
      have := congrArg SpotT.B e
      simp only [edg] at this; omega
theorem bes_ne {k t m : Int} : besS k (t + 1) m ≠ besS k t m := by
  intro e
  have a := congrArg SpotT.A e
  have b := congrArg SpotT.B e
  unfold besS inn at a b
  (repeat' split at a) <;> (repeat' split at b) <;> simp only at a b <;> omega
def okTri (n : Int) (t : I3T) : Prop := 0 ≤ t.x0 ∧ t.x0 < n ∧ 0 ≤ t.x1 ∧ t.x1 < n ∧ 0 ≤ t.x2 ∧ t.x2 < n ∧ t.x0 ≠ t.x1 ∧ t.x1 ≠ t.x2 ∧ t.x2 ≠ t.x0
theorem okTri_of {l : List SpotT} {a b c : SpotT} (ha : a ∈ l) (hb : b ∈ l) (hc : c ∈ l) (h1 : a ≠ b) (h2 : b ≠ c) (h3 : c ≠ a) : okTri l.length ⟨numL l a, numL l b, numL l c⟩ := by
  have x := numL_mem ha
  have y := numL_mem hb
  have z := numL_mem hc
  exact ⟨x.1, x.2.1, y.1, y.2.1, z.1, z.2.1, fun e => h1 (numL_inj ha hb e), fun e => h2 (numL_inj hb hc e), fun e => h3 (numL_inj hc ha e)⟩
theorem kind_ne {a b : SpotT} (h : a.Kind ≠ b.Kind) : a ≠ b := fun e => h (by rw [e])
theorem inn_ne {a b c d : Int} (h : a ≠ c ∨ b ≠ d) : inn a b ≠ inn c d := fun e => by
  have x := congrArg SpotT.A e
  have y := congrArg SpotT.B e
  simp only [inn] at x y; omega
theorem tris_ok {rs : List Int} {m : Int} (hr : rates rs) (hm : 1 ≤ m) : ∀ t ∈ trisL (numL (spotsL rs m)) rs m, okTri (spotsL rs m).length t := by
  refine tris_mem hr hm (fun _ => ?_) (fun a b a1 a2 b1 b2 => ?_) (fun k i t k0 k4 i0 i1 t0 t1 => ?_) (fun k i t k0 k4 i0 i1 t0 t1 => ?_)
  · have := (cor_at (rs := rs) (m := m) (k := 3) (by omega) (by omega)).2
    constructor <;> simp only [okTri] <;> omega
  · have p1 := spot_inn (rs := rs) (m := m) (a := a) (b := b) (by omega) (by omega) (by omega) (by omega)
    have p2 := spot_inn (rs := rs) (m := m) (a := a + 1) (b := b) (by omega) (by omega) (by omega) (by omega)
    have p3 := spot_inn (rs := rs) (m := m) (a := a + 1) (b := b + 1) (by omega) (by omega) (by omega) (by omega)
    have p4 := spot_inn (rs := rs) (m := m) (a := a) (b := b + 1) (by omega) (by omega) (by omega) (by omega)
    exact ⟨okTri_of p1 p2 p3 (inn_ne (by omega)) (inn_ne (by omega)) (inn_ne (by omega)), okTri_of p1 p3 p4 (inn_ne (by omega)) (inn_ne (by omega)) (inn_ne (by omega))⟩
  · exact okTri_of (out_spot k0 k4 i0 (by omega)) (out_spot k0 k4 (by omega) (by omega)) (bes_spot t0 (by omega)) (out_ne k0 k4 i0 i1) (kind_ne (by rw [bes_kind]; have := out_kind k (i + 1) (at_ rs k); omega)) (kind_ne (by rw [bes_kind]; have := out_kind k i (at_ rs k); omega))
  · exact okTri_of (out_spot k0 k4 i0 i1) (bes_spot (by omega) (by omega)) (bes_spot t0 (by omega)) (kind_ne (by rw [bes_kind]; have := out_kind k i (at_ rs k); omega)) bes_ne (kind_ne (by rw [bes_kind]; have := out_kind k i (at_ rs k); omega))
/-! ### No spot twice, no key twice -/
theorem rg_lt (a b : Int) : (rg a b).Pairwise (· < ·) := by
  unfold rg
  rw [List.pairwise_map]
  exact List.pairwise_lt_range.imp fun h => by omega
theorem map_ne {α β : Type} {f : α → β} {l : List α} (h : l.Pairwise (· ≠ ·)) (hf : ∀ x ∈ l, ∀ y ∈ l, f x = f y → x = y) : (l.map f).Pairwise (· ≠ ·) := by
  rw [List.pairwise_map]
  exact h.imp_of_mem fun ha hb hne e => hne (hf _ ha _ hb e)
theorem rg_ne (a b : Int) : (rg a b).Pairwise (· ≠ ·) := (rg_lt a b).imp fun h => by omega
theorem spots_ne (rs : List Int) (m : Int) : (spotsL rs m).Pairwise (· ≠ ·) := by
  unfold spotsL
  rw [List.pairwise_append, List.pairwise_append]
  refine ⟨⟨?_, ?_, ?_⟩, ?_, ?_⟩
  · exact map_ne (rg_ne _ _) fun x _ y _ e => by have := congrArg SpotT.A e; simpa [cor] using this
  · unfold edgO
    rw [List.pairwise_flatMap]
    refine ⟨fun k _ => map_ne (rg_ne _ _) fun x _ y _ e => by have := congrArg SpotT.B e; simpa [edg] using this, (rg_ne _ _).imp fun h x hx y hy e => ?_⟩
    have a := (mem_edgI.1 hx).2.1
    have b := (mem_edgI.1 hy).2.1
    rw [e] at a; omega
  · intro x hx y hy e
    have a := (mem_cor.1 hx).1
    have b := (mem_edgO.1 hy).1
    rw [e] at a; omega
  · unfold innO
    rw [List.pairwise_flatMap]
    refine ⟨fun k _ => map_ne (rg_ne _ _) fun x _ y _ e => by have := congrArg SpotT.A e; simpa [inn] using this, (rg_ne _ _).imp fun h x hx y hy e => ?_⟩
    have a := (mem_innI.1 hx).2.1
    have b := (mem_innI.1 hy).2.1
    rw [e] at a; omega
  · intro x hx y hy e
    have b := (mem_innO.1 hy).1
    rcases List.mem_append.1 hx with hx | hx
    · have a := (mem_cor.1 hx).1
      rw [e] at a; omega
    · have a := (mem_edgO.1 hx).1
      rw [e] at a; omega
theorem spot_ext {a b : SpotT} (h1 : a.Kind = b.Kind) (h2 : a.A = b.A) (h3 : a.B = b.B) : a = b := by cases a; cases b; simp_all
theorem kD_inj {p : PatchT} {cage id : Int} {s : SkinT} (hd : ∀ i j : Int, 0 ≤ i → i < 4 → 0 ≤ j → j < 4 → at_ p.aCorners i = at_ p.aCorners j → i = j) {x y : SpotT} (hx : x ∈ spotsL (R_rate_Sides p.aP s.Unit) (maxL (R_rate_Sides p.aP s.Unit))) (hy : y ∈ spotsL (R_rate_Sides p.aP s.Unit) (maxL (R_rate_Sides p.aP s.Unit))) (h : kD p cage id s x = kD p cage id s y) : x = y := by
  have key : ∀ z : SpotT, z ∈ spotsL (R_rate_Sides p.aP s.Unit) (maxL (R_rate_Sides p.aP s.Unit)) →
      (z.Kind = 1 ∧ 0 ≤ z.A ∧ z.A < 4 ∧ z.B = 0 ∧ kD p cage id s z = ⟨1, cage, at_ p.aCorners z.A, 0, 0⟩) ∨
      (z.Kind = 2 ∧ 0 ≤ z.A ∧ z.A < 4 ∧ ((at_ p.aCorners ((z.A + 1) % 4) < at_ p.aCorners z.A ∧ kD p cage id s z = ⟨2, cage, at_ p.aCorners ((z.A + 1) % 4), at_ p.aCorners z.A, at_ (R_rate_Sides p.aP s.Unit) z.A - z.B⟩) ∨ (¬ at_ p.aCorners ((z.A + 1) % 4) < at_ p.aCorners z.A ∧ kD p cage id s z = ⟨2, cage, at_ p.aCorners z.A, at_ p.aCorners ((z.A + 1) % 4), z.B⟩))) ∨
      (z.Kind = 3 ∧ kD p cage id s z = ⟨3, id, z.A, z.B, 0⟩) := by
    intro z hz
    rcases mem_spots.1 hz with ⟨k1, k2, k3, k4⟩ | ⟨k1, k2, k3, k4, k5⟩ | ⟨k1, k2, k3, k4, k5⟩
    · refine .inl ⟨k1, k2, k3, k4, ?_⟩
      unfold kD vtxD R_mesh_vertex
      rw [if_pos k1]; rfl
    · refine .inr (.inl ⟨k1, k2, k3, ?_⟩)
      unfold kD vtxD R_mesh_vertex
      rw [if_neg (by omega), if_pos k1]
      unfold R_mesh_side
      split
      · rename_i g; exact .inl ⟨g, rfl⟩
      · rename_i g; exact .inr ⟨g, rfl⟩
    · refine .inr (.inr ⟨k1, ?_⟩)
      unfold kD vtxD R_mesh_vertex
      rw [if_neg (by omega), if_neg (by omega)]; rfl
  rcases key x hx with ⟨a1, a2, a3, a4, a5⟩ | ⟨a1, a2, a3, a5⟩ | ⟨a1, a5⟩
  · rcases key y hy with ⟨b1, b2, b3, b4, b5⟩ | ⟨b1, b2, b3, ⟨b4, b5⟩ | ⟨b4, b5⟩⟩ | ⟨b1, b5⟩
    · rw [a5, b5] at h
      have e := congrArg KeyT.A h
      exact spot_ext (by omega) (hd _ _ a2 a3 b2 b3 e) (by omega)
    all_goals (rw [a5, b5] at h; have e := congrArg KeyT.Kind h; simp only at e; omega)
  · rcases key y hy with ⟨b1, b2, b3, b4, b5⟩ | ⟨b1, b2, b3, b5⟩ | ⟨b1, b5⟩
    · rcases a5 with ⟨_, a5⟩ | ⟨_, a5⟩ <;> (rw [a5, b5] at h; have e := congrArg KeyT.Kind h; simp only at e; omega)
    · rcases a5 with ⟨a4, a5⟩ | ⟨a4, a5⟩
      · rcases b5 with ⟨b4, b5⟩ | ⟨b4, b5⟩
        · rw [a5, b5] at h
          have e1 := hd _ _ a2 a3 b2 b3 (congrArg KeyT.B h)
          have e2 := congrArg KeyT.N h
          simp only [e1] at e2
          exact spot_ext (by omega) e1 (by omega)
        · rw [a5, b5] at h
          have e1 := hd _ _ (by omega) (by omega) b2 b3 (congrArg KeyT.A h)
          have e2 := hd _ _ a2 a3 (by omega) (by omega) (congrArg KeyT.B h)
          omega
      · rcases b5 with ⟨b4, b5⟩ | ⟨b4, b5⟩
        · rw [a5, b5] at h
          have e1 := hd _ _ a2 a3 (by omega) (by omega) (congrArg KeyT.A h)
          have e2 := hd _ _ (by omega) (by omega) b2 b3 (congrArg KeyT.B h)
          omega
        · rw [a5, b5] at h
          have e1 := hd _ _ a2 a3 b2 b3 (congrArg KeyT.A h)
          have e2 := congrArg KeyT.N h
          exact spot_ext (by omega) e1 e2
    · rcases a5 with ⟨_, a5⟩ | ⟨_, a5⟩ <;> (rw [a5, b5] at h; have e := congrArg KeyT.Kind h; simp only at e; omega)
  · rcases key y hy with ⟨b1, b2, b3, b4, b5⟩ | ⟨b1, b2, b3, ⟨b4, b5⟩ | ⟨b4, b5⟩⟩ | ⟨b1, b5⟩
    rotate_right 1
    · rw [a5, b5] at h
      exact spot_ext (by omega) (congrArg KeyT.A h) (congrArg KeyT.B h)
    all_goals (rw [a5, b5] at h; have e := congrArg KeyT.Kind h; simp only at e; omega)
theorem ne_take {α : Type} [Inhabited α] {l : List α} (h : l.Pairwise (· ≠ ·)) {i : Int} (h0 : 0 ≤ i) (h1 : i < l.length) : at_ l i ∉ l.take i.toNat := by
  have hi : i.toNat < l.length := by omega
  have e : l = l.take i.toNat ++ l.drop i.toNat := (List.take_append_drop _ _).symm
  rw [e, List.pairwise_append] at h
  intro hm
  have hd : at_ l i ∈ l.drop i.toNat := by
    have e2 : at_ l i = l[i.toNat] := by simp [at_, hi]
    rw [List.drop_eq_getElem_cons hi, e2]
    exact .head _
  exact h.2.2 _ hm _ hd rfl
theorem counts_law {p : PatchT} {s : SkinT} {texs : List TexT} (hd : ∀ i j : Int, 0 ≤ i → i < 4 → 0 ≤ j → j < 4 → at_ p.aCorners i = at_ p.aCorners j → i = j) (h : (diceR p 0 0 s texs).2 = 0) :
    ((diceR p 0 0 s texs).1.Keys.length : Int) = ((diceR p 0 0 s texs).1.Verts.length : Int) ∧ ((diceR p 0 0 s texs).1.Tris.length : Int) ≥ 2 ∧
    (diceR p 0 0 s texs).1.Keys.Pairwise (· ≠ ·) ∧ ∀ t ∈ (diceR p 0 0 s texs).1.Tris, okTri (diceR p 0 0 s texs).1.Verts.length t := by
  obtain ⟨hf, hr, m1, m2, ho, e⟩ := dice_ok0 h
  rw [e]
  simp only [List.length_map]
  have hc := tris_cnt (N := numL (spotsL (R_rate_Sides p.aP s.Unit) (maxL (R_rate_Sides p.aP s.Unit)))) (R_rate_Sides_len p.aP s.Unit) hr rfl m2
  have r0 := hr 0 (by omega) (by omega)
  have r1 := hr 1 (by omega) (by omega)
  have r2 := hr 2 (by omega) (by omega)
  have r3 := hr 3 (by omega) (by omega)
  refine ⟨trivial, ?_, ?_, ?_⟩
  · have : -1 ≤ maxL (R_rate_Sides p.aP s.Unit) * (maxL (R_rate_Sides p.aP s.Unit) - 2) := by
      generalize maxL (R_rate_Sides p.aP s.Unit) = m at *
      have := Int.mul_nonneg (show 0 ≤ m - 1 by omega) (show 0 ≤ m - 1 by omega)
      have e : (m - 1) * (m - 1) = m * (m - 2) + 1 := by grind
      omega
    omega
  · exact map_ne (spots_ne _ _) fun x hx y hy e => kD_inj hd hx hy e
  · exact tris_ok hr m2
end Go.Proofs.M
namespace Go.Proofs.M
open Go Go.AH
theorem corners_ne {c : List Int} (h10 : ¬ at_ c 1 = at_ c 0) (h20 : ¬ at_ c 2 = at_ c 0) (h21 : ¬ at_ c 2 = at_ c 1) (h30 : ¬ at_ c 3 = at_ c 0) (h31 : ¬ at_ c 3 = at_ c 1) (h32 : ¬ at_ c 3 = at_ c 2) : ∀ i j : Int, 0 ≤ i → i < 4 → 0 ≤ j → j < 4 → at_ c i = at_ c j → i = j := by
  intro i j i0 i1 j0 j1 e
  rcases (by omega : i = 0 ∨ i = 1 ∨ i = 2 ∨ i = 3) with rfl | rfl | rfl | rfl <;> rcases (by omega : j = 0 ∨ j = 1 ∨ j = 2 ∨ j = 3) with rfl | rfl | rfl | rfl <;> omega
/-- The keys that were seen. -/
def keyM (l : List KeyT) : List (AV × AV) := l.map fun k => (.agg (eKey k), .bool true)
theorem eKey_inj {a b : KeyT} (h : AV.agg (eKey a) = .agg (eKey b)) : a = b := (eKey_iff a b).2 (by injection h)
theorem keyM_none {l : List KeyT} {k : KeyT} (h : k ∉ l) : mget (keyM l) (.agg (eKey k)) = none := mget_none fun e he => by
  obtain ⟨x, hx, rfl⟩ := List.mem_map.1 he
  intro g; exact h (eKey_inj g ▸ hx)
theorem keyM_get {l : List KeyT} {k : KeyT} (h : k ∉ l) : (mget (keyM l) (.agg (eKey k))).getD (.bool false) = .bool false := by rw [keyM_none h]; rfl
theorem keyM_put {l : List KeyT} {k : KeyT} (h : k ∉ l) : mput (keyM l) (.agg (eKey k)) (.bool true) = keyM (l ++ [k]) := by
  unfold mput
  rw [keyM_none h]
  simp [keyM]
theorem keyM_keys {l : List KeyT} (h : ∀ s ∈ l, ranK s) : ∀ e ∈ keyM l, KOK Tryd.prog 58 e.1 := fun e he => by
  obtain ⟨x, hx, rfl⟩ := List.mem_map.1 he
  exact kokK (h x hx)
theorem tri_ok {m : MeshT} {i : Int} (h0 : 0 ≤ i) (h1 : i < m.Tris.length) (h : okTri m.Verts.length (at_ m.Tris i)) : (R_mesh_Tri m i).2 = true := by
  obtain ⟨a0, a1, b0, b1, c0, c1, _⟩ := h
  unfold R_mesh_Tri
  rw [if_neg (by omega), if_neg (by omega), if_neg (by rw [min3L]; omega), if_neg (by rw [max3L]; omega)]
end Go.Proofs.M
namespace Go.Proofs.M
open Go Go.AH
set_option maxRecDepth 4000
set_option linter.unusedSimpArgs false
set_option linter.unusedVariables false
set_option maxHeartbeats 4000000
theorem c_MeshCounts (p : PatchT) (s : SkinT) (texs : List TexT) (htl : texs.length ≤ 1048576) (htx : ∀ t ∈ texs, t.Rows.length ≤ 1048576) (hpc : ∀ c ∈ p.aCorners, inR c) : PC Tryd.prog 6 [.agg (p.aP.flatMap eV ++ (p.aCorners.map eI ++ (p.aNormals.flatMap eV ++ [.int .i64 p.Skin]))), .agg [.str s.Name, .int .i64 s.Mat, .int .i64 s.Levels, .int .i64 s.Unit, .int .i64 s.Tex, .int .i64 s.Height], .sl texs.length (texs.flatMap eTex)] (.bool true) := by
 intro H0
 refine ACalls.of_body' (n := 123) rfl rfl rfl rfl ?_
 have m0 := Mono.refl H0
 refine AWP.seq ?_
 refine AWP.region (l := [0, 1, 2]) rfl ?_
 refine AOps.cons rfl rfl (AOp.box (.agg (p.aP.flatMap eV ++ (p.aCorners.map eI ++ (p.aNormals.flatMap eV ++ [.int .i64 p.Skin])))) rfl rfl rfl ?_)
 intro i1 H2 n3 h4 k5
 have z6 := Mono.free m0 n3
 have m7 := Mono.new m0 n3 k5
 refine AOps.cons rfl rfl (AOp.box (.agg [.str s.Name, .int .i64 s.Mat, .int .i64 s.Levels, .int .i64 s.Unit, .int .i64 s.Tex, .int .i64 s.Height]) rfl rfl rfl ?_)
 intro i8 H9 n10 h11 k12
 have e13 := ne_new h4 n10
 have z14 := Mono.free m7 n10
 have h15 := keep k12 (ne_new h4 n10) h4
 have m16 := Mono.new m7 n10 k12
 refine AOps.cons rfl rfl (AOp.assign (.bool false) rfl rfl ?_)
 refine AOps.nil ?_
 change AWP _ _ _ _ _ _
 refine AWP.seq ?_
 refine AWP.seq ?_
 refine AWP.frzP 3 h15 z6 rfl m16 fun H17 m18 k19 => ?_
 have h20 := (k19 _ (Ne.symm e13)).trans h11
 refine AWP.frzP 4 h20 z14 rfl m18 fun H21 m22 k23 => ?_
 refine AWP.region (l := [0, 1]) rfl ?_
 refine AOps.cons rfl rfl (AOp.pcall («as» := []) rfl rfl (rfl) tf_9 (c_alive) ?_)
 intro H24 m25
 have m26 := m22.trans m25
 refine AOps.cons rfl rfl (AOp.not rfl rfl ?_)
 refine AOps.nil ?_
 change AWP _ _ _ _ _ _
 refine AWP.condF rfl rfl ?_
 refine AWP.skip ?_
 change AWP _ _ _ _ _ _
 refine AWP.seq ?_
 refine AWP.seq ?_
 refine AWP.region (l := [0, 1]) rfl ?_
 refine AOps.cons rfl rfl (AOp.move (.sl texs.length (texs.flatMap eTex)) rfl rfl ?_)
 refine AOps.cons rfl rfl (AOp.pcall («as» := [.sl texs.length (texs.flatMap eTex)]) rfl rfl (rfl) tf_10 (c_long texs (by first | assumption | omega) (by assumption)) ?_)
 intro H27 m28
 have m29 := m26.trans m28
 refine AOps.nil ?_
 change AWP _ _ _ _ _ _
 rcases Bool.eq_false_or_eq_true (longS texs) with b30 | b30
 ·
  refine AWP.condT rfl b30 ?_
  refine AWP.seq ?_
  refine AWP.region (l := [0]) rfl ?_
  refine AOps.cons rfl rfl (AOp.assign (.bool true) rfl rfl ?_)
  refine AOps.nil ?_
  change AWP _ _ _ _ _ _
  refine AWP.ret ?_
  refine ⟨_, _, Ghost.refl, .inr rfl, _, Res.one rfl rfl, ?_, m29⟩
  exact rfl
 ·
  refine AWP.condF rfl b30 ?_
  refine AWP.skip ?_
  change AWP _ _ _ _ _ _
  refine AWP.seq ?_
  refine AWP.seq ?_
  refine AWP.region (l := [0]) rfl ?_
  refine AOps.cons rfl rfl (AOp.assign (.int .i64 0) rfl rfl ?_)
  refine AOps.nil ?_
  change AWP _ _ _ _ _ _
  refine AWP.block ?_
  refine AWP.unroll 20 ?_
  refine UN.step ?_
  refine AWP.seq ?_
  refine AWP.seq ?_
  refine AWP.region (l := [0, 1]) rfl ?_
  refine AOps.cons rfl rfl (AOp.move (.int .i64 0) rfl rfl ?_)
  refine AOps.cons rfl rfl (AOp.bin (.bool (decide (0 < 4))) rfl rfl rfl rfl ?_)
  refine AOps.nil ?_
  change AWP _ _ _ _ _ _
  refine AWP.condT rfl (decide_eq_true (by decide)) ?_
  refine AWP.skip ?_
  change AWP _ _ _ _ _ _
  refine AWP.seq ?_
  refine AWP.block ?_
  refine AWP.seq ?_
  refine AWP.region (l := [0]) rfl ?_
  refine AOps.cons rfl rfl (AOp.assign (.int .i64 0) rfl rfl ?_)
  refine AOps.nil ?_
  change AWP _ _ _ _ _ _
  refine AWP.block ?_
  refine AWP.unroll 20 ?_
  refine UN.step ?_
  refine AWP.seq ?_
  refine AWP.seq ?_
  refine AWP.region (l := [0, 1, 2]) rfl ?_
  refine AOps.cons rfl rfl (AOp.move (.int .i64 0) rfl rfl ?_)
  refine AOps.cons rfl rfl (AOp.move (.int .i64 0) rfl rfl ?_)
  refine AOps.cons rfl rfl (AOp.bin (.bool (decide (0 < 0))) rfl rfl rfl rfl ?_)
  refine AOps.nil ?_
  change AWP _ _ _ _ _ _
  refine AWP.condF rfl (decide_eq_false (by decide)) ?_
  refine AWP.exit ?_
  change AWP _ _ _ _ _ _
  refine AWP.region (l := [0, 1, 2]) rfl ?_
  refine AOps.cons rfl rfl (AOp.move (.int .i64 0) rfl rfl ?_)
  refine AOps.cons rfl rfl (AOp.bin (.int .i64 1) rfl rfl rfl (iadd (by omega)) ?_)
  refine AOps.cons rfl rfl (AOp.assign (.int .i64 1) rfl rfl ?_)
  refine AOps.nil ?_
  refine UN.step ?_
  refine AWP.seq ?_
  refine AWP.seq ?_
  refine AWP.region (l := [0, 1]) rfl ?_
  refine AOps.cons rfl rfl (AOp.move (.int .i64 1) rfl rfl ?_)
  refine AOps.cons rfl rfl (AOp.bin (.bool (decide (1 < 4))) rfl rfl rfl rfl ?_)
  refine AOps.nil ?_
  change AWP _ _ _ _ _ _
  refine AWP.condT rfl (decide_eq_true (by decide)) ?_
  refine AWP.skip ?_
  change AWP _ _ _ _ _ _
  refine AWP.seq ?_
  refine AWP.block ?_
  refine AWP.seq ?_
  refine AWP.region (l := [0]) rfl ?_
  refine AOps.cons rfl rfl (AOp.assign (.int .i64 0) rfl rfl ?_)
  refine AOps.nil ?_
  change AWP _ _ _ _ _ _
  refine AWP.block ?_
  refine AWP.unroll 20 ?_
  refine UN.step ?_
  refine AWP.seq ?_
  refine AWP.seq ?_
  refine AWP.region (l := [0, 1, 2]) rfl ?_
  refine AOps.cons rfl rfl (AOp.move (.int .i64 0) rfl rfl ?_)
  refine AOps.cons rfl rfl (AOp.move (.int .i64 1) rfl rfl ?_)
  refine AOps.cons rfl rfl (AOp.bin (.bool (decide (0 < 1))) rfl rfl rfl rfl ?_)
  refine AOps.nil ?_
  change AWP _ _ _ _ _ _
  refine AWP.condT rfl (decide_eq_true (by decide)) ?_
  refine AWP.skip ?_
  change AWP _ _ _ _ _ _
  refine AWP.seq ?_
  refine AWP.block ?_
  refine AWP.seq ?_
  refine AWP.region_quiet mixed (by kernel_rfl) 9 [] rfl (by kernel_rfl) (Mono H27) (Mono.refl _) ?_
  refine QE.op rfl rfl (.inl ⟨rfl, fun f' H' hf hM => AOp.move (.int .i64 1) rfl ((hf 7 rfl).trans rfl) ⟨rfl, hM⟩⟩) ?_
  refine QE.op rfl rfl (.inl ⟨rfl, fun f' H' hf hM => AOp.fieldAddrF rfl ((hf 3 rfl).trans rfl) fl_28_1 ⟨rfl, hM⟩⟩) ?_
  refine QE.op rfl rfl (.inl ⟨rfl, fun f' H' hf hM => AOp.indexAddrFA rfl ((hf 31 rfl).trans rfl) ((hf 30 rfl).trans rfl) ar_25 (by omega) (by omega) ⟨rfl, hM⟩⟩) ?_
  refine QE.op rfl rfl (.inl ⟨rfl, fun f' H' hf hM => AOp.loadF (.int .i64 (at_ p.aCorners 1)) rfl ((hf 32 rfl).trans rfl) ty_3 (ld_skip (lenM eV_len p.lP rfl) (by omega) (ld_fst (fun h => by first | rfl | cases h) (ld1 (i := 1) (by omega) (by have := p.lCorners; omega)))) ⟨rfl, hM⟩⟩) ?_
  refine QE.op rfl rfl (.inl ⟨rfl, fun f' H' hf hM => AOp.move (.int .i64 0) rfl ((hf 8 rfl).trans rfl) ⟨rfl, hM⟩⟩) ?_
  refine QE.op rfl rfl (.inl ⟨rfl, fun f' H' hf hM => AOp.fieldAddrF rfl ((hf 3 rfl).trans rfl) fl_28_1 ⟨rfl, hM⟩⟩) ?_
  refine QE.op rfl rfl (.inl ⟨rfl, fun f' H' hf hM => AOp.indexAddrFA rfl ((hf 35 rfl).trans rfl) ((hf 34 rfl).trans rfl) ar_25 (by omega) (by omega) ⟨rfl, hM⟩⟩) ?_
  refine QE.op rfl rfl (.inl ⟨rfl, fun f' H' hf hM => AOp.loadF (.int .i64 (at_ p.aCorners 0)) rfl ((hf 36 rfl).trans rfl) ty_3 (ld_skip (lenM eV_len p.lP rfl) (by omega) (ld_fst (fun h => by first | rfl | cases h) (ld1 (i := 0) (by omega) (by have := p.lCorners; omega)))) ⟨rfl, hM⟩⟩) ?_
  refine QE.op rfl rfl (.inl ⟨rfl, fun f' H' hf hM => AOp.bin (.bool (decide (at_ p.aCorners 1 = at_ p.aCorners 0))) rfl ((hf 33 rfl).trans rfl) ((hf 37 rfl).trans rfl) ieq ⟨rfl, hM⟩⟩) ?_
  refine QE.done fun H31 m32 => ?_
  have m33 := m29.trans m32
  refine AOps.nil ?_
  change AWP _ _ _ _ _ _
  by_cases b34 : at_ p.aCorners 1 = at_ p.aCorners 0
  ·
   refine AWP.condT rfl (decide_eq_true b34) ?_
   refine AWP.seq ?_
   refine AWP.region (l := [0]) rfl ?_
   refine AOps.cons rfl rfl (AOp.assign (.bool true) rfl rfl ?_)
   refine AOps.nil ?_
   change AWP _ _ _ _ _ _
   refine AWP.ret ?_
   refine ⟨_, _, Ghost.refl, .inr rfl, _, Res.one rfl rfl, ?_, m33⟩
   exact rfl
  ·
   refine AWP.condF rfl (decide_eq_false b34) ?_
   refine AWP.skip ?_
   change AWP _ _ _ _ _ _
   refine AWP.region (l := [0, 1, 2]) rfl ?_
   refine AOps.cons rfl rfl (AOp.move (.int .i64 0) rfl rfl ?_)
   refine AOps.cons rfl rfl (AOp.bin (.int .i64 1) rfl rfl rfl (iadd (by omega)) ?_)
   refine AOps.cons rfl rfl (AOp.assign (.int .i64 1) rfl rfl ?_)
   refine AOps.nil ?_
   refine UN.step ?_
   refine AWP.seq ?_
   refine AWP.seq ?_
   refine AWP.region (l := [0, 1, 2]) rfl ?_
   refine AOps.cons rfl rfl (AOp.move (.int .i64 1) rfl rfl ?_)
   refine AOps.cons rfl rfl (AOp.move (.int .i64 1) rfl rfl ?_)
   refine AOps.cons rfl rfl (AOp.bin (.bool (decide (1 < 1))) rfl rfl rfl rfl ?_)
   refine AOps.nil ?_
   change AWP _ _ _ _ _ _
   refine AWP.condF rfl (decide_eq_false (by decide)) ?_
   refine AWP.exit ?_
   change AWP _ _ _ _ _ _
   refine AWP.region (l := [0, 1, 2]) rfl ?_
   refine AOps.cons rfl rfl (AOp.move (.int .i64 1) rfl rfl ?_)
   refine AOps.cons rfl rfl (AOp.bin (.int .i64 2) rfl rfl rfl (iadd (by omega)) ?_)
   refine AOps.cons rfl rfl (AOp.assign (.int .i64 2) rfl rfl ?_)
   refine AOps.nil ?_
   refine UN.step ?_
   refine AWP.seq ?_
   refine AWP.seq ?_
   refine AWP.region (l := [0, 1]) rfl ?_
   refine AOps.cons rfl rfl (AOp.move (.int .i64 2) rfl rfl ?_)
   refine AOps.cons rfl rfl (AOp.bin (.bool (decide (2 < 4))) rfl rfl rfl rfl ?_)
   refine AOps.nil ?_
   change AWP _ _ _ _ _ _
   refine AWP.condT rfl (decide_eq_true (by decide)) ?_
   refine AWP.skip ?_
   change AWP _ _ _ _ _ _
   refine AWP.seq ?_
   refine AWP.block ?_
   refine AWP.seq ?_
   refine AWP.region (l := [0]) rfl ?_
   refine AOps.cons rfl rfl (AOp.assign (.int .i64 0) rfl rfl ?_)
   refine AOps.nil ?_
   change AWP _ _ _ _ _ _
   refine AWP.block ?_
   refine AWP.unroll 20 ?_
   refine UN.step ?_
   refine AWP.seq ?_
   refine AWP.seq ?_
   refine AWP.region (l := [0, 1, 2]) rfl ?_
   refine AOps.cons rfl rfl (AOp.move (.int .i64 0) rfl rfl ?_)
   refine AOps.cons rfl rfl (AOp.move (.int .i64 2) rfl rfl ?_)
   refine AOps.cons rfl rfl (AOp.bin (.bool (decide (0 < 2))) rfl rfl rfl rfl ?_)
   refine AOps.nil ?_
   change AWP _ _ _ _ _ _
   refine AWP.condT rfl (decide_eq_true (by decide)) ?_
   refine AWP.skip ?_
   change AWP _ _ _ _ _ _
   refine AWP.seq ?_
   refine AWP.block ?_
   refine AWP.seq ?_
   refine AWP.region_quiet mixed (by kernel_rfl) 9 [] rfl (by kernel_rfl) (Mono H31) (Mono.refl _) ?_
   refine QE.op rfl rfl (.inl ⟨rfl, fun f' H' hf hM => AOp.move (.int .i64 2) rfl ((hf 7 rfl).trans rfl) ⟨rfl, hM⟩⟩) ?_
   refine QE.op rfl rfl (.inl ⟨rfl, fun f' H' hf hM => AOp.fieldAddrF rfl ((hf 3 rfl).trans rfl) fl_28_1 ⟨rfl, hM⟩⟩) ?_
   refine QE.op rfl rfl (.inl ⟨rfl, fun f' H' hf hM => AOp.indexAddrFA rfl ((hf 31 rfl).trans rfl) ((hf 30 rfl).trans rfl) ar_25 (by omega) (by omega) ⟨rfl, hM⟩⟩) ?_
   refine QE.op rfl rfl (.inl ⟨rfl, fun f' H' hf hM => AOp.loadF (.int .i64 (at_ p.aCorners 2)) rfl ((hf 32 rfl).trans rfl) ty_3 (ld_skip (lenM eV_len p.lP rfl) (by omega) (ld_fst (fun h => by first | rfl | cases h) (ld1 (i := 2) (by omega) (by have := p.lCorners; omega)))) ⟨rfl, hM⟩⟩) ?_
   refine QE.op rfl rfl (.inl ⟨rfl, fun f' H' hf hM => AOp.move (.int .i64 0) rfl ((hf 8 rfl).trans rfl) ⟨rfl, hM⟩⟩) ?_
   refine QE.op rfl rfl (.inl ⟨rfl, fun f' H' hf hM => AOp.fieldAddrF rfl ((hf 3 rfl).trans rfl) fl_28_1 ⟨rfl, hM⟩⟩) ?_
   refine QE.op rfl rfl (.inl ⟨rfl, fun f' H' hf hM => AOp.indexAddrFA rfl ((hf 35 rfl).trans rfl) ((hf 34 rfl).trans rfl) ar_25 (by omega) (by omega) ⟨rfl, hM⟩⟩) ?_
   refine QE.op rfl rfl (.inl ⟨rfl, fun f' H' hf hM => AOp.loadF (.int .i64 (at_ p.aCorners 0)) rfl ((hf 36 rfl).trans rfl) ty_3 (ld_skip (lenM eV_len p.lP rfl) (by omega) (ld_fst (fun h => by first | rfl | cases h) (ld1 (i := 0) (by omega) (by have := p.lCorners; omega)))) ⟨rfl, hM⟩⟩) ?_
   refine QE.op rfl rfl (.inl ⟨rfl, fun f' H' hf hM => AOp.bin (.bool (decide (at_ p.aCorners 2 = at_ p.aCorners 0))) rfl ((hf 33 rfl).trans rfl) ((hf 37 rfl).trans rfl) ieq ⟨rfl, hM⟩⟩) ?_
   refine QE.done fun H35 m36 => ?_
   have m37 := m33.trans m36
   refine AOps.nil ?_
   change AWP _ _ _ _ _ _
   by_cases b38 : at_ p.aCorners 2 = at_ p.aCorners 0
   ·
    refine AWP.condT rfl (decide_eq_true b38) ?_
    refine AWP.seq ?_
    refine AWP.region (l := [0]) rfl ?_
    refine AOps.cons rfl rfl (AOp.assign (.bool true) rfl rfl ?_)
    refine AOps.nil ?_
    change AWP _ _ _ _ _ _
    refine AWP.ret ?_
    refine ⟨_, _, Ghost.refl, .inr rfl, _, Res.one rfl rfl, ?_, m37⟩
    exact rfl
   ·
    refine AWP.condF rfl (decide_eq_false b38) ?_
    refine AWP.skip ?_
    change AWP _ _ _ _ _ _
    refine AWP.region (l := [0, 1, 2]) rfl ?_
    refine AOps.cons rfl rfl (AOp.move (.int .i64 0) rfl rfl ?_)
    refine AOps.cons rfl rfl (AOp.bin (.int .i64 1) rfl rfl rfl (iadd (by omega)) ?_)
    refine AOps.cons rfl rfl (AOp.assign (.int .i64 1) rfl rfl ?_)
    refine AOps.nil ?_
    refine UN.step ?_
    refine AWP.seq ?_
    refine AWP.seq ?_
    refine AWP.region (l := [0, 1, 2]) rfl ?_
    refine AOps.cons rfl rfl (AOp.move (.int .i64 1) rfl rfl ?_)
    refine AOps.cons rfl rfl (AOp.move (.int .i64 2) rfl rfl ?_)
    refine AOps.cons rfl rfl (AOp.bin (.bool (decide (1 < 2))) rfl rfl rfl rfl ?_)
    refine AOps.nil ?_
    change AWP _ _ _ _ _ _
    refine AWP.condT rfl (decide_eq_true (by decide)) ?_
    refine AWP.skip ?_
    change AWP _ _ _ _ _ _
    refine AWP.seq ?_
    refine AWP.block ?_
    refine AWP.seq ?_
    refine AWP.region_quiet mixed (by kernel_rfl) 9 [] rfl (by kernel_rfl) (Mono H35) (Mono.refl _) ?_
    refine QE.op rfl rfl (.inl ⟨rfl, fun f' H' hf hM => AOp.move (.int .i64 2) rfl ((hf 7 rfl).trans rfl) ⟨rfl, hM⟩⟩) ?_
    refine QE.op rfl rfl (.inl ⟨rfl, fun f' H' hf hM => AOp.fieldAddrF rfl ((hf 3 rfl).trans rfl) fl_28_1 ⟨rfl, hM⟩⟩) ?_
    refine QE.op rfl rfl (.inl ⟨rfl, fun f' H' hf hM => AOp.indexAddrFA rfl ((hf 31 rfl).trans rfl) ((hf 30 rfl).trans rfl) ar_25 (by omega) (by omega) ⟨rfl, hM⟩⟩) ?_
    refine QE.op rfl rfl (.inl ⟨rfl, fun f' H' hf hM => AOp.loadF (.int .i64 (at_ p.aCorners 2)) rfl ((hf 32 rfl).trans rfl) ty_3 (ld_skip (lenM eV_len p.lP rfl) (by omega) (ld_fst (fun h => by first | rfl | cases h) (ld1 (i := 2) (by omega) (by have := p.lCorners; omega)))) ⟨rfl, hM⟩⟩) ?_
    refine QE.op rfl rfl (.inl ⟨rfl, fun f' H' hf hM => AOp.move (.int .i64 1) rfl ((hf 8 rfl).trans rfl) ⟨rfl, hM⟩⟩) ?_
    refine QE.op rfl rfl (.inl ⟨rfl, fun f' H' hf hM => AOp.fieldAddrF rfl ((hf 3 rfl).trans rfl) fl_28_1 ⟨rfl, hM⟩⟩) ?_
    refine QE.op rfl rfl (.inl ⟨rfl, fun f' H' hf hM => AOp.indexAddrFA rfl ((hf 35 rfl).trans rfl) ((hf 34 rfl).trans rfl) ar_25 (by omega) (by omega) ⟨rfl, hM⟩⟩) ?_
    refine QE.op rfl rfl (.inl ⟨rfl, fun f' H' hf hM => AOp.loadF (.int .i64 (at_ p.aCorners 1)) rfl ((hf 36 rfl).trans rfl) ty_3 (ld_skip (lenM eV_len p.lP rfl) (by omega) (ld_fst (fun h => by first | rfl | cases h) (ld1 (i := 1) (by omega) (by have := p.lCorners; omega)))) ⟨rfl, hM⟩⟩) ?_
    refine QE.op rfl rfl (.inl ⟨rfl, fun f' H' hf hM => AOp.bin (.bool (decide (at_ p.aCorners 2 = at_ p.aCorners 1))) rfl ((hf 33 rfl).trans rfl) ((hf 37 rfl).trans rfl) ieq ⟨rfl, hM⟩⟩) ?_
    refine QE.done fun H39 m40 => ?_
    have m41 := m37.trans m40
    refine AOps.nil ?_
    change AWP _ _ _ _ _ _
    by_cases b42 : at_ p.aCorners 2 = at_ p.aCorners 1
    ·
     refine AWP.condT rfl (decide_eq_true b42) ?_
     refine AWP.seq ?_
     refine AWP.region (l := [0]) rfl ?_
     refine AOps.cons rfl rfl (AOp.assign (.bool true) rfl rfl ?_)
     refine AOps.nil ?_
     change AWP _ _ _ _ _ _
     refine AWP.ret ?_
     refine ⟨_, _, Ghost.refl, .inr rfl, _, Res.one rfl rfl, ?_, m41⟩
     exact rfl
    ·
     refine AWP.condF rfl (decide_eq_false b42) ?_
     refine AWP.skip ?_
     change AWP _ _ _ _ _ _
     refine AWP.region (l := [0, 1, 2]) rfl ?_
     refine AOps.cons rfl rfl (AOp.move (.int .i64 1) rfl rfl ?_)
     refine AOps.cons rfl rfl (AOp.bin (.int .i64 2) rfl rfl rfl (iadd (by omega)) ?_)
     refine AOps.cons rfl rfl (AOp.assign (.int .i64 2) rfl rfl ?_)
     refine AOps.nil ?_
     refine UN.step ?_
     refine AWP.seq ?_
     refine AWP.seq ?_
     refine AWP.region (l := [0, 1, 2]) rfl ?_
     refine AOps.cons rfl rfl (AOp.move (.int .i64 2) rfl rfl ?_)
     refine AOps.cons rfl rfl (AOp.move (.int .i64 2) rfl rfl ?_)
     refine AOps.cons rfl rfl (AOp.bin (.bool (decide (2 < 2))) rfl rfl rfl rfl ?_)
     refine AOps.nil ?_
     change AWP _ _ _ _ _ _
     refine AWP.condF rfl (decide_eq_false (by decide)) ?_
     refine AWP.exit ?_
     change AWP _ _ _ _ _ _
     refine AWP.region (l := [0, 1, 2]) rfl ?_
     refine AOps.cons rfl rfl (AOp.move (.int .i64 2) rfl rfl ?_)
     refine AOps.cons rfl rfl (AOp.bin (.int .i64 3) rfl rfl rfl (iadd (by omega)) ?_)
     refine AOps.cons rfl rfl (AOp.assign (.int .i64 3) rfl rfl ?_)
     refine AOps.nil ?_
     refine UN.step ?_
     refine AWP.seq ?_
     refine AWP.seq ?_
     refine AWP.region (l := [0, 1]) rfl ?_
     refine AOps.cons rfl rfl (AOp.move (.int .i64 3) rfl rfl ?_)
     refine AOps.cons rfl rfl (AOp.bin (.bool (decide (3 < 4))) rfl rfl rfl rfl ?_)
     refine AOps.nil ?_
     change AWP _ _ _ _ _ _
     refine AWP.condT rfl (decide_eq_true (by decide)) ?_
     refine AWP.skip ?_
     change AWP _ _ _ _ _ _
     refine AWP.seq ?_
     refine AWP.block ?_
     refine AWP.seq ?_
     refine AWP.region (l := [0]) rfl ?_
     refine AOps.cons rfl rfl (AOp.assign (.int .i64 0) rfl rfl ?_)
     refine AOps.nil ?_
     change AWP _ _ _ _ _ _
     refine AWP.block ?_
     refine AWP.unroll 20 ?_
     refine UN.step ?_
     refine AWP.seq ?_
     refine AWP.seq ?_
     refine AWP.region (l := [0, 1, 2]) rfl ?_
     refine AOps.cons rfl rfl (AOp.move (.int .i64 0) rfl rfl ?_)
     refine AOps.cons rfl rfl (AOp.move (.int .i64 3) rfl rfl ?_)
     refine AOps.cons rfl rfl (AOp.bin (.bool (decide (0 < 3))) rfl rfl rfl rfl ?_)
     refine AOps.nil ?_
     change AWP _ _ _ _ _ _
     refine AWP.condT rfl (decide_eq_true (by decide)) ?_
     refine AWP.skip ?_
     change AWP _ _ _ _ _ _
     refine AWP.seq ?_
     refine AWP.block ?_
     refine AWP.seq ?_
     refine AWP.region_quiet mixed (by kernel_rfl) 9 [] rfl (by kernel_rfl) (Mono H39) (Mono.refl _) ?_
     refine QE.op rfl rfl (.inl ⟨rfl, fun f' H' hf hM => AOp.move (.int .i64 3) rfl ((hf 7 rfl).trans rfl) ⟨rfl, hM⟩⟩) ?_
     refine QE.op rfl rfl (.inl ⟨rfl, fun f' H' hf hM => AOp.fieldAddrF rfl ((hf 3 rfl).trans rfl) fl_28_1 ⟨rfl, hM⟩⟩) ?_
     refine QE.op rfl rfl (.inl ⟨rfl, fun f' H' hf hM => AOp.indexAddrFA rfl ((hf 31 rfl).trans rfl) ((hf 30 rfl).trans rfl) ar_25 (by omega) (by omega) ⟨rfl, hM⟩⟩) ?_
     refine QE.op rfl rfl (.inl ⟨rfl, fun f' H' hf hM => AOp.loadF (.int .i64 (at_ p.aCorners 3)) rfl ((hf 32 rfl).trans rfl) ty_3 (ld_skip (lenM eV_len p.lP rfl) (by omega) (ld_fst (fun h => by first | rfl | cases h) (ld1 (i := 3) (by omega) (by have := p.lCorners; omega)))) ⟨rfl, hM⟩⟩) ?_
     refine QE.op rfl rfl (.inl ⟨rfl, fun f' H' hf hM => AOp.move (.int .i64 0) rfl ((hf 8 rfl).trans rfl) ⟨rfl, hM⟩⟩) ?_
     refine QE.op rfl rfl (.inl ⟨rfl, fun f' H' hf hM => AOp.fieldAddrF rfl ((hf 3 rfl).trans rfl) fl_28_1 ⟨rfl, hM⟩⟩) ?_
     refine QE.op rfl rfl (.inl ⟨rfl, fun f' H' hf hM => AOp.indexAddrFA rfl ((hf 35 rfl).trans rfl) ((hf 34 rfl).trans rfl) ar_25 (by omega) (by omega) ⟨rfl, hM⟩⟩) ?_
     refine QE.op rfl rfl (.inl ⟨rfl, fun f' H' hf hM => AOp.loadF (.int .i64 (at_ p.aCorners 0)) rfl ((hf 36 rfl).trans rfl) ty_3 (ld_skip (lenM eV_len p.lP rfl) (by omega) (ld_fst (fun h => by first | rfl | cases h) (ld1 (i := 0) (by omega) (by have := p.lCorners; omega)))) ⟨rfl, hM⟩⟩) ?_
     refine QE.op rfl rfl (.inl ⟨rfl, fun f' H' hf hM => AOp.bin (.bool (decide (at_ p.aCorners 3 = at_ p.aCorners 0))) rfl ((hf 33 rfl).trans rfl) ((hf 37 rfl).trans rfl) ieq ⟨rfl, hM⟩⟩) ?_
     refine QE.done fun H43 m44 => ?_
     have m45 := m41.trans m44
     refine AOps.nil ?_
     change AWP _ _ _ _ _ _
     by_cases b46 : at_ p.aCorners 3 = at_ p.aCorners 0
     ·
      refine AWP.condT rfl (decide_eq_true b46) ?_
      refine AWP.seq ?_
      refine AWP.region (l := [0]) rfl ?_
      refine AOps.cons rfl rfl (AOp.assign (.bool true) rfl rfl ?_)
      refine AOps.nil ?_
      change AWP _ _ _ _ _ _
      refine AWP.ret ?_
      refine ⟨_, _, Ghost.refl, .inr rfl, _, Res.one rfl rfl, ?_, m45⟩
      exact rfl
     ·
      refine AWP.condF rfl (decide_eq_false b46) ?_
      refine AWP.skip ?_
      change AWP _ _ _ _ _ _
      refine AWP.region (l := [0, 1, 2]) rfl ?_
      refine AOps.cons rfl rfl (AOp.move (.int .i64 0) rfl rfl ?_)
      refine AOps.cons rfl rfl (AOp.bin (.int .i64 1) rfl rfl rfl (iadd (by omega)) ?_)
      refine AOps.cons rfl rfl (AOp.assign (.int .i64 1) rfl rfl ?_)
      refine AOps.nil ?_
      refine UN.step ?_
      refine AWP.seq ?_
      refine AWP.seq ?_
      refine AWP.region (l := [0, 1, 2]) rfl ?_
      refine AOps.cons rfl rfl (AOp.move (.int .i64 1) rfl rfl ?_)
      refine AOps.cons rfl rfl (AOp.move (.int .i64 3) rfl rfl ?_)
      refine AOps.cons rfl rfl (AOp.bin (.bool (decide (1 < 3))) rfl rfl rfl rfl ?_)
      refine AOps.nil ?_
      change AWP _ _ _ _ _ _
      refine AWP.condT rfl (decide_eq_true (by decide)) ?_
      refine AWP.skip ?_
      change AWP _ _ _ _ _ _
      refine AWP.seq ?_
      refine AWP.block ?_
      refine AWP.seq ?_
      refine AWP.region_quiet mixed (by kernel_rfl) 9 [] rfl (by kernel_rfl) (Mono H43) (Mono.refl _) ?_
      refine QE.op rfl rfl (.inl ⟨rfl, fun f' H' hf hM => AOp.move (.int .i64 3) rfl ((hf 7 rfl).trans rfl) ⟨rfl, hM⟩⟩) ?_
      refine QE.op rfl rfl (.inl ⟨rfl, fun f' H' hf hM => AOp.fieldAddrF rfl ((hf 3 rfl).trans rfl) fl_28_1 ⟨rfl, hM⟩⟩) ?_
      refine QE.op rfl rfl (.inl ⟨rfl, fun f' H' hf hM => AOp.indexAddrFA rfl ((hf 31 rfl).trans rfl) ((hf 30 rfl).trans rfl) ar_25 (by omega) (by omega) ⟨rfl, hM⟩⟩) ?_
      refine QE.op rfl rfl (.inl ⟨rfl, fun f' H' hf hM => AOp.loadF (.int .i64 (at_ p.aCorners 3)) rfl ((hf 32 rfl).trans rfl) ty_3 (ld_skip (lenM eV_len p.lP rfl) (by omega) (ld_fst (fun h => by first | rfl | cases h) (ld1 (i := 3) (by omega) (by have := p.lCorners; omega)))) ⟨rfl, hM⟩⟩) ?_
      refine QE.op rfl rfl (.inl ⟨rfl, fun f' H' hf hM => AOp.move (.int .i64 1) rfl ((hf 8 rfl).trans rfl) ⟨rfl, hM⟩⟩) ?_
      refine QE.op rfl rfl (.inl ⟨rfl, fun f' H' hf hM => AOp.fieldAddrF rfl ((hf 3 rfl).trans rfl) fl_28_1 ⟨rfl, hM⟩⟩) ?_
      refine QE.op rfl rfl (.inl ⟨rfl, fun f' H' hf hM => AOp.indexAddrFA rfl ((hf 35 rfl).trans rfl) ((hf 34 rfl).trans rfl) ar_25 (by omega) (by omega) ⟨rfl, hM⟩⟩) ?_
      refine QE.op rfl rfl (.inl ⟨rfl, fun f' H' hf hM => AOp.loadF (.int .i64 (at_ p.aCorners 1)) rfl ((hf 36 rfl).trans rfl) ty_3 (ld_skip (lenM eV_len p.lP rfl) (by omega) (ld_fst (fun h => by first | rfl | cases h) (ld1 (i := 1) (by omega) (by have := p.lCorners; omega)))) ⟨rfl, hM⟩⟩) ?_
      refine QE.op rfl rfl (.inl ⟨rfl, fun f' H' hf hM => AOp.bin (.bool (decide (at_ p.aCorners 3 = at_ p.aCorners 1))) rfl ((hf 33 rfl).trans rfl) ((hf 37 rfl).trans rfl) ieq ⟨rfl, hM⟩⟩) ?_
      refine QE.done fun H47 m48 => ?_
      have m49 := m45.trans m48
      refine AOps.nil ?_
      change AWP _ _ _ _ _ _
      by_cases b50 : at_ p.aCorners 3 = at_ p.aCorners 1
      ·
       refine AWP.condT rfl (decide_eq_true b50) ?_
       refine AWP.seq ?_
       refine AWP.region (l := [0]) rfl ?_
       refine AOps.cons rfl rfl (AOp.assign (.bool true) rfl rfl ?_)
       refine AOps.nil ?_
       change AWP _ _ _ _ _ _
       refine AWP.ret ?_
       refine ⟨_, _, Ghost.refl, .inr rfl, _, Res.one rfl rfl, ?_, m49⟩
       exact rfl
      ·
       refine AWP.condF rfl (decide_eq_false b50) ?_
       refine AWP.skip ?_
       change AWP _ _ _ _ _ _
       refine AWP.region (l := [0, 1, 2]) rfl ?_
       refine AOps.cons rfl rfl (AOp.move (.int .i64 1) rfl rfl ?_)
       refine AOps.cons rfl rfl (AOp.bin (.int .i64 2) rfl rfl rfl (iadd (by omega)) ?_)
       refine AOps.cons rfl rfl (AOp.assign (.int .i64 2) rfl rfl ?_)
       refine AOps.nil ?_
       refine UN.step ?_
       refine AWP.seq ?_
       refine AWP.seq ?_
       refine AWP.region (l := [0, 1, 2]) rfl ?_
       refine AOps.cons rfl rfl (AOp.move (.int .i64 2) rfl rfl ?_)
       refine AOps.cons rfl rfl (AOp.move (.int .i64 3) rfl rfl ?_)
       refine AOps.cons rfl rfl (AOp.bin (.bool (decide (2 < 3))) rfl rfl rfl rfl ?_)
       refine AOps.nil ?_
       change AWP _ _ _ _ _ _
       refine AWP.condT rfl (decide_eq_true (by decide)) ?_
       refine AWP.skip ?_
       change AWP _ _ _ _ _ _
       refine AWP.seq ?_
       refine AWP.block ?_
       refine AWP.seq ?_
       refine AWP.region_quiet mixed (by kernel_rfl) 9 [] rfl (by kernel_rfl) (Mono H47) (Mono.refl _) ?_
       refine QE.op rfl rfl (.inl ⟨rfl, fun f' H' hf hM => AOp.move (.int .i64 3) rfl ((hf 7 rfl).trans rfl) ⟨rfl, hM⟩⟩) ?_
       refine QE.op rfl rfl (.inl ⟨rfl, fun f' H' hf hM => AOp.fieldAddrF rfl ((hf 3 rfl).trans rfl) fl_28_1 ⟨rfl, hM⟩⟩) ?_
       refine QE.op rfl rfl (.inl ⟨rfl, fun f' H' hf hM => AOp.indexAddrFA rfl ((hf 31 rfl).trans rfl) ((hf 30 rfl).trans rfl) ar_25 (by omega) (by omega) ⟨rfl, hM⟩⟩) ?_
       refine QE.op rfl rfl (.inl ⟨rfl, fun f' H' hf hM => AOp.loadF (.int .i64 (at_ p.aCorners 3)) rfl ((hf 32 rfl).trans rfl) ty_3 (ld_skip (lenM eV_len p.lP rfl) (by omega) (ld_fst (fun h => by first | rfl | cases h) (ld1 (i := 3) (by omega) (by have := p.lCorners; omega)))) ⟨rfl, hM⟩⟩) ?_
       refine QE.op rfl rfl (.inl ⟨rfl, fun f' H' hf hM => AOp.move (.int .i64 2) rfl ((hf 8 rfl).trans rfl) ⟨rfl, hM⟩⟩) ?_
       refine QE.op rfl rfl (.inl ⟨rfl, fun f' H' hf hM => AOp.fieldAddrF rfl ((hf 3 rfl).trans rfl) fl_28_1 ⟨rfl, hM⟩⟩) ?_
       refine QE.op rfl rfl (.inl ⟨rfl, fun f' H' hf hM => AOp.indexAddrFA rfl ((hf 35 rfl).trans rfl) ((hf 34 rfl).trans rfl) ar_25 (by omega) (by omega) ⟨rfl, hM⟩⟩) ?_
       refine QE.op rfl rfl (.inl ⟨rfl, fun f' H' hf hM => AOp.loadF (.int .i64 (at_ p.aCorners 2)) rfl ((hf 36 rfl).trans rfl) ty_3 (ld_skip (lenM eV_len p.lP rfl) (by omega) (ld_fst (fun h => by first | rfl | cases h) (ld1 (i := 2) (by omega) (by have := p.lCorners; omega)))) ⟨rfl, hM⟩⟩) ?_
       refine QE.op rfl rfl (.inl ⟨rfl, fun f' H' hf hM => AOp.bin (.bool (decide (at_ p.aCorners 3 = at_ p.aCorners 2))) rfl ((hf 33 rfl).trans rfl) ((hf 37 rfl).trans rfl) ieq ⟨rfl, hM⟩⟩) ?_
       refine QE.done fun H51 m52 => ?_
       have m53 := m49.trans m52
       refine AOps.nil ?_
       change AWP _ _ _ _ _ _
       by_cases b54 : at_ p.aCorners 3 = at_ p.aCorners 2
       ·
        refine AWP.condT rfl (decide_eq_true b54) ?_
        refine AWP.seq ?_
        refine AWP.region (l := [0]) rfl ?_
        refine AOps.cons rfl rfl (AOp.assign (.bool true) rfl rfl ?_)
        refine AOps.nil ?_
        change AWP _ _ _ _ _ _
        refine AWP.ret ?_
        refine ⟨_, _, Ghost.refl, .inr rfl, _, Res.one rfl rfl, ?_, m53⟩
        exact rfl
       ·
        refine AWP.condF rfl (decide_eq_false b54) ?_
        refine AWP.skip ?_
        change AWP _ _ _ _ _ _
        refine AWP.region (l := [0, 1, 2]) rfl ?_
        refine AOps.cons rfl rfl (AOp.move (.int .i64 2) rfl rfl ?_)
        refine AOps.cons rfl rfl (AOp.bin (.int .i64 3) rfl rfl rfl (iadd (by omega)) ?_)
        refine AOps.cons rfl rfl (AOp.assign (.int .i64 3) rfl rfl ?_)
        refine AOps.nil ?_
        refine UN.step ?_
        refine AWP.seq ?_
        refine AWP.seq ?_
        refine AWP.region (l := [0, 1, 2]) rfl ?_
        refine AOps.cons rfl rfl (AOp.move (.int .i64 3) rfl rfl ?_)
        refine AOps.cons rfl rfl (AOp.move (.int .i64 3) rfl rfl ?_)
        refine AOps.cons rfl rfl (AOp.bin (.bool (decide (3 < 3))) rfl rfl rfl rfl ?_)
        refine AOps.nil ?_
        change AWP _ _ _ _ _ _
        refine AWP.condF rfl (decide_eq_false (by decide)) ?_
        refine AWP.exit ?_
        change AWP _ _ _ _ _ _
        refine AWP.region (l := [0, 1, 2]) rfl ?_
        refine AOps.cons rfl rfl (AOp.move (.int .i64 3) rfl rfl ?_)
        refine AOps.cons rfl rfl (AOp.bin (.int .i64 4) rfl rfl rfl (iadd (by omega)) ?_)
        refine AOps.cons rfl rfl (AOp.assign (.int .i64 4) rfl rfl ?_)
        refine AOps.nil ?_
        refine UN.step ?_
        refine AWP.seq ?_
        refine AWP.seq ?_
        refine AWP.region (l := [0, 1]) rfl ?_
        refine AOps.cons rfl rfl (AOp.move (.int .i64 4) rfl rfl ?_)
        refine AOps.cons rfl rfl (AOp.bin (.bool (decide (4 < 4))) rfl rfl rfl rfl ?_)
        refine AOps.nil ?_
        change AWP _ _ _ _ _ _
        refine AWP.condF rfl (decide_eq_false (by decide)) ?_
        refine AWP.exit ?_
        change AWP _ _ _ _ _ _
        refine AWP.seq ?_
        have hla := dice_len p 0 0 s texs
        have hd := corners_ne b34 b38 b42 b46 b50 b54
        refine AWP.region (l := [0, 1, 2, 3, 4, 5, 6, 7, 8, 9]) rfl ?_
        refine AOps.cons rfl rfl (AOp.loadF (.agg (p.aP.flatMap eV ++ (p.aCorners.map eI ++ (p.aNormals.flatMap eV ++ [.int .i64 p.Skin])))) rfl rfl ty_28 (ld_all (len_app (m := 48) (n := 17) (k := 65) (lenM eV_len p.lP rfl) (len_app (m := 4) (n := 13) (k := 17) (len1 p.lCorners) (len_app (m := 12) (n := 1) (k := 13) (lenM eV_len p.lNormals rfl) rfl rfl) rfl) rfl)) ?_)
        refine AOps.cons rfl rfl (AOp.loadF (.agg [.str s.Name, .int .i64 s.Mat, .int .i64 s.Levels, .int .i64 s.Unit, .int .i64 s.Tex, .int .i64 s.Height]) rfl rfl ty_30 rfl ?_)
        refine AOps.cons rfl rfl (AOp.move (.sl texs.length (texs.flatMap eTex)) rfl rfl ?_)
        refine AOps.cons rfl rfl (AOp.pcall («as» := [.agg (p.aP.flatMap eV ++ (p.aCorners.map eI ++ (p.aNormals.flatMap eV ++ [.int .i64 p.Skin]))), .int .i64 0, .int .i64 0, .agg [.str s.Name, .int .i64 s.Mat, .int .i64 s.Levels, .int .i64 s.Unit, .int .i64 s.Tex, .int .i64 s.Height], .sl texs.length (texs.flatMap eTex)]) rfl rfl (rfl) tf_11 (c_mesh_Dice p 0 0 s texs (by first | assumption | simp) (by first | assumption | simp)) ?_)
        intro H55 m56
        have m57 := m53.trans m56
        refine AOps.cons rfl rfl (AOp.move (.tup [.agg [.sl (((diceR p 0 0 s texs).1).Verts).length ((((diceR p 0 0 s texs).1).Verts).flatMap eV), .sl (((diceR p 0 0 s texs).1).Keys).length ((((diceR p 0 0 s texs).1).Keys).flatMap eKey), .sl (((diceR p 0 0 s texs).1).Tris).length ((((diceR p 0 0 s texs).1).Tris).flatMap eI3)], .int .i64 ((diceR p 0 0 s texs).2)]) rfl rfl ?_)
        refine AOps.cons rfl rfl (AOp.extract (.agg [.sl (((diceR p 0 0 s texs).1).Verts).length ((((diceR p 0 0 s texs).1).Verts).flatMap eV), .sl (((diceR p 0 0 s texs).1).Keys).length ((((diceR p 0 0 s texs).1).Keys).flatMap eKey), .sl (((diceR p 0 0 s texs).1).Tris).length ((((diceR p 0 0 s texs).1).Tris).flatMap eI3)]) rfl rfl rfl ?_)
        refine AOps.cons rfl rfl (AOp.extract (.int .i64 ((diceR p 0 0 s texs).2)) rfl rfl rfl ?_)
        refine AOps.cons rfl rfl (AOp.alloc rfl tz_38 ?_)
        intro i58 H59 n60 h61 k62
        have z63 := Mono.free m57 n60
        have m64 := Mono.new m57 n60 k62
        refine AOps.cons rfl rfl (AOp.store' (cells' := [.sl (((diceR p 0 0 s texs).1).Verts).length ((((diceR p 0 0 s texs).1).Verts).flatMap eV), .sl (((diceR p 0 0 s texs).1).Keys).length ((((diceR p 0 0 s texs).1).Keys).flatMap eKey), .sl (((diceR p 0 0 s texs).1).Tris).length ((((diceR p 0 0 s texs).1).Tris).flatMap eI3)]) (.agg [.sl (((diceR p 0 0 s texs).1).Verts).length ((((diceR p 0 0 s texs).1).Verts).flatMap eV), .sl (((diceR p 0 0 s texs).1).Keys).length ((((diceR p 0 0 s texs).1).Keys).flatMap eKey), .sl (((diceR p 0 0 s texs).1).Tris).length ((((diceR p 0 0 s texs).1).Tris).flatMap eI3)]) rfl rfl ts_38 h61 rfl rfl rfl rfl ?_)
        intro H65 h66 k67
        have m69 := Mono.set m64 z63 k67
        refine AOps.cons rfl rfl (AOp.assign (.int .i64 ((diceR p 0 0 s texs).2)) rfl rfl ?_)
        refine AOps.nil ?_
        change AWP _ _ _ _ _ _
        refine AWP.seq ?_
        refine AWP.seq ?_
        refine AWP.frzP 9 h66 z63 rfl m69 fun H70 m71 k72 => ?_
        refine AWP.region (l := [0, 1]) rfl ?_
        refine AOps.cons rfl rfl (AOp.move (.int .i64 ((diceR p 0 0 s texs).2)) rfl rfl ?_)
        refine AOps.cons rfl rfl (AOp.bin (.bool (!decide ((diceR p 0 0 s texs).2 = 0))) rfl rfl rfl ine ?_)
        refine AOps.nil ?_
        change AWP _ _ _ _ _ _
        by_cases b73 : (diceR p 0 0 s texs).2 = 0
        ·
         refine AWP.condF rfl (nb (decide_eq_true b73)) ?_
         refine AWP.skip ?_
         change AWP _ _ _ _ _ _
         refine AWP.seq ?_
         have ha0 := b73
         have hcl := counts_law (p := p) (s := s) (texs := texs) hd ha0
         have hrm := ranM_dice (p := p) (cage := 0) (id := 0) (s := s) (texs := texs) (inR_small (by omega)) (inR_small (by omega)) hpc
         refine AWP.region (l := [0, 1]) rfl ?_
         refine AOps.cons rfl rfl (AOp.makeMap rfl ?_)
         intro i74 H75 n76 h77 k78
         have z79 := Mono.free m71 n76
         have m80 := Mono.new m71 n76 k78
         refine AOps.cons rfl rfl (AOp.assign (.map i74) rfl rfl ?_)
         refine AOps.nil ?_
         change AWP _ _ _ _ _ _
         refine AWP.seq ?_
         refine AWP.seq ?_
         refine AWP.region (l := [0]) rfl ?_
         refine AOps.cons rfl rfl (AOp.assign (.int .i64 0) rfl rfl ?_)
         refine AOps.nil ?_
         change AWP _ _ _ _ _ _
         refine AWP.block ?_
         refine AWP.loop (fun q81 fq Hq => ∃ (i : Int), q81 = ((((diceR p 0 0 s texs).1.Keys).length : Int) - i).toNat ∧ fq 12 = .int .i64 i ∧ fq 9 = .fptr [.sl (((diceR p 0 0 s texs).1).Verts).length ((((diceR p 0 0 s texs).1).Verts).flatMap eV), .sl (((diceR p 0 0 s texs).1).Keys).length ((((diceR p 0 0 s texs).1).Keys).flatMap eKey), .sl (((diceR p 0 0 s texs).1).Tris).length ((((diceR p 0 0 s texs).1).Tris).flatMap eI3)] 0 ∧ fq 11 = .map i74 ∧ Hq i74 = some (.map (keyM (((diceR p 0 0 s texs).1.Keys).take i.toNat))) ∧ Mono H0 Hq ∧ (0 ≤ i) ∧ (i ≤ ((diceR p 0 0 s texs).1.Keys).length)) (k := ((((diceR p 0 0 s texs).1.Keys).length : Int) - 0).toNat) ?_ ?_
         ·
          exact ⟨0, rfl, rfl, rfl, rfl, (h77.trans (congrArg (fun l : List KeyT => some (AB.map (keyM l))) (show (([] : List KeyT) : List KeyT) = (((diceR p 0 0 s texs).1.Keys).take (0 : Int).toNat) from by first | rfl | (rw [take_step hi0 (by omega)])))), m80, by omega, by omega⟩
         ·
          rintro _ f83 H82 ⟨i, rfl, s84, s85, s86, h87, m88, hi0, hi1⟩
          refine AWP.seq ?_
          refine AWP.seq ?_
          refine AWP.region (l := [0, 1, 2, 3, 4]) rfl ?_
          refine AOps.cons rfl rfl (AOp.move (.int .i64 i) rfl s84 ?_)
          refine AOps.cons rfl rfl (AOp.fieldAddrF rfl s85 fl_38_1 ?_)
          refine AOps.cons rfl rfl (AOp.loadF (.sl (((diceR p 0 0 s texs).1).Keys).length ((((diceR p 0 0 s texs).1).Keys).flatMap eKey)) rfl rfl ty_35 rfl ?_)
          refine AOps.cons rfl rfl (AOp.len (m := (((diceR p 0 0 s texs).1).Keys).length) rfl rfl (.inr (.inl ⟨_, rfl⟩)) u_35 ?_)
          refine AOps.cons rfl rfl (AOp.bin (.bool (decide (i < (((((diceR p 0 0 s texs).1).Keys).length) : Int)))) rfl rfl rfl rfl ?_)
          refine AOps.nil ?_
          change AWP _ _ _ _ _ _
          by_cases b89 : i < (((((diceR p 0 0 s texs).1).Keys).length) : Int)
          ·
           refine AWP.condT rfl (decide_eq_true b89) ?_
           refine AWP.skip ?_
           change AWP _ _ _ _ _ _
           refine AWP.seq ?_
           refine AWP.block ?_
           refine AWP.seq ?_
           refine AWP.seq ?_
           have hnt := ne_take hcl.2.2.1 hi0 (by omega)
           have hrt : ∀ x ∈ ((diceR p 0 0 s texs).1.Keys).take i.toNat, ranK x := fun x hx => hrm.2.1 x (List.mem_of_mem_take hx)
           have hrk := hrm.2.1 _ (at_mem hi0 (by omega))
           refine AWP.region (l := [0, 1, 2, 3, 4, 5, 6]) rfl ?_
           refine AOps.cons rfl rfl (AOp.move (.map i74) rfl s86 ?_)
           refine AOps.cons rfl rfl (AOp.fieldAddrF rfl s85 fl_38_1 ?_)
           refine AOps.cons rfl rfl (AOp.loadF (.sl (((diceR p 0 0 s texs).1).Keys).length ((((diceR p 0 0 s texs).1).Keys).flatMap eKey)) rfl rfl ty_35 rfl ?_)
           refine AOps.cons rfl rfl (AOp.move (.int .i64 i) rfl s84 ?_)
           refine AOps.cons rfl rfl (AOp.indexAddrS rfl rfl rfl sl_35 (by omega) (by omega) ?_)
           refine AOps.cons rfl rfl (AOp.loadF (.agg [.int .i64 ((at_ (((diceR p 0 0 s texs).1).Keys) i).Kind), .int .i64 ((at_ (((diceR p 0 0 s texs).1).Keys) i).Of), .int .i64 ((at_ (((diceR p 0 0 s texs).1).Keys) i).A), .int .i64 ((at_ (((diceR p 0 0 s texs).1).Keys) i).B), .int .i64 ((at_ (((diceR p 0 0 s texs).1).Keys) i).N)]) rfl rfl ty_58 (ldM eKey_len (by omega) (by omega)) ?_)
           refine AOps.cons rfl rfl (AOp.lookup' rfl rfl h87 rfl (kokK hrk) (keyM_keys hrt) tm56 tzv_4 (keyM_get hnt) ?_)
           refine AOps.nil ?_
           change AWP _ _ _ _ _ _
           refine AWP.condF rfl rfl ?_
           refine AWP.skip ?_
           change AWP _ _ _ _ _ _
           refine AWP.region (l := [0, 1, 2, 3, 4, 5, 6]) rfl ?_
           refine AOps.cons rfl rfl (AOp.move (.map i74) rfl s86 ?_)
           refine AOps.cons rfl rfl (AOp.fieldAddrF rfl s85 fl_38_1 ?_)
           refine AOps.cons rfl rfl (AOp.loadF (.sl (((diceR p 0 0 s texs).1).Keys).length ((((diceR p 0 0 s texs).1).Keys).flatMap eKey)) rfl rfl ty_35 rfl ?_)
           refine AOps.cons rfl rfl (AOp.move (.int .i64 i) rfl s84 ?_)
           refine AOps.cons rfl rfl (AOp.indexAddrS rfl rfl rfl sl_35 (by omega) (by omega) ?_)
           refine AOps.cons rfl rfl (AOp.loadF (.agg [.int .i64 ((at_ (((diceR p 0 0 s texs).1).Keys) i).Kind), .int .i64 ((at_ (((diceR p 0 0 s texs).1).Keys) i).Of), .int .i64 ((at_ (((diceR p 0 0 s texs).1).Keys) i).A), .int .i64 ((at_ (((diceR p 0 0 s texs).1).Keys) i).B), .int .i64 ((at_ (((diceR p 0 0 s texs).1).Keys) i).N)]) rfl rfl ty_58 (ldM eKey_len (by omega) (by omega)) ?_)
           refine AOps.cons rfl rfl (AOp.mapUpdate2 (es' := keyM (((diceR p 0 0 s texs).1.Keys).take i.toNat ++ [at_ ((diceR p 0 0 s texs).1.Keys) i])) rfl h87 rfl (kokK hrk) (keyM_keys hrt) tm56 rfl (keyM_put hnt) ?_)
           intro H90 h91 k92
           have m94 := Mono.set m88 z79 k92
           refine AOps.nil ?_
           change AWP _ _ _ _ _ _
           refine AWP.region (l := [0, 1, 2]) rfl ?_
           refine AOps.cons rfl rfl (AOp.move (.int .i64 i) rfl s84 ?_)
           refine AOps.cons rfl rfl (AOp.bin (.int .i64 (i + 1)) rfl rfl rfl (iadd (by omega)) ?_)
           refine AOps.cons rfl rfl (AOp.assign (.int .i64 (i + 1)) rfl rfl ?_)
           refine AOps.nil ?_
           exact ⟨_, by omega, i + 1, rfl, rfl, s85, s86, (h91.trans (congrArg (fun l : List KeyT => some (AB.map (keyM l))) (show ((((diceR p 0 0 s texs).1.Keys).take i.toNat ++ [at_ ((diceR p 0 0 s texs).1.Keys) i]) : List KeyT) = (((diceR p 0 0 s texs).1.Keys).take (i + 1).toNat) from by first | rfl | (rw [take_step hi0 (by omega)])))), m94, by omega, by omega⟩
          ·
           refine AWP.condF rfl (decide_eq_false b89) ?_
           refine AWP.exit ?_
           change AWP _ _ _ _ _ _
           refine AWP.seq ?_
           refine AWP.seq ?_
           refine AWP.region (l := [0]) rfl ?_
           refine AOps.cons rfl rfl (AOp.assign (.int .i64 0) rfl rfl ?_)
           refine AOps.nil ?_
           change AWP _ _ _ _ _ _
           refine AWP.block ?_
           refine AWP.loop (fun q95 fq Hq => ∃ (j : Int), q95 = ((((diceR p 0 0 s texs).1.Tris).length : Int) - j).toNat ∧ fq 13 = .int .i64 j ∧ fq 9 = .fptr [.sl (((diceR p 0 0 s texs).1).Verts).length ((((diceR p 0 0 s texs).1).Verts).flatMap eV), .sl (((diceR p 0 0 s texs).1).Keys).length ((((diceR p 0 0 s texs).1).Keys).flatMap eKey), .sl (((diceR p 0 0 s texs).1).Tris).length ((((diceR p 0 0 s texs).1).Tris).flatMap eI3)] 0 ∧ Hq i74 = some (.map (keyM (((diceR p 0 0 s texs).1.Keys).take i.toNat))) ∧ Mono H0 Hq ∧ (0 ≤ j) ∧ (j ≤ ((diceR p 0 0 s texs).1.Tris).length)) (k := ((((diceR p 0 0 s texs).1.Tris).length : Int) - 0).toNat) ?_ ?_
           ·
            exact ⟨0, rfl, rfl, s85, h87, m88, by omega, by omega⟩
           ·
            rintro _ f97 H96 ⟨j, rfl, s98, s99, h100, m101, hj0, hj1⟩
            refine AWP.seq ?_
            refine AWP.seq ?_
            refine AWP.region (l := [0, 1, 2, 3, 4]) rfl ?_
            refine AOps.cons rfl rfl (AOp.move (.int .i64 j) rfl s98 ?_)
            refine AOps.cons rfl rfl (AOp.fieldAddrF rfl s99 fl_38_2 ?_)
            refine AOps.cons rfl rfl (AOp.loadF (.sl (((diceR p 0 0 s texs).1).Tris).length ((((diceR p 0 0 s texs).1).Tris).flatMap eI3)) rfl rfl ty_36 rfl ?_)
            refine AOps.cons rfl rfl (AOp.len (m := (((diceR p 0 0 s texs).1).Tris).length) rfl rfl (.inr (.inl ⟨_, rfl⟩)) u_36 ?_)
            refine AOps.cons rfl rfl (AOp.bin (.bool (decide (j < (((((diceR p 0 0 s texs).1).Tris).length) : Int)))) rfl rfl rfl rfl ?_)
            refine AOps.nil ?_
            change AWP _ _ _ _ _ _
            by_cases b102 : j < (((((diceR p 0 0 s texs).1).Tris).length) : Int)
            ·
             refine AWP.condT rfl (decide_eq_true b102) ?_
             refine AWP.skip ?_
             change AWP _ _ _ _ _ _
             refine AWP.seq ?_
             refine AWP.block ?_
             refine AWP.seq ?_
             refine AWP.region (l := [0, 1, 2, 3, 4, 5, 6]) rfl ?_
             refine AOps.cons rfl rfl (AOp.fieldAddrF rfl s99 fl_38_2 ?_)
             refine AOps.cons rfl rfl (AOp.loadF (.sl (((diceR p 0 0 s texs).1).Tris).length ((((diceR p 0 0 s texs).1).Tris).flatMap eI3)) rfl rfl ty_36 rfl ?_)
             refine AOps.cons rfl rfl (AOp.move (.int .i64 j) rfl s98 ?_)
             refine AOps.cons rfl rfl (AOp.indexAddrS rfl rfl rfl sl_36 (by omega) (by omega) ?_)
             refine AOps.cons rfl rfl (AOp.loadF (.agg [.int .i64 ((at_ (((diceR p 0 0 s texs).1).Tris) j).x0), .int .i64 ((at_ (((diceR p 0 0 s texs).1).Tris) j).x1), .int .i64 ((at_ (((diceR p 0 0 s texs).1).Tris) j).x2)]) rfl rfl ty_59 (ldM eI3_len (by omega) (by omega)) ?_)
             refine AOps.cons rfl rfl (AOp.alloc rfl tz_59 ?_)
             intro i103 H104 n105 h106 k107
             have e108 := ne_new h100 n105
             have z109 := Mono.free m101 n105
             have h110 := keep k107 (ne_new h100 n105) h100
             have m111 := Mono.new m101 n105 k107
             refine AOps.cons rfl rfl (AOp.store' (cells' := [.int .i64 ((at_ (((diceR p 0 0 s texs).1).Tris) j).x0), .int .i64 ((at_ (((diceR p 0 0 s texs).1).Tris) j).x1), .int .i64 ((at_ (((diceR p 0 0 s texs).1).Tris) j).x2)]) (.agg [.int .i64 ((at_ (((diceR p 0 0 s texs).1).Tris) j).x0), .int .i64 ((at_ (((diceR p 0 0 s texs).1).Tris) j).x1), .int .i64 ((at_ (((diceR p 0 0 s texs).1).Tris) j).x2)]) rfl rfl ts_59 h106 rfl rfl rfl rfl ?_)
             intro H112 h113 k114
             have h115 := keep k114 e108 h110
             have m117 := Mono.set m111 z109 k114
             refine AOps.nil ?_
             change AWP _ _ _ _ _ _
             refine AWP.seq ?_
             refine AWP.frzP 14 h113 z109 rfl m117 fun H118 m119 k120 => ?_
             have h121 := (k120 _ e108).trans h115
             have hto := hcl.2.2.2 _ (at_mem hj0 (by omega))
             have htk := tri_ok hj0 (by omega) hto
             have hne : ¬ (at_ ((diceR p 0 0 s texs).1.Tris) j).x0 = (at_ ((diceR p 0 0 s texs).1.Tris) j).x1 ∧ ¬ (at_ ((diceR p 0 0 s texs).1.Tris) j).x1 = (at_ ((diceR p 0 0 s texs).1.Tris) j).x2 ∧ ¬ (at_ ((diceR p 0 0 s texs).1.Tris) j).x2 = (at_ ((diceR p 0 0 s texs).1.Tris) j).x0 := hto.2.2.2.2.2.2
             refine AWP.region (l := [0, 1, 2, 3, 4, 5, 6, 7, 8]) rfl ?_
             refine AOps.cons rfl rfl (AOp.loadF (.agg [.sl (((diceR p 0 0 s texs).1).Verts).length ((((diceR p 0 0 s texs).1).Verts).flatMap eV), .sl (((diceR p 0 0 s texs).1).Keys).length ((((diceR p 0 0 s texs).1).Keys).flatMap eKey), .sl (((diceR p 0 0 s texs).1).Tris).length ((((diceR p 0 0 s texs).1).Tris).flatMap eI3)]) rfl s99 ty_38 rfl ?_)
             refine AOps.cons rfl rfl (AOp.move (.int .i64 j) rfl s98 ?_)
             refine AOps.cons rfl rfl (AOp.pcall («as» := [.agg [.sl (((diceR p 0 0 s texs).1).Verts).length ((((diceR p 0 0 s texs).1).Verts).flatMap eV), .sl (((diceR p 0 0 s texs).1).Keys).length ((((diceR p 0 0 s texs).1).Keys).flatMap eKey), .sl (((diceR p 0 0 s texs).1).Tris).length ((((diceR p 0 0 s texs).1).Tris).flatMap eI3)], .int .i64 j]) rfl rfl (rfl) tf_15 (c_mesh_Tri ((diceR p 0 0 s texs).1) j (by first | assumption | omega) (by first | assumption | omega)) ?_)
             intro H122 m123
             have h124 := m123 _ _ h121
             have m125 := m119.trans m123
             refine AOps.cons rfl rfl (AOp.move (.tup [.agg [.int .i64 ((((R_mesh_Tri ((diceR p 0 0 s texs).1) j).1).A).X), .int .i64 ((((R_mesh_Tri ((diceR p 0 0 s texs).1) j).1).A).Y), .int .i64 ((((R_mesh_Tri ((diceR p 0 0 s texs).1) j).1).A).Z), .int .i64 ((((R_mesh_Tri ((diceR p 0 0 s texs).1) j).1).B).X), .int .i64 ((((R_mesh_Tri ((diceR p 0 0 s texs).1) j).1).B).Y), .int .i64 ((((R_mesh_Tri ((diceR p 0 0 s texs).1) j).1).B).Z), .int .i64 ((((R_mesh_Tri ((diceR p 0 0 s texs).1) j).1).C).X), .int .i64 ((((R_mesh_Tri ((diceR p 0 0 s texs).1) j).1).C).Y), .int .i64 ((((R_mesh_Tri ((diceR p 0 0 s texs).1) j).1).C).Z)], .bool ((R_mesh_Tri ((diceR p 0 0 s texs).1) j).2)]) rfl rfl ?_)
             refine AOps.cons rfl rfl (AOp.extract (.agg [.int .i64 ((((R_mesh_Tri ((diceR p 0 0 s texs).1) j).1).A).X), .int .i64 ((((R_mesh_Tri ((diceR p 0 0 s texs).1) j).1).A).Y), .int .i64 ((((R_mesh_Tri ((diceR p 0 0 s texs).1) j).1).A).Z), .int .i64 ((((R_mesh_Tri ((diceR p 0 0 s texs).1) j).1).B).X), .int .i64 ((((R_mesh_Tri ((diceR p 0 0 s texs).1) j).1).B).Y), .int .i64 ((((R_mesh_Tri ((diceR p 0 0 s texs).1) j).1).B).Z), .int .i64 ((((R_mesh_Tri ((diceR p 0 0 s texs).1) j).1).C).X), .int .i64 ((((R_mesh_Tri ((diceR p 0 0 s texs).1) j).1).C).Y), .int .i64 ((((R_mesh_Tri ((diceR p 0 0 s texs).1) j).1).C).Z)]) rfl rfl rfl ?_)
             refine AOps.cons rfl rfl (AOp.extract (.bool ((R_mesh_Tri ((diceR p 0 0 s texs).1) j).2)) rfl rfl rfl ?_)
             refine AOps.cons rfl rfl (AOp.alloc rfl tz_47 ?_)
             intro i126 H127 n128 h129 k130
             have e131 := ne_new h124 n128
             have z132 := Mono.free m125 n128
             have h133 := keep k130 (ne_new h124 n128) h124
             have m134 := Mono.new m125 n128 k130
             refine AOps.cons rfl rfl (AOp.store' (cells' := [.int .i64 ((((R_mesh_Tri ((diceR p 0 0 s texs).1) j).1).A).X), .int .i64 ((((R_mesh_Tri ((diceR p 0 0 s texs).1) j).1).A).Y), .int .i64 ((((R_mesh_Tri ((diceR p 0 0 s texs).1) j).1).A).Z), .int .i64 ((((R_mesh_Tri ((diceR p 0 0 s texs).1) j).1).B).X), .int .i64 ((((R_mesh_Tri ((diceR p 0 0 s texs).1) j).1).B).Y), .int .i64 ((((R_mesh_Tri ((diceR p 0 0 s texs).1) j).1).B).Z), .int .i64 ((((R_mesh_Tri ((diceR p 0 0 s texs).1) j).1).C).X), .int .i64 ((((R_mesh_Tri ((diceR p 0 0 s texs).1) j).1).C).Y), .int .i64 ((((R_mesh_Tri ((diceR p 0 0 s texs).1) j).1).C).Z)]) (.agg [.int .i64 ((((R_mesh_Tri ((diceR p 0 0 s texs).1) j).1).A).X), .int .i64 ((((R_mesh_Tri ((diceR p 0 0 s texs).1) j).1).A).Y), .int .i64 ((((R_mesh_Tri ((diceR p 0 0 s texs).1) j).1).A).Z), .int .i64 ((((R_mesh_Tri ((diceR p 0 0 s texs).1) j).1).B).X), .int .i64 ((((R_mesh_Tri ((diceR p 0 0 s texs).1) j).1).B).Y), .int .i64 ((((R_mesh_Tri ((diceR p 0 0 s texs).1) j).1).B).Z), .int .i64 ((((R_mesh_Tri ((diceR p 0 0 s texs).1) j).1).C).X), .int .i64 ((((R_mesh_Tri ((diceR p 0 0 s texs).1) j).1).C).Y), .int .i64 ((((R_mesh_Tri ((diceR p 0 0 s texs).1) j).1).C).Z)]) rfl rfl ts_47 h129 rfl rfl rfl rfl ?_)
             intro H135 h136 k137
             have h138 := keep k137 e131 h133
             have m140 := Mono.set m134 z132 k137
             refine AOps.cons rfl rfl (AOp.assign (.bool ((R_mesh_Tri ((diceR p 0 0 s texs).1) j).2)) rfl rfl ?_)
             refine AOps.nil ?_
             change AWP _ _ _ _ _ _
             refine AWP.seq ?_
             refine AWP.frzP 15 h136 z132 rfl m140 fun H141 m142 k143 => ?_
             have h144 := (k143 _ e131).trans h138
             refine AWP.region (l := [0, 1, 2, 3, 4, 5, 6, 7, 8, 9, 10, 11, 12, 13, 14, 15, 16, 17, 18, 19, 20, 21, 22]) rfl ?_
             refine AOps.cons rfl rfl (AOp.move (.bool ((R_mesh_Tri ((diceR p 0 0 s texs).1) j).2)) rfl rfl ?_)
             refine AOps.cons rfl rfl (AOp.not rfl rfl ?_)
             refine AOps.cons rfl rfl (AOp.move (.bool (!((R_mesh_Tri ((diceR p 0 0 s texs).1) j).2))) rfl rfl ?_)
             refine AOps.yes rfl rfl rfl rfl rfl rfl rfl (nb (htk)) (AOp.indexAddrFA rfl rfl rfl ar_59 (by omega) (by omega) ?_)
             refine AOps.yes rfl rfl rfl rfl rfl rfl rfl (nb (htk)) (AOp.loadF (.int .i64 ((at_ (((diceR p 0 0 s texs).1).Tris) j).x0)) rfl rfl ty_3 rfl ?_)
             refine AOps.yes rfl rfl rfl rfl rfl rfl rfl (nb (htk)) (AOp.indexAddrFA rfl rfl rfl ar_59 (by omega) (by omega) ?_)
             refine AOps.yes rfl rfl rfl rfl rfl rfl rfl (nb (htk)) (AOp.loadF (.int .i64 ((at_ (((diceR p 0 0 s texs).1).Tris) j).x1)) rfl rfl ty_3 rfl ?_)
             refine AOps.yes rfl rfl rfl rfl rfl rfl rfl (nb (htk)) (AOp.bin (.bool (decide ((at_ (((diceR p 0 0 s texs).1).Tris) j).x0 = (at_ (((diceR p 0 0 s texs).1).Tris) j).x1))) rfl rfl rfl ieq ?_)
             refine AOps.cons rfl rfl (AOp.pickF (.bool (decide ((at_ (((diceR p 0 0 s texs).1).Tris) j).x0 = (at_ (((diceR p 0 0 s texs).1).Tris) j).x1))) rfl rfl (nb (htk)) rfl ?_)
             refine AOps.cons rfl rfl (AOp.move (.bool (decide ((at_ (((diceR p 0 0 s texs).1).Tris) j).x0 = (at_ (((diceR p 0 0 s texs).1).Tris) j).x1))) rfl rfl ?_)
             refine AOps.yes rfl rfl rfl rfl rfl rfl rfl (decide_eq_false (hne.1)) (AOp.indexAddrFA rfl rfl rfl ar_59 (by omega) (by omega) ?_)
             refine AOps.yes rfl rfl rfl rfl rfl rfl rfl (decide_eq_false (hne.1)) (AOp.loadF (.int .i64 ((at_ (((diceR p 0 0 s texs).1).Tris) j).x1)) rfl rfl ty_3 rfl ?_)
             refine AOps.yes rfl rfl rfl rfl rfl rfl rfl (decide_eq_false (hne.1)) (AOp.indexAddrFA rfl rfl rfl ar_59 (by omega) (by omega) ?_)
             refine AOps.yes rfl rfl rfl rfl rfl rfl rfl (decide_eq_false (hne.1)) (AOp.loadF (.int .i64 ((at_ (((diceR p 0 0 s texs).1).Tris) j).x2)) rfl rfl ty_3 rfl ?_)
             refine AOps.yes rfl rfl rfl rfl rfl rfl rfl (decide_eq_false (hne.1)) (AOp.bin (.bool (decide ((at_ (((diceR p 0 0 s texs).1).Tris) j).x1 = (at_ (((diceR p 0 0 s texs).1).Tris) j).x2))) rfl rfl rfl ieq ?_)
             refine AOps.cons rfl rfl (AOp.pickF (.bool (decide ((at_ (((diceR p 0 0 s texs).1).Tris) j).x1 = (at_ (((diceR p 0 0 s texs).1).Tris) j).x2))) rfl rfl (decide_eq_false (hne.1)) rfl ?_)
             refine AOps.cons rfl rfl (AOp.move (.bool (decide ((at_ (((diceR p 0 0 s texs).1).Tris) j).x1 = (at_ (((diceR p 0 0 s texs).1).Tris) j).x2))) rfl rfl ?_)
             refine AOps.yes rfl rfl rfl rfl rfl rfl rfl (decide_eq_false (hne.2.1)) (AOp.indexAddrFA rfl rfl rfl ar_59 (by omega) (by omega) ?_)
             refine AOps.yes rfl rfl rfl rfl rfl rfl rfl (decide_eq_false (hne.2.1)) (AOp.loadF (.int .i64 ((at_ (((diceR p 0 0 s texs).1).Tris) j).x2)) rfl rfl ty_3 rfl ?_)
             refine AOps.yes rfl rfl rfl rfl rfl rfl rfl (decide_eq_false (hne.2.1)) (AOp.indexAddrFA rfl rfl rfl ar_59 (by omega) (by omega) ?_)
             refine AOps.yes rfl rfl rfl rfl rfl rfl rfl (decide_eq_false (hne.2.1)) (AOp.loadF (.int .i64 ((at_ (((diceR p 0 0 s texs).1).Tris) j).x0)) rfl rfl ty_3 rfl ?_)
             refine AOps.yes rfl rfl rfl rfl rfl rfl rfl (decide_eq_false (hne.2.1)) (AOp.bin (.bool (decide ((at_ (((diceR p 0 0 s texs).1).Tris) j).x2 = (at_ (((diceR p 0 0 s texs).1).Tris) j).x0))) rfl rfl rfl ieq ?_)
             refine AOps.cons rfl rfl (AOp.pickF (.bool (decide ((at_ (((diceR p 0 0 s texs).1).Tris) j).x2 = (at_ (((diceR p 0 0 s texs).1).Tris) j).x0))) rfl rfl (decide_eq_false (hne.2.1)) rfl ?_)
             refine AOps.nil ?_
             change AWP _ _ _ _ _ _
             refine AWP.condF rfl (decide_eq_false (hne.2.2)) ?_
             refine AWP.skip ?_
             change AWP _ _ _ _ _ _
             refine AWP.region (l := [0, 1, 2]) rfl ?_
             refine AOps.cons rfl rfl (AOp.move (.int .i64 j) rfl s98 ?_)
             refine AOps.cons rfl rfl (AOp.bin (.int .i64 (j + 1)) rfl rfl rfl (iadd (by omega)) ?_)
             refine AOps.cons rfl rfl (AOp.assign (.int .i64 (j + 1)) rfl rfl ?_)
             refine AOps.nil ?_
             exact ⟨_, by omega, j + 1, rfl, rfl, s99, h144, m142, by omega, by omega⟩
            ·
             refine AWP.condF rfl (decide_eq_false b102) ?_
             refine AWP.exit ?_
             change AWP _ _ _ _ _ _
             refine AWP.seq ?_
             refine AWP.region (l := [0, 1, 2, 3, 4, 5, 6, 7, 8, 9, 10, 11, 12, 13]) rfl ?_
             refine AOps.cons rfl rfl (AOp.fieldAddrF rfl s99 fl_38_1 ?_)
             refine AOps.cons rfl rfl (AOp.loadF (.sl (((diceR p 0 0 s texs).1).Keys).length ((((diceR p 0 0 s texs).1).Keys).flatMap eKey)) rfl rfl ty_35 rfl ?_)
             refine AOps.cons rfl rfl (AOp.len (m := (((diceR p 0 0 s texs).1).Keys).length) rfl rfl (.inr (.inl ⟨_, rfl⟩)) u_35 ?_)
             refine AOps.cons rfl rfl (AOp.fieldAddrF rfl s99 fl_38_0 ?_)
             refine AOps.cons rfl rfl (AOp.loadF (.sl (((diceR p 0 0 s texs).1).Verts).length ((((diceR p 0 0 s texs).1).Verts).flatMap eV)) rfl rfl ty_34 rfl ?_)
             refine AOps.cons rfl rfl (AOp.len (m := (((diceR p 0 0 s texs).1).Verts).length) rfl rfl (.inr (.inl ⟨_, rfl⟩)) u_34 ?_)
             refine AOps.cons rfl rfl (AOp.bin (.bool (decide ((((((diceR p 0 0 s texs).1).Keys).length) : Int) = (((((diceR p 0 0 s texs).1).Verts).length) : Int)))) rfl rfl rfl ieq ?_)
             refine AOps.cons rfl rfl (AOp.move (.bool (decide ((((((diceR p 0 0 s texs).1).Keys).length) : Int) = (((((diceR p 0 0 s texs).1).Verts).length) : Int)))) rfl rfl ?_)
             by_cases b145 : (((((diceR p 0 0 s texs).1).Keys).length) : Int) = (((((diceR p 0 0 s texs).1).Verts).length) : Int)
             ·
              refine AOps.yes rfl rfl rfl rfl rfl rfl rfl (decide_eq_true b145) (AOp.fieldAddrF rfl s99 fl_38_2 ?_)
              refine AOps.yes rfl rfl rfl rfl rfl rfl rfl (decide_eq_true b145) (AOp.loadF (.sl (((diceR p 0 0 s texs).1).Tris).length ((((diceR p 0 0 s texs).1).Tris).flatMap eI3)) rfl rfl ty_36 rfl ?_)
              refine AOps.yes rfl rfl rfl rfl rfl rfl rfl (decide_eq_true b145) (AOp.len (m := (((diceR p 0 0 s texs).1).Tris).length) rfl rfl (.inr (.inl ⟨_, rfl⟩)) u_36 ?_)
              refine AOps.yes rfl rfl rfl rfl rfl rfl rfl (decide_eq_true b145) (AOp.bin (.bool (decide ((((((diceR p 0 0 s texs).1).Tris).length) : Int) ≥ 2))) rfl rfl rfl rfl ?_)
              refine AOps.cons rfl rfl (AOp.pickT (.bool (decide ((((((diceR p 0 0 s texs).1).Tris).length) : Int) ≥ 2))) rfl rfl (decide_eq_true b145) rfl ?_)
              refine AOps.cons rfl rfl (AOp.assign (.bool (decide ((((((diceR p 0 0 s texs).1).Tris).length) : Int) ≥ 2))) rfl rfl ?_)
              refine AOps.nil ?_
              change AWP _ _ _ _ _ _
              refine AWP.ret ?_
              refine ⟨_, _, Ghost.refl, .inr rfl, _, Res.one rfl rfl, ?_, m101⟩
              exact (congrArg AV.bool (show (decide ((((((diceR p 0 0 s texs).1).Tris).length) : Int) ≥ 2) : Bool) = true from by first | rfl | (exact decide_eq_true hcl.2.1) | omega))
             ·
              refine AOps.no rfl rfl rfl rfl rfl rfl rfl (ble_of (decide_eq_false b145) (by decide)) ?_
              refine AOps.no rfl rfl rfl rfl rfl rfl rfl (ble_of (decide_eq_false b145) (by decide)) ?_
              refine AOps.no rfl rfl rfl rfl rfl rfl rfl (ble_of (decide_eq_false b145) (by decide)) ?_
              refine AOps.no rfl rfl rfl rfl rfl rfl rfl (ble_of (decide_eq_false b145) (by decide)) ?_
              refine AOps.cons rfl rfl (AOp.pickF (.bool false) rfl rfl (decide_eq_false b145) rfl ?_)
              refine AOps.cons rfl rfl (AOp.assign (.bool false) rfl rfl ?_)
              refine AOps.nil ?_
              change AWP _ _ _ _ _ _
              refine AWP.ret ?_
              refine ⟨_, _, Ghost.refl, .inr rfl, _, Res.one rfl rfl, ?_, m101⟩
              exact (congrArg AV.bool (show (false : Bool) = true from by first | rfl | (exact decide_eq_true hcl.2.1) | omega))
        ·
         refine AWP.condT rfl (nb (decide_eq_false b73)) ?_
         refine AWP.seq ?_
         refine AWP.region (l := [0]) rfl ?_
         refine AOps.cons rfl rfl (AOp.assign (.bool true) rfl rfl ?_)
         refine AOps.nil ?_
         change AWP _ _ _ _ _ _
         refine AWP.ret ?_
         refine ⟨_, _, Ghost.refl, .inr rfl, _, Res.one rfl rfl, ?_, m71⟩
         exact rfl
end Go.Proofs.M
