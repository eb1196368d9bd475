/- A part of the proof that a law answers true for every input of its row: own work, by an AI agent. -/
import Derived.Test.YtfgfalidpbbkhaaDoorB05
import Derived.Test.YtfgfalidpbbkhaaDoorB06
set_option linter.unusedSimpArgs false
set_option linter.unusedVariables false
namespace Go.Proofs.M
open Go Go.AH
/-! ### What a mesh's triangles are made of -/
theorem strF_mem {N : SpotT → Int} {k r m : Int} {Q : I3T → Prop} (h1 : ∀ i t, 0 ≤ i → i < r → 1 ≤ t → t ≤ m - 1 → Q ⟨N (outS k i r), N (outS k (i + 1) r), N (besS k t m)⟩) (h2 : ∀ i t, 0 ≤ i → i ≤ r → 1 ≤ t → t < m - 1 → Q ⟨N (outS k i r), N (besS k (t + 1) m), N (besS k t m)⟩) :
    ∀ {n : Nat} {i t : Int}, 0 ≤ i → i ≤ r → 1 ≤ t → t ≤ m - 1 → ∀ x ∈ strF N k r m n i t, Q x
  | 0, _, _, _, _, _, _, x, hx => by cases hx
  | n + 1, i, t, a, b, c, d, x, hx => by
    unfold strF at hx
    split at hx
    · rename_i g
      split at hx
      · rename_i e
        rcases List.mem_cons.1 hx with rfl | hx
        · exact h1 i t a e.1 c d
        · exact strF_mem h1 h2 (by omega) (by omega) c d x hx
      · rename_i e
        have ht : t < m - 1 := by
          rcases Int.lt_or_le t (m - 1) with g' | g'
          · exact g'
          · exact absurd ⟨by omega, .inl (by omega)⟩ e
        rcases List.mem_cons.1 hx with rfl | hx
        · exact h2 i t a b c ht
        · exact strF_mem h1 h2 a b (by omega) (by omega) x hx
    · cases hx
theorem tris_mem {N : SpotT → Int} {rs : List Int} {m : Int} {Q : I3T → Prop} (hr : rates rs) (hm : 1 ≤ m) (h0 : m = 1 → Q ⟨0, 1, 2⟩ ∧ Q ⟨0, 2, 3⟩)
    (hmid : ∀ a b, 1 ≤ a → a < m - 1 → 1 ≤ b → b < m - 1 → Q ⟨N (inn a b), N (inn (a + 1) b), N (inn (a + 1) (b + 1))⟩ ∧ Q ⟨N (inn a b), N (inn (a + 1) (b + 1)), N (inn a (b + 1))⟩)
    (h1 : ∀ k i t, 0 ≤ k → k < 4 → 0 ≤ i → i < at_ rs k → 1 ≤ t → t ≤ m - 1 → Q ⟨N (outS k i (at_ rs k)), N (outS k (i + 1) (at_ rs k)), N (besS k t m)⟩) (h2 : ∀ k i t, 0 ≤ k → k < 4 → 0 ≤ i → i ≤ at_ rs k → 1 ≤ t → t < m - 1 → Q ⟨N (outS k i (at_ rs k)), N (besS k (t + 1) m), N (besS k t m)⟩) : ∀ x ∈ trisL N rs m, Q x := by
  intro x hx
  unfold trisL at hx
  split at hx
  · rename_i e
    obtain ⟨a, b⟩ := h0 e
    rcases List.mem_cons.1 hx with rfl | hx
    · exact a
    · rcases List.mem_cons.1 hx with rfl | hx
      · exact b
      · cases hx
  · rename_i e
    rcases List.mem_append.1 hx with hx | hx
    · simp only [midO, midI, List.mem_flatMap, mem_rg] at hx
      obtain ⟨b, ⟨b1, b2⟩, a, ⟨a1, a2⟩, hx⟩ := hx
      obtain ⟨q1, q2⟩ := hmid a b a1 a2 b1 b2
      simp only [midC, List.mem_cons, List.not_mem_nil, or_false] at hx
      rcases hx with rfl | rfl
      · exact q1
      · exact q2
    · simp only [strO, List.mem_flatMap, mem_rg] at hx
      obtain ⟨k, ⟨k1, k2⟩, hx⟩ := hx
      have := hr k k1 k2
      exact strF_mem (fun i t => h1 k i t k1 k2) (fun i t => h2 k i t k1 k2) (Int.le_refl _) (by omega) (Int.le_refl _) (by omega) x hx
theorem numL_rng (l : List SpotT) (s : SpotT) : -1 ≤ numL l s ∧ numL l s ≤ l.length := by
  by_cases h : s ∈ l
  · have := numL_mem h; omega
  · rw [numL_not h]; omega
theorem ranI3_of {a b c : Int} (ha : -1 ≤ a ∧ a ≤ 400) (hb : -1 ≤ b ∧ b ≤ 400) (hc : -1 ≤ c ∧ c ≤ 400) : ranI3 ⟨a, b, c⟩ := ⟨inR_of (B := 400) (by simp only; omega) (by decide), inR_of (B := 400) (by simp only; omega) (by decide), inR_of (B := 400) (by simp only; omega) (by decide)⟩
theorem ranK_of {a b c d e : Int} (ha : -1000 ≤ a ∧ a ≤ 1000) (hb : inR b) (hc : inR c) (hd : inR d) (he : -1000 ≤ e ∧ e ≤ 1000) : ranK ⟨a, b, c, d, e⟩ := ⟨inR_of ha (by decide), hb, hc, hd, inR_of he (by decide)⟩
theorem inR_small {a : Int} (h : -1000 ≤ a ∧ a ≤ 1000) : inR a := inR_of h (by decide)
theorem kD_ran {p : PatchT} {cage id : Int} {s : SkinT} (hc : inR cage) (hi : inR id) (hp : ∀ c ∈ p.aCorners, inR c) (hr : rates (R_rate_Sides p.aP s.Unit)) (hm : maxL (R_rate_Sides p.aP s.Unit) ≤ 16) {x : SpotT} (hx : x ∈ spotsL (R_rate_Sides p.aP s.Unit) (maxL (R_rate_Sides p.aP s.Unit))) : ranK (kD p cage id s x) := by
  have hco : ∀ k : Int, 0 ≤ k → k < 4 → inR (at_ p.aCorners k) := fun k h0 h4 => hp _ (at_mem h0 (by have := p.lCorners; omega))
  unfold kD vtxD R_mesh_vertex
  rcases mem_spots.1 hx with ⟨k1, k2, k3, k4⟩ | ⟨k1, k2, k3, k4, k5⟩ | ⟨k1, k2, k3, k4, k5⟩
  · rw [if_pos k1]
    exact ranK_of (by omega) hc (hco _ k2 k3) (inR_small (by omega)) (by omega)
  · rw [if_neg (by omega), if_pos k1]
    have := hr x.A k2 k3
    unfold R_mesh_side
    split
    · exact ranK_of (by omega) hc (hco _ (by omega) (by omega)) (hco _ k2 k3) (by omega)
    · exact ranK_of (by omega) hc (hco _ k2 k3) (hco _ (by omega) (by omega)) (by omega)
  · rw [if_neg (by omega), if_neg (by omega)]
    exact ranK_of (by omega) hi (inR_small (by omega)) (inR_small (by omega)) (by omega)
theorem ranM_dice {p : PatchT} {cage id : Int} {s : SkinT} {texs : List TexT} (hc : inR cage) (hi : inR id) (hp : ∀ c ∈ p.aCorners, inR c) : ranM (diceR p cage id s texs).1 := by
  by_cases h : (diceR p cage id s texs).2 = 0
  · obtain ⟨hf, hr, m1, m2, ho, e⟩ := dice_ok0 h
    obtain ⟨f1, f2, f3, f4, f5⟩ := fine_pts hf
    rw [e]
    refine ⟨fun v hv => ?_, fun k hk => ?_, ?_⟩
    · obtain ⟨x, hx, rfl⟩ := List.mem_map.1 hv
      obtain ⟨d, hd, hin⟩ := fD_near (cage := cage) (id := id) hf hx (ho _ hx)
      rw [hd]
      exact ranV_of (inV_vec_Add (vtx_in hf hx) hin) (by omega)
    · obtain ⟨x, hx, rfl⟩ := List.mem_map.1 hk
      exact kD_ran hc hi hp hr m1 hx
    · have hl := spots_len hr m1
      have hn : ∀ x, -1 ≤ numL (spotsL (R_rate_Sides p.aP s.Unit) (maxL (R_rate_Sides p.aP s.Unit))) x ∧ numL (spotsL (R_rate_Sides p.aP s.Unit) (maxL (R_rate_Sides p.aP s.Unit))) x ≤ 400 := fun x => by
        have := numL_rng (spotsL (R_rate_Sides p.aP s.Unit) (maxL (R_rate_Sides p.aP s.Unit))) x
        omega
      refine tris_mem hr m2 (fun _ => ⟨ranI3_of (by omega) (by omega) (by omega), ranI3_of (by omega) (by omega) (by omega)⟩) (fun a b _ _ _ _ => ⟨ranI3_of (hn _) (hn _) (hn _), ranI3_of (hn _) (hn _) (hn _)⟩) (fun k i t _ _ _ _ _ _ => ranI3_of (hn _) (hn _) (hn _)) (fun k i t _ _ _ _ _ _ => ranI3_of (hn _) (hn _) (hn _))
  · rw [dice_no h]
    exact ⟨fun _ h => (by cases h), fun _ h => (by cases h), fun _ h => (by cases h)⟩
/-! ### MeshCounts -/
/-! ### No spot twice, no key twice -/
end Go.Proofs.M
namespace Go.Proofs.M
open Go Go.AH
set_option maxRecDepth 4000
set_option linter.unusedSimpArgs false
set_option linter.unusedVariables false
set_option maxHeartbeats 4000000
theorem c_MeshNear (p : PatchT) (s : SkinT) (texs : List TexT) (htl : texs.length ≤ 1048576) (htx : ∀ t ∈ texs, t.Rows.length ≤ 1048576) (hpc : ∀ c ∈ p.aCorners, inR c) : PC Tryd.prog 5 [.agg (p.aP.flatMap eV ++ (p.aCorners.map eI ++ (p.aNormals.flatMap eV ++ [.int .i64 p.Skin]))), .agg [.str s.Name, .int .i64 s.Mat, .int .i64 s.Levels, .int .i64 s.Unit, .int .i64 s.Tex, .int .i64 s.Height], .sl texs.length (texs.flatMap eTex)] (.bool true) := by
 intro H0
 refine ACalls.of_body' (n := 74) rfl rfl rfl rfl ?_
 have m0 := Mono.refl H0
 refine AWP.seq ?_
 refine AWP.region (l := [0, 1, 2]) rfl ?_
 refine AOps.cons rfl rfl (AOp.box (.agg (p.aP.flatMap eV ++ (p.aCorners.map eI ++ (p.aNormals.flatMap eV ++ [.int .i64 p.Skin])))) rfl rfl rfl ?_)
 intro i1 H2 n3 h4 k5
 have z6 := Mono.free m0 n3
 have m7 := Mono.new m0 n3 k5
 refine AOps.cons rfl rfl (AOp.box (.agg [.str s.Name, .int .i64 s.Mat, .int .i64 s.Levels, .int .i64 s.Unit, .int .i64 s.Tex, .int .i64 s.Height]) rfl rfl rfl ?_)
 intro i8 H9 n10 h11 k12
 have e13 := ne_new h4 n10
 have z14 := Mono.free m7 n10
 have h15 := keep k12 (ne_new h4 n10) h4
 have m16 := Mono.new m7 n10 k12
 refine AOps.cons rfl rfl (AOp.assign (.bool false) rfl rfl ?_)
 refine AOps.nil ?_
 change AWP _ _ _ _ _ _
 refine AWP.seq ?_
 refine AWP.seq ?_
 refine AWP.frzP 3 h15 z6 rfl m16 fun H17 m18 k19 => ?_
 have h20 := (k19 _ (Ne.symm e13)).trans h11
 refine AWP.frzP 4 h20 z14 rfl m18 fun H21 m22 k23 => ?_
 refine AWP.region (l := [0, 1]) rfl ?_
 refine AOps.cons rfl rfl (AOp.pcall («as» := []) rfl rfl (rfl) tf_9 (c_alive) ?_)
 intro H24 m25
 have m26 := m22.trans m25
 refine AOps.cons rfl rfl (AOp.not rfl rfl ?_)
 refine AOps.nil ?_
 change AWP _ _ _ _ _ _
 refine AWP.condF rfl rfl ?_
 refine AWP.skip ?_
 change AWP _ _ _ _ _ _
 refine AWP.seq ?_
 refine AWP.seq ?_
 refine AWP.region (l := [0, 1]) rfl ?_
 refine AOps.cons rfl rfl (AOp.move (.sl texs.length (texs.flatMap eTex)) rfl rfl ?_)
 refine AOps.cons rfl rfl (AOp.pcall («as» := [.sl texs.length (texs.flatMap eTex)]) rfl rfl (rfl) tf_10 (c_long texs (by first | assumption | omega) (by assumption)) ?_)
 intro H27 m28
 have m29 := m26.trans m28
 refine AOps.nil ?_
 change AWP _ _ _ _ _ _
 rcases Bool.eq_false_or_eq_true (longS texs) with b30 | b30
 ·
  refine AWP.condT rfl b30 ?_
  refine AWP.seq ?_
  refine AWP.region (l := [0]) rfl ?_
  refine AOps.cons rfl rfl (AOp.assign (.bool true) rfl rfl ?_)
  refine AOps.nil ?_
  change AWP _ _ _ _ _ _
  refine AWP.ret ?_
  refine ⟨_, _, Ghost.refl, .inr rfl, _, Res.one rfl rfl, ?_, m29⟩
  exact rfl
 ·
  refine AWP.condF rfl b30 ?_
  refine AWP.skip ?_
  change AWP _ _ _ _ _ _
  refine AWP.seq ?_
  have hla := dice_len p 0 0 s texs
  refine AWP.region (l := [0, 1, 2, 3, 4, 5, 6, 7, 8, 9]) rfl ?_
  refine AOps.cons rfl rfl (AOp.loadF (.agg (p.aP.flatMap eV ++ (p.aCorners.map eI ++ (p.aNormals.flatMap eV ++ [.int .i64 p.Skin])))) rfl rfl ty_28 (ld_all (len_app (m := 48) (n := 17) (k := 65) (lenM eV_len p.lP rfl) (len_app (m := 4) (n := 13) (k := 17) (len1 p.lCorners) (len_app (m := 12) (n := 1) (k := 13) (lenM eV_len p.lNormals rfl) rfl rfl) rfl) rfl)) ?_)
  refine AOps.cons rfl rfl (AOp.loadF (.agg [.str s.Name, .int .i64 s.Mat, .int .i64 s.Levels, .int .i64 s.Unit, .int .i64 s.Tex, .int .i64 s.Height]) rfl rfl ty_30 rfl ?_)
  refine AOps.cons rfl rfl (AOp.move (.sl texs.length (texs.flatMap eTex)) rfl rfl ?_)
  refine AOps.cons rfl rfl (AOp.pcall («as» := [.agg (p.aP.flatMap eV ++ (p.aCorners.map eI ++ (p.aNormals.flatMap eV ++ [.int .i64 p.Skin]))), .int .i64 0, .int .i64 0, .agg [.str s.Name, .int .i64 s.Mat, .int .i64 s.Levels, .int .i64 s.Unit, .int .i64 s.Tex, .int .i64 s.Height], .sl texs.length (texs.flatMap eTex)]) rfl rfl (rfl) tf_11 (c_mesh_Dice p 0 0 s texs (by first | assumption | simp) (by first | assumption | simp)) ?_)
  intro H31 m32
  have m33 := m29.trans m32
  refine AOps.cons rfl rfl (AOp.move (.tup [.agg [.sl (((diceR p 0 0 s texs).1).Verts).length ((((diceR p 0 0 s texs).1).Verts).flatMap eV), .sl (((diceR p 0 0 s texs).1).Keys).length ((((diceR p 0 0 s texs).1).Keys).flatMap eKey), .sl (((diceR p 0 0 s texs).1).Tris).length ((((diceR p 0 0 s texs).1).Tris).flatMap eI3)], .int .i64 ((diceR p 0 0 s texs).2)]) rfl rfl ?_)
  refine AOps.cons rfl rfl (AOp.extract (.agg [.sl (((diceR p 0 0 s texs).1).Verts).length ((((diceR p 0 0 s texs).1).Verts).flatMap eV), .sl (((diceR p 0 0 s texs).1).Keys).length ((((diceR p 0 0 s texs).1).Keys).flatMap eKey), .sl (((diceR p 0 0 s texs).1).Tris).length ((((diceR p 0 0 s texs).1).Tris).flatMap eI3)]) rfl rfl rfl ?_)
  refine AOps.cons rfl rfl (AOp.extract (.int .i64 ((diceR p 0 0 s texs).2)) rfl rfl rfl ?_)
  refine AOps.cons rfl rfl (AOp.alloc rfl tz_38 ?_)
  intro i34 H35 n36 h37 k38
  have z39 := Mono.free m33 n36
  have m40 := Mono.new m33 n36 k38
  refine AOps.cons rfl rfl (AOp.store' (cells' := [.sl (((diceR p 0 0 s texs).1).Verts).length ((((diceR p 0 0 s texs).1).Verts).flatMap eV), .sl (((diceR p 0 0 s texs).1).Keys).length ((((diceR p 0 0 s texs).1).Keys).flatMap eKey), .sl (((diceR p 0 0 s texs).1).Tris).length ((((diceR p 0 0 s texs).1).Tris).flatMap eI3)]) (.agg [.sl (((diceR p 0 0 s texs).1).Verts).length ((((diceR p 0 0 s texs).1).Verts).flatMap eV), .sl (((diceR p 0 0 s texs).1).Keys).length ((((diceR p 0 0 s texs).1).Keys).flatMap eKey), .sl (((diceR p 0 0 s texs).1).Tris).length ((((diceR p 0 0 s texs).1).Tris).flatMap eI3)]) rfl rfl ts_38 h37 rfl rfl rfl rfl ?_)
  intro H41 h42 k43
  have m45 := Mono.set m40 z39 k43
  refine AOps.cons rfl rfl (AOp.assign (.int .i64 ((diceR p 0 0 s texs).2)) rfl rfl ?_)
  refine AOps.nil ?_
  change AWP _ _ _ _ _ _
  refine AWP.seq ?_
  refine AWP.seq ?_
  refine AWP.frzP 7 h42 z39 rfl m45 fun H46 m47 k48 => ?_
  refine AWP.region (l := [0, 1]) rfl ?_
  refine AOps.cons rfl rfl (AOp.move (.int .i64 ((diceR p 0 0 s texs).2)) rfl rfl ?_)
  refine AOps.cons rfl rfl (AOp.bin (.bool (!decide ((diceR p 0 0 s texs).2 = 0))) rfl rfl rfl ine ?_)
  refine AOps.nil ?_
  change AWP _ _ _ _ _ _
  by_cases b49 : (diceR p 0 0 s texs).2 = 0
  ·
   refine AWP.condF rfl (nb (decide_eq_true b49)) ?_
   refine AWP.skip ?_
   change AWP _ _ _ _ _ _
   refine AWP.seq ?_
   have ha0 := b49
   have hnl := near_law (p := p) (s := s) (texs := texs) ha0
   have hlb := dice_len p 0 0 (SkinT.mk s.Name s.Mat s.Levels s.Unit (-1) s.Height) texs
   refine AWP.region (l := [0, 1, 2]) rfl ?_
   refine AOps.cons rfl rfl (AOp.loadF (.agg [.str s.Name, .int .i64 s.Mat, .int .i64 s.Levels, .int .i64 s.Unit, .int .i64 s.Tex, .int .i64 s.Height]) rfl rfl ty_30 rfl ?_)
   refine AOps.cons rfl rfl (AOp.alloc rfl tz_30 ?_)
   intro i50 H51 n52 h53 k54
   have z55 := Mono.free m47 n52
   have m56 := Mono.new m47 n52 k54
   refine AOps.cons rfl rfl (AOp.store' (cells' := [.str s.Name, .int .i64 s.Mat, .int .i64 s.Levels, .int .i64 s.Unit, .int .i64 s.Tex, .int .i64 s.Height]) (.agg [.str s.Name, .int .i64 s.Mat, .int .i64 s.Levels, .int .i64 s.Unit, .int .i64 s.Tex, .int .i64 s.Height]) rfl rfl ts_30 h53 rfl rfl rfl rfl ?_)
   intro H57 h58 k59
   have m61 := Mono.set m56 z55 k59
   refine AOps.nil ?_
   change AWP _ _ _ _ _ _
   refine AWP.seq ?_
   refine AWP.region (l := [0, 1]) rfl ?_
   refine AOps.cons rfl rfl (AOp.fieldAddr rfl rfl fl_30_4 ?_ (hid := ⟨_, h58⟩))
   refine AOps.cons rfl rfl (AOp.store' (cells' := [.str s.Name, .int .i64 s.Mat, .int .i64 s.Levels, .int .i64 s.Unit, .int .i64 (-1), .int .i64 s.Height]) (.int .i64 (-1)) rfl rfl ts_3 h58 rfl rfl rfl rfl ?_)
   intro H62 h63 k64
   have m66 := Mono.set m61 z55 k64
   refine AOps.nil ?_
   change AWP _ _ _ _ _ _
   refine AWP.seq ?_
   refine AWP.region (l := [0, 1, 2, 3, 4, 5, 6, 7, 8, 9]) rfl ?_
   refine AOps.cons rfl rfl (AOp.loadF (.agg (p.aP.flatMap eV ++ (p.aCorners.map eI ++ (p.aNormals.flatMap eV ++ [.int .i64 p.Skin])))) rfl rfl ty_28 (ld_all (len_app (m := 48) (n := 17) (k := 65) (lenM eV_len p.lP rfl) (len_app (m := 4) (n := 13) (k := 17) (len1 p.lCorners) (len_app (m := 12) (n := 1) (k := 13) (lenM eV_len p.lNormals rfl) rfl rfl) rfl) rfl)) ?_)
   refine AOps.cons rfl rfl (AOp.load (.agg [.str s.Name, .int .i64 s.Mat, .int .i64 s.Levels, .int .i64 s.Unit, .int .i64 (-1), .int .i64 s.Height]) rfl rfl ty_30 h63 rfl ?_)
   refine AOps.cons rfl rfl (AOp.move (.sl texs.length (texs.flatMap eTex)) rfl rfl ?_)
   refine AOps.cons rfl rfl (AOp.pcall («as» := [.agg (p.aP.flatMap eV ++ (p.aCorners.map eI ++ (p.aNormals.flatMap eV ++ [.int .i64 p.Skin]))), .int .i64 0, .int .i64 0, .agg [.str s.Name, .int .i64 s.Mat, .int .i64 s.Levels, .int .i64 s.Unit, .int .i64 (-1), .int .i64 s.Height], .sl texs.length (texs.flatMap eTex)]) rfl rfl (rfl) tf_11 (c_mesh_Dice p 0 0 (SkinT.mk s.Name s.Mat s.Levels s.Unit (-1) s.Height) texs (by first | assumption | simp) (by first | assumption | simp)) ?_)
   intro H67 m68
   have h69 := m68 _ _ h63
   have m70 := m66.trans m68
   refine AOps.cons rfl rfl (AOp.move (.tup [.agg [.sl (((diceR p 0 0 (SkinT.mk s.Name s.Mat s.Levels s.Unit (-1) s.Height) texs).1).Verts).length ((((diceR p 0 0 (SkinT.mk s.Name s.Mat s.Levels s.Unit (-1) s.Height) texs).1).Verts).flatMap eV), .sl (((diceR p 0 0 (SkinT.mk s.Name s.Mat s.Levels s.Unit (-1) s.Height) texs).1).Keys).length ((((diceR p 0 0 (SkinT.mk s.Name s.Mat s.Levels s.Unit (-1) s.Height) texs).1).Keys).flatMap eKey), .sl (((diceR p 0 0 (SkinT.mk s.Name s.Mat s.Levels s.Unit (-1) s.Height) texs).1).Tris).length ((((diceR p 0 0 (SkinT.mk s.Name s.Mat s.Levels s.Unit (-1) s.Height) texs).1).Tris).flatMap eI3)], .int .i64 ((diceR p 0 0 (SkinT.mk s.Name s.Mat s.Levels s.Unit (-1) s.Height) texs).2)]) rfl rfl ?_)
   refine AOps.cons rfl rfl (AOp.extract (.agg [.sl (((diceR p 0 0 (SkinT.mk s.Name s.Mat s.Levels s.Unit (-1) s.Height) texs).1).Verts).length ((((diceR p 0 0 (SkinT.mk s.Name s.Mat s.Levels s.Unit (-1) s.Height) texs).1).Verts).flatMap eV), .sl (((diceR p 0 0 (SkinT.mk s.Name s.Mat s.Levels s.Unit (-1) s.Height) texs).1).Keys).length ((((diceR p 0 0 (SkinT.mk s.Name s.Mat s.Levels s.Unit (-1) s.Height) texs).1).Keys).flatMap eKey), .sl (((diceR p 0 0 (SkinT.mk s.Name s.Mat s.Levels s.Unit (-1) s.Height) texs).1).Tris).length ((((diceR p 0 0 (SkinT.mk s.Name s.Mat s.Levels s.Unit (-1) s.Height) texs).1).Tris).flatMap eI3)]) rfl rfl rfl ?_)
   refine AOps.cons rfl rfl (AOp.extract (.int .i64 ((diceR p 0 0 (SkinT.mk s.Name s.Mat s.Levels s.Unit (-1) s.Height) texs).2)) rfl rfl rfl ?_)
   refine AOps.cons rfl rfl (AOp.alloc rfl tz_38 ?_)
   intro i71 H72 n73 h74 k75
   have e76 := ne_new h69 n73
   have z77 := Mono.free m70 n73
   have h78 := keep k75 (ne_new h69 n73) h69
   have m79 := Mono.new m70 n73 k75
   refine AOps.cons rfl rfl (AOp.store' (cells' := [.sl (((diceR p 0 0 (SkinT.mk s.Name s.Mat s.Levels s.Unit (-1) s.Height) texs).1).Verts).length ((((diceR p 0 0 (SkinT.mk s.Name s.Mat s.Levels s.Unit (-1) s.Height) texs).1).Verts).flatMap eV), .sl (((diceR p 0 0 (SkinT.mk s.Name s.Mat s.Levels s.Unit (-1) s.Height) texs).1).Keys).length ((((diceR p 0 0 (SkinT.mk s.Name s.Mat s.Levels s.Unit (-1) s.Height) texs).1).Keys).flatMap eKey), .sl (((diceR p 0 0 (SkinT.mk s.Name s.Mat s.Levels s.Unit (-1) s.Height) texs).1).Tris).length ((((diceR p 0 0 (SkinT.mk s.Name s.Mat s.Levels s.Unit (-1) s.Height) texs).1).Tris).flatMap eI3)]) (.agg [.sl (((diceR p 0 0 (SkinT.mk s.Name s.Mat s.Levels s.Unit (-1) s.Height) texs).1).Verts).length ((((diceR p 0 0 (SkinT.mk s.Name s.Mat s.Levels s.Unit (-1) s.Height) texs).1).Verts).flatMap eV), .sl (((diceR p 0 0 (SkinT.mk s.Name s.Mat s.Levels s.Unit (-1) s.Height) texs).1).Keys).length ((((diceR p 0 0 (SkinT.mk s.Name s.Mat s.Levels s.Unit (-1) s.Height) texs).1).Keys).flatMap eKey), .sl (((diceR p 0 0 (SkinT.mk s.Name s.Mat s.Levels s.Unit (-1) s.Height) texs).1).Tris).length ((((diceR p 0 0 (SkinT.mk s.Name s.Mat s.Levels s.Unit (-1) s.Height) texs).1).Tris).flatMap eI3)]) rfl rfl ts_38 h74 rfl rfl rfl rfl ?_)
   intro H80 h81 k82
   have h83 := keep k82 e76 h78
   have m85 := Mono.set m79 z77 k82
   refine AOps.cons rfl rfl (AOp.assign (.int .i64 ((diceR p 0 0 (SkinT.mk s.Name s.Mat s.Levels s.Unit (-1) s.Height) texs).2)) rfl rfl ?_)
   refine AOps.nil ?_
   change AWP _ _ _ _ _ _
   refine AWP.seq ?_
   refine AWP.seq ?_
   refine AWP.region (l := [0, 1, 2, 3, 4, 5, 6, 7, 8, 9, 10]) rfl ?_
   refine AOps.cons rfl rfl (AOp.move (.int .i64 ((diceR p 0 0 (SkinT.mk s.Name s.Mat s.Levels s.Unit (-1) s.Height) texs).2)) rfl rfl ?_)
   refine AOps.cons rfl rfl (AOp.bin (.bool (!decide ((diceR p 0 0 (SkinT.mk s.Name s.Mat s.Levels s.Unit (-1) s.Height) texs).2 = 0))) rfl rfl rfl ine ?_)
   refine AOps.cons rfl rfl (AOp.move (.bool (!decide ((diceR p 0 0 (SkinT.mk s.Name s.Mat s.Levels s.Unit (-1) s.Height) texs).2 = 0))) rfl rfl ?_)
   refine AOps.yes rfl rfl rfl rfl rfl rfl rfl (nb (decide_eq_true (hnl.1))) (AOp.fieldAddrF rfl rfl fl_38_0 ?_)
   refine AOps.yes rfl rfl rfl rfl rfl rfl rfl (nb (decide_eq_true (hnl.1))) (AOp.loadF (.sl (((diceR p 0 0 s texs).1).Verts).length ((((diceR p 0 0 s texs).1).Verts).flatMap eV)) rfl rfl ty_34 rfl ?_)
   refine AOps.yes rfl rfl rfl rfl rfl rfl rfl (nb (decide_eq_true (hnl.1))) (AOp.len (m := (((diceR p 0 0 s texs).1).Verts).length) rfl rfl (.inr (.inl ⟨_, rfl⟩)) u_34 ?_)
   refine AOps.yes rfl rfl rfl rfl rfl rfl rfl (nb (decide_eq_true (hnl.1))) (AOp.fieldAddr rfl rfl fl_38_0 ?_ (hid := ⟨_, h81⟩))
   refine AOps.yes rfl rfl rfl rfl rfl rfl rfl (nb (decide_eq_true (hnl.1))) (AOp.load (.sl (((diceR p 0 0 (SkinT.mk s.Name s.Mat s.Levels s.Unit (-1) s.Height) texs).1).Verts).length ((((diceR p 0 0 (SkinT.mk s.Name s.Mat s.Levels s.Unit (-1) s.Height) texs).1).Verts).flatMap eV)) rfl rfl ty_34 h81 rfl ?_)
   refine AOps.yes rfl rfl rfl rfl rfl rfl rfl (nb (decide_eq_true (hnl.1))) (AOp.len (m := (((diceR p 0 0 (SkinT.mk s.Name s.Mat s.Levels s.Unit (-1) s.Height) texs).1).Verts).length) rfl rfl (.inr (.inl ⟨_, rfl⟩)) u_34 ?_)
   refine AOps.yes rfl rfl rfl rfl rfl rfl rfl (nb (decide_eq_true (hnl.1))) (AOp.bin (.bool (!decide ((((((diceR p 0 0 s texs).1).Verts).length) : Int) = (((((diceR p 0 0 (SkinT.mk s.Name s.Mat s.Levels s.Unit (-1) s.Height) texs).1).Verts).length) : Int)))) rfl rfl rfl ine ?_)
   refine AOps.cons rfl rfl (AOp.pickF (.bool (!decide ((((((diceR p 0 0 s texs).1).Verts).length) : Int) = (((((diceR p 0 0 (SkinT.mk s.Name s.Mat s.Levels s.Unit (-1) s.Height) texs).1).Verts).length) : Int)))) rfl rfl (nb (decide_eq_true (hnl.1))) rfl ?_)
   refine AOps.nil ?_
   change AWP _ _ _ _ _ _
   refine AWP.condF rfl (nb (decide_eq_true (hnl.2.1))) ?_
   refine AWP.skip ?_
   change AWP _ _ _ _ _ _
   refine AWP.seq ?_
   refine AWP.seq ?_
   refine AWP.region (l := [0]) rfl ?_
   refine AOps.cons rfl rfl (AOp.assign (.int .i64 0) rfl rfl ?_)
   refine AOps.nil ?_
   change AWP _ _ _ _ _ _
   refine AWP.block ?_
   refine AWP.loop (fun q86 fq Hq => ∃ (i : Int), q86 = (((diceR p 0 0 s texs).1.Verts.length : Int) - i).toNat ∧ fq 12 = .int .i64 i ∧ fq 4 = .fptr [.str s.Name, .int .i64 s.Mat, .int .i64 s.Levels, .int .i64 s.Unit, .int .i64 s.Tex, .int .i64 s.Height] 0 ∧ fq 7 = .fptr [.sl (((diceR p 0 0 s texs).1).Verts).length ((((diceR p 0 0 s texs).1).Verts).flatMap eV), .sl (((diceR p 0 0 s texs).1).Keys).length ((((diceR p 0 0 s texs).1).Keys).flatMap eKey), .sl (((diceR p 0 0 s texs).1).Tris).length ((((diceR p 0 0 s texs).1).Tris).flatMap eI3)] 0 ∧ fq 10 = .ptr i71 0 0 ∧ Hq i50 = some (.row 0 ([.str s.Name, .int .i64 s.Mat, .int .i64 s.Levels, .int .i64 s.Unit, .int .i64 (-1), .int .i64 s.Height])) ∧ Hq i71 = some (.row 0 ([.sl (((diceR p 0 0 (SkinT.mk s.Name s.Mat s.Levels s.Unit (-1) s.Height) texs).1).Verts).length ((((diceR p 0 0 (SkinT.mk s.Name s.Mat s.Levels s.Unit (-1) s.Height) texs).1).Verts).flatMap eV), .sl (((diceR p 0 0 (SkinT.mk s.Name s.Mat s.Levels s.Unit (-1) s.Height) texs).1).Keys).length ((((diceR p 0 0 (SkinT.mk s.Name s.Mat s.Levels s.Unit (-1) s.Height) texs).1).Keys).flatMap eKey), .sl (((diceR p 0 0 (SkinT.mk s.Name s.Mat s.Levels s.Unit (-1) s.Height) texs).1).Tris).length ((((diceR p 0 0 (SkinT.mk s.Name s.Mat s.Levels s.Unit (-1) s.Height) texs).1).Tris).flatMap eI3)])) ∧ Mono H0 Hq ∧ (0 ≤ i) ∧ (i ≤ (diceR p 0 0 s texs).1.Verts.length)) (k := (((diceR p 0 0 s texs).1.Verts.length : Int) - 0).toNat) ?_ ?_
   ·
    exact ⟨0, rfl, rfl, rfl, rfl, rfl, h83, h81, m85, by omega, by omega⟩
   ·
    rintro _ f88 H87 ⟨i, rfl, s89, s90, s91, s92, h93, h94, m95, hi0, hi1⟩
    refine AWP.seq ?_
    refine AWP.seq ?_
    refine AWP.region (l := [0, 1, 2, 3, 4]) rfl ?_
    refine AOps.cons rfl rfl (AOp.move (.int .i64 i) rfl s89 ?_)
    refine AOps.cons rfl rfl (AOp.fieldAddrF rfl s91 fl_38_0 ?_)
    refine AOps.cons rfl rfl (AOp.loadF (.sl (((diceR p 0 0 s texs).1).Verts).length ((((diceR p 0 0 s texs).1).Verts).flatMap eV)) rfl rfl ty_34 rfl ?_)
    refine AOps.cons rfl rfl (AOp.len (m := (((diceR p 0 0 s texs).1).Verts).length) rfl rfl (.inr (.inl ⟨_, rfl⟩)) u_34 ?_)
    refine AOps.cons rfl rfl (AOp.bin (.bool (decide (i < (((((diceR p 0 0 s texs).1).Verts).length) : Int)))) rfl rfl rfl rfl ?_)
    refine AOps.nil ?_
    change AWP _ _ _ _ _ _
    by_cases b96 : i < (((((diceR p 0 0 s texs).1).Verts).length) : Int)
    ·
     refine AWP.condT rfl (decide_eq_true b96) ?_
     refine AWP.skip ?_
     change AWP _ _ _ _ _ _
     refine AWP.seq ?_
     refine AWP.block ?_
     refine AWP.seq ?_
     have hni := hnl.2.2.1 i hi0 (by omega)
     have iv97 : inV 60255 (at_ (((diceR p 0 0 s texs).1).Verts) i) := hni.1
     have iv98 : inV 60000 (at_ (((diceR p 0 0 (SkinT.mk s.Name s.Mat s.Levels s.Unit (-1) s.Height) texs).1).Verts) i) := hni.2.1
     skip
     refine AWP.region_quiet mixed (by kernel_rfl) 15 [] rfl (by kernel_rfl) (Mono H87) (Mono.refl _) ?_
     refine QE.op rfl rfl (.inl ⟨rfl, fun f' H' hf hM => AOp.fieldAddrF rfl ((hf 7 rfl).trans s91) fl_38_0 ⟨rfl, hM⟩⟩) ?_
     refine QE.op rfl rfl (.inl ⟨rfl, fun f' H' hf hM => AOp.loadF (.sl (((diceR p 0 0 s texs).1).Verts).length ((((diceR p 0 0 s texs).1).Verts).flatMap eV)) rfl ((hf 53 rfl).trans rfl) ty_34 rfl ⟨rfl, hM⟩⟩) ?_
     refine QE.op rfl rfl (.inl ⟨rfl, fun f' H' hf hM => AOp.move (.int .i64 i) rfl ((hf 12 rfl).trans s89) ⟨rfl, hM⟩⟩) ?_
     refine QE.op rfl rfl (.inl ⟨rfl, fun f' H' hf hM => AOp.indexAddrS rfl ((hf 54 rfl).trans rfl) ((hf 55 rfl).trans rfl) sl_34 (by omega) (by omega) ⟨rfl, hM⟩⟩) ?_
     refine QE.op rfl rfl (.inl ⟨rfl, fun f' H' hf hM => AOp.loadF (.agg [.int .i64 ((at_ (((diceR p 0 0 s texs).1).Verts) i).X), .int .i64 ((at_ (((diceR p 0 0 s texs).1).Verts) i).Y), .int .i64 ((at_ (((diceR p 0 0 s texs).1).Verts) i).Z)]) rfl ((hf 56 rfl).trans rfl) ty_23 (ldM eV_len (by omega) (by omega)) ⟨rfl, hM⟩⟩) ?_
     refine QE.op rfl rfl (.inl ⟨rfl, fun f' H' hf hM => AOp.fieldAddr rfl ((hf 10 rfl).trans s92) fl_38_0 ⟨rfl, hM⟩ (hid := ⟨_, (hM _ _ h94)⟩)⟩) ?_
     refine QE.op rfl rfl (.inl ⟨rfl, fun f' H' hf hM => AOp.load (.sl (((diceR p 0 0 (SkinT.mk s.Name s.Mat s.Levels s.Unit (-1) s.Height) texs).1).Verts).length ((((diceR p 0 0 (SkinT.mk s.Name s.Mat s.Levels s.Unit (-1) s.Height) texs).1).Verts).flatMap eV)) rfl ((hf 58 rfl).trans rfl) ty_34 (hM _ _ h94) rfl ⟨rfl, hM⟩⟩) ?_
     refine QE.op rfl rfl (.inl ⟨rfl, fun f' H' hf hM => AOp.move (.int .i64 i) rfl ((hf 12 rfl).trans s89) ⟨rfl, hM⟩⟩) ?_
     refine QE.op rfl rfl (.inl ⟨rfl, fun f' H' hf hM => AOp.indexAddrS rfl ((hf 59 rfl).trans rfl) ((hf 60 rfl).trans rfl) sl_34 (by omega) (by omega) ⟨rfl, hM⟩⟩) ?_
     refine QE.op rfl rfl (.inl ⟨rfl, fun f' H' hf hM => AOp.loadF (.agg [.int .i64 ((at_ (((diceR p 0 0 (SkinT.mk s.Name s.Mat s.Levels s.Unit (-1) s.Height) texs).1).Verts) i).X), .int .i64 ((at_ (((diceR p 0 0 (SkinT.mk s.Name s.Mat s.Levels s.Unit (-1) s.Height) texs).1).Verts) i).Y), .int .i64 ((at_ (((diceR p 0 0 (SkinT.mk s.Name s.Mat s.Levels s.Unit (-1) s.Height) texs).1).Verts) i).Z)]) rfl ((hf 61 rfl).trans rfl) ty_23 (ldM eV_len (by omega) (by omega)) ⟨rfl, hM⟩⟩) ?_
     refine QE.op rfl rfl (.inl ⟨rfl, fun f' H' hf hM => AOp.pcall («as» := [.agg [.int .i64 ((at_ (((diceR p 0 0 s texs).1).Verts) i).X), .int .i64 ((at_ (((diceR p 0 0 s texs).1).Verts) i).Y), .int .i64 ((at_ (((diceR p 0 0 s texs).1).Verts) i).Z)], .agg [.int .i64 ((at_ (((diceR p 0 0 (SkinT.mk s.Name s.Mat s.Levels s.Unit (-1) s.Height) texs).1).Verts) i).X), .int .i64 ((at_ (((diceR p 0 0 (SkinT.mk s.Name s.Mat s.Levels s.Unit (-1) s.Height) texs).1).Verts) i).Y), .int .i64 ((at_ (((diceR p 0 0 (SkinT.mk s.Name s.Mat s.Levels s.Unit (-1) s.Height) texs).1).Verts) i).Z)]]) rfl rfl (lapp (lcons ((hf 57 rfl).trans rfl) (lcons ((hf 62 rfl).trans rfl) rfl)) rfl) tf_19 (c_ref02_Sub (at_ (((diceR p 0 0 s texs).1).Verts) i) (at_ (((diceR p 0 0 (SkinT.mk s.Name s.Mat s.Levels s.Unit (-1) s.Height) texs).1).Verts) i) (inV_le iv97 (by decide)) (inV_le iv98 (by decide))) fun H2 m2 => ⟨rfl, hM.trans m2⟩⟩) ?_
     refine QE.op rfl rfl (.inl ⟨rfl, fun f' H' hf hM => AOp.fieldAddrF rfl ((hf 4 rfl).trans s90) fl_30_5 ⟨rfl, hM⟩⟩) ?_
     refine QE.op rfl rfl (.inl ⟨rfl, fun f' H' hf hM => AOp.loadF (.int .i64 s.Height) rfl ((hf 64 rfl).trans rfl) ty_3 rfl ⟨rfl, hM⟩⟩) ?_
     refine QE.op rfl rfl (.inl ⟨rfl, fun f' H' hf hM => AOp.pcall («as» := [.agg [.int .i64 ((R_ref02_Sub (at_ (((diceR p 0 0 s texs).1).Verts) i) (at_ (((diceR p 0 0 (SkinT.mk s.Name s.Mat s.Levels s.Unit (-1) s.Height) texs).1).Verts) i)).X), .int .i64 ((R_ref02_Sub (at_ (((diceR p 0 0 s texs).1).Verts) i) (at_ (((diceR p 0 0 (SkinT.mk s.Name s.Mat s.Levels s.Unit (-1) s.Height) texs).1).Verts) i)).Y), .int .i64 ((R_ref02_Sub (at_ (((diceR p 0 0 s texs).1).Verts) i) (at_ (((diceR p 0 0 (SkinT.mk s.Name s.Mat s.Levels s.Unit (-1) s.Height) texs).1).Verts) i)).Z)], .int .i64 s.Height]) rfl rfl (lapp (lcons ((hf 63 rfl).trans rfl) (lcons ((hf 65 rfl).trans rfl) rfl)) rfl) tf_18 (c_vec_Within (R_ref02_Sub (at_ (((diceR p 0 0 s texs).1).Verts) i) (at_ (((diceR p 0 0 (SkinT.mk s.Name s.Mat s.Levels s.Unit (-1) s.Height) texs).1).Verts) i)) s.Height (by first | omega | assumption | (constructor <;> omega) | simp)) fun H2 m2 => ⟨rfl, hM.trans m2⟩⟩) ?_
     refine QE.op rfl rfl (.inl ⟨rfl, fun f' H' hf hM => AOp.not rfl ((hf 66 rfl).trans rfl) ⟨rfl, hM⟩⟩) ?_
     refine QE.done fun H99 m100 => ?_
     have h101 := m100 _ _ h93
     have h102 := m100 _ _ h94
     have m103 := m95.trans m100
     refine AOps.nil ?_
     change AWP _ _ _ _ _ _
     refine AWP.condF rfl (nb (hni.2.2)) ?_
     refine AWP.skip ?_
     change AWP _ _ _ _ _ _
     refine AWP.region (l := [0, 1, 2]) rfl ?_
     refine AOps.cons rfl rfl (AOp.move (.int .i64 i) rfl s89 ?_)
     refine AOps.cons rfl rfl (AOp.bin (.int .i64 (i + 1)) rfl rfl rfl (iadd (by omega)) ?_)
     refine AOps.cons rfl rfl (AOp.assign (.int .i64 (i + 1)) rfl rfl ?_)
     refine AOps.nil ?_
     exact ⟨_, by omega, i + 1, rfl, rfl, s90, s91, s92, h101, h102, m103, by omega, by omega⟩
    ·
     refine AWP.condF rfl (decide_eq_false b96) ?_
     refine AWP.exit ?_
     change AWP _ _ _ _ _ _
     refine AWP.seq ?_
     refine AWP.region (l := [0, 1, 2, 3]) rfl ?_
     refine AOps.cons rfl rfl (AOp.fieldAddrF rfl s91 fl_38_0 ?_)
     refine AOps.cons rfl rfl (AOp.loadF (.sl (((diceR p 0 0 s texs).1).Verts).length ((((diceR p 0 0 s texs).1).Verts).flatMap eV)) rfl rfl ty_34 rfl ?_)
     refine AOps.cons rfl rfl (AOp.fieldAddr rfl s92 fl_38_0 ?_ (hid := ⟨_, h94⟩))
     refine AOps.cons rfl rfl (AOp.store' (cells' := [.sl (((diceR p 0 0 s texs).1).Verts).length ((((diceR p 0 0 s texs).1).Verts).flatMap eV), .sl (((diceR p 0 0 (SkinT.mk s.Name s.Mat s.Levels s.Unit (-1) s.Height) texs).1).Keys).length ((((diceR p 0 0 (SkinT.mk s.Name s.Mat s.Levels s.Unit (-1) s.Height) texs).1).Keys).flatMap eKey), .sl (((diceR p 0 0 (SkinT.mk s.Name s.Mat s.Levels s.Unit (-1) s.Height) texs).1).Tris).length ((((diceR p 0 0 (SkinT.mk s.Name s.Mat s.Levels s.Unit (-1) s.Height) texs).1).Tris).flatMap eI3)]) (.sl (((diceR p 0 0 s texs).1).Verts).length ((((diceR p 0 0 s texs).1).Verts).flatMap eV)) rfl rfl ts_34 h94 rfl rfl rfl rfl ?_)
     intro H104 h105 k106
     have h107 := keep k106 e76 h93
     have m109 := Mono.set m95 z77 k106
     refine AOps.nil ?_
     change AWP _ _ _ _ _ _
     refine AWP.seq ?_
     have q1 : (diceR p 0 0 s texs).1.Verts.length ≤ 1048576 := by omega
     have q2 : (diceR p 0 0 s texs).1.Keys.length ≤ 1048576 := by omega
     have q3 : (diceR p 0 0 s texs).1.Tris.length ≤ 1048576 := by omega
     have q4 : (diceR p 0 0 (SkinT.mk s.Name s.Mat s.Levels s.Unit (-1) s.Height) texs).1.Keys.length ≤ 1048576 := by omega
     have q5 : (diceR p 0 0 (SkinT.mk s.Name s.Mat s.Levels s.Unit (-1) s.Height) texs).1.Tris.length ≤ 1048576 := by omega
     have q6 : ranM (diceR p 0 0 s texs).1 := ranM_dice (inR_small (by omega)) (inR_small (by omega)) hpc
     have q7 : ranM (MeshT.mk (diceR p 0 0 s texs).1.Verts (diceR p 0 0 (SkinT.mk s.Name s.Mat s.Levels s.Unit (-1) s.Height) texs).1.Keys (diceR p 0 0 (SkinT.mk s.Name s.Mat s.Levels s.Unit (-1) s.Height) texs).1.Tris) := by rw [← hnl.2.2.2.1]; exact q6
     refine AWP.region (l := [0, 1, 2, 3]) rfl ?_
     refine AOps.cons rfl rfl (AOp.loadF (.agg [.sl (((diceR p 0 0 s texs).1).Verts).length ((((diceR p 0 0 s texs).1).Verts).flatMap eV), .sl (((diceR p 0 0 s texs).1).Keys).length ((((diceR p 0 0 s texs).1).Keys).flatMap eKey), .sl (((diceR p 0 0 s texs).1).Tris).length ((((diceR p 0 0 s texs).1).Tris).flatMap eI3)]) rfl s91 ty_38 rfl ?_)
     refine AOps.cons rfl rfl (AOp.load (.agg [.sl (((diceR p 0 0 s texs).1).Verts).length ((((diceR p 0 0 s texs).1).Verts).flatMap eV), .sl (((diceR p 0 0 (SkinT.mk s.Name s.Mat s.Levels s.Unit (-1) s.Height) texs).1).Keys).length ((((diceR p 0 0 (SkinT.mk s.Name s.Mat s.Levels s.Unit (-1) s.Height) texs).1).Keys).flatMap eKey), .sl (((diceR p 0 0 (SkinT.mk s.Name s.Mat s.Levels s.Unit (-1) s.Height) texs).1).Tris).length ((((diceR p 0 0 (SkinT.mk s.Name s.Mat s.Levels s.Unit (-1) s.Height) texs).1).Tris).flatMap eI3)]) rfl s92 ty_38 h105 rfl ?_)
     refine AOps.cons rfl rfl (AOp.pcall («as» := [.agg [.sl (((diceR p 0 0 s texs).1).Verts).length ((((diceR p 0 0 s texs).1).Verts).flatMap eV), .sl (((diceR p 0 0 s texs).1).Keys).length ((((diceR p 0 0 s texs).1).Keys).flatMap eKey), .sl (((diceR p 0 0 s texs).1).Tris).length ((((diceR p 0 0 s texs).1).Tris).flatMap eI3)], .agg [.sl (((diceR p 0 0 s texs).1).Verts).length ((((diceR p 0 0 s texs).1).Verts).flatMap eV), .sl (((diceR p 0 0 (SkinT.mk s.Name s.Mat s.Levels s.Unit (-1) s.Height) texs).1).Keys).length ((((diceR p 0 0 (SkinT.mk s.Name s.Mat s.Levels s.Unit (-1) s.Height) texs).1).Keys).flatMap eKey), .sl (((diceR p 0 0 (SkinT.mk s.Name s.Mat s.Levels s.Unit (-1) s.Height) texs).1).Tris).length ((((diceR p 0 0 (SkinT.mk s.Name s.Mat s.Levels s.Unit (-1) s.Height) texs).1).Tris).flatMap eI3)]]) rfl rfl (rfl) tf_17 (c_SameMesh ((diceR p 0 0 s texs).1) (MeshT.mk (((diceR p 0 0 s texs).1).Verts) (((diceR p 0 0 (SkinT.mk s.Name s.Mat s.Levels s.Unit (-1) s.Height) texs).1).Keys) (((diceR p 0 0 (SkinT.mk s.Name s.Mat s.Levels s.Unit (-1) s.Height) texs).1).Tris)) (by assumption) (by assumption) (by assumption) (by assumption) (by assumption) (by assumption) (by assumption) (by assumption)) ?_)
     intro H110 m111
     have h112 := m111 _ _ h107
     have h113 := m111 _ _ h105
     have m114 := m109.trans m111
     refine AOps.cons rfl rfl (AOp.assign (.bool (decide (((diceR p 0 0 s texs).1).Verts = (MeshT.mk (((diceR p 0 0 s texs).1).Verts) (((diceR p 0 0 (SkinT.mk s.Name s.Mat s.Levels s.Unit (-1) s.Height) texs).1).Keys) (((diceR p 0 0 (SkinT.mk s.Name s.Mat s.Levels s.Unit (-1) s.Height) texs).1).Tris)).Verts ∧ ((diceR p 0 0 s texs).1).Keys = (MeshT.mk (((diceR p 0 0 s texs).1).Verts) (((diceR p 0 0 (SkinT.mk s.Name s.Mat s.Levels s.Unit (-1) s.Height) texs).1).Keys) (((diceR p 0 0 (SkinT.mk s.Name s.Mat s.Levels s.Unit (-1) s.Height) texs).1).Tris)).Keys ∧ ((diceR p 0 0 s texs).1).Tris = (MeshT.mk (((diceR p 0 0 s texs).1).Verts) (((diceR p 0 0 (SkinT.mk s.Name s.Mat s.Levels s.Unit (-1) s.Height) texs).1).Keys) (((diceR p 0 0 (SkinT.mk s.Name s.Mat s.Levels s.Unit (-1) s.Height) texs).1).Tris)).Tris))) rfl rfl ?_)
     refine AOps.nil ?_
     change AWP _ _ _ _ _ _
     refine AWP.ret ?_
     refine ⟨_, _, Ghost.refl, .inr rfl, _, Res.one rfl rfl, ?_, m114⟩
     exact (congrArg AV.bool (show (decide (((diceR p 0 0 s texs).1).Verts = (MeshT.mk (((diceR p 0 0 s texs).1).Verts) (((diceR p 0 0 (SkinT.mk s.Name s.Mat s.Levels s.Unit (-1) s.Height) texs).1).Keys) (((diceR p 0 0 (SkinT.mk s.Name s.Mat s.Levels s.Unit (-1) s.Height) texs).1).Tris)).Verts ∧ ((diceR p 0 0 s texs).1).Keys = (MeshT.mk (((diceR p 0 0 s texs).1).Verts) (((diceR p 0 0 (SkinT.mk s.Name s.Mat s.Levels s.Unit (-1) s.Height) texs).1).Keys) (((diceR p 0 0 (SkinT.mk s.Name s.Mat s.Levels s.Unit (-1) s.Height) texs).1).Tris)).Keys ∧ ((diceR p 0 0 s texs).1).Tris = (MeshT.mk (((diceR p 0 0 s texs).1).Verts) (((diceR p 0 0 (SkinT.mk s.Name s.Mat s.Levels s.Unit (-1) s.Height) texs).1).Keys) (((diceR p 0 0 (SkinT.mk s.Name s.Mat s.Levels s.Unit (-1) s.Height) texs).1).Tris)).Tris) : Bool) = true from by first | rfl | (exact decide_eq_true ⟨rfl, by conv => lhs; rw [hnl.2.2.2.1], by conv => lhs; rw [hnl.2.2.2.1]⟩) | omega))
  ·
   refine AWP.condT rfl (nb (decide_eq_false b49)) ?_
   refine AWP.seq ?_
   refine AWP.region (l := [0]) rfl ?_
   refine AOps.cons rfl rfl (AOp.assign (.bool true) rfl rfl ?_)
   refine AOps.nil ?_
   change AWP _ _ _ _ _ _
   refine AWP.ret ?_
   refine ⟨_, _, Ghost.refl, .inr rfl, _, Res.one rfl rfl, ?_, m47⟩
   exact rfl
end Go.Proofs.M
