/- A part of the proof that a law of the edges and fans of faces answers true for every input of its bulk: own work, by an AI agent. -/
import Derived.Test.YtfgfalidpbbkhaaTSort
set_option linter.unusedVariables false
set_option linter.unusedSimpArgs false
namespace Go.Proofs.T
open Go Go.AH
/-! ### The edges -/
def edgeOf (fs : List (List Int)) (w : Int × Int) : List Ed :=
  if w.1 < w.2 ∨ ¬ 0 ≤ alongS fs w.2 w.1 then [⟨min w.1 w.2, max w.1 w.2, alongS fs (min w.1 w.2) (max w.1 w.2), alongS fs (max w.1 w.2) (min w.1 w.2)⟩] else []
def edgeJ (fs : List (List Int)) (j : Nat) : List Ed := edgeOf fs ((sides fs)[j]?.getD default).1
theorem seen_T {fs : List (List Int)} {seen : List Nat} {j : Nat} {s : (Int × Int) × Nat} (hs : (sides fs)[j]? = some s) (h : s.1.1 < s.1.2 ∨ ¬ 0 ≤ alongS fs s.1.2 s.1.1) :
    (seen ++ [j]).flatMap (edgeJ fs) = seen.flatMap (edgeJ fs) ++ [⟨min s.1.1 s.1.2, max s.1.1 s.1.2, alongS fs (min s.1.1 s.1.2) (max s.1.1 s.1.2), alongS fs (max s.1.1 s.1.2) (min s.1.1 s.1.2)⟩] := by
  rw [List.flatMap_append]; simp only [List.flatMap_cons, List.flatMap_nil, List.append_nil]
  unfold edgeJ edgeOf; rw [hs]; simp only [Option.getD_some]; rw [if_pos h]
theorem seen_F {fs : List (List Int)} {seen : List Nat} {j : Nat} {s : (Int × Int) × Nat} (hs : (sides fs)[j]? = some s) (h : ¬ (s.1.1 < s.1.2 ∨ ¬ 0 ≤ alongS fs s.1.2 s.1.1)) :
    (seen ++ [j]).flatMap (edgeJ fs) = seen.flatMap (edgeJ fs) := by
  rw [List.flatMap_append]; simp only [List.flatMap_cons, List.flatMap_nil, List.append_nil]
  unfold edgeJ edgeOf; rw [hs]; simp only [Option.getD_some]; rw [if_neg h]; simp
theorem edgeJ_len (fs : List (List Int)) (j : Nat) : (edgeJ fs j).length ≤ 1 := by unfold edgeJ edgeOf; split <;> simp
theorem seen_len (fs : List (List Int)) (seen : List Nat) : (seen.flatMap (edgeJ fs)).length ≤ seen.length := by
  induction seen with
  | nil => simp
  | cons j seen ih => rw [List.flatMap_cons, List.length_append, List.length_cons]; have := edgeJ_len fs j; omega
theorem seen_le {seen : List Nat} {n : Nat} (hn : seen.Nodup) (h : ∀ j ∈ seen, j < n) : seen.length ≤ n := by
  have := List.Nodup.length_le_of_subset hn (l₂ := List.range n) (fun j hj => List.mem_range.2 (h j hj))
  simpa using this
theorem seen_lt {seen : List Nat} {n j : Nat} (hn : seen.Nodup) (h : ∀ j ∈ seen, j < n) (hj : j ∉ seen) (hjn : j < n) : seen.length < n := by
  have := seen_le (seen := j :: seen) (n := n) (List.nodup_cons.2 ⟨hj, hn⟩) (fun i hi => by
    rcases List.mem_cons.1 hi with rfl | hi
    · exact hjn
    · exact h i hi)
  simp only [List.length_cons] at this
  omega
theorem mem_eOut {fs : List (List Int)} {n : Int} {x : Ed} : x ∈ eOut fs n n ↔ 0 ≤ x.A ∧ x.A < x.B ∧ x.B < n ∧ x.F = alongS fs x.A x.B ∧ x.G = alongS fs x.B x.A ∧ (0 ≤ x.F ∨ 0 ≤ x.G) := by
  unfold eOut
  rw [List.mem_flatMap]
  constructor
  · rintro ⟨a, ha, h⟩
    unfold eIn at h
    rw [List.mem_flatMap] at h
    obtain ⟨b, hb, h⟩ := h
    rw [List.mem_range] at ha hb
    split at h
    · unfold eAt at h
      split at h
      · simp only [List.mem_singleton] at h
        subst h
        exact ⟨by simp, by assumption, by simp; omega, rfl, rfl, by assumption⟩
      · simp at h
    · simp at h
  · rintro ⟨h1, h2, h3, h4, h5, h6⟩
    refine ⟨x.A.toNat, List.mem_range.2 (by omega), ?_⟩
    unfold eIn
    rw [List.mem_flatMap]
    refine ⟨x.B.toNat, List.mem_range.2 (by omega), ?_⟩
    rw [Int.toNat_of_nonneg h1, Int.toNat_of_nonneg (by omega), if_pos h2]
    unfold eAt
    rw [if_pos (by rw [← h4, ← h5]; exact h6), ← h4, ← h5]
    simp
theorem eOut_sorted (fs : List (List Int)) (n : Int) : (eOut fs n n).Pairwise ltE := by
  unfold eOut
  rw [List.pairwise_flatMap]
  refine ⟨fun a _ => ?_, ?_⟩
  · unfold eIn
    rw [List.pairwise_flatMap]
    refine ⟨fun b _ => ?_, ?_⟩
    · split
      · unfold eAt; split <;> simp
      · simp
    · refine List.pairwise_lt_range.imp ?_
      intro b c hbc x hx y hy
      split at hx
      · unfold eAt at hx
        split at hx
        · split at hy
          · unfold eAt at hy
            split at hy
            · simp at hx hy; subst hx hy; right; exact ⟨rfl, by simp; exact hbc⟩
            · simp at hy
          · simp at hy
        · simp at hx
      · simp at hx
  · refine List.pairwise_lt_range.imp ?_
    intro a c hac x hx y hy
    have hA : ∀ (a : Nat) x, x ∈ eIn fs a n → x.A = a := by
      intro a x hx
      unfold eIn at hx
      rw [List.mem_flatMap] at hx
      obtain ⟨b, _, h⟩ := hx
      split at h
      · unfold eAt at h
        split at h
        · simp at h; subst h; rfl
        · simp at h
      · simp at h
    left
    rw [hA a x hx, hA c y hy]; omega
theorem eOut_small {fs : List (List Int)} {n : Int} : ∀ x ∈ eOut fs n n, 0 ≤ x.A ∧ x.A < n ∧ 0 ≤ x.B ∧ x.B < n ∧ -2 ≤ x.F ∧ x.F < fs.length ∧ -2 ≤ x.G ∧ x.G < fs.length ∨ x.F = -2 := by
  intro x hx
  obtain ⟨h1, h2, h3, h4, h5, h6⟩ := mem_eOut.1 hx
  have a := along_lt fs x.A x.B
  have b := along_lt fs x.B x.A
  left
  rw [← h4] at a
  rw [← h5] at b
  by_cases c : 0 ≤ x.F <;> by_cases d : 0 ≤ x.G
  · have := a.2 c; have := b.2 d; omega
  · have := a.2 c; omega
  · have := b.2 d; omega
  · omega
/-- What an edge's side tells. -/
theorem side_in {n : Int} {fs : List (List Int)} (hg : goodS n fs) {s : (Int × Int) × Nat} (hs : s ∈ sides fs) : 0 ≤ s.1.1 ∧ s.1.1 < n ∧ 0 ≤ s.1.2 ∧ s.1.2 < n ∧ s.1.1 ≠ s.1.2 ∧ 0 ≤ alongS fs s.1.1 s.1.2 := by
  obtain ⟨h1, h2⟩ := mem_sides.1 (show (s.1, s.2) ∈ sides fs from hs)
  obtain ⟨j, j0, j1, e1, e2⟩ := mem_wayF.1 (show (s.1.1, s.1.2) ∈ wayF _ from h2)
  have hf := hg s.2 (by omega) (by omega)
  have g1 := hf.2.1 j j0 j1
  have g2 := mod_in (x := j + 1) (y := (at_ fs (s.2 : Int)).length) (by omega)
  have g3 := hf.2.1 _ g2.1 g2.2
  have g4 := hf.2.2.2 j j0 j1
  rw [← e1] at g1 g4
  rw [← e2] at g3 g4
  refine ⟨g1.1, g1.2, g3.1, g3.2, fun e => ?_, g4⟩
  rw [e1, e2] at e
  have := Apart.eq hf.2.2.1 j0 j1 g2.1 g2.2 e
  by_cases c : j + 1 = (at_ fs (s.2 : Int)).length
  · rw [c, Int.emod_self] at this; have := hf.1; omega
  · rw [Int.emod_eq_of_lt (by omega) (by omega)] at this; omega
theorem mem_edgeOf {n : Int} {fs : List (List Int)} (hg : goodS n fs) {x : Ed} : (∃ s ∈ sides fs, x ∈ edgeOf fs s.1) ↔ x ∈ eOut fs n n := by
  rw [mem_eOut]
  constructor
  · rintro ⟨s, hs, hx⟩
    obtain ⟨h1, h2, h3, h4, h5, h6⟩ := side_in hg hs
    unfold edgeOf at hx
    split at hx
    · simp only [List.mem_singleton] at hx
      subst hx
      refine ⟨by dsimp only; omega, by dsimp only; omega, by dsimp only; omega, rfl, rfl, ?_⟩
      dsimp only
      by_cases c : s.1.1 < s.1.2
      · left; rw [Int.min_eq_left (by omega), Int.max_eq_right (by omega)]; exact h6
      · right; rw [Int.min_eq_right (by omega), Int.max_eq_left (by omega)]; exact h6
    · simp at hx
  · rintro ⟨h1, h2, h3, h4, h5, h6⟩
    have key : ∀ a b : Int, 0 ≤ alongS fs a b → ((a, b), (alongS fs a b).toNat) ∈ sides fs := fun a b h => by
      obtain ⟨k1, k2, _⟩ := along_some h
      rw [mem_sides]
      refine ⟨by omega, ?_⟩
      rw [Int.toNat_of_nonneg h]; exact k2
    by_cases c : 0 ≤ alongS fs x.A x.B
    · refine ⟨_, key _ _ c, ?_⟩
      unfold edgeOf
      rw [if_pos (.inl h2)]
      simp only [List.mem_singleton]
      rw [Int.min_eq_left (by omega), Int.max_eq_right (by omega), ← h4, ← h5]
    · have d : 0 ≤ alongS fs x.B x.A := by rw [h4, h5] at h6; exact h6.resolve_left c
      refine ⟨_, key _ _ d, ?_⟩
      unfold edgeOf
      rw [if_pos (.inr c)]
      simp only [List.mem_singleton]
      rw [Int.min_eq_right (by omega), Int.max_eq_left (by omega), ← h4, ← h5]
theorem seen_nodup {n : Int} {fs : List (List Int)} (hg : goodS n fs) {seen : List Nat} (hn : seen.Nodup) (hl : ∀ j ∈ seen, j < (sides fs).length) : (seen.flatMap (edgeJ fs)).Nodup := by
  rw [List.nodup_iff_pairwise_ne, List.pairwise_flatMap]
  refine ⟨fun j _ => ?_, ?_⟩
  · unfold edgeJ edgeOf; split <;> simp
  · rw [List.nodup_iff_pairwise_ne] at hn
    refine List.Pairwise.imp_of_mem ?_ hn
    intro i j hi hj hij x hx y hy e
    subst e
    have hi' := hl i hi
    have hj' := hl j hj
    have hsi : (sides fs)[i]? = some (sides fs)[i] := List.getElem?_eq_getElem hi'
    have hsj : (sides fs)[j]? = some (sides fs)[j] := List.getElem?_eq_getElem hj'
    have hki := side_in hg (List.getElem_mem hi')
    have hkj := side_in hg (List.getElem_mem hj')
    unfold edgeJ at hx hy
    rw [hsi] at hx
    rw [hsj] at hy
    simp only [Option.getD_some] at hx hy
    have hk := good_keys hg
    unfold Keys at hk
    have hne : ((sides fs)[i]).1 ≠ ((sides fs)[j]).1 := by
      intro e
      have h1 := List.nodup_iff_pairwise_ne.1 hk
      rw [List.pairwise_map, List.pairwise_iff_getElem] at h1
      rcases Nat.lt_trichotomy i j with h | h | h
      · exact h1 i j hi' hj' h e
      · exact hij h
      · exact h1 j i hj' hi' h e.symm
    generalize (sides fs)[i] = s at hx hki hne
    generalize (sides fs)[j] = t at hy hkj hne
    obtain ⟨⟨s1, s2⟩, s3⟩ := s
    obtain ⟨⟨t1, t2⟩, t3⟩ := t
    simp only at hx hy hki hkj hne
    unfold edgeOf at hx hy
    simp only at hx hy
    split at hx
    · rename_i cx
      split at hy
      · rename_i cy
        simp only [List.mem_singleton] at hx hy
        rw [hx] at hy
        have e1 := congrArg Ed.A hy
        have e2 := congrArg Ed.B hy
        simp only at e1 e2
        have : (s1 = t1 ∧ s2 = t2) ∨ (s1 = t2 ∧ s2 = t1) := by omega
        rcases this with ⟨rfl, rfl⟩ | ⟨rfl, rfl⟩
        · exact hne rfl
        · have h1 := hki.2.2.2.2.2
          have h2 := hkj.2.2.2.2.2
          rcases cx with cx | cx
          · rcases cy with cy | cy
            · omega
            · exact cy h1
          · exact cx h2
      · simp at hy
    · simp at hx
theorem edges_eq {n : Int} {fs : List (List Int)} (hg : goodS n fs) {seen : List Nat} (hn : seen.Nodup) (hl : ∀ j ∈ seen, j < (sides fs).length) (hall : ∀ j, j < (sides fs).length → j ∈ seen) {l : List Ed}
    (hp : l.Perm (seen.flatMap (edgeJ fs))) (hs : l.Pairwise fun x y => lessE y x = false) : l = eOut fs n n := by
  have hnd : (eOut fs n n).Nodup := by
    rw [List.nodup_iff_pairwise_ne]
    refine (eOut_sorted fs n).imp ?_
    intro x y h e
    subst e; unfold ltE at h; omega
  have hmem : ∀ x, x ∈ seen.flatMap (edgeJ fs) ↔ x ∈ eOut fs n n := by
    intro x
    rw [← mem_edgeOf hg, List.mem_flatMap]
    constructor
    · rintro ⟨j, hj, hx⟩
      have hj' := hl j hj
      unfold edgeJ at hx
      rw [List.getElem?_eq_getElem hj'] at hx
      exact ⟨_, List.getElem_mem hj', hx⟩
    · rintro ⟨s, hs, hx⟩
      obtain ⟨j, hj, rfl⟩ := List.getElem_of_mem hs
      refine ⟨j, hall j hj, ?_⟩
      unfold edgeJ
      rw [List.getElem?_eq_getElem hj]; exact hx
  have hp2 : (seen.flatMap (edgeJ fs)).Perm (eOut fs n n) := (List.perm_ext_iff_of_nodup (seen_nodup hg hn hl) hnd).2 hmem
  have hp3 := hp.trans hp2
  refine List.Perm.eq_of_pairwise (le := fun x y => lessE y x = false) (fun x y hx hy h1 h2 => ?_) hs ((eOut_sorted fs n).imp ?_) hp3
  · have hx' := mem_eOut.1 (hp3.mem_iff.1 hx)
    have hy' := mem_eOut.1 hy
    have a : ¬ ltE y x := fun h => by rw [(lessE_iff y x).2 h] at h1; cases h1
    have b : ¬ ltE x y := fun h => by rw [(lessE_iff x y).2 h] at h2; cases h2
    unfold ltE at a b
    have eA : x.A = y.A := by omega
    have eB : x.B = y.B := by omega
    have eF : x.F = y.F := by rw [hx'.2.2.2.1, hy'.2.2.2.1, eA, eB]
    have eG : x.G = y.G := by rw [hx'.2.2.2.2.1, hy'.2.2.2.2.1, eA, eB]
    cases x; cases y; simp_all
  · intro x y h
    cases hc : lessE y x with
    | false => rfl
    | true => have := (lessE_iff y x).1 hc; unfold ltE at h this; omega
theorem eS_get {L : List ((Int × Int) × Nat)} {j : Nat} {e : AV × AV} (h : (L.map eS)[j]? = some e) : ∃ s, L[j]? = some s ∧ e = eS s := by
  rw [List.getElem?_map, Option.map_eq_some_iff] at h
  obtain ⟨s, h1, h2⟩ := h
  exact ⟨s, h1, h2.symm⟩
theorem nd_snoc {seen : List Nat} {j : Nat} (h : seen.Nodup) (hj : j ∉ seen) : (seen ++ [j]).Nodup := by
  rw [List.nodup_append]
  refine ⟨h, by simp, fun a ha b hb => ?_⟩
  simp at hb; subst hb
  rintro rfl; exact hj ha
theorem lt_snoc {seen : List Nat} {j n : Nat} (h : ∀ i ∈ seen, i < n) (hj : j < n) : ∀ i ∈ seen ++ [j], i < n := by
  intro i hi
  rcases List.mem_append.1 hi with hi | hi
  · exact h i hi
  · simp at hi; omega
end Go.Proofs.T
