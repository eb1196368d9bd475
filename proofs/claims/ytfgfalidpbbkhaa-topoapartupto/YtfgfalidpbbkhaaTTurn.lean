/- A part of the proof that a law of the edges and fans of faces answers true for every input of its bulk: own work, by an AI agent. -/
import Derived.Test.YtfgfalidpbbkhaaTCnt
set_option linter.unusedVariables false
set_option linter.unusedSimpArgs false
namespace Go.Proofs.T
open Go Go.AH
/-! ### Faces the other way round -/
def backS (fs : List (List Int)) : List (List Int) := fs.map List.reverse
theorem back_len (fs : List (List Int)) : (backS fs).length = fs.length := by simp [backS]
theorem back_at (fs : List (List Int)) (i : Int) : at_ (backS fs) i = (at_ fs i).reverse := by
  unfold at_ backS
  rw [List.getD_eq_getElem?_getD, List.getD_eq_getElem?_getD, List.getElem?_map]
  cases fs[i.toNat]? <;> rfl
theorem back_back (fs : List (List Int)) : backS (backS fs) = fs := by
  unfold backS
  rw [List.map_map]
  conv => rhs; rw [← List.map_id fs]
  apply List.map_congr_left
  intro l _; simp
theorem rev_at {l : List Int} {i : Int} (h0 : 0 ≤ i) (h1 : i < l.length) : at_ l.reverse i = at_ l (l.length - 1 - i) := by
  have e : ((l.length : Int) - 1 - i).toNat = l.length - 1 - i.toNat := by omega
  have h : i.toNat < l.length := by omega
  have h2 : l.length - 1 - i.toNat < l.length := by omega
  unfold at_
  rw [List.getD_eq_getElem?_getD, List.getD_eq_getElem?_getD, List.getElem?_reverse h, e]
theorem succ_mod {n i : Nat} (h : i < n) : (i + 1) % n = if i + 1 < n then i + 1 else 0 := by
  split
  · exact Nat.mod_eq_of_lt (by assumption)
  · have : i + 1 = n := by omega
    rw [this, Nat.mod_self]
theorem modc (n i : Nat) : ((i : Int) + 1) % (n : Int) = (((i + 1) % n : Nat) : Int) := by rw [Int.natCast_emod]; rfl
theorem way_rev (l : List Int) : (wayF l.reverse).Perm ((wayF l).map fun w => (w.2, w.1)) := by
  unfold wayF
  rw [List.length_reverse, List.map_map]
  have hp : ((List.range l.length).map fun i => l.length - 1 - (i + 1) % l.length).Perm (List.range l.length) := by
    refine (List.perm_ext_iff_of_nodup ?_ List.nodup_range).2 fun j => ?_
    · rw [List.nodup_iff_pairwise_ne, List.pairwise_map]
      refine List.Pairwise.imp_of_mem ?_ List.pairwise_lt_range
      intro a b ha hb hab
      rw [List.mem_range] at ha hb
      rw [succ_mod ha, succ_mod hb]
      split <;> split <;> omega
    · rw [List.mem_map, List.mem_range]
      constructor
      · rintro ⟨i, hi, rfl⟩; rw [List.mem_range] at hi; omega
      · intro hj
        by_cases g : j = l.length - 1
        · refine ⟨l.length - 1, List.mem_range.2 (by omega), ?_⟩
          rw [succ_mod (by omega), if_neg (by omega)]; omega
        · refine ⟨l.length - 2 - j, List.mem_range.2 (by omega), ?_⟩
          rw [succ_mod (by omega), if_pos (by omega)]; omega
  have e : (List.range l.length).map (fun (i : Nat) => (at_ l.reverse (i : Int), at_ l.reverse (((i : Int) + 1) % (l.length : Int)))) =
      ((List.range l.length).map fun i => l.length - 1 - (i + 1) % l.length).map ((fun w : Int × Int => (w.2, w.1)) ∘ fun (i : Nat) => (at_ l (i : Int), at_ l (((i : Int) + 1) % (l.length : Int)))) := by
    rw [List.map_map]
    apply List.map_congr_left
    intro i hi
    rw [List.mem_range] at hi
    have hm : (i + 1) % l.length < l.length := Nat.mod_lt _ (by omega)
    simp only [Function.comp_apply, modc]
    rw [rev_at (by omega) (by omega), rev_at (by omega) (by omega)]
    congr 1
    · congr 1
      rw [succ_mod (i := l.length - 1 - (i + 1) % l.length) (by omega), succ_mod hi]
      split <;> split <;> omega
    · congr 1; omega
  rw [e]
  exact hp.map _
theorem side_rev (fs : List (List Int)) : ∀ k, (sidesFrom k (backS fs)).Perm ((sidesFrom k fs).map fun s => ((s.1.2, s.1.1), s.2)) := by
  induction fs with
  | nil => intro k; exact .refl _
  | cons l fs ih =>
    intro k
    show ((wayF l.reverse).map (fun w => (w, k)) ++ sidesFrom (k + 1) (backS fs)).Perm _
    rw [sidesFrom, List.map_append]
    refine List.Perm.append ?_ (ih _)
    have := (way_rev l).map fun w => (w, k)
    rw [List.map_map] at this ⊢
    exact this
theorem along_of_perm {L M : List ((Int × Int) × Nat)} {a b c d : Int} (h : (hitsL L a b).Perm (hitsL M c d)) : alongL L a b = alongL M c d := by
  have hl := h.length_eq
  rcases alongL_cases L a b with ⟨h1, h2⟩ | ⟨f, h1, h2⟩ | ⟨h1, h2⟩ <;> rcases alongL_cases M c d with ⟨g1, g2⟩ | ⟨g, g1, g2⟩ | ⟨g1, g2⟩ <;> rw [h2, g2]
  all_goals first | (exfalso; rw [h1, g1] at hl; simp at hl; done) | (exfalso; rw [h1] at hl; simp only [List.length_nil, List.length_cons] at hl; omega) | (exfalso; rw [g1] at hl; simp only [List.length_nil, List.length_cons] at hl; omega) | skip
  rw [h1, g1] at h
  have := List.singleton_perm_singleton.1 h
  rw [this]
theorem hits_rev (L : List ((Int × Int) × Nat)) (a b : Int) : hitsL (L.map fun s => ((s.1.2, s.1.1), s.2)) a b = hitsL L b a := by
  unfold hitsL
  induction L with
  | nil => rfl
  | cons s L ih =>
    obtain ⟨⟨x, y⟩, f⟩ := s
    rw [List.map_cons, List.filter_cons, List.filter_cons]
    by_cases g : x = b ∧ y = a
    · obtain ⟨rfl, rfl⟩ := g; simp only [decide_true, if_true, List.map_cons]; rw [ih]
    · rw [if_neg (by simp; omega), if_neg (by simp; omega), ih]
theorem along_back (fs : List (List Int)) (a b : Int) : alongS (backS fs) a b = alongS fs b a := by
  unfold alongS
  apply along_of_perm
  have h : (sides (backS fs)).Perm ((sides fs).map fun s => ((s.1.2, s.1.1), s.2)) := side_rev fs 0
  rw [← hits_rev (sides fs) a b]
  unfold hitsL
  exact (h.filter _).map _
theorem sides_back_len (fs : List (List Int)) : (sides (backS fs)).length = (sides fs).length := by
  have := (side_rev fs 0).length_eq
  rw [List.length_map] at this
  exact this
theorem nodup_rev {l : List Int} (h : l.Nodup) : l.reverse.Nodup := (List.reverse_perm l).nodup_iff.2 h
theorem apart_of {l : List Int} (h : l.Nodup) : Apart l := by
  intro i k h0 h1 h2 e
  rw [List.nodup_iff_pairwise_ne, List.pairwise_iff_getElem] at h
  have hi : i.toNat < l.length := by omega
  have hk : k.toNat < l.length := by omega
  exact h k.toNat i.toNat hk hi (by omega) (by simpa [at_, hi, hk] using e.symm)
theorem rev_way {l : List Int} {a b : Int} : (a, b) ∈ wayF l.reverse ↔ (b, a) ∈ wayF l := by
  rw [(way_rev l).mem_iff, List.mem_map]
  constructor
  · rintro ⟨⟨x, y⟩, h, e⟩; cases e; exact h
  · intro h; exact ⟨_, h, rfl⟩
theorem good_back {n : Int} {fs : List (List Int)} (hg : goodS n fs) : goodS n (backS fs) := by
  intro f f0 f1
  rw [back_len] at f1
  have h := hg f f0 f1
  rw [back_at]
  refine ⟨by rw [List.length_reverse]; exact h.1, fun i i0 i1 => ?_, apart_of (nodup_rev (Apart.nodup h.2.2.1)), fun i i0 i1 => ?_⟩
  · exact good_nn hg f0 f1 _ (List.mem_reverse.1 (at_mem i0 i1))
  · rw [along_back]
    have hw := rev_way.1 (mem_wayF.2 ⟨i, i0, i1, rfl, rfl⟩)
    rw [along_good hg f0 f1 hw]; exact f0
theorem mine_back (fs : List (List Int)) (c : Int) (i : Int) : mineU (backS fs) c i = mineU fs c i := by
  unfold mineU
  congr 1
  funext k
  have h : c ∈ at_ (backS fs) (k : Int) ↔ c ∈ at_ fs (k : Int) := by rw [back_at, List.mem_reverse]
  by_cases g : c ∈ at_ fs (k : Int)
  · rw [if_pos g, if_pos (h.2 g)]
  · rw [if_neg g, if_neg (fun e => g (h.1 e))]
theorem next_back {n c : Int} {fs : List (List Int)} (hg : goodS n fs) {f : Int} (f0 : 0 ≤ f) (f1 : f < fs.length) (fv : c ∈ at_ fs f) :
    nextS (at_ (backS fs) f) c 1 = nextS (at_ fs f) c (-1) ∧ nextS (at_ (backS fs) f) c (-1) = nextS (at_ fs f) c 1 := by
  have ha := good_apart hg f0 f1
  have hw := way_next ha fv
  rw [back_at]
  have hr : Apart (at_ fs f).reverse := apart_of (nodup_rev (Apart.nodup ha))
  exact ⟨(next_way hr (rev_way.2 hw.2)).1, (next_way hr (rev_way.2 hw.1)).2⟩
theorem step_back {n c : Int} {fs : List (List Int)} (hg : goodS n fs) {f : Int} (f0 : 0 ≤ f) (f1 : f < fs.length) (fv : c ∈ at_ fs f) : stepS (backS fs) c f = alongS fs (nextS (at_ fs f) c 1) c := by
  unfold stepS; rw [(next_back hg f0 f1 fv).2, along_back]
theorem first_key (fs : List (List Int)) (c : Int) (m : Nat) : (firstN fs c m < 0 → ∀ f : Int, 0 ≤ f → f < m → c ∈ at_ fs f → 0 ≤ alongS fs (nextS (at_ fs f) c 1) c) ∧ (0 ≤ firstN fs c m → alongS fs (nextS (at_ fs (firstN fs c m)) c 1) c < 0) := by
  induction m with
  | zero => exact ⟨fun _ f f0 f1 => by omega, fun h => by simp [firstN] at h⟩
  | succ m ih =>
    unfold firstN
    split
    · rename_i g; exact ⟨fun e => by omega, fun _ => g.2⟩
    · rename_i g
      refine ⟨fun e f f0 f1 fv => ?_, ih.2⟩
      by_cases c2 : f = m
      · subst c2
        rcases Int.lt_or_le (alongS fs (nextS (at_ fs (m : Int)) c 1) c) 0 with g2 | g2
        · exact absurd ⟨fv, g2⟩ g
        · exact g2
      · exact ih.1 e f f0 (by omega) fv
theorem mine_nodup (fs : List (List Int)) (c : Int) (i : Int) : (mineU fs c i).Nodup := by
  unfold mineU
  rw [List.nodup_iff_pairwise_ne, List.pairwise_flatMap]
  refine ⟨fun k _ => by split <;> simp, List.Pairwise.imp ?_ List.pairwise_lt_range⟩
  intro a b hab x hx y hy e
  subst e
  split at hx <;> split at hy <;> simp at hx hy
  omega
/-- A fan that is all of a vertex's faces is right. -/
theorem Fan.ok {n c : Int} {fs : List (List Int)} {K : Nat} (F : Fan fs n c (headS fs c) K) : K = stopK fs c (headS fs c) ∧ fanOK fs c = true := by
  have h1 := run_le F.hg F.x0 F.x1 F.xv F.run
  have h2 := mine_le fs c fs.length
  have hK := stop_of (by omega) F.run ⟨F.pos, F.stop⟩
  refine ⟨hK, ?_⟩
  have hne : mineU fs c fs.length ≠ [] := fun e => by
    have := F.pos
    rw [e] at h1; simp at h1; omega
  unfold fanOK fanL
  rw [if_neg hne, if_neg hne, ← hK, orb_len, decide_eq_true_eq]
  have h3 : mineU fs c fs.length ⊆ orbS fs c (headS fs c) K := by
    intro f hf
    obtain ⟨f0, f1, fv⟩ := mem_mineU.1 hf
    obtain ⟨i, hi, e⟩ := F.cover f f0 f1 fv
    unfold orbS
    exact List.mem_map.2 ⟨i, List.mem_range.2 hi, e⟩
  have := List.Nodup.length_le_of_subset (mine_nodup fs c fs.length) h3
  rw [orb_len] at this
  omega
section
variable {n c x : Int} {fs : List (List Int)} {K : Nat}
theorem Fan.step_ (F : Fan fs n c x K) {i : Nat} (hi : i + 1 < K) : stepS (backS fs) c (iterS (stepS fs c) x (i + 1)) = iterS (stepS fs c) x i := by
  obtain ⟨g0, g1, gv⟩ := F.mem (i := i) (by omega)
  obtain ⟨k0, k1, kv⟩ := F.mem (i := i + 1) hi
  rw [step_back F.hg k0 k1 kv]
  have hs : stepS fs c (iterS (stepS fs c) x i) = iterS (stepS fs c) x (i + 1) := rfl
  have h3 := (step_mem F.hg g0 g1 gv (by rw [hs]; exact k0)).2.2
  rw [hs] at h3
  rw [h3]
  exact side_prev F.hg g0 g1 gv
theorem Fan.step0 (F : Fan fs n c x K) (h : iterS (stepS fs c) x K = x) : stepS (backS fs) c x = iterS (stepS fs c) x (K - 1) := by
  have hK := F.pos
  obtain ⟨g0, g1, gv⟩ := F.mem (i := K - 1) (by omega)
  rw [step_back F.hg F.x0 F.x1 F.xv]
  have hs : stepS fs c (iterS (stepS fs c) x (K - 1)) = x := by
    have : iterS (stepS fs c) x (K - 1 + 1) = x := by rw [show K - 1 + 1 = K by omega]; exact h
    exact this
  have h3 := (step_mem F.hg g0 g1 gv (by rw [hs]; exact F.x0)).2.2
  rw [hs] at h3
  rw [h3]
  exact side_prev F.hg g0 g1 gv
theorem Fan.inj (F : Fan fs n c x K) {i j : Nat} (hi : i < K) (hj : j < K) (e : iterS (stepS fs c) x i = iterS (stepS fs c) x j) : i = j := by
  have h := run_inj F.hg F.x0 F.x1 F.xv F.run
  rcases Nat.lt_trichotomy i j with g | g | g
  · exact absurd e (h i j g hj)
  · exact g
  · exact absurd e.symm (h j i g hi)
end
theorem turn_fan {n : Int} {fs : List (List Int)} (h : okS n fs) {c : Int} (h0 : 0 ≤ c) (h1 : c < n) : fanOK (backS fs) c = true ∧ fanR (backS fs) c = fanR fs c := by
  obtain ⟨hne, F⟩ := fan_of h h0 h1
  have hr := round_iff h h0 h1
  have hgb := good_back h.2.1
  have hneb : mineU (backS fs) c (backS fs).length ≠ [] := by rw [back_len, mine_back]; exact hne
  have hy := mem_mineU.1 (head_mem hneb)
  rw [back_len, back_at, List.mem_reverse] at hy
  have hkey := first_key (backS fs) c (backS fs).length
  have hhead : headS (backS fs) c = if firstN (backS fs) c (backS fs).length < 0 then at_ (mineU (backS fs) c (backS fs).length) 0 else firstN (backS fs) c (backS fs).length := rfl
  have hfl := first_le (backS fs) c (backS fs).length
  have hfanR : fanR (backS fs) c = decide (firstN (backS fs) c (backS fs).length < 0) := by unfold fanR roundB; rw [if_neg hneb]
  generalize hz : headS (backS fs) c = y at *
  generalize headS fs c = x at F hr
  generalize stopK fs c x = K at F hr
  rw [back_len] at hkey hhead hfl hfanR
  have hK := F.pos
  by_cases hcl : iterS (stepS fs c) x K = x
  · obtain ⟨m, hm, e⟩ := F.cover y hy.1 hy.2.1 hy.2.2
    have hit : ∀ j, j ≤ K → iterS (stepS (backS fs) c) y j = iterS (stepS fs c) x ((m + K - j) % K) := by
      intro j
      induction j with
      | zero => intro _; rw [show m + K - 0 = m + K by omega, Nat.add_mod_right, Nat.mod_eq_of_lt hm, e]; rfl
      | succ j ih =>
        intro hj
        have hi := ih (by omega)
        show stepS (backS fs) c (iterS (stepS (backS fs) c) y j) = _
        rw [hi]
        by_cases g : (m + K - j) % K = 0
        · rw [g]
          have g2 : (m + K - (j + 1)) % K = K - 1 := by
            by_cases g3 : m + K - j < K
            · rw [Nat.mod_eq_of_lt g3] at g; omega
            · have g4 : (m + K - j) % K = m - j := by rw [show m + K - j = (m - j) + K by omega, Nat.add_mod_right, Nat.mod_eq_of_lt (by omega)]
              rw [Nat.mod_eq_of_lt (by omega)]; omega
          rw [g2]; exact F.step0 hcl
        · have hlt := Nat.mod_lt (m + K - j) (show 0 < K by omega)
          have g2 : (m + K - (j + 1)) % K + 1 = (m + K - j) % K := by
            by_cases g3 : m + K - j < K
            · rw [Nat.mod_eq_of_lt g3] at g ⊢; rw [Nat.mod_eq_of_lt (by omega)]; omega
            · have g4 : (m + K - j) % K = m - j := by rw [show m + K - j = (m - j) + K by omega, Nat.add_mod_right, Nat.mod_eq_of_lt (by omega)]
              have g5 : (m + K - (j + 1)) % K = m - (j + 1) := by rw [show m + K - (j + 1) = (m - (j + 1)) + K by omega, Nat.add_mod_right, Nat.mod_eq_of_lt (by omega)]
              rw [g4] at g ⊢; rw [g5]; omega
          rw [← g2]
          exact F.step_ (by omega)
    have hmodne : ∀ j, 0 < j → j < K → (m + K - j) % K ≠ m := by
      intro j j0 j1
      by_cases g3 : m + K - j < K
      · rw [Nat.mod_eq_of_lt g3]; omega
      · rw [show m + K - j = (m - j) + K by omega, Nat.add_mod_right, Nat.mod_eq_of_lt (by omega)]; omega
    have F' : Fan (backS fs) n c y K := by
      refine ⟨hgb, hy.1, by rw [back_len]; exact hy.2.1, by rw [back_at]; exact List.mem_reverse.2 hy.2.2, fun j hj => ?_, hK, .inr ?_, fun f f0 f1 fv => ?_⟩
      · rw [hit j (by omega)]
        have hlt := Nat.mod_lt (m + K - j) (show 0 < K by omega)
        refine ⟨(F.mem hlt).1, ?_⟩
        by_cases g : j = 0
        · exact .inl g
        · right
          rw [← e]
          intro e2
          exact hmodne j (by omega) hj (F.inj hlt hm e2)
      · rw [hit K (by omega), show m + K - K = m by omega, Nat.mod_eq_of_lt hm]; exact e
      · rw [back_len] at f1
        rw [back_at] at fv
        obtain ⟨i, hi, ei⟩ := F.cover f f0 f1 (List.mem_reverse.1 fv)
        have hlt := Nat.mod_lt (m + K - i) (show 0 < K by omega)
        refine ⟨(m + K - i) % K, hlt, ?_⟩
        rw [hit _ (by omega), ← ei]
        congr 1
        by_cases g3 : m + K - i < K
        · rw [Nat.mod_eq_of_lt g3, show m + K - (m + K - i) = i by omega, Nat.mod_eq_of_lt hi]
        · have g4 : (m + K - i) % K = m - i := by rw [show m + K - i = (m - i) + K by omega, Nat.add_mod_right, Nat.mod_eq_of_lt (by omega)]
          rw [g4, show m + K - (m - i) = i + K by omega, Nat.add_mod_right, Nat.mod_eq_of_lt hi]
    have F2 := F'
    rw [← hz] at F2
    refine ⟨F2.ok.2, ?_⟩
    rw [hr.2 hcl, hfanR, decide_eq_true_eq]
    rcases Int.lt_or_le (firstN (backS fs) c fs.length) 0 with g | g
    · exact g
    · have h2 := hkey.2 g
      have h3 := hfl.2.2 g
      rw [back_at, List.mem_reverse] at h3
      rw [along_back, (next_back h.2.1 g hfl.2.1 h3).1] at h2
      have h4 := (F.end_ g hfl.2.1 h3 h2).2
      have h5 := F.x0
      rw [hcl] at h4
      omega
  · have hKn : iterS (stepS fs c) x K < 0 := F.stop.resolve_right hcl
    have hbad : alongS fs (nextS (at_ fs x) c 1) c < 0 := by
      rcases Int.lt_or_le (alongS fs (nextS (at_ fs x) c 1) c) 0 with g | g
      · exact g
      · exact absurd (F.closes.1 g) hcl
    obtain ⟨l0, l1, lv⟩ := F.mem (i := K - 1) (by omega)
    have hstep : stepS fs c (iterS (stepS fs c) x (K - 1)) < 0 := by
      obtain ⟨m, rfl⟩ : ∃ m, K = m + 1 := ⟨K - 1, by omega⟩
      exact hKn
    have hfn : 0 ≤ firstN (backS fs) c fs.length := by
      rcases Int.lt_or_le (firstN (backS fs) c fs.length) 0 with g | g
      · have h2 := hkey.1 g _ l0 l1 (by rw [back_at]; exact List.mem_reverse.2 lv)
        rw [along_back, (next_back h.2.1 l0 l1 lv).1] at h2
        exact absurd hstep (Int.not_lt.2 h2)
      · exact g
    have hye : y = iterS (stepS fs c) x (K - 1) := by
      rw [if_neg (by omega)] at hhead
      have h2 := hkey.2 hfn
      rw [← hhead, back_at] at h2
      rw [← back_at, along_back, (next_back h.2.1 hy.1 hy.2.1 hy.2.2).1] at h2
      exact (F.end_ hy.1 hy.2.1 hy.2.2 h2).1
    have hit : ∀ j, j < K → iterS (stepS (backS fs) c) y j = iterS (stepS fs c) x (K - 1 - j) := by
      intro j
      induction j with
      | zero => intro _; exact hye
      | succ j ih =>
        intro hj
        show stepS (backS fs) c (iterS (stepS (backS fs) c) y j) = _
        rw [ih (by omega), show K - 1 - j = (K - 1 - (j + 1)) + 1 by omega]
        exact F.step_ (by omega)
    have F' : Fan (backS fs) n c y K := by
      refine ⟨hgb, hy.1, by rw [back_len]; exact hy.2.1, by rw [back_at]; exact List.mem_reverse.2 hy.2.2, fun j hj => ?_, hK, .inl ?_, fun f f0 f1 fv => ?_⟩
      · rw [hit j hj]
        refine ⟨(F.mem (by omega)).1, ?_⟩
        by_cases g : j = 0
        · exact .inl g
        · right
          rw [hye]
          intro e2
          have := F.inj (by omega) (by omega) e2
          omega
      · obtain ⟨m, rfl⟩ : ∃ m, K = m + 1 := ⟨K - 1, by omega⟩
        show stepS (backS fs) c (iterS (stepS (backS fs) c) y m) < 0
        rw [hit m (by omega), show m + 1 - 1 - m = 0 by omega]
        show stepS (backS fs) c x < 0
        rw [step_back F.hg F.x0 F.x1 F.xv]; exact hbad
      · rw [back_len] at f1
        rw [back_at] at fv
        obtain ⟨i, hi, ei⟩ := F.cover f f0 f1 (List.mem_reverse.1 fv)
        refine ⟨K - 1 - i, by omega, ?_⟩
        rw [hit _ (by omega), ← ei]
        congr 1; omega
    have F2 := F'
    rw [← hz] at F2
    refine ⟨F2.ok.2, ?_⟩
    have hn : ¬ fanR fs c = true := fun g => hcl (hr.1 g)
    rw [hfanR]
    rw [Bool.not_eq_true] at hn
    rw [hn, decide_eq_false_iff_not]
    omega
theorem ok_back {n : Int} {fs : List (List Int)} (h : okS n fs) : okS n (backS fs) := ⟨h.1, good_back h.2.1, fun _ h0 h1 => (turn_fan h h0 h1).1⟩
theorem ok_back_iff {n : Int} {fs : List (List Int)} : okS n (backS fs) ↔ okS n fs := ⟨fun h => by have := ok_back h; rw [back_back] at this; exact this, ok_back⟩
def turnE (e : Ed) : Ed := ⟨e.A, e.B, e.G, e.F⟩
theorem eOut_back (fs : List (List Int)) (n a : Int) : eOut (backS fs) n a = (eOut fs n a).map turnE := by
  unfold eOut
  rw [List.map_flatMap]
  congr 1
  funext j
  unfold eIn
  rw [List.map_flatMap]
  congr 1
  funext k
  by_cases g : (j : Int) < k
  · rw [if_pos g, if_pos g]
    unfold eAt
    rw [along_back, along_back]
    by_cases g2 : 0 ≤ alongS fs j k ∨ 0 ≤ alongS fs k j
    · rw [if_pos g2, if_pos (by omega)]; rfl
    · rw [if_neg g2, if_neg (by omega)]; rfl
  · rw [if_neg g, if_neg g]; rfl
theorem turn_law (n : Int) (fs : List (List Int)) : buildE n (backS fs) = buildE n fs ∧ (buildT n (backS fs)).ed = (buildT n fs).ed.map turnE ∧ (buildT n (backS fs)).rnd = (buildT n fs).rnd := by
  by_cases h : okS n fs
  · have hb := ok_back h
    rw [(build_ok h).1, (build_ok h).2, (build_ok hb).1, (build_ok hb).2]
    refine ⟨rfl, eOut_back fs n n, ?_⟩
    unfold rndU
    apply List.map_congr_left
    intro k hk
    rw [List.mem_range] at hk
    have := h.1
    exact (turn_fan h (by omega) (by omega)).2
  · have hb : ¬ okS n (backS fs) := fun g => h (ok_back_iff.1 g)
    rw [(build_no h).1, (build_no h).2, (build_no hb).1, (build_no hb).2]
    exact ⟨rfl, rfl, rfl⟩
theorem rounds_len (r : List Bool) : (roundsS r r.length).length ≤ r.length := by
  have key : ∀ m : Nat, (roundsS r (m : Int)).length ≤ m := by
    intro m
    induction m with
    | zero => simp [roundsS]
    | succ m ih =>
      have e : ((m + 1 : Nat) : Int) = (m : Int) + 1 := by omega
      rw [e]
      cases h : at_ r (m : Int) with
      | true => rw [rounds_T (by omega) h]; simp; omega
      | false => rw [rounds_F (by omega) h]; omega
  exact key _
theorem rev_start {l : List Int} : ([] : List Int) = (l.drop ((l.length : Int) - 1 + 1).toNat).reverse := by
  rw [show ((l.length : Int) - 1 + 1).toNat = l.length by omega, List.drop_length]; rfl
theorem rev_step {l : List Int} {i : Int} (h0 : 0 ≤ i) (h1 : i < l.length) : (l.drop (i - 1 + 1).toNat).reverse = (l.drop (i + 1).toNat).reverse ++ [at_ l i] := by
  have h : i.toNat < l.length := by omega
  rw [show (i - 1 + 1).toNat = i.toNat by omega, show (i + 1).toNat = i.toNat + 1 by omega, List.drop_eq_getElem_cons h, List.reverse_cons]
  simp [at_, h]
theorem rev_all {l : List Int} {i : Int} (h : i < 0) : (l.drop (i + 1).toNat).reverse = l.reverse := by
  rw [show (i + 1).toNat = 0 by omega]; rfl
theorem turn_at {n : Int} {fs : List (List Int)} {i : Int} (h0 : 0 ≤ i) (h1 : i < (buildT n fs).ed.length) : at_ (buildT n (backS fs)).ed i = turnE (at_ (buildT n fs).ed i) := by
  rw [(turn_law n fs).2.1]
  have h : i.toNat < (buildT n fs).ed.length := by omega
  simp [at_, h]
end Go.Proofs.T
