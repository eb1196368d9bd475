/- A part of the proof that a law of the edges and fans of faces answers true for every input of its bulk: own work, by an AI agent. -/
import Derived.Test.YtfgfalidpbbkhaaTFew
set_option linter.unusedVariables false
set_option linter.unusedSimpArgs false
namespace Go.Proofs.T
open Go Go.AH
/-- All there is to say of a vertex's fan. -/
structure Fan (fs : List (List Int)) (n c x : Int) (K : Nat) : Prop where
  hg : goodS n fs
  x0 : 0 ≤ x
  x1 : x < fs.length
  xv : c ∈ at_ fs x
  run : Runs fs c x K
  pos : 1 ≤ K
  stop : iterS (stepS fs c) x K < 0 ∨ iterS (stepS fs c) x K = x
  cover : ∀ f : Int, 0 ≤ f → f < fs.length → c ∈ at_ fs f → ∃ i, i < K ∧ iterS (stepS fs c) x i = f
theorem fan_of {n : Int} {fs : List (List Int)} (h : okS n fs) {c : Int} (h0 : 0 ≤ c) (h1 : c < n) : mineU fs c fs.length ≠ [] ∧ Fan fs n c (headS fs c) (stopK fs c (headS fs c)) := by
  have hf := h.2.2 c h0 h1
  have hne : mineU fs c fs.length ≠ [] := fun e => by
    unfold fanOK at hf; rw [if_pos e] at hf; cases hf
  unfold fanOK fanL at hf
  rw [if_neg hne, if_neg hne, orb_len, decide_eq_true_eq] at hf
  have hx := mem_mineU.1 (head_mem hne)
  have hle := mine_le fs c fs.length
  generalize headS fs c = x at hf hx ⊢
  have hK : stopK fs c x < (List.range (fs.length + 1)).length := by simp; omega
  have hstop := ((List.findIdx_eq (p := fun k => decide (1 ≤ k ∧ (iterS (stepS fs c) x k < 0 ∨ iterS (stepS fs c) x k = x))) (xs := List.range (fs.length + 1)) (i := stopK fs c x) hK).1 rfl).1
  rw [List.getElem_range, decide_eq_true_eq] at hstop
  have hrun : Runs fs c x (stopK fs c x) := by
    intro i hi
    by_cases e : i = 0
    · subst e; exact ⟨hx.1, .inl rfl⟩
    · have := List.not_of_lt_findIdx (p := fun k => decide (1 ≤ k ∧ (iterS (stepS fs c) x k < 0 ∨ iterS (stepS fs c) x k = x))) (xs := List.range (fs.length + 1)) (i := i) hi
      simp only [List.getElem_range, decide_eq_false_iff_not] at this
      have h2 : 1 ≤ i := by omega
      refine ⟨?_, .inr fun e2 => this ⟨h2, .inr e2⟩⟩
      rcases Int.lt_or_le (iterS (stepS fs c) x i) 0 with g | g
      · exact absurd ⟨h2, .inl g⟩ this
      · exact g
  refine ⟨hne, ⟨h.2.1, hx.1, hx.2.1, hx.2.2, hrun, hstop.1, hstop.2, fun f f0 f1 fv => ?_⟩⟩
  have hnd := orb_nodup h.2.1 hx.1 hx.2.1 hx.2.2 hrun
  have hsub : orbS fs c x (stopK fs c x) ⊆ mineU fs c fs.length := by
    intro y hy
    unfold orbS at hy
    obtain ⟨i, hi, rfl⟩ := List.mem_map.1 hy
    rw [List.mem_range] at hi
    exact mem_mineU.2 (run_mem h.2.1 hx.1 hx.2.1 hx.2.2 hrun i hi)
  have hmem : f ∈ orbS fs c x (stopK fs c x) := by
    apply Classical.byContradiction
    intro hn
    have := List.Nodup.length_le_of_subset (List.nodup_cons.2 ⟨hn, hnd⟩) (l₂ := mineU fs c fs.length) (fun y hy => by
      rcases List.mem_cons.1 hy with rfl | hy
      · exact mem_mineU.2 ⟨f0, f1, fv⟩
      · exact hsub hy)
    rw [List.length_cons, orb_len] at this
    omega
  unfold orbS at hmem
  obtain ⟨i, hi, e⟩ := List.mem_map.1 hmem
  exact ⟨i, List.mem_range.1 hi, e⟩
section
variable {n c x : Int} {fs : List (List Int)} {K : Nat}
theorem Fan.mem (F : Fan fs n c x K) {i : Nat} (hi : i < K) : 0 ≤ iterS (stepS fs c) x i ∧ iterS (stepS fs c) x i < fs.length ∧ c ∈ at_ fs (iterS (stepS fs c) x i) := run_mem F.hg F.x0 F.x1 F.xv F.run i hi
/-- A face's sides at the vertex. -/
theorem side_next (hg : goodS n fs) {f : Int} (f0 : 0 ≤ f) (f1 : f < fs.length) (fv : c ∈ at_ fs f) : alongS fs c (nextS (at_ fs f) c 1) = f := along_good hg f0 f1 (way_next (good_apart hg f0 f1) fv).1
theorem side_prev (hg : goodS n fs) {f : Int} (f0 : 0 ≤ f) (f1 : f < fs.length) (fv : c ∈ at_ fs f) : alongS fs (nextS (at_ fs f) c (-1)) c = f := along_good hg f0 f1 (way_next (good_apart hg f0 f1) fv).2
theorem of_side (hg : goodS n fs) {y : Int} (h : 0 ≤ alongS fs c y) : alongS fs c y < fs.length ∧ c ∈ at_ fs (alongS fs c y) ∧ nextS (at_ fs (alongS fs c y)) c 1 = y := by
  obtain ⟨g1, g2, _⟩ := along_some h
  obtain ⟨i, k0, k1, k2, _⟩ := mem_wayF.1 g2
  refine ⟨g1, ?_, (next_way (good_apart hg h g1) g2).1⟩
  have hm := at_mem k0 k1
  rw [← k2] at hm; exact hm
theorem of_side' (hg : goodS n fs) {y : Int} (h : 0 ≤ alongS fs y c) : alongS fs y c < fs.length ∧ c ∈ at_ fs (alongS fs y c) ∧ nextS (at_ fs (alongS fs y c)) c (-1) = y := by
  obtain ⟨g1, g2, _⟩ := along_some h
  obtain ⟨i, k0, k1, _, k2⟩ := mem_wayF.1 g2
  have hr := mod_in (x := i + 1) (y := ((at_ fs (alongS fs y c)).length : Int)) (by omega)
  refine ⟨g1, ?_, (next_way (good_apart hg h g1) g2).2⟩
  have hm := at_mem hr.1 hr.2
  rw [← k2] at hm; exact hm
/-- A face that has one behind it. -/
theorem pred_of (hg : goodS n fs) {f : Int} (f0 : 0 ≤ f) (f1 : f < fs.length) (fv : c ∈ at_ fs f) (h : 0 ≤ alongS fs (nextS (at_ fs f) c 1) c) :
    stepS fs c (alongS fs (nextS (at_ fs f) c 1) c) = f := by
  obtain ⟨_, _, g3⟩ := of_side' hg h
  unfold stepS
  rw [g3]
  exact side_next hg f0 f1 fv
theorem pred_iff (hg : goodS n fs) {g : Int} (g0 : 0 ≤ g) (g1 : g < fs.length) (gv : c ∈ at_ fs g) (h : 0 ≤ stepS fs c g) : 0 ≤ alongS fs (nextS (at_ fs (stepS fs c g)) c 1) c := by
  rw [(step_mem hg g0 g1 gv h).2.2, side_prev hg g0 g1 gv]; exact g0
/-- The first face has one behind it just when the fan closes. -/
theorem Fan.closes (F : Fan fs n c x K) : 0 ≤ alongS fs (nextS (at_ fs x) c 1) c ↔ iterS (stepS fs c) x K = x := by
  constructor
  · intro h
    have h1 := pred_of F.hg F.x0 F.x1 F.xv h
    obtain ⟨g1, g2, _⟩ := of_side' F.hg h
    obtain ⟨j, hj, e⟩ := F.cover _ h g1 g2
    rw [← e] at h1
    by_cases hk : j + 1 < K
    · exact absurd (show iterS (stepS fs c) x (j + 1) = x from h1) ((F.run (j + 1) hk).2.resolve_left (by omega))
    · have : K = j + 1 := by omega
      rw [this]; exact h1
  · intro h
    have hK := F.pos
    obtain ⟨m, rfl⟩ : ∃ m, K = m + 1 := ⟨K - 1, by omega⟩
    obtain ⟨g0, g1, gv⟩ := F.mem (i := m) (by omega)
    have hs : stepS fs c (iterS (stepS fs c) x m) = x := h
    have := pred_iff F.hg g0 g1 gv (by rw [hs]; exact F.x0)
    rw [hs] at this; exact this
theorem Fan.pred (F : Fan fs n c x K) {f : Int} (f0 : 0 ≤ f) (f1 : f < fs.length) (fv : c ∈ at_ fs f) (hb : alongS fs (nextS (at_ fs f) c 1) c < 0) : f = x := by
  obtain ⟨i, hi, rfl⟩ := F.cover f f0 f1 fv
  cases i with
  | zero => rfl
  | succ i =>
    obtain ⟨g0, g1, gv⟩ := F.mem (i := i) (by omega)
    have hs : stepS fs c (iterS (stepS fs c) x i) = iterS (stepS fs c) x (i + 1) := rfl
    have := pred_iff F.hg g0 g1 gv (by rw [hs]; exact f0)
    rw [hs] at this; omega
theorem Fan.end_ (F : Fan fs n c x K) {f : Int} (f0 : 0 ≤ f) (f1 : f < fs.length) (fv : c ∈ at_ fs f) (he : stepS fs c f < 0) : f = iterS (stepS fs c) x (K - 1) ∧ iterS (stepS fs c) x K < 0 := by
  obtain ⟨i, hi, rfl⟩ := F.cover f f0 f1 fv
  have hs : stepS fs c (iterS (stepS fs c) x i) = iterS (stepS fs c) x (i + 1) := rfl
  rw [hs] at he
  by_cases hk : i + 1 < K
  · have := (F.run (i + 1) hk).1; omega
  · have : K = i + 1 := by omega
    subst this
    exact ⟨rfl, he⟩
end
theorem round_iff {n : Int} {fs : List (List Int)} (h : okS n fs) {c : Int} (h0 : 0 ≤ c) (h1 : c < n) : fanR fs c = true ↔ iterS (stepS fs c) (headS fs c) (stopK fs c (headS fs c)) = headS fs c := by
  obtain ⟨hne, F⟩ := fan_of h h0 h1
  rw [← F.closes]
  unfold fanR roundB
  rw [if_neg hne, decide_eq_true_eq]
  have hfl := first_le fs c fs.length
  have key : ∀ m : Nat, (firstN fs c m < 0 → ∀ f : Int, 0 ≤ f → f < m → c ∈ at_ fs f → 0 ≤ alongS fs (nextS (at_ fs f) c 1) c) ∧ (0 ≤ firstN fs c m → alongS fs (nextS (at_ fs (firstN fs c m)) c 1) c < 0) := by
    intro m
    induction m with
    | zero => exact ⟨fun _ f f0 f1 => by omega, fun h => by simp [firstN] at h⟩
    | succ m ih =>
      unfold firstN
      split
      · rename_i g; exact ⟨fun e => by omega, fun _ => g.2⟩
      · rename_i g
        refine ⟨fun e f f0 f1 fv => ?_, ih.2⟩
        by_cases c2 : f = m
        · subst c2
          rcases Int.lt_or_le (alongS fs (nextS (at_ fs (m : Int)) c 1) c) 0 with g2 | g2
          · exact absurd ⟨fv, g2⟩ g
          · exact g2
        · exact ih.1 e f f0 (by omega) fv
  constructor
  · intro e
    exact (key fs.length).1 e _ F.x0 F.x1 F.xv
  · intro e
    rcases Int.lt_or_le (firstN fs c fs.length) 0 with g | g
    · exact g
    · have hh : headS fs c = firstN fs c fs.length := by unfold headS; rw [if_neg (by omega)]
      have := (key fs.length).2 g
      rw [hh] at e; omega
def edgeP (fs : List (List Int)) (c y : Int) : Ed := ⟨min c y, max c y, alongS fs (min c y) (max c y), alongS fs (max c y) (min c y)⟩
theorem edgeP_FG (fs : List (List Int)) (c y : Int) : (min (edgeP fs c y).F (edgeP fs c y).G < 0 ↔ alongS fs c y < 0 ∨ alongS fs y c < 0) ∧ (0 ≤ (edgeP fs c y).F ∨ 0 ≤ (edgeP fs c y).G ↔ 0 ≤ alongS fs c y ∨ 0 ≤ alongS fs y c) := by
  unfold edgeP
  simp only
  rcases Int.le_total c y with h | h
  · rw [Int.min_eq_left h, Int.max_eq_right h]; omega
  · rw [Int.min_eq_right h, Int.max_eq_left h]; omega
theorem mem_at_c {n : Int} {fs : List (List Int)} {c : Int} (h0 : 0 ≤ c) (h1 : c < n) {e : Ed} : (e ∈ eOut fs n n ∧ lone c e = true) ↔ ∃ y : Int, 0 ≤ y ∧ y < n ∧ y ≠ c ∧ e = edgeP fs c y ∧ (0 ≤ alongS fs c y ∨ 0 ≤ alongS fs y c) ∧ (alongS fs c y < 0 ∨ alongS fs y c < 0) := by
  rw [mem_eOut]
  unfold lone
  rw [decide_eq_true_eq]
  constructor
  · rintro ⟨⟨a, b, d, hF, hG, hp⟩, hc, hm⟩
    rcases hc with hc | hc
    · have e1 : e = edgeP fs c e.B := by
        unfold edgeP; rw [Int.min_eq_left (by omega), Int.max_eq_right (by omega), ← hc, ← hF, ← hG]
      refine ⟨e.B, by omega, by omega, by omega, e1, ?_, ?_⟩
      · rw [e1] at hp; exact (edgeP_FG fs c _).2.1 hp
      · rw [e1] at hm; exact (edgeP_FG fs c _).1.1 hm
    · have e1 : e = edgeP fs c e.A := by
        unfold edgeP; rw [Int.min_eq_right (by omega), Int.max_eq_left (by omega), ← hc, ← hF, ← hG]
      refine ⟨e.A, by omega, by omega, by omega, e1, ?_, ?_⟩
      · rw [e1] at hp; exact (edgeP_FG fs c _).2.1 hp
      · rw [e1] at hm; exact (edgeP_FG fs c _).1.1 hm
  · rintro ⟨y, y0, y1, yc, rfl, hp, hm⟩
    refine ⟨⟨?_, ?_, ?_, rfl, rfl, (edgeP_FG fs c y).2.2 hp⟩, ?_, (edgeP_FG fs c y).1.2 hm⟩ <;> simp only [edgeP] <;> omega
theorem edgeP_inj {fs : List (List Int)} {c y z : Int} (h : edgeP fs c y = edgeP fs c z) : y = z := by
  have e1 := congrArg Ed.A h
  have e2 := congrArg Ed.B h
  simp only [edgeP] at e1 e2
  omega
theorem few_law : FewLaw := by
  intro n fs h c h0 h1
  obtain ⟨hne, F⟩ := fan_of h h0 h1
  have hr := round_iff h h0 h1
  rw [(build_ok h).1]
  unfold cntJ
  simp only [Int.toNat_natCast, List.take_length]
  generalize headS fs c = x at F hr
  generalize stopK fs c x = K at F hr
  have hnd : ((eOut fs n n).filter (lone c)).Nodup := by
    rw [List.nodup_iff_pairwise_ne]
    refine List.Pairwise.filter _ ?_
    refine (eOut_sorted fs n).imp ?_
    intro x y h e
    subst e; unfold ltE at h; omega
  by_cases hR : fanR fs c = true
  · rw [if_pos hR]
    have hcl := hr.1 hR
    have : (eOut fs n n).filter (lone c) = [] := by
      rw [List.filter_eq_nil_iff]
      intro e he hl
      obtain ⟨y, _, _, _, _, hp, hm⟩ := (mem_at_c h0 h1).1 ⟨he, hl⟩
      by_cases ha : 0 ≤ alongS fs c y
      · obtain ⟨g1, g2, g3⟩ := of_side F.hg ha
        have hb := F.pred ha g1 g2 (by rw [g3]; omega)
        have := F.closes.2 hcl
        rw [← hb, g3] at this; omega
      · have hb : 0 ≤ alongS fs y c := by omega
        obtain ⟨g1, g2, g3⟩ := of_side' F.hg hb
        have := (F.end_ hb g1 g2 (by unfold stepS; rw [g3]; omega)).2
        have := F.x0
        omega
    rw [this]; rfl
  · rw [if_neg hR]
    have hcl : ¬ iterS (stepS fs c) x K = x := fun e => hR (hr.2 e)
    have hbad : alongS fs (nextS (at_ fs x) c 1) c < 0 := by
      rcases Int.lt_or_le (alongS fs (nextS (at_ fs x) c 1) c) 0 with g | g
      · exact g
      · exact absurd (F.closes.1 g) hcl
    have hKn : iterS (stepS fs c) x K < 0 := F.stop.resolve_right hcl
    have hK := F.pos
    obtain ⟨l0, l1, lv⟩ := F.mem (i := K - 1) (by omega)
    have hstep : stepS fs c (iterS (stepS fs c) x (K - 1)) < 0 := by
      obtain ⟨m, rfl⟩ : ∃ m, K = m + 1 := ⟨K - 1, by omega⟩
      exact hKn
    have hxs := side_next F.hg F.x0 F.x1 F.xv
    have hls := side_prev F.hg l0 l1 lv
    have hny : nextS (at_ fs x) c 1 ≠ nextS (at_ fs (iterS (stepS fs c) x (K - 1))) c (-1) := fun e => by
      have hs2 : alongS fs c (nextS (at_ fs (iterS (stepS fs c) x (K - 1))) c (-1)) < 0 := hstep
      rw [← e, hxs] at hs2
      have := F.x0; omega
    have rng : ∀ f : Int, 0 ≤ f → f < fs.length → c ∈ at_ fs f → ∀ b, 0 ≤ nextS (at_ fs f) c b ∧ nextS (at_ fs f) c b < n := fun f f0 f1 fv b => next_in F.hg f0 f1 fv b
    have hself : ∀ y : Int, 0 ≤ alongS fs c y ∨ 0 ≤ alongS fs y c → y ≠ c := by
      intro y hy e
      subst e
      have hy' : 0 ≤ alongS fs y y := by omega
      obtain ⟨g1, g2, _⟩ := along_some hy'
      have := side_in F.hg (s := ((y, y), (alongS fs y y).toNat)) (mem_sides.2 ⟨by omega, by rw [Int.toNat_of_nonneg hy']; exact g2⟩)
      exact this.2.2.2.2.1 rfl
    have hperm : ((eOut fs n n).filter (lone c)).Perm [edgeP fs c (nextS (at_ fs x) c 1), edgeP fs c (nextS (at_ fs (iterS (stepS fs c) x (K - 1))) c (-1))] := by
      refine (List.perm_ext_iff_of_nodup hnd (by simp; exact fun e => hny (edgeP_inj e))).2 fun e => ?_
      rw [List.mem_filter, mem_at_c h0 h1]
      simp only [List.mem_cons, List.not_mem_nil, or_false]
      constructor
      · rintro ⟨y, _, _, _, rfl, hp, hm⟩
        by_cases ha : 0 ≤ alongS fs c y
        · left
          obtain ⟨g1, g2, g3⟩ := of_side F.hg ha
          have hb := F.pred ha g1 g2 (by rw [g3]; omega)
          rw [← hb, g3]
        · right
          have hb : 0 ≤ alongS fs y c := by omega
          obtain ⟨g1, g2, g3⟩ := of_side' F.hg hb
          have := (F.end_ hb g1 g2 (by unfold stepS; rw [g3]; omega)).1
          rw [← this, g3]
      · rintro (rfl | rfl)
        · have r := rng x F.x0 F.x1 F.xv 1
          have hp : 0 ≤ alongS fs c (nextS (at_ fs x) c 1) ∨ 0 ≤ alongS fs (nextS (at_ fs x) c 1) c := .inl (by rw [hxs]; exact F.x0)
          exact ⟨_, r.1, r.2, hself _ hp, rfl, hp, .inr hbad⟩
        · have r := rng _ l0 l1 lv (-1)
          have hp : 0 ≤ alongS fs c (nextS (at_ fs (iterS (stepS fs c) x (K - 1))) c (-1)) ∨ 0 ≤ alongS fs (nextS (at_ fs (iterS (stepS fs c) x (K - 1))) c (-1)) c := .inr (by rw [hls]; exact l0)
          exact ⟨_, r.1, r.2, hself _ hp, rfl, hp, .inl hstep⟩
    rw [hperm.length_eq]; rfl
end Go.Proofs.T
