/- A part of the proof that a law of the edges and fans of faces answers true for every input of its bulk: own work, by an AI agent. -/
import Derived.Test.YtfgfalidpbbkhaaTSpec3
set_option linter.unusedVariables false
set_option linter.unusedSimpArgs false
namespace Go.Proofs.T
open Go Go.AH
theorem mem_wayF {l : List Int} {a b : Int} : (a, b) ∈ wayF l ↔ ∃ i : Int, 0 ≤ i ∧ i < l.length ∧ a = at_ l i ∧ b = at_ l ((i + 1) % l.length) := by
  constructor
  · intro h
    obtain ⟨i, h0, h1, h2⟩ := mem_at h
    rw [wayF_len] at h1
    rw [at_wayF h0 h1] at h2
    exact ⟨i, h0, h1, (congrArg Prod.fst h2).symm, (congrArg Prod.snd h2).symm⟩
  · rintro ⟨i, h0, h1, rfl, rfl⟩
    rw [← at_wayF h0 h1]
    exact at_mem h0 (by rw [wayF_len]; exact h1)
theorem mem_sidesFrom {fs : List (List Int)} : ∀ {k f : Nat} {w : Int × Int}, (w, f) ∈ sidesFrom k fs ↔ k ≤ f ∧ f < k + fs.length ∧ w ∈ wayF (at_ fs ((f - k : Nat) : Int)) := by
  induction fs with
  | nil => intro k f w; simp [sidesFrom]; omega
  | cons l fs ih =>
    intro k f w
    rw [sidesFrom, List.mem_append, ih, List.mem_map]
    constructor
    · rintro (⟨w', h1, h2⟩ | ⟨h1, h2, h3⟩)
      · cases h2
        refine ⟨Nat.le_refl _, by simp, ?_⟩
        simpa [at_] using h1
      · refine ⟨by omega, by simp; omega, ?_⟩
        have e : f - k = (f - (k + 1)) + 1 := by omega
        rw [e]
        simpa [at_] using h3
    · rintro ⟨h1, h2, h3⟩
      by_cases e : f = k
      · subst e
        left
        refine ⟨w, ?_, rfl⟩
        simpa [at_] using h3
      · right
        refine ⟨by omega, by simp at h2; omega, ?_⟩
        have e1 : f - k = (f - (k + 1)) + 1 := by omega
        rw [e1] at h3
        simpa [at_] using h3
theorem mem_sides {fs : List (List Int)} {f : Nat} {w : Int × Int} : (w, f) ∈ sides fs ↔ f < fs.length ∧ w ∈ wayF (at_ fs (f : Int)) := by
  unfold sides; rw [mem_sidesFrom]; simp
theorem mem_hits {L : List ((Int × Int) × Nat)} {a b : Int} {f : Nat} : f ∈ hitsL L a b ↔ ((a, b), f) ∈ L := by
  unfold hitsL
  rw [List.mem_map]
  constructor
  · rintro ⟨⟨w, g⟩, h1, rfl⟩
    rw [List.mem_filter] at h1
    have := of_decide_eq_true h1.2
    simp only at this
    rw [← this]; exact h1.1
  · intro h
    exact ⟨((a, b), f), List.mem_filter.2 ⟨h, by simp⟩, rfl⟩
/-- The face along a way, where there is one alone. -/
theorem along_some {fs : List (List Int)} {a b : Int} (h : 0 ≤ alongS fs a b) : alongS fs a b < fs.length ∧ (a, b) ∈ wayF (at_ fs (alongS fs a b)) ∧ ∀ f : Int, 0 ≤ f → f < fs.length → (a, b) ∈ wayF (at_ fs f) → f = alongS fs a b := by
  rcases alongL_cases (sides fs) a b with ⟨h1, h2⟩ | ⟨g, h1, h2⟩ | ⟨h1, h2⟩
  · unfold alongS at h; omega
  · have hm : g ∈ hitsL (sides fs) a b := by rw [h1]; exact .head _
    rw [mem_hits, mem_sides] at hm
    unfold alongS; rw [h2]
    refine ⟨by omega, hm.2, fun f h0 h3 h4 => ?_⟩
    have : f.toNat ∈ hitsL (sides fs) a b := by
      rw [mem_hits, mem_sides]
      refine ⟨by omega, ?_⟩
      rw [Int.toNat_of_nonneg h0]; exact h4
    rw [h1] at this
    simp at this
    omega
  · unfold alongS at h; omega
theorem along_neg {fs : List (List Int)} {a b : Int} (h : alongS fs a b = -1) {f : Int} (h0 : 0 ≤ f) (h1 : f < fs.length) : (a, b) ∉ wayF (at_ fs f) := by
  intro hm
  have : f.toNat ∈ hitsL (sides fs) a b := by
    rw [mem_hits, mem_sides]
    refine ⟨by omega, ?_⟩
    rw [Int.toNat_of_nonneg h0]; exact hm
  rcases alongL_cases (sides fs) a b with ⟨h1, h2⟩ | ⟨g, h1, h2⟩ | ⟨h1, h2⟩
  · rw [h1] at this; simp at this
  · unfold alongS at h; omega
  · unfold alongS at h; omega
theorem along_lt (fs : List (List Int)) (a b : Int) : -2 ≤ alongS fs a b ∧ (0 ≤ alongS fs a b → alongS fs a b < fs.length) := by
  refine ⟨?_, fun h => (along_some h).1⟩
  unfold alongS
  rcases alongL_cases (sides fs) a b with ⟨h1, h2⟩ | ⟨g, h1, h2⟩ | ⟨h1, h2⟩ <;> omega
theorem along_good {v : Int} {fs : List (List Int)} (hg : goodS v fs) {f : Int} (h0 : 0 ≤ f) (h1 : f < fs.length) {a b : Int} (h : (a, b) ∈ wayF (at_ fs f)) : alongS fs a b = f := by
  obtain ⟨i, g0, g1, rfl, rfl⟩ := mem_wayF.1 h
  have := (hg f h0 h1).2.2.2 i g0 g1
  exact ((along_some this).2.2 f h0 h1 h).symm

/-! ### Round a face -/
def Apart (l : List Int) : Prop := ∀ i k : Int, 0 ≤ k → k < i → i < l.length → at_ l i ≠ at_ l k
theorem Apart.eq {l : List Int} (h : Apart l) {i k : Int} (h0 : 0 ≤ i) (h1 : i < l.length) (k0 : 0 ≤ k) (k1 : k < l.length) (e : at_ l i = at_ l k) : i = k := by
  rcases Int.lt_trichotomy i k with g | g | g
  · exact absurd e.symm (h k i h0 g k1)
  · exact g
  · exact absurd e (h i k k0 g h1)
theorem nextS_at {l : List Int} (ha : Apart l) {i b : Int} (h0 : 0 ≤ i) (h1 : i < l.length) : nextS l (at_ l i) b = at_ l ((i + l.length + b) % l.length) :=
  (next_hit h0 h1 rfl fun j g0 g1 e => ha i j g0 g1 h1 e.symm).symm
theorem next_way {l : List Int} (ha : Apart l) {a b : Int} (h : (a, b) ∈ wayF l) : nextS l a 1 = b ∧ nextS l b (-1) = a := by
  obtain ⟨i, h0, h1, rfl, rfl⟩ := mem_wayF.1 h
  have hn : (0 : Int) < l.length := by omega
  have hm := mod_in (x := i + 1) hn
  refine ⟨?_, ?_⟩
  · rw [nextS_at ha h0 h1]
    congr 1
    rw [show i + (l.length : Int) + 1 = (i + 1) + l.length by omega, Int.add_emod_right]
  · rw [nextS_at ha hm.1 hm.2]
    congr 1
    rw [show (i + 1) % (l.length : Int) + l.length + -1 = ((i + 1) % (l.length : Int) + -1) + l.length by omega, Int.add_emod_right, Int.emod_add_emod, show i + 1 + -1 = i by omega]
    exact Int.emod_eq_of_lt h0 h1
theorem way_next {l : List Int} (ha : Apart l) {v : Int} (h : v ∈ l) : (v, nextS l v 1) ∈ wayF l ∧ (nextS l v (-1), v) ∈ wayF l := by
  obtain ⟨i, h0, h1, rfl⟩ := mem_at h
  have hn : (0 : Int) < l.length := by omega
  refine ⟨?_, ?_⟩
  · rw [nextS_at ha h0 h1, mem_wayF]
    refine ⟨i, h0, h1, rfl, ?_⟩
    congr 1
    rw [show i + (l.length : Int) + 1 = (i + 1) + l.length by omega, Int.add_emod_right]
  · rw [nextS_at ha h0 h1, mem_wayF]
    have hm := mod_in (x := i + l.length + -1) hn
    refine ⟨(i + l.length + -1) % l.length, hm.1, hm.2, rfl, ?_⟩
    congr 1
    rw [Int.emod_add_emod, show i + (l.length : Int) + -1 + 1 = i + l.length by omega, Int.add_emod_right]
    exact (Int.emod_eq_of_lt h0 h1).symm
theorem next_nn {l : List Int} (hl : ∀ x ∈ l, 0 ≤ x) (v b : Int) : 0 ≤ nextS l v b ↔ v ∈ l := by
  unfold nextS
  by_cases h : v ∈ l
  · rw [if_pos h]
    refine ⟨fun _ => h, fun _ => ?_⟩
    have hn : (0 : Int) < l.length := by have := List.length_pos_of_mem h; omega
    have hm := mod_in (x := (l.idxOf v : Int) + l.length + b) hn
    exact hl _ (at_mem hm.1 hm.2)
  · rw [if_neg h]; simp [h]

/-! ### Around a vertex -/
def stepS (fs : List (List Int)) (v f : Int) : Int := alongS fs v (nextS (at_ fs f) v (-1))
def iterS (s : Int → Int) (x : Int) : Nat → Int
  | 0 => x
  | n + 1 => s (iterS s x n)
def mineU (fs : List (List Int)) (v i : Int) : List Int := (List.range i.toNat).flatMap fun (k : Nat) => if v ∈ at_ fs (k : Int) then [(k : Int)] else []
def firstN (fs : List (List Int)) (v : Int) : Nat → Int
  | 0 => -1
  | n + 1 => if v ∈ at_ fs (n : Int) ∧ alongS fs (nextS (at_ fs (n : Int)) v 1) v < 0 then (n : Int) else firstN fs v n
def Runs (fs : List (List Int)) (v x : Int) (k : Nat) : Prop := ∀ i, i < k → 0 ≤ iterS (stepS fs v) x i ∧ (i = 0 ∨ iterS (stepS fs v) x i ≠ x)
def orbS (fs : List (List Int)) (v x : Int) (k : Nat) : List Int := (List.range k).map (iterS (stepS fs v) x)
theorem orb_len (fs : List (List Int)) (v x : Int) (k : Nat) : (orbS fs v x k).length = k := by simp [orbS]
theorem orb_step (fs : List (List Int)) (v x : Int) (k : Nat) : orbS fs v x (k + 1) = orbS fs v x k ++ [iterS (stepS fs v) x k] := by simp [orbS, List.range_succ]

section
variable {n v x : Int} {fs : List (List Int)}
theorem good_nn (hg : goodS n fs) {f : Int} (h0 : 0 ≤ f) (h1 : f < fs.length) : ∀ y ∈ at_ fs f, 0 ≤ y ∧ y < n := fun y hy => by
  obtain ⟨i, g0, g1, rfl⟩ := mem_at hy
  exact (hg f h0 h1).2.1 i g0 g1
theorem good_apart (hg : goodS n fs) {f : Int} (h0 : 0 ≤ f) (h1 : f < fs.length) : Apart (at_ fs f) := (hg f h0 h1).2.2.1
/-- A step around a vertex stays among its faces, and two steps end apart. -/
theorem step_mem (hg : goodS n fs) {f : Int} (h0 : 0 ≤ f) (h1 : f < fs.length) (hv : v ∈ at_ fs f) (hs : 0 ≤ stepS fs v f) :
    stepS fs v f < fs.length ∧ v ∈ at_ fs (stepS fs v f) ∧ nextS (at_ fs (stepS fs v f)) v 1 = nextS (at_ fs f) v (-1) := by
  obtain ⟨g1, g2, _⟩ := along_some hs
  have ha := good_apart hg hs g1
  obtain ⟨i, k0, k1, k2, _⟩ := mem_wayF.1 g2
  exact ⟨g1, (by have hm := at_mem k0 k1; rw [← k2] at hm; exact hm), (next_way ha g2).1⟩
theorem step_inj (hg : goodS n fs) {f g : Int} (f0 : 0 ≤ f) (f1 : f < fs.length) (fv : v ∈ at_ fs f) (g0 : 0 ≤ g) (g1 : g < fs.length) (gv : v ∈ at_ fs g) (hs : 0 ≤ stepS fs v f) (e : stepS fs v f = stepS fs v g) : f = g := by
  have h1 := (step_mem hg f0 f1 fv hs).2.2
  have h2 := (step_mem hg g0 g1 gv (e ▸ hs)).2.2
  rw [← e, h1] at h2
  have a1 := along_good hg f0 f1 (way_next (good_apart hg f0 f1) fv).2
  have a2 := along_good hg g0 g1 (way_next (good_apart hg g0 g1) gv).2
  rw [h2] at a1
  omega
theorem run_mem (hg : goodS n fs) (x0 : 0 ≤ x) (x1 : x < fs.length) (xv : v ∈ at_ fs x) {k : Nat} (hr : Runs fs v x k) : ∀ i, i < k → 0 ≤ iterS (stepS fs v) x i ∧ iterS (stepS fs v) x i < fs.length ∧ v ∈ at_ fs (iterS (stepS fs v) x i) := by
  intro i
  induction i with
  | zero => intro _; exact ⟨x0, x1, xv⟩
  | succ i ih =>
    intro hi
    obtain ⟨h0, h1, h2⟩ := ih (by omega)
    have := (hr (i + 1) hi).1
    have h3 := step_mem hg h0 h1 h2 this
    exact ⟨this, h3.1, h3.2.1⟩
theorem run_inj (hg : goodS n fs) (x0 : 0 ≤ x) (x1 : x < fs.length) (xv : v ∈ at_ fs x) {k : Nat} (hr : Runs fs v x k) : ∀ i j, i < j → j < k → iterS (stepS fs v) x i ≠ iterS (stepS fs v) x j := by
  intro i
  induction i with
  | zero => intro j hj hk e; exact ((hr j hk).2.resolve_left (by omega)) e.symm
  | succ i ih =>
    intro j hj hk e
    cases j with
    | zero => omega
    | succ j =>
      obtain ⟨a0, a1, a2⟩ := run_mem hg x0 x1 xv hr i (by omega)
      obtain ⟨b0, b1, b2⟩ := run_mem hg x0 x1 xv hr j (by omega)
      exact ih j (by omega) (by omega) (step_inj hg a0 a1 a2 b0 b1 b2 (hr (i + 1) (by omega)).1 e)
theorem mem_mineU {i y : Int} : y ∈ mineU fs v i ↔ 0 ≤ y ∧ y < i ∧ v ∈ at_ fs y := by
  unfold mineU
  rw [List.mem_flatMap]
  constructor
  · rintro ⟨k, hk, h⟩
    rw [List.mem_range] at hk
    split at h
    · simp at h; subst h; exact ⟨by omega, by omega, by assumption⟩
    · simp at h
  · rintro ⟨h0, h1, h2⟩
    refine ⟨y.toNat, by rw [List.mem_range]; omega, ?_⟩
    rw [Int.toNat_of_nonneg h0, if_pos h2]; simp
theorem mine_T {i : Int} (h0 : 0 ≤ i) (h : v ∈ at_ fs i) : mineU fs v (i + 1) = mineU fs v i ++ [i] := by
  unfold mineU; rw [rng_step h0, Int.toNat_of_nonneg h0, if_pos h]
theorem mine_F {i : Int} (h0 : 0 ≤ i) (h : v ∉ at_ fs i) : mineU fs v (i + 1) = mineU fs v i := by
  unfold mineU; rw [rng_step h0, Int.toNat_of_nonneg h0, if_neg h]; simp
theorem orb_nodup (hg : goodS n fs) (x0 : 0 ≤ x) (x1 : x < fs.length) (xv : v ∈ at_ fs x) {k : Nat} (hr : Runs fs v x k) : (orbS fs v x k).Nodup := by
  unfold orbS
  rw [List.nodup_iff_pairwise_ne, List.pairwise_map]
  refine List.Pairwise.imp_of_mem ?_ List.pairwise_lt_range
  intro a b ha hb hab
  rw [List.mem_range] at hb
  exact run_inj hg x0 x1 xv hr a b hab hb
/-- A run is no longer than the faces around the vertex. -/
theorem run_le (hg : goodS n fs) (x0 : 0 ≤ x) (x1 : x < fs.length) (xv : v ∈ at_ fs x) {k : Nat} (hr : Runs fs v x k) : k ≤ (mineU fs v fs.length).length := by
  have h1 := orb_nodup hg x0 x1 xv hr
  have h2 : orbS fs v x k ⊆ mineU fs v fs.length := by
    intro y hy
    unfold orbS at hy
    rw [List.mem_map] at hy
    obtain ⟨i, hi, rfl⟩ := hy
    rw [List.mem_range] at hi
    exact mem_mineU.2 (run_mem hg x0 x1 xv hr i hi)
  have := List.Nodup.length_le_of_subset h1 h2
  rw [orb_len] at this
  exact this
end
def stopK (fs : List (List Int)) (v x : Int) : Nat := (List.range (fs.length + 1)).findIdx fun k => decide (1 ≤ k ∧ (iterS (stepS fs v) x k < 0 ∨ iterS (stepS fs v) x k = x))
def isStop (fs : List (List Int)) (v x : Int) (k : Nat) : Prop := 1 ≤ k ∧ (iterS (stepS fs v) x k < 0 ∨ iterS (stepS fs v) x k = x)
instance (fs : List (List Int)) (v x : Int) (k : Nat) : Decidable (isStop fs v x k) := by unfold isStop; exact inferInstance
theorem stop_of {fs : List (List Int)} {v x : Int} {k : Nat} (hk : k ≤ fs.length) (hr : Runs fs v x k) (hs : isStop fs v x k) : k = stopK fs v x := by
  unfold stopK
  symm
  rw [List.findIdx_eq (by simp; omega)]
  refine ⟨by simpa [isStop] using hs, fun j hj => ?_⟩
  have := hr j hj
  simp only [List.getElem_range, Bool.not_eq_eq_eq_not, Bool.not_true, decide_eq_false_iff_not]
  omega
def roundB (fs : List (List Int)) (v : Int) : Bool := decide (firstN fs v fs.length < 0)
def headS (fs : List (List Int)) (v : Int) : Int := if firstN fs v fs.length < 0 then at_ (mineU fs v fs.length) 0 else firstN fs v fs.length
def fanL (fs : List (List Int)) (v : Int) : List Int := if mineU fs v fs.length = [] then [] else orbS fs v (headS fs v) (stopK fs v (headS fs v))
def fanR (fs : List (List Int)) (v : Int) : Bool := if mineU fs v fs.length = [] then false else roundB fs v
def fanOK (fs : List (List Int)) (v : Int) : Bool := if mineU fs v fs.length = [] then false else decide ((fanL fs v).length = (mineU fs v fs.length).length)
theorem first_le (fs : List (List Int)) (v : Int) (n : Nat) : -1 ≤ firstN fs v n ∧ firstN fs v n < n ∧ (0 ≤ firstN fs v n → v ∈ at_ fs (firstN fs v n)) := by
  induction n with
  | zero => simp [firstN]
  | succ n ih =>
    unfold firstN
    split
    · rename_i h; exact ⟨by omega, by omega, fun _ => h.1⟩
    · exact ⟨ih.1, by omega, ih.2.2⟩
theorem first_T {fs : List (List Int)} {v i : Int} (h0 : 0 ≤ i) (h : v ∈ at_ fs i) (ha : alongS fs (nextS (at_ fs i) v 1) v < 0) : firstN fs v (i + 1).toNat = i := by
  have e : (i + 1).toNat = i.toNat + 1 := by omega
  rw [e, firstN, Int.toNat_of_nonneg h0, if_pos ⟨h, ha⟩]
theorem first_F {fs : List (List Int)} {v i : Int} (h0 : 0 ≤ i) (h : ¬ (v ∈ at_ fs i ∧ alongS fs (nextS (at_ fs i) v 1) v < 0)) : firstN fs v (i + 1).toNat = firstN fs v i.toNat := by
  have e : (i + 1).toNat = i.toNat + 1 := by omega
  rw [e, firstN, Int.toNat_of_nonneg h0, if_neg h]
theorem head_mem {fs : List (List Int)} {v : Int} (h : mineU fs v fs.length ≠ []) : headS fs v ∈ mineU fs v fs.length := by
  unfold headS
  split
  · exact at_mem (by omega) (by have := List.length_pos_iff.2 h; omega)
  · have := first_le fs v fs.length
    exact mem_mineU.2 ⟨by omega, by omega, this.2.2 (by omega)⟩
theorem mine_le (fs : List (List Int)) (v : Int) (n : Nat) : (mineU fs v (n : Int)).length ≤ n := by
  induction n with
  | zero => simp [mineU]
  | succ n ih =>
    have e : ((n + 1 : Nat) : Int) = (n : Int) + 1 := by omega
    rw [e]
    by_cases h : v ∈ at_ fs (n : Int)
    · rw [mine_T (by omega) h]; simp; omega
    · rw [mine_F (by omega) h]; omega
theorem runs_step {fs : List (List Int)} {v x : Int} {k : Nat} (hr : Runs fs v x k) (h0 : 0 ≤ iterS (stepS fs v) x k) (h1 : k = 0 ∨ iterS (stepS fs v) x k ≠ x) : Runs fs v x (k + 1) := by
  intro i hi
  by_cases e : i = k
  · subst e; exact ⟨h0, h1⟩
  · exact hr i (by omega)
/-! ### Edges -/
def eAt (fs : List (List Int)) (a b : Int) : List Ed := if 0 ≤ alongS fs a b ∨ 0 ≤ alongS fs b a then [⟨a, b, alongS fs a b, alongS fs b a⟩] else []
def eIn (fs : List (List Int)) (a b : Int) : List Ed := (List.range b.toNat).flatMap fun (k : Nat) => if a < k then eAt fs a k else []
def eOut (fs : List (List Int)) (n a : Int) : List Ed := (List.range a.toNat).flatMap fun (j : Nat) => eIn fs j n
theorem eIn_start {fs : List (List Int)} {a : Int} (h0 : 0 ≤ a) : eIn fs a (a + 1) = [] := by
  unfold eIn
  rw [List.flatMap_eq_nil_iff]
  intro k hk
  rw [List.mem_range] at hk
  rw [if_neg (by omega)]
theorem eIn_T {fs : List (List Int)} {a b : Int} (h0 : 0 ≤ b) (h : a < b) (hh : 0 ≤ alongS fs a b ∨ 0 ≤ alongS fs b a) : eIn fs a (b + 1) = eIn fs a b ++ [⟨a, b, alongS fs a b, alongS fs b a⟩] := by
  unfold eIn; rw [rng_step h0, Int.toNat_of_nonneg h0, if_pos h]; unfold eAt; rw [if_pos hh]
theorem eIn_F {fs : List (List Int)} {a b : Int} (h0 : 0 ≤ b) (h : a < b) (hh : ¬ (0 ≤ alongS fs a b ∨ 0 ≤ alongS fs b a)) : eIn fs a (b + 1) = eIn fs a b := by
  unfold eIn; rw [rng_step h0, Int.toNat_of_nonneg h0, if_pos h]; unfold eAt; rw [if_neg hh]; simp
theorem eOut_step {fs : List (List Int)} {n a : Int} (h0 : 0 ≤ a) : eOut fs n (a + 1) = eOut fs n a ++ eIn fs a n := by
  unfold eOut; rw [rng_step h0, Int.toNat_of_nonneg h0]
theorem eAt_len (fs : List (List Int)) (a b : Int) : (eAt fs a b).length ≤ 1 := by unfold eAt; split <;> simp
theorem flat_len {α : Type} {g : Nat → List α} {c : Nat} (h : ∀ k, (g k).length ≤ c) (n : Nat) : ((List.range n).flatMap g).length ≤ n * c := by
  induction n with
  | zero => simp
  | succ n ih => rw [List.range_succ, List.flatMap_append, List.length_append]; have := h n; simp only [List.flatMap_cons, List.flatMap_nil, List.append_nil]; rw [Nat.add_mul]; omega
theorem eIn_len (fs : List (List Int)) (a b : Int) : (eIn fs a b).length ≤ b.toNat := by
  have := flat_len (g := fun (k : Nat) => if a < k then eAt fs a k else []) (c := 1) (fun k => by split; exact eAt_len _ _ _; simp) b.toNat
  unfold eIn; omega
theorem eOut_len {fs : List (List Int)} {n a : Int} (hn : n ≤ 1000) : ((eOut fs n a).length : Int) ≤ a.toNat * 1000 := by
  have := flat_len (g := fun (j : Nat) => eIn fs j n) (c := 1000) (fun k => by have := eIn_len fs k n; omega) a.toNat
  unfold eOut; omega
def fansU (fs : List (List Int)) (c : Int) : List (List Int) := (List.range c.toNat).map fun (k : Nat) => fanL fs k
def rndU (fs : List (List Int)) (c : Int) : List Bool := (List.range c.toNat).map fun (k : Nat) => fanR fs k
theorem map_step {α : Type} {g : Nat → α} {i : Int} (h0 : 0 ≤ i) : (List.range (i + 1).toNat).map g = (List.range i.toNat).map g ++ [g i.toNat] := by
  have e : (i + 1).toNat = i.toNat + 1 := by omega
  rw [e, List.range_succ]; simp
theorem fansU_step {fs : List (List Int)} {c : Int} (h0 : 0 ≤ c) : fansU fs (c + 1) = fansU fs c ++ [fanL fs c] := by unfold fansU; rw [map_step h0, Int.toNat_of_nonneg h0]
theorem rndU_step {fs : List (List Int)} {c : Int} (h0 : 0 ≤ c) : rndU fs (c + 1) = rndU fs c ++ [fanR fs c] := by unfold rndU; rw [map_step h0, Int.toNat_of_nonneg h0]
def okS (v : Int) (fs : List (List Int)) : Prop := 0 ≤ v ∧ goodS v fs ∧ ∀ c : Int, 0 ≤ c → c < v → fanOK fs c = true
noncomputable instance (v : Int) (fs : List (List Int)) : Decidable (okS v fs) := Classical.propDecidable _
noncomputable def buildT (v : Int) (fs : List (List Int)) : Tp := if okS v fs then ⟨eOut fs v v, fansU fs v, rndU fs v⟩ else ⟨[], [], []⟩
noncomputable def buildE (v : Int) (fs : List (List Int)) : Int := if okS v fs then 0 else 14
theorem build_no {v : Int} {fs : List (List Int)} (h : ¬ okS v fs) : buildT v fs = ⟨[], [], []⟩ ∧ buildE v fs = 14 := by simp [buildT, buildE, h]
theorem build_ok {v : Int} {fs : List (List Int)} (h : okS v fs) : buildT v fs = ⟨eOut fs v v, fansU fs v, rndU fs v⟩ ∧ buildE v fs = 0 := by simp [buildT, buildE, h]
end Go.Proofs.T
