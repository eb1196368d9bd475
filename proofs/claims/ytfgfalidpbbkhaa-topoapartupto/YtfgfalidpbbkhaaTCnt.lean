/- A part of the proof that a law of the edges and fans of faces answers true for every input of its bulk: own work, by an AI agent. -/
import Derived.Test.YtfgfalidpbbkhaaTFew2
set_option linter.unusedVariables false
set_option linter.unusedSimpArgs false
namespace Go.Proofs.T
open Go Go.AH
/-! ### What TopoCounts counts -/
def twoB (e : Ed) : Bool := decide (¬ min e.F e.G < 0)
def twoN (l : List Ed) (i : Int) : Int := ((l.take i.toNat).countP twoB : Nat)
theorem two_0 (l : List Ed) : twoN l 0 = 0 := by simp [twoN]
theorem two_T {l : List Ed} {i : Int} (h0 : 0 ≤ i) (h1 : i < l.length) (h : ¬ min (at_ l i).F (at_ l i).G < 0) : twoN l (i + 1) = twoN l i + 1 := by
  unfold twoN; rw [take_step h0 h1, List.countP_append]; simp [twoB, h]
theorem two_F {l : List Ed} {i : Int} (h0 : 0 ≤ i) (h1 : i < l.length) (h : min (at_ l i).F (at_ l i).G < 0) : twoN l (i + 1) = twoN l i := by
  unfold twoN; rw [take_step h0 h1, List.countP_append]; simp [twoB, h]
theorem edged_min {t : Tp} {j : Int} (h0 : 0 ≤ j) (h1 : j < t.ed.length) (h : edgedS t j = true) : min (at_ t.ed j).F (at_ t.ed j).G < 0 := by
  unfold edgedS at h; exact (of_decide_eq_true h).2.2
theorem edged_not {t : Tp} {j : Int} (h0 : 0 ≤ j) (h1 : j < t.ed.length) (h : edgedS t j = false) : ¬ min (at_ t.ed j).F (at_ t.ed j).G < 0 := fun g => by
  unfold edgedS at h; exact of_decide_eq_false h ⟨h0, h1, g⟩
theorem two_le (l : List Ed) (i : Int) : 0 ≤ twoN l i ∧ twoN l i ≤ i.toNat := by
  unfold twoN
  have := List.countP_le_length (p := twoB) (l := l.take i.toNat)
  rw [List.length_take] at this; omega
def sumL (l : List (List Int)) : Int := ((l.map List.length).sum : Nat)
theorem sum_step {l : List (List Int)} {i : Int} (h0 : 0 ≤ i) (h1 : i < l.length) : sumL (l.take (i + 1).toNat) = sumL (l.take i.toNat) + (at_ l i).length := by
  unfold sumL; rw [take_step h0 h1]; simp
theorem sides_sum (fs : List (List Int)) : ((sides fs).length : Int) = sumL fs := by
  have key : ∀ (fs : List (List Int)) (k : Nat), (sidesFrom k fs).length = (fs.map List.length).sum := by
    intro fs
    induction fs with
    | nil => intro k; rfl
    | cons l fs ih => intro k; rw [sidesFrom, List.length_append, List.length_map, wayF_len, ih]; simp
  unfold sides sumL; rw [key]
theorem sum_le {fs : List (List Int)} (i : Int) : 0 ≤ sumL (fs.take i.toNat) ∧ sumL (fs.take i.toNat) ≤ (sides fs).length := by
  rw [sides_sum]
  refine ⟨by unfold sumL; omega, ?_⟩
  have h := congrArg sumL (List.take_append_drop i.toNat fs)
  have h2 : sumL (fs.take i.toNat ++ fs.drop i.toNat) = sumL (fs.take i.toNat) + sumL (fs.drop i.toNat) := by unfold sumL; rw [List.map_append, List.sum_append]; omega
  rw [h2] at h
  have : 0 ≤ sumL (fs.drop i.toNat) := by unfold sumL; omega
  omega
theorem find_law {n : Int} {fs : List (List Int)} (h : okS n fs) {f i : Int} (f0 : 0 ≤ f) (f1 : f < fs.length) (i0 : 0 ≤ i) (i1 : i < (at_ fs f).length) :
    (findS (buildT n fs) (at_ (at_ fs f) i) (at_ (at_ fs f) ((i + 1) % (at_ fs f).length))).isSome = true ∧
    0 ≤ optI (findS (buildT n fs) (at_ (at_ fs f) i) (at_ (at_ fs f) ((i + 1) % (at_ fs f).length))) ∧
    optI (findS (buildT n fs) (at_ (at_ fs f) i) (at_ (at_ fs f) ((i + 1) % (at_ fs f).length))) < (buildT n fs).ed.length ∧
    (at_ (at_ fs f) i < at_ (at_ fs f) ((i + 1) % (at_ fs f).length) → (at_ (buildT n fs).ed (optI (findS (buildT n fs) (at_ (at_ fs f) i) (at_ (at_ fs f) ((i + 1) % (at_ fs f).length))))).F = f) ∧
    (at_ (at_ fs f) ((i + 1) % (at_ fs f).length) < at_ (at_ fs f) i → (at_ (buildT n fs).ed (optI (findS (buildT n fs) (at_ (at_ fs f) i) (at_ (at_ fs f) ((i + 1) % (at_ fs f).length))))).G = f) := by
  have hw : (at_ (at_ fs f) i, at_ (at_ fs f) ((i + 1) % (at_ fs f).length)) ∈ wayF (at_ fs f) := mem_wayF.2 ⟨i, i0, i1, rfl, rfl⟩
  generalize at_ (at_ fs f) i = a at hw ⊢
  generalize at_ (at_ fs f) ((i + 1) % (at_ fs f).length) = b at hw ⊢
  have ha := along_good h.2.1 f0 f1 hw
  have hs := side_in h.2.1 (s := ((a, b), f.toNat)) (mem_sides.2 ⟨by omega, by rw [Int.toNat_of_nonneg f0]; exact hw⟩)
  simp only at hs
  rw [(build_ok h).1]
  have hm : (⟨min a b, max a b, alongS fs (min a b) (max a b), alongS fs (max a b) (min a b)⟩ : Ed) ∈ eOut fs n n := by
    refine mem_eOut.2 ⟨by simp only; omega, by simp only; obtain ⟨e1, e2, e3, e4, e5, _⟩ := hs; omega, by simp only; omega, rfl, rfl, ?_⟩
    simp only
    rcases Int.le_total a b with g | g
    · rw [Int.min_eq_left g, Int.max_eq_right g]; left; omega
    · rw [Int.min_eq_right g, Int.max_eq_left g]; right; omega
  cases hf : findS ⟨eOut fs n n, fansU fs n, rndU fs n⟩ a b with
  | none =>
    unfold findS at hf
    rw [List.findIdx?_eq_none_iff] at hf
    have := hf _ hm
    simp at this
  | some k =>
    unfold findS at hf
    rw [List.findIdx?_eq_some_iff_getElem] at hf
    obtain ⟨k1, k2, _⟩ := hf
    simp only [decide_eq_true_eq] at k2
    have hk : at_ (eOut fs n n) (k : Int) = (eOut fs n n)[k] := by simp [at_, k1]
    have he := mem_eOut.1 (List.getElem_mem k1)
    refine ⟨rfl, by simp [optI], by simp only [optI]; exact Int.ofNat_lt.2 k1, fun g => ?_, fun g => ?_⟩
    · simp only [optI]; rw [hk, he.2.2.2.1, k2.1, k2.2, Int.min_eq_left (by omega), Int.max_eq_right (by omega)]; exact ha
    · simp only [optI]; rw [hk, he.2.2.2.2.1, k2.1, k2.2, Int.min_eq_right (by omega), Int.max_eq_left (by omega)]; exact ha
/-! ### Edges and sides -/
def sidesE (e : Ed) : List (Int × Int) := (if 0 ≤ e.F then [(e.A, e.B)] else []) ++ if 0 ≤ e.G then [(e.B, e.A)] else []
theorem sidesE_len (l : List Ed) (h : ∀ e ∈ l, 0 ≤ e.F ∨ 0 ≤ e.G) : ((l.flatMap sidesE).length : Int) = l.length + l.countP twoB := by
  induction l with
  | nil => rfl
  | cons e l ih =>
    have h1 := ih fun x hx => h x (.tail _ hx)
    have h2 := h e (.head _)
    rw [List.flatMap_cons, List.length_append, List.countP_cons, List.length_cons]
    have h3 : (sidesE e).length = 1 + if twoB e = true then 1 else 0 := by
      unfold sidesE twoB
      by_cases a : 0 ≤ e.F <;> by_cases b : 0 ≤ e.G
      · rw [if_pos a, if_pos b, if_pos (by rw [decide_eq_true_eq]; omega)]; rfl
      · rw [if_pos a, if_neg b, if_neg (by rw [decide_eq_true_eq]; omega)]; rfl
      · rw [if_neg a, if_pos b, if_neg (by rw [decide_eq_true_eq]; omega)]; rfl
      · omega
    omega
theorem two_law {n : Int} {fs : List (List Int)} (h : okS n fs) : twoN (buildT n fs).ed (buildT n fs).ed.length = (sides fs).length - (buildT n fs).ed.length := by
  rw [(build_ok h).1]
  unfold twoN
  simp only [Int.toNat_natCast, List.take_length]
  have hm : ∀ e ∈ eOut fs n n, 0 ≤ e.F ∨ 0 ≤ e.G := fun e he => (mem_eOut.1 he).2.2.2.2.2
  have h1 := sidesE_len _ hm
  have hk : ((sides fs).map Prod.fst).Nodup := good_keys h.2.1
  have hn : ((eOut fs n n).flatMap sidesE).Nodup := by
    rw [List.nodup_iff_pairwise_ne, List.pairwise_flatMap]
    refine ⟨fun e he => ?_, ?_⟩
    · have := mem_eOut.1 he
      unfold sidesE
      by_cases a : 0 ≤ e.F <;> by_cases b : 0 ≤ e.G <;> simp only [a, b, if_true, if_false, List.append_nil, List.nil_append, List.singleton_append, List.pairwise_cons, List.mem_singleton, List.not_mem_nil, forall_eq, List.Pairwise.nil, and_true] <;> try simp
      omega
    · refine List.Pairwise.imp_of_mem ?_ (eOut_sorted fs n)
      intro x y hx hy hxy p hp q hq e
      subst e
      have hx' := mem_eOut.1 hx
      have hy' := mem_eOut.1 hy
      unfold sidesE at hp hq
      have c1 : p = (x.A, x.B) ∨ p = (x.B, x.A) := by
        rcases List.mem_append.1 hp with g | g <;> split at g <;> simp at g
        · exact .inl g
        · exact .inr g
      have c2 : p = (y.A, y.B) ∨ p = (y.B, y.A) := by
        rcases List.mem_append.1 hq with g | g <;> split at g <;> simp at g
        · exact .inl g
        · exact .inr g
      unfold ltE at hxy
      rcases c1 with rfl | rfl <;> rcases c2 with c2 | c2 <;> rw [Prod.mk.injEq] at c2 <;> omega
  have hp : ((eOut fs n n).flatMap sidesE).Perm ((sides fs).map Prod.fst) := by
    refine (List.perm_ext_iff_of_nodup hn hk).2 fun w => ?_
    rw [List.mem_flatMap, List.mem_map]
    constructor
    · rintro ⟨e, he, hw⟩
      have he' := mem_eOut.1 he
      unfold sidesE at hw
      rcases List.mem_append.1 hw with g | g <;> split at g
      · rename_i hF
        simp only [List.mem_singleton] at g
        subst g
        rw [he'.2.2.2.1] at hF
        obtain ⟨g1, g2, _⟩ := along_some hF
        exact ⟨((e.A, e.B), (alongS fs e.A e.B).toNat), mem_sides.2 ⟨by omega, by rw [Int.toNat_of_nonneg hF]; exact g2⟩, rfl⟩
      · simp at g
      · rename_i hG
        simp only [List.mem_singleton] at g
        subst g
        rw [he'.2.2.2.2.1] at hG
        obtain ⟨g1, g2, _⟩ := along_some hG
        exact ⟨((e.B, e.A), (alongS fs e.B e.A).toNat), mem_sides.2 ⟨by omega, by rw [Int.toNat_of_nonneg hG]; exact g2⟩, rfl⟩
      · simp at g
    · rintro ⟨s, hs, rfl⟩
      have g := side_in h.2.1 hs
      obtain ⟨⟨a, b⟩, f⟩ := s
      simp only at g ⊢
      rcases Int.lt_or_le a b with c | c
      · refine ⟨⟨a, b, alongS fs a b, alongS fs b a⟩, mem_eOut.2 ⟨g.1, c, g.2.2.2.1, rfl, rfl, .inl g.2.2.2.2.2⟩, ?_⟩
        unfold sidesE; simp only; rw [if_pos g.2.2.2.2.2]; simp
      · refine ⟨⟨b, a, alongS fs b a, alongS fs a b⟩, mem_eOut.2 ⟨g.2.2.1, by simp only; omega, g.2.1, rfl, rfl, .inr g.2.2.2.2.2⟩, ?_⟩
        unfold sidesE; simp only; rw [if_pos g.2.2.2.2.2]; simp
  have h2 := hp.length_eq
  rw [List.length_map] at h2
  omega
/-! ### Corners -/
theorem fan_mine {n : Int} {fs : List (List Int)} (h : okS n fs) {c : Int} (h0 : 0 ≤ c) (h1 : c < n) : (fanL fs c).length = (mineU fs c fs.length).length := by
  have hf := h.2.2 c h0 h1
  unfold fanOK at hf
  split at hf
  · cases hf
  · exact of_decide_eq_true hf
theorem mine_sum (fs : List (List Int)) (v : Int) (m : Nat) : (mineU fs v (m : Int)).length = ((List.range m).map fun (k : Nat) => if v ∈ at_ fs (k : Int) then 1 else 0).sum := by
  induction m with
  | zero => simp [mineU]
  | succ m ih =>
    have e : ((m + 1 : Nat) : Int) = (m : Int) + 1 := by omega
    rw [e, List.range_succ, List.map_append, List.sum_append]
    by_cases g : v ∈ at_ fs (m : Int)
    · rw [mine_T (by omega) g, List.length_append, ih]; simp [g]
    · rw [mine_F (by omega) g, ih]; simp [g]
theorem sum_swap (g : Nat → Nat → Nat) (a b : Nat) : ((List.range a).map fun i => ((List.range b).map fun j => g i j).sum).sum = ((List.range b).map fun j => ((List.range a).map fun i => g i j).sum).sum := by
  induction a with
  | zero => simp only [List.range_zero, List.map_nil, List.sum_nil]; clear g; induction b with
    | zero => rfl
    | succ b ih => rw [List.range_succ]; simp only [List.map_append, List.sum_append, List.map_cons, List.map_nil, List.sum_cons, List.sum_nil]; omega
  | succ a ih =>
    rw [List.range_succ, List.map_append, List.sum_append, ih]
    simp only [List.map_cons, List.map_nil, List.sum_cons, List.sum_nil, List.map_append, List.sum_append]
    clear ih
    induction b with
    | zero => simp
    | succ b ih => rw [List.range_succ]; simp only [List.map_append, List.sum_append, List.map_cons, List.map_nil, List.sum_cons, List.sum_nil]; omega
theorem count_in {l : List Int} {n : Nat} (hn : l.Nodup) (hr : ∀ x ∈ l, 0 ≤ x ∧ x < n) : ((List.range n).map fun (v : Nat) => if (v : Int) ∈ l then 1 else 0).sum = l.length := by
  have h1 : ((List.range n).map fun (v : Nat) => if (v : Int) ∈ l then 1 else 0).sum = ((List.range n).filter fun (v : Nat) => decide ((v : Int) ∈ l)).length := by
    generalize List.range n = r
    induction r with
    | nil => rfl
    | cons v r ih => rw [List.map_cons, List.sum_cons, ih, List.filter_cons]; by_cases g : (v : Int) ∈ l <;> simp [g]; omega
  rw [h1]
  have h2 : (((List.range n).filter fun (v : Nat) => decide ((v : Int) ∈ l)).map fun (v : Nat) => (v : Int)).Perm l := by
    refine (List.perm_ext_iff_of_nodup ?_ hn).2 fun x => ?_
    · rw [List.nodup_iff_pairwise_ne, List.pairwise_map]
      refine List.Pairwise.filter _ (List.Pairwise.imp ?_ List.pairwise_lt_range)
      intro a b hab; omega
    · rw [List.mem_map]
      constructor
      · rintro ⟨v, hv, rfl⟩
        exact of_decide_eq_true (List.mem_filter.1 hv).2
      · intro hx
        have := hr x hx
        exact ⟨x.toNat, List.mem_filter.2 ⟨List.mem_range.2 (by omega), by rw [Int.toNat_of_nonneg this.1]; exact decide_eq_true hx⟩, Int.toNat_of_nonneg this.1⟩
  have := h2.length_eq
  rw [List.length_map] at this
  exact this
theorem Apart.nodup {l : List Int} (h : Apart l) : l.Nodup := by
  rw [List.nodup_iff_pairwise_ne, List.pairwise_iff_getElem]
  intro i j hi hj hij
  have := h j i (by omega) (by omega) (by omega)
  simpa [at_, hi, hj] using this.symm
theorem corners_law {n : Int} {fs : List (List Int)} (h : okS n fs) : sumL (buildT n fs).fan = (sides fs).length := by
  rw [(build_ok h).1, sides_sum]
  unfold sumL fansU
  congr 1
  rw [List.map_map]
  have h1 : ((List.range n.toNat).map (List.length ∘ fun (k : Nat) => fanL fs (k : Int))) = (List.range n.toNat).map fun (v : Nat) => ((List.range fs.length).map fun (k : Nat) => if (v : Int) ∈ at_ fs (k : Int) then 1 else 0).sum := by
    apply List.map_congr_left
    intro v hv
    rw [List.mem_range] at hv
    have h0 := h.1
    simp only [Function.comp_apply]
    rw [fan_mine h (by omega) (by omega), mine_sum]
  simp only [h1]
  rw [sum_swap]
  have h2 : (List.range fs.length).map (fun (j : Nat) => ((List.range n.toNat).map fun (i : Nat) => if (i : Int) ∈ at_ fs (j : Int) then 1 else 0).sum) = (List.range fs.length).map fun (j : Nat) => (at_ fs (j : Int)).length := by
    apply List.map_congr_left
    intro k hk
    rw [List.mem_range] at hk
    have hg := h.2.1 k (by omega) (by omega)
    refine count_in (Apart.nodup hg.2.2.1) fun x hx => ?_
    have := good_nn h.2.1 (f := k) (by omega) (by omega) x hx
    omega
  rw [h2]
  congr 1
  apply List.ext_getElem
  · simp
  · intro i hi hj
    simp at hi
    simp [at_, hi]
theorem fans_len {n : Int} {fs : List (List Int)} (h : okS n fs) : ((buildT n fs).fan.length : Int) = n := by
  rw [(build_ok h).1]; have := h.1; simp [fansU]; omega
theorem ed_none {n : Int} {fs : List (List Int)} (h : ¬ buildE n fs = 0) : (buildT n fs).ed.length = 0 := by
  by_cases g : okS n fs
  · exact absurd (build_ok g).2 h
  · rw [(build_no g).1]; rfl
end Go.Proofs.T
