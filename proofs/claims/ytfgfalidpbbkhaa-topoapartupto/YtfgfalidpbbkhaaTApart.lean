/- A part of the proof that a law of the edges and fans of faces answers true for every input of its bulk: own work, by an AI agent. -/
import Derived.Test.YtfgfalidpbbkhaaTTurn
import Derived.Test.YtfgfalidpbbkhaaAH15
set_option linter.unusedVariables false
set_option linter.unusedSimpArgs false
namespace Go.Proofs.T
open Go Go.AH
theorem fm_congr {α β : Type} {l : List α} {f g : α → List β} (h : ∀ a ∈ l, f a = g a) : l.flatMap f = l.flatMap g := by
  induction l with
  | nil => rfl
  | cons a l ih => rw [List.flatMap_cons, List.flatMap_cons, h a (.head _), ih fun x hx => h x (.tail _ hx)]
/-! ### Two surfaces beside one another -/
def shF (v : Int) (l : List Int) : List Int := l.map (· + v)
def joinS (v : Int) (fs gs : List (List Int)) : List (List Int) := fs ++ gs.map (shF v)
def lft (F : Nat) (x : Int) : Int := if 0 ≤ x then x + F else x
theorem lft_nn {F : Nat} {x : Int} : 0 ≤ lft F x ↔ 0 ≤ x := by unfold lft; split <;> omega
theorem lft_at {F : Nat} {x : Int} (h : 0 ≤ x) : lft F x = x + F := by unfold lft; rw [if_pos h]
theorem join_len (v : Int) (fs gs : List (List Int)) : (joinS v fs gs).length = fs.length + gs.length := by simp [joinS]
theorem sh_at {v : Int} {l : List Int} {i : Int} (h0 : 0 ≤ i) (h1 : i < l.length) : at_ (shF v l) i = at_ l i + v := by
  have h : i.toNat < l.length := by omega
  simp [at_, shF, h]
theorem join_at1 {v : Int} {fs gs : List (List Int)} {i : Int} (h0 : 0 ≤ i) (h1 : i < fs.length) : at_ (joinS v fs gs) i = at_ fs i := by
  have h : i.toNat < fs.length := by omega
  unfold at_ joinS
  rw [List.getD_eq_getElem?_getD, List.getD_eq_getElem?_getD, List.getElem?_append_left h]
theorem join_at2 {v : Int} {fs gs : List (List Int)} {i : Int} (h0 : 0 ≤ i) : at_ (joinS v fs gs) (i + fs.length) = shF v (at_ gs i) := by
  unfold at_ joinS
  rw [List.getD_eq_getElem?_getD, List.getD_eq_getElem?_getD, List.getElem?_append_right (by omega), List.getElem?_map, show (i + (fs.length : Int)).toNat - fs.length = i.toNat by omega]
  cases gs[i.toNat]? <;> rfl
theorem way_sh (v : Int) (l : List Int) : wayF (shF v l) = (wayF l).map fun w => (w.1 + v, w.2 + v) := by
  unfold wayF
  rw [List.map_map, show (shF v l).length = l.length by simp [shF]]
  apply List.map_congr_left
  intro i hi
  rw [List.mem_range] at hi
  have hm := mod_in (x := (i : Int) + 1) (y := (l.length : Int)) (by omega)
  simp only [Function.comp_apply]
  rw [sh_at (by omega) (by omega), sh_at hm.1 hm.2]
theorem sides_sh (v : Int) (F : Nat) (gs : List (List Int)) : ∀ k, sidesFrom (k + F) (gs.map (shF v)) = (sidesFrom k gs).map fun s => ((s.1.1 + v, s.1.2 + v), s.2 + F) := by
  induction gs with
  | nil => intro k; rfl
  | cons l gs ih =>
    intro k
    rw [List.map_cons, sidesFrom, sidesFrom, List.map_append, show k + F + 1 = (k + 1) + F by omega, ih, way_sh]
    simp [List.map_map, Function.comp_def]
theorem sides_join (v : Int) (fs gs : List (List Int)) : sides (joinS v fs gs) = sides fs ++ (sides gs).map fun s => ((s.1.1 + v, s.1.2 + v), s.2 + fs.length) := by
  unfold sides joinS
  rw [sidesFrom_append, sides_sh]
theorem hits_sh (L : List ((Int × Int) × Nat)) (v : Int) (F : Nat) (a b : Int) : hitsL (L.map fun s => ((s.1.1 + v, s.1.2 + v), s.2 + F)) a b = (hitsL L (a - v) (b - v)).map (· + F) := by
  unfold hitsL
  induction L with
  | nil => rfl
  | cons s L ih =>
    obtain ⟨⟨x, y⟩, f⟩ := s
    rw [List.map_cons, List.filter_cons, List.filter_cons]
    by_cases g : x + v = a ∧ y + v = b
    · rw [if_pos (by simp; exact g), if_pos (by simp; omega), List.map_cons, ih]; rfl
    · rw [if_neg (by simp; omega), if_neg (by simp; omega), ih]
theorem hits_out {n : Int} {fs : List (List Int)} (hg : goodS n fs) {a b : Int} (h : a < 0 ∨ n ≤ a ∨ b < 0 ∨ n ≤ b) : hitsL (sides fs) a b = [] := by
  rw [List.eq_nil_iff_forall_not_mem]
  intro f hf
  rw [mem_hits] at hf
  have := side_in hg hf
  simp only at this
  omega
theorem along_out {n : Int} {fs : List (List Int)} (hg : goodS n fs) {a b : Int} (h : a < 0 ∨ n ≤ a ∨ b < 0 ∨ n ≤ b) : alongS fs a b = -1 := by
  unfold alongS alongL
  rw [hits_out hg h]
section
variable {v m : Int} {fs gs : List (List Int)}
theorem along_j1 (hb : goodS m gs) {a b : Int} (h : a < v ∨ b < v) : alongS (joinS v fs gs) a b = alongS fs a b := by
  have e : hitsL (sides (joinS v fs gs)) a b = hitsL (sides fs) a b := by
    rw [sides_join, hitsL_append, hits_sh, hits_out hb (by omega)]; simp
  unfold alongS alongL
  rw [e]
theorem along_j2 (ha : goodS v fs) {a b : Int} (h : v ≤ a) : alongS (joinS v fs gs) a b = lft fs.length (alongS gs (a - v) (b - v)) := by
  have e : hitsL (sides (joinS v fs gs)) a b = (hitsL (sides gs) (a - v) (b - v)).map (· + fs.length) := by
    rw [sides_join, hitsL_append, hits_sh, hits_out ha (by omega)]; simp
  unfold alongS alongL
  rw [e]
  match hitsL (sides gs) (a - v) (b - v) with
  | [] => rfl
  | [f] => simp only [List.map_cons, List.map_nil]; unfold lft; rw [if_pos (by omega)]; omega
  | _ :: _ :: _ => rfl
theorem sh_way {l : List Int} {a b : Int} : (a, b) ∈ wayF (shF v l) ↔ (a - v, b - v) ∈ wayF l := by
  rw [way_sh, List.mem_map]
  constructor
  · rintro ⟨⟨x, y⟩, h, e⟩
    cases e
    rw [show x + v - v = x by omega, show y + v - v = y by omega]; exact h
  · intro h
    exact ⟨_, h, by simp⟩
theorem sh_nodup {l : List Int} (h : l.Nodup) : (shF v l).Nodup := by
  unfold shF
  rw [List.nodup_iff_pairwise_ne] at h ⊢
  rw [List.pairwise_map]
  exact h.imp fun h e => h (by omega)
theorem sh_mem {l : List Int} {x : Int} : x ∈ shF v l ↔ x - v ∈ l := by
  unfold shF
  rw [List.mem_map]
  constructor
  · rintro ⟨y, h, rfl⟩; rw [show y + v - v = y by omega]; exact h
  · intro h; exact ⟨_, h, by omega⟩
theorem good_join (hv : 0 ≤ v) (hm : 0 ≤ m) (ha : goodS v fs) (hb : goodS m gs) : goodS (v + m) (joinS v fs gs) := by
  intro f f0 f1
  rw [join_len] at f1
  by_cases c : f < fs.length
  · have h := ha f f0 c
    rw [join_at1 f0 c]
    refine ⟨h.1, fun i i0 i1 => by have := h.2.1 i i0 i1; omega, h.2.2.1, fun i i0 i1 => ?_⟩
    have := h.2.1 i i0 i1
    rw [along_j1 hb (by omega)]
    exact h.2.2.2 i i0 i1
  · obtain ⟨g, rfl⟩ : ∃ g, f = g + fs.length := ⟨f - fs.length, by omega⟩
    have g0 : 0 ≤ g := by omega
    have h := hb g g0 (by omega)
    rw [join_at2 g0]
    have hl : (shF v (at_ gs g)).length = (at_ gs g).length := by simp [shF]
    unfold goodF
    rw [hl]
    refine ⟨h.1, fun i i0 i1 => ?_, fun i k h1 h2 h3 => apart_of (sh_nodup (Apart.nodup h.2.2.1)) i k h1 h2 (by rw [hl]; exact h3), fun i i0 i1 => ?_⟩
    · rw [sh_at i0 i1]; have := h.2.1 i i0 i1; omega
    · have hr := mod_in (x := i + 1) (y := ((at_ gs g).length : Int)) (by omega)
      have h3 := h.2.1 i i0 i1
      rw [sh_at i0 i1, sh_at hr.1 hr.2, along_j2 ha (by omega), lft_nn, show at_ (at_ gs g) i + v - v = at_ (at_ gs g) i by omega, show at_ (at_ gs g) ((i + 1) % ((at_ gs g).length : Int)) + v - v = at_ (at_ gs g) ((i + 1) % ((at_ gs g).length : Int)) by omega]
      exact h.2.2.2 i i0 i1
theorem next_sh {l : List Int} (hl : Apart l) {c : Int} (hc : c ∈ l) (hs : Apart (shF v l)) : nextS (shF v l) (c + v) 1 = nextS l c 1 + v ∧ nextS (shF v l) (c + v) (-1) = nextS l c (-1) + v := by
  have hw := way_next hl hc
  refine ⟨(next_way hs (sh_way.2 ?_)).1, (next_way hs (sh_way.2 ?_)).2⟩
  · rw [show c + v - v = c by omega, show nextS l c 1 + v - v = nextS l c 1 by omega]; exact hw.1
  · rw [show c + v - v = c by omega, show nextS l c (-1) + v - v = nextS l c (-1) by omega]; exact hw.2
/-! The faces around a vertex of the first one -/
theorem mine_j1a {c : Int} : ∀ k : Nat, k ≤ fs.length → mineU (joinS v fs gs) c (k : Int) = mineU fs c (k : Int) := by
  intro k hk
  unfold mineU
  apply fm_congr
  intro i hi
  rw [List.mem_range] at hi
  rw [join_at1 (by omega) (by omega)]
theorem out_j1 (hb : goodS m gs) {c : Int} (h : c < v) {k : Int} (k0 : 0 ≤ k) (k1 : k < gs.length) : c ∉ at_ (joinS v fs gs) (k + fs.length) := by
  rw [join_at2 k0, sh_mem]
  intro hc
  have := good_nn hb k0 k1 _ hc
  omega
theorem out_j2 (ha : goodS v fs) {c : Int} (h : v ≤ c) {k : Int} (k0 : 0 ≤ k) (k1 : k < fs.length) : c ∉ at_ (joinS v fs gs) k := by
  rw [join_at1 k0 k1]
  intro hc
  have := good_nn ha k0 k1 _ hc
  omega
theorem mine_j1 (hb : goodS m gs) {c : Int} (h : c < v) : ∀ k : Nat, k ≤ gs.length → mineU (joinS v fs gs) c ((fs.length + k : Nat) : Int) = mineU fs c fs.length := by
  intro k
  induction k with
  | zero => intro _; exact mine_j1a _ (Nat.le_refl _)
  | succ k ih =>
    intro hk
    rw [show ((fs.length + (k + 1) : Nat) : Int) = ((fs.length + k : Nat) : Int) + 1 by omega, mine_F (by omega), ih (by omega)]
    have := out_j1 (v := v) (fs := fs) hb h (k := k) (by omega) (by omega)
    rw [show ((fs.length + k : Nat) : Int) = (k : Int) + fs.length by omega]; exact this
theorem mine_j2 (ha : goodS v fs) {c : Int} (h : v ≤ c) : ∀ k : Nat, k ≤ gs.length → mineU (joinS v fs gs) c ((fs.length + k : Nat) : Int) = (mineU gs (c - v) (k : Int)).map (· + (fs.length : Int)) := by
  intro k
  induction k with
  | zero =>
    intro _
    have z : mineU (joinS v fs gs) c ((fs.length + 0 : Nat) : Int) = [] := by
      rw [List.eq_nil_iff_forall_not_mem]
      intro y hy
      obtain ⟨y0, y1, y2⟩ := mem_mineU.1 hy
      exact out_j2 ha h y0 (by omega) y2
    rw [z]; simp [mineU]
  | succ k ih =>
    intro hk
    have e : c ∈ at_ (joinS v fs gs) ((k : Int) + fs.length) ↔ c - v ∈ at_ gs (k : Int) := by rw [join_at2 (by omega), sh_mem]
    rw [show ((fs.length + (k + 1) : Nat) : Int) = ((fs.length + k : Nat) : Int) + 1 by omega, show ((k + 1 : Nat) : Int) = (k : Int) + 1 by omega]
    by_cases g : c - v ∈ at_ gs (k : Int)
    · rw [mine_T (by omega) g, mine_T (by omega) (by rw [show ((fs.length + k : Nat) : Int) = (k : Int) + fs.length by omega]; exact e.2 g), ih (by omega), List.map_append]
      simp; omega
    · rw [mine_F (by omega) g, mine_F (by omega) (by rw [show ((fs.length + k : Nat) : Int) = (k : Int) + fs.length by omega]; exact fun q => g (e.1 q)), ih (by omega)]
theorem first_j1a (hb : goodS m gs) {c : Int} (h : c < v) : ∀ k : Nat, k ≤ fs.length → firstN (joinS v fs gs) c k = firstN fs c k := by
  intro k
  induction k with
  | zero => intro _; rfl
  | succ k ih =>
    intro hk
    unfold firstN
    rw [join_at1 (by omega) (by omega), along_j1 hb (.inr h), ih (by omega)]
theorem first_j1 (hb : goodS m gs) {c : Int} (h : c < v) : ∀ k : Nat, k ≤ gs.length → firstN (joinS v fs gs) c (fs.length + k) = firstN fs c fs.length := by
  intro k
  induction k with
  | zero => intro _; exact first_j1a hb h _ (Nat.le_refl _)
  | succ k ih =>
    intro hk
    have := out_j1 (v := v) (fs := fs) hb h (k := k) (by omega) (by omega)
    rw [← ih (by omega)]
    show firstN (joinS v fs gs) c ((fs.length + k) + 1) = _
    rw [firstN, if_neg]
    rw [show ((fs.length + k : Nat) : Int) = (k : Int) + fs.length by omega]; exact fun q => this q.1
theorem first_j2 (ha : goodS v fs) (hb : goodS m gs) {c : Int} (h : v ≤ c) : ∀ k : Nat, k ≤ gs.length → firstN (joinS v fs gs) c (fs.length + k) = lft fs.length (firstN gs (c - v) k) := by
  intro k
  induction k with
  | zero =>
    intro _
    have hf := first_le (joinS v fs gs) c fs.length
    rcases Int.lt_or_le (firstN (joinS v fs gs) c fs.length) 0 with g | g
    · show firstN (joinS v fs gs) c fs.length = -1; omega
    · exact absurd (hf.2.2 g) (out_j2 ha h g hf.2.1)
  | succ k ih =>
    intro hk
    show firstN (joinS v fs gs) c ((fs.length + k) + 1) = _
    unfold firstN
    have e : c ∈ at_ (joinS v fs gs) ((k : Int) + fs.length) ↔ c - v ∈ at_ gs (k : Int) := by rw [join_at2 (by omega), sh_mem]
    rw [show ((fs.length + k : Nat) : Int) = (k : Int) + fs.length by omega]
    by_cases g : c - v ∈ at_ gs (k : Int)
    · have hap := good_apart hb (f := k) (by omega) (by omega)
      have hn := next_sh (v := v) hap g (apart_of (sh_nodup (Apart.nodup hap)))
      rw [show c - v + v = c by omega] at hn
      have hnn := next_in hb (f := k) (by omega) (by omega) g 1
      have e2 : alongS (joinS v fs gs) (nextS (at_ (joinS v fs gs) ((k : Int) + fs.length)) c 1) c = lft fs.length (alongS gs (nextS (at_ gs (k : Int)) (c - v) 1) (c - v)) := by
        rw [join_at2 (by omega), hn.1, along_j2 ha (by omega), show nextS (at_ gs (k : Int)) (c - v) 1 + v - v = nextS (at_ gs (k : Int)) (c - v) 1 by omega]
      rw [e2]
      have e3 : lft fs.length (alongS gs (nextS (at_ gs (k : Int)) (c - v) 1) (c - v)) < 0 ↔ alongS gs (nextS (at_ gs (k : Int)) (c - v) 1) (c - v) < 0 := by
        have := lft_nn (F := fs.length) (x := alongS gs (nextS (at_ gs (k : Int)) (c - v) 1) (c - v)); omega
      by_cases q : alongS gs (nextS (at_ gs (k : Int)) (c - v) 1) (c - v) < 0
      · rw [if_pos ⟨e.2 g, e3.2 q⟩, if_pos ⟨g, q⟩, lft_at (by omega)]
      · rw [if_neg (fun z => q (e3.1 z.2)), if_neg (fun z => q z.2), ih (by omega)]
    · rw [if_neg (fun q => g (e.1 q.1)), if_neg (fun q => g q.1), ih (by omega)]
theorem head_j1 (hb : goodS m gs) {c : Int} (h : c < v) : headS (joinS v fs gs) c = headS fs c ∧ (mineU (joinS v fs gs) c (joinS v fs gs).length = mineU fs c fs.length) := by
  have h1 := first_j1 (fs := fs) hb h gs.length (Nat.le_refl _)
  have h2 := mine_j1 (fs := fs) hb h gs.length (Nat.le_refl _)
  rw [← join_len v] at h1 h2
  unfold headS
  rw [h1, h2]
  exact ⟨rfl, rfl⟩
theorem head_j2 (ha : goodS v fs) (hb : goodS m gs) {c : Int} (h : v ≤ c) (hne : mineU gs (c - v) gs.length ≠ []) : headS (joinS v fs gs) c = headS gs (c - v) + fs.length ∧ mineU (joinS v fs gs) c (joinS v fs gs).length = (mineU gs (c - v) gs.length).map (· + (fs.length : Int)) := by
  have h1 := first_j2 ha hb h gs.length (Nat.le_refl _)
  have h2 := mine_j2 (gs := gs) ha h gs.length (Nat.le_refl _)
  rw [← join_len v] at h1 h2
  unfold headS
  rw [h1, h2]
  refine ⟨?_, rfl⟩
  have hl := lft_nn (F := fs.length) (x := firstN gs (c - v) gs.length)
  by_cases g : firstN gs (c - v) gs.length < 0
  · rw [if_pos (by omega), if_pos g]
    have hp := List.length_pos_iff.2 hne
    simp [at_, hp]
  · rw [if_neg (by omega), if_neg g, lft_at (by omega)]
theorem join_fan1 (hv : 0 ≤ v) (hm : 0 ≤ m) (ha : okS v fs) (hb : goodS m gs) {c : Int} (h0 : 0 ≤ c) (h1 : c < v) : fanOK (joinS v fs gs) c = true ∧ fanR (joinS v fs gs) c = fanR fs c ∧ (fanL (joinS v fs gs) c).length = (fanL fs c).length := by
  obtain ⟨hne, F⟩ := fan_of ha h0 h1
  have hj := head_j1 (fs := fs) hb h1
  have hst : ∀ f : Int, 0 ≤ f → f < fs.length → stepS (joinS v fs gs) c f = stepS fs c f := fun f f0 f1 => by
    unfold stepS; rw [join_at1 f0 f1, along_j1 hb (.inl h1)]
  have hit : ∀ i, i ≤ stopK fs c (headS fs c) → iterS (stepS (joinS v fs gs) c) (headS fs c) i = iterS (stepS fs c) (headS fs c) i := by
    intro i
    induction i with
    | zero => intro _; rfl
    | succ i ih =>
      intro hi
      show stepS (joinS v fs gs) c _ = stepS fs c _
      rw [ih (by omega)]
      have := F.mem (i := i) (by omega)
      exact hst _ this.1 this.2.1
  have F' : Fan (joinS v fs gs) (v + m) c (headS (joinS v fs gs) c) (stopK fs c (headS fs c)) := by
    rw [hj.1]
    refine ⟨good_join hv hm ha.2.1 hb, F.x0, by rw [join_len]; have := F.x1; omega, by rw [join_at1 F.x0 F.x1]; exact F.xv, fun i hi => ?_, F.pos, ?_, fun f f0 f1 fv => ?_⟩
    · rw [hit i (by omega)]; exact F.run i hi
    · rw [hit _ (Nat.le_refl _)]; exact F.stop
    · rw [join_len] at f1
      by_cases g : f < fs.length
      · rw [join_at1 f0 g] at fv
        obtain ⟨i, hi, e⟩ := F.cover f f0 g fv
        exact ⟨i, hi, by rw [hit i (by omega)]; exact e⟩
      · have := out_j1 (v := v) (fs := fs) hb h1 (k := f - fs.length) (by omega) (by omega)
        rw [show f - (fs.length : Int) + fs.length = f by omega] at this
        exact absurd fv this
  have hok := F'.ok
  refine ⟨hok.2, ?_, ?_⟩
  · unfold fanR roundB
    rw [hj.2, if_neg hne, if_neg hne]
    have := first_j1 (fs := fs) hb h1 gs.length (Nat.le_refl _)
    rw [join_len, this]
  · unfold fanL
    rw [hj.2, if_neg hne, if_neg hne, orb_len, orb_len, ← hok.1]
theorem join_fan2 (hv : 0 ≤ v) (hm : 0 ≤ m) (ha : goodS v fs) (hb : okS m gs) {c : Int} (h0 : 0 ≤ c) (h1 : c < m) : fanOK (joinS v fs gs) (c + v) = true ∧ fanR (joinS v fs gs) (c + v) = fanR gs c ∧ (fanL (joinS v fs gs) (c + v)).length = (fanL gs c).length := by
  obtain ⟨hne, F⟩ := fan_of hb h0 h1
  have ec : c + v - v = c := by omega
  have hj := head_j2 (fs := fs) ha hb.2.1 (c := c + v) (by omega) (by rw [ec]; exact hne)
  rw [ec] at hj
  have hst : ∀ f : Int, 0 ≤ f → f < gs.length → c ∈ at_ gs f → stepS (joinS v fs gs) (c + v) (f + fs.length) = lft fs.length (stepS gs c f) := fun f f0 f1 fv => by
    unfold stepS
    have hap := good_apart hb.2.1 f0 f1
    have hn := next_sh (v := v) hap fv (apart_of (sh_nodup (Apart.nodup hap)))
    rw [join_at2 f0, hn.2, along_j2 ha (by omega), ec, show nextS (at_ gs f) c (-1) + v - v = nextS (at_ gs f) c (-1) by omega]
  have hit : ∀ i, i ≤ stopK gs c (headS gs c) → iterS (stepS (joinS v fs gs) (c + v)) (headS gs c + fs.length) i = lft fs.length (iterS (stepS gs c) (headS gs c) i) := by
    intro i
    induction i with
    | zero => intro _; exact (lft_at F.x0).symm
    | succ i ih =>
      intro hi
      show stepS (joinS v fs gs) (c + v) _ = lft fs.length (stepS gs c _)
      have := F.mem (i := i) (by omega)
      rw [ih (by omega), lft_at this.1]
      exact hst _ this.1 this.2.1 this.2.2
  have F' : Fan (joinS v fs gs) (v + m) (c + v) (headS (joinS v fs gs) (c + v)) (stopK gs c (headS gs c)) := by
    rw [hj.1]
    have hx := F.x0
    have hx1 := F.x1
    refine ⟨good_join hv hm ha hb.2.1, by omega, by rw [join_len]; omega, by rw [join_at2 F.x0, sh_mem, ec]; exact F.xv, fun i hi => ?_, F.pos, ?_, fun f f0 f1 fv => ?_⟩
    · rw [hit i (by omega)]
      have hr := F.run i hi
      refine ⟨lft_nn.2 hr.1, hr.2.imp id fun q e => q ?_⟩
      rw [lft_at hr.1] at e
      omega
    · rw [hit _ (Nat.le_refl _)]
      rcases F.stop with q | q
      · left; have := lft_nn (F := fs.length) (x := iterS (stepS gs c) (headS gs c) (stopK gs c (headS gs c))); omega
      · right; rw [q, lft_at hx]
    · rw [join_len] at f1
      by_cases g : f < fs.length
      · exact absurd fv (out_j2 ha (by omega) f0 g)
      · obtain ⟨k, rfl⟩ : ∃ k, f = k + fs.length := ⟨f - fs.length, by omega⟩
        have k0 : 0 ≤ k := by omega
        rw [join_at2 k0, sh_mem, ec] at fv
        obtain ⟨i, hi, e⟩ := F.cover k k0 (by omega) fv
        exact ⟨i, hi, by rw [hit i (by omega), e, lft_at k0]⟩
  have hok := F'.ok
  have hnej : mineU (joinS v fs gs) (c + v) (joinS v fs gs).length ≠ [] := by rw [hj.2]; simpa using hne
  refine ⟨hok.2, ?_, ?_⟩
  · unfold fanR roundB
    rw [if_neg hnej, if_neg hne]
    have := first_j2 (fs := fs) ha hb.2.1 (c := c + v) (by omega) gs.length (Nat.le_refl _)
    rw [join_len, this, ec]
    have hl := lft_nn (F := fs.length) (x := firstN gs c gs.length)
    exact decide_eq_decide.2 (by omega)
  · unfold fanL
    rw [if_neg hnej, if_neg hne, orb_len, orb_len, ← hok.1]
theorem ok_join (ha : okS v fs) (hb : okS m gs) : okS (v + m) (joinS v fs gs) := by
  have hv := ha.1
  have hm := hb.1
  refine ⟨by omega, good_join hv hm ha.2.1 hb.2.1, fun c h0 h1 => ?_⟩
  by_cases g : c < v
  · exact (join_fan1 hv hm ha hb.2.1 h0 g).1
  · have := (join_fan2 hv hm ha.2.1 hb (c := c - v) (by omega) (by omega)).1
    rw [show c - v + v = c by omega] at this
    exact this
def shE (v : Int) (F : Nat) (e : Ed) : Ed := ⟨e.A + v, e.B + v, lft F e.F, lft F e.G⟩
theorem eOut_join (hv : 0 ≤ v) (hm : 0 ≤ m) (ha : goodS v fs) (hb : goodS m gs) : eOut (joinS v fs gs) (v + m) (v + m) = eOut fs v v ++ (eOut gs m m).map (shE v fs.length) := by
  have hr : List.range (v + m).toNat = List.range v.toNat ++ (List.range m.toNat).map (v.toNat + ·) := by
    rw [show (v + m).toNat = v.toNat + m.toNat by omega, List.range_add]
  have e1 : ∀ j : Nat, j < v.toNat → eIn (joinS v fs gs) j (v + m) = eIn fs j v := fun j hj => by
    unfold eIn
    rw [hr, List.flatMap_append]
    have z : ((List.range m.toNat).map (v.toNat + ·)).flatMap (fun (k : Nat) => if (j : Int) < k then eAt (joinS v fs gs) j k else []) = [] := by
      rw [List.flatMap_eq_nil_iff]
      intro k hk
      rw [List.mem_map] at hk
      obtain ⟨q, hq, rfl⟩ := hk
      split
      · unfold eAt
        rw [along_j1 hb (.inl (by omega)), along_j1 hb (.inr (by omega)), along_out ha (by omega), along_out ha (by omega), if_neg (by omega)]
      · rfl
    rw [z, List.append_nil]
    apply fm_congr
    intro k hk
    split
    · unfold eAt
      rw [along_j1 hb (.inl (by omega)), along_j1 hb (.inr (by omega))]
    · rfl
  have e2 : ∀ j : Nat, eIn (joinS v fs gs) ((v.toNat + j : Nat) : Int) (v + m) = (eIn gs j m).map (shE v fs.length) := fun j => by
    unfold eIn
    rw [hr, List.flatMap_append]
    have z : (List.range v.toNat).flatMap (fun (k : Nat) => if ((v.toNat + j : Nat) : Int) < k then eAt (joinS v fs gs) ((v.toNat + j : Nat) : Int) k else []) = [] := by
      rw [List.flatMap_eq_nil_iff]
      intro k hk
      rw [List.mem_range] at hk
      rw [if_neg (by omega)]
    rw [z, List.nil_append, List.flatMap_map, List.map_flatMap]
    apply fm_congr
    intro k hk
    by_cases g : (j : Int) < k
    · rw [if_pos (by omega), if_pos g]
      unfold eAt
      have hl1 := lft_nn (F := fs.length) (x := alongS gs j k)
      have hl2 := lft_nn (F := fs.length) (x := alongS gs k j)
      rw [along_j2 ha (by omega), along_j2 ha (by omega), show ((v.toNat + j : Nat) : Int) - v = j by omega, show ((v.toNat + k : Nat) : Int) - v = k by omega]
      by_cases q : 0 ≤ alongS gs j k ∨ 0 ≤ alongS gs k j
      · rw [if_pos (by omega), if_pos q]
        simp only [List.map_cons, List.map_nil, shE]
        rw [show ((v.toNat + j : Nat) : Int) = (j : Int) + v by omega, show ((v.toNat + k : Nat) : Int) = (k : Int) + v by omega]
      · rw [if_neg (by omega), if_neg q]; rfl
    · rw [if_neg (by omega), if_neg g]; rfl
  unfold eOut
  rw [hr, List.flatMap_append, List.flatMap_map, List.map_flatMap]
  congr 1
  · apply fm_congr
    intro j hj
    rw [List.mem_range] at hj
    exact e1 j hj
  · apply fm_congr
    intro j _
    exact e2 j
end
theorem join_lens {v : Int} {fs gs : List (List Int)} {c : Nat} (ha : ∀ l ∈ fs, l.length ≤ c) (hb : ∀ l ∈ gs, l.length ≤ c) : ∀ l ∈ joinS v fs gs, l.length ≤ c := fun l hl => by
  rcases List.mem_append.1 hl with h | h
  · exact ha l h
  · obtain ⟨x, hx, rfl⟩ := List.mem_map.1 h
    simpa [shF] using hb x hx
structure ApartL (v m : Int) (fs gs : List (List Int)) : Prop where
  e : buildE (v + m) (joinS v fs gs) = 0
  len : (buildT (v + m) (joinS v fs gs)).ed.length = (buildT v fs).ed.length + (buildT m gs).ed.length
  fl : ((buildT (v + m) (joinS v fs gs)).fan.length : Int) = (buildT v fs).fan.length + (buildT m gs).fan.length
  fl1 : ((buildT v fs).fan.length : Int) = v
  rl : ((buildT (v + m) (joinS v fs gs)).rnd.length : Int) = v + m
  rl2 : ((buildT m gs).rnd.length : Int) = m
  fl2 : ((buildT m gs).fan.length : Int) = m
  ed : ∀ i : Int, 0 ≤ i → i < (buildT v fs).ed.length → at_ (buildT (v + m) (joinS v fs gs)).ed i = at_ (buildT v fs).ed i
  fan : ∀ i : Int, 0 ≤ i → i < (buildT m gs).fan.length → (at_ (buildT (v + m) (joinS v fs gs)).fan ((buildT v fs).fan.length + i)).length = (at_ (buildT m gs).fan i).length
  rnd : ∀ i : Int, 0 ≤ i → i < (buildT m gs).fan.length → at_ (buildT (v + m) (joinS v fs gs)).rnd ((buildT v fs).fan.length + i) = at_ (buildT m gs).rnd i
theorem fansU_at {fs : List (List Int)} {n i : Int} (h0 : 0 ≤ i) (h1 : i < n) : at_ (fansU fs n) i = fanL fs i := by
  have h : i.toNat < n.toNat := by omega
  simp [at_, fansU, h, Int.toNat_of_nonneg h0]
theorem rndU_at {fs : List (List Int)} {n i : Int} (h0 : 0 ≤ i) (h1 : i < n) : at_ (rndU fs n) i = fanR fs i := by
  have h : i.toNat < n.toNat := by omega
  simp [at_, rndU, h, Int.toNat_of_nonneg h0]
theorem apart_law {v m : Int} {fs gs : List (List Int)} (ha : okS v fs) (hb : okS m gs) : ApartL v m fs gs := by
  have hv := ha.1
  have hm := hb.1
  have hj := ok_join ha hb
  have f1 := fans_len ha
  have f2 := fans_len hb
  have f3 := fans_len hj
  have hed := eOut_join hv hm ha.2.1 hb.2.1
  constructor
  · exact (build_ok hj).2
  · rw [(build_ok hj).1, (build_ok ha).1, (build_ok hb).1]; simp only; rw [hed]; simp
  · omega
  · omega
  · rw [(build_ok hj).1]; simp [rndU]; omega
  · rw [(build_ok hb).1]; simp [rndU]; omega
  · omega
  · intro i h0 h1
    rw [(build_ok ha).1] at h1
    rw [(build_ok hj).1, (build_ok ha).1]
    simp only at h1 ⊢
    rw [hed]
    unfold at_
    rw [List.getD_eq_getElem?_getD, List.getD_eq_getElem?_getD, List.getElem?_append_left (by omega)]
  · intro i h0 h1
    rw [f2] at h1
    rw [f1, (build_ok hj).1, (build_ok hb).1]
    simp only
    rw [fansU_at (by omega) (by omega), fansU_at h0 h1, Int.add_comm v i]
    exact (join_fan2 hv hm ha.2.1 hb h0 h1).2.2
  · intro i h0 h1
    rw [f2] at h1
    rw [f1, (build_ok hj).1, (build_ok hb).1]
    simp only
    rw [rndU_at (by omega) (by omega), rndU_at h0 h1, Int.add_comm v i]
    exact (join_fan2 hv hm ha.2.1 hb h0 h1).2.1
end Go.Proofs.T
