/- A part of the proof that a law of the edges and fans of faces answers true for every input of its bulk: own work, by an AI agent. -/
import Derived.Test.YtfgfalidpbbkhaaTSpec4
import Derived.Test.YtfgfalidpbbkhaaTKey
import Derived.Test.YtfgfalidpbbkhaaAH13
set_option linter.unusedVariables false
set_option linter.unusedSimpArgs false
namespace Go.Proofs.T
open Go Go.AH
/-! ### The surface's map -/
def eS (s : (Int × Int) × Nat) : AV × AV := (.agg (eW s.1), .int .i64 (s.2 : Int))
def KR (L : List ((Int × Int) × Nat)) : Prop := ∀ s ∈ L, inR s.1.1 ∧ inR s.1.2
theorem eW_inj {a b : Int × Int} : AV.agg (eW a) = AV.agg (eW b) ↔ a = b := by
  rw [AV.agg.injEq]; exact (eW_iff a b).symm
theorem mgetL (L : List ((Int × Int) × Nat)) (a b : Int) : mget (L.map eS) (.agg (eW (a, b))) = match hitsL L a b with | [] => none | f :: _ => some (.int .i64 (f : Int)) := by
  induction L with
  | nil => rfl
  | cons s L ih =>
    unfold mget at ih ⊢
    rw [List.map_cons, List.find?_cons]
    by_cases h : s.1 = (a, b)
    · have h1 : hitsL (s :: L) a b = s.2 :: hitsL L a b := by simp [hitsL, h]
      rw [h1]
      have h2 : (eS s).1 = .agg (eW (a, b)) := by show AV.agg (eW s.1) = _; rw [h]
      simp only [h2, decide_true]
      rfl
    · have h1 : hitsL (s :: L) a b = hitsL L a b := by simp [hitsL, h]
      rw [h1]
      have h2 : ¬ (eS s).1 = .agg (eW (a, b)) := fun e => h (eW_inj.1 e)
      simp only [h2, decide_false]
      exact ih
theorem mputL {L : List ((Int × Int) × Nat)} {w : Int × Int} {f : Nat} (h : hitsL L w.1 w.2 = []) : mput (L.map eS) (.agg (eW w)) (.int .i64 (f : Int)) = (L ++ [(w, f)]).map eS := by
  unfold mput
  have := mgetL L w.1 w.2
  rw [h] at this
  have e : ((w.1, w.2) : Int × Int) = w := rfl
  rw [e] at this
  rw [this]
  simp [eS]
theorem kes {L : List ((Int × Int) × Nat)} (h : KR L) : ∀ e ∈ L.map eS, KOK Try.prog 63 e.1 := by
  intro e he
  obtain ⟨s, hs, rfl⟩ := List.mem_map.1 he
  exact kok63 (h s hs).1 (h s hs).2
/-! ### Which faces are taken -/
def addF (n : Int) (fs : List (List Int)) (f : Int) : Prop := 3 ≤ ((at_ fs f).length : Int) ∧ (∀ i : Int, 0 ≤ i → i < (at_ fs f).length → 0 ≤ at_ (at_ fs f) i ∧ at_ (at_ fs f) i < n) ∧
  Apart (at_ fs f) ∧ ∀ i : Int, 0 ≤ i → i < (at_ fs f).length → hitsL (psides fs f i) (at_ (at_ fs f) i) (at_ (at_ fs f) ((i + 1) % (at_ fs f).length)) = []
def Keys (L : List ((Int × Int) × Nat)) : Prop := (L.map Prod.fst).Nodup
theorem keys_step {L : List ((Int × Int) × Nat)} {w : Int × Int} {f : Nat} (h : Keys L) (hn : hitsL L w.1 w.2 = []) : Keys (L ++ [(w, f)]) := by
  unfold Keys at h ⊢
  rw [List.map_append, List.nodup_append]
  refine ⟨h, by simp, fun x hx y hy => ?_⟩
  simp at hy; subst hy
  rintro rfl
  obtain ⟨s, hs, e⟩ := List.mem_map.1 hx
  have : s.2 ∈ hitsL L x.1 x.2 := mem_hits.2 (by rw [show ((x.1, x.2) : Int × Int) = x from rfl, ← e]; exact hs)
  rw [hn] at this
  simp at this
theorem keys_hits {L : List ((Int × Int) × Nat)} (h : Keys L) (a b : Int) : (hitsL L a b).length ≤ 1 := by
  induction L with
  | nil => simp [hitsL]
  | cons s L ih =>
    unfold Keys at h
    rw [List.map_cons, List.nodup_cons] at h
    by_cases e : s.1 = (a, b)
    · have h0 : hitsL L a b = [] := by
        apply List.eq_nil_iff_forall_not_mem.2
        intro f hf
        exact h.1 (List.mem_map.2 ⟨((a, b), f), mem_hits.1 hf, e.symm⟩)
      have h1 : hitsL (s :: L) a b = s.2 :: hitsL L a b := by simp [hitsL, e]
      rw [h1, h0]; simp
    · have h1 : hitsL (s :: L) a b = hitsL L a b := by simp [hitsL, e]
      rw [h1]; exact ih h.2
theorem add_keys {n : Int} {fs : List (List Int)} {k : Nat} (hk : k ≤ fs.length) (h : ∀ f : Int, 0 ≤ f → f < k → addF n fs f) : Keys (sides (fs.take k)) := by
  induction k with
  | zero => simp [Keys, sides, sidesFrom]
  | succ k ih =>
    have hf := h k (by omega) (by omega)
    have key : ∀ i : Nat, (i : Int) ≤ (at_ fs (k : Int)).length → Keys (psides fs k i) := by
      intro i
      induction i with
      | zero => intro _; rw [show ((0 : Nat) : Int) = 0 from rfl, psides_0]; exact ih (by omega) fun f h0 h1 => h f h0 (by omega)
      | succ i ihi =>
        intro hi
        rw [show ((i + 1 : Nat) : Int) = (i : Int) + 1 by omega, psides_step (by omega) (by omega)]
        exact keys_step (ihi (by omega)) (hf.2.2.2 i (by omega) (by omega))
    have := key (at_ fs (k : Int)).length (Int.le_refl _)
    rw [psides_end (by omega) (by omega) (Int.le_refl _)] at this
    exact this
theorem along_keys {fs : List (List Int)} (h : Keys (sides fs)) (a b : Int) : (0 ≤ alongS fs a b ↔ hitsL (sides fs) a b ≠ []) ∧ (alongS fs a b = -1 ∨ 0 ≤ alongS fs a b) := by
  have hl := keys_hits h a b
  unfold alongS
  rcases alongL_cases (sides fs) a b with ⟨h1, h2⟩ | ⟨g, h1, h2⟩ | ⟨h1, h2⟩
  · rw [h1, h2]; simp
  · rw [h1, h2]; simp
  · omega
theorem good_add {n : Int} {fs : List (List Int)} : goodS n fs ↔ ∀ f : Int, 0 ≤ f → f < fs.length → addF n fs f := by
  constructor
  · intro hg f h0 h1
    have hf := hg f h0 h1
    refine ⟨hf.1, hf.2.1, hf.2.2.1, fun i i0 i1 => ?_⟩
    have ha := hf.2.2.2 i i0 i1
    obtain ⟨M, hM⟩ := psides_pre (fs := fs) (f := f) (i := i + 1) h0 h1
    rw [psides_step i0 i1] at hM
    unfold alongS at ha
    rcases alongL_cases (sides fs) (at_ (at_ fs f) i) (at_ (at_ fs f) ((i + 1) % (at_ fs f).length)) with ⟨_, h2⟩ | ⟨g, h3, _⟩ | ⟨_, h2⟩
    · omega
    · rw [hM, hitsL_append, hitsL_append] at h3
      have e : hitsL [((at_ (at_ fs f) i, at_ (at_ fs f) ((i + 1) % (at_ fs f).length)), f.toNat)] (at_ (at_ fs f) i) (at_ (at_ fs f) ((i + 1) % (at_ fs f).length)) = [f.toNat] := by simp [hitsL]
      rw [e] at h3
      have := congrArg List.length h3
      simp only [List.length_append, List.length_cons, List.length_nil] at this
      exact List.eq_nil_of_length_eq_zero (by omega)
    · omega
  · intro h f h0 h1
    have hf := h f h0 h1
    have hk := add_keys (Nat.le_refl fs.length) (fun f g0 g1 => h f g0 g1)
    rw [List.take_length] at hk
    refine ⟨hf.1, hf.2.1, hf.2.2.1, fun i i0 i1 => ?_⟩
    rw [(along_keys hk _ _).1]
    intro e
    have : f.toNat ∈ hitsL (sides fs) (at_ (at_ fs f) i) (at_ (at_ fs f) ((i + 1) % (at_ fs f).length)) := by
      rw [mem_hits, mem_sides]
      refine ⟨by omega, ?_⟩
      rw [Int.toNat_of_nonneg h0]
      exact mem_wayF.2 ⟨i, i0, i1, rfl, rfl⟩
    rw [e] at this; simp at this
theorem good_keys {n : Int} {fs : List (List Int)} (h : goodS n fs) : Keys (sides fs) := by
  have := add_keys (Nat.le_refl fs.length) (fun f g0 g1 => good_add.1 h f g0 g1)
  rwa [List.take_length] at this
theorem psides_KR {n : Int} {fs : List (List Int)} (hn : n ≤ 1000) {f i : Int} (h0 : 0 ≤ f) (h : ∀ g : Int, 0 ≤ g → g < f → g < fs.length → ∀ i : Int, 0 ≤ i → i < (at_ fs g).length → 0 ≤ at_ (at_ fs g) i ∧ at_ (at_ fs g) i < n)
    (hf : ∀ i : Int, 0 ≤ i → i < (at_ fs f).length → 0 ≤ at_ (at_ fs f) i ∧ at_ (at_ fs f) i < n) : KR (psides fs f i) := by
  have hw : ∀ l : List Int, (∀ i : Int, 0 ≤ i → i < l.length → 0 ≤ at_ l i ∧ at_ l i < n) → ∀ w ∈ wayF l, inR w.1 ∧ inR w.2 := by
    intro l hl w hw
    obtain ⟨j, j0, j1, e1, e2⟩ := mem_wayF.1 (show (w.1, w.2) ∈ wayF l from hw)
    have h1 := hl j j0 j1
    have h2 := mod_in (x := j + 1) (y := l.length) (by omega)
    have h3 := hl _ h2.1 h2.2
    rw [← e1] at h1
    rw [← e2] at h3
    unfold inR
    omega
  intro s hs
  unfold psides at hs
  rcases List.mem_append.1 hs with hs | hs
  · obtain ⟨h1, h2⟩ := mem_sides.1 (show (s.1, s.2) ∈ sides (fs.take f.toNat) from hs)
    rw [List.length_take] at h1
    have e : at_ (fs.take f.toNat) (s.2 : Int) = at_ fs (s.2 : Int) := by
      unfold at_
      simp only [Int.toNat_natCast, List.getD_eq_getElem?_getD, List.getElem?_take]
      rw [if_pos (by omega)]
    rw [e] at h2
    exact hw _ (h s.2 (by omega) (by omega) (by omega)) _ h2
  · obtain ⟨w, h1, rfl⟩ := List.mem_map.1 hs
    exact hw _ hf w (List.mem_of_mem_take h1)
theorem good_KR {n : Int} {fs : List (List Int)} (hn : n ≤ 1000) (hg : goodS n fs) : KR (sides fs) := by
  intro s hs
  obtain ⟨h1, h2⟩ := mem_sides.1 (show (s.1, s.2) ∈ sides fs from hs)
  obtain ⟨j, j0, j1, e1, e2⟩ := mem_wayF.1 (show (s.1.1, s.1.2) ∈ wayF _ from h2)
  have g1 := (hg s.2 (by omega) (by omega)).2.1 j j0 j1
  have g2 := mod_in (x := j + 1) (y := (at_ fs (s.2 : Int)).length) (by omega)
  have g3 := (hg s.2 (by omega) (by omega)).2.1 _ g2.1 g2.2
  rw [← e1] at g1
  rw [← e2] at g3
  unfold inR
  omega
def gotA (fs : List (List Int)) (a b : Int) : Int := if 0 ≤ alongS fs a b then alongS fs a b else 0
theorem look_sides {fs : List (List Int)} (h : Keys (sides fs)) (a b : Int) : (mget ((sides fs).map eS) (.agg (eW (a, b)))).getD (.int .i64 0) = .int .i64 (gotA fs a b) ∧ (mget ((sides fs).map eS) (.agg (eW (a, b)))).isSome = decide (0 ≤ alongS fs a b) := by
  rw [mgetL]
  have hk := (along_keys h a b).1
  unfold gotA
  unfold alongS at hk ⊢
  rcases alongL_cases (sides fs) a b with ⟨h1, h2⟩ | ⟨g, h1, h2⟩ | ⟨h1, h2⟩
  · rw [h1, h2]; simp
  · rw [h1, h2]; simp
  · have := keys_hits h a b; omega
theorem look_hits (L : List ((Int × Int) × Nat)) (a b : Int) : ∃ x : Int, (mget (L.map eS) (.agg (eW (a, b)))).getD (.int .i64 0) = .int .i64 x ∧ (mget (L.map eS) (.agg (eW (a, b)))).isSome = !decide (hitsL L a b = []) := by
  rw [mgetL]
  cases hitsL L a b with
  | nil => exact ⟨0, rfl, by simp⟩
  | cons f l => exact ⟨f, rfl, by simp⟩
theorem beside_eq {l : List Int} {v b : Int} (h : v ∈ l) : at_ l ((ixI l v + b + l.length) % l.length) = nextS l v b := by
  unfold ixI nextS
  rw [if_pos h, if_pos h]
  congr 2
  omega
theorem ix_in {l : List Int} {v : Int} (h : v ∈ l) : 0 ≤ ixI l v ∧ ixI l v < l.length := by
  unfold ixI; rw [if_pos h]
  have := List.idxOf_lt_length_of_mem h
  omega

/-- All but one block. -/
def hide (H : Heap) (m : Nat) : Heap := fun i => if i = m then none else H i
theorem hide_mono (H : Heap) (m : Nat) : Mono (hide H m) H := fun i B h => by
  unfold hide at h; split at h
  · cases h
  · exact h
theorem hide_none (H : Heap) (m : Nat) : hide H m m = none := by simp [hide]
end Go.Proofs.T
namespace Go.Proofs.T
open Go Go.AH
/-! ### The program's way to the first face -/
def badF (fs : List (List Int)) (v f : Int) : Bool := decide (alongS fs (nextS (at_ fs f) v 1) v < 0)
def foldB (fs : List (List Int)) (v : Int) (l : List Int) (x : Int) : Int := l.foldl (fun x f => if badF fs v f then f else x) x
def allG (fs : List (List Int)) (v : Int) (l : List Int) : Bool := l.all fun f => !badF fs v f
theorem foldB_step (fs : List (List Int)) (v : Int) (l : List Int) (x f : Int) : foldB fs v (l ++ [f]) x = if badF fs v f then f else foldB fs v l x := by simp [foldB]
theorem allG_step (fs : List (List Int)) (v : Int) (l : List Int) (f : Int) : allG fs v (l ++ [f]) = (allG fs v l && !badF fs v f) := by simp [allG]
theorem fold_mine (fs : List (List Int)) (v x : Int) (n : Nat) : foldB fs v (mineU fs v (n : Int)) x = (if firstN fs v n < 0 then x else firstN fs v n) ∧ allG fs v (mineU fs v (n : Int)) = decide (firstN fs v n < 0) := by
  induction n with
  | zero => simp [mineU, firstN, foldB, allG]
  | succ n ih =>
    have e : ((n + 1 : Nat) : Int) = (n : Int) + 1 := by omega
    rw [e]
    by_cases h : v ∈ at_ fs (n : Int)
    · rw [mine_T (by omega) h, foldB_step, allG_step, ih.1, ih.2]
      unfold badF
      by_cases hb : alongS fs (nextS (at_ fs (n : Int)) v 1) v < 0
      · have : firstN fs v (n + 1) = (n : Int) := by rw [firstN, if_pos ⟨h, hb⟩]
        rw [this]; simp [hb]; omega
      · have : firstN fs v (n + 1) = firstN fs v n := by rw [firstN, if_neg (fun g => hb g.2)]
        rw [this]; simp [hb]
    · rw [mine_F (by omega) h]
      have : firstN fs v (n + 1) = firstN fs v n := by rw [firstN, if_neg (fun g => h g.1)]
      rw [this]; exact ih
theorem fold_head {fs : List (List Int)} {v : Int} : foldB fs v (mineU fs v fs.length) (at_ (mineU fs v fs.length) 0) = headS fs v ∧ allG fs v (mineU fs v fs.length) = roundB fs v := fold_mine fs v _ _
theorem fold_T {fs : List (List Int)} {v i x : Int} {l : List Int} (h0 : 0 ≤ i) (h1 : i < l.length) (hb : alongS fs (nextS (at_ fs (at_ l i)) v 1) v < 0) : foldB fs v (l.take (i + 1).toNat) x = at_ l i ∧ allG fs v (l.take (i + 1).toNat) = false := by
  rw [take_step h0 h1, foldB_step, allG_step]; unfold badF; simp [hb]
theorem fold_F {fs : List (List Int)} {v i x : Int} {l : List Int} (h0 : 0 ≤ i) (h1 : i < l.length) (hb : ¬ alongS fs (nextS (at_ fs (at_ l i)) v 1) v < 0) : foldB fs v (l.take (i + 1).toNat) x = foldB fs v (l.take i.toNat) x ∧ allG fs v (l.take (i + 1).toNat) = allG fs v (l.take i.toNat) := by
  rw [take_step h0 h1, foldB_step, allG_step]; unfold badF; simp [hb]
theorem runs_one {fs : List (List Int)} {v x : Int} (h : 0 ≤ x) : Runs fs v x 1 := fun i hi => by
  have : i = 0 := by omega
  subst this; exact ⟨h, .inl rfl⟩
theorem iter_pred {fs : List (List Int)} {v x : Int} {k : Nat} (h : 1 ≤ k) : alongS fs v (nextS (at_ fs (iterS (stepS fs v) x (k - 1))) v (-1)) = iterS (stepS fs v) x k := by
  obtain ⟨m, rfl⟩ : ∃ m, k = m + 1 := ⟨k - 1, by omega⟩
  rfl
theorem orb_last {fs : List (List Int)} {v x : Int} {k : Nat} (h : 1 ≤ k) : at_ (orbS fs v x k) (((orbS fs v x k).length : Int) - 1) = iterS (stepS fs v) x (k - 1) := by
  rw [orb_len]
  have e : ((k : Int) - 1).toNat = k - 1 := by omega
  unfold at_ orbS
  rw [e]
  have : k - 1 < k := by omega
  simp [this]
theorem next_in {n v : Int} {fs : List (List Int)} (hg : goodS n fs) {f : Int} (h0 : 0 ≤ f) (h1 : f < fs.length) (hv : v ∈ at_ fs f) (b : Int) : 0 ≤ nextS (at_ fs f) v b ∧ nextS (at_ fs f) v b < n := by
  unfold nextS
  rw [if_pos hv]
  have hn : (0 : Int) < (at_ fs f).length := by have := List.length_pos_of_mem hv; omega
  have hm := mod_in (x := ((at_ fs f).idxOf v : Int) + (at_ fs f).length + b) hn
  exact (hg f h0 h1).2.1 _ hm.1 hm.2
theorem take_mem {l : List Int} {i v : Int} (h0 : 0 ≤ i) (h1 : i ≤ l.length) (h : v ∈ l.take i.toNat) : ∃ k : Int, 0 ≤ k ∧ k < i ∧ at_ l k = v := by
  obtain ⟨k, g0, g1, g2⟩ := mem_at h
  rw [List.length_take] at g1
  refine ⟨k, g0, by omega, ?_⟩
  rw [← g2]
  unfold at_
  simp only [List.getD_eq_getElem?_getD, List.getElem?_take]
  rw [if_pos (by omega)]
theorem apart_step {l : List Int} {i : Int} (h0 : 0 ≤ i) (h1 : i < l.length) (h : ∀ j k : Int, 0 ≤ k → k < j → j < i → at_ l j ≠ at_ l k) (hn : ¬ at_ l i ∈ l.take i.toNat) : ∀ j k : Int, 0 ≤ k → k < j → j < i + 1 → at_ l j ≠ at_ l k := by
  intro j k k0 k1 j1
  by_cases e : j = i
  · subst e
    intro e
    apply hn
    rw [e]
    have h2 : k.toNat < (l.take j.toNat).length := by rw [List.length_take]; omega
    have := List.getElem_mem h2
    have h3 : k.toNat < l.length := by omega
    rw [List.getElem_take] at this
    simpa [at_, h3] using this
  · exact h j k k0 k1 (by omega)
end Go.Proofs.T
