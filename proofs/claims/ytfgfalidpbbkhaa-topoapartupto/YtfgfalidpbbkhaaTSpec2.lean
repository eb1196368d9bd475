/- A part of the proof that a law of the edges and fans of faces answers true for every input of its bulk: own work, by an AI agent. -/
import Derived.Test.YtfgfalidpbbkhaaTSpec1
set_option linter.unusedVariables false
set_option linter.unusedSimpArgs false
namespace Go.Proofs.T
open Go Go.AH

/-! ### Sides of faces -/
def sidesFrom (k : Nat) : List (List Int) → List ((Int × Int) × Nat)
  | [] => []
  | l :: fs => (wayF l).map (fun w => (w, k)) ++ sidesFrom (k + 1) fs
def sides (fs : List (List Int)) : List ((Int × Int) × Nat) := sidesFrom 0 fs
def hitsL (L : List ((Int × Int) × Nat)) (a b : Int) : List Nat := (L.filter fun s => decide (s.1 = (a, b))).map fun s => s.2
def alongL (L : List ((Int × Int) × Nat)) (a b : Int) : Int := match hitsL L a b with
  | [] => -1
  | [f] => f
  | _ => -2
def alongS (fs : List (List Int)) (a b : Int) : Int := alongL (sides fs) a b
theorem sidesFrom_append (k : Nat) (xs ys : List (List Int)) : sidesFrom k (xs ++ ys) = sidesFrom k xs ++ sidesFrom (k + xs.length) ys := by
  induction xs generalizing k with
  | nil => simp [sidesFrom]
  | cons x xs ih => simp [sidesFrom, ih, Nat.add_comm, Nat.add_left_comm]
theorem hitsL_append (L M : List ((Int × Int) × Nat)) (a b : Int) : hitsL (L ++ M) a b = hitsL L a b ++ hitsL M a b := by simp [hitsL]
theorem alongL_nil {a b : Int} : -1 = alongL [] a b := rfl
theorem alongL_cases (L : List ((Int × Int) × Nat)) (a b : Int) : (hitsL L a b = [] ∧ alongL L a b = -1) ∨ (∃ f, hitsL L a b = [f] ∧ alongL L a b = f) ∨ (2 ≤ (hitsL L a b).length ∧ alongL L a b = -2) := by
  unfold alongL
  match h : hitsL L a b with
  | [] => exact .inl ⟨rfl, rfl⟩
  | [f] => exact .inr (.inl ⟨f, rfl, rfl⟩)
  | _ :: _ :: _ => exact .inr (.inr ⟨by simp, rfl⟩)
theorem alongL_no {L : List ((Int × Int) × Nat)} {a b : Int} {w : Int × Int} {f : Nat} (h : ¬ w = (a, b)) : alongL (L ++ [(w, f)]) a b = alongL L a b := by
  unfold alongL; rw [hitsL_append]; simp [hitsL, h]
theorem alongL_yes {L : List ((Int × Int) × Nat)} {a b : Int} {w : Int × Int} {f : Nat} (h : w = (a, b)) (hn : alongL L a b = -1) : alongL (L ++ [(w, f)]) a b = f := by
  rcases alongL_cases L a b with ⟨h1, _⟩ | ⟨g, _, h2⟩ | ⟨_, h2⟩
  · unfold alongL; rw [hitsL_append, h1]; simp [hitsL, h]
  · omega
  · omega
theorem alongL_two {L : List ((Int × Int) × Nat)} {a b : Int} {w : Int × Int} {f : Nat} (h : w = (a, b)) (hn : alongL L a b ≠ -1) : alongL (L ++ [(w, f)]) a b = -2 := by
  have e : hitsL [(w, f)] a b = [f] := by simp [hitsL, h]
  rcases alongL_cases L a b with ⟨_, h2⟩ | ⟨g, h1, _⟩ | ⟨h1, _⟩
  · omega
  · unfold alongL; rw [hitsL_append, h1, e]; rfl
  · rcases alongL_cases (L ++ [(w, f)]) a b with ⟨g1, _⟩ | ⟨g, g1, _⟩ | ⟨_, g2⟩
    · rw [hitsL_append, e] at g1; simp at g1
    · have := congrArg List.length g1; rw [hitsL_append, e, List.length_append] at this; simp only [List.length_cons, List.length_nil] at this; omega
    · exact g2
theorem alongL_stay {L M : List ((Int × Int) × Nat)} {a b : Int} (h : alongL L a b = -2) : alongL (L ++ M) a b = -2 := by
  rcases alongL_cases L a b with ⟨_, h2⟩ | ⟨g, _, h2⟩ | ⟨h1, _⟩
  · omega
  · omega
  · rcases alongL_cases (L ++ M) a b with ⟨g1, _⟩ | ⟨g, g1, _⟩ | ⟨_, g2⟩
    · have := congrArg List.length g1; rw [hitsL_append, List.length_append] at this; simp only [List.length_cons, List.length_nil] at this; omega
    · have := congrArg List.length g1; rw [hitsL_append, List.length_append] at this; simp only [List.length_cons, List.length_nil] at this; omega
    · exact g2
/-- The sides that a search has seen: all of the faces ahead, and some of this one. -/
def psides (fs : List (List Int)) (f i : Int) : List ((Int × Int) × Nat) := sides (fs.take f.toNat) ++ ((wayF (at_ fs f)).take i.toNat).map fun w => (w, f.toNat)
theorem psides_0 (fs : List (List Int)) (f : Int) : psides fs f 0 = sides (fs.take f.toNat) := by simp [psides]
theorem psides_step {fs : List (List Int)} {f i : Int} (h0 : 0 ≤ i) (h1 : i < (at_ fs f).length) :
    psides fs f (i + 1) = psides fs f i ++ [((at_ (at_ fs f) i, at_ (at_ fs f) ((i + 1) % (at_ fs f).length)), f.toNat)] := by
  unfold psides
  rw [take_step (l := wayF (at_ fs f)) h0 (by rw [wayF_len]; omega), at_wayF h0 (by omega)]
  simp
theorem psides_end {fs : List (List Int)} {f i : Int} (h0 : 0 ≤ f) (h1 : f < fs.length) (hi : ((at_ fs f).length : Int) ≤ i) : psides fs f i = sides (fs.take (f + 1).toNat) := by
  unfold psides
  rw [take_step h0 h1, take_all (l := wayF (at_ fs f)) (by rw [wayF_len]; exact hi)]
  unfold sides
  rw [sidesFrom_append]
  have e : 0 + (fs.take f.toNat).length = f.toNat := by rw [List.length_take]; omega
  simp only [sidesFrom, List.append_nil, e]
theorem sides_split {fs : List (List Int)} {k : Nat} : sides fs = sides (fs.take k) ++ sidesFrom (0 + (fs.take k).length) (fs.drop k) := by
  unfold sides; rw [← sidesFrom_append, List.take_append_drop]
theorem psides_pre {fs : List (List Int)} {f i : Int} (h0 : 0 ≤ f) (h1 : f < fs.length) : ∃ M, sides fs = psides fs f i ++ M := by
  have h2 := sides_split (fs := fs) (k := (f + 1).toNat)
  rw [← psides_end h0 h1 (Int.le_refl _)] at h2
  refine ⟨((wayF (at_ fs f)).drop i.toNat).map (fun w => (w, f.toNat)) ++ sidesFrom (0 + (fs.take (f + 1).toNat).length) (fs.drop (f + 1).toNat), ?_⟩
  rw [h2]
  unfold psides
  simp only [List.append_assoc]
  congr 1
  rw [← List.append_assoc, ← List.map_append, List.take_append_drop, take_all (l := wayF (at_ fs f)) (by rw [wayF_len]; exact Int.le_refl _)]
theorem along_two {fs : List (List Int)} {f i a b : Int} (h0 : 0 ≤ f) (h1 : f < fs.length) (h : alongL (psides fs f i) a b = -2) : -2 = alongS fs a b := by
  obtain ⟨M, hM⟩ := psides_pre (i := i) h0 h1
  unfold alongS; rw [hM, alongL_stay h]
theorem along_all {fs : List (List Int)} {f a b : Int} (h : (fs.length : Int) ≤ f) : alongL (psides fs f 0) a b = alongS fs a b := by
  unfold alongS; rw [psides_0, take_all h]

def nextS (l : List Int) (v by_ : Int) : Int := if v ∈ l then at_ l (((l.idxOf v : Int) + l.length + by_) % l.length) else -1
theorem next_hit {l : List Int} {v i b : Int} (h0 : 0 ≤ i) (h1 : i < l.length) (hi : at_ l i = v) (hp : ∀ j : Int, 0 ≤ j → j < i → at_ l j ≠ v) : at_ l ((i + l.length + b) % l.length) = nextS l v b := by
  have e := ix_hit h0 h1 hi.symm fun j g1 g2 g => hp j g1 g2 g.symm
  have hm : v ∈ l := hi ▸ at_mem h0 h1
  unfold nextS; rw [if_pos hm]
  unfold ixI at e; rw [if_pos hm] at e
  rw [← e]
theorem next_miss {l : List Int} {v b : Int} (hp : ∀ j : Int, 0 ≤ j → j < l.length → at_ l j ≠ v) : -1 = nextS l v b := by
  unfold nextS; rw [if_neg]
  intro h
  obtain ⟨i, h1, h2, h3⟩ := mem_at h
  exact hp i h1 h2 h3

structure Tp where
  ed : List Ed
  fan : List (List Int)
  rnd : List Bool
deriving DecidableEq, Inhabited
def edgedS (t : Tp) (e : Int) : Bool := decide (0 ≤ e ∧ e < t.ed.length ∧ min (at_ t.ed e).F (at_ t.ed e).G < 0)
/-- ref.Find -/
def findS (t : Tp) (a b : Int) : Option Nat := t.ed.findIdx? fun e => decide (e.A = min a b ∧ e.B = max a b)
def optI : Option Nat → Int
  | none => 0
  | some k => k
theorem find_hit {t : Tp} {a b i : Int} (h0 : 0 ≤ i) (h1 : i < t.ed.length) (hA : (at_ t.ed i).A = min a b) (hB : (at_ t.ed i).B = max a b) (hp : ∀ j : Int, 0 ≤ j → j < i → ¬ ((at_ t.ed j).A = min a b ∧ (at_ t.ed j).B = max a b)) :
    findS t a b = some i.toNat := by
  unfold findS
  rw [List.findIdx?_eq_some_iff_getElem]
  refine ⟨by omega, ?_, fun j hj => ?_⟩
  · have h : i.toNat < t.ed.length := by omega
    simp [at_, h] at hA hB; simp [hA, hB]
  · have := hp j (by omega) (by omega)
    have h : j < t.ed.length := by omega
    simp [at_, h] at this; simpa using this
theorem find_miss {t : Tp} {a b : Int} (hp : ∀ j : Int, 0 ≤ j → j < t.ed.length → ¬ ((at_ t.ed j).A = min a b ∧ (at_ t.ed j).B = max a b)) : findS t a b = none := by
  unfold findS
  rw [List.findIdx?_eq_none_iff]
  intro e he
  obtain ⟨i, h1, h2, h3⟩ := mem_at he
  have := hp i h1 h2
  rw [h3] at this
  simpa using this

def weighS (most : Int) : List (List Int) → Int → Int
  | [], n => n
  | l :: fs, n => if n ≤ most then weighS most fs (n + l.length) else n
theorem weigh_step {most n : Int} {fs : List (List Int)} {i : Int} (h0 : 0 ≤ i) (h1 : i < fs.length) (hn : n ≤ most) : weighS most (fs.drop i.toNat) n = weighS most (fs.drop (i + 1).toNat) (n + (at_ fs i).length) := by
  have h : i.toNat < fs.length := by omega
  have e : (i + 1).toNat = i.toNat + 1 := by omega
  rw [List.drop_eq_getElem_cons h, weighS, if_pos hn, e]
  simp [at_, h]
theorem weigh_stop {most n : Int} {fs : List (List Int)} (h : most < n) : weighS most fs n = n := by
  cases fs with
  | nil => rfl
  | cons l fs => rw [weighS, if_neg (by omega)]
def weighC (fs : List (List Int)) (most : Int) : Int := if (fs.length : Int) > most then most + 1 else weighS most fs fs.length
def greatS (verts : Int) (fs : List (List Int)) : Prop := verts > 60 ∨ weighC fs 300 > 300
instance (verts : Int) (fs : List (List Int)) : Decidable (greatS verts fs) := by unfold greatS; exact inferInstance

theorem rng_step {α : Type} {g : Nat → List α} {i : Int} (h0 : 0 ≤ i) : (List.range (i + 1).toNat).flatMap g = (List.range i.toNat).flatMap g ++ g i.toNat := by
  have e : (i + 1).toNat = i.toNat + 1 := by omega
  rw [e, List.range_succ]; simp
def roundsS (r : List Bool) (i : Int) : List Int := (List.range i.toNat).flatMap fun (k : Nat) => if at_ r k = true then [(k : Int)] else []
theorem rounds_T {r : List Bool} {i : Int} (h0 : 0 ≤ i) (h : at_ r i = true) : roundsS r (i + 1) = roundsS r i ++ [i] := by
  unfold roundsS; rw [rng_step h0]
  have e : ((i.toNat : Nat) : Int) = i := by omega
  simp [e, h]
theorem rounds_F {r : List Bool} {i : Int} (h0 : 0 ≤ i) (h : at_ r i = false) : roundsS r (i + 1) = roundsS r i := by
  unfold roundsS; rw [rng_step h0]
  have e : ((i.toNat : Nat) : Int) = i := by omega
  simp [e, h]
end Go.Proofs.T
