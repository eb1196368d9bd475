/- A part of the proof that a law of the edges and fans of faces answers true for every input of its bulk: own work, by an AI agent. -/
import Derived.Test.YtfgfalidpbbkhaaAH10
set_option linter.unusedVariables false
set_option linter.unusedSimpArgs false
namespace Go.Proofs.T
open Go Go.AH
def eI (x : Int) : AV := .int .i64 x
def eBo (x : Bool) : AV := .bool x
def eF (l : List Int) : AV := .sl l.length (l.map eI)
def eW (p : Int × Int) : List AV := [.int .i64 p.1, .int .i64 p.2]
structure Ed where
  A : Int
  B : Int
  F : Int
  G : Int
deriving DecidableEq, Inhabited
def eE (e : Ed) : List AV := [.int .i64 e.A, .int .i64 e.B, .int .i64 e.F, .int .i64 e.G]
theorem eW_len (p : Int × Int) : (eW p).length = 2 := rfl
theorem eE_len (p : Ed) : (eE p).length = 4 := rfl
theorem eI_one (p : Int) : (eI p).one = true := rfl
theorem eBo_one (p : Bool) : (eBo p).one = true := rfl
theorem eF_one (p : List Int) : (eF p).one = true := rfl
theorem eW_one (p : Int × Int) : (eW p).all AV.one = true := rfl
theorem eE_one (p : Ed) : (eE p).all AV.one = true := rfl
theorem pre_step {α : Type} [Inhabited α] {a b : List α} {i : Int} (h : ∀ j : Int, 0 ≤ j → j < i → at_ a j = at_ b j) (hi : at_ a i = at_ b i) : ∀ j : Int, 0 ≤ j → j < i + 1 → at_ a j = at_ b j := by
  intro j h1 h2
  by_cases e : j = i
  · subst e; exact hi
  · exact h j h1 (by omega)
theorem ext_at {α : Type} [Inhabited α] {a b : List α} (hl : a.length = b.length) (h : ∀ j : Int, 0 ≤ j → j < a.length → at_ a j = at_ b j) : a = b := by
  apply List.ext_getElem hl
  intro j h1 h2
  have := h j (by omega) (by omega)
  simpa [at_, h1, h2] using this
theorem fa_step {p : Int → Prop} {i : Int} (h : ∀ j : Int, 0 ≤ j → j < i → p j) (hi : p i) : ∀ j : Int, 0 ≤ j → j < i + 1 → p j := by
  intro j h1 h2
  by_cases e : j = i
  · subst e; exact hi
  · exact h j h1 (by omega)
theorem take_step {α : Type} [Inhabited α] {l : List α} {i : Int} (h0 : 0 ≤ i) (h1 : i < l.length) : l.take (i + 1).toNat = l.take i.toNat ++ [at_ l i] := by
  have e : (i + 1).toNat = i.toNat + 1 := by omega
  have h : i.toNat < l.length := by omega
  rw [e, List.take_add_one]
  simp [at_, h]
theorem take_all {α : Type} {l : List α} {i : Int} (h1 : (l.length : Int) ≤ i) : l.take i.toNat = l := List.take_of_length_le (by omega)
theorem at_mem {α : Type} [Inhabited α] {l : List α} {i : Int} (h0 : 0 ≤ i) (h1 : i < l.length) : at_ l i ∈ l := by
  have h : i.toNat < l.length := by omega
  simp [at_, h]
theorem mem_at {α : Type} [Inhabited α] {l : List α} {x : α} (h : x ∈ l) : ∃ i : Int, 0 ≤ i ∧ i < l.length ∧ at_ l i = x := by
  obtain ⟨k, h1, h2⟩ := List.getElem_of_mem h
  exact ⟨k, by omega, by omega, by simp [at_, h1, h2]⟩

/-! ### What the small functions answer -/
def cmpI (a b : Int) : Int := if a < b then -1 else if b < a then 1 else 0
def orI : List Int → Int
  | [] => 0
  | x :: l => if x = 0 then orI l else x
def ixI (l : List Int) (v : Int) : Int := if v ∈ l then (l.idxOf v : Int) else -1
theorem ix_hit {l : List Int} {v i : Int} (h0 : 0 ≤ i) (h1 : i < l.length) (hi : v = at_ l i) (hp : ∀ j : Int, 0 ≤ j → j < i → v ≠ at_ l j) : i = ixI l v := by
  have hm : v ∈ l := hi ▸ at_mem h0 h1
  unfold ixI
  rw [if_pos hm]
  have h2 : l.idxOf v < l.length := List.idxOf_lt_length_of_mem hm
  have h3 : l[l.idxOf v] = v := List.getElem_idxOf h2
  have h4 : ¬ ((l.idxOf v : Int) < i) := fun h => hp _ (by omega) h (by simp [at_, h2, h3])
  have h5 : ¬ (i < (l.idxOf v : Int)) := fun h => by
    have hl : i.toNat < l.length := by omega
    have := List.not_of_lt_findIdx (p := (· == v)) (xs := l) (i := i.toNat) (by unfold List.idxOf at h; omega)
    simp [at_, hl] at hi
    simp [hi] at this
  omega
theorem ix_miss {l : List Int} {v : Int} (hp : ∀ j : Int, 0 ≤ j → j < l.length → v ≠ at_ l j) : -1 = ixI l v := by
  unfold ixI
  rw [if_neg]
  intro h
  obtain ⟨i, h1, h2, h3⟩ := mem_at h
  exact hp i h1 h2 h3.symm
def wayF (l : List Int) : List (Int × Int) := (List.range l.length).map fun (i : Nat) => (at_ l i, at_ l (((i : Int) + 1) % l.length))
theorem wayF_len (l : List Int) : (wayF l).length = l.length := by simp [wayF]
theorem at_wayF {l : List Int} {i : Int} (h0 : 0 ≤ i) (h1 : i < l.length) : at_ (wayF l) i = (at_ l i, at_ l ((i + 1) % l.length)) := by
  have h : i.toNat < l.length := by omega
  have e : ((i.toNat : Nat) : Int) = i := by omega
  conv => lhs; unfold at_ wayF
  simp [h, e]
end Go.Proofs.T
