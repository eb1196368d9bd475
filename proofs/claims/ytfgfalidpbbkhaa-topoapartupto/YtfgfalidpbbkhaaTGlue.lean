/- A part of the proof that a law of the edges and fans of faces answers true for every input of its bulk: own work, by an AI agent. -/
import Derived.Test.YtfgfalidpbbkhaaT7
import Derived.Test.YtfgfalidpbbkhaaRows
import Derived.WalkKit
import Derived.ProofKit
import Derived.OpenShut
import Derived.JoinedCond
import Derived.Deep.Matrix
import Derived.Deep.OwnRows
import Derived.WideKeyArgs
set_option linter.unusedVariables false
set_option linter.unusedSimpArgs false
namespace Go.Proofs.T
open Go Go.AH Go.ChangeShapes Go.WideShapes Go.ChangeAt Go.RowKit Go.Deep Go.Proofs.Ytfgfalidpbbkhaa
theorem Ext.since {W W' : World} {μ μ' : Nat → Nat} {H' : Heap} (h : Ext W μ noHeap W' μ' H') : W.Since W.heap.size W' :=
  ⟨h.rest.2.1, h.rest.1, h.rest.2.2.1, h.size, fun k hk => (h.frz k ⟨hk, noHeap_owned⟩).1⟩
theorem cell_spot {W : World} {a : Addr} {v : Value} (h : W.cell? a = some v) : a = ⟨a.block, a.off, none⟩ ∧ a.block < W.heap.size := by
  unfold World.cell? at h
  split at h
  · rename_i c e fr hb
    have hlt : a.block < W.heap.size := (Array.getElem?_eq_some_iff.1 hb).1
    split at h
    · cases h
    · rename_i hs
      refine ⟨?_, hlt⟩
      cases a with
      | mk b o s => cases s with
        | none => rfl
        | some s => simp at hs
  · cases h
theorem bulk_one {H : Type} (d : DataW H) : 1 ≤ Rows.uptoBulk d := by
  cases d with
  | lit l => cases l <;> simp [Rows.uptoBulk]
  | _ => simp [Rows.uptoBulk]
theorem bulk_len {H : Type} (l : List (DataW H)) : l.length ≤ Rows.uptoBulkAll l := by
  induction l with
  | nil => simp [Rows.uptoBulkAll]
  | cons x r ih => have := bulk_one x; simp only [Rows.uptoBulkAll, List.length_cons]; omega
theorem bulk_part {H : Type} {d : DataW H} {l : List (DataW H)} (h : d ∈ l) : Rows.uptoBulk d ≤ Rows.uptoBulkAll l := by
  induction l with
  | nil => cases h
  | cons x r ih =>
    simp only [Rows.uptoBulkAll]
    rcases List.mem_cons.1 h with e | e
    · subst e; omega
    · have := ih e; omega
theorem rows_VR {W : World} {μ : Nat → Nat} {a : Option Addr} {L C : Nat} {Z : List Int} (hL : L ≤ C) (hZ : Z.length = C) (hn : a = none → C = 0) (hc : ∀ a', a = some a' → ∀ c, c < C → W.cell? (a'.add c) = some (.int .i64 (Z.getD c 0))) :
    VR W μ noHeap (eF (Z.take L)) (.slice a L C) := by
  unfold eF
  have hlen : (Z.take L).length = L := by simp; omega
  rw [hlen]
  by_cases h0 : L = 0
  · subst h0; simp; exact .sl0 _ _
  · cases a with
    | none => have := hn rfl; omega
    | some a' =>
      have h1 := hc a' rfl 0 (by omega)
      obtain ⟨e, hlt⟩ := cell_spot h1
      have e2 : a' = ⟨a'.block, a'.off, none⟩ := by
        have := congrArg Addr.spot e
        cases a'; simp [Addr.add] at this; subst this; rfl
      rw [e2]
      refine .sl (ys := fun j => .int .i64 (Z.getD j 0)) hL ⟨by simpa [Addr.add] using hlt, noHeap_owned⟩ (fun j x hx => ?_) (fun j x hx => ?_)
      · have hj : j < L := by
          rcases Nat.lt_or_ge j L with h | h
          · exact h
          · rw [List.getElem?_eq_none (by simp; omega)] at hx; cases hx
        have := hc a' rfl j (by omega)
        rw [e2, add_off] at this
        exact this
      · rw [List.getElem?_map, Option.map_eq_some_iff] at hx
        obtain ⟨z, hz, rfl⟩ := hx
        rw [List.getElem?_take] at hz
        split at hz
        · have : Z.getD j 0 = z := by simp [hz]
          rw [this]; exact .int _ _
        · cases hz
theorem open_faces {H : Type} {enc : TypeId × Value → H} {W : World} {μ : Nat → Nat} {a0 : Option Addr} {ln cp : Nat} {d : DataW H} {p : List MemPlace} (h : DataW.Trod enc Try.prog W 0 (fun _ => true) true 22 (.slice a0 ln cp) d p) (hb : Rows.uptoBulk d ≤ 1048576) :
    ∃ fs : List (List Int), VR W μ noHeap (.sl fs.length (fs.map eF)) (.slice a0 ln cp) ∧ fs.length ≤ 1048576 ∧ ∀ l ∈ fs, l.length ≤ 1048576 := by
  obtain ⟨fuel, hf⟩ := h
  rcases open_int_rows (k := .i64) u_22 u_35 u_3 (by kernel_rfl) (by kernel_rfl) hf with ⟨hcs, _⟩ | ⟨a, len, cap, A, L, C, Z, hcs, _, hl, hm, hx, hrows⟩
  · refine ⟨[], ?_, by simp, by simp⟩
    have e : Value.slice a0 ln cp = .slice none 0 0 := by simpa [Value.cells] using hcs
    rw [e]; exact .sl0 _ _
  · have e : Value.slice a0 ln cp = .slice (some a) len cap := by simpa [Value.cells] using hcs
    rw [e]
    have hd := congrArg Prod.fst hx
    simp only at hd
    subst hd
    have hbe : ∀ r, r < len → (L r ≤ 1048576) := by
      intro r hr
      obtain ⟨_, r1, _, r3, _, r5, _⟩ := hrows r (by omega)
      cases hA : A r with
      | none => have := r5 hA; omega
      | some a' =>
        have hm : intRow (H := H) .i64 (A r) (L r) (Z r) ∈ (List.range len).map fun r => intRow (H := H) .i64 (A r) (L r) (Z r) := List.mem_map.2 ⟨r, List.mem_range.2 hr, rfl⟩
        have h1 := bulk_part hm
        simp only [Rows.uptoBulk] at hb
        rw [hA] at h1
        have h2 := bulk_len (H := H) (lits .i64 ((Z r).take (L r)))
        simp only [lits, List.length_map, List.length_take] at h2
        have h3 : Rows.uptoBulkAll (lits (H := H) .i64 ((Z r).take (L r))) + 1 ≤ Rows.uptoBulk (intRow (H := H) .i64 (some a') (L r) (Z r)) := by
          simp only [intRow, Rows.uptoBulk]; omega
        simp only [lits] at h3
        omega
    have hlen : len ≤ 1048576 := by
      have h2 := bulk_len (H := H) ((List.range len).map fun r => intRow (H := H) .i64 (A r) (L r) (Z r))
      simp only [Rows.uptoBulk] at hb
      simp only [List.length_map, List.length_range] at h2
      omega
    refine ⟨(List.range len).map fun r => (Z r).take (L r), ?_, by simp; exact hlen, ?_⟩
    · have e1 : ((List.range len).map fun r => (Z r).take (L r)).length = len := by simp
      rw [e1]
      by_cases h0 : len = 0
      · subst h0; simp; exact .sl0 _ _
      · obtain ⟨c0, _⟩ := hrows 0 (by omega)
        obtain ⟨e, hlt⟩ := cell_spot c0
        have e2 : a = ⟨a.block, a.off, none⟩ := by
          have := congrArg Addr.spot e
          cases a; simp [Addr.add] at this; subst this; rfl
        rw [e2]
        refine .sl (ys := fun j => .slice (A j) (L j) (C j)) hl ⟨by simpa [Addr.add] using hlt, noHeap_owned⟩ (fun j x hx => ?_) (fun j x hx => ?_)
        · have hj : j < len := by
            rcases Nat.lt_or_ge j len with h | h
            · exact h
            · rw [List.getElem?_eq_none (by simp; omega)] at hx; cases hx
          have := (hrows j (by omega)).1
          rw [e2, add_off] at this
          exact this
        · have hj : j < len := by
            rcases Nat.lt_or_ge j len with h | h
            · exact h
            · rw [List.getElem?_eq_none (by simp; omega)] at hx; cases hx
          simp only [List.map_map, List.getElem?_map, List.getElem?_range hj, Option.map_some, Option.some.injEq, Function.comp] at hx
          subst hx
          obtain ⟨_, r1, _, r3, _, r5, r6⟩ := hrows j (by omega)
          exact rows_VR r1 r3 r5 (fun a' ha c hc => (r6 a' ha).2 c hc)
    · intro l hl'
      obtain ⟨r, hr, rfl⟩ := List.mem_map.1 hl'
      rw [List.mem_range] at hr
      have := hbe r hr
      simp; omega
end Go.Proofs.T
