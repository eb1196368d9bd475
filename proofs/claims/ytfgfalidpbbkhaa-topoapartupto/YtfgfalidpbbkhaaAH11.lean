/- A part of the proof that a law of the edges and fans of faces answers true for every input of its bulk: own work, by an AI agent. -/
import Derived.Test.YtfgfalidpbbkhaaAH10
set_option linter.unusedVariables false
set_option linter.unusedSimpArgs false
namespace Go.AH
open Go Go.Maps
def inR (a : Int) : Prop := -9223372036854775808 ≤ a ∧ a ≤ 9223372036854775807
theorem wf_of {a : Int} (h : inR a) : (Lit.int .i64 a).wf = true := by
  unfold inR at h
  simp only [Lit.wf, Bool.and_eq_true, decide_eq_true_eq]
  exact ⟨h.1, h.2⟩
theorem keyLit_int {P : Program} {d : Nat} {t : TypeId} {a : Int} (hu : P.underlying t = some (.int .i64)) (h : inR a) : P.keyLits (d + 1) t [.int .i64 a] = some [.int .i64 a] := by
  simp [Program.keyLits, hu, wf_of h]
theorem keyLits_fields {P : Program} {d : Nat} (all : List Value) : ∀ (fl : List Field) (xs : List Int) (k : Nat), fl.map (fun f => (f.offset, P.cellsOf f.type)) = (List.range' k xs.length).map (fun i => (i, 1)) →
    (∀ f ∈ fl, P.underlying f.type = some (.int .i64)) → (∀ x ∈ xs, inR x) → all.drop k = xs.map (fun x => Value.int .i64 x) →
    (fl.mapM fun f => P.keyLits (d + 1) f.type ((all.drop f.offset).take (P.cellsOf f.type))) = some (xs.map fun x => [Lit.int .i64 x])
  | [], xs, k, h, _, _, _ => by
    cases xs with
    | nil => rfl
    | cons x xs => simp [List.range'_succ] at h
  | f :: fl, [], k, h, _, _, _ => by simp at h
  | f :: fl, x :: xs, k, h, hi, hx, ha => by
    rw [List.length_cons, List.range'_succ, List.map_cons, List.map_cons, List.cons.injEq] at h
    obtain ⟨h1, h2⟩ := h
    have e1 : f.offset = k := congrArg Prod.fst h1
    have e2 : P.cellsOf f.type = 1 := congrArg Prod.snd h1
    have ha' : all.drop (k + 1) = xs.map (fun x => Value.int .i64 x) := by rw [← List.drop_drop, ha]; rfl
    rw [List.mapM_cons, keyLits_fields all fl xs (k + 1) h2 (fun g hg => hi g (.tail _ hg)) (fun y hy => hx y (.tail _ hy)) ha']
    rw [e1, e2, ha]
    simp only [List.map_cons, List.take_succ_cons, List.take_zero, keyLit_int (hi f (.head _)) (hx x (.head _))]
    rfl
theorem concs {xs : List Int} : (xs.map fun x => AV.int .i64 x).mapM concA = some (xs.map fun x => Value.int .i64 x) := by
  induction xs with
  | nil => rfl
  | cons x xs ih => simp [List.mapM_cons, ih, concA]
/-- A struct of integers. -/
theorem KOK.ints {P : Program} {t : TypeId} {fs : Array Field} {xs : List Int} (hu : P.underlying t = some (.struct fs)) (hk : P.keyType t = true) (hs : Nat.ble 1 P.types.size = true) (hc : P.cellsOf t = xs.length) (hn : fs.all (·.name != "_") = true)
    (hf : fs.toList.map (fun f => (f.offset, P.cellsOf f.type)) = (List.range' 0 xs.length).map fun i => (i, 1)) (hi' : fs.toList.map (fun f => P.underlying f.type) = List.replicate xs.length (some (.int .i64))) (h : ∀ x ∈ xs, inR x) : KOK P t (.agg (xs.map fun x => .int .i64 x)) := by
  have hi : ∀ f ∈ fs.toList, P.underlying f.type = some (.int .i64) := fun f hf => by
    have : P.underlying f.type ∈ fs.toList.map (fun f => P.underlying f.type) := List.mem_map_of_mem hf
    rw [hi'] at this
    exact List.eq_of_mem_replicate this
  obtain ⟨d, hd⟩ : ∃ d, P.types.size = d + 1 := ⟨P.types.size - 1, by have := Nat.le_of_ble_eq_true hs; omega⟩
  have hl := keyLits_fields (P := P) (d := d) (xs.map fun x => Value.int .i64 x) fs.toList xs 0 hf hi h rfl
  refine ⟨.agg (xs.map fun x => Value.int .i64 x).toArray, .string (keyBytes ((xs.map fun x => [Lit.int .i64 x]).flatten)), by simp only [conc, concs, Option.map_some], ?_⟩
  unfold keyOf
  rw [hu]
  have h1 : Value.formed P t (.agg (xs.map fun x => Value.int .i64 x).toArray) = true := by simp [Value.formed, hu, hc]
  have h2 : P.keyLits (P.types.size + 1) t (xs.map fun x => Value.int .i64 x) = some ((xs.map fun x => [Lit.int .i64 x]).flatten) := by
    rw [hd, Program.keyLits.eq_def]
    simp only [hu, List.length_map, hc, hn, and_self, if_true]
    rw [hl]; rfl
  simp only [h1, hk, Bool.and_self, if_true, Value.cells, h2, Option.map_some]
theorem KOK.int {P : Program} {t : TypeId} {a : Int} (hu : P.underlying t = some (.int .i64)) (h : inR a) : KOK P t (.int .i64 a) := ⟨_, _, rfl, by
  unfold keyOf; rw [hu]; simp only [mapKey, hu, wf_of h]; rfl⟩
theorem Own.one_ {H0 H : Heap} {es len : Nat} {v : AV} {cells : List AV} (h : Own H0 H es v len cells) : v.one = true := by
  rcases h with ⟨h, _⟩ | ⟨id, ver, h, _⟩ <;> subst h <;> rfl
theorem Own.cells_ {H0 H : Heap} {es len : Nat} {v : AV} {cells : List AV} (h : Own H0 H es v len cells) : v.cells = [v] := by
  rcases h with ⟨h, _⟩ | ⟨id, ver, h, _⟩ <;> subst h <;> rfl
section
variable {P : Program} {n : Nat} {f : Nat → AV} {H : Heap} {K : (Nat → AV) → Heap → Prop} {ty : TypeId} {pos : String} {after : Array Edge} {guard : Option (Nat × Bool)} {d : Nat}
theorem AOp.shr1 {t t' : TypeId} {x y : Operand} {k k' : IntKind} {p : Int} (hn : Nat.ble (d + 1) n = true) (hx : ev f x = .int k p) (hy : ev f y = .int k' 1) (hk : Nat.ble 1 k.bits = true)
    (hK : K (upd f d (.int k (p / 2))) H) : AOp P n ⟨some d, .binOp .shr t x y t', ty, pos, after, guard⟩ K f H :=
  .shr hn hx hy (by decide) (by
    have h1 : min (1 : Int).toNat k.bits = 1 := Nat.min_eq_left (Nat.le_of_ble_eq_true hk)
    rw [h1, show ((2 : Int) ^ 1) = 2 from rfl, Int.fdiv_eq_ediv_of_nonneg _ (by decide)]; exact hK)
theorem AOp.storeO {t : TypeId} {x y : Operand} {id ver off es len : Nat} {cells cells' cs : List AV} {v : AV} {H0 H1 : Heap} (hx : ev f x = .ptr id ver off) (hy : ev f y = v) (ho : Own H0 H1 es v len cs) (ht : TSize P t 1) (hid : H id = some (.row ver cells))
    (hle : Nat.ble (off + 1) cells.length = true) (hw : writeL cells off [v] = cells')
    (hK : ∀ H', H' id = some (.row ver cells') → (∀ i, i ≠ id → H' i = H i) → K f H') :
    AOp P n ⟨none, .store t x y, ty, pos, after, guard⟩ K f H :=
  .store' v hx hy ht hid (by rw [ho.cells_]; simp [ho.one_]) (by rw [ho.cells_]; rfl) hle (by rw [ho.cells_]; exact hw) hK
end
end Go.AH
