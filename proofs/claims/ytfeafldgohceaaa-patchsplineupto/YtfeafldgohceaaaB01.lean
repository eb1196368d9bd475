/- A part of the proof that a law answers true for every input of its row: own work, by an AI agent. -/
import Derived.Test.YtfeafldgohceaaaB00
import Derived.Maps.RangeRun
import Derived.Lib.OthersKept
import Derived.Laws.BytesString
import Derived.Lib.ConvBytes
import Derived.Test.YtfeafldgohceaaaProg
import Derived.KernelRfl
set_option linter.unusedSimpArgs false
set_option linter.unusedVariables false
set_option linter.defProp false
namespace Go.AH
variable [Globs]
set_option linter.unusedSectionVars false
open Go Go.Maps
def Sep (v w : AV) : Prop := ∀ i a b c d i' a' b' c' d', v = .slm i a b c d → w = .slm i' a' b' c' d' → i ≠ i'
theorem Sep.symm {v w : AV} (h : Sep v w) : Sep w v := fun _ _ _ _ _ _ _ _ _ _ h1 h2 e => h _ _ _ _ _ _ _ _ _ _ h2 h1 e.symm
theorem Sep.nilL (w : AV) : Sep .snil w := fun _ _ _ _ _ _ _ _ _ _ h => by cases h
theorem Sep.nilR (w : AV) : Sep w .snil := fun _ _ _ _ _ _ _ _ _ _ _ h => by cases h
theorem Sep.notId {v w : AV} (h : Sep w v) {i a b c d : Nat} (e : w = .slm i a b c d) : NotId v i := fun _ _ _ _ _ hv => h _ _ _ _ _ _ _ _ _ _ e hv
theorem Sep.ofNotId {v : AV} {i a b c d : Nat} (h : NotId v i) : Sep (.slm i a b c d) v := fun _ _ _ _ _ _ _ _ _ _ e1 e2 => by
  cases e1
  exact h _ _ _ _ _ e2
theorem Sep.ofNotId' {v : AV} {i a b c d : Nat} (h : NotId v i) : Sep v (.slm i a b c d) := (Sep.ofNotId h).symm
theorem NotId.slm {i j a b c d : Nat} (h : j ≠ i) : NotId (.slm i a b c d) j := fun _ _ _ _ _ e => by cases e; exact h
section
variable {H0 H H' : Heap} {es len : Nat} {v v' w : AV} {cells : List AV}
theorem Own.stay (h : Own H0 H es w len cells) (hs : Sep w v) (hk : ∀ i, NotId v i → H i ≠ none → H' i = H i) : Own H0 H' es w len cells := by
  rcases h with h | ⟨id, ver, h1, h2, h3⟩
  · exact .inl h
  · exact .inr ⟨id, ver, h1, (hk id (hs.notId h1) (by rw [h2]; simp)).trans h2, h3⟩
theorem Own.sep (h : Own H0 H es w len cells) (hs : Sep w v) (hk : ∀ i, NotId v i → H i ≠ none → NotId v' i) : Sep w v' := by
  rcases h with ⟨h, _⟩ | ⟨id, ver, h1, h2, h3⟩
  · subst h; exact .nilL _
  · subst h1; exact .ofNotId (hk id (hs.notId rfl) (by rw [h2]; simp))
theorem Own.free (h : Own H0 H es w len cells) {B : AB} {i : Nat} (hi : H0 i = some B) : NotId w i := by
  rcases h with ⟨h, _⟩ | ⟨id, ver, h1, h2, h3, _⟩
  · subst h; exact .nil i
  · subst h1; exact .slm fun e => by subst e; rw [hi] at h3; cases h3
theorem Own.pos (h : Own H0 H es v len cells) (hl : 0 < len) : ∃ id ver, v = .slm id ver es 0 len ∧ H id = some (.row ver cells) ∧ H0 id = none ∧ cells.length = len * es := by
  rcases h with ⟨_, h, _⟩ | h
  · omega
  · exact h
theorem Own.re {k : Nat} {cs : List AV} (h : Own H0 H es v len cells) (hk : len = k) (hc : cells = cs) : Own H0 H es v k cs := hk ▸ hc ▸ h
theorem Ghost.own {n t : Nat} {f : Nat → AV} (h : Own H0 H es v len cells) (ht : f t = v) (hm : Mono H0 H) :
    ∃ H', Ghost n f H (upd f t (.sl len cells)) H' ∧ Mono H0 H' ∧ (∀ i, NotId v i → H' i = H i) := by
  rcases h with ⟨h1, h2, h3⟩ | ⟨id, ver, h1, h2, h3, h4⟩
  · subst h1 h2 h3; exact ⟨H, .nil ht, hm, fun _ _ => rfl⟩
  · subst h1
    refine ⟨updH H id (.dead ver), ?_, hm.set h3 fun _ h => updH_ne _ _ h, fun i hi => updH_ne _ _ (hi _ _ _ _ _ rfl)⟩
    have := Ghost.freeze (n := n) h2 ht (by omega)
    rwa [List.take_of_length_le (by omega)] at this
theorem Ghost.trans {n : Nat} {f f1 f2 : Nat → AV} {H1 H2 : Heap} (a : Ghost n f H f1 H1) (b : Ghost n f1 H1 f2 H2) : Ghost n f H f2 H2 := fun μ s w hs =>
  let ⟨h1, h2⟩ := a μ s w hs
  let ⟨g1, g2⟩ := b μ s w h1
  ⟨g1, h2.trans g2⟩
theorem Ghost.refl {n : Nat} {f : Nat → AV} : Ghost n f H f H := fun _ _ _ hs => ⟨hs, .refl _ _ _⟩
theorem Ghost.ownCell {n k rid ver : Nat} {f : Nat → AV} {rc : List AV} (h : Own H0 H es v len cells) (hr : H rid = some (.row ver rc)) (h0 : H0 rid = none) (hk : rc[k]? = some v) (hne : NotId v rid) (hm : Mono H0 H) :
    ∃ H', Ghost n f H f H' ∧ H' rid = some (.row ver (rc.set k (.sl len cells))) ∧ Mono H0 H' ∧ (∀ i, i ≠ rid → NotId v i → H' i = H i) := by
  have hkl : k < rc.length := by
    rcases Nat.lt_or_ge k rc.length with h | h
    · exact h
    · rw [List.getElem?_eq_none h] at hk; cases hk
  rcases h with ⟨h1, h2, h3⟩ | ⟨id, fver, h1, h2, h3, h4⟩
  · subst h1 h2 h3
    refine ⟨updH H rid (.row ver (rc.set k (.sl 0 []))), ?_, updH_same _ _ _, hm.set h0 fun _ h => updH_ne _ _ h, fun i hi _ => updH_ne _ _ hi⟩
    intro μ a w hs
    obtain ⟨g1, g2⟩ := recell (cells' := rc.set k (.sl 0 [])) hs.hr hr (by simp) fun j x x' y hx hx' hv => by
      rw [List.getElem?_set] at hx'
      split at hx'
      · rename_i e; subst e
        simp only [hkl, if_true, Option.some.injEq] at hx'
        subst hx'
        rw [hk] at hx; cases hx
        exact VR.nil_sl hv
      · rw [hx] at hx'; cases hx'; exact hv
    exact ⟨⟨g2, hs.size, fun u => (hs.slots u).ext g1, hs.defers⟩, g1⟩
  · subst h1
    have hid : rid ≠ id := hne _ _ _ _ _ rfl
    have hr1 : updH H id (.dead fver) rid = some (.row ver rc) := (updH_ne _ _ hid).trans hr
    refine ⟨updH (updH H id (.dead fver)) rid (.row ver (rc.set k (.sl len cells))), ?_, updH_same _ _ _, (hm.set h3 fun _ h => updH_ne _ _ h).set h0 fun _ h => updH_ne _ _ h, fun i hi hn => (updH_ne _ _ hi).trans (updH_ne _ _ (hn _ _ _ _ _ rfl))⟩
    intro μ a w hs
    obtain ⟨f1, f2, f3⟩ := AH.freeze hs.hr h2
    obtain ⟨cs, T, b1, b2, b3⟩ := hs.hr.rows rid ver rc hr
    obtain ⟨g1, g2⟩ := setrow (.refl _) f2 (cells' := rc.set k (.sl len cells)) (Nat.le_refl ver) hr1 b1 b1 rfl (fun _ _ => rfl) rfl (by simpa using b2) fun j x' hx => by
      rw [List.getElem?_set] at hx
      split at hx
      · rename_i e; subst e
        simp only [hkl, if_true, Option.some.injEq] at hx
        subst hx
        obtain ⟨y, k1, k2⟩ := b3 k _ hk
        have := freeze_VR hs.hr h2 (es := es) (off := 0) (len := len) (by omega) k2
        rw [List.drop_zero, List.take_of_length_le (by omega)] at this
        exact ⟨y, k1, this⟩
      · obtain ⟨y, k1, k2⟩ := b3 j x' hx
        exact ⟨y, k1, k2.ext f1⟩
    exact ⟨⟨g2, hs.size, fun u => (hs.slots u).ext (f1.trans g1), hs.defers⟩, f1.trans g1⟩
end
theorem Own.stay2 {H0 H H' : Heap} {es len rid : Nat} {v w : AV} {cells : List AV} (h : Own H0 H es w len cells) (hs : Sep w v) (hr : NotId w rid) (hk : ∀ i, i ≠ rid → NotId v i → H' i = H i) : Own H0 H' es w len cells := by
  rcases h with h | ⟨id, ver, h1, h2, h3⟩
  · exact .inl h
  · exact .inr ⟨id, ver, h1, (hk id (fun e => hr _ _ _ _ _ h1 e.symm) (hs.notId h1)).trans h2, h3⟩
theorem AWP.unghost {P : Program} {n : Nat} {c : Code} {Q : Exit → (Nat → AV) → Heap → Prop} {f : Nat → AV} {H : Heap} (h : AWP P n c (fun e f H => ∃ f' H', Ghost n f H f' H' ∧ Q e f' H') f H) : AWP P n c Q f H := by
  intro μ a w hs
  refine wp_mono (h μ a w hs) ?_
  rintro e a' w' ⟨μ', f2, H2, g1, g2, f3, H3, g, q⟩
  obtain ⟨k1, k2⟩ := g _ _ _ g1
  exact ⟨μ', f3, H3, k1, g2.trans k2, q⟩
theorem ACalls.of_body' {P : Program} {g : FuncId} {fn : Func} {c : Code} {args : List AV} {H : Heap} {R : AV → Heap → Prop} {n : Nat}
    (hf : P.funcs[g]? = some fn) (hb : fn.body = some c) (hn : fn.ntmps = n) (hle : Nat.ble args.length n = true)
    (h : AWP P n c (fun e f H => ∃ f' H', Ghost n f H f' H' ∧ (e = .normal ∨ e = .ret) ∧ ∃ r, Res P n fn f' H' r ∧ R r H') (entry args) H) : ACalls P g args H R :=
  .of_body hf hb hn hle (.unghost h)
end Go.AH
namespace Go.AH
variable [Globs]
set_option linter.unusedSectionVars false
open Go
section
variable {P : Program} {n : Nat} {f : Nat → AV} {H : Heap} {K : (Nat → AV) → Heap → Prop} {ty : TypeId} {pos : String} {after : Array Edge} {guard : Option (Nat × Bool)} {d : Nat}
theorem AOp.indexAddrO {t : TypeId} {x ix : Operand} {k : IntKind} {i : Int} {len es id ver : Nat} {cells : List AV} (hn : Nat.ble (d + 1) n = true) (hx : ev f x = .slm id ver es 0 len) (hi : ev f ix = .int k i)
    (ht : TSlice P t es) (h0 : 0 ≤ i) (h1 : i < len) (hid : H id = some (.row ver cells)) (hK : K (upd f d (.ptr id ver (i.toNat * es))) H) : AOp P n ⟨some d, .indexAddr t x ix, ty, pos, after, guard⟩ K f H :=
  .indexAddrM hn hx hi ht h0 h1 ⟨_, hid⟩ (by rw [Nat.zero_add]; exact hK)
end
section
variable {P : Program} {n : Nat} {f : Nat → AV} {H H0 : Heap} {K : (Nat → AV) → Heap → Prop} {o : Oper} {c : Code} {Q : Exit → (Nat → AV) → Heap → Prop} {F : (Nat → AV) → Heap → Prop} {es len : Nat} {v : AV} {cells : List AV}
theorem AOp.frz (t : Nat) (h : Own H0 H es v len cells) (ht : f t = v) (hm : Mono H0 H) (hK : ∀ H', Mono H0 H' → (∀ i, NotId v i → H' i = H i) → AOp P n o K (upd f t (.sl len cells)) H') : AOp P n o K f H :=
  let ⟨H', g, m, k⟩ := Ghost.own (n := n) h ht hm
  .ghost g (hK H' m k)
theorem AWP.frz (t : Nat) (h : Own H0 H es v len cells) (ht : f t = v) (hm : Mono H0 H) (hK : ∀ H', Mono H0 H' → (∀ i, NotId v i → H' i = H i) → AWP P n c Q (upd f t (.sl len cells)) H') : AWP P n c Q f H :=
  let ⟨H', g, m, k⟩ := Ghost.own (n := n) h ht hm
  .ghost g (hK H' m k)
theorem Fin.frz (t : Nat) (h : Own H0 H es v len cells) (ht : f t = v) (hm : Mono H0 H) (hK : ∀ H', Mono H0 H' → (∀ i, NotId v i → H' i = H i) → ∃ f2 H2, Ghost n (upd f t (.sl len cells)) H' f2 H2 ∧ F f2 H2) : ∃ f2 H2, Ghost n f H f2 H2 ∧ F f2 H2 :=
  let ⟨H', g, m, k⟩ := Ghost.own (n := n) h ht hm
  let ⟨f2, H2, g2, q⟩ := hK H' m k
  ⟨f2, H2, g.trans g2, q⟩
variable {rid ver : Nat} {rc : List AV}
theorem AOp.frzCell (k : Nat) (h : Own H0 H es v len cells) (hr : H rid = some (.row ver rc)) (h0 : H0 rid = none) (hk : rc[k]? = some v) (hne : NotId v rid) (hm : Mono H0 H)
    (hK : ∀ H', H' rid = some (.row ver (rc.set k (.sl len cells))) → Mono H0 H' → (∀ i, i ≠ rid → NotId v i → H' i = H i) → AOp P n o K f H') : AOp P n o K f H :=
  let ⟨H', g, r, m, k⟩ := Ghost.ownCell (n := n) (f := f) h hr h0 hk hne hm
  .ghost g (hK H' r m k)
theorem AWP.frzCell (k : Nat) (h : Own H0 H es v len cells) (hr : H rid = some (.row ver rc)) (h0 : H0 rid = none) (hk : rc[k]? = some v) (hne : NotId v rid) (hm : Mono H0 H)
    (hK : ∀ H', H' rid = some (.row ver (rc.set k (.sl len cells))) → Mono H0 H' → (∀ i, i ≠ rid → NotId v i → H' i = H i) → AWP P n c Q f H') : AWP P n c Q f H :=
  let ⟨H', g, r, m, k⟩ := Ghost.ownCell (n := n) (f := f) h hr h0 hk hne hm
  .ghost g (hK H' r m k)
theorem Fin.frzCell (k : Nat) (h : Own H0 H es v len cells) (hr : H rid = some (.row ver rc)) (h0 : H0 rid = none) (hk : rc[k]? = some v) (hne : NotId v rid) (hm : Mono H0 H)
    (hK : ∀ H', H' rid = some (.row ver (rc.set k (.sl len cells))) → Mono H0 H' → (∀ i, i ≠ rid → NotId v i → H' i = H i) → ∃ f2 H2, Ghost n f H' f2 H2 ∧ F f2 H2) : ∃ f2 H2, Ghost n f H f2 H2 ∧ F f2 H2 :=
  let ⟨H', g, r, m, k⟩ := Ghost.ownCell (n := n) (f := f) h hr h0 hk hne hm
  let ⟨f2, H2, g2, q⟩ := hK H' r m k
  ⟨f2, H2, g.trans g2, q⟩
end
theorem lapp {α : Type} {l l1 caps r : List α} (h : l = l1) (h2 : l1 ++ caps = r) : l ++ caps = r := by rw [h, h2]
theorem mod_in {x y : Int} (h : 0 < y) : 0 ≤ x % y ∧ x % y < y := ⟨Int.emod_nonneg _ (by omega), Int.emod_lt_of_pos _ h⟩
theorem lc {α : Type} {x y : α} {xs ys : List α} (h : x = y) (t : xs = ys) : x :: xs = y :: ys := by rw [h, t]
end Go.AH
namespace Go.AH
variable [Globs]
set_option linter.unusedSectionVars false
open Go Go.Maps
def inR (a : Int) : Prop := -9223372036854775808 ≤ a ∧ a ≤ 9223372036854775807
theorem wf_of {a : Int} (h : inR a) : (Lit.int .i64 a).wf = true := by
  unfold inR at h
  simp only [Lit.wf, Bool.and_eq_true, decide_eq_true_eq]
  exact ⟨h.1, h.2⟩
theorem keyLit_int {P : Program} {d : Nat} {t : TypeId} {a : Int} (hu : P.underlying t = some (.int .i64)) (h : inR a) : P.keyLits (d + 1) t [.int .i64 a] = some [.int .i64 a] := by
  simp [Program.keyLits, hu, wf_of h]
theorem keyLits_fields {P : Program} {d : Nat} (all : List Value) : ∀ (fl : List Field) (xs : List Int) (k : Nat), fl.map (fun f => (f.offset, P.cellsOf f.type)) = (List.range' k xs.length).map (fun i => (i, 1)) →
    (∀ f ∈ fl, P.underlying f.type = some (.int .i64)) → (∀ x ∈ xs, inR x) → all.drop k = xs.map (fun x => Value.int .i64 x) →
    (fl.mapM fun f => P.keyLits (d + 1) f.type ((all.drop f.offset).take (P.cellsOf f.type))) = some (xs.map fun x => [Lit.int .i64 x])
  | [], xs, k, h, _, _, _ => by
    cases xs with
    | nil => rfl
    | cons x xs => simp [List.range'_succ] at h
  | f :: fl, [], k, h, _, _, _ => by simp at h
  | f :: fl, x :: xs, k, h, hi, hx, ha => by
    rw [List.length_cons, List.range'_succ, List.map_cons, List.map_cons, List.cons.injEq] at h
    obtain ⟨h1, h2⟩ := h
    have e1 : f.offset = k := congrArg Prod.fst h1
    have e2 : P.cellsOf f.type = 1 := congrArg Prod.snd h1
    have ha' : all.drop (k + 1) = xs.map (fun x => Value.int .i64 x) := by rw [← List.drop_drop, ha]; rfl
    rw [List.mapM_cons, keyLits_fields all fl xs (k + 1) h2 (fun g hg => hi g (.tail _ hg)) (fun y hy => hx y (.tail _ hy)) ha']
    rw [e1, e2, ha]
    simp only [List.map_cons, List.take_succ_cons, List.take_zero, keyLit_int (hi f (.head _)) (hx x (.head _))]
    rfl
theorem concs {xs : List Int} : (xs.map fun x => AV.int .i64 x).mapM concA = some (xs.map fun x => Value.int .i64 x) := by
  induction xs with
  | nil => rfl
  | cons x xs ih => simp [List.mapM_cons, ih, concA]
theorem KOK.ints {P : Program} {t : TypeId} {fs : Array Field} {xs : List Int} (hu : P.underlying t = some (.struct fs)) (hk : P.keyType t = true) (hs : Nat.ble 1 P.types.size = true) (hc : P.cellsOf t = xs.length) (hn : fs.all (·.name != "_") = true)
    (hf : fs.toList.map (fun f => (f.offset, P.cellsOf f.type)) = (List.range' 0 xs.length).map fun i => (i, 1)) (hi' : fs.toList.map (fun f => P.underlying f.type) = List.replicate xs.length (some (.int .i64))) (h : ∀ x ∈ xs, inR x) : KOK P t (.agg (xs.map fun x => .int .i64 x)) := by
  have hi : ∀ f ∈ fs.toList, P.underlying f.type = some (.int .i64) := fun f hf => by
    have : P.underlying f.type ∈ fs.toList.map (fun f => P.underlying f.type) := List.mem_map_of_mem hf
    rw [hi'] at this
    exact List.eq_of_mem_replicate this
  obtain ⟨d, hd⟩ : ∃ d, P.types.size = d + 1 := ⟨P.types.size - 1, by have := Nat.le_of_ble_eq_true hs; omega⟩
  have hl := keyLits_fields (P := P) (d := d) (xs.map fun x => Value.int .i64 x) fs.toList xs 0 hf hi h rfl
  refine ⟨.agg (xs.map fun x => Value.int .i64 x).toArray, .string (keyBytes ((xs.map fun x => [Lit.int .i64 x]).flatten)), by simp only [conc, concs, Option.map_some], ?_⟩
  unfold keyOf
  rw [hu]
  have h1 : Value.formed P t (.agg (xs.map fun x => Value.int .i64 x).toArray) = true := by simp [Value.formed, hu, hc]
  have h2 : P.keyLits (P.types.size + 1) t (xs.map fun x => Value.int .i64 x) = some ((xs.map fun x => [Lit.int .i64 x]).flatten) := by
    rw [hd, Program.keyLits.eq_def]
    simp only [hu, List.length_map, hc, hn, and_self, if_true]
    rw [hl]; rfl
  simp only [h1, hk, Bool.and_self, if_true, Value.cells, h2, Option.map_some]
theorem KOK.int {P : Program} {t : TypeId} {a : Int} (hu : P.underlying t = some (.int .i64)) (h : inR a) : KOK P t (.int .i64 a) := ⟨_, _, rfl, by
  unfold keyOf; rw [hu]; simp only [mapKey, hu, wf_of h]; rfl⟩
theorem Own.one_ {H0 H : Heap} {es len : Nat} {v : AV} {cells : List AV} (h : Own H0 H es v len cells) : v.one = true := by
  rcases h with ⟨h, _⟩ | ⟨id, ver, h, _⟩ <;> subst h <;> rfl
theorem Own.cells_ {H0 H : Heap} {es len : Nat} {v : AV} {cells : List AV} (h : Own H0 H es v len cells) : v.cells = [v] := by
  rcases h with ⟨h, _⟩ | ⟨id, ver, h, _⟩ <;> subst h <;> rfl
section
variable {P : Program} {n : Nat} {f : Nat → AV} {H : Heap} {K : (Nat → AV) → Heap → Prop} {ty : TypeId} {pos : String} {after : Array Edge} {guard : Option (Nat × Bool)} {d : Nat}
theorem AOp.shr1 {t t' : TypeId} {x y : Operand} {k k' : IntKind} {p : Int} (hn : Nat.ble (d + 1) n = true) (hx : ev f x = .int k p) (hy : ev f y = .int k' 1) (hk : Nat.ble 1 k.bits = true)
    (hK : K (upd f d (.int k (p / 2))) H) : AOp P n ⟨some d, .binOp .shr t x y t', ty, pos, after, guard⟩ K f H :=
  .shr hn hx hy (by decide) (by
    have h1 : min (1 : Int).toNat k.bits = 1 := Nat.min_eq_left (Nat.le_of_ble_eq_true hk)
    rw [h1, show ((2 : Int) ^ 1) = 2 from rfl, Int.fdiv_eq_ediv_of_nonneg _ (by decide)]; exact hK)
theorem AOp.storeO {t : TypeId} {x y : Operand} {id ver off es len : Nat} {cells cells' cs : List AV} {v : AV} {H0 H1 : Heap} (hx : ev f x = .ptr id ver off) (hy : ev f y = v) (ho : Own H0 H1 es v len cs) (ht : TSize P t 1) (hid : H id = some (.row ver cells))
    (hle : Nat.ble (off + 1) cells.length = true) (hw : writeL cells off [v] = cells')
    (hK : ∀ H', H' id = some (.row ver cells') → (∀ i, i ≠ id → H' i = H i) → K f H') :
    AOp P n ⟨none, .store t x y, ty, pos, after, guard⟩ K f H :=
  .store' v hx hy ht hid (by rw [ho.cells_]; simp [ho.one_]) (by rw [ho.cells_]; rfl) hle (by rw [ho.cells_]; exact hw) hK
end
end Go.AH
namespace Go.AH
variable [Globs]
set_option linter.unusedSectionVars false
open Go Go.Maps Go.ChangeMaps
section
variable {P : Program} {n : Nat} {f : Nat → AV} {H : Heap} {K : (Nat → AV) → Heap → Prop} {ty : TypeId} {pos : String} {after : Array Edge} {guard : Option (Nat × Bool)} {d : Nat}
theorem AOp.values {op : Op} (hn : Nat.ble (d + 1) n = true)
    (h : ∀ μ a w, SR n w μ f H a → ∃ x H' v w' μ', (execOp a.eval ⟨some d, op, ty, pos, after, guard⟩).run P w = .ok (.value v) w' ∧ Ext w μ H w' μ' H' ∧ HR w' μ' H' ∧ VR w' μ' H' x v ∧ K (upd f d x) H') :
    AOp P n ⟨some d, op, ty, pos, after, guard⟩ K f H := by
  intro μ a w hs Q
  obtain ⟨x, H', v, w', μ', h1, h2, h3, h4, hK⟩ := h μ a w hs
  unfold Oper.wp
  rw [h1]
  exact ⟨μ', _, H', hs.put h2 h3 hn h4, h2, hK⟩
theorem newiter {w : World} {μ : Nat → Nat} (hr : HR w μ H) {id m k : Nat} {es : List (AV × AV)} (hid : H id = none ∨ H id = some .res) (hm : H m = some (.map es)) :
    HR { w with heap := w.heap.push (.mapIter (some (μ m)) k #[] k) } (updN μ id w.heap.size) (updH H id (.iter (.map m k []))) := by
  have he := newblock hr hid (o := .mapIter (some (μ m)) k #[] k) (B := .iter (.map m k []))
  have hmi : m ≠ id := by rintro rfl; rcases hid with h | h <;> rw [h] at hm <;> cases hm
  refine hr.change he (fun i => updH_eq _ _ _ _) (fun i hi => by simp [updN, hi]) ?_ ?_ ?_ ?_ ?_ ?_
  · intro _ i C _ hi hC
    have := hr.lt hi hC
    simp only [updN, if_true]; omega
  · intro i C _ hi hC
    have := hr.lt hi hC
    rw [Array.getElem?_push, if_neg (Nat.ne_of_lt this)]
  · intro ver c hB; cases hB
  · intro es h; cases h
  · intro es _ _ h; cases h
  · intro it h
    cases h
    refine ⟨by simp [updN, It.obj, hmi], fun m' n' seen' e => ?_⟩
    cases e
    exact ⟨es, by rw [updH_eq, if_neg hmi]; exact hm⟩
theorem AOp.range {t kt et : TypeId} {x : Operand} {m : Nat} {es : List (AV × AV)} (hn : Nat.ble (d + 1) n = true) (hx : ev f x = .map m) (hm : H m = some (.map es)) (ht : P.underlying t = some (.map kt et))
    (hK : ∀ id H', H id = none → H' id = some (.iter (.map m es.length [])) → (∀ i, i ≠ id → H' i = H i) → K (upd f d (.it id)) H') : AOp P n ⟨some d, .range t x, ty, pos, after, guard⟩ K f H :=
  .fresh fun id hid => .value _ _ hn (fun μ a w hs => by
    have h1 := hs.ev x
    rw [hx] at h1
    generalize hzz : a.eval x = zz at h1
    cases h1
    obtain ⟨hd, ents, clock, g1, g2, g3⟩ := hs.hr.maps m es hm
    have hb := hs.hr.born m es ents clock hm g1
    have hc : clock = es.length := by rw [hb.1, g2]
    subst hc
    refine ⟨.pointer (some ⟨w.heap.size, 0, none⟩), { w with heap := w.heap.push (.mapIter (some (μ m)) es.length #[] es.length) }, updN μ id w.heap.size, ?_, newblock hs.hr (.inl hid), newiter hs.hr (.inl hid) hm, ?_⟩
    · simp [execOp, hzz, Instr.range, run_under ht, getObj, Sem.run, g1, newObj]
    · have := VR.iter (w := { w with heap := w.heap.push (.mapIter (some (μ m)) es.length #[] es.length) }) (μ := updN μ id w.heap.size) (H := updH H id (.iter (.map m es.length []))) (id := id) ⟨_, by rw [updH_eq, if_pos rfl]⟩
      simpa [updN] using this) (hK id _ hid (updH_same _ _ _) fun _ h => updH_ne _ _ h)
theorem setiter {w : World} {μ : Nat → Nat} (hr : HR w μ H) {id m k : Nat} {seen seen' : List Nat} (hid : H id = some (.iter (.map m k seen))) :
    Ext w μ H (setBlock w (μ id) (.mapIter (some (μ m)) k seen'.toArray k)) μ (updH H id (.iter (.map m k seen'))) ∧ HR (setBlock w (μ id) (.mapIter (some (μ m)) k seen'.toArray k)) μ (updH H id (.iter (.map m k seen'))) := by
  have hoth : ∀ b, b ≠ μ id → (setBlock w (μ id) (.mapIter (some (μ m)) k seen'.toArray k)).heap[b]? = w.heap[b]? := fun b h => by simp [setBlock, Ne.symm h]
  have hlt := hr.lt hid rfl
  have he : Ext w μ H (setBlock w (μ id) (.mapIter (some (μ m)) k seen'.toArray k)) μ (updH H id (.iter (.map m k seen'))) := by
    refine ⟨by simp [setBlock], fun b h => ⟨?_, ?_⟩, fun i v hk => ?_, fun i v hk ha => ?_, fun i hm => ?_, fun i hm => ?_, ⟨rfl, rfl, rfl, fun _ => Nat.le_refl _⟩⟩
    · exact hoth b fun e => h.2 ⟨id, _, hid, rfl, e.symm⟩
    · rintro ⟨i, B, h1, h2, h3⟩
      rw [updH_eq] at h1
      by_cases g : i = id
      · subst g; exact h.2 ⟨i, _, hid, rfl, h3⟩
      · rw [if_neg g] at h1; exact h.2 ⟨i, B, h1, h2, h3⟩
    · obtain ⟨B, v', h1, h2, h3⟩ := hk
      by_cases g : i = id
      · subst g
        rw [hid] at h1; cases h1
        cases h2
        exact ⟨_, 0, by rw [updH_eq, if_pos rfl], rfl, h3⟩
      · exact ⟨B, v', by rw [updH_eq, if_neg g]; exact h1, h2, h3⟩
    · obtain ⟨c, ha⟩ := ha
      rw [updH_eq] at ha
      by_cases g : i = id
      · rw [if_pos g] at ha; cases ha
      · rw [if_neg g] at ha
        refine ⟨⟨c, ha⟩, rfl, ?_⟩
        have hne : μ i ≠ μ id := fun e => g (hr.inj i id _ _ ha hid rfl rfl e)
        simp [bsize, setBlock, Ne.symm hne]
    · obtain ⟨es0, hm⟩ := hm
      have g : i ≠ id := by rintro rfl; rw [hid] at hm; cases hm
      exact ⟨⟨es0, by rw [updH_eq, if_neg g]; exact hm⟩, rfl⟩
    · obtain ⟨it, hm⟩ := hm
      by_cases g : i = id
      · exact ⟨⟨_, by rw [updH_eq, if_pos g]⟩, rfl⟩
      · exact ⟨⟨it, by rw [updH_eq, if_neg g]; exact hm⟩, rfl⟩
  refine ⟨he, hr.change he (fun i => updH_eq _ _ _ _) (fun _ _ => rfl) ?_ ?_ ?_ ?_ ?_ ?_⟩
  · intro _ i C g hi hC e
    exact g (hr.inj i id C _ hi hid hC rfl e.symm)
  · intro i C g hi hC
    exact hoth _ fun e => g (hr.inj i id C _ hi hid hC rfl e)
  · intro v c hB; cases hB
  · intro e hB; cases hB
  · intro es _ _ h; cases h
  · intro it h
    cases h
    refine ⟨by simp [setBlock, hlt, It.obj], fun m' n' seen2 e => ?_⟩
    cases e
    obtain ⟨es, h⟩ := (hr.iters id _ hid).2 m k seen rfl
    have g : m ≠ id := by rintro rfl; rw [hid] at h; cases h
    exact ⟨es, by rw [updH_eq, if_neg g]; exact h⟩
theorem AOp.next {x : Operand} {id m : Nat} {seen : List Nat} {es : List (AV × AV)} (hn : Nat.ble (d + 1) n = true) (hx : ev f x = .it id) (hid : H id = some (.iter (.map m es.length seen))) (hm : H m = some (.map es))
    (hno : (∀ j, j < es.length → j ∈ seen) → K (upd f d (.tup [.bool false])) H)
    (hyes : ∀ j e H', es[j]? = some e → j ∉ seen → H' id = some (.iter (.map m es.length (seen ++ [j]))) → (∀ i, i ≠ id → H' i = H i) → K (upd f d (.tup [.bool true, e.1, e.2])) H') : AOp P n ⟨some d, .next x false, ty, pos, after, guard⟩ K f H :=
  .values hn (fun μ a w hs => by
    have h1 := hs.ev x
    rw [hx] at h1
    have hp : a.eval x = .pointer (some ⟨μ id, 0, none⟩) := by
      generalize a.eval x = zz at h1
      cases h1
      rfl
    obtain ⟨hd, ents, clock, g1, g2, g3⟩ := hs.hr.maps m es hm
    have hb := hs.hr.born m es ents clock hm g1
    have hc : clock = es.length := by rw [hb.1, g2]
    subst hc
    obtain ⟨i1, _⟩ := hs.hr.iters id _ hid
    rcases run_next_at (P := P) w ty (μ id) (μ m) es.length es.length seen.toArray ents es.length i1 g1 (fun y hy => by
        obtain ⟨j, hj, rfl⟩ := List.mem_iff_getElem.1 hy
        have hj' : j < ents.size := by simpa using hj
        have := hb.2 j ents[j] (Array.getElem?_eq_getElem hj')
        simp only [Array.getElem_toList]; omega) (Nat.le_refl _) with ⟨r1, r2⟩ | ⟨e, r1, w1, r2, r3⟩
    · refine ⟨_, H, .tuple #[.bool false], w, μ, by simp [execOp, hp, r2], .refl _ _ _, hs.hr, .tup (cells := [.bool false]) rfl ?_, hno fun j hj => ?_⟩
      · intro j x y hx hy
        cases j with
        | zero => simp at hx hy; subst hx hy; exact .bool _
        | succ j => simp at hx
      · have hj' : j < ents.size := by omega
        have := hb.2 j ents[j] (Array.getElem?_eq_getElem hj')
        have hz := Array.eq_empty_of_size_eq_zero r1
        unfold leftOf at hz
        rw [Array.filter_eq_empty_iff] at hz
        have h2 := hz (ents[j]) (by simp)
        simpa [this] using h2
    · -- an entry
      unfold leftOf at r1
      simp only [Array.toList_filter, List.mem_filter, Array.mem_toList_iff] at r1
      obtain ⟨r0, r1⟩ := r1
      obtain ⟨j, hj, rfl⟩ := Array.mem_iff_getElem.1 r0
      have hjb := hb.2 j ents[j] (Array.getElem?_eq_getElem hj)
      have hje : j < es.length := by omega
      have hnot : j ∉ seen := by simpa [hjb] using r1
      obtain ⟨v1, v2⟩ := g3 j _ _ (List.getElem?_eq_getElem hje) (Array.getElem?_eq_getElem hj)
      have hw1 : w1.heap = w.heap := by rcases r2 with rfl | rfl <;> rfl
      obtain ⟨s1, s2⟩ := setiter (w := w1) (seen' := seen ++ [j]) (hs.hr.heap hw1) hid
      have hE : Ext w μ H (setBlock w1 (μ id) (.mapIter (some (μ m)) es.length (seen ++ [j]).toArray es.length)) μ (updH H id (.iter (.map m es.length (seen ++ [j])))) := (Ext.heap hw1 (by rcases r2 with rfl | rfl; exact .refl _; exact ⟨rfl, rfl, rfl, fun _ => Nat.le_succ _⟩)).trans s1
      have hp2 : seen.toArray.push ents[j].born = (seen ++ [j]).toArray := by rw [hjb]; simp
      rw [hp2] at r3
      refine ⟨_, _, _, _, μ, by simp only [execOp, hp, r3, Sem.run_map, Sem.run_bind, Result.andThen_ok]; rfl, hE, s2, .tup (cells := [.bool true, es[j].1, es[j].2]) rfl ?_, hyes j es[j] _ (List.getElem?_eq_getElem hje) hnot (updH_same _ _ _) fun _ h => updH_ne _ _ h⟩
      intro k x y hx hy
      match k, hx, hy with
      | 0, hx, hy => simp at hx hy; subst hx hy; exact .bool _
      | 1, hx, hy => simp at hx hy; subst hx hy; exact v1.ext hE
      | 2, hx, hy => simp at hx hy; subst hx hy; exact v2.ext hE
      | k + 3, hx, _ => simp at hx)
theorem AOp.entry {x : Operand} {id m j : Nat} {seen : List Nat} {es : List (AV × AV)} {e : AV × AV} (hn : Nat.ble (d + 1) n = true) (hx : ev f x = .it id) (hid : H id = some (.iter (.map m es.length (seen ++ [j])))) (hm : H m = some (.map es)) (he : es[j]? = some e)
    (hK : K (upd f d (.tup [e.1, e.2])) H) : AOp P n ⟨some d, .entry x, ty, pos, after, guard⟩ K f H :=
  .pureV _ hn (fun μ a w hs => by
    have h1 := hs.ev x
    rw [hx] at h1
    have hp : a.eval x = .pointer (some ⟨μ id, 0, none⟩) := by
      generalize a.eval x = zz at h1
      cases h1
      rfl
    obtain ⟨hd, ents, clock, g1, g2, g3⟩ := hs.hr.maps m es hm
    have hb := hs.hr.born m es ents clock hm g1
    have hc : clock = es.length := by rw [hb.1, g2]
    subst hc
    obtain ⟨i1, _⟩ := hs.hr.iters id _ hid
    have hje : j < es.length := (List.getElem?_eq_some_iff.1 he).1
    have hj : j < ents.size := by omega
    have hjb := hb.2 j ents[j] (Array.getElem?_eq_getElem hj)
    obtain ⟨v1, v2⟩ := g3 j _ _ he (Array.getElem?_eq_getElem hj)
    have hnd : (ents.toList.map (·.born)).Nodup := by
      rw [List.nodup_iff_pairwise_ne, List.pairwise_map, List.pairwise_iff_getElem]
      intro a b ha hb' hab e
      have h1 := hb.2 a ents[a] (Array.getElem?_eq_getElem (by simpa using ha))
      have h2 := hb.2 b ents[b] (Array.getElem?_eq_getElem (by simpa using hb'))
      simp only [Array.getElem_toList] at e
      omega
    have hr : w.heap[μ id]? = some (.mapIter (some (μ m)) es.length (seen.toArray.push ents[j].born) es.length) := by
      rw [i1, hjb]; simp [It.obj]
    have := run_entry_at (P := P) w (μ id) (μ m) es.length seen.toArray ents es.length ents[j] hr g1 (by simp) hnd
    refine ⟨_, by simp only [execOp, hp, this, Sem.run_map, Sem.run_bind, Result.andThen_ok]; rfl, .tup (cells := [e.1, e.2]) rfl ?_⟩
    intro k x y hx hy
    match k, hx, hy with
    | 0, hx, hy => simp at hx hy; subst hx hy; exact v1
    | 1, hx, hy => simp at hx hy; subst hx hy; exact v2
    | k + 2, hx, _ => simp at hx) hK
end
end Go.AH
namespace Go.AH
variable [Globs]
set_option linter.unusedSectionVars false
open Go Go.Maps
section
variable {P : Program} {n : Nat} {f : Nat → AV} {H : Heap} {K : (Nat → AV) → Heap → Prop} {ty : TypeId} {pos : String} {after : Array Edge} {guard : Option (Nat × Bool)} {d : Nat}
theorem AOp.lookupOk' {t kt et : TypeId} {x ix : Operand} {id : Nat} {es : List (AV × AV)} {kv z r : AV} {b : Bool} (hn : Nat.ble (d + 1) n = true) (hx : ev f x = .map id) (hid : H id = some (.map es)) (hk : ev f ix = kv) (hkv : KOK P kt kv) (hes : ∀ e ∈ es, KOK P kt e.1)
    (ht : TMap P t kt et) (hz : TZeroV P et z) (hr : (mget es kv).getD z = r ∧ (mget es kv).isSome = b) (hK : K (upd f d (.tup [r, .bool b])) H) : AOp P n ⟨some d, .lookup t x ix true, ty, pos, after, guard⟩ K f H :=
  .lookupOk hn hx hid hk hkv hes ht hz (by rw [hr.1, hr.2]; exact hK)
theorem AOp.lookup' {t kt et : TypeId} {x ix : Operand} {id : Nat} {es : List (AV × AV)} {kv z r : AV} (hn : Nat.ble (d + 1) n = true) (hx : ev f x = .map id) (hid : H id = some (.map es)) (hk : ev f ix = kv) (hkv : KOK P kt kv) (hes : ∀ e ∈ es, KOK P kt e.1)
    (ht : TMap P t kt et) (hz : TZeroV P et z) (hr : (mget es kv).getD z = r) (hK : K (upd f d r) H) : AOp P n ⟨some d, .lookup t x ix false, ty, pos, after, guard⟩ K f H :=
  .lookup hn hx hid hk hkv hes ht hz (by rw [hr]; exact hK)
theorem AOp.mapUpdate2 {t kt et : TypeId} {m ix y : Operand} {id : Nat} {es es' : List (AV × AV)} {kv v : AV} (hx : ev f m = .map id) (hid : H id = some (.map es)) (hk : ev f ix = kv) (hkv : KOK P kt kv) (hes : ∀ e ∈ es, KOK P kt e.1)
    (ht : TMap P t kt et) (hy : ev f y = v) (hput : mput es kv v = es') (hK : ∀ H', H' id = some (.map es') → (∀ i, i ≠ id → H' i = H i) → K f H') : AOp P n ⟨none, .mapUpdate t m ix y, ty, pos, after, guard⟩ K f H :=
  .mapUpdate' hx hid hk hkv hes ht hy (by rw [hput]; exact hK)
end
end Go.AH
namespace Go.AH
variable [Globs]
set_option linter.unusedSectionVars false
open Go
theorem AOp.xcall {P : Program} {n : Nat} {f : Nat → AV} {H : Heap} {K : (Nat → AV) → Heap → Prop} {ty : TypeId} {pos : String} {after : Array Edge} {guard : Option (Nat × Bool)} {d : Nat} {g : FuncId} {c : Operand} {args : Array Operand} {at_ : Array TypeId} {caps «as» : List AV} {R : AV → Heap → Prop} (hn : Nat.ble (d + 1) n = true) (hc : ev f c = .fn g caps) (has : args.toList.map (ev f) ++ caps = «as») (ht : TFun P g)
    (hC : ACalls P g «as» H R) (hK : ∀ r H', R r H' → K (upd f d r) H') : AOp P n ⟨some d, .call { callee := .value c, args, argTypes := at_ }, ty, pos, after, guard⟩ K f H :=
  .call hn hc rfl ht (by rw [has]; exact hC) hK
end Go.AH
namespace Go.AH
variable [Globs]
set_option linter.unusedSectionVars false
open Go
theorem Own.base {H0 H H' : Heap} {es len : Nat} {v : AV} {cells : List AV} (h : Own H H' es v len cells) (hm : Mono H0 H) : Own H0 H' es v len cells := by
  rcases h with h | ⟨id, ver, h1, h2, h3, h4⟩
  · exact .inl h
  · exact .inr ⟨id, ver, h1, h2, hm.free h3, h4⟩
theorem Sep.fresh {H0 H H' : Heap} {es es' len len' : Nat} {v w : AV} {cells cells' : List AV} (hw : Own H0 H es w len cells) (hv : Own H H' es' v len' cells') : Sep w v := by
  rcases hw with ⟨rfl, _, _⟩ | ⟨id, ver, rfl, h2, h3, h4⟩
  · exact Sep.nilL _
  · rcases hv with ⟨rfl, _, _⟩ | ⟨id', ver', rfl, g2, g3, g4⟩
    · exact Sep.nilR _
    · intro i a b c d i' a' b' c' d' e1 e2 e
      cases e1; cases e2; subst e
      rw [h2] at g3; cases g3
end Go.AH
namespace Go.AH
variable [Globs]
set_option linter.unusedSectionVars false
open Go
theorem loadv_if {ag : Bool} {sz off : Nat} {cells : List AV} : loadv ag sz off cells = if ag = true then (if off + sz ≤ cells.length then some (.agg ((cells.drop off).take sz)) else none) else cells[off]? := by
  unfold loadv
  cases ag
  · rfl
  · simp only [if_true]
    cases h : Nat.ble (off + sz) cells.length
    · rw [if_neg fun g => by rw [Nat.ble_eq_true_of_le g] at h; cases h]
    · rw [if_pos (Nat.le_of_ble_eq_true h)]
theorem ld_skip {A B : List AV} {ag : Bool} {sz n off off' : Nat} {r : Option AV} (hA : A.length = n) (ho : off = n + off') (h : loadv ag sz off' B = r) : loadv ag sz off (A ++ B) = r := by
  subst ho hA
  rw [← h, loadv_if, loadv_if]
  cases ag
  · simp only [Bool.false_eq_true, if_false]
    rw [List.getElem?_append_right (by omega)]; congr 1; omega
  · simp only [if_true, List.length_append]
    rw [List.drop_append, List.drop_of_length_le (show A.length ≤ A.length + off' by omega)]
    simp only [Nat.add_sub_cancel_left, List.nil_append]
    by_cases g : off' + sz ≤ B.length
    · rw [if_pos (by omega), if_pos g]
    · rw [if_neg (by omega), if_neg g]
theorem ld_fst {A B : List AV} {ag : Bool} {sz off : Nat} {v : AV} (hs : ag = false → sz = 1) (h : loadv ag sz off A = some v) : loadv ag sz off (A ++ B) = some v := by
  rw [loadv_if] at h ⊢
  cases ag
  · simp only [Bool.false_eq_true, if_false] at h ⊢
    have : off < A.length := by
      rcases Nat.lt_or_ge off A.length with g | g
      · exact g
      · rw [List.getElem?_eq_none g] at h; cases h
    rw [List.getElem?_append_left this]; exact h
  · simp only [if_true, List.length_append] at h ⊢
    split at h
    · rename_i g
      rw [if_pos (by omega), List.drop_append_of_le_length (by omega), List.take_append_of_le_length (by rw [List.length_drop]; omega)]
      exact h
    · cases h
theorem len1 {α : Type} {xs : List α} {e : α → AV} {n : Nat} (h : xs.length = n) : (xs.map e).length = n := by rw [List.length_map]; exact h
theorem lenM {α : Type} {xs : List α} {e : α → List AV} {m n k : Nat} (he : ∀ x, (e x).length = m) (h : xs.length = n) (hk : n * m = k) : (xs.flatMap e).length = k := by rw [flatMap_length he, h]; exact hk
theorem len_app {A B : List AV} {m n k : Nat} (hA : A.length = m) (hB : B.length = n) (hk : m + n = k) : (A ++ B).length = k := by rw [List.length_append, hA, hB]; exact hk
def SubAt (cells : List AV) (off : Nat) (sub : List AV) : Prop := ∀ (j : Nat) (x : AV), sub[j]? = some x → cells[off + j]? = some x
theorem SubAt.all {A : List AV} : SubAt A 0 A := fun j x h => by rw [Nat.zero_add]; exact h
theorem SubAt.fst {A B S : List AV} {off : Nat} (h : SubAt A off S) : SubAt (A ++ B) off S := fun j x hx => by
  have := h j x hx
  have hl : off + j < A.length := (List.getElem?_eq_some_iff.1 this).1
  rw [List.getElem?_append_left hl]; exact this
theorem SubAt.skip {A B S : List AV} {n off off' : Nat} (hA : A.length = n) (ho : off = n + off') (h : SubAt B off' S) : SubAt (A ++ B) off S := fun j x hx => by
  subst ho hA
  rw [List.getElem?_append_right (by omega), show A.length + off' + j - A.length = off' + j by omega]
  exact h j x hx
section
variable {P : Program} {n : Nat} {f : Nat → AV} {H : Heap} {K : (Nat → AV) → Heap → Prop} {ty : TypeId} {pos : String} {after : Array Edge} {guard : Option (Nat × Bool)} {d : Nat}
end
theorem freeze_ptr {w : World} {μ : Nat → Nat} {H : Heap} (hr : HR w μ H) {id ver off : Nat} {cells : List AV} (hid : H id = some (.row ver cells)) {v : Value} (hv : VR w μ H (.ptr id ver off) v) : VR w μ (updH H id (.dead ver)) (.fptr cells off) v := by
  obtain ⟨he, _, hf⟩ := freeze hr hid
  have hh := hr.holds hid
  cases hv with
  | ptr hk ha =>
    have := ha ⟨cells, hid⟩
    subst this
    have hex : ∀ j, j < cells.length → ∃ y, w.cell? ⟨μ id, 0 + j, none⟩ = some y ∧ ∀ x, cells[j]? = some x → VR w μ H x y := by
      intro j hj
      obtain ⟨y, h1, h2⟩ := hh j _ (List.getElem?_eq_getElem hj)
      refine ⟨y, h1, fun x hx => ?_⟩
      rw [List.getElem?_eq_getElem hj] at hx; cases hx; exact h2
    let ys : Nat → Value := fun j => if h : j < cells.length then Classical.choose (hex j h) else undef
    have e : (⟨μ id, off, none⟩ : Addr) = ⟨μ id, 0 + off, none⟩ := by rw [Nat.zero_add]
    rw [e]
    refine .fptr (ys := ys) hf (fun j x hx => ?_) (fun j x hx => ?_)
    · have hj := (List.getElem?_eq_some_iff.1 hx).1
      simp only [ys, dif_pos hj]; exact (Classical.choose_spec (hex j hj)).1
    · have hj := (List.getElem?_eq_some_iff.1 hx).1
      simp only [ys, dif_pos hj]; exact ((Classical.choose_spec (hex j hj)).2 x hx).ext he
theorem Ghost.freezeP {n t id ver off : Nat} {f : Nat → AV} {H : Heap} {cells : List AV} (hid : H id = some (.row ver cells)) (ht : f t = .ptr id ver off) : Ghost n f H (upd f t (.fptr cells off)) (updH H id (.dead ver)) := by
  intro μ a w hs
  obtain ⟨h1, h2, h3⟩ := AH.freeze hs.hr hid
  refine ⟨⟨h2, hs.size, fun u => ?_, hs.defers⟩, h1⟩
  rw [upd_eq]
  split
  · rename_i hu; subst hu
    exact freeze_ptr hs.hr hid (ht ▸ hs.slots u)
  · exact (hs.slots u).ext h1
section
variable {P : Program} {n : Nat} {f : Nat → AV} {H H0 : Heap} {K : (Nat → AV) → Heap → Prop} {o : Oper} {c : Code} {Q : Exit → (Nat → AV) → Heap → Prop} {F : (Nat → AV) → Heap → Prop} {id ver off : Nat} {cells : List AV}
theorem AOp.frzP (t : Nat) (hid : H id = some (.row ver cells)) (h0 : H0 id = none) (ht : f t = .ptr id ver off) (hm : Mono H0 H) (hK : ∀ H', Mono H0 H' → (∀ i, i ≠ id → H' i = H i) → AOp P n o K (upd f t (.fptr cells off)) H') : AOp P n o K f H :=
  .ghost (Ghost.freezeP hid ht) (hK _ (hm.set h0 fun _ h => updH_ne _ _ h) fun _ h => updH_ne _ _ h)
theorem AWP.frzP (t : Nat) (hid : H id = some (.row ver cells)) (h0 : H0 id = none) (ht : f t = .ptr id ver off) (hm : Mono H0 H) (hK : ∀ H', Mono H0 H' → (∀ i, i ≠ id → H' i = H i) → AWP P n c Q (upd f t (.fptr cells off)) H') : AWP P n c Q f H :=
  .ghost (Ghost.freezeP hid ht) (hK _ (hm.set h0 fun _ h => updH_ne _ _ h) fun _ h => updH_ne _ _ h)
theorem Fin.frzP (t : Nat) (hid : H id = some (.row ver cells)) (h0 : H0 id = none) (ht : f t = .ptr id ver off) (hm : Mono H0 H) (hK : ∀ H', Mono H0 H' → (∀ i, i ≠ id → H' i = H i) → ∃ f2 H2, Ghost n (upd f t (.fptr cells off)) H' f2 H2 ∧ F f2 H2) : ∃ f2 H2, Ghost n f H f2 H2 ∧ F f2 H2 :=
  let ⟨f2, H2, g2, q⟩ := hK _ (hm.set h0 fun _ h => updH_ne _ _ h) fun _ h => updH_ne _ _ h
  ⟨f2, H2, Ghost.trans (Ghost.freezeP hid ht) g2, q⟩
def UN (P : Program) (n : Nat) (b : Code) (Q : Exit → (Nat → AV) → Heap → Prop) : Nat → (Nat → AV) → Heap → Prop
  | 0, _, _ => False
  | N + 1, f, H => AWP P n b (Then (UN P n b Q N) Q) f H
theorem UN.step {b : Code} {N : Nat} (h : AWP P n b (Then (UN P n b Q N) Q) f H) : UN P n b Q (N + 1) f H := h
theorem AWP.unroll {b : Code} (N : Nat) (h : UN P n b Q N f H) : AWP P n (.loop b) Q f H := by
  refine AWP.loop (fun k f H => UN P n b Q k f H) (k := N) h fun k f H hk => ?_
  cases k with
  | zero => exact hk.elim
  | succ m => exact AWP.mono hk fun e f H q => by cases e <;> first | exact q | exact ⟨m, Nat.lt_succ_self m, q⟩
end
theorem wr_set1 {α : Type} {xs : List α} {e : α → AV} {i : Int} {v : α} (h0 : 0 ≤ i) (h1 : i < xs.length) : writeL (xs.map e) (i.toNat * 1) [e v] = (xs.set i.toNat v).map e := by
  apply List.ext_getElem?
  intro j
  rw [writeL_get (by simp; omega), List.map_set, List.getElem?_set]
  simp only [Nat.mul_one, List.length_cons, List.length_nil, List.length_map]
  by_cases g : j = i.toNat
  · subst g; rw [if_pos (by omega), if_pos rfl, if_pos (by omega)]; simp
  · rw [if_neg (by omega), if_neg (fun e => g e.symm)]
def arrL {α : Type} [Inhabited α] (n : Nat) (xs : List α) : List α := (List.range n).map fun (k : Nat) => at_ xs (k : Int)
theorem arrL_len {α : Type} [Inhabited α] (n : Nat) (xs : List α) : (arrL n xs).length = n := by simp [arrL]
theorem ld_off {cells : List AV} {ag : Bool} {sz o o' : Nat} {v : AV} (e : o = o') (h : loadv ag sz o' cells = some v) : loadv ag sz o cells = some v := e ▸ h
theorem wr_all {A vs : List AV} {n : Nat} (hA : A.length = n) (hv : vs.length = n) : writeL A 0 vs = vs := by
  unfold writeL; rw [List.drop_of_length_le (by omega)]; simp
theorem blelen {A : List AV} {n o : Nat} (h : A.length = n) (ho : o ≤ n) : Nat.ble o A.length = true := Nat.ble_eq_true_of_le (by omega)
section
variable {P : Program} {n : Nat} {f : Nat → AV} {H : Heap} {K : (Nat → AV) → Heap → Prop} {ty : TypeId} {pos : String} {after : Array Edge} {guard : Option (Nat × Bool)} {d : Nat}
theorem AOp.quoT {t t' : TypeId} {x y : Operand} {p q : Int} (hn : Nat.ble (d + 1) n = true) (hx : ev f x = .int .i64 p) (hy : ev f y = .int .i64 q) (hq : q ≠ 0) (hr : -9223372036854775808 ≤ p.tdiv q ∧ p.tdiv q ≤ 9223372036854775807)
    (hK : K (upd f d (.int .i64 (p.tdiv q))) H) : AOp P n ⟨some d, .binOp .quo t x y t', ty, pos, after, guard⟩ K f H :=
  .quo hn hx hy hq (by rw [IntWalk.i64_in _ hr]; exact hK)
end
end Go.AH
namespace Go.AH
variable [Globs]
set_option linter.unusedSectionVars false
open Go Go.Maps
def flatI (P : Program) : Nat → TypeId → Bool
  | 0, _ => false
  | d + 1, t =>
    match P.underlying t with
    | some (.int .i64) => P.cellsOf t == 1
    | some (.array n e) => flatI P d e && P.cellsOf t == n * P.cellsOf e
    | some (.struct fs) => fs.all (·.name != "_") && fs.toList.all fun f => flatI P d f.type && Nat.ble (f.offset + P.cellsOf f.type) (P.cellsOf t)
    | _ => false
theorem mapM_ex {α β : Type} {f : α → Option β} : ∀ {l : List α}, (∀ x ∈ l, ∃ y, f x = some y) → ∃ ys, l.mapM f = some ys
  | [], _ => ⟨[], rfl⟩
  | x :: l, h => by
    obtain ⟨y, hy⟩ := h x (.head _)
    obtain ⟨ys, hys⟩ := mapM_ex fun z hz => h z (.tail _ hz)
    exact ⟨y :: ys, by rw [List.mapM_cons, hy, hys]; rfl⟩
theorem flat_lits {P : Program} : ∀ (k d : Nat) (t : TypeId), k ≤ d → flatI P k t = true → ∀ xs : List Int, xs.length = P.cellsOf t → (∀ x ∈ xs, inR x) → ∃ ls, P.keyLits d t (xs.map fun x => .int .i64 x) = some ls
  | 0, _, _, _, h, _, _, _ => by cases h
  | k + 1, d, t, hd, h, xs, hl, hx => by
    obtain ⟨d, rfl⟩ : ∃ e, d = e + 1 := ⟨d - 1, by omega⟩
    have cut : ∀ o c, o + c ≤ xs.length → ((xs.map fun x => Value.int .i64 x).drop o).take c = ((xs.drop o).take c).map fun x => Value.int .i64 x := fun o c _ => by rw [← List.map_drop, ← List.map_take]
    have cl : ∀ o c, o + c ≤ xs.length → ((xs.drop o).take c).length = c := fun o c h => by rw [List.length_take, List.length_drop]; omega
    have ci : ∀ o c, ∀ x ∈ (xs.drop o).take c, inR x := fun o c x hxx => hx x (List.mem_of_mem_drop (List.mem_of_mem_take hxx))
    unfold flatI at h
    rw [Program.keyLits.eq_def]
    cases hu : P.underlying t with
    | none => rw [hu] at h; cases h
    | some u =>
      rw [hu] at h
      cases u <;> try (cases h; done)
      · rename_i q
        cases q <;> try (cases h; done)
        simp only at h
        rw [beq_iff_eq] at h
        match xs, hl, hx with
        | [], hl, _ => simp at hl; omega
        | [x], _, hx => exact ⟨[.int .i64 x], by simp [hu, wf_of (hx x (.head _))]⟩
        | _ :: _ :: _, hl, _ => simp at hl; omega
      · rename_i n e
        simp only [Bool.and_eq_true, beq_iff_eq] at h
        obtain ⟨ys, hys⟩ := mapM_ex (f := fun i => P.keyLits d e (((xs.map fun x => Value.int .i64 x).drop (i * P.cellsOf e)).take (P.cellsOf e))) (l := List.range n) fun i hi => by
          rw [List.mem_range] at hi
          have hle : i * P.cellsOf e + P.cellsOf e ≤ xs.length := by
            rw [hl, h.2]
            have := Nat.mul_le_mul_right (P.cellsOf e) (show i + 1 ≤ n from hi)
            rw [Nat.add_mul] at this; omega
          simp only [cut _ _ hle]
          exact flat_lits k d e (by omega) h.1 _ (cl _ _ hle) (ci _ _)
        refine ⟨ys.flatten, ?_⟩
        simp only [hu, List.length_map, hl, if_true]
        rw [hys]; rfl
      · rename_i fs
        simp only [Bool.and_eq_true] at h
        obtain ⟨ys, hys⟩ := mapM_ex (f := fun f : Field => P.keyLits d f.type (((xs.map fun x => Value.int .i64 x).drop f.offset).take (P.cellsOf f.type))) (l := fs.toList) fun f hf => by
          have g := List.all_eq_true.1 h.2 f hf
          simp only [Bool.and_eq_true] at g
          have hle : f.offset + P.cellsOf f.type ≤ xs.length := by rw [hl]; exact Nat.le_of_ble_eq_true g.2
          simp only [cut _ _ hle]
          exact flat_lits k d f.type (by omega) g.1 _ (cl _ _ hle) (ci _ _)
        refine ⟨ys.flatten, ?_⟩
        simp only [hu, List.length_map, hl, h.1, and_self, if_true]
        rw [hys]; rfl
theorem KOK.flat {P : Program} {t : TypeId} {xs : List Int} (k : Nat) (hw : (match P.underlying t with | some (.array _ _) | some (.struct _) => true | _ => false) = true) (hk : P.keyType t = true) (hs : Nat.ble k P.types.size = true) (hf : flatI P k t = true) (hc : P.cellsOf t = xs.length) (h : ∀ x ∈ xs, inR x) : KOK P t (.agg (xs.map fun x => .int .i64 x)) := by
  obtain ⟨ls, hl⟩ := flat_lits k (P.types.size + 1) t (by have := Nat.le_of_ble_eq_true hs; omega) hf xs hc.symm h
  refine ⟨.agg (xs.map fun x => Value.int .i64 x).toArray, .string (keyBytes ls), by simp only [conc, concs, Option.map_some], ?_⟩
  unfold keyOf
  cases hu : P.underlying t with
  | none => rw [hu] at hw; cases hw
  | some u =>
    rw [hu] at hw
    have h1 : Value.formed P t (.agg (xs.map fun x => Value.int .i64 x).toArray) = true := by
      cases u <;> first | (cases hw; done) | simp [Value.formed, hu, hc]
    cases u <;> first | (cases hw; done) | (simp only [h1, hk, Bool.and_self, if_true, Value.cells, hl, Option.map_some])
section
variable {P : Program} {n : Nat} {f : Nat → AV} {H : Heap} {K : (Nat → AV) → Heap → Prop} {ty : TypeId} {pos : String} {after : Array Edge} {guard : Option (Nat × Bool)} {d : Nat}
end
end Go.AH
namespace Go.AH
variable [Globs]
set_option linter.unusedSectionVars false
open Go
section
variable {P : Program} {n : Nat} {Q : Exit → (Nat → AV) → Heap → Prop} {f : Nat → AV} {H : Heap}
theorem AWP.fresh {c : Code} (h : ∀ id, H id = none → AWP P n c Q f H) : AWP P n c Q f H := by
  intro μ a w hs
  obtain ⟨N, hN⟩ := hs.hr.fin
  exact h N (hN N (Nat.le_refl _)) μ a w hs
theorem AWP.reserve {c : Code} {id : Nat} (hid : H id = none) (h : AWP P n c Q f (updH H id .res)) : AWP P n c Q f H := by
  refine AWP.ghost (fun μ a w hs => ?_) h
  have he : Ext w μ H w μ (updH H id .res) := by
    refine ⟨Nat.le_refl _, fun b hb => ⟨rfl, ?_⟩, fun i v hk => ?_, fun i v hk ha => ?_, fun i hm => ?_, fun i hm => ?_, .refl w⟩
    · rintro ⟨i, B, h1, h2, h3⟩
      rw [updH_eq] at h1
      by_cases g : i = id
      · rw [if_pos g] at h1; cases h1; cases h2
      · rw [if_neg g] at h1; exact hb.2 ⟨i, B, h1, h2, h3⟩
    · obtain ⟨B, v', h1, h2⟩ := hk
      exact ⟨B, v', by rw [updH_eq, if_neg (by rintro rfl; rw [hid] at h1; cases h1)]; exact h1, h2⟩
    · obtain ⟨cc, ha⟩ := ha
      rw [updH_eq] at ha
      by_cases g : i = id
      · rw [if_pos g] at ha; cases ha
      · rw [if_neg g] at ha; exact ⟨⟨cc, ha⟩, rfl, rfl⟩
    · obtain ⟨es, hm⟩ := hm
      exact ⟨⟨es, by rw [updH_eq, if_neg (by rintro rfl; rw [hid] at hm; cases hm)]; exact hm⟩, rfl⟩
    · obtain ⟨it, hm⟩ := hm
      exact ⟨⟨it, by rw [updH_eq, if_neg (by rintro rfl; rw [hid] at hm; cases hm)]; exact hm⟩, rfl⟩
  exact ⟨hs.stay he (hs.hr.change he (fun i => updH_eq _ _ _ _) (fun _ _ => rfl) (fun h => by cases h) (fun _ _ _ _ _ => rfl) (fun _ _ h => by cases h) (fun _ h => by cases h) (fun _ _ _ h => by cases h) (fun _ h => by cases h)), he⟩
def QOpA (P : Program) (n : Nat) (ops : Array Oper) (o : Oper) (d : Nat) (v : AV) (H : Heap) (f : Nat → AV) : Prop :=
  (o.guard = none ∧ ∀ H1 f' H', (∀ t, (tmpsOf o).elem t = true → f' t = f t) → Mono H1 H' → Mono H H' → AOp P n o (fun f2 H2 => f2 = upd f' d v ∧ Mono H1 H2) f' H') ∨
  (∃ j want oj dj b, o.guard = some (j, want) ∧ ops[j]? = some oj ∧ oj.dst = some dj ∧ f dj = gAV b ∧
    (b = some want → ∀ H1 f' H', (∀ t, (tmpsOf o).elem t = true → f' t = f t) → Mono H1 H' → Mono H H' → AOp P n o (fun f2 H2 => f2 = upd f' d v ∧ Mono H1 H2) f' H') ∧
    (b ≠ some want → v = .tup [] ∧ Nat.ble (d + 1) n = true))
theorem QOpA.yes {ops : Array Oper} {o oj : Oper} {d j dj : Nat} {v : AV} {b want : Bool} (hg : o.guard = some (j, want)) (hj : ops[j]? = some oj) (hd : oj.dst = some dj) (hf : f dj = .bool b) (hb : b = want)
    (h : ∀ H1 f' H', (∀ t, (tmpsOf o).elem t = true → f' t = f t) → Mono H1 H' → Mono H H' → AOp P n o (fun f2 H2 => f2 = upd f' d v ∧ Mono H1 H2) f' H') : QOpA P n ops o d v H f :=
  .inr ⟨j, want, oj, dj, some b, hg, hj, hd, hf, fun _ => h, fun e => absurd (congrArg some hb) e⟩
theorem QOpA.no {ops : Array Oper} {o oj : Oper} {d j dj : Nat} {b want : Bool} (hg : o.guard = some (j, want)) (hj : ops[j]? = some oj) (hd : oj.dst = some dj) (hf : f dj = .bool b) (hb : b ≠ want) (hn : Nat.ble (d + 1) n = true) : QOpA P n ops o d (.tup []) H f :=
  .inr ⟨j, want, oj, dj, some b, hg, hj, hd, hf, fun e => absurd (Option.some.inj e) hb, fun _ => ⟨rfl, hn⟩⟩
inductive QPA (P : Program) (n : Nat) (ops : Array Oper) (a id : Nat) (B : AB) (va : AV) (H : Heap) (T : (Nat → AV) → Prop) (k : Nat) : Nat → (Nat → AV) → List (Nat × AV) → Prop
  | done {f : Nat → AV} (h : T f) : QPA P n ops a id B va H T k k f []
  | op {i d : Nat} {f : Nat → AV} {v : AV} {L : List (Nat × AV)} {o : Oper} (hi : i ≠ a) (ho : ops[i]? = some o) (hd : o.dst = some d) (h : QOpA P n ops o d v H f) (rest : QPA P n ops a id B va H T k (i + 1) (upd f d v) L) : QPA P n ops a id B va H T k i f ((d, v) :: L)
  | new {d : Nat} {f : Nat → AV} {L : List (Nat × AV)} {o : Oper} (ho : ops[a]? = some o) (hd : o.dst = some d) (hg : o.guard = none) (hn : Nat.ble (d + 1) n = true) (hop : ∀ f' H', (∀ t, (tmpsOf o).elem t = true → f' t = f t) → H' id = some .res → AOp P n o (fun f2 H2 => f2 = upd f' d va ∧ H2 = updH H' id B) f' H') (rest : QPA P n ops a id B va H T k (a + 1) (upd f d va) L) : QPA P n ops a id B va H T k a f ((d, va) :: L)
theorem QPA.len {ops : Array Oper} {a id : Nat} {B : AB} {va : AV} {T : (Nat → AV) → Prop} {k b : Nat} {L : List (Nat × AV)} (h : QPA P n ops a id B va H T k b f L) : b + L.length = k := by
  induction h with
  | done h => rfl
  | op hi ho hd h rest ih => simp only [List.length_cons]; omega
  | new ho hd hg hn hop rest ih => simp only [List.length_cons]; omega
def QEA (P : Program) (n : Nat) (ops : Array Oper) (a id : Nat) (B : AB) (va : AV) (H : Heap) (T : (Nat → AV) → Prop) (k i : Nat) (f : Nat → AV) : Prop := ∃ L, QPA P n ops a id B va H T k i f L
theorem QEA.done {ops : Array Oper} {a id : Nat} {B : AB} {va : AV} {T : (Nat → AV) → Prop} {k : Nat} (h : T f) : QEA P n ops a id B va H T k k f := ⟨_, .done h⟩
theorem QEA.op {ops : Array Oper} {a id : Nat} {B : AB} {va : AV} {T : (Nat → AV) → Prop} {k i d : Nat} {v : AV} {o : Oper} (hi : Nat.beq i a = false) (ho : ops[i]? = some o) (hd : o.dst = some d) (h : QOpA P n ops o d v H f) (rest : QEA P n ops a id B va H T k (i + 1) (upd f d v)) : QEA P n ops a id B va H T k i f :=
  let ⟨_, r⟩ := rest; ⟨_, .op (by rintro rfl; simp at hi) ho hd h r⟩
theorem QEA.alloc {ops : Array Oper} {a id : Nat} {Z : List AV} {T : (Nat → AV) → Prop} {k d : Nat} {o : Oper} {t : TypeId} (ho : ops[a]? = some o) (hd : o.dst = some d) (hg : o.guard = none) (hop : o.op = .alloc t) (hn : Nat.ble (d + 1) n = true) (hz : TZero P t Z) (rest : QEA P n ops a id (.row 0 Z) (.ptr id 0 0) H T k (a + 1) (upd f d (.ptr id 0 0))) : QEA P n ops a id (.row 0 Z) (.ptr id 0 0) H T k a f :=
  let ⟨_, r⟩ := rest; ⟨_, .new ho hd hg hn (fun f' H' _ hr => by
      obtain ⟨dst, op, ty, pos, after, guard⟩ := o
      simp only at hd hop
      subst hd hop
      exact AOp.alloc_at id (.inr hr) hn hz ⟨rfl, rfl⟩) r⟩
theorem QEA.makeMap {ops : Array Oper} {a id : Nat} {T : (Nat → AV) → Prop} {k d : Nat} {o : Oper} {t : TypeId} (ho : ops[a]? = some o) (hd : o.dst = some d) (hg : o.guard = none) (hop : o.op = .makeMap t none) (hn : Nat.ble (d + 1) n = true) (rest : QEA P n ops a id (.map []) (.map id) H T k (a + 1) (upd f d (.map id))) : QEA P n ops a id (.map []) (.map id) H T k a f :=
  let ⟨_, r⟩ := rest; ⟨_, .new ho hd hg hn (fun f' H' _ hr => by
      obtain ⟨dst, op, ty, pos, after, guard⟩ := o
      simp only at hd hop
      subst hd hop
      exact AOp.makeMap_at id (.inr hr) hn ⟨rfl, rfl⟩) r⟩
theorem QEA.new {ops : Array Oper} {a id : Nat} {B : AB} {va : AV} {T : (Nat → AV) → Prop} {k d : Nat} {o : Oper} (ho : ops[a]? = some o) (hd : o.dst = some d) (hg : o.guard = none) (hn : Nat.ble (d + 1) n = true) (hop : ∀ f' H', (∀ t, (tmpsOf o).elem t = true → f' t = f t) → H' id = some .res → AOp P n o (fun f2 H2 => f2 = upd f' d va ∧ H2 = updH H' id B) f' H') (rest : QEA P n ops a id B va H T k (a + 1) (upd f d va)) : QEA P n ops a id B va H T k a f :=
  let ⟨_, r⟩ := rest; ⟨_, .new ho hd hg hn hop r⟩
def EntA (P : Program) (n : Nat) (ops : Array Oper) (a id : Nat) (B : AB) (va : AV) (H : Heap) (i : Nat) (o : Oper) (d : Nat) (v : AV) (f : Nat → AV) : Prop :=
  (i ≠ a ∧ QOpA P n ops o d v H f) ∨ (i = a ∧ (∀ f' H', (∀ t, (tmpsOf o).elem t = true → f' t = f t) → H' id = some .res → AOp P n o (fun f2 H2 => f2 = upd f' d va ∧ H2 = updH H' id B) f' H') ∧ o.guard = none ∧ v = va ∧ Nat.ble (d + 1) n = true)
theorem QPA.get {ops : Array Oper} {a id : Nat} {B : AB} {va : AV} {T : (Nat → AV) → Prop} {k b : Nat} {L : List (Nat × AV)} (h : QPA P n ops a id B va H T k b f L) : T (cur L b (fun _ => true) f) ∧
    ∀ m d v, L[m]? = some (d, v) → ∃ o, ops[b + m]? = some o ∧ o.dst = some d ∧ EntA P n ops a id B va H (b + m) o d v (cur (L.take m) b (fun _ => true) f) := by
  induction h with
  | done h => exact ⟨h, fun m d v hm => by simp at hm⟩
  | op hi ho hd h rest ih =>
    rename_i i d0 f v0 L o
    refine ⟨by rw [cur, if_pos rfl]; exact ih.1, fun m d v hm => ?_⟩
    cases m with
    | zero =>
      simp only [List.getElem?_cons_zero, Option.some.injEq, Prod.mk.injEq] at hm
      obtain ⟨rfl, rfl⟩ := hm
      exact ⟨o, ho, hd, .inl ⟨hi, h⟩⟩
    | succ m =>
      obtain ⟨o', h1, h2, h3⟩ := ih.2 m d v (by simpa using hm)
      rw [show i + 1 + m = i + (m + 1) by omega] at h1 h3
      refine ⟨o', h1, h2, ?_⟩
      rw [List.take_succ_cons, cur, if_pos rfl]; exact h3
  | new ho hd hg hn hop rest ih =>
    rename_i d0 f L o
    refine ⟨by rw [cur, if_pos rfl]; exact ih.1, fun m d v hm => ?_⟩
    cases m with
    | zero =>
      simp only [List.getElem?_cons_zero, Option.some.injEq, Prod.mk.injEq] at hm
      obtain ⟨rfl, rfl⟩ := hm
      exact ⟨o, ho, hd, .inr ⟨rfl, hop, hg, rfl, hn⟩⟩
    | succ m =>
      obtain ⟨o', h1, h2, h3⟩ := ih.2 m d v (by simpa using hm)
      rw [show a + 1 + m = a + (m + 1) by omega] at h1 h3
      refine ⟨o', h1, h2, ?_⟩
      rw [List.take_succ_cons, cur, if_pos rfl]; exact h3
end
end Go.AH
namespace Go.AH
variable [Globs]
set_option linter.unusedSectionVars false
open Go
theorem fill_step {pl : Nat → Option (Nat × Nat)} {cells c' : List AV} {i off size : Nat} {v : AV} {rest : List (Nat × AV)} {r : Option (List AV)} (hp : pl i = some (off, size)) (hb : v.plainB = true) (hl : v.cells.length = size) (hle : Nat.ble (off + size) cells.length = true) (hw : writeL cells off v.cells = c') (h : fillA pl c' rest = r) : fillA pl cells ((i, v) :: rest) = r := by
  subst hl hw
  simp only [fillA, hp, hb, hle, Bool.true_and, Nat.beq_refl]
  exact h
end Go.AH
namespace Go.AH
variable [Globs]
set_option linter.unusedSectionVars false
open Go
abbrev Ent := Nat × Option Nat × AV
def updO (f : Nat → AV) : Option Nat → AV → Nat → AV
  | none, _ => f
  | some d, v => upd f d v
def ov (S : Nat → Bool) : List Ent → (Nat → AV) → Nat → AV
  | [], f => f
  | e :: L, f => ov S L (if S e.1 = true then updO f e.2.1 e.2.2 else f)
theorem ov_app {S : Nat → Bool} : ∀ (L M : List Ent) (f : Nat → AV), ov S (L ++ M) f = ov S M (ov S L f)
  | [], _, _ => rfl
  | e :: L, M, f => by rw [List.cons_append, ov, ov_app L M, ov]
theorem ov_slot {S S' : Nat → Bool} {t : Nat} : ∀ (L : List Ent) (f f' : Nat → AV), f t = f' t → (∀ e ∈ L, e.2.1 = some t → S e.1 = S' e.1) → ov S L f t = ov S' L f' t
  | [], _, _, h, _ => h
  | e :: L, f, f', h, hs => by
    rw [ov, ov]
    refine ov_slot L _ _ ?_ fun x hx => hs x (.tail _ hx)
    by_cases ht : e.2.1 = some t
    · rw [hs e (.head _) ht]
      by_cases hS : S' e.1 = true
      · rw [if_pos hS, if_pos hS, ht]; simp [updO, upd_eq]
      · rw [if_neg hS, if_neg hS]; exact h
    · have a : ∀ g : Nat → AV, updO g e.2.1 e.2.2 t = g t := fun g => by
        cases hd : e.2.1 with
        | none => rfl
        | some d => simp only [updO]; rw [upd_eq, if_neg (fun h => ht (by rw [hd, h]))]
      have b : ∀ (c : Prop) [Decidable c] (g : Nat → AV), (if c then updO g e.2.1 e.2.2 else g) t = g t := fun c _ g => by by_cases hc : c <;> simp [hc, a]
      rw [b, b]; exact h
theorem ov_none {S : Nat → Bool} : ∀ (L : List Ent) (f : Nat → AV), (∀ e ∈ L, S e.1 = false) → ov S L f = f
  | [], _, _ => rfl
  | e :: L, f, h => by rw [ov, if_neg (by rw [h e (.head _)]; decide)]; exact ov_none L f fun x hx => h x (.tail _ hx)
theorem ov_congr {S S' : Nat → Bool} (L : List Ent) (f : Nat → AV) (h : ∀ e ∈ L, S e.1 = S' e.1) : ov S L f = ov S' L f := funext fun _ => ov_slot L f f rfl fun e he _ => h e he
def prs {α : Type} (p : α → α → Bool) : List α → Bool
  | [] => true
  | a :: l => l.all (p a) && prs p l
theorem prs_spec {α : Type} {p : α → α → Bool} : ∀ {A : List α} {a : α} {B : List α}, prs p (A ++ a :: B) = true → (∀ b ∈ B, p a b = true) ∧ ∀ c ∈ A, p c a = true
  | [], a, B, h => by
    rw [List.nil_append, prs, Bool.and_eq_true, List.all_eq_true] at h
    exact ⟨h.1, fun _ h => by cases h⟩
  | x :: A, a, B, h => by
    rw [List.cons_append, prs, Bool.and_eq_true, List.all_eq_true] at h
    obtain ⟨h1, h2⟩ := prs_spec h.2
    refine ⟨h1, fun c hc => ?_⟩
    rcases List.mem_cons.1 hc with rfl | hc
    · exact h.1 a (by simp)
    · exact h2 c hc
abbrev Item := Nat × Option (List Nat)
def bfB (ops : Array Oper) (i j : Nat) : Bool := ((befL ops.toList []).getD i 0).testBit j
def dstOf (ops : Array Oper) (i : Nat) : Option Nat := (ops[i]?).bind (·.dst)
def touch (ops : Array Oper) (i : Nat) : List Nat := match ops[i]? with | some o => tmpsOf o ++ guardSlot ops o ++ o.dst.toList | none => []
def pairB (ops : Array Oper) (x y : Item) : Bool :=
  !Nat.beq x.1 y.1 &&
  ((touch ops x.1).all fun t => (match dstOf ops y.1 with | some d => !Nat.beq d t | none => true) || bfB ops y.1 x.1) &&
  ((touch ops y.1).all fun t => (match dstOf ops x.1 with | some d => !Nat.beq d t | none => true) || bfB ops y.1 x.1) &&
  (match x.2 with | some _ => bfB ops y.1 x.1 | none => true) &&
  (match y.2 with | some R => bfB ops y.1 x.1 || R.elem x.1 | none => true)
def stgB (ops : Array Oper) (ord : List Item) (tail : List Nat) : Bool :=
  ((List.range ops.size).all fun i => (ord.map (·.1)).elem i || tail.elem i) &&
  (ord.all fun x => Nat.blt x.1 ops.size) && (tail.all fun c => Nat.blt c ops.size) &&
  prs (pairB ops) ord && prs (fun c c' => !Nat.beq c c' && bfB ops c' c) tail &&
  (tail.all fun c => ord.all fun x => !Nat.beq c x.1 && bfB ops c x.1)
section
variable {P : Program} {n : Nat} {Q : Exit → (Nat → AV) → Heap → Prop} {f : Nat → AV} {H : Heap}
theorem QOpA.mono {ops : Array Oper} {o : Oper} {d : Nat} {v : AV} {H2 : Heap} (hm : Mono H H2) (h : QOpA P n ops o d v H f) : QOpA P n ops o d v H2 f := by
  rcases h with ⟨hg, h⟩ | ⟨j, want, oj, dj, b, h1, h2, h3, h4, h5, h6⟩
  · exact .inl ⟨hg, fun H1 f' H' a b c => h H1 f' H' a b (hm.trans c)⟩
  · exact .inr ⟨j, want, oj, dj, b, h1, h2, h3, h4, fun e H1 f' H' a b c => h5 e H1 f' H' a b (hm.trans c), h6⟩
def Reval (P : Program) (n : Nat) (ops : Array Oper) (R : List Nat) (H2 : Heap) : List Ent → (Nat → AV) → Prop
  | [], _ => True
  | e :: L, g => (R.elem e.1 = true → ∃ o d, ops[e.1]? = some o ∧ e.2.1 = some d ∧ QOpA P n ops o d e.2.2 H2 g) ∧ Reval P n ops R H2 L (updO g e.2.1 e.2.2)
theorem Reval.nil {ops : Array Oper} {R : List Nat} {H2 : Heap} {g : Nat → AV} : Reval P n ops R H2 [] g := trivial
theorem Reval.cons {ops : Array Oper} {R : List Nat} {H2 : Heap} {e : Ent} {L : List Ent} {g : Nat → AV} (h : R.elem e.1 = true → ∃ o d, ops[e.1]? = some o ∧ e.2.1 = some d ∧ QOpA P n ops o d e.2.2 H2 g) (r : Reval P n ops R H2 L (updO g e.2.1 e.2.2)) : Reval P n ops R H2 (e :: L) g := ⟨h, r⟩
theorem Reval.none {ops : Array Oper} {H2 : Heap} : ∀ {L : List Ent} {g : Nat → AV}, Reval P n ops [] H2 L g
  | [], _ => trivial
  | _ :: _, _ => ⟨fun h => by simp at h, Reval.none⟩
abbrev top : Nat → Bool := fun _ => true
theorem ov_top_cons {e : Ent} {L : List Ent} {g : Nat → AV} : ov top (e :: L) g = ov top L (updO g e.2.1 e.2.2) := by rw [ov, if_pos rfl]
theorem Reval.spec {ops : Array Oper} {R : List Nat} {H2 : Heap} : ∀ {L : List Ent} {g : Nat → AV}, Reval P n ops R H2 L g → ∀ A e B, L = A ++ e :: B → R.elem e.1 = true → ∃ o d, ops[e.1]? = some o ∧ e.2.1 = some d ∧ QOpA P n ops o d e.2.2 H2 (ov top A g)
  | [], _, _, A, e, B, h, _ => by simp at h
  | x :: L, g, h, A, e, B, hL, hR => by
    cases A with
    | nil => rw [List.nil_append, List.cons.injEq] at hL; obtain ⟨rfl, rfl⟩ := hL; exact h.1 hR
    | cons a A =>
      rw [List.cons_append, List.cons.injEq] at hL
      obtain ⟨rfl, hL⟩ := hL
      rw [ov_top_cons]; exact Reval.spec h.2 A e B hL hR
def STQ (P : Program) (n : Nat) (ops : Array Oper) (f0 : Nat → AV) (T : (Nat → AV) → Heap → Prop) : List Item → List Ent → Heap → (Nat → AV) → Prop
  | [], _, Hs, g => ∀ H', Mono Hs H' → T g H'
  | (i, none) :: r, L, Hs, g => ∃ o d v, ops[i]? = some o ∧ o.dst = some d ∧ QOpA P n ops o d v Hs g ∧ STQ P n ops f0 T r (L ++ [(i, some d, v)]) Hs (upd g d v)
  | (e, some R) :: r, L, Hs, g => ∃ o, ops[e]? = some o ∧ o.guard = none ∧ ∀ f' H', (∀ t, (tmpsOf o).elem t = true → f' t = g t) → Mono Hs H' →
      AOp P n o (fun f2 H2 => ∃ v, f2 = updO f' o.dst v ∧ (Mono H' H2 ∨ Reval P n ops R H2 L f0) ∧ STQ P n ops f0 T r (L ++ [(e, o.dst, v)]) H2 (updO g o.dst v)) f' H'
theorem STQ.op {ops : Array Oper} {f0 g : Nat → AV} {T : (Nat → AV) → Heap → Prop} {r : List Item} {L : List Ent} {i d : Nat} {v : AV} {o : Oper} (ho : ops[i]? = some o) (hd : o.dst = some d) (h : QOpA P n ops o d v H g) (rest : STQ P n ops f0 T r (L ++ [(i, some d, v)]) H (upd g d v)) : STQ P n ops f0 T ((i, none) :: r) L H g := ⟨o, d, v, ho, hd, h, rest⟩
theorem STQ.eff {ops : Array Oper} {f0 g : Nat → AV} {T : (Nat → AV) → Heap → Prop} {r : List Item} {R : List Nat} {L : List Ent} {e d : Nat} {o : Oper} (ho : ops[e]? = some o) (hd : o.dst = some d) (hg : o.guard = none)
    (h : ∀ f' H', (∀ t, (tmpsOf o).elem t = true → f' t = g t) → Mono H H' → AOp P n o (fun f2 H2 => ∃ v, f2 = upd f' d v ∧ (Mono H' H2 ∨ Reval P n ops R H2 L f0) ∧ STQ P n ops f0 T r (L ++ [(e, some d, v)]) H2 (upd g d v)) f' H') : STQ P n ops f0 T ((e, some R) :: r) L H g := ⟨o, ho, hg, by rw [hd]; exact h⟩
theorem STQ.st {ops : Array Oper} {f0 g : Nat → AV} {T : (Nat → AV) → Heap → Prop} {r : List Item} {R : List Nat} {L : List Ent} {e : Nat} {o : Oper} (ho : ops[e]? = some o) (hd : o.dst = none) (hg : o.guard = none)
    (h : ∀ f' H', (∀ t, (tmpsOf o).elem t = true → f' t = g t) → Mono H H' → AOp P n o (fun f2 H2 => f2 = f' ∧ (Mono H' H2 ∨ Reval P n ops R H2 L f0) ∧ STQ P n ops f0 T r (L ++ [(e, none, .undef)]) H2 g) f' H') : STQ P n ops f0 T ((e, some R) :: r) L H g := ⟨o, ho, hg, fun f' H' a b μ c w hs E => by
      rw [hd]
      exact Oper.wp_mono (fun a' w' ⟨μ', f2, H2, g1, g2, g3⟩ => ⟨μ', f2, H2, g1, g2, .undef, g3⟩) (fun _ _ _ _ h => h) (h f' H' a b μ c w hs E)⟩
theorem STQ.done {ops : Array Oper} {f0 g : Nat → AV} {T : (Nat → AV) → Heap → Prop} {L : List Ent} (h : ∀ H', Mono H H' → T g H') : STQ P n ops f0 T [] L H g := h
def Vld (P : Program) (n : Nat) (ops : Array Oper) (L : List Ent) (Hs : Heap) (S : Nat → Bool) (f : Nat → AV) : Prop :=
  ∀ A e B, L = A ++ e :: B → S e.1 = false → ∃ o d, ops[e.1]? = some o ∧ o.dst = some d ∧ e.2.1 = some d ∧ QOpA P n ops o d e.2.2 Hs (ov top A f)
def Dst (ops : Array Oper) (L : List Ent) : Prop := ∀ e ∈ L, dstOf ops e.1 = e.2.1
theorem STQ.norm {ops : Array Oper} {T : (Nat → AV) → Heap → Prop} {Hs : Heap} {S : Nat → Bool} : ∀ {r : List Item} {L : List Ent}, Vld P n ops L Hs S f → Dst ops L → STQ P n ops f T r L Hs (ov top L f) →
    ∃ p q M, r = p ++ q ∧ (∀ x ∈ p, x.2 = none) ∧ (∀ x ∈ q.head?, x.2 ≠ none) ∧ M.map (·.1) = p.map (·.1) ∧ Vld P n ops (L ++ M) Hs S f ∧ Dst ops (L ++ M) ∧ STQ P n ops f T q (L ++ M) Hs (ov top (L ++ M) f)
  | [], L, hv, hd, h => ⟨[], [], [], rfl, fun _ h => (by cases h), fun _ h => (by cases h), rfl, by rwa [List.append_nil], by rwa [List.append_nil], by rwa [List.append_nil]⟩
  | (e, some R) :: r, L, hv, hd, h => ⟨[], (e, some R) :: r, [], rfl, fun _ h => (by cases h), fun x hx => by simp at hx; subst hx; simp, rfl, by rwa [List.append_nil], by rwa [List.append_nil], by rwa [List.append_nil]⟩
  | (i, none) :: r, L, hv, hd, h => by
    obtain ⟨o, d, v, h1, h2, h3, h4⟩ := h
    have hv' : Vld P n ops (L ++ [(i, some d, v)]) Hs S f := by
      intro A e B hL hS
      rcases List.append_eq_append_iff.1 hL with ⟨C, g1, g2⟩ | ⟨C, g1, g2⟩
      · cases C with
        | nil =>
          simp only [List.nil_append, List.cons.injEq] at g2
          obtain ⟨rfl, _⟩ := g2
          rw [List.append_nil] at g1; subst g1
          exact ⟨o, d, h1, h2, rfl, h3⟩
        | cons c C => simp at g2
      · cases C with
        | nil =>
          simp only [List.nil_append, List.cons.injEq] at g2
          obtain ⟨rfl, _⟩ := g2
          rw [List.append_nil] at g1; subst g1
          exact ⟨o, d, h1, h2, rfl, h3⟩
        | cons c C =>
          simp only [List.cons_append, List.cons.injEq] at g2
          obtain ⟨rfl, g2⟩ := g2
          exact hv A e C g1 hS
    have hd' : Dst ops (L ++ [(i, some d, v)]) := by
      intro e he
      rcases List.mem_append.1 he with he | he
      · exact hd e he
      · simp at he; subst he; simp [dstOf, h1, h2]
    have h4' : STQ P n ops f T r (L ++ [(i, some d, v)]) Hs (ov top (L ++ [(i, some d, v)]) f) := by
      rw [ov_app]; exact h4
    obtain ⟨p, q, M, g1, g2, g3, g4, g5, g6, g7⟩ := STQ.norm hv' hd' h4'
    refine ⟨(i, none) :: p, q, (i, some d, v) :: M, by rw [g1]; rfl, fun x hx => ?_, g3, by simp [g4], ?_, ?_, ?_⟩
    · rcases List.mem_cons.1 hx with rfl | hx
      · rfl
      · exact g2 x hx
    · simpa using g5
    · simpa using g6
    · simpa using g7
theorem mem_split {α : Type} {a : α} {l : List α} (h : a ∈ l) : ∃ A B, l = A ++ a :: B := List.append_of_mem h
theorem AWP.region_stg {rid : Nat} {ops : Array Oper} (hm : P.follows .mixedOrders = true) (hback : backB ops = true) (ord : List Item) (tail : List Nat) (hq : stgB ops ord tail = true)
    (h : STQ P n ops f (fun g H' => AOps P n ops (Q .normal) tail g H') ord [] H f) : AWP P n (.region rid ops true) Q f H := by
  simp only [stgB, Bool.and_eq_true, List.all_eq_true, List.mem_range] at hq
  obtain ⟨⟨⟨⟨⟨q1, q2⟩, q3⟩, q4⟩, q5⟩, q6⟩ := hq
  have beqf : ∀ x y : Nat, x ≠ y → Nat.beq x y = false := fun x y h => by
    cases hb : Nat.beq x y with
    | false => rfl
    | true => exact absurd (Nat.eq_of_beq_eq_true hb) h
  let I : (Nat → Bool) → (Nat → AV) → Heap → Prop := fun S f' H' => Dn ops S ∧
    ((∃ pre rest L Hs, ord = pre ++ rest ∧ (∀ x ∈ rest.head?, x.2 ≠ none) ∧ L.map (·.1) = pre.map (·.1) ∧ (∀ x ∈ rest, S x.1 = false) ∧ (∀ c ∈ tail, S c = false) ∧ Vld P n ops L Hs S f ∧ Dst ops L ∧ (∀ t, f' t = ov S L f t) ∧ Mono Hs H' ∧ STQ P n ops f (fun g H' => AOps P n ops (Q .normal) tail g H') rest L Hs (ov top L f)) ∨
     (∃ A B, tail = A ++ B ∧ (∀ x ∈ ord, S x.1 = true) ∧ (∀ c ∈ A, S c = true) ∧ (∀ c ∈ B, S c = false) ∧ AOps P n ops (Q .normal) B f' H'))
  have hdn : ∀ (S : Nat → Bool) i o, Dn ops S → ops[i]? = some o → (∀ e ∈ o.after, Region.binds .any e = true → S e.on = true) → Dn ops (fun k => Nat.beq k i || S k) := by
    intro S i o hD ho hr j oj hj hS e he hb
    by_cases hji : j = i
    · subst hji
      rw [ho] at hj; cases hj
      simp [hr e he hb]
    · have hS : (Nat.beq j i || S j) = true := hS
      rw [beqf _ _ hji, Bool.false_or] at hS
      simp [hD j oj hj hS e he hb]
  have befD : ∀ (S : Nat → Bool), Dn ops S → ∀ i j, bfB ops i j = true → S i = true → S j = true := by
    intro S hD i j hb hS
    unfold bfB at hb
    rcases Nat.lt_or_ge i (befL ops.toList []).length with h | h
    · rw [List.getD_eq_getElem?_getD, List.getElem?_eq_getElem h, Option.getD_some] at hb
      exact bef_spec hD ops.toList [] (fun j => by simp) (fun i m j hi => by simp at hi) i _ j (List.getElem?_eq_getElem h) hb hS
    · rw [List.getD_eq_getElem?_getD, List.getElem?_eq_none h, Option.getD_none] at hb
      simp at hb
  -- into the first phase
  have enter : ∀ S f' H' pre r L Hs, Dn ops S → ord = pre ++ r → L.map (·.1) = pre.map (·.1) → (∀ x ∈ r, S x.1 = false) → (∀ c ∈ tail, S c = false) → Vld P n ops L Hs S f → Dst ops L → (∀ t, f' t = ov S L f t) → Mono Hs H' → STQ P n ops f (fun g H' => AOps P n ops (Q .normal) tail g H') r L Hs (ov top L f) → I S f' H' := by
    intro S f' H' pre r L Hs hD e1 e2 e3 e4 e5 e6 e7 e8 e9
    obtain ⟨p, q, M, g1, g2, g3, g4, g5, g6, g7⟩ := STQ.norm e5 e6 e9
    subst g1
    refine ⟨hD, .inl ⟨pre ++ p, q, L ++ M, Hs, by rw [e1, List.append_assoc], g3, by rw [List.map_append, List.map_append, e2, g4], fun x hx => e3 x (by simp [hx]), e4, g5, g6, fun t => ?_, e8, g7⟩⟩
    rw [e7 t, ov_app, ov_none M]
    intro e he
    have : e.1 ∈ M.map (·.1) := List.mem_map_of_mem he
    rw [g4] at this
    obtain ⟨x, hx, h⟩ := List.mem_map.1 this
    rw [← h]; exact e3 x (by simp [hx])
  refine AWP.region_any hm hback I (enter _ _ _ [] ord [] H (fun _ _ _ h => (by cases h)) rfl rfl (fun _ _ => rfl) (fun _ _ => rfl) (fun A e B h => by simp at h) (fun _ h => by cases h) (fun _ => rfl) (Mono.refl _) h) ?_ ?_
  · -- a step
    intro S i o ho hSi hr f' H' ⟨hD, hcase⟩
    have hi : i < ops.size := by
      rcases Nat.lt_or_ge i ops.size with h' | h'
      · exact h'
      · rw [Array.getElem?_eq_none h'] at ho; cases ho
    have hD' := hdn S i o hD ho hr
    have hSi' : (fun k => Nat.beq k i || S k) i = true := by simp
    have hbef : ∀ j, j ≠ i → bfB ops i j = true → S j = true := fun j hj hb => by
      have : (Nat.beq j i || S j) = true := befD _ hD' i j hb hSi'
      rwa [beqf _ _ hj, Bool.false_or] at this
    have hoth : ∀ x, x ≠ i → (fun k => Nat.beq k i || S k) x = S x := fun x hx => by show (Nat.beq x i || S x) = S x; rw [beqf _ _ hx, Bool.false_or]
    have mono : ∀ {K K' : (Nat → AV) → Heap → Prop}, (∀ f H, K f H → K' f H) → AOp P n o K f' H' → AOp P n o K' f' H' := fun hk h μ a w hs E =>
      Oper.wp_mono (fun a' w' ⟨μ', f2, H2, g1, g2, g3⟩ => ⟨μ', f2, H2, g1, g2, hk _ _ g3⟩) (fun _ _ _ _ h => h) (h μ a w hs E)
    -- the first of what is left of the tail
    have tailstep : ∀ A B, tail = A ++ i :: B → (∀ x ∈ ord, S x.1 = true) → (∀ c ∈ A, S c = true) → (∀ c ∈ B, S c = false) → (∀ c ∈ B, c ≠ i) → AOps P n ops (Q .normal) (i :: B) f' H' →
        (o.guard = none ∧ AOp P n o (I (fun k => Nat.beq k i || S k)) f' H') ∨
        (∃ j want oj d b, o.guard = some (j, want) ∧ ops[j]? = some oj ∧ oj.dst = some d ∧ f' d = gAV b ∧ (b = some want → AOp P n o (I (fun k => Nat.beq k i || S k)) f' H') ∧ (b ≠ some want → ∃ d', o.dst = some d' ∧ Nat.ble (d' + 1) n = true ∧ I (fun k => Nat.beq k i || S k) (upd f' d' (.tup [])) H')) := by
      intro A B hT hO hA hB hne hAO
      obtain ⟨o', ho', hAO⟩ := hAO
      rw [ho] at ho'; cases ho'
      have hI : ∀ f2 H2, AOps P n ops (Q .normal) B f2 H2 → I (fun k => Nat.beq k i || S k) f2 H2 := fun f2 H2 h =>
        ⟨hD', .inr ⟨A ++ [i], B, by rw [hT]; simp, fun x hx => by simp [hO x hx], fun c hc => by
          rcases List.mem_append.1 hc with hc | hc
          · simp [hA c hc]
          · simp at hc; simp [hc], fun c hc => by exact (hoth c (hne c hc)).trans (hB c hc), h⟩⟩
      rcases hAO with ⟨hg, hAO⟩ | ⟨j, want, oj, d, b, hg, hj, hd, hfb, h1, h2⟩
      · exact .inl ⟨hg, mono hI hAO⟩
      · refine .inr ⟨j, want, oj, d, b, hg, hj, hd, hfb, fun e => mono hI (h1 e), fun e => ?_⟩
        obtain ⟨d', hd', hn', h3⟩ := h2 e
        exact ⟨d', hd', hn', hI _ _ h3⟩
    have nb : ∀ {x y : Nat}, (!Nat.beq x y) = true → x ≠ y := fun h e => by subst e; simp at h
    rcases hcase with ⟨pre, rest, L, Hs, e1, e2, e3, e4, e5, e6, e7, e8, e9, e10⟩ | ⟨A, B, t1, t2, t3, t4, t5⟩
    · have hLord : ∀ e ∈ L, ∃ x ∈ pre, x.1 = e.1 := fun e he => by
        have : e.1 ∈ L.map (·.1) := List.mem_map_of_mem he
        rw [e3] at this
        exact List.mem_map.1 this
      by_cases hLi : ∃ e ∈ L, e.1 = i
      · -- an operation that is known
        obtain ⟨⟨i', dd, v⟩, hmem, rfl⟩ := hLi
        obtain ⟨A, B, hL⟩ := mem_split hmem
        obtain ⟨o', d, ho', hd, hdd, hop⟩ := e6 A (i', dd, v) B hL hSi
        simp only at hdd
        subst hdd
        simp only at ho hSi hr hi hD' hSi' hbef hoth tailstep ho' hd hop ⊢
        rw [ho] at ho'; cases ho'
        -- the items of the order
        obtain ⟨PA, x, PB, hp, hPA, hx, hPB⟩ : ∃ PA x PB, pre = PA ++ x :: PB ∧ PA.map (·.1) = A.map (·.1) ∧ x.1 = i' ∧ PB.map (·.1) = B.map (·.1) := by
          rw [hL, List.map_append, List.map_cons] at e3
          obtain ⟨P1, P2, k1, k2, k3⟩ := List.map_eq_append_iff.1 e3.symm
          obtain ⟨x, P3, k4, k5, k6⟩ := List.map_eq_cons_iff.1 k3
          exact ⟨P1, x, P3, by rw [k1, k4], k2, k5, k6⟩
        have hpair := prs_spec (p := pairB ops) (A := PA) (a := x) (B := PB ++ rest) (by rw [e1, hp] at q4; simpa using q4)
        have hA : ∀ e ∈ A, e.1 ≠ i' ∧ ∀ t ∈ touch ops i', e.2.1 = some t → S e.1 = true := fun e he => by
          have : e.1 ∈ A.map (·.1) := List.mem_map_of_mem he
          rw [← hPA] at this
          obtain ⟨y, hy, hy1⟩ := List.mem_map.1 this
          have hb := hpair.2 y hy
          simp only [pairB, Bool.and_eq_true, List.all_eq_true] at hb
          obtain ⟨⟨⟨⟨b1, b2⟩, b3⟩, b4⟩, b5⟩ := hb
          rw [hy1, hx] at b1 b2 b3
          have hne := nb b1
          refine ⟨hne, fun t ht hd => ?_⟩
          have h3 := b3 t ht
          have hds : dstOf ops e.1 = e.2.1 := e7 e (by rw [hL]; simp [he])
          rw [hds] at h3
          simp only [hd, Nat.beq_refl, Bool.not_true, Bool.false_or] at h3
          exact hbef e.1 hne h3
        have hB : ∀ e ∈ B, e.1 ≠ i' ∧ ∀ t ∈ touch ops i', e.2.1 = some t → S e.1 = false := fun e he => by
          have : e.1 ∈ B.map (·.1) := List.mem_map_of_mem he
          rw [← hPB] at this
          obtain ⟨y, hy, hy1⟩ := List.mem_map.1 this
          have hb := hpair.1 y (by simp [hy])
          simp only [pairB, Bool.and_eq_true, List.all_eq_true] at hb
          obtain ⟨⟨⟨⟨b1, b2⟩, b3⟩, b4⟩, b5⟩ := hb
          rw [hy1, hx] at b1 b2 b3
          have hne := nb b1
          refine ⟨hne.symm, fun t ht hd => ?_⟩
          have h2 := b2 t ht
          have hds : dstOf ops e.1 = e.2.1 := e7 e (by rw [hL]; simp [he])
          rw [hds] at h2
          simp only [hd, Nat.beq_refl, Bool.not_true, Bool.false_or] at h2
          cases hSe : S e.1 with
          | false => rfl
          | true => have := befD S hD e.1 i' h2 hSe; rw [hSi] at this; cases this
        have htouch : ∀ t, t ∈ tmpsOf o ++ guardSlot ops o ++ [d] → t ∈ touch ops i' := fun t ht => by
          simp only [touch, ho, hd, Option.toList]; exact ht
        have hval : ∀ t, t ∈ tmpsOf o ++ guardSlot ops o ++ [d] → f' t = ov top A f t := by
          intro t ht
          rw [e8 t, hL, ov_app]
          rw [ov_slot (S := S) (S' := fun _ => false) ((i', some d, v) :: B) _ (ov top A f) (ov_slot A f f rfl fun e he hd => (hA e he).2 t (htouch t ht) hd) fun e he hd => ?_]
          · exact congrFun (ov_none _ _ fun _ _ => rfl) t
          · rcases List.mem_cons.1 he with rfl | he
            · exact hSi
            · exact (hB e he).2 t (htouch t ht) hd
        have hnew : ∀ t, upd f' d v t = ov (fun k => Nat.beq k i' || S k) L f t := by
          intro t
          have hAc : ov (fun k => Nat.beq k i' || S k) A f = ov S A f := ov_congr A f fun e he => hoth e.1 (hA e he).1
          rw [hL, ov_app, hAc, ov, if_pos hSi']
          by_cases htd : t = d
          · subst htd
            rw [upd_eq, if_pos rfl]
            rw [ov_slot (S' := fun _ => false) B _ _ rfl fun e he hd => by
              exact (hoth e.1 (hB e he).1).trans ((hB e he).2 t (htouch t (by simp)) hd)]
            rw [ov_none B _ fun _ _ => rfl]; simp [updO, upd_eq]
          · rw [upd_eq, if_neg htd, e8 t, hL, ov_app, ov, if_neg (by rw [hSi]; decide)]
            exact (ov_slot B _ _ (by simp only [updO]; rw [upd_eq, if_neg htd]) fun e he _ => hoth e.1 (hB e he).1).symm
        have hneO : ∀ x ∈ rest, x.1 ≠ i' := fun y hy he => by
          have hb := hpair.1 y (by simp [hy])
          simp only [pairB, Bool.and_eq_true] at hb
          exact nb hb.1.1.1.1 (by rw [hx, he])
        have hneT : ∀ c ∈ tail, c ≠ i' := fun c hc he => by
          have := q6 c hc x (by rw [e1, hp]; simp)
          exact nb this.1 (by rw [he, hx])
        have hI : ∀ f2 H2, f2 = upd f' d v ∧ Mono Hs H2 → I (fun k => Nat.beq k i' || S k) f2 H2 := fun f2 H2 ⟨e, m⟩ =>
          ⟨hD', .inl ⟨pre, rest, L, Hs, e1, e2, e3, fun y hy => (hoth _ (hneO y hy)).trans (e4 y hy), fun c hc => (hoth _ (hneT c hc)).trans (e5 c hc), fun A' e' B' hL' hS' => by
            refine e6 A' e' B' hL' ?_
            have hS' : (Nat.beq e'.1 i' || S e'.1) = false := hS'
            rw [Bool.or_eq_false_iff] at hS'; exact hS'.2, e7, by rw [e]; exact hnew, m, e10⟩⟩
        rcases hop with ⟨hg, hop⟩ | ⟨j, want, oj, dj, b, hg, hj, hdj, hfb, hyes, hno⟩
        · exact .inl ⟨hg, mono (fun f2 H2 h => hI f2 H2 ⟨h.1, e9.trans h.2⟩) (hop H' f' H' (fun t ht => hval t (by have := List.elem_iff.1 ht; simp [this])) (Mono.refl _) e9)⟩
        · refine .inr ⟨j, want, oj, dj, b, hg, hj, hdj, ?_, fun hb => mono (fun f2 H2 h => hI f2 H2 ⟨h.1, e9.trans h.2⟩) (hyes hb H' f' H' (fun t ht => hval t (by have := List.elem_iff.1 ht; simp [this])) (Mono.refl _) e9), fun hb => ?_⟩
          · rw [hval dj (by simp [guardSlot, hg, hj, hdj])]; exact hfb
          · obtain ⟨hv, hn⟩ := hno hb
            exact ⟨d, hd, hn, hI _ _ ⟨by rw [hv], e9⟩⟩
      · have hnp : ∀ x ∈ pre, x.1 ≠ i := fun x hx he => by
          have : x.1 ∈ pre.map (·.1) := List.mem_map_of_mem hx
          rw [← e3] at this
          obtain ⟨e, h1, h2⟩ := List.mem_map.1 this
          exact hLi ⟨e, h1, by rw [h2, he]⟩
        rcases Bool.or_eq_true _ _ ▸ q1 i hi with hio | hit
        · -- an effect
          obtain ⟨x, hx, hxi⟩ := List.mem_map.1 (List.elem_iff.1 hio)
          have hxr : x ∈ rest := by
            rw [e1] at hx
            rcases List.mem_append.1 hx with hx | hx
            · exact absurd hxi (hnp x hx)
            · exact hx
          match rest, hxr, e2, e4, e10, e1 with
          | y :: r, hxr, e2, e4, e10, e1 =>
            obtain ⟨ye, yR⟩ := y
            cases yR with
            | none => exact absurd rfl (e2 (ye, none) (by simp))
            | some R =>
              have hpair := prs_spec (p := pairB ops) (A := pre) (a := (ye, some R)) (B := r) (by rw [e1] at q4; exact q4)
              have hye : ye = i := by
                rcases List.mem_cons.1 hxr with rfl | hxr
                · exact hxi
                · have hb := hpair.1 x hxr
                  simp only [pairB, Bool.and_eq_true] at hb
                  obtain ⟨⟨⟨⟨b1, b2⟩, b3⟩, b4⟩, b5⟩ := hb
                  rw [hxi] at b1 b4
                  have h1 := hbef ye (nb b1) b4
                  have h2 := e4 (ye, some R) (by simp)
                  simp only at h2
                  rw [h1] at h2; cases h2
              subst hye
              obtain ⟨o', ho', hg, hE⟩ := e10
              rw [ho] at ho'; cases ho'
              have hpre : ∀ e ∈ L, e.1 ≠ ye ∧ (∀ t ∈ touch ops ye, e.2.1 = some t → S e.1 = true) ∧ (S e.1 = false → R.elem e.1 = true) := fun e he => by
                obtain ⟨z, hz, hz1⟩ := hLord e he
                have hb := hpair.2 z hz
                simp only [pairB, Bool.and_eq_true, List.all_eq_true] at hb
                obtain ⟨⟨⟨⟨b1, b2⟩, b3⟩, b4⟩, b5⟩ := hb
                rw [hz1] at b1 b3 b5
                have hne := nb b1
                refine ⟨hne, fun t ht hd => ?_, fun hSe => ?_⟩
                · have h3 := b3 t ht
                  rw [e7 e he] at h3
                  simp only [hd, Nat.beq_refl, Bool.not_true, Bool.false_or] at h3
                  exact hbef e.1 hne h3
                · rw [Bool.or_eq_true] at b5
                  rcases b5 with b5 | b5
                  · rw [hbef e.1 hne b5] at hSe; cases hSe
                  · exact b5
              have hval : ∀ t, (tmpsOf o).elem t = true → f' t = ov top L f t := fun t ht => by
                rw [e8 t]
                exact ov_slot L f f rfl fun e he hd => (hpre e he).2.1 t (by simp only [touch, ho]; have := List.elem_iff.1 ht; simp [this]) hd
              refine .inl ⟨hg, mono (fun f2 H2 h => ?_) (hE f' H' hval e9)⟩
              obtain ⟨v, hf2, hmr, hrest⟩ := h
              refine enter _ _ _ (pre ++ [(ye, some R)]) r (L ++ [(ye, o.dst, v)]) H2 hD' (by rw [e1]; simp) (by rw [List.map_append, List.map_append, e3]; rfl) (fun z hz => ?_) (fun c hc => ?_) ?_ ?_ (fun t => ?_) (Mono.refl _) (by rw [ov_app]; exact hrest)
              · have hb := hpair.1 z hz
                simp only [pairB, Bool.and_eq_true] at hb
                exact (hoth z.1 (nb hb.1.1.1.1).symm).trans (e4 z (by simp [hz]))
              · have := q6 c hc (ye, some R) (by rw [e1]; simp)
                exact (hoth c (nb this.1)).trans (e5 c hc)
              · intro A e B hL hS
                have hS2 : (Nat.beq e.1 ye || S e.1) = false := hS
                rw [Bool.or_eq_false_iff] at hS2
                have hLe : ∃ C, L = A ++ e :: C := by
                  rcases List.append_eq_append_iff.1 hL with ⟨C, g1, g2⟩ | ⟨C, g1, g2⟩
                  · cases C with
                    | nil => simp only [List.nil_append, List.cons.injEq] at g2; rw [← g2.1] at hS2; simp at hS2
                    | cons c C => simp at g2
                  · cases C with
                    | nil => simp only [List.nil_append, List.cons.injEq] at g2; rw [g2.1] at hS2; simp at hS2
                    | cons c C => simp only [List.cons_append, List.cons.injEq] at g2; obtain ⟨rfl, g2⟩ := g2; exact ⟨C, g1⟩
                obtain ⟨C, hLe⟩ := hLe
                obtain ⟨oe, de, k1, k2, kd, k3⟩ := e6 A e C hLe hS2.2
                rcases hmr with hmr | hmr
                · exact ⟨oe, de, k1, k2, kd, k3.mono (e9.trans hmr)⟩
                · obtain ⟨oe', de', k4, kd', k5⟩ := hmr.spec A e C hLe ((hpre e (by rw [hLe]; simp)).2.2 hS2.2)
                  rw [k1] at k4; cases k4
                  rw [kd] at kd'; cases kd'
                  exact ⟨oe, de, k1, k2, kd, k5⟩
              · intro e he
                rcases List.mem_append.1 he with he | he
                · exact e7 e he
                · simp at he; subst he; simp [dstOf, ho]
              · rw [hf2, ov_app, ov_congr L f fun e he => hoth e.1 (hpre e he).1, ov, if_pos hSi', ov]
                cases hdo : o.dst with
                | none => exact e8 t
                | some d => simp only [updO]; rw [upd_eq, upd_eq, e8 t]
        · -- the tail begins
          have hmt := List.elem_iff.1 hit
          have hall : ∀ x ∈ ord, S x.1 = true := fun x hx => by
            have := q6 i hmt x hx
            exact hbef x.1 (nb this.1).symm this.2
          have hrest : rest = [] := by
            cases rest with
            | nil => rfl
            | cons y r => have h1 := hall y (by rw [e1]; simp); rw [e4 y (by simp)] at h1; cases h1
          subst hrest
          obtain ⟨A, B, hT⟩ := mem_split hmt
          have hp := prs_spec (p := fun c c' => !Nat.beq c c' && bfB ops c' c) (A := A) (a := i) (B := B) (by rw [hT] at q5; exact q5)
          have hA0 : A = [] := by
            cases A with
            | nil => rfl
            | cons c A =>
              have := hp.2 c (by simp)
              rw [Bool.and_eq_true] at this
              have h1 := hbef c (nb this.1) this.2
              rw [e5 c (by rw [hT]; simp)] at h1; cases h1
          subst hA0
          have hff : f' = ov top L f := by
            funext t
            rw [e8 t]
            exact ov_slot L f f rfl fun e he _ => by
              obtain ⟨z, hz, hz1⟩ := hLord e he
              rw [← hz1]; exact hall z (by rw [e1]; simp [hz])
          have hA := e10 H' e9
          rw [← hff, hT] at hA
          exact tailstep [] B hT hall (fun _ h => by cases h) (fun c hc => e5 c (by rw [hT]; simp [hc])) (fun c hc he => by
            have := hp.1 c hc
            rw [Bool.and_eq_true] at this
            exact nb this.1 he.symm) hA
    · -- the tail goes on
      have hit : i ∈ tail := by
        rcases Bool.or_eq_true _ _ ▸ q1 i hi with h | h
        · obtain ⟨x, hx, hxi⟩ := List.mem_map.1 (List.elem_iff.1 h)
          have := t2 x hx
          rw [hxi, hSi] at this; cases this
        · exact List.elem_iff.1 h
      have hiB : i ∈ B := by
        rw [t1] at hit
        rcases List.mem_append.1 hit with h | h
        · rw [t3 i h] at hSi; cases hSi
        · exact h
      obtain ⟨C, D, hB⟩ := mem_split hiB
      have hp := prs_spec (p := fun c c' => !Nat.beq c c' && bfB ops c' c) (A := A ++ C) (a := i) (B := D) (by rw [t1, hB] at q5; simpa using q5)
      have hC : C = [] := by
        cases C with
        | nil => rfl
        | cons c C =>
          have := hp.2 c (by simp)
          rw [Bool.and_eq_true] at this
          have h1 := hbef c (nb this.1) this.2
          rw [t4 c (by rw [hB]; simp)] at h1; cases h1
      subst hC
      rw [List.nil_append] at hB
      subst hB
      exact tailstep A D t1 t2 t3 (fun c hc => t4 c (by simp [hc])) (fun c hc he => by
        have := hp.1 c hc
        rw [Bool.and_eq_true] at this
        exact nb this.1 he.symm) t5
  · -- the end
    intro S f' H' hall ⟨hD, hcase⟩
    rcases hcase with ⟨pre, rest, L, Hs, e1, e2, e3, e4, e5, e6, e7, e8, e9, e10⟩ | ⟨A, B, t1, t2, t3, t4, t5⟩
    · have hrest : rest = [] := by
        cases rest with
        | nil => rfl
        | cons y r =>
          have h1 := e4 y (by simp)
          rw [hall y.1 (Nat.blt_eq ▸ (q2 y (by rw [e1]; simp)))] at h1; cases h1
      have htail : tail = [] := by
        cases tail with
        | nil => rfl
        | cons c B =>
          have h1 := e5 c (by simp)
          rw [hall c (Nat.blt_eq ▸ (q3 c (by simp)))] at h1; cases h1
      subst hrest htail
      have hff : f' = ov top L f := by
        funext t
        rw [e8 t]
        refine ov_slot L f f rfl fun e he _ => ?_
        have : e.1 ∈ L.map (·.1) := List.mem_map_of_mem he
        rw [e3] at this
        obtain ⟨z, hz, hz1⟩ := List.mem_map.1 this
        rw [← hz1]; exact hall z.1 (Nat.blt_eq ▸ (q2 z (by rw [e1]; simp [hz])))
      have := e10 H' e9
      rw [← hff] at this
      exact this
    · have hB : B = [] := by
        cases B with
        | nil => rfl
        | cons c B =>
          have h1 := t4 c (by simp)
          rw [hall c (Nat.blt_eq ▸ (q3 c (by rw [t1]; simp)))] at h1; cases h1
      subst hB
      exact t5
def ovR : List Ent → (Nat → AV) → Nat → AV
  | [], f => f
  | e :: L, f => updO (ovR L f) e.2.1 e.2.2
theorem ovR_eq : ∀ (L : List Ent) (f : Nat → AV), ovR L f = ov top L.reverse f
  | [], _ => rfl
  | e :: L, f => by rw [List.reverse_cons, ov_app, ← ovR_eq L f]; rfl
def RevR (P : Program) (n : Nat) (ops : Array Oper) (R : List Nat) (H2 : Heap) : List Ent → (Nat → AV) → Prop
  | [], _ => True
  | e :: L, f0 => (R.elem e.1 = true → ∃ o d, ops[e.1]? = some o ∧ e.2.1 = some d ∧ QOpA P n ops o d e.2.2 H2 (ovR L f0)) ∧ RevR P n ops R H2 L f0
theorem RevR.nil {ops : Array Oper} {R : List Nat} {H2 : Heap} {f0 : Nat → AV} : RevR P n ops R H2 [] f0 := trivial
theorem RevR.skip {ops : Array Oper} {R : List Nat} {H2 : Heap} {i : Nat} {dv : Option Nat × AV} {L : List Ent} {f0 : Nat → AV} (h : R.elem i = false) (r : RevR P n ops R H2 L f0) : RevR P n ops R H2 ((i, dv) :: L) f0 := ⟨fun h2 => (by simp only at h2; rw [h] at h2; cases h2), r⟩
theorem RevR.cons {ops : Array Oper} {R : List Nat} {H2 : Heap} {i d : Nat} {v : AV} {o : Oper} {L : List Ent} {f0 : Nat → AV} (ho : ops[i]? = some o) (h : QOpA P n ops o d v H2 (ovR L f0)) (r : RevR P n ops R H2 L f0) : RevR P n ops R H2 ((i, some d, v) :: L) f0 := ⟨fun _ => ⟨o, d, ho, rfl, h⟩, r⟩
theorem RevR.none {ops : Array Oper} {H2 : Heap} : ∀ {L : List Ent} {f0 : Nat → AV}, RevR P n ops [] H2 L f0
  | [], _ => trivial
  | _ :: _, _ => ⟨fun h => by simp at h, RevR.none⟩
theorem Reval.snoc {ops : Array Oper} {R : List Nat} {H2 : Heap} {e : Ent} : ∀ {L : List Ent} {g : Nat → AV}, Reval P n ops R H2 L g → (R.elem e.1 = true → ∃ o d, ops[e.1]? = some o ∧ e.2.1 = some d ∧ QOpA P n ops o d e.2.2 H2 (ov top L g)) → Reval P n ops R H2 (L ++ [e]) g
  | [], _, _, h => ⟨h, trivial⟩
  | x :: L, g, h, h2 => ⟨h.1, Reval.snoc h.2 fun hR => by have := h2 hR; rw [ov_top_cons] at this; exact this⟩
theorem RevR.to {ops : Array Oper} {R : List Nat} {H2 : Heap} : ∀ {L : List Ent} {f0 : Nat → AV}, RevR P n ops R H2 L f0 → Reval P n ops R H2 L.reverse f0
  | [], _, _ => trivial
  | e :: L, f0, h => by
    rw [List.reverse_cons]
    exact Reval.snoc h.2.to fun hR => by have := h.1 hR; rw [ovR_eq] at this; exact this
def STR (P : Program) (n : Nat) (ops : Array Oper) (f0 : Nat → AV) (T : (Nat → AV) → Heap → Prop) : List Item → List Ent → Heap → (Nat → AV) → Prop
  | [], _, Hs, g => ∀ H', Mono Hs H' → T g H'
  | (i, none) :: r, L, Hs, g => ∃ o d v, ops[i]? = some o ∧ o.dst = some d ∧ QOpA P n ops o d v Hs g ∧ STR P n ops f0 T r ((i, some d, v) :: L) Hs (upd g d v)
  | (e, some R) :: r, L, Hs, g => ∃ o, ops[e]? = some o ∧ o.guard = none ∧ ∀ f' H', (∀ t, (tmpsOf o).elem t = true → f' t = g t) → Mono Hs H' →
      AOp P n o (fun f2 H2 => ∃ v, f2 = updO f' o.dst v ∧ (Mono H' H2 ∨ RevR P n ops R H2 L f0) ∧ STR P n ops f0 T r ((e, o.dst, v) :: L) H2 (updO g o.dst v)) f' H'
theorem STR.to {ops : Array Oper} {f0 : Nat → AV} {T : (Nat → AV) → Heap → Prop} : ∀ {r : List Item} {L : List Ent} {Hs : Heap} {g : Nat → AV}, STR P n ops f0 T r L Hs g → STQ P n ops f0 T r L.reverse Hs g
  | [], _, _, _, h => h
  | (i, none) :: r, L, Hs, g, ⟨o, d, v, h1, h2, h3, h4⟩ => ⟨o, d, v, h1, h2, h3, by have := STR.to h4; rwa [List.reverse_cons] at this⟩
  | (e, some R) :: r, L, Hs, g, ⟨o, ho, hg, h⟩ => by
    refine ⟨o, ho, hg, fun f' H' a b μ c w hs E => Oper.wp_mono (fun a' w' hx => ?_) (fun _ _ _ _ h => h) (h f' H' a b μ c w hs E)⟩
    obtain ⟨μ', f2, H2, g1, g2, v, k1, k2, k3⟩ := hx
    have k4 := STR.to k3
    rw [List.reverse_cons] at k4
    exact ⟨μ', f2, H2, g1, g2, v, k1, k2.imp id RevR.to, k4⟩
theorem STR.op {ops : Array Oper} {f0 g : Nat → AV} {T : (Nat → AV) → Heap → Prop} {r : List Item} {L : List Ent} {i d : Nat} {v : AV} {o : Oper} (ho : ops[i]? = some o) (hd : o.dst = some d) (h : QOpA P n ops o d v H g) (rest : STR P n ops f0 T r ((i, some d, v) :: L) H (upd g d v)) : STR P n ops f0 T ((i, none) :: r) L H g := ⟨o, d, v, ho, hd, h, rest⟩
theorem STR.eff {ops : Array Oper} {f0 g : Nat → AV} {T : (Nat → AV) → Heap → Prop} {r : List Item} {R : List Nat} {L : List Ent} {e d : Nat} {o : Oper} (ho : ops[e]? = some o) (hd : o.dst = some d) (hg : o.guard = none)
    (h : ∀ f' H', (∀ t, (tmpsOf o).elem t = true → f' t = g t) → Mono H H' → AOp P n o (fun f2 H2 => ∃ v, f2 = upd f' d v ∧ (Mono H' H2 ∨ RevR P n ops R H2 L f0) ∧ STR P n ops f0 T r ((e, some d, v) :: L) H2 (upd g d v)) f' H') : STR P n ops f0 T ((e, some R) :: r) L H g := ⟨o, ho, hg, by rw [hd]; exact h⟩
theorem STR.st {ops : Array Oper} {f0 g : Nat → AV} {T : (Nat → AV) → Heap → Prop} {r : List Item} {R : List Nat} {L : List Ent} {e : Nat} {o : Oper} (ho : ops[e]? = some o) (hd : o.dst = none) (hg : o.guard = none)
    (h : ∀ f' H', (∀ t, (tmpsOf o).elem t = true → f' t = g t) → Mono H H' → AOp P n o (fun f2 H2 => f2 = f' ∧ (Mono H' H2 ∨ RevR P n ops R H2 L f0) ∧ STR P n ops f0 T r ((e, none, .undef) :: L) H2 g) f' H') : STR P n ops f0 T ((e, some R) :: r) L H g := ⟨o, ho, hg, fun f' H' a b μ c w hs E => by
      rw [hd]
      exact Oper.wp_mono (fun a' w' ⟨μ', f2, H2, g1, g2, g3⟩ => ⟨μ', f2, H2, g1, g2, .undef, g3⟩) (fun _ _ _ _ h => h) (h f' H' a b μ c w hs E)⟩
theorem STR.done {ops : Array Oper} {f0 g : Nat → AV} {T : (Nat → AV) → Heap → Prop} {L : List Ent} (h : ∀ H', Mono H H' → T g H') : STR P n ops f0 T [] L H g := h
theorem AWP.region_str {rid : Nat} {ops : Array Oper} (hm : P.follows .mixedOrders = true) (hback : backB ops = true) (ord : List Item) (tail : List Nat) (hq : stgB ops ord tail = true)
    (h : STR P n ops f (fun g H' => AOps P n ops (Q .normal) tail g H') ord [] H f) : AWP P n (.region rid ops true) Q f H :=
  .region_stg hm hback ord tail hq h.to
end
end Go.AH
namespace Go.AH
variable [Globs]
set_option linter.unusedSectionVars false
open Go
end Go.AH
namespace Go.AH
variable [Globs]
set_option linter.unusedSectionVars false
open Go
abbrev New := Nat × Nat × AB
def NeA (e : New) : List New → Prop
  | [] => True
  | x :: l => (Nat.beq x.1 e.1 = false ∧ x.2.1 ≠ e.2.1) ∧ NeA e l
def FrA (H : Heap) : List New → Prop
  | [] => True
  | e :: l => H e.2.1 = none ∧ NeA e l ∧ FrA H l
def HSf (A : List New) (H : Heap) (S : Nat → Bool) : Heap := fun j => match A.find? fun e => Nat.beq e.2.1 j with | some e => some (if S e.1 = true then e.2.2 else .res) | none => H j
theorem NeA.mem {e x : New} : ∀ {l : List New}, NeA e l → x ∈ l → Nat.beq x.1 e.1 = false ∧ x.2.1 ≠ e.2.1
  | _ :: l, h, hx => by
    rcases List.mem_cons.1 hx with rfl | hx
    · exact h.1
    · exact NeA.mem h.2 hx
theorem FrA.none {H : Heap} {e : New} : ∀ {A : List New}, FrA H A → e ∈ A → H e.2.1 = none
  | _ :: _, h, hx => by
    rcases List.mem_cons.1 hx with rfl | hx
    · exact h.1
    · exact FrA.none h.2.2 hx
theorem FrA.inj {H : Heap} {e x : New} : ∀ {A : List New}, FrA H A → e ∈ A → x ∈ A → (e.2.1 = x.2.1 ∨ e.1 = x.1) → e = x
  | a :: l, h, he, hx, hh => by
    rcases List.mem_cons.1 he with rfl | he2
    · rcases List.mem_cons.1 hx with rfl | hx2
      · rfl
      · have := NeA.mem h.2.1 hx2
        rcases hh with hh | hh
        · exact absurd hh.symm this.2
        · rw [hh] at this; simp at this
    · rcases List.mem_cons.1 hx with rfl | hx2
      · have := NeA.mem h.2.1 he2
        rcases hh with hh | hh
        · exact absurd hh this.2
        · rw [hh] at this; simp at this
      · exact FrA.inj h.2.2 he2 hx2 hh
theorem HSf_mem {A : List New} {H : Heap} (hA : FrA H A) {S : Nat → Bool} {e : New} (he : e ∈ A) : HSf A H S e.2.1 = some (if S e.1 = true then e.2.2 else .res) := by
  unfold HSf
  cases hf : A.find? fun x => Nat.beq x.2.1 e.2.1 with
  | none => have := List.find?_eq_none.1 hf e he; simp at this
  | some x =>
    have h1 := List.find?_some hf
    have h2 := List.mem_of_find?_eq_some hf
    have := hA.inj h2 he (.inl (by simpa using h1))
    subst this; rfl
theorem HSf_not {A : List New} {H : Heap} {S : Nat → Bool} {j : Nat} (h : ∀ e ∈ A, e.2.1 ≠ j) : HSf A H S j = H j := by
  unfold HSf
  cases hf : A.find? fun x => Nat.beq x.2.1 j with
  | none => rfl
  | some x =>
    have h1 := List.find?_some hf
    exact absurd (by simpa using h1) (h x (List.mem_of_find?_eq_some hf))
theorem HSf_mono {A : List New} {H : Heap} (hA : FrA H A) {S : Nat → Bool} {H' : Heap} (m : Mono (HSf A H S) H') : Mono H H' := fun j C hj => m j C (by
  rw [HSf_not]; exact hj
  intro e he h
  rw [← h, hA.none he] at hj; cases hj)
theorem HSf_same {A : List New} {H : Heap} {S S' : Nat → Bool} (h : ∀ e ∈ A, S' e.1 = S e.1) : HSf A H S' = HSf A H S := by
  funext j
  unfold HSf
  cases hf : A.find? fun x => Nat.beq x.2.1 j with
  | none => rfl
  | some x => simp only [h x (List.mem_of_find?_eq_some hf)]
section
variable {P : Program} {n : Nat} {Q : Exit → (Nat → AV) → Heap → Prop} {f : Nat → AV} {H : Heap}
theorem AWP.freshN {c : Code} (h : ∀ b, (∀ j, H (b + j) = none) → AWP P n c Q f H) : AWP P n c Q f H := by
  intro μ a w hs
  obtain ⟨N, hN⟩ := hs.hr.fin
  exact h N (fun j => hN _ (Nat.le_add_right _ _)) μ a w hs
theorem AWP.reserveA {c : Code} : ∀ {A : List New} {H : Heap}, FrA H A → AWP P n c Q f (HSf A H fun _ => false) → AWP P n c Q f H
  | [], _, _, h => h
  | e :: l, H, hA, h => by
    refine AWP.reserveA hA.2.2 ?_
    refine AWP.reserve (id := e.2.1) ?_ ?_
    · rw [HSf_not]
      · exact hA.1
      · intro x hx; exact (NeA.mem hA.2.1 hx).2
    · have e1 : updH (HSf l H fun _ => false) e.2.1 .res = HSf (e :: l) H fun _ => false := by
        funext j
        rw [updH_eq]
        by_cases hj : j = e.2.1
        · subst hj
          rw [if_pos rfl]
          have := HSf_mem hA (S := fun _ => false) (e := e) (.head _)
          rw [this]; rfl
        · rw [if_neg hj]
          unfold HSf
          rw [List.find?_cons_of_neg (by simp; exact fun g => hj g.symm)]
      rw [e1]; exact h
def NewOp (P : Program) (n : Nat) (o : Oper) (id : Nat) (B : AB) (d : Nat) (v : AV) (f : Nat → AV) : Prop :=
  ∀ f' H', (∀ t, (tmpsOf o).elem t = true → f' t = f t) → H' id = some .res → AOp P n o (fun f2 H2 => f2 = upd f' d v ∧ H2 = updH H' id B) f' H'
inductive QPAs (P : Program) (n : Nat) (ops : Array Oper) (A : List New) (H : Heap) (T : (Nat → AV) → Prop) (k : Nat) : Nat → (Nat → AV) → List (Nat × AV) → Prop
  | done {f : Nat → AV} (h : T f) : QPAs P n ops A H T k k f []
  | op {i d : Nat} {f : Nat → AV} {v : AV} {L : List (Nat × AV)} {o : Oper} (hi : ∀ e ∈ A, e.1 ≠ i) (ho : ops[i]? = some o) (hd : o.dst = some d) (h : QOpA P n ops o d v H f) (rest : QPAs P n ops A H T k (i + 1) (upd f d v) L) : QPAs P n ops A H T k i f ((d, v) :: L)
  | new {i d id : Nat} {f : Nat → AV} {v : AV} {B : AB} {L : List (Nat × AV)} {o : Oper} (hi : (i, id, B) ∈ A) (ho : ops[i]? = some o) (hd : o.dst = some d) (hg : o.guard = none) (hop : NewOp P n o id B d v f) (rest : QPAs P n ops A H T k (i + 1) (upd f d v) L) : QPAs P n ops A H T k i f ((d, v) :: L)
theorem QPAs.len {ops : Array Oper} {A : List New} {T : (Nat → AV) → Prop} {k b : Nat} {L : List (Nat × AV)} (h : QPAs P n ops A H T k b f L) : b + L.length = k := by
  induction h with
  | done h => rfl
  | op hi ho hd h rest ih => simp only [List.length_cons]; omega
  | new hi ho hd hg hop rest ih => simp only [List.length_cons]; omega
def QEAs (P : Program) (n : Nat) (ops : Array Oper) (A : List New) (H : Heap) (T : (Nat → AV) → Prop) (k i : Nat) (f : Nat → AV) : Prop := ∃ L, QPAs P n ops A H T k i f L
theorem QEAs.done {ops : Array Oper} {A : List New} {T : (Nat → AV) → Prop} {k : Nat} (h : T f) : QEAs P n ops A H T k k f := ⟨_, .done h⟩
def notinB (A : List New) (i : Nat) : Bool := A.all fun e => !Nat.beq e.1 i
theorem QEAs.op {ops : Array Oper} {A : List New} {T : (Nat → AV) → Prop} {k i d : Nat} {v : AV} {o : Oper} (hi : notinB A i = true) (ho : ops[i]? = some o) (hd : o.dst = some d) (h : QOpA P n ops o d v H f) (rest : QEAs P n ops A H T k (i + 1) (upd f d v)) : QEAs P n ops A H T k i f :=
  let ⟨_, r⟩ := rest; ⟨_, .op (fun e he g => by
    have := List.all_eq_true.1 hi e he
    rw [g] at this; simp at this) ho hd h r⟩
theorem QEAs.alloc {ops : Array Oper} {A : List New} {Z : List AV} {T : (Nat → AV) → Prop} {k i d id : Nat} {o : Oper} {t : TypeId} (hi : (i, id, .row 0 Z) ∈ A) (ho : ops[i]? = some o) (hd : o.dst = some d) (hg : o.guard = none) (hop : o.op = .alloc t) (hn : Nat.ble (d + 1) n = true) (hz : TZero P t Z) (rest : QEAs P n ops A H T k (i + 1) (upd f d (.ptr id 0 0))) : QEAs P n ops A H T k i f :=
  let ⟨_, r⟩ := rest; ⟨_, .new hi ho hd hg (fun f' H' _ hr => by
      obtain ⟨dst, op, ty, pos, after, guard⟩ := o
      simp only at hd hop
      subst hd hop
      exact AOp.alloc_at id (.inr hr) hn hz ⟨rfl, rfl⟩) r⟩
def EntAs (P : Program) (n : Nat) (ops : Array Oper) (A : List New) (H : Heap) (i : Nat) (o : Oper) (d : Nat) (v : AV) (f : Nat → AV) : Prop :=
  ((∀ e ∈ A, e.1 ≠ i) ∧ QOpA P n ops o d v H f) ∨ (∃ id B, (i, id, B) ∈ A ∧ NewOp P n o id B d v f ∧ o.guard = none)
theorem QPAs.get {ops : Array Oper} {A : List New} {T : (Nat → AV) → Prop} {k b : Nat} {L : List (Nat × AV)} (h : QPAs P n ops A H T k b f L) : T (cur L b (fun _ => true) f) ∧
    ∀ m d v, L[m]? = some (d, v) → ∃ o, ops[b + m]? = some o ∧ o.dst = some d ∧ EntAs P n ops A H (b + m) o d v (cur (L.take m) b (fun _ => true) f) := by
  induction h with
  | done h => exact ⟨h, fun m d v hm => by simp at hm⟩
  | op hi ho hd h rest ih =>
    rename_i i d0 f v0 L o
    refine ⟨by rw [cur, if_pos rfl]; exact ih.1, fun m d v hm => ?_⟩
    cases m with
    | zero =>
      simp only [List.getElem?_cons_zero, Option.some.injEq, Prod.mk.injEq] at hm
      obtain ⟨rfl, rfl⟩ := hm
      exact ⟨o, ho, hd, .inl ⟨hi, h⟩⟩
    | succ m =>
      obtain ⟨o', h1, h2, h3⟩ := ih.2 m d v (by simpa using hm)
      rw [show i + 1 + m = i + (m + 1) by omega] at h1 h3
      refine ⟨o', h1, h2, ?_⟩
      rw [List.take_succ_cons, cur, if_pos rfl]; exact h3
  | new hi ho hd hg hop rest ih =>
    rename_i i d0 id f v0 B L o
    refine ⟨by rw [cur, if_pos rfl]; exact ih.1, fun m d v hm => ?_⟩
    cases m with
    | zero =>
      simp only [List.getElem?_cons_zero, Option.some.injEq, Prod.mk.injEq] at hm
      obtain ⟨rfl, rfl⟩ := hm
      exact ⟨o, ho, hd, .inr ⟨id, B, hi, hop, hg⟩⟩
    | succ m =>
      obtain ⟨o', h1, h2, h3⟩ := ih.2 m d v (by simpa using hm)
      rw [show i + 1 + m = i + (m + 1) by omega] at h1 h3
      refine ⟨o', h1, h2, ?_⟩
      rw [List.take_succ_cons, cur, if_pos rfl]; exact h3
end
end Go.AH
namespace Go.AH
variable [Globs]
set_option linter.unusedSectionVars false
open Go
section
variable {P : Program} {n : Nat} {Q : Exit → (Nat → AV) → Heap → Prop} {f : Nat → AV} {H : Heap}
def StgI (P : Program) (n : Nat) (ops : Array Oper) (ord : List Item) (tail : List Nat) (Q : Exit → (Nat → AV) → Heap → Prop) (f : Nat → AV) (S : Nat → Bool) (f' : Nat → AV) (H' : Heap) : Prop := Dn ops S ∧
    ((∃ pre rest L Hs, ord = pre ++ rest ∧ (∀ x ∈ rest.head?, x.2 ≠ none) ∧ L.map (·.1) = pre.map (·.1) ∧ (∀ x ∈ rest, S x.1 = false) ∧ (∀ c ∈ tail, S c = false) ∧ Vld P n ops L Hs S f ∧ Dst ops L ∧ (∀ t, f' t = ov S L f t) ∧ Mono Hs H' ∧ STQ P n ops f (fun g H' => AOps P n ops (Q .normal) tail g H') rest L Hs (ov top L f)) ∨
     (∃ A B, tail = A ++ B ∧ (∀ x ∈ ord, S x.1 = true) ∧ (∀ c ∈ A, S c = true) ∧ (∀ c ∈ B, S c = false) ∧ AOps P n ops (Q .normal) B f' H'))
theorem stg_all {ops : Array Oper} (ord : List Item) (tail : List Nat) (hq : stgB ops ord tail = true) :
    (∀ S i o, ops[i]? = some o → S i = false → (∀ e ∈ o.after, Region.binds .any e = true → S e.on = true) → ∀ f' H', StgI P n ops ord tail Q f S f' H' → (o.guard = none ∧ AOp P n o (StgI P n ops ord tail Q f (fun k => Nat.beq k i || S k)) f' H') ∨
      (∃ j want oj d b, o.guard = some (j, want) ∧ ops[j]? = some oj ∧ oj.dst = some d ∧ f' d = gAV b ∧
        (b = some want → AOp P n o (StgI P n ops ord tail Q f (fun k => Nat.beq k i || S k)) f' H') ∧
        (b ≠ some want → ∃ d', o.dst = some d' ∧ Nat.ble (d' + 1) n = true ∧ StgI P n ops ord tail Q f (fun k => Nat.beq k i || S k) (upd f' d' (.tup [])) H'))) ∧
    (∀ S f' H', (∀ i, i < ops.size → S i = true) → StgI P n ops ord tail Q f S f' H' → Q .normal f' H') := by
  simp only [stgB, Bool.and_eq_true, List.all_eq_true, List.mem_range] at hq
  obtain ⟨⟨⟨⟨⟨q1, q2⟩, q3⟩, q4⟩, q5⟩, q6⟩ := hq
  have beqf : ∀ x y : Nat, x ≠ y → Nat.beq x y = false := fun x y h => by
    cases hb : Nat.beq x y with
    | false => rfl
    | true => exact absurd (Nat.eq_of_beq_eq_true hb) h
  let I : (Nat → Bool) → (Nat → AV) → Heap → Prop := StgI P n ops ord tail Q f
  have hdn : ∀ (S : Nat → Bool) i o, Dn ops S → ops[i]? = some o → (∀ e ∈ o.after, Region.binds .any e = true → S e.on = true) → Dn ops (fun k => Nat.beq k i || S k) := by
    intro S i o hD ho hr j oj hj hS e he hb
    by_cases hji : j = i
    · subst hji
      rw [ho] at hj; cases hj
      simp [hr e he hb]
    · have hS : (Nat.beq j i || S j) = true := hS
      rw [beqf _ _ hji, Bool.false_or] at hS
      simp [hD j oj hj hS e he hb]
  have befD : ∀ (S : Nat → Bool), Dn ops S → ∀ i j, bfB ops i j = true → S i = true → S j = true := by
    intro S hD i j hb hS
    unfold bfB at hb
    rcases Nat.lt_or_ge i (befL ops.toList []).length with h | h
    · rw [List.getD_eq_getElem?_getD, List.getElem?_eq_getElem h, Option.getD_some] at hb
      exact bef_spec hD ops.toList [] (fun j => by simp) (fun i m j hi => by simp at hi) i _ j (List.getElem?_eq_getElem h) hb hS
    · rw [List.getD_eq_getElem?_getD, List.getElem?_eq_none h, Option.getD_none] at hb
      simp at hb
  -- into the first phase
  have enter : ∀ S f' H' pre r L Hs, Dn ops S → ord = pre ++ r → L.map (·.1) = pre.map (·.1) → (∀ x ∈ r, S x.1 = false) → (∀ c ∈ tail, S c = false) → Vld P n ops L Hs S f → Dst ops L → (∀ t, f' t = ov S L f t) → Mono Hs H' → STQ P n ops f (fun g H' => AOps P n ops (Q .normal) tail g H') r L Hs (ov top L f) → I S f' H' := by
    intro S f' H' pre r L Hs hD e1 e2 e3 e4 e5 e6 e7 e8 e9
    obtain ⟨p, q, M, g1, g2, g3, g4, g5, g6, g7⟩ := STQ.norm e5 e6 e9
    subst g1
    refine ⟨hD, .inl ⟨pre ++ p, q, L ++ M, Hs, by rw [e1, List.append_assoc], g3, by rw [List.map_append, List.map_append, e2, g4], fun x hx => e3 x (by simp [hx]), e4, g5, g6, fun t => ?_, e8, g7⟩⟩
    rw [e7 t, ov_app, ov_none M]
    intro e he
    have : e.1 ∈ M.map (·.1) := List.mem_map_of_mem he
    rw [g4] at this
    obtain ⟨x, hx, h⟩ := List.mem_map.1 this
    rw [← h]; exact e3 x (by simp [hx])
  refine ⟨?_, ?_⟩
  · -- a step
    intro S i o ho hSi hr f' H' ⟨hD, hcase⟩
    have hi : i < ops.size := by
      rcases Nat.lt_or_ge i ops.size with h' | h'
      · exact h'
      · rw [Array.getElem?_eq_none h'] at ho; cases ho
    have hD' := hdn S i o hD ho hr
    have hSi' : (fun k => Nat.beq k i || S k) i = true := by simp
    have hbef : ∀ j, j ≠ i → bfB ops i j = true → S j = true := fun j hj hb => by
      have : (Nat.beq j i || S j) = true := befD _ hD' i j hb hSi'
      rwa [beqf _ _ hj, Bool.false_or] at this
    have hoth : ∀ x, x ≠ i → (fun k => Nat.beq k i || S k) x = S x := fun x hx => by show (Nat.beq x i || S x) = S x; rw [beqf _ _ hx, Bool.false_or]
    have mono : ∀ {K K' : (Nat → AV) → Heap → Prop}, (∀ f H, K f H → K' f H) → AOp P n o K f' H' → AOp P n o K' f' H' := fun hk h μ a w hs E =>
      Oper.wp_mono (fun a' w' ⟨μ', f2, H2, g1, g2, g3⟩ => ⟨μ', f2, H2, g1, g2, hk _ _ g3⟩) (fun _ _ _ _ h => h) (h μ a w hs E)
    -- the first of what is left of the tail
    have tailstep : ∀ A B, tail = A ++ i :: B → (∀ x ∈ ord, S x.1 = true) → (∀ c ∈ A, S c = true) → (∀ c ∈ B, S c = false) → (∀ c ∈ B, c ≠ i) → AOps P n ops (Q .normal) (i :: B) f' H' →
        (o.guard = none ∧ AOp P n o (I (fun k => Nat.beq k i || S k)) f' H') ∨
        (∃ j want oj d b, o.guard = some (j, want) ∧ ops[j]? = some oj ∧ oj.dst = some d ∧ f' d = gAV b ∧ (b = some want → AOp P n o (I (fun k => Nat.beq k i || S k)) f' H') ∧ (b ≠ some want → ∃ d', o.dst = some d' ∧ Nat.ble (d' + 1) n = true ∧ I (fun k => Nat.beq k i || S k) (upd f' d' (.tup [])) H')) := by
      intro A B hT hO hA hB hne hAO
      obtain ⟨o', ho', hAO⟩ := hAO
      rw [ho] at ho'; cases ho'
      have hI : ∀ f2 H2, AOps P n ops (Q .normal) B f2 H2 → I (fun k => Nat.beq k i || S k) f2 H2 := fun f2 H2 h =>
        ⟨hD', .inr ⟨A ++ [i], B, by rw [hT]; simp, fun x hx => by simp [hO x hx], fun c hc => by
          rcases List.mem_append.1 hc with hc | hc
          · simp [hA c hc]
          · simp at hc; simp [hc], fun c hc => by exact (hoth c (hne c hc)).trans (hB c hc), h⟩⟩
      rcases hAO with ⟨hg, hAO⟩ | ⟨j, want, oj, d, b, hg, hj, hd, hfb, h1, h2⟩
      · exact .inl ⟨hg, mono hI hAO⟩
      · refine .inr ⟨j, want, oj, d, b, hg, hj, hd, hfb, fun e => mono hI (h1 e), fun e => ?_⟩
        obtain ⟨d', hd', hn', h3⟩ := h2 e
        exact ⟨d', hd', hn', hI _ _ h3⟩
    have nb : ∀ {x y : Nat}, (!Nat.beq x y) = true → x ≠ y := fun h e => by subst e; simp at h
    rcases hcase with ⟨pre, rest, L, Hs, e1, e2, e3, e4, e5, e6, e7, e8, e9, e10⟩ | ⟨A, B, t1, t2, t3, t4, t5⟩
    · have hLord : ∀ e ∈ L, ∃ x ∈ pre, x.1 = e.1 := fun e he => by
        have : e.1 ∈ L.map (·.1) := List.mem_map_of_mem he
        rw [e3] at this
        exact List.mem_map.1 this
      by_cases hLi : ∃ e ∈ L, e.1 = i
      · -- an operation that is known
        obtain ⟨⟨i', dd, v⟩, hmem, rfl⟩ := hLi
        obtain ⟨A, B, hL⟩ := mem_split hmem
        obtain ⟨o', d, ho', hd, hdd, hop⟩ := e6 A (i', dd, v) B hL hSi
        simp only at hdd
        subst hdd
        simp only at ho hSi hr hi hD' hSi' hbef hoth tailstep ho' hd hop ⊢
        rw [ho] at ho'; cases ho'
        -- the items of the order
        obtain ⟨PA, x, PB, hp, hPA, hx, hPB⟩ : ∃ PA x PB, pre = PA ++ x :: PB ∧ PA.map (·.1) = A.map (·.1) ∧ x.1 = i' ∧ PB.map (·.1) = B.map (·.1) := by
          rw [hL, List.map_append, List.map_cons] at e3
          obtain ⟨P1, P2, k1, k2, k3⟩ := List.map_eq_append_iff.1 e3.symm
          obtain ⟨x, P3, k4, k5, k6⟩ := List.map_eq_cons_iff.1 k3
          exact ⟨P1, x, P3, by rw [k1, k4], k2, k5, k6⟩
        have hpair := prs_spec (p := pairB ops) (A := PA) (a := x) (B := PB ++ rest) (by rw [e1, hp] at q4; simpa using q4)
        have hA : ∀ e ∈ A, e.1 ≠ i' ∧ ∀ t ∈ touch ops i', e.2.1 = some t → S e.1 = true := fun e he => by
          have : e.1 ∈ A.map (·.1) := List.mem_map_of_mem he
          rw [← hPA] at this
          obtain ⟨y, hy, hy1⟩ := List.mem_map.1 this
          have hb := hpair.2 y hy
          simp only [pairB, Bool.and_eq_true, List.all_eq_true] at hb
          obtain ⟨⟨⟨⟨b1, b2⟩, b3⟩, b4⟩, b5⟩ := hb
          rw [hy1, hx] at b1 b2 b3
          have hne := nb b1
          refine ⟨hne, fun t ht hd => ?_⟩
          have h3 := b3 t ht
          have hds : dstOf ops e.1 = e.2.1 := e7 e (by rw [hL]; simp [he])
          rw [hds] at h3
          simp only [hd, Nat.beq_refl, Bool.not_true, Bool.false_or] at h3
          exact hbef e.1 hne h3
        have hB : ∀ e ∈ B, e.1 ≠ i' ∧ ∀ t ∈ touch ops i', e.2.1 = some t → S e.1 = false := fun e he => by
          have : e.1 ∈ B.map (·.1) := List.mem_map_of_mem he
          rw [← hPB] at this
          obtain ⟨y, hy, hy1⟩ := List.mem_map.1 this
          have hb := hpair.1 y (by simp [hy])
          simp only [pairB, Bool.and_eq_true, List.all_eq_true] at hb
          obtain ⟨⟨⟨⟨b1, b2⟩, b3⟩, b4⟩, b5⟩ := hb
          rw [hy1, hx] at b1 b2 b3
          have hne := nb b1
          refine ⟨hne.symm, fun t ht hd => ?_⟩
          have h2 := b2 t ht
          have hds : dstOf ops e.1 = e.2.1 := e7 e (by rw [hL]; simp [he])
          rw [hds] at h2
          simp only [hd, Nat.beq_refl, Bool.not_true, Bool.false_or] at h2
          cases hSe : S e.1 with
          | false => rfl
          | true => have := befD S hD e.1 i' h2 hSe; rw [hSi] at this; cases this
        have htouch : ∀ t, t ∈ tmpsOf o ++ guardSlot ops o ++ [d] → t ∈ touch ops i' := fun t ht => by
          simp only [touch, ho, hd, Option.toList]; exact ht
        have hval : ∀ t, t ∈ tmpsOf o ++ guardSlot ops o ++ [d] → f' t = ov top A f t := by
          intro t ht
          rw [e8 t, hL, ov_app]
          rw [ov_slot (S := S) (S' := fun _ => false) ((i', some d, v) :: B) _ (ov top A f) (ov_slot A f f rfl fun e he hd => (hA e he).2 t (htouch t ht) hd) fun e he hd => ?_]
          · exact congrFun (ov_none _ _ fun _ _ => rfl) t
          · rcases List.mem_cons.1 he with rfl | he
            · exact hSi
            · exact (hB e he).2 t (htouch t ht) hd
        have hnew : ∀ t, upd f' d v t = ov (fun k => Nat.beq k i' || S k) L f t := by
          intro t
          have hAc : ov (fun k => Nat.beq k i' || S k) A f = ov S A f := ov_congr A f fun e he => hoth e.1 (hA e he).1
          rw [hL, ov_app, hAc, ov, if_pos hSi']
          by_cases htd : t = d
          · subst htd
            rw [upd_eq, if_pos rfl]
            rw [ov_slot (S' := fun _ => false) B _ _ rfl fun e he hd => by
              exact (hoth e.1 (hB e he).1).trans ((hB e he).2 t (htouch t (by simp)) hd)]
            rw [ov_none B _ fun _ _ => rfl]; simp [updO, upd_eq]
          · rw [upd_eq, if_neg htd, e8 t, hL, ov_app, ov, if_neg (by rw [hSi]; decide)]
            exact (ov_slot B _ _ (by simp only [updO]; rw [upd_eq, if_neg htd]) fun e he _ => hoth e.1 (hB e he).1).symm
        have hneO : ∀ x ∈ rest, x.1 ≠ i' := fun y hy he => by
          have hb := hpair.1 y (by simp [hy])
          simp only [pairB, Bool.and_eq_true] at hb
          exact nb hb.1.1.1.1 (by rw [hx, he])
        have hneT : ∀ c ∈ tail, c ≠ i' := fun c hc he => by
          have := q6 c hc x (by rw [e1, hp]; simp)
          exact nb this.1 (by rw [he, hx])
        have hI : ∀ f2 H2, f2 = upd f' d v ∧ Mono Hs H2 → I (fun k => Nat.beq k i' || S k) f2 H2 := fun f2 H2 ⟨e, m⟩ =>
          ⟨hD', .inl ⟨pre, rest, L, Hs, e1, e2, e3, fun y hy => (hoth _ (hneO y hy)).trans (e4 y hy), fun c hc => (hoth _ (hneT c hc)).trans (e5 c hc), fun A' e' B' hL' hS' => by
            refine e6 A' e' B' hL' ?_
            have hS' : (Nat.beq e'.1 i' || S e'.1) = false := hS'
            rw [Bool.or_eq_false_iff] at hS'; exact hS'.2, e7, by rw [e]; exact hnew, m, e10⟩⟩
        rcases hop with ⟨hg, hop⟩ | ⟨j, want, oj, dj, b, hg, hj, hdj, hfb, hyes, hno⟩
        · exact .inl ⟨hg, mono (fun f2 H2 h => hI f2 H2 ⟨h.1, e9.trans h.2⟩) (hop H' f' H' (fun t ht => hval t (by have := List.elem_iff.1 ht; simp [this])) (Mono.refl _) e9)⟩
        · refine .inr ⟨j, want, oj, dj, b, hg, hj, hdj, ?_, fun hb => mono (fun f2 H2 h => hI f2 H2 ⟨h.1, e9.trans h.2⟩) (hyes hb H' f' H' (fun t ht => hval t (by have := List.elem_iff.1 ht; simp [this])) (Mono.refl _) e9), fun hb => ?_⟩
          · rw [hval dj (by simp [guardSlot, hg, hj, hdj])]; exact hfb
          · obtain ⟨hv, hn⟩ := hno hb
            exact ⟨d, hd, hn, hI _ _ ⟨by rw [hv], e9⟩⟩
      · have hnp : ∀ x ∈ pre, x.1 ≠ i := fun x hx he => by
          have : x.1 ∈ pre.map (·.1) := List.mem_map_of_mem hx
          rw [← e3] at this
          obtain ⟨e, h1, h2⟩ := List.mem_map.1 this
          exact hLi ⟨e, h1, by rw [h2, he]⟩
        rcases Bool.or_eq_true _ _ ▸ q1 i hi with hio | hit
        · -- an effect
          obtain ⟨x, hx, hxi⟩ := List.mem_map.1 (List.elem_iff.1 hio)
          have hxr : x ∈ rest := by
            rw [e1] at hx
            rcases List.mem_append.1 hx with hx | hx
            · exact absurd hxi (hnp x hx)
            · exact hx
          match rest, hxr, e2, e4, e10, e1 with
          | y :: r, hxr, e2, e4, e10, e1 =>
            obtain ⟨ye, yR⟩ := y
            cases yR with
            | none => exact absurd rfl (e2 (ye, none) (by simp))
            | some R =>
              have hpair := prs_spec (p := pairB ops) (A := pre) (a := (ye, some R)) (B := r) (by rw [e1] at q4; exact q4)
              have hye : ye = i := by
                rcases List.mem_cons.1 hxr with rfl | hxr
                · exact hxi
                · have hb := hpair.1 x hxr
                  simp only [pairB, Bool.and_eq_true] at hb
                  obtain ⟨⟨⟨⟨b1, b2⟩, b3⟩, b4⟩, b5⟩ := hb
                  rw [hxi] at b1 b4
                  have h1 := hbef ye (nb b1) b4
                  have h2 := e4 (ye, some R) (by simp)
                  simp only at h2
                  rw [h1] at h2; cases h2
              subst hye
              obtain ⟨o', ho', hg, hE⟩ := e10
              rw [ho] at ho'; cases ho'
              have hpre : ∀ e ∈ L, e.1 ≠ ye ∧ (∀ t ∈ touch ops ye, e.2.1 = some t → S e.1 = true) ∧ (S e.1 = false → R.elem e.1 = true) := fun e he => by
                obtain ⟨z, hz, hz1⟩ := hLord e he
                have hb := hpair.2 z hz
                simp only [pairB, Bool.and_eq_true, List.all_eq_true] at hb
                obtain ⟨⟨⟨⟨b1, b2⟩, b3⟩, b4⟩, b5⟩ := hb
                rw [hz1] at b1 b3 b5
                have hne := nb b1
                refine ⟨hne, fun t ht hd => ?_, fun hSe => ?_⟩
                · have h3 := b3 t ht
                  rw [e7 e he] at h3
                  simp only [hd, Nat.beq_refl, Bool.not_true, Bool.false_or] at h3
                  exact hbef e.1 hne h3
                · rw [Bool.or_eq_true] at b5
                  rcases b5 with b5 | b5
                  · rw [hbef e.1 hne b5] at hSe; cases hSe
                  · exact b5
              have hval : ∀ t, (tmpsOf o).elem t = true → f' t = ov top L f t := fun t ht => by
                rw [e8 t]
                exact ov_slot L f f rfl fun e he hd => (hpre e he).2.1 t (by simp only [touch, ho]; have := List.elem_iff.1 ht; simp [this]) hd
              refine .inl ⟨hg, mono (fun f2 H2 h => ?_) (hE f' H' hval e9)⟩
              obtain ⟨v, hf2, hmr, hrest⟩ := h
              refine enter _ _ _ (pre ++ [(ye, some R)]) r (L ++ [(ye, o.dst, v)]) H2 hD' (by rw [e1]; simp) (by rw [List.map_append, List.map_append, e3]; rfl) (fun z hz => ?_) (fun c hc => ?_) ?_ ?_ (fun t => ?_) (Mono.refl _) (by rw [ov_app]; exact hrest)
              · have hb := hpair.1 z hz
                simp only [pairB, Bool.and_eq_true] at hb
                exact (hoth z.1 (nb hb.1.1.1.1).symm).trans (e4 z (by simp [hz]))
              · have := q6 c hc (ye, some R) (by rw [e1]; simp)
                exact (hoth c (nb this.1)).trans (e5 c hc)
              · intro A e B hL hS
                have hS2 : (Nat.beq e.1 ye || S e.1) = false := hS
                rw [Bool.or_eq_false_iff] at hS2
                have hLe : ∃ C, L = A ++ e :: C := by
                  rcases List.append_eq_append_iff.1 hL with ⟨C, g1, g2⟩ | ⟨C, g1, g2⟩
                  · cases C with
                    | nil => simp only [List.nil_append, List.cons.injEq] at g2; rw [← g2.1] at hS2; simp at hS2
                    | cons c C => simp at g2
                  · cases C with
                    | nil => simp only [List.nil_append, List.cons.injEq] at g2; rw [g2.1] at hS2; simp at hS2
                    | cons c C => simp only [List.cons_append, List.cons.injEq] at g2; obtain ⟨rfl, g2⟩ := g2; exact ⟨C, g1⟩
                obtain ⟨C, hLe⟩ := hLe
                obtain ⟨oe, de, k1, k2, kd, k3⟩ := e6 A e C hLe hS2.2
                rcases hmr with hmr | hmr
                · exact ⟨oe, de, k1, k2, kd, k3.mono (e9.trans hmr)⟩
                · obtain ⟨oe', de', k4, kd', k5⟩ := hmr.spec A e C hLe ((hpre e (by rw [hLe]; simp)).2.2 hS2.2)
                  rw [k1] at k4; cases k4
                  rw [kd] at kd'; cases kd'
                  exact ⟨oe, de, k1, k2, kd, k5⟩
              · intro e he
                rcases List.mem_append.1 he with he | he
                · exact e7 e he
                · simp at he; subst he; simp [dstOf, ho]
              · rw [hf2, ov_app, ov_congr L f fun e he => hoth e.1 (hpre e he).1, ov, if_pos hSi', ov]
                cases hdo : o.dst with
                | none => exact e8 t
                | some d => simp only [updO]; rw [upd_eq, upd_eq, e8 t]
        · -- the tail begins
          have hmt := List.elem_iff.1 hit
          have hall : ∀ x ∈ ord, S x.1 = true := fun x hx => by
            have := q6 i hmt x hx
            exact hbef x.1 (nb this.1).symm this.2
          have hrest : rest = [] := by
            cases rest with
            | nil => rfl
            | cons y r => have h1 := hall y (by rw [e1]; simp); rw [e4 y (by simp)] at h1; cases h1
          subst hrest
          obtain ⟨A, B, hT⟩ := mem_split hmt
          have hp := prs_spec (p := fun c c' => !Nat.beq c c' && bfB ops c' c) (A := A) (a := i) (B := B) (by rw [hT] at q5; exact q5)
          have hA0 : A = [] := by
            cases A with
            | nil => rfl
            | cons c A =>
              have := hp.2 c (by simp)
              rw [Bool.and_eq_true] at this
              have h1 := hbef c (nb this.1) this.2
              rw [e5 c (by rw [hT]; simp)] at h1; cases h1
          subst hA0
          have hff : f' = ov top L f := by
            funext t
            rw [e8 t]
            exact ov_slot L f f rfl fun e he _ => by
              obtain ⟨z, hz, hz1⟩ := hLord e he
              rw [← hz1]; exact hall z (by rw [e1]; simp [hz])
          have hA := e10 H' e9
          rw [← hff, hT] at hA
          exact tailstep [] B hT hall (fun _ h => by cases h) (fun c hc => e5 c (by rw [hT]; simp [hc])) (fun c hc he => by
            have := hp.1 c hc
            rw [Bool.and_eq_true] at this
            exact nb this.1 he.symm) hA
    · -- the tail goes on
      have hit : i ∈ tail := by
        rcases Bool.or_eq_true _ _ ▸ q1 i hi with h | h
        · obtain ⟨x, hx, hxi⟩ := List.mem_map.1 (List.elem_iff.1 h)
          have := t2 x hx
          rw [hxi, hSi] at this; cases this
        · exact List.elem_iff.1 h
      have hiB : i ∈ B := by
        rw [t1] at hit
        rcases List.mem_append.1 hit with h | h
        · rw [t3 i h] at hSi; cases hSi
        · exact h
      obtain ⟨C, D, hB⟩ := mem_split hiB
      have hp := prs_spec (p := fun c c' => !Nat.beq c c' && bfB ops c' c) (A := A ++ C) (a := i) (B := D) (by rw [t1, hB] at q5; simpa using q5)
      have hC : C = [] := by
        cases C with
        | nil => rfl
        | cons c C =>
          have := hp.2 c (by simp)
          rw [Bool.and_eq_true] at this
          have h1 := hbef c (nb this.1) this.2
          rw [t4 c (by rw [hB]; simp)] at h1; cases h1
      subst hC
      rw [List.nil_append] at hB
      subst hB
      exact tailstep A D t1 t2 t3 (fun c hc => t4 c (by simp [hc])) (fun c hc he => by
        have := hp.1 c hc
        rw [Bool.and_eq_true] at this
        exact nb this.1 he.symm) t5
  · -- the end
    intro S f' H' hall ⟨hD, hcase⟩
    rcases hcase with ⟨pre, rest, L, Hs, e1, e2, e3, e4, e5, e6, e7, e8, e9, e10⟩ | ⟨A, B, t1, t2, t3, t4, t5⟩
    · have hrest : rest = [] := by
        cases rest with
        | nil => rfl
        | cons y r =>
          have h1 := e4 y (by simp)
          rw [hall y.1 (Nat.blt_eq ▸ (q2 y (by rw [e1]; simp)))] at h1; cases h1
      have htail : tail = [] := by
        cases tail with
        | nil => rfl
        | cons c B =>
          have h1 := e5 c (by simp)
          rw [hall c (Nat.blt_eq ▸ (q3 c (by simp)))] at h1; cases h1
      subst hrest htail
      have hff : f' = ov top L f := by
        funext t
        rw [e8 t]
        refine ov_slot L f f rfl fun e he _ => ?_
        have : e.1 ∈ L.map (·.1) := List.mem_map_of_mem he
        rw [e3] at this
        obtain ⟨z, hz, hz1⟩ := List.mem_map.1 this
        rw [← hz1]; exact hall z.1 (Nat.blt_eq ▸ (q2 z (by rw [e1]; simp [hz])))
      have := e10 H' e9
      rw [← hff] at this
      exact this
    · have hB : B = [] := by
        cases B with
        | nil => rfl
        | cons c B =>
          have h1 := t4 c (by simp)
          rw [hall c (Nat.blt_eq ▸ (q3 c (by rw [t1]; simp)))] at h1; cases h1
      subst hB
      exact t5
end
end Go.AH
namespace Go.AH
variable [Globs]
set_option linter.unusedSectionVars false
set_option linter.unusedVariables false
set_option linter.unusedSimpArgs false
open Go
section
variable {P : Program} {n : Nat} {Q : Exit → (Nat → AV) → Heap → Prop} {f : Nat → AV} {H : Heap}
def STRN (P : Program) (n : Nat) (ops : Array Oper) (A : List New) (H : Heap) (K : List Ent → (Nat → AV) → Prop) : List Nat → List Ent → (Nat → AV) → Prop
  | [], L, g => K L g
  | i :: r, L, g => ∃ o d v, ops[i]? = some o ∧ o.dst = some d ∧ EntAs P n ops A H i o d v g ∧ STRN P n ops A H K r ((i, some d, v) :: L) (upd g d v)
theorem STRN.done {ops : Array Oper} {A : List New} {K : List Ent → (Nat → AV) → Prop} {L : List Ent} {g : Nat → AV} (h : K L g) : STRN P n ops A H K [] L g := h
theorem STRN.op {ops : Array Oper} {A : List New} {K : List Ent → (Nat → AV) → Prop} {r : List Nat} {L : List Ent} {g : Nat → AV} {i d : Nat} {v : AV} {o : Oper} (hi : notinB A i = true) (ho : ops[i]? = some o) (hd : o.dst = some d) (h : QOpA P n ops o d v H g) (rest : STRN P n ops A H K r ((i, some d, v) :: L) (upd g d v)) : STRN P n ops A H K (i :: r) L g :=
  ⟨o, d, v, ho, hd, .inl ⟨fun e he g => by
    have := List.all_eq_true.1 hi e he
    rw [g] at this; simp at this, h⟩, rest⟩
theorem STRN.alloc {ops : Array Oper} {A : List New} {K : List Ent → (Nat → AV) → Prop} {r : List Nat} {L : List Ent} {g : Nat → AV} {i d id : Nat} {Z : List AV} {o : Oper} {t : TypeId} (hi : (i, id, .row 0 Z) ∈ A) (ho : ops[i]? = some o) (hd : o.dst = some d) (hg : o.guard = none) (hop : o.op = .alloc t) (hn : Nat.ble (d + 1) n = true) (hz : TZero P t Z) (rest : STRN P n ops A H K r ((i, some d, .ptr id 0 0) :: L) (upd g d (.ptr id 0 0))) : STRN P n ops A H K (i :: r) L g :=
  ⟨o, d, _, ho, hd, .inr ⟨id, _, hi, (fun f' H' _ hr => by
      obtain ⟨dst, op, ty, pos, after, guard⟩ := o
      simp only at hd hop
      subst hd hop
      exact AOp.alloc_at id (.inr hr) hn hz ⟨rfl, rfl⟩), hg⟩, rest⟩
def VldN (P : Program) (n : Nat) (ops : Array Oper) (A : List New) (H : Heap) (f : Nat → AV) (L : List Ent) : Prop :=
  ∀ A' e B, L = A' ++ e :: B → ∃ o d, ops[e.1]? = some o ∧ o.dst = some d ∧ e.2.1 = some d ∧ EntAs P n ops A H e.1 o d e.2.2 (ov top A' f)
theorem STRN.get {ops : Array Oper} {A : List New} {K : List Ent → (Nat → AV) → Prop} : ∀ {r : List Nat} {L : List Ent}, VldN P n ops A H f L.reverse → Dst ops L.reverse → STRN P n ops A H K r L (ovR L f) →
    ∃ M, M.reverse.map (·.1) = L.reverse.map (·.1) ++ r ∧ VldN P n ops A H f M.reverse ∧ Dst ops M.reverse ∧ K M (ovR M f)
  | [], L, hv, hd, h => ⟨L, by simp, hv, hd, h⟩
  | i :: r, L, hv, hd, ⟨o, d, v, h1, h2, h3, h4⟩ => by
    have hv' : VldN P n ops A H f ((i, some d, v) :: L).reverse := by
      intro A' e B hL
      rw [List.reverse_cons] at hL
      rcases List.append_eq_append_iff.1 hL with ⟨C, g1, g2⟩ | ⟨C, g1, g2⟩
      · cases C with
        | nil =>
          simp only [List.nil_append, List.cons.injEq] at g2
          obtain ⟨rfl, _⟩ := g2
          rw [List.append_nil] at g1; subst g1
          refine ⟨o, d, h1, h2, rfl, ?_⟩
          rw [← ovR_eq]; exact h3
        | cons c C => simp at g2
      · cases C with
        | nil =>
          simp only [List.nil_append, List.cons.injEq] at g2
          obtain ⟨rfl, _⟩ := g2
          rw [List.append_nil] at g1; subst g1
          refine ⟨o, d, h1, h2, rfl, ?_⟩
          rw [← ovR_eq]; exact h3
        | cons c C =>
          simp only [List.cons_append, List.cons.injEq] at g2
          obtain ⟨rfl, g2⟩ := g2
          exact hv A' e C g1
    have hd' : Dst ops ((i, some d, v) :: L).reverse := by
      intro e he
      rw [List.reverse_cons] at he
      rcases List.mem_append.1 he with he | he
      · exact hd e he
      · simp at he; subst he; simp [dstOf, h1, h2]
    obtain ⟨M, m1, m2, m3, m4⟩ := STRN.get hv' hd' h4
    exact ⟨M, by rw [m1]; simp, m2, m3, m4⟩
def headB (ops : Array Oper) (A : List New) (ord1 : List Nat) (ord2 : List Item) : Bool :=
  (A.all fun e => ord1.elem e.1) && (ord2.all fun x => A.all fun e => bfB ops x.1 e.1) && (match ord2.head? with | some x => x.2.isSome | none => true)
theorem AWP.region_strA {rid : Nat} {ops : Array Oper} (hm : P.follows .mixedOrders = true) (hback : backB ops = true) (A : List New) (ord1 : List Nat) (ord2 : List Item) (tail : List Nat) (hq : stgB ops ((ord1.map fun i => ((i, none) : Item)) ++ ord2) tail = true) (hh : headB ops A ord1 ord2 = true) (hA : FrA H A)
    (h : STRN P n ops A H (fun L g => ∀ H1, Mono H H1 → (∀ e ∈ A, H1 e.2.1 = some e.2.2) → STR P n ops f (fun g H' => AOps P n ops (Q .normal) tail g H') ord2 L H1 g) ord1 [] f) : AWP P n (.region rid ops true) Q f H := by
  have hall := stg_all (P := P) (n := n) (Q := Q) (f := f) ((ord1.map fun i => ((i, none) : Item)) ++ ord2) tail hq
  simp only [headB, Bool.and_eq_true, List.all_eq_true] at hh
  obtain ⟨⟨hh1, hh2⟩, hh3⟩ := hh
  obtain ⟨M, e3, e6, e7, hK⟩ := STRN.get (f := f) (L := []) (fun A' e B h => by simp at h) (fun _ h => by simp at h) h
  simp only [List.reverse_nil, List.map_nil, List.nil_append] at e3
  have hK' : ∀ H1, Mono H H1 → (∀ e ∈ A, H1 e.2.1 = some e.2.2) → STQ P n ops f (fun g H' => AOps P n ops (Q .normal) tail g H') ord2 M.reverse H1 (ov top M.reverse f) := fun H1 m1 m2 => by
    have := (hK H1 m1 m2).to
    rw [ovR_eq] at this; exact this
  clear hK h
  generalize M.reverse = L at *
  let ord : List Item := (ord1.map fun i => ((i, none) : Item)) ++ ord2
  simp only [stgB, Bool.and_eq_true, List.all_eq_true, List.mem_range] at hq
  obtain ⟨⟨⟨⟨⟨q1, q2⟩, q3⟩, q4⟩, q5⟩, q6⟩ := hq
  have beqf : ∀ x y : Nat, x ≠ y → Nat.beq x y = false := fun x y h => by
    cases hb : Nat.beq x y with
    | false => rfl
    | true => exact absurd (Nat.eq_of_beq_eq_true hb) h
  have hdn : ∀ (S : Nat → Bool) i o, Dn ops S → ops[i]? = some o → (∀ e ∈ o.after, Region.binds .any e = true → S e.on = true) → Dn ops (fun k => Nat.beq k i || S k) := by
    intro S i o hD ho hr j oj hj hS e he hb
    by_cases hji : j = i
    · subst hji
      rw [ho] at hj; cases hj
      simp [hr e he hb]
    · have hS : (Nat.beq j i || S j) = true := hS
      rw [beqf _ _ hji, Bool.false_or] at hS
      simp [hD j oj hj hS e he hb]
  have befD : ∀ (S : Nat → Bool), Dn ops S → ∀ i j, bfB ops i j = true → S i = true → S j = true := by
    intro S hD i j hb hS
    unfold bfB at hb
    rcases Nat.lt_or_ge i (befL ops.toList []).length with h | h
    · rw [List.getD_eq_getElem?_getD, List.getElem?_eq_getElem h, Option.getD_some] at hb
      exact bef_spec hD ops.toList [] (fun j => by simp) (fun i m j hi => by simp at hi) i _ j (List.getElem?_eq_getElem h) hb hS
    · rw [List.getD_eq_getElem?_getD, List.getElem?_eq_none h, Option.getD_none] at hb
      simp at hb
  have nb : ∀ {x y : Nat}, (!Nat.beq x y) = true → x ≠ y := fun h e => by subst e; simp at h
  have e3' : L.map (·.1) = (ord1.map fun i => ((i, none) : Item)).map (·.1) := by rw [e3, List.map_map]; exact (List.map_id ord1).symm
  let Ph : (Nat → Bool) → (Nat → AV) → Heap → Prop := fun S f' H' => Dn ops S ∧ (∀ x ∈ ord2, S x.1 = false) ∧ (∀ c ∈ tail, S c = false) ∧ (∀ t, f' t = ov S L f t) ∧ Mono (HSf A H S) H'
  have conv : ∀ S f' H', Ph S f' H' → (∀ e ∈ A, S e.1 = true) → StgI P n ops ((ord1.map fun i => ((i, none) : Item)) ++ ord2) tail Q f S f' H' := by
    intro S f' H' ⟨hD, p1, p2, p3, p4⟩ hS
    have hs : HSf A H S = HSf A H top := HSf_same fun e he => by rw [hS e he]
    rw [hs] at p4
    have hHm : Mono H (HSf A H top) := HSf_mono hA (Mono.refl _)
    refine ⟨hD, .inl ⟨ord1.map fun i => ((i, none) : Item), ord2, L, HSf A H top, rfl, ?_, e3', p1, p2, ?_, e7, p3, p4, hK' _ hHm fun e he => HSf_mem hA he⟩⟩
    · intro x hx
      have hx : ord2.head? = some x := hx
      rw [hx] at hh3
      intro e
      have hh3 : x.2.isSome = true := hh3
      rw [e] at hh3; cases hh3
    · intro A' e B hL hSe
      obtain ⟨o, d, k1, k2, k3, k4⟩ := e6 A' e B hL
      rcases k4 with ⟨_, k4⟩ | ⟨id, B', k4, _⟩
      · exact ⟨o, d, k1, k2, k3, k4.mono hHm⟩
      · rw [hS _ k4] at hSe; cases hSe
  refine AWP.reserveA hA ?_
  refine AWP.region_any hm hback (fun S f' H' => Ph S f' H' ∨ StgI P n ops ((ord1.map fun i => ((i, none) : Item)) ++ ord2) tail Q f S f' H') (.inl ⟨fun _ _ _ h => (by cases h), fun _ _ => rfl, fun _ _ => rfl, fun t => by rw [ov_none L f fun _ _ => rfl], Mono.refl _⟩) ?_ ?_
  · intro S i o ho hSi hr f' H' hcase
    have mono : ∀ {K K' : (Nat → AV) → Heap → Prop}, (∀ f H, K f H → K' f H) → AOp P n o K f' H' → AOp P n o K' f' H' := fun hk h μ a w hs E =>
      Oper.wp_mono (fun a' w' ⟨μ', f2, H2, g1, g2, g3⟩ => ⟨μ', f2, H2, g1, g2, hk _ _ g3⟩) (fun _ _ _ _ h => h) (h μ a w hs E)
    have viaI : StgI P n ops ((ord1.map fun i => ((i, none) : Item)) ++ ord2) tail Q f S f' H' → _ := fun hI => hall.1 S i o ho hSi hr f' H' hI
    have up : ∀ {f2 H2}, StgI P n ops ((ord1.map fun i => ((i, none) : Item)) ++ ord2) tail Q f (fun k => Nat.beq k i || S k) f2 H2 → (Ph (fun k => Nat.beq k i || S k) f2 H2 ∨ StgI P n ops ((ord1.map fun i => ((i, none) : Item)) ++ ord2) tail Q f (fun k => Nat.beq k i || S k) f2 H2) := .inr
    have fin2 : StgI P n ops ((ord1.map fun i => ((i, none) : Item)) ++ ord2) tail Q f S f' H' → (o.guard = none ∧ AOp P n o (fun f2 H2 => Ph (fun k => Nat.beq k i || S k) f2 H2 ∨ StgI P n ops ((ord1.map fun i => ((i, none) : Item)) ++ ord2) tail Q f (fun k => Nat.beq k i || S k) f2 H2) f' H') ∨
      (∃ j want oj d b, o.guard = some (j, want) ∧ ops[j]? = some oj ∧ oj.dst = some d ∧ f' d = gAV b ∧
        (b = some want → AOp P n o (fun f2 H2 => Ph (fun k => Nat.beq k i || S k) f2 H2 ∨ StgI P n ops ((ord1.map fun i => ((i, none) : Item)) ++ ord2) tail Q f (fun k => Nat.beq k i || S k) f2 H2) f' H') ∧
        (b ≠ some want → ∃ d', o.dst = some d' ∧ Nat.ble (d' + 1) n = true ∧ (Ph (fun k => Nat.beq k i || S k) (upd f' d' (.tup [])) H' ∨ StgI P n ops ((ord1.map fun i => ((i, none) : Item)) ++ ord2) tail Q f (fun k => Nat.beq k i || S k) (upd f' d' (.tup [])) H'))) := fun hI => by
      rcases viaI hI with ⟨g1, g2⟩ | ⟨j, want, oj, d, b, g1, g2, g3, g4, g5, g6⟩
      · exact .inl ⟨g1, mono (fun _ _ h => up h) g2⟩
      · refine .inr ⟨j, want, oj, d, b, g1, g2, g3, g4, fun e => mono (fun _ _ h => up h) (g5 e), fun e => ?_⟩
        obtain ⟨d', k1, k2, k3⟩ := g6 e
        exact ⟨d', k1, k2, up k3⟩
    rcases hcase with hP | hI
    · by_cases hdone : ∀ e ∈ A, S e.1 = true
      · exact fin2 (conv S f' H' hP hdone)
      · obtain ⟨hD, p1, p2, e8, e9⟩ := hP
        have hi : i < ops.size := by
          rcases Nat.lt_or_ge i ops.size with h' | h'
          · exact h'
          · rw [Array.getElem?_eq_none h'] at ho; cases ho
        have hD' := hdn S i o hD ho hr
        have hSi' : (fun k => Nat.beq k i || S k) i = true := by simp
        have hbef : ∀ j, j ≠ i → bfB ops i j = true → S j = true := fun j hj hb => by
          have : (Nat.beq j i || S j) = true := befD _ hD' i j hb hSi'
          rwa [beqf _ _ hj, Bool.false_or] at this
        have hoth : ∀ x, x ≠ i → (fun k => Nat.beq k i || S k) x = S x := fun x hx => by show (Nat.beq x i || S x) = S x; rw [beqf _ _ hx, Bool.false_or]
        have mono2 : ∀ {K K' : (Nat → AV) → Heap → Prop}, (∀ f H, K f H → K' f H) → AOp P n o K f' H' → AOp P n o K' f' H' := fun hk h μ a w hs E =>
          Oper.wp_mono (fun a' w' ⟨μ', f2, H2, g1, g2, g3⟩ => ⟨μ', f2, H2, g1, g2, hk _ _ g3⟩) (fun _ _ _ _ h => h) (h μ a w hs E)
        have hi1 : i ∈ ord1 := by
          apply Classical.byContradiction
          intro hni
          apply hdone
          intro e he
          have he1 : e.1 ∈ ord1 := List.elem_iff.1 (hh1 e he)
          have hne : e.1 ≠ i := fun g => hni (g ▸ he1)
          refine hbef e.1 hne ?_
          rcases Bool.or_eq_true _ _ ▸ q1 i hi with hio | hit
          · obtain ⟨x, hx, hxi⟩ := List.mem_map.1 (List.elem_iff.1 hio)
            rcases List.mem_append.1 hx with hx | hx
            · obtain ⟨y, hy, rfl⟩ := List.mem_map.1 hx
              simp only at hxi; subst hxi; exact absurd hy hni
            · rw [← hxi]; exact hh2 x hx e he
          · have := q6 i (List.elem_iff.1 hit) (e.1, none) (by simp [he1])
            exact this.2
        have hLi : ∃ e ∈ L, e.1 = i := by
          have : i ∈ L.map (·.1) := by rw [e3]; exact hi1
          obtain ⟨e, h1, h2⟩ := List.mem_map.1 this
          exact ⟨e, h1, h2⟩
        have e3 := e3'
        obtain ⟨⟨i', dd, v⟩, hmem, rfl⟩ := hLi
        obtain ⟨AL, BL, hL⟩ := mem_split hmem
        obtain ⟨o', d, ho', hd, hdd, hop⟩ := e6 AL (i', dd, v) BL hL
        simp only at hdd
        subst hdd
        simp only at ho hSi hr hi hD' hSi' hbef hoth ho' hd hop fin2 ⊢
        rw [ho] at ho'; cases ho'
        -- the items of the order
        obtain ⟨PA, x, PB, hp, hPA, hx, hPB⟩ : ∃ PA x PB, (ord1.map fun i => ((i, none) : Item)) = PA ++ x :: PB ∧ PA.map (·.1) = AL.map (·.1) ∧ x.1 = i' ∧ PB.map (·.1) = BL.map (·.1) := by
          rw [hL, List.map_append, List.map_cons] at e3
          obtain ⟨P1, P2, k1, k2, k3⟩ := List.map_eq_append_iff.1 e3.symm
          obtain ⟨x, P3, k4, k5, k6⟩ := List.map_eq_cons_iff.1 k3
          exact ⟨P1, x, P3, by rw [k1, k4], k2, k5, k6⟩
        have hpair := prs_spec (p := pairB ops) (A := PA) (a := x) (B := PB ++ ord2) (by rw [hp] at q4; simpa using q4)
        have hAe : ∀ e ∈ AL, e.1 ≠ i' ∧ ∀ t ∈ touch ops i', e.2.1 = some t → S e.1 = true := fun e he => by
          have : e.1 ∈ AL.map (·.1) := List.mem_map_of_mem he
          rw [← hPA] at this
          obtain ⟨y, hy, hy1⟩ := List.mem_map.1 this
          have hb := hpair.2 y hy
          simp only [pairB, Bool.and_eq_true, List.all_eq_true] at hb
          obtain ⟨⟨⟨⟨b1, b2⟩, b3⟩, b4⟩, b5⟩ := hb
          rw [hy1, hx] at b1 b2 b3
          have hne := nb b1
          refine ⟨hne, fun t ht hd => ?_⟩
          have h3 := b3 t ht
          have hds : dstOf ops e.1 = e.2.1 := e7 e (by rw [hL]; simp [he])
          rw [hds] at h3
          simp only [hd, Nat.beq_refl, Bool.not_true, Bool.false_or] at h3
          exact hbef e.1 hne h3
        have hBe : ∀ e ∈ BL, e.1 ≠ i' ∧ ∀ t ∈ touch ops i', e.2.1 = some t → S e.1 = false := fun e he => by
          have : e.1 ∈ BL.map (·.1) := List.mem_map_of_mem he
          rw [← hPB] at this
          obtain ⟨y, hy, hy1⟩ := List.mem_map.1 this
          have hb := hpair.1 y (by simp [hy])
          simp only [pairB, Bool.and_eq_true, List.all_eq_true] at hb
          obtain ⟨⟨⟨⟨b1, b2⟩, b3⟩, b4⟩, b5⟩ := hb
          rw [hy1, hx] at b1 b2 b3
          have hne := nb b1
          refine ⟨hne.symm, fun t ht hd => ?_⟩
          have h2 := b2 t ht
          have hds : dstOf ops e.1 = e.2.1 := e7 e (by rw [hL]; simp [he])
          rw [hds] at h2
          simp only [hd, Nat.beq_refl, Bool.not_true, Bool.false_or] at h2
          cases hSe : S e.1 with
          | false => rfl
          | true => have := befD S hD e.1 i' h2 hSe; rw [hSi] at this; cases this
        have htouch : ∀ t, t ∈ tmpsOf o ++ guardSlot ops o ++ [d] → t ∈ touch ops i' := fun t ht => by
          simp only [touch, ho, hd, Option.toList]; exact ht
        have hval : ∀ t, t ∈ tmpsOf o ++ guardSlot ops o ++ [d] → f' t = ov top AL f t := by
          intro t ht
          rw [e8 t, hL, ov_app]
          rw [ov_slot (S := S) (S' := fun _ => false) ((i', some d, v) :: BL) _ (ov top AL f) (ov_slot AL f f rfl fun e he hd => (hAe e he).2 t (htouch t ht) hd) fun e he hd => ?_]
          · exact congrFun (ov_none _ _ fun _ _ => rfl) t
          · rcases List.mem_cons.1 he with rfl | he
            · exact hSi
            · exact (hBe e he).2 t (htouch t ht) hd
        have hnew : ∀ t, upd f' d v t = ov (fun k => Nat.beq k i' || S k) L f t := by
          intro t
          have hAc : ov (fun k => Nat.beq k i' || S k) AL f = ov S AL f := ov_congr AL f fun e he => hoth e.1 (hAe e he).1
          rw [hL, ov_app, hAc, ov, if_pos hSi']
          by_cases htd : t = d
          · subst htd
            rw [upd_eq, if_pos rfl]
            rw [ov_slot (S' := fun _ => false) BL _ _ rfl fun e he hd => by
              exact (hoth e.1 (hBe e he).1).trans ((hBe e he).2 t (htouch t (by simp)) hd)]
            rw [ov_none BL _ fun _ _ => rfl]; simp [updO, upd_eq]
          · rw [upd_eq, if_neg htd, e8 t, hL, ov_app, ov, if_neg (by rw [hSi]; decide)]
            exact (ov_slot BL _ _ (by simp only [updO]; rw [upd_eq, if_neg htd]) fun e he _ => hoth e.1 (hBe e he).1).symm
        have hneO : ∀ x ∈ ord2, x.1 ≠ i' := fun y hy he => by
          have hb := hpair.1 y (by simp [hy])
          simp only [pairB, Bool.and_eq_true] at hb
          exact nb hb.1.1.1.1 (by rw [hx, he])
        have hneT : ∀ c ∈ tail, c ≠ i' := fun c hc he => by
          have := q6 c hc x (by rw [hp]; simp)
          exact nb this.1 (by rw [he, hx])
        have hI : ∀ f2 H2, f2 = upd f' d v ∧ Mono (HSf A H fun k => Nat.beq k i' || S k) H2 → (Ph (fun k => Nat.beq k i' || S k) f2 H2 ∨ StgI P n ops ((ord1.map fun i => ((i, none) : Item)) ++ ord2) tail Q f (fun k => Nat.beq k i' || S k) f2 H2) := fun f2 H2 ⟨e, m⟩ =>
          .inl ⟨hD', fun y hy => (hoth _ (hneO y hy)).trans (p1 y hy), fun c hc => (hoth _ (hneT c hc)).trans (p2 c hc), by rw [e]; exact hnew, m⟩
        rcases hop with ⟨hia, hop⟩ | ⟨id, B, hiA, hov, hg⟩
        · have hSame : HSf A H (fun k => Nat.beq k i' || S k) = HSf A H S := HSf_same fun e he => by rw [beqf _ _ (hia e he), Bool.false_or]
          rw [hSame] at hI
          have hMH := HSf_mono hA e9
          rcases hop with ⟨hg, hop⟩ | ⟨j, want, oj, dj, b, hg, hj, hdj, hfb, hyes, hno⟩
          · exact .inl ⟨hg, mono (fun f2 H2 h => hI f2 H2 ⟨h.1, e9.trans h.2⟩) (hop H' f' H' (fun t ht => hval t (by have := List.elem_iff.1 ht; simp [this])) (Mono.refl _) hMH)⟩
          · refine .inr ⟨j, want, oj, dj, b, hg, hj, hdj, ?_, fun hb => mono (fun f2 H2 h => hI f2 H2 ⟨h.1, e9.trans h.2⟩) (hyes hb H' f' H' (fun t ht => hval t (by have := List.elem_iff.1 ht; simp [this])) (Mono.refl _) hMH), fun hb => ?_⟩
            · rw [hval dj (by simp [guardSlot, hg, hj, hdj])]; exact hfb
            · obtain ⟨hv, hn⟩ := hno hb
              exact ⟨d, hd, hn, hI _ _ ⟨by rw [hv], e9⟩⟩
        · refine .inl ⟨hg, ?_⟩
          have hres : H' id = some .res := e9 id .res (by have := HSf_mem hA (S := S) hiA; simp only [hSi] at this; exact this)
          refine mono (fun f2 H2 h => hI f2 H2 ?_) (hov f' H' (fun t ht => hval t (by have := List.elem_iff.1 ht; simp [this])) hres)
          obtain ⟨e, e2⟩ := h
          refine ⟨e, ?_⟩
          intro j C hj
          rw [e2, updH_eq]
          by_cases c : j = id
          · rw [if_pos c]
            have h1 := HSf_mem hA (S := fun k => Nat.beq k i' || S k) hiA
            simp only [hSi', if_true] at h1
            rw [c, h1] at hj
            exact hj
          · rw [if_neg c]
            refine e9 j C ?_
            by_cases g : ∃ e ∈ A, e.2.1 = j
            · obtain ⟨e, he, rfl⟩ := g
              have h1 := HSf_mem hA (S := fun k => Nat.beq k i' || S k) he
              have h2 := HSf_mem hA (S := S) he
              have hne : e.1 ≠ i' := fun g => c (congrArg (fun x : New => x.2.1) (hA.inj he hiA (.inr g)))
              rw [beqf _ _ hne, Bool.false_or] at h1
              rw [h1, ← h2] at hj
              exact hj
            · have h1 : ∀ e ∈ A, e.2.1 ≠ j := fun e he h => g ⟨e, he, h⟩
              rw [HSf_not h1] at hj
              rw [HSf_not h1]; exact hj
    · exact fin2 hI
  · intro S f' H' hS hcase
    rcases hcase with hP | hI
    · refine hall.2 S f' H' hS (conv S f' H' hP fun e he => ?_)
      have := q2 (e.1, none) (by simp [List.elem_iff.1 (hh1 e he)])
      exact hS _ (Nat.blt_eq ▸ this)
    · exact hall.2 S f' H' hS hI
end
end Go.AH
namespace Go.AH
variable [Globs]
set_option linter.unusedSectionVars false
open Go
section
variable {P : Program} {n : Nat} {f : Nat → AV} {H : Heap} {K : (Nat → AV) → Heap → Prop} {ops : Array Oper} {i : Nat} {l : List Nat}
def gdOf (ops : Array Oper) (i : Nat) : Option (Nat × Bool × Nat) := (ops[i]?).bind fun o => o.guard.bind fun g => (ops[g.1]?).bind fun oj => oj.dst.bind fun d => o.dst.map fun d' => (d, g.2, d')
theorem gdOf_spec {d d' : Nat} {want : Bool} (h : gdOf ops i = some (d, want, d')) : ∃ o oj j, ops[i]? = some o ∧ o.guard = some (j, want) ∧ ops[j]? = some oj ∧ oj.dst = some d ∧ o.dst = some d' := by
  unfold gdOf at h
  simp only [Option.bind_eq_some_iff, Option.map_eq_some_iff] at h
  obtain ⟨o, h1, g, h2, oj, h3, d0, h4, d1, h5, h6⟩ := h
  cases h6
  exact ⟨o, oj, g.1, h1, h2, h3, h4, h5⟩
theorem N {d d' : Nat} {b want : Bool} (hc : gdOf ops i = some (d, want, d')) (hf : f d = .bool b) (hb : b = !want) (h : AOps P n ops K l (upd f d' (.tup [])) H) (hn : Nat.ble (d' + 1) n = true := by rfl) : AOps P n ops K (i :: l) f H :=
  let ⟨_, _, _, h1, h2, h3, h4, h5⟩ := gdOf_spec hc; .no h1 h2 h3 h4 h5 hn hf (by rw [hb]; cases want <;> simp) h
theorem Y {o : Oper} {d d' : Nat} {b want : Bool} (ho : ops[i]? = some o) (hc : gdOf ops i = some (d, want, d')) (hf : f d = .bool b) (hb : b = want) (h : AOp P n o (AOps P n ops K l) f H) (hn : Nat.ble (d' + 1) n = true := by rfl) : AOps P n ops K (i :: l) f H := by
  obtain ⟨o', _, _, h1, h2, h3, h4, h5⟩ := gdOf_spec hc
  rw [ho] at h1
  cases h1
  exact .yes ho h2 h3 h4 h5 hn hf hb h
theorem C {o : Oper} (ho : ops[i]? = some o) (h : AOp P n o (AOps P n ops K l) f H) (hg : o.guard = none := by rfl) : AOps P n ops K (i :: l) f H := .cons ho hg h
theorem Q {M : Heap → Prop} {T : (Nat → AV) → Prop} {k d : Nat} {v : AV} {o : Oper} (ho : ops[i]? = some o) (h : ∀ f' H', (∀ t, (tmpsOf o).elem t = true → f' t = f t) → M H' → AOp P n o (fun f2 H2 => f2 = upd f' d v ∧ M H2) f' H')
    (rest : QE P n ops M T k (i + 1) (upd f d v)) (hg : o.guard = none := by rfl) (hd : o.dst = some d := by rfl) : QE P n ops M T k i f := .op ho hd (.inl ⟨hg, h⟩) rest
theorem Sw {t : TypeId} {x y : Operand} {size id ver : Nat} {cells L : List AV} {ty : TypeId} {pos : String} {after : Array Edge} {guard : Option (Nat × Bool)} (hx : ev f x = .ptr id ver 0) (hy : ev f y = .agg L) (ht : TSize P t size) (hid : H id = some (.row ver cells))
    (hone : L.all AV.one = true) (hl : L.length = size) (hc : cells.length = size) (hK : ∀ H', H' id = some (.row ver L) → (∀ i, i ≠ id → H' i = H i) → K f H') : AOp P n ⟨none, .store t x y, ty, pos, after, guard⟩ K f H :=
  .store' (.agg L) hx hy ht hid hone hl (Nat.ble_eq_true_of_le (by omega)) (wr_all hc hl) hK
end
section
variable {P : Program} {n : Nat} {f : Nat → AV} {H : Heap} {K : (Nat → AV) → Heap → Prop} {ops : Array Oper} {l : List Nat} {ty : TypeId} {pos : String} {after : Array Edge} {d j : Nat}
theorem V {x : Operand} {v : AV} (ho : ops[j]? = some ⟨some d, .move x, ty, pos, after, none⟩) (hx : ev f x = v) (h : AOps P n ops K l (upd f d v) H) (hn : Nat.ble (d + 1) n = true := by rfl) : AOps P n ops K (j :: l) f H := .cons ho rfl (.move v hn hx h)
theorem A {x : Operand} {v : AV} (ho : ops[j]? = some ⟨some d, .assign x, ty, pos, after, none⟩) (hx : ev f x = v) (h : AOps P n ops K l (upd f d v) H) (hn : Nat.ble (d + 1) n = true := by rfl) : AOps P n ops K (j :: l) f H := .cons ho rfl (.assign v hn hx h)
theorem E {x : Operand} {i : Nat} {v : AV} {vs : List AV} (ho : ops[j]? = some ⟨some d, .extract x i, ty, pos, after, none⟩) (hx : ev f x = .tup vs) (hv : vs[i]? = some v) (h : AOps P n ops K l (upd f d v) H) (hn : Nat.ble (d + 1) n = true := by rfl) : AOps P n ops K (j :: l) f H := .cons ho rfl (.extract v hn hx hv h)
theorem L {t : TypeId} {x : Operand} {agg : Bool} {size off : Nat} {cells : List AV} {v : AV} (ho : ops[j]? = some ⟨some d, .load t x, ty, pos, after, none⟩) (hx : ev f x = .fptr cells off) (ht : TY P t agg size) (hv : loadv agg size off cells = some v) (h : AOps P n ops K l (upd f d v) H) (hn : Nat.ble (d + 1) n = true := by rfl) : AOps P n ops K (j :: l) f H := .cons ho rfl (.loadF v hn hx ht hv h)
theorem F {s : TypeId} {x : Operand} {i off o size : Nat} {cells : List AV} {agg : Bool} (ho : ops[j]? = some ⟨some d, .fieldAddr s x i, ty, pos, after, none⟩) (hx : ev f x = .fptr cells off) (ht : TField P s i o agg size) (h : AOps P n ops K l (upd f d (.fptr cells (off + o))) H) (hn : Nat.ble (d + 1) n = true := by rfl) : AOps P n ops K (j :: l) f H := .cons ho rfl (.fieldAddrF hn hx ht h)
theorem B {op : BinOp} {t t' : TypeId} {x y : Operand} {k : IntKind} {p q : Int} {v : AV} (ho : ops[j]? = some ⟨some d, .binOp op t x y t', ty, pos, after, none⟩) (hx : ev f x = .int k p) (hy : ev f y = .int k q) (hv : intBin op k p q = some v) (h : AOps P n ops K l (upd f d v) H) (hn : Nat.ble (d + 1) n = true := by rfl) : AOps P n ops K (j :: l) f H := .cons ho rfl (.bin v hn hx hy hv h)
end
theorem Sr {P : Program} {n : Nat} {Q : Exit → (Nat → AV) → Heap → Prop} {f : Nat → AV} {H : Heap} {id : Nat} {ops : Array Oper} {y : Code} {l : List Nat} (h : AOps P n ops (fun f H => AWP P n y Q f H) l f H) (hl : List.range ops.size = l := by rfl) : AWP P n (.seq (.region id ops false) y) Q f H := .seq_region l hl h
theorem Rr {P : Program} {n : Nat} {fn : Func} {f : Nat → AV} {H H0 : Heap} {r v : AV} {e : Exit} (h : Res P n fn f H r) (hv : r = v) (m : Mono H0 H) (he : e = .normal ∨ e = .ret := by exact .inr rfl) : ∃ f' H', Ghost n f H f' H' ∧ (e = .normal ∨ e = .ret) ∧ ∃ r, Res P n fn f' H' r ∧ (r = v ∧ Mono H0 H') := ⟨_, _, Ghost.refl, he, _, h, hv, m⟩
theorem ev_same {f f' : Nat → AV} {x : Operand} (h : ∀ t, x = .tmp t → f' t = f t) : ev f' x = ev f x := by
  cases x with
  | tmp t => exact h t rfl
  | _ => rfl
section
variable {P : Program} {n : Nat} {f : Nat → AV} {ops : Array Oper} {M : Heap → Prop} {T : (Nat → AV) → Prop} {k : Nat} {ty : TypeId} {pos : String} {after : Array Edge} {d j : Nat}
theorem QV {x : Operand} {v : AV} (ho : ops[j]? = some ⟨some d, .move x, ty, pos, after, none⟩) (hx : ev f x = v) (rest : QE P n ops M T k (j + 1) (upd f d v)) (hn : Nat.ble (d + 1) n = true := by rfl) : QE P n ops M T k j f :=
  .op ho rfl (.inl ⟨rfl, fun _ _ hf hM => .move v hn ((ev_same fun t e => hf t (by subst e; simp [tmpsOf, Op.operands])).trans hx) ⟨rfl, hM⟩⟩) rest
theorem QL {t : TypeId} {x : Operand} {agg : Bool} {size off : Nat} {cells : List AV} {v : AV} (ho : ops[j]? = some ⟨some d, .load t x, ty, pos, after, none⟩) (hx : ev f x = .fptr cells off) (ht : TY P t agg size) (hv : loadv agg size off cells = some v) (rest : QE P n ops M T k (j + 1) (upd f d v)) (hn : Nat.ble (d + 1) n = true := by rfl) : QE P n ops M T k j f :=
  .op ho rfl (.inl ⟨rfl, fun _ _ hf hM => .loadF v hn ((ev_same fun t e => hf t (by subst e; simp [tmpsOf, Op.operands])).trans hx) ht hv ⟨rfl, hM⟩⟩) rest
theorem QF {s : TypeId} {x : Operand} {i off o size : Nat} {cells : List AV} {agg : Bool} (ho : ops[j]? = some ⟨some d, .fieldAddr s x i, ty, pos, after, none⟩) (hx : ev f x = .fptr cells off) (ht : TField P s i o agg size) (rest : QE P n ops M T k (j + 1) (upd f d (.fptr cells (off + o)))) (hn : Nat.ble (d + 1) n = true := by rfl) : QE P n ops M T k j f :=
  .op ho rfl (.inl ⟨rfl, fun _ _ hf hM => .fieldAddrF hn ((ev_same fun t e => hf t (by subst e; simp [tmpsOf, Op.operands])).trans hx) ht ⟨rfl, hM⟩⟩) rest
theorem QB {op : BinOp} {t t' : TypeId} {x y : Operand} {kk : IntKind} {p q : Int} {v : AV} (ho : ops[j]? = some ⟨some d, .binOp op t x y t', ty, pos, after, none⟩) (hx : ev f x = .int kk p) (hy : ev f y = .int kk q) (hv : intBin op kk p q = some v) (rest : QE P n ops M T k (j + 1) (upd f d v)) (hn : Nat.ble (d + 1) n = true := by rfl) : QE P n ops M T k j f :=
  .op ho rfl (.inl ⟨rfl, fun _ _ hf hM => .bin v hn ((ev_same fun t e => hf t (by subst e; simp [tmpsOf, Op.operands])).trans hx) ((ev_same fun t e => hf t (by subst e; simp [tmpsOf, Op.operands])).trans hy) hv ⟨rfl, hM⟩⟩) rest
end
def Mv := @AOp.move
def As := @AOp.assign
def Bi := @AOp.bin
def Ex := @AOp.extract
def Lf := @AOp.loadF
def Ff := @AOp.fieldAddrF
def Ld := @AOp.load
def Fa := @AOp.fieldAddr
def Bl := @AOp.build
def So := @AOp.store'
def Pc := @AOp.pcall
def Pt := @AOp.pickT
def Pf := @AOp.pickF
def ct_ := @AWP.condT
def cf_ := @AWP.condF
def rt_ := @AWP.ret
def bk_ := @AWP.block
def fz_ := @AWP.frzP
def iF_ := @AOp.indexAddrFA
def iS_ := @AOp.indexAddrS
def al_ := @AOp.alloc
def bx_ := @AOp.box
def nc_ := @AOp.nilCheck
end Go.AH
namespace Go.AH
variable [Globs]
set_option linter.unusedSectionVars false
open Go Go.Lib
section
variable {P : Program} {n : Nat} {f : Nat → AV} {H : Heap} {K : (Nat → AV) → Heap → Prop} {ty : TypeId} {pos : String} {after : Array Edge} {guard : Option (Nat × Bool)} {d : Nat}
theorem CR.ints {w : World} {μ : Nat → Nat} {H : Heap} {k : IntKind} {l : List Int} {vs : Array Value} (h : CR w μ H (l.map fun x => .int k x) vs) : vs = (l.map (Value.int k)).toArray := by
  obtain ⟨h1, h2⟩ := h
  apply Array.ext_getElem?
  intro j
  have hl : l.length = vs.size := by simpa using h1
  rcases Nat.lt_or_ge j l.length with hj | hj
  · obtain ⟨y, y1, y2⟩ := h2 j (.int k l[j]) (by simp [hj])
    rw [y1]
    cases y2
    simp [hj]
  · rw [Array.getElem?_eq_none (by omega)]; simp [hj]
theorem Own.src {H0 H : Heap} {es : Nat} {v : AV} {len : Nat} {cells : List AV} (h : Own H0 H es v len cells) : Src H es v len cells := by
  rcases h with ⟨rfl, rfl, rfl⟩ | ⟨id, ver, rfl, h2, _, h4⟩
  · exact .nil
  · have := Src.slm (es := es) (off := 0) (m := len) h2 (Nat.ble_eq_true_of_le (by omega))
    rw [List.drop_zero, List.take_of_length_le (by omega)] at this
    exact this
theorem setiterS {w : World} {μ : Nat → Nat} (hr : HR w μ H) {id p p' : Nat} {s : ByteArray} (hid : H id = some (.iter (.str s p))) :
    Ext w μ H (w.iterAt (μ id) s p') μ (updH H id (.iter (.str s p'))) ∧ HR (w.iterAt (μ id) s p') μ (updH H id (.iter (.str s p'))) := by
  have hoth : ∀ b, b ≠ μ id → (w.iterAt (μ id) s p').heap[b]? = w.heap[b]? := fun b h => iterAt_other w _ b s p' h
  have hlt := hr.lt hid rfl
  have he : Ext w μ H (w.iterAt (μ id) s p') μ (updH H id (.iter (.str s p'))) := by
    refine ⟨by rw [iterAt_size]; exact Nat.le_refl _, fun b h => ⟨?_, ?_⟩, fun i v hk => ?_, fun i v hk ha => ?_, fun i hm => ?_, fun i hm => ?_, ⟨rfl, rfl, rfl, fun _ => Nat.le_refl _⟩⟩
    · exact hoth b fun e => h.2 ⟨id, _, hid, rfl, e.symm⟩
    · rintro ⟨i, B, h1, h2, h3⟩
      rw [updH_eq] at h1
      by_cases g : i = id
      · subst g; exact h.2 ⟨i, _, hid, rfl, h3⟩
      · rw [if_neg g] at h1; exact h.2 ⟨i, B, h1, h2, h3⟩
    · obtain ⟨B, v', h1, h2, h3⟩ := hk
      by_cases g : i = id
      · subst g
        rw [hid] at h1; cases h1
        cases h2
        exact ⟨_, 0, by rw [updH_eq, if_pos rfl], rfl, h3⟩
      · exact ⟨B, v', by rw [updH_eq, if_neg g]; exact h1, h2, h3⟩
    · obtain ⟨c, ha⟩ := ha
      rw [updH_eq] at ha
      by_cases g : i = id
      · rw [if_pos g] at ha; cases ha
      · rw [if_neg g] at ha
        refine ⟨⟨c, ha⟩, rfl, ?_⟩
        have hne : μ i ≠ μ id := fun e => g (hr.inj i id _ _ ha hid rfl rfl e)
        simp only [bsize, hoth _ hne]
    · obtain ⟨es0, hm⟩ := hm
      have g : i ≠ id := by rintro rfl; rw [hid] at hm; cases hm
      exact ⟨⟨es0, by rw [updH_eq, if_neg g]; exact hm⟩, rfl⟩
    · obtain ⟨it, hm⟩ := hm
      by_cases g : i = id
      · exact ⟨⟨_, by rw [updH_eq, if_pos g]⟩, rfl⟩
      · exact ⟨⟨it, by rw [updH_eq, if_neg g]; exact hm⟩, rfl⟩
  refine ⟨he, hr.change he (fun i => updH_eq _ _ _ _) (fun _ _ => rfl) ?_ ?_ ?_ ?_ ?_ ?_⟩
  · intro _ i C g hi hC e
    exact g (hr.inj i id C _ hi hid hC rfl e.symm)
  · intro i C g hi hC
    exact hoth _ fun e => g (hr.inj i id C _ hi hid hC rfl e)
  · intro v c hB; cases hB
  · intro e hB; cases hB
  · intro es _ _ h; cases h
  · intro it h
    cases h
    exact ⟨iterAt_heap w _ s p p' (hr.iters id _ hid).1, fun m' n' seen2 e => by cases e⟩
theorem AOp.nextS {x : Operand} {id p : Nat} {s : ByteArray} (hn : Nat.ble (d + 1) n = true) (hx : ev f x = .it id) (hid : H id = some (.iter (.str s p)))
    (hno : s.size ≤ p → K (upd f d (.tup [.bool false])) H)
    (hyes : ∀ H', p < s.size → H' id = some (.iter (.str s (p + (Utf8.decode s p).2))) → (∀ i, i ≠ id → H' i = H i) → K (upd f d (.tup [.bool true, .int .i64 p, .int .i32 (Utf8.decode s p).1])) H') : AOp P n ⟨some d, .next x true, ty, pos, after, guard⟩ K f H :=
  .values hn (fun μ a w hs => by
    have h1 := hs.ev x
    rw [hx] at h1
    have hp : a.eval x = .pointer (some ⟨μ id, 0, none⟩) := by
      generalize a.eval x = zz at h1
      cases h1
      rfl
    have i1 := (hs.hr.iters id _ hid).1
    by_cases hlt : p < s.size
    · obtain ⟨s1, s2⟩ := setiterS (p' := p + (Utf8.decode s p).2) hs.hr hid
      refine ⟨_, _, _, _, μ, by simp only [execOp, hp, Sem.run_map, Sem.run_bind, run_next_any_at (P := P) w (μ id) s p ty i1 hlt, Result.andThen_ok]; rfl, s1, s2, .tup (cells := [.bool true, .int .i64 p, .int .i32 (Utf8.decode s p).1]) rfl ?_, hyes _ hlt (updH_same _ _ _) fun _ h => updH_ne _ _ h⟩
      intro k x y hx hy
      match k, hx, hy with
      | 0, hx, hy => cases hx; cases hy; exact .bool _
      | 1, hx, hy => cases hx; cases hy; exact .int _ _
      | 2, hx, hy => cases hx; cases hy; exact .int _ _
      | n + 3, hx, _ => simp at hx
    · refine ⟨_, H, .tuple #[.bool false], w, μ, by simp [execOp, hp, run_next_end_at (P := P) w (μ id) s p ty i1 hlt], .refl _ _ _, hs.hr, .tup (cells := [.bool false]) rfl ?_, hno (by omega)⟩
      intro k x y hx hy
      match k, hx, hy with
      | 0, hx, hy => cases hx; cases hy; exact .bool _
      | n + 1, hx, _ => simp at hx)
end
end Go.AH
namespace Go.AH
variable [Globs]
set_option linter.unusedSectionVars false
open Go
section
variable {H0 H H2 : Heap} {es len id ver : Nat} {v : AV} {cells cells' : List AV}
theorem Own.at_ (e : v = .slm id ver es 0 len) (h : Own H0 H es v len cells) : H id = some (.row ver cells) ∧ H0 id = none ∧ cells.length = len * es := by
  rcases h with ⟨h, _, _⟩ | ⟨i, w, h1, h2, h3, h4⟩
  · rw [e] at h; cases h
  · rw [e] at h1; cases h1; exact ⟨h2, h3, h4⟩
theorem Own.store {len' : Nat} (e : v = .slm id ver es 0 len) (h : Own H0 H es v len cells) (hs : H2 id = some (.row ver cells')) (hl : len' = len) (hc : cells'.length = len * es) : Own H0 H2 es v len' cells' := by
  subst hl
  exact .inr ⟨id, ver, e, hs, (h.at_ e).2.1, hc⟩
theorem NotId.ne {i : Nat} (h : NotId v i) (e : v = .slm id ver es 0 len) : i ≠ id := h _ _ _ _ _ e
end
end Go.AH
namespace Go.Proofs.T
open Go Go.AH
set_option maxRecDepth 4000
set_option linter.unusedSectionVars false
instance instG : Globs := { val := fun _ => none }
theorem noG : ∀ g : Nat, Globs.val g = none ∧ Globs.blk g = none := fun _ => ⟨rfl, rfl⟩
theorem u_3 : Try.prog.underlying 3 = some (.int .i64) := rfl
theorem ty_3 : TY Try.prog 3 false 1 := ⟨⟨_, rfl, rfl⟩, _, rfl, rfl⟩
theorem ts_3 : TSize Try.prog 3 1 := ty_3.size
theorem tz_3 : TZero Try.prog 3 [.int .i64 0] := ⟨_, _, rfl, rfl, rfl⟩
theorem tzv_3 : TZeroV Try.prog 3 (.int .i64 0) := ⟨_, _, rfl, rfl, rfl⟩
theorem tzn_3 : TZn Try.prog 3 1 := ⟨_, _, rfl, rfl, rfl, rfl⟩
theorem tb_3 : TBytes Try.prog 3 8 := ⟨_, rfl, Nat.le_refl _⟩
theorem ty_4 : TY Try.prog 4 false 1 := ⟨⟨_, rfl, rfl⟩, _, rfl, rfl⟩
theorem ts_4 : TSize Try.prog 4 1 := ty_4.size
theorem tz_4 : TZero Try.prog 4 [.bool false] := ⟨_, _, rfl, rfl, rfl⟩
theorem tzn_4 : TZn Try.prog 4 1 := ⟨_, _, rfl, rfl, rfl, rfl⟩
theorem tb_4 : TBytes Try.prog 4 1 := ⟨_, rfl, Nat.le_refl _⟩
theorem u_22 : Try.prog.underlying 22 = some (.slice 42) := rfl
theorem ty_22 : TY Try.prog 22 false 1 := ⟨⟨_, rfl, rfl⟩, _, rfl, rfl⟩
theorem ts_22 : TSize Try.prog 22 1 := ty_22.size
theorem tz_22 : TZero Try.prog 22 [.snil] := ⟨_, _, rfl, rfl, rfl⟩
theorem tb_22 : TBytes Try.prog 22 24 := ⟨_, rfl, Nat.le_refl _⟩
theorem ni_22 : NotInt Try.prog 22 := ⟨_, rfl, rfl⟩
theorem sl_22 : TSlice Try.prog 22 3 := ⟨42, rfl, _, rfl, rfl⟩
theorem u_23 : Try.prog.underlying 23 = some (.slice 38) := rfl
theorem ty_23 : TY Try.prog 23 false 1 := ⟨⟨_, rfl, rfl⟩, _, rfl, rfl⟩
theorem ts_23 : TSize Try.prog 23 1 := ty_23.size
theorem ni_23 : NotInt Try.prog 23 := ⟨_, rfl, rfl⟩
theorem sl_23 : TSlice Try.prog 23 1 := ⟨38, rfl, _, rfl, rfl⟩
theorem u_24 : Try.prog.underlying 24 = some (.slice 53) := rfl
theorem ty_24 : TY Try.prog 24 false 1 := ⟨⟨_, rfl, rfl⟩, _, rfl, rfl⟩
theorem ts_24 : TSize Try.prog 24 1 := ty_24.size
theorem ni_24 : NotInt Try.prog 24 := ⟨_, rfl, rfl⟩
theorem sl_24 : TSlice Try.prog 24 3 := ⟨53, rfl, _, rfl, rfl⟩
theorem ty_26 : TY Try.prog 26 true 3 := ⟨⟨_, rfl, rfl⟩, _, rfl, rfl⟩
theorem ts_26 : TSize Try.prog 26 3 := ty_26.size
theorem tz_26 : TZero Try.prog 26 [.snil, .snil, .snil] := ⟨_, _, rfl, rfl, rfl⟩
theorem fl_26_0 : TField Try.prog 26 0 0 false 1 := ⟨_, _, rfl, rfl, rfl, ty_22, by decide⟩
theorem fl_26_1 : TField Try.prog 26 1 1 false 1 := ⟨_, _, rfl, rfl, rfl, ty_23, by decide⟩
theorem fl_26_2 : TField Try.prog 26 2 2 false 1 := ⟨_, _, rfl, rfl, rfl, ty_24, by decide⟩
theorem pl_26 : TPlaces Try.prog 26 (lookupL [(0, 1), (1, 1), (2, 1)]) := .inl ⟨_, rfl, fun j => match j with
    | 0 => .inr ⟨_, _, rfl, ts_22, rfl⟩
    | 1 => .inr ⟨_, _, rfl, ts_23, rfl⟩
    | 2 => .inr ⟨_, _, rfl, ts_24, rfl⟩
    | j + 3 => .inl ⟨rfl, by simp⟩⟩
theorem u_32 : Try.prog.underlying 32 = some (.slice 47) := rfl
theorem ty_32 : TY Try.prog 32 false 1 := ⟨⟨_, rfl, rfl⟩, _, rfl, rfl⟩
theorem ts_32 : TSize Try.prog 32 1 := ty_32.size
theorem ni_32 : NotInt Try.prog 32 := ⟨_, rfl, rfl⟩
theorem sl_32 : TSlice Try.prog 32 4 := ⟨47, rfl, _, rfl, rfl⟩
theorem u_33 : Try.prog.underlying 33 = some (.slice 4) := rfl
theorem ty_33 : TY Try.prog 33 false 1 := ⟨⟨_, rfl, rfl⟩, _, rfl, rfl⟩
theorem ts_33 : TSize Try.prog 33 1 := ty_33.size
theorem ni_33 : NotInt Try.prog 33 := ⟨_, rfl, rfl⟩
theorem sl_33 : TSlice Try.prog 33 1 := ⟨4, rfl, _, rfl, rfl⟩
theorem ty_35 : TY Try.prog 35 true 3 := ⟨⟨_, rfl, rfl⟩, _, rfl, rfl⟩
theorem ts_35 : TSize Try.prog 35 3 := ty_35.size
theorem tz_35 : TZero Try.prog 35 [.snil, .snil, .snil] := ⟨_, _, rfl, rfl, rfl⟩
theorem fl_35_0 : TField Try.prog 35 0 0 false 1 := ⟨_, _, rfl, rfl, rfl, ty_32, by decide⟩
theorem fl_35_1 : TField Try.prog 35 1 1 false 1 := ⟨_, _, rfl, rfl, rfl, ty_23, by decide⟩
theorem fl_35_2 : TField Try.prog 35 2 2 false 1 := ⟨_, _, rfl, rfl, rfl, ty_33, by decide⟩
theorem pl_35 : TPlaces Try.prog 35 (lookupL [(0, 1), (1, 1), (2, 1)]) := .inl ⟨_, rfl, fun j => match j with
    | 0 => .inr ⟨_, _, rfl, ts_32, rfl⟩
    | 1 => .inr ⟨_, _, rfl, ts_23, rfl⟩
    | 2 => .inr ⟨_, _, rfl, ts_33, rfl⟩
    | j + 3 => .inl ⟨rfl, by simp⟩⟩
theorem u_38 : Try.prog.underlying 38 = some (.slice 3) := rfl
theorem ty_38 : TY Try.prog 38 false 1 := ⟨⟨_, rfl, rfl⟩, _, rfl, rfl⟩
theorem ts_38 : TSize Try.prog 38 1 := ty_38.size
theorem tz_38 : TZero Try.prog 38 [.snil] := ⟨_, _, rfl, rfl, rfl⟩
theorem tzv_38 : TZeroV Try.prog 38 (.snil) := ⟨_, _, rfl, rfl, rfl⟩
theorem tzn_38 : TZn Try.prog 38 1 := ⟨_, _, rfl, rfl, rfl, rfl⟩
theorem tb_38 : TBytes Try.prog 38 24 := ⟨_, rfl, Nat.le_refl _⟩
theorem ni_38 : NotInt Try.prog 38 := ⟨_, rfl, rfl⟩
theorem sl_38 : TSlice Try.prog 38 1 := ⟨3, rfl, _, rfl, rfl⟩
theorem ty_42 : TY Try.prog 42 true 3 := ⟨⟨_, rfl, rfl⟩, _, rfl, rfl⟩
theorem ts_42 : TSize Try.prog 42 3 := ty_42.size
theorem tz_42 : TZero Try.prog 42 [.int .i64 0, .int .i64 0, .int .i64 0] := ⟨_, _, rfl, rfl, rfl⟩
theorem tzn_42 : TZn Try.prog 42 3 := ⟨_, _, rfl, rfl, rfl, rfl⟩
theorem tb_42 : TBytes Try.prog 42 24 := ⟨_, rfl, Nat.le_refl _⟩
theorem fl_42_0 : TField Try.prog 42 0 0 false 1 := ⟨_, _, rfl, rfl, rfl, ty_3, by decide⟩
theorem fl_42_1 : TField Try.prog 42 1 1 false 1 := ⟨_, _, rfl, rfl, rfl, ty_3, by decide⟩
theorem fl_42_2 : TField Try.prog 42 2 2 false 1 := ⟨_, _, rfl, rfl, rfl, ty_3, by decide⟩
theorem pl_42 : TPlaces Try.prog 42 (lookupL [(0, 1), (1, 1), (2, 1)]) := .inl ⟨_, rfl, fun j => match j with
    | 0 => .inr ⟨_, _, rfl, ts_3, rfl⟩
    | 1 => .inr ⟨_, _, rfl, ts_3, rfl⟩
    | 2 => .inr ⟨_, _, rfl, ts_3, rfl⟩
    | j + 3 => .inl ⟨rfl, by simp⟩⟩
theorem ty_47 : TY Try.prog 47 true 4 := ⟨⟨_, rfl, rfl⟩, _, rfl, rfl⟩
theorem ts_47 : TSize Try.prog 47 4 := ty_47.size
theorem tz_47 : TZero Try.prog 47 [.int .i64 0, .int .i64 0, .int .i64 0, .int .i64 0] := ⟨_, _, rfl, rfl, rfl⟩
theorem tzn_47 : TZn Try.prog 47 4 := ⟨_, _, rfl, rfl, rfl, rfl⟩
theorem tb_47 : TBytes Try.prog 47 32 := ⟨_, rfl, Nat.le_refl _⟩
theorem fl_47_0 : TField Try.prog 47 0 0 false 1 := ⟨_, _, rfl, rfl, rfl, ty_3, by decide⟩
theorem fl_47_1 : TField Try.prog 47 1 1 false 1 := ⟨_, _, rfl, rfl, rfl, ty_3, by decide⟩
theorem fl_47_2 : TField Try.prog 47 2 2 false 1 := ⟨_, _, rfl, rfl, rfl, ty_3, by decide⟩
theorem fl_47_3 : TField Try.prog 47 3 3 false 1 := ⟨_, _, rfl, rfl, rfl, ty_3, by decide⟩
theorem pl_47 : TPlaces Try.prog 47 (lookupL [(0, 1), (1, 1), (2, 1), (3, 1)]) := .inl ⟨_, rfl, fun j => match j with
    | 0 => .inr ⟨_, _, rfl, ts_3, rfl⟩
    | 1 => .inr ⟨_, _, rfl, ts_3, rfl⟩
    | 2 => .inr ⟨_, _, rfl, ts_3, rfl⟩
    | 3 => .inr ⟨_, _, rfl, ts_3, rfl⟩
    | j + 4 => .inl ⟨rfl, by simp⟩⟩
theorem ty_53 : TY Try.prog 53 true 3 := ⟨⟨_, rfl, rfl⟩, _, rfl, rfl⟩
theorem ts_53 : TSize Try.prog 53 3 := ty_53.size
theorem tz_53 : TZero Try.prog 53 [.int .i64 0, .int .i64 0, .int .i64 0] := ⟨_, _, rfl, rfl, rfl⟩
theorem tzn_53 : TZn Try.prog 53 3 := ⟨_, _, rfl, rfl, rfl, rfl⟩
theorem tb_53 : TBytes Try.prog 53 24 := ⟨_, rfl, Nat.le_refl _⟩
theorem fl_53_0 : TField Try.prog 53 0 0 false 1 := ⟨_, _, rfl, rfl, rfl, ty_3, by decide⟩
theorem fl_53_1 : TField Try.prog 53 1 1 false 1 := ⟨_, _, rfl, rfl, rfl, ty_3, by decide⟩
theorem fl_53_2 : TField Try.prog 53 2 2 false 1 := ⟨_, _, rfl, rfl, rfl, ty_3, by decide⟩
theorem pl_53 : TPlaces Try.prog 53 (lookupL [(0, 1), (1, 1), (2, 1)]) := .inl ⟨_, rfl, fun j => match j with
    | 0 => .inr ⟨_, _, rfl, ts_3, rfl⟩
    | 1 => .inr ⟨_, _, rfl, ts_3, rfl⟩
    | 2 => .inr ⟨_, _, rfl, ts_3, rfl⟩
    | j + 3 => .inl ⟨rfl, by simp⟩⟩
theorem u_63 : Try.prog.underlying 63 = some (.slice 70) := rfl
theorem ni_63 : NotInt Try.prog 63 := ⟨_, rfl, rfl⟩
theorem sl_63 : TSlice Try.prog 63 65 := ⟨70, rfl, _, rfl, rfl⟩
theorem ty_66 : TY Try.prog 66 true 48 := ⟨⟨_, rfl, rfl⟩, _, rfl, rfl⟩
theorem ts_66 : TSize Try.prog 66 48 := ty_66.size
theorem tz_66 : TZero Try.prog 66 [.int .i64 0, .int .i64 0, .int .i64 0, .int .i64 0, .int .i64 0, .int .i64 0, .int .i64 0, .int .i64 0, .int .i64 0, .int .i64 0, .int .i64 0, .int .i64 0, .int .i64 0, .int .i64 0, .int .i64 0, .int .i64 0, .int .i64 0, .int .i64 0, .int .i64 0, .int .i64 0, .int .i64 0, .int .i64 0, .int .i64 0, .int .i64 0, .int .i64 0, .int .i64 0, .int .i64 0, .int .i64 0, .int .i64 0, .int .i64 0, .int .i64 0, .int .i64 0, .int .i64 0, .int .i64 0, .int .i64 0, .int .i64 0, .int .i64 0, .int .i64 0, .int .i64 0, .int .i64 0, .int .i64 0, .int .i64 0, .int .i64 0, .int .i64 0, .int .i64 0, .int .i64 0, .int .i64 0, .int .i64 0] := ⟨_, _, rfl, rfl, rfl⟩
theorem ar_66 : TArr Try.prog 66 16 true 3 := ⟨_, rfl, ty_42⟩
theorem pl_66 : TPlaces Try.prog 66 (fun i => some (i * 3, 3)) := .inr ⟨_, _, _, rfl, ts_42, fun _ => rfl⟩
theorem u_67 : Try.prog.underlying 67 = some (.array 4 3) := rfl
theorem ty_67 : TY Try.prog 67 true 4 := ⟨⟨_, rfl, rfl⟩, _, rfl, rfl⟩
theorem ts_67 : TSize Try.prog 67 4 := ty_67.size
theorem tz_67 : TZero Try.prog 67 [.int .i64 0, .int .i64 0, .int .i64 0, .int .i64 0] := ⟨_, _, rfl, rfl, rfl⟩
theorem ar_67 : TArr Try.prog 67 4 false 1 := ⟨_, rfl, ty_3⟩
theorem pl_67 : TPlaces Try.prog 67 (fun i => some (i * 1, 1)) := .inr ⟨_, _, _, rfl, ts_3, fun _ => rfl⟩
theorem ty_68 : TY Try.prog 68 true 12 := ⟨⟨_, rfl, rfl⟩, _, rfl, rfl⟩
theorem ts_68 : TSize Try.prog 68 12 := ty_68.size
theorem ar_68 : TArr Try.prog 68 4 true 3 := ⟨_, rfl, ty_42⟩
theorem ty_70 : TY Try.prog 70 true 65 := ⟨⟨_, rfl, rfl⟩, _, rfl, rfl⟩
theorem ts_70 : TSize Try.prog 70 65 := ty_70.size
theorem tz_70 : TZero Try.prog 70 [.int .i64 0, .int .i64 0, .int .i64 0, .int .i64 0, .int .i64 0, .int .i64 0, .int .i64 0, .int .i64 0, .int .i64 0, .int .i64 0, .int .i64 0, .int .i64 0, .int .i64 0, .int .i64 0, .int .i64 0, .int .i64 0, .int .i64 0, .int .i64 0, .int .i64 0, .int .i64 0, .int .i64 0, .int .i64 0, .int .i64 0, .int .i64 0, .int .i64 0, .int .i64 0, .int .i64 0, .int .i64 0, .int .i64 0, .int .i64 0, .int .i64 0, .int .i64 0, .int .i64 0, .int .i64 0, .int .i64 0, .int .i64 0, .int .i64 0, .int .i64 0, .int .i64 0, .int .i64 0, .int .i64 0, .int .i64 0, .int .i64 0, .int .i64 0, .int .i64 0, .int .i64 0, .int .i64 0, .int .i64 0, .int .i64 0, .int .i64 0, .int .i64 0, .int .i64 0, .int .i64 0, .int .i64 0, .int .i64 0, .int .i64 0, .int .i64 0, .int .i64 0, .int .i64 0, .int .i64 0, .int .i64 0, .int .i64 0, .int .i64 0, .int .i64 0, .int .i64 0] := ⟨_, _, rfl, rfl, rfl⟩
theorem tzn_70 : TZn Try.prog 70 65 := ⟨_, _, rfl, rfl, rfl, rfl⟩
theorem tb_70 : TBytes Try.prog 70 520 := ⟨_, rfl, Nat.le_refl _⟩
theorem fl_70_0 : TField Try.prog 70 0 0 true 48 := ⟨_, _, rfl, rfl, rfl, ty_66, by decide⟩
theorem fl_70_2 : TField Try.prog 70 2 52 true 12 := ⟨_, _, rfl, rfl, rfl, ty_68, by decide⟩
theorem fl_70_3 : TField Try.prog 70 3 64 false 1 := ⟨_, _, rfl, rfl, rfl, ty_3, by decide⟩
theorem pl_70 : TPlaces Try.prog 70 (lookupL [(0, 48), (48, 4), (52, 12), (64, 1)]) := .inl ⟨_, rfl, fun j => match j with
    | 0 => .inr ⟨_, _, rfl, ts_66, rfl⟩
    | 1 => .inr ⟨_, _, rfl, ts_67, rfl⟩
    | 2 => .inr ⟨_, _, rfl, ts_68, rfl⟩
    | 3 => .inr ⟨_, _, rfl, ts_3, rfl⟩
    | j + 4 => .inl ⟨rfl, by simp⟩⟩
theorem ty_72 : TY Try.prog 72 true 16 := ⟨⟨_, rfl, rfl⟩, _, rfl, rfl⟩
theorem ts_72 : TSize Try.prog 72 16 := ty_72.size
theorem tz_72 : TZero Try.prog 72 [.int .i64 0, .int .i64 0, .int .i64 0, .int .i64 0, .int .i64 0, .int .i64 0, .int .i64 0, .int .i64 0, .int .i64 0, .int .i64 0, .int .i64 0, .int .i64 0, .int .i64 0, .int .i64 0, .int .i64 0, .int .i64 0] := ⟨_, _, rfl, rfl, rfl⟩
theorem ar_72 : TArr Try.prog 72 4 true 4 := ⟨_, rfl, ty_67⟩
theorem pl_72 : TPlaces Try.prog 72 (fun i => some (i * 4, 4)) := .inr ⟨_, _, _, rfl, ts_67, fun _ => rfl⟩
theorem tz_79 : TZero Try.prog 79 [.snil, .snil, .snil, .snil, .snil, .snil, .snil, .snil, .snil] := ⟨_, _, rfl, rfl, rfl⟩
theorem fl_79_0 : TField Try.prog 79 0 0 true 3 := ⟨_, _, rfl, rfl, rfl, ty_26, by decide⟩
theorem fl_79_1 : TField Try.prog 79 1 3 true 3 := ⟨_, _, rfl, rfl, rfl, ty_35, by decide⟩
theorem fl_79_2 : TField Try.prog 79 2 6 false 1 := ⟨_, _, rfl, rfl, rfl, ty_38, by decide⟩
theorem fl_79_3 : TField Try.prog 79 3 7 false 1 := ⟨_, _, rfl, rfl, rfl, ty_23, by decide⟩
theorem fl_79_4 : TField Try.prog 79 4 8 false 1 := ⟨_, _, rfl, rfl, rfl, ty_22, by decide⟩
theorem pl_79 : TPlaces Try.prog 79 (lookupL [(0, 3), (3, 3), (6, 1), (7, 1), (8, 1)]) := .inl ⟨_, rfl, fun j => match j with
    | 0 => .inr ⟨_, _, rfl, ts_26, rfl⟩
    | 1 => .inr ⟨_, _, rfl, ts_35, rfl⟩
    | 2 => .inr ⟨_, _, rfl, ts_38, rfl⟩
    | 3 => .inr ⟨_, _, rfl, ts_23, rfl⟩
    | 4 => .inr ⟨_, _, rfl, ts_22, rfl⟩
    | j + 5 => .inl ⟨rfl, by simp⟩⟩
theorem ty_84 : TY Try.prog 84 false 1 := ⟨⟨_, rfl, rfl⟩, _, rfl, rfl⟩
theorem u_85 : Try.prog.underlying 85 = some (.map 115 3) := rfl
theorem ty_85 : TY Try.prog 85 false 1 := ⟨⟨_, rfl, rfl⟩, _, rfl, rfl⟩
theorem ts_85 : TSize Try.prog 85 1 := ty_85.size
theorem tz_87 : TZero Try.prog 87 [.snil, .mapnil] := ⟨_, _, rfl, rfl, rfl⟩
theorem fl_87_0 : TField Try.prog 87 0 0 false 1 := ⟨_, _, rfl, rfl, rfl, ty_23, by decide⟩
theorem fl_87_1 : TField Try.prog 87 1 1 false 1 := ⟨_, _, rfl, rfl, rfl, ty_85, by decide⟩
theorem pl_87 : TPlaces Try.prog 87 (lookupL [(0, 1), (1, 1)]) := .inl ⟨_, rfl, fun j => match j with
    | 0 => .inr ⟨_, _, rfl, ts_23, rfl⟩
    | 1 => .inr ⟨_, _, rfl, ts_85, rfl⟩
    | j + 2 => .inl ⟨rfl, by simp⟩⟩
theorem u_88 : Try.prog.underlying 88 = some (.map 3 38) := rfl
theorem ty_101 : TY Try.prog 101 false 1 := ⟨⟨_, rfl, rfl⟩, _, rfl, rfl⟩
theorem u_102 : Try.prog.underlying 102 = some (.slice 22) := rfl
theorem ty_102 : TY Try.prog 102 false 1 := ⟨⟨_, rfl, rfl⟩, _, rfl, rfl⟩
theorem ts_102 : TSize Try.prog 102 1 := ty_102.size
theorem sl_102 : TSlice Try.prog 102 1 := ⟨22, rfl, _, rfl, rfl⟩
theorem tz_104 : TZero Try.prog 104 [.snil, .snil, .snil, .snil, .snil, .snil, .snil, .snil] := ⟨_, _, rfl, rfl, rfl⟩
theorem fl_104_0 : TField Try.prog 104 0 0 true 3 := ⟨_, _, rfl, rfl, rfl, ty_26, by decide⟩
theorem fl_104_1 : TField Try.prog 104 1 3 true 3 := ⟨_, _, rfl, rfl, rfl, ty_35, by decide⟩
theorem fl_104_2 : TField Try.prog 104 2 6 false 1 := ⟨_, _, rfl, rfl, rfl, ty_38, by decide⟩
theorem fl_104_3 : TField Try.prog 104 3 7 false 1 := ⟨_, _, rfl, rfl, rfl, ty_102, by decide⟩
theorem pl_104 : TPlaces Try.prog 104 (lookupL [(0, 3), (3, 3), (6, 1), (7, 1)]) := .inl ⟨_, rfl, fun j => match j with
    | 0 => .inr ⟨_, _, rfl, ts_26, rfl⟩
    | 1 => .inr ⟨_, _, rfl, ts_35, rfl⟩
    | 2 => .inr ⟨_, _, rfl, ts_38, rfl⟩
    | 3 => .inr ⟨_, _, rfl, ts_102, rfl⟩
    | j + 4 => .inl ⟨rfl, by simp⟩⟩
theorem tz_108 : TZero Try.prog 108 [.int .i64 0, .int .i64 0, .int .i64 0] := ⟨_, _, rfl, rfl, rfl⟩
theorem fl_108_0 : TField Try.prog 108 0 0 true 3 := ⟨_, _, rfl, rfl, rfl, ty_42, by decide⟩
theorem u_112 : Try.prog.underlying 112 = some (.slice 115) := rfl
theorem ni_112 : NotInt Try.prog 112 := ⟨_, rfl, rfl⟩
theorem sl_112 : TSlice Try.prog 112 2 := ⟨115, rfl, _, rfl, rfl⟩
theorem ty_115 : TY Try.prog 115 true 2 := ⟨⟨_, rfl, rfl⟩, _, rfl, rfl⟩
theorem ts_115 : TSize Try.prog 115 2 := ty_115.size
theorem tz_115 : TZero Try.prog 115 [.int .i64 0, .int .i64 0] := ⟨_, _, rfl, rfl, rfl⟩
theorem tzn_115 : TZn Try.prog 115 2 := ⟨_, _, rfl, rfl, rfl, rfl⟩
theorem tb_115 : TBytes Try.prog 115 16 := ⟨_, rfl, Nat.le_refl _⟩
theorem fl_115_0 : TField Try.prog 115 0 0 false 1 := ⟨_, _, rfl, rfl, rfl, ty_3, by decide⟩
theorem fl_115_1 : TField Try.prog 115 1 1 false 1 := ⟨_, _, rfl, rfl, rfl, ty_3, by decide⟩
theorem pl_115 : TPlaces Try.prog 115 (lookupL [(0, 1), (1, 1)]) := .inl ⟨_, rfl, fun j => match j with
    | 0 => .inr ⟨_, _, rfl, ts_3, rfl⟩
    | 1 => .inr ⟨_, _, rfl, ts_3, rfl⟩
    | j + 2 => .inl ⟨rfl, by simp⟩⟩
theorem u_130 : Try.prog.underlying 130 = some (.int .u64) := rfl
theorem ty_134 : TY Try.prog 134 true 4 := ⟨⟨_, rfl, rfl⟩, _, rfl, rfl⟩
theorem ts_134 : TSize Try.prog 134 4 := ty_134.size
theorem tz_134 : TZero Try.prog 134 [.int .i64 0, .int .i64 0, .int .i64 0, .int .i64 0] := ⟨_, _, rfl, rfl, rfl⟩
theorem fl_134_0 : TField Try.prog 134 0 0 false 1 := ⟨_, _, rfl, rfl, rfl, ty_3, by decide⟩
theorem fl_134_1 : TField Try.prog 134 1 1 true 3 := ⟨_, _, rfl, rfl, rfl, ty_42, by decide⟩
theorem pl_134 : TPlaces Try.prog 134 (lookupL [(0, 1), (1, 3)]) := .inl ⟨_, rfl, fun j => match j with
    | 0 => .inr ⟨_, _, rfl, ts_3, rfl⟩
    | 1 => .inr ⟨_, _, rfl, ts_42, rfl⟩
    | j + 2 => .inl ⟨rfl, by simp⟩⟩
theorem u_146 : Try.prog.underlying 146 = some (.slice 134) := rfl
theorem sl_146 : TSlice Try.prog 146 4 := ⟨134, rfl, _, rfl, rfl⟩
theorem tf_15 : TFun Try.prog 15 := ⟨_, rfl, rfl, rfl⟩
theorem tf_16 : TFun Try.prog 16 := ⟨_, rfl, rfl, rfl⟩
theorem tf_17 : TFun Try.prog 17 := ⟨_, rfl, rfl, rfl⟩
theorem tf_18 : TFun Try.prog 18 := ⟨_, rfl, rfl, rfl⟩
theorem tf_19 : TFun Try.prog 19 := ⟨_, rfl, rfl, rfl⟩
theorem tf_21 : TFun Try.prog 21 := ⟨_, rfl, rfl, rfl⟩
theorem tf_28 : TFun Try.prog 28 := ⟨_, rfl, rfl, rfl⟩
theorem tf_30 : TFun Try.prog 30 := ⟨_, rfl, rfl, rfl⟩
theorem tf_32 : TFun Try.prog 32 := ⟨_, rfl, rfl, rfl⟩
theorem tf_33 : TFun Try.prog 33 := ⟨_, rfl, rfl, rfl⟩
theorem tf_34 : TFun Try.prog 34 := ⟨_, rfl, rfl, rfl⟩
theorem tf_35 : TFun Try.prog 35 := ⟨_, rfl, rfl, rfl⟩
theorem tf_36 : TFun Try.prog 36 := ⟨_, rfl, rfl, rfl⟩
theorem tf_37 : TFun Try.prog 37 := ⟨_, rfl, rfl, rfl⟩
theorem tf_38 : TFun Try.prog 38 := ⟨_, rfl, rfl, rfl⟩
theorem tf_39 : TFun Try.prog 39 := ⟨_, rfl, rfl, rfl⟩
theorem tf_40 : TFun Try.prog 40 := ⟨_, rfl, rfl, rfl⟩
theorem tf_41 : TFun Try.prog 41 := ⟨_, rfl, rfl, rfl⟩
theorem tf_42 : TFun Try.prog 42 := ⟨_, rfl, rfl, rfl⟩
theorem tf_43 : TFun Try.prog 43 := ⟨_, rfl, rfl, rfl⟩
theorem tf_44 : TFun Try.prog 44 := ⟨_, rfl, rfl, rfl⟩
theorem tf_50 : TFun Try.prog 50 := ⟨_, rfl, rfl, rfl⟩
theorem tf_51 : TFun Try.prog 51 := ⟨_, rfl, rfl, rfl⟩
theorem tf_52 : TFun Try.prog 52 := ⟨_, rfl, rfl, rfl⟩
theorem tf_53 : TFun Try.prog 53 := ⟨_, rfl, rfl, rfl⟩
theorem tf_54 : TFun Try.prog 54 := ⟨_, rfl, rfl, rfl⟩
theorem tf_55 : TFun Try.prog 55 := ⟨_, rfl, rfl, rfl⟩
theorem tf_56 : TFun Try.prog 56 := ⟨_, rfl, rfl, rfl⟩
theorem tf_57 : TFun Try.prog 57 := ⟨_, rfl, rfl, rfl⟩
theorem tf_58 : TFun Try.prog 58 := ⟨_, rfl, rfl, rfl⟩
theorem tf_59 : TFun Try.prog 59 := ⟨_, rfl, rfl, rfl⟩
theorem tf_60 : TFun Try.prog 60 := ⟨_, rfl, rfl, rfl⟩
theorem tf_62 : TFun Try.prog 62 := ⟨_, rfl, rfl, rfl⟩
theorem tf_63 : TFun Try.prog 63 := ⟨_, rfl, rfl, rfl⟩
theorem tf_64 : TFun Try.prog 64 := ⟨_, rfl, rfl, rfl⟩
theorem tf_65 : TFun Try.prog 65 := ⟨_, rfl, rfl, rfl⟩
theorem tf_66 : TFun Try.prog 66 := ⟨_, rfl, rfl, rfl⟩
theorem tf_68 : TFun Try.prog 68 := ⟨_, rfl, rfl, rfl⟩
theorem tf_69 : TFun Try.prog 69 := ⟨_, rfl, rfl, rfl⟩
theorem tf_70 : TFun Try.prog 70 := ⟨_, rfl, rfl, rfl⟩
theorem tf_71 : TFun Try.prog 71 := ⟨_, rfl, rfl, rfl⟩
theorem tf_72 : TFun Try.prog 72 := ⟨_, rfl, rfl, rfl⟩
theorem tf_73 : TFun Try.prog 73 := ⟨_, rfl, rfl, rfl⟩
theorem tf_74 : TFun Try.prog 74 := ⟨_, rfl, rfl, rfl⟩
theorem tf_75 : TFun Try.prog 75 := ⟨_, rfl, rfl, rfl⟩
theorem tf_76 : TFun Try.prog 76 := ⟨_, rfl, rfl, rfl⟩
theorem tf_79 : TFun Try.prog 79 := ⟨_, rfl, rfl, rfl⟩
theorem tf_80 : TFun Try.prog 80 := ⟨_, rfl, rfl, rfl⟩
theorem tf_81 : TFun Try.prog 81 := ⟨_, rfl, rfl, rfl⟩
theorem tf_82 : TFun Try.prog 82 := ⟨_, rfl, rfl, rfl⟩
theorem tf_83 : TFun Try.prog 83 := ⟨_, rfl, rfl, rfl⟩
theorem tf_84 : TFun Try.prog 84 := ⟨_, rfl, rfl, rfl⟩
theorem tf_85 : TFun Try.prog 85 := ⟨_, rfl, rfl, rfl⟩
theorem mixed : Try.prog.follows .mixedOrders = true := rfl
end Go.Proofs.T
namespace Go.Proofs.T
open Go Go.AH
def eI (x : Int) : AV := .int .i64 x
def eBo (x : Bool) : AV := .bool x
def eF (l : List Int) : AV := .sl l.length (l.map eI)
def eW (p : Int × Int) : List AV := [.int .i64 p.1, .int .i64 p.2]
structure Ed where
  A : Int
  B : Int
  F : Int
  G : Int
deriving DecidableEq, Inhabited
def eE (e : Ed) : List AV := [.int .i64 e.A, .int .i64 e.B, .int .i64 e.F, .int .i64 e.G]
theorem eW_len (p : Int × Int) : (eW p).length = 2 := rfl
theorem eE_len (p : Ed) : (eE p).length = 4 := rfl
theorem eF_one (p : List Int) : (eF p).one = true := rfl
theorem fa_step {p : Int → Prop} {i : Int} (h : ∀ j : Int, 0 ≤ j → j < i → p j) (hi : p i) : ∀ j : Int, 0 ≤ j → j < i + 1 → p j := by
  intro j h1 h2
  by_cases e : j = i
  · subst e; exact hi
  · exact h j h1 (by omega)
theorem take_step {α : Type} [Inhabited α] {l : List α} {i : Int} (h0 : 0 ≤ i) (h1 : i < l.length) : l.take (i + 1).toNat = l.take i.toNat ++ [at_ l i] := by
  have e : (i + 1).toNat = i.toNat + 1 := by omega
  have h : i.toNat < l.length := by omega
  rw [e, List.take_add_one]
  simp [at_, h]
theorem take_all {α : Type} {l : List α} {i : Int} (h1 : (l.length : Int) ≤ i) : l.take i.toNat = l := List.take_of_length_le (by omega)
theorem at_mem {α : Type} [Inhabited α] {l : List α} {i : Int} (h0 : 0 ≤ i) (h1 : i < l.length) : at_ l i ∈ l := by
  have h : i.toNat < l.length := by omega
  simp [at_, h]
theorem mem_at {α : Type} [Inhabited α] {l : List α} {x : α} (h : x ∈ l) : ∃ i : Int, 0 ≤ i ∧ i < l.length ∧ at_ l i = x := by
  obtain ⟨k, h1, h2⟩ := List.getElem_of_mem h
  exact ⟨k, by omega, by omega, by simp [at_, h1, h2]⟩
def cmpI (a b : Int) : Int := if a < b then -1 else if b < a then 1 else 0
def orI : List Int → Int
  | [] => 0
  | x :: l => if x = 0 then orI l else x
def ixI (l : List Int) (v : Int) : Int := if v ∈ l then (l.idxOf v : Int) else -1
theorem ix_hit {l : List Int} {v i : Int} (h0 : 0 ≤ i) (h1 : i < l.length) (hi : v = at_ l i) (hp : ∀ j : Int, 0 ≤ j → j < i → v ≠ at_ l j) : i = ixI l v := by
  have hm : v ∈ l := hi ▸ at_mem h0 h1
  unfold ixI
  rw [if_pos hm]
  have h2 : l.idxOf v < l.length := List.idxOf_lt_length_of_mem hm
  have h3 : l[l.idxOf v] = v := List.getElem_idxOf h2
  have h4 : ¬ ((l.idxOf v : Int) < i) := fun h => hp _ (by omega) h (by simp [at_, h2, h3])
  have h5 : ¬ (i < (l.idxOf v : Int)) := fun h => by
    have hl : i.toNat < l.length := by omega
    have := List.not_of_lt_findIdx (p := (· == v)) (xs := l) (i := i.toNat) (by unfold List.idxOf at h; omega)
    simp [at_, hl] at hi
    simp [hi] at this
  omega
theorem ix_miss {l : List Int} {v : Int} (hp : ∀ j : Int, 0 ≤ j → j < l.length → v ≠ at_ l j) : -1 = ixI l v := by
  unfold ixI
  rw [if_neg]
  intro h
  obtain ⟨i, h1, h2, h3⟩ := mem_at h
  exact hp i h1 h2 h3.symm
def wayF (l : List Int) : List (Int × Int) := (List.range l.length).map fun (i : Nat) => (at_ l i, at_ l (((i : Int) + 1) % l.length))
theorem wayF_len (l : List Int) : (wayF l).length = l.length := by simp [wayF]
theorem at_wayF {l : List Int} {i : Int} (h0 : 0 ≤ i) (h1 : i < l.length) : at_ (wayF l) i = (at_ l i, at_ l ((i + 1) % l.length)) := by
  have h : i.toNat < l.length := by omega
  have e : ((i.toNat : Nat) : Int) = i := by omega
  conv => lhs; unfold at_ wayF
  simp [h, e]
end Go.Proofs.T
namespace Go.Proofs.T
open Go Go.AH
theorem or_hit {l : List Int} : ∀ {i : Int}, 0 ≤ i → i < l.length → (∀ j : Int, 0 ≤ j → j < i → at_ l j = 0) → at_ l i ≠ 0 → at_ l i = orI l := by
  induction l with
  | nil => intro i h0 h1; simp at h1; omega
  | cons x l ih =>
    intro i h0 h1 hp hi
    by_cases e : i = 0
    · subst e; simp [at_, orI] at hi ⊢; simp [hi]
    · have hx : x = 0 := by have := hp 0 (by omega) (by omega); simpa [at_] using this
      have e1 : i.toNat = (i - 1).toNat + 1 := by omega
      have h2 : at_ (x :: l) i = at_ l (i - 1) := by unfold at_; rw [e1]; rfl
      rw [h2, orI, if_pos hx]
      refine ih (by omega) (by simp at h1; omega) (fun j g1 g2 => ?_) (h2 ▸ hi)
      have := hp (j + 1) (by omega) (by omega)
      have e2 : (j + 1).toNat = j.toNat + 1 := by omega
      unfold at_ at this ⊢; rw [e2] at this; exact this
theorem or_miss {l : List Int} : (∀ j : Int, 0 ≤ j → j < l.length → at_ l j = 0) → 0 = orI l := by
  induction l with
  | nil => intro _; rfl
  | cons x l ih =>
    intro hp
    have hx : x = 0 := by have := hp 0 (by omega) (by simp); simpa [at_] using this
    rw [orI, if_pos hx]
    refine ih fun j g1 g2 => ?_
    have := hp (j + 1) (by omega) (by simp; omega)
    have e2 : (j + 1).toNat = j.toNat + 1 := by omega
    unfold at_ at this ⊢; rw [e2] at this; exact this
theorem ix_dec {l : List Int} {v : Int} : decide (ixI l v ≥ 0) = decide (v ∈ l) := by
  unfold ixI
  by_cases h : v ∈ l <;> simp [h]
end Go.Proofs.T
namespace Go.Proofs.T
open Go Go.AH
def sidesFrom (k : Nat) : List (List Int) → List ((Int × Int) × Nat)
  | [] => []
  | l :: fs => (wayF l).map (fun w => (w, k)) ++ sidesFrom (k + 1) fs
def sides (fs : List (List Int)) : List ((Int × Int) × Nat) := sidesFrom 0 fs
def hitsL (L : List ((Int × Int) × Nat)) (a b : Int) : List Nat := (L.filter fun s => decide (s.1 = (a, b))).map fun s => s.2
def alongL (L : List ((Int × Int) × Nat)) (a b : Int) : Int := match hitsL L a b with
  | [] => -1
  | [f] => f
  | _ => -2
def alongS (fs : List (List Int)) (a b : Int) : Int := alongL (sides fs) a b
theorem sidesFrom_append (k : Nat) (xs ys : List (List Int)) : sidesFrom k (xs ++ ys) = sidesFrom k xs ++ sidesFrom (k + xs.length) ys := by
  induction xs generalizing k with
  | nil => simp [sidesFrom]
  | cons x xs ih => simp [sidesFrom, ih, Nat.add_comm, Nat.add_left_comm]
theorem hitsL_append (L M : List ((Int × Int) × Nat)) (a b : Int) : hitsL (L ++ M) a b = hitsL L a b ++ hitsL M a b := by simp [hitsL]
theorem alongL_cases (L : List ((Int × Int) × Nat)) (a b : Int) : (hitsL L a b = [] ∧ alongL L a b = -1) ∨ (∃ f, hitsL L a b = [f] ∧ alongL L a b = f) ∨ (2 ≤ (hitsL L a b).length ∧ alongL L a b = -2) := by
  unfold alongL
  match h : hitsL L a b with
  | [] => exact .inl ⟨rfl, rfl⟩
  | [f] => exact .inr (.inl ⟨f, rfl, rfl⟩)
  | _ :: _ :: _ => exact .inr (.inr ⟨by simp, rfl⟩)
def psides (fs : List (List Int)) (f i : Int) : List ((Int × Int) × Nat) := sides (fs.take f.toNat) ++ ((wayF (at_ fs f)).take i.toNat).map fun w => (w, f.toNat)
theorem psides_0 (fs : List (List Int)) (f : Int) : psides fs f 0 = sides (fs.take f.toNat) := by simp [psides]
theorem psides_step {fs : List (List Int)} {f i : Int} (h0 : 0 ≤ i) (h1 : i < (at_ fs f).length) :
    psides fs f (i + 1) = psides fs f i ++ [((at_ (at_ fs f) i, at_ (at_ fs f) ((i + 1) % (at_ fs f).length)), f.toNat)] := by
  unfold psides
  rw [take_step (l := wayF (at_ fs f)) h0 (by rw [wayF_len]; omega), at_wayF h0 (by omega)]
  simp
theorem psides_end {fs : List (List Int)} {f i : Int} (h0 : 0 ≤ f) (h1 : f < fs.length) (hi : ((at_ fs f).length : Int) ≤ i) : psides fs f i = sides (fs.take (f + 1).toNat) := by
  unfold psides
  rw [take_step h0 h1, take_all (l := wayF (at_ fs f)) (by rw [wayF_len]; exact hi)]
  unfold sides
  rw [sidesFrom_append]
  have e : 0 + (fs.take f.toNat).length = f.toNat := by rw [List.length_take]; omega
  simp only [sidesFrom, List.append_nil, e]
theorem sides_split {fs : List (List Int)} {k : Nat} : sides fs = sides (fs.take k) ++ sidesFrom (0 + (fs.take k).length) (fs.drop k) := by
  unfold sides; rw [← sidesFrom_append, List.take_append_drop]
theorem psides_pre {fs : List (List Int)} {f i : Int} (h0 : 0 ≤ f) (h1 : f < fs.length) : ∃ M, sides fs = psides fs f i ++ M := by
  have h2 := sides_split (fs := fs) (k := (f + 1).toNat)
  rw [← psides_end h0 h1 (Int.le_refl _)] at h2
  refine ⟨((wayF (at_ fs f)).drop i.toNat).map (fun w => (w, f.toNat)) ++ sidesFrom (0 + (fs.take (f + 1).toNat).length) (fs.drop (f + 1).toNat), ?_⟩
  rw [h2]
  unfold psides
  simp only [List.append_assoc]
  congr 1
  rw [← List.append_assoc, ← List.map_append, List.take_append_drop, take_all (l := wayF (at_ fs f)) (by rw [wayF_len]; exact Int.le_refl _)]
def nextS (l : List Int) (v by_ : Int) : Int := if v ∈ l then at_ l (((l.idxOf v : Int) + l.length + by_) % l.length) else -1
theorem next_hit {l : List Int} {v i b : Int} (h0 : 0 ≤ i) (h1 : i < l.length) (hi : at_ l i = v) (hp : ∀ j : Int, 0 ≤ j → j < i → at_ l j ≠ v) : at_ l ((i + l.length + b) % l.length) = nextS l v b := by
  have e := ix_hit h0 h1 hi.symm fun j g1 g2 g => hp j g1 g2 g.symm
  have hm : v ∈ l := hi ▸ at_mem h0 h1
  unfold nextS; rw [if_pos hm]
  unfold ixI at e; rw [if_pos hm] at e
  rw [← e]
structure Tp where
  ed : List Ed
  fan : List (List Int)
  rnd : List Bool
deriving DecidableEq, Inhabited
def edgedS (t : Tp) (e : Int) : Bool := decide (0 ≤ e ∧ e < t.ed.length ∧ min (at_ t.ed e).F (at_ t.ed e).G < 0)
def findS (t : Tp) (a b : Int) : Option Nat := t.ed.findIdx? fun e => decide (e.A = min a b ∧ e.B = max a b)
def optI : Option Nat → Int
  | none => 0
  | some k => k
theorem find_hit {t : Tp} {a b i : Int} (h0 : 0 ≤ i) (h1 : i < t.ed.length) (hA : (at_ t.ed i).A = min a b) (hB : (at_ t.ed i).B = max a b) (hp : ∀ j : Int, 0 ≤ j → j < i → ¬ ((at_ t.ed j).A = min a b ∧ (at_ t.ed j).B = max a b)) :
    findS t a b = some i.toNat := by
  unfold findS
  rw [List.findIdx?_eq_some_iff_getElem]
  refine ⟨by omega, ?_, fun j hj => ?_⟩
  · have h : i.toNat < t.ed.length := by omega
    simp [at_, h] at hA hB; simp [hA, hB]
  · have := hp j (by omega) (by omega)
    have h : j < t.ed.length := by omega
    simp [at_, h] at this; simpa using this
theorem find_miss {t : Tp} {a b : Int} (hp : ∀ j : Int, 0 ≤ j → j < t.ed.length → ¬ ((at_ t.ed j).A = min a b ∧ (at_ t.ed j).B = max a b)) : findS t a b = none := by
  unfold findS
  rw [List.findIdx?_eq_none_iff]
  intro e he
  obtain ⟨i, h1, h2, h3⟩ := mem_at he
  have := hp i h1 h2
  rw [h3] at this
  simpa using this
def weighS (most : Int) : List (List Int) → Int → Int
  | [], n => n
  | l :: fs, n => if n ≤ most then weighS most fs (n + l.length) else n
def weighC (fs : List (List Int)) (most : Int) : Int := if (fs.length : Int) > most then most + 1 else weighS most fs fs.length
def greatS (verts : Int) (fs : List (List Int)) : Prop := verts > 60 ∨ weighC fs 300 > 300
instance (verts : Int) (fs : List (List Int)) : Decidable (greatS verts fs) := by unfold greatS; exact inferInstance
theorem rng_step {α : Type} {g : Nat → List α} {i : Int} (h0 : 0 ≤ i) : (List.range (i + 1).toNat).flatMap g = (List.range i.toNat).flatMap g ++ g i.toNat := by
  have e : (i + 1).toNat = i.toNat + 1 := by omega
  rw [e, List.range_succ]; simp
end Go.Proofs.T
namespace Go.Proofs.T
open Go Go.AH
theorem eW_iff (a b : Int × Int) : a = b ↔ eW a = eW b := by
  cases a; cases b; simp [eW]
def EOK (e : Ed) : Prop := inR e.A ∧ inR e.B ∧ inR e.F ∧ inR e.G
def cE (e : Ed) (w : Int × Int) : Int := orI [cmpI e.A w.1, cmpI e.B w.2]
theorem cE_neg (e : Ed) (w : Int × Int) : cE e w < 0 ↔ e.A < w.1 ∨ (e.A = w.1 ∧ e.B < w.2) := by
  unfold cE cmpI orI
  simp only [orI]
  split <;> (try split) <;> (try split) <;> (try split) <;> omega
theorem cE_zero (e : Ed) (w : Int × Int) : cE e w = 0 ↔ e.A = w.1 ∧ e.B = w.2 := by
  unfold cE cmpI orI
  simp only [orI]
  split <;> (try split) <;> (try split) <;> (try split) <;> omega
def ltE (x y : Ed) : Prop := x.A < y.A ∨ (x.A = y.A ∧ x.B < y.B)
def SortedE (l : List Ed) : Prop := ∀ i j : Int, 0 ≤ i → i < j → j < l.length → ltE (at_ l i) (at_ l j)
def lowS (l : List Ed) (w : Int × Int) : Int := ((l.findIdx fun e => decide (¬ cE e w < 0)) : Nat)
theorem low_nn (l : List Ed) (w : Int × Int) : 0 ≤ lowS l w := by unfold lowS; omega
theorem low_le (l : List Ed) (w : Int × Int) : lowS l w ≤ l.length := by
  unfold lowS; have := List.findIdx_le_length (p := fun e => decide (¬ cE e w < 0)) (xs := l); omega
theorem low_neg {l : List Ed} {w : Int × Int} {j : Int} (h0 : 0 ≤ j) (h1 : j < lowS l w) : cE (at_ l j) w < 0 := by
  have hle := low_le l w
  unfold lowS at h1 hle
  have hl : j.toNat < l.length := by omega
  have := List.not_of_lt_findIdx (p := fun e => decide (¬ cE e w < 0)) (xs := l) (i := j.toNat) (by omega)
  simp only [decide_eq_false_iff_not, Decidable.not_not] at this
  simpa [at_, hl] using this
theorem low_at {l : List Ed} {w : Int × Int} (h : lowS l w < l.length) : ¬ cE (at_ l (lowS l w)) w < 0 := by
  unfold lowS at h ⊢
  have hl : (l.findIdx fun e => decide (¬ cE e w < 0)) < l.length := by omega
  have := List.findIdx_getElem (p := fun e => decide (¬ cE e w < 0)) (xs := l) (w := hl)
  simp only [decide_eq_true_eq] at this
  have e : at_ l ((l.findIdx fun e => decide (¬ cE e w < 0) : Nat) : Int) = l[l.findIdx fun e => decide (¬ cE e w < 0)] := by
    unfold at_; rw [Int.toNat_natCast]; exact (List.getElem_eq_getD _).symm
  rw [e]; exact this
theorem low_of {l : List Ed} {w : Int × Int} {i : Int} (h0 : 0 ≤ i) (h1 : i ≤ l.length) (hp : ∀ k : Int, 0 ≤ k → k < i → cE (at_ l k) w < 0) (hq : i < l.length → ¬ cE (at_ l i) w < 0) : i = lowS l w := by
  have g0 := low_nn l w
  have g1 := low_le l w
  rcases Int.lt_trichotomy i (lowS l w) with h | h | h
  · exact absurd (low_neg h0 h) (hq (by omega))
  · exact h
  · exact absurd (hp _ g0 h) (low_at (by omega))
theorem sorted_neg {l : List Ed} {w : Int × Int} (hs : SortedE l) {k h : Int} (h0 : 0 ≤ k) (h1 : k ≤ h) (h2 : h < l.length) (hh : cE (at_ l h) w < 0) : cE (at_ l k) w < 0 := by
  by_cases e : k = h
  · subst e; exact hh
  · have := hs k h h0 (by omega) h2
    rw [cE_neg] at hh ⊢
    unfold ltE at this
    omega
theorem sorted_nn {l : List Ed} {w : Int × Int} (hs : SortedE l) {k h : Int} (h0 : 0 ≤ h) (h1 : h ≤ k) (h2 : k < l.length) (hh : ¬ cE (at_ l h) w < 0) : ¬ cE (at_ l k) w < 0 := fun c => hh (sorted_neg hs h0 h1 h2 c)
def isAt (l : List Ed) (w : Int × Int) : Bool := decide (lowS l w < l.length ∧ cE (at_ l (lowS l w)) w = 0)
theorem low_find {t : Tp} (hs : SortedE t.ed) (a b : Int) : (isAt t.ed (min a b, max a b) = (findS t a b).isSome) ∧ (isAt t.ed (min a b, max a b) = true → lowS t.ed (min a b, max a b) = optI (findS t a b)) := by
  have h0 := low_nn t.ed (min a b, max a b)
  have hle := low_le t.ed (min a b, max a b)
  have hlow := fun (j : Int) (h1 : 0 ≤ j) (h2 : j < lowS t.ed (min a b, max a b)) => low_neg h1 h2
  by_cases hc : isAt t.ed (min a b, max a b) = true
  · have hc' := hc
    unfold isAt at hc'
    rw [decide_eq_true_eq, cE_zero] at hc'
    have hf : findS t a b = some (lowS t.ed (min a b, max a b)).toNat := find_hit h0 hc'.1 hc'.2.1 hc'.2.2 fun j h1 h2 e => by
      have := hlow j h1 h2
      have h3 := (cE_zero (at_ t.ed j) (min a b, max a b)).2 e
      omega
    rw [hf]
    exact ⟨hc, fun _ => by simp only [optI]; omega⟩
  · have hf : findS t a b = none := find_miss fun j h1 h2 e => by
      have h3 := (cE_zero (at_ t.ed j) (min a b, max a b)).2 e
      have h4 : ¬ j < lowS t.ed (min a b, max a b) := fun g => by have := hlow j h1 g; omega
      apply hc
      unfold isAt
      rw [decide_eq_true_eq]
      have h5 : lowS t.ed (min a b, max a b) = j := by
        by_cases g : lowS t.ed (min a b, max a b) = j
        · exact g
        · have h6 := hs (lowS t.ed (min a b, max a b)) j h0 (by omega) h2
          refine absurd ((cE_neg _ _).2 ?_) (low_at (l := t.ed) (w := (min a b, max a b)) (by omega))
          unfold ltE at h6
          simp only at e ⊢
          omega
      rw [h5]; exact ⟨h2, h3⟩
    rw [hf]
    refine ⟨?_, fun h => absurd h hc⟩
    simpa using hc
theorem fs_none {o : Option Nat} (h : o.isSome = false) : o = none := by cases o <;> simp_all
def goodF (v : Int) (fs : List (List Int)) (l : List Int) : Prop := 3 ≤ (l.length : Int) ∧ (∀ i : Int, 0 ≤ i → i < l.length → 0 ≤ at_ l i ∧ at_ l i < v) ∧
  (∀ i k : Int, 0 ≤ k → k < i → i < l.length → at_ l i ≠ at_ l k) ∧ (∀ i : Int, 0 ≤ i → i < l.length → 0 ≤ alongS fs (at_ l i) (at_ l ((i + 1) % l.length)))
def goodS (v : Int) (fs : List (List Int)) : Prop := ∀ f : Int, 0 ≤ f → f < fs.length → goodF v fs (at_ fs f)
noncomputable instance (v : Int) (fs : List (List Int)) : Decidable (goodS v fs) := Classical.propDecidable _
end Go.Proofs.T
namespace Go.Proofs.T
open Go Go.AH
set_option maxRecDepth 20000
theorem mem_wayF {l : List Int} {a b : Int} : (a, b) ∈ wayF l ↔ ∃ i : Int, 0 ≤ i ∧ i < l.length ∧ a = at_ l i ∧ b = at_ l ((i + 1) % l.length) := by
  constructor
  · intro h
    obtain ⟨i, h0, h1, h2⟩ := mem_at h
    rw [wayF_len] at h1
    rw [at_wayF h0 h1] at h2
    exact ⟨i, h0, h1, (congrArg Prod.fst h2).symm, (congrArg Prod.snd h2).symm⟩
  · rintro ⟨i, h0, h1, rfl, rfl⟩
    rw [← at_wayF h0 h1]
    exact at_mem h0 (by rw [wayF_len]; exact h1)
theorem mem_sidesFrom {fs : List (List Int)} : ∀ {k f : Nat} {w : Int × Int}, (w, f) ∈ sidesFrom k fs ↔ k ≤ f ∧ f < k + fs.length ∧ w ∈ wayF (at_ fs ((f - k : Nat) : Int)) := by
  induction fs with
  | nil => intro k f w; simp [sidesFrom]; omega
  | cons l fs ih =>
    intro k f w
    rw [sidesFrom, List.mem_append, ih, List.mem_map]
    constructor
    · rintro (⟨w', h1, h2⟩ | ⟨h1, h2, h3⟩)
      · cases h2
        refine ⟨Nat.le_refl _, by simp, ?_⟩
        simpa [at_] using h1
      · refine ⟨by omega, by simp; omega, ?_⟩
        have e : f - k = (f - (k + 1)) + 1 := by omega
        rw [e]
        simpa [at_] using h3
    · rintro ⟨h1, h2, h3⟩
      by_cases e : f = k
      · subst e
        left
        refine ⟨w, ?_, rfl⟩
        simpa [at_] using h3
      · right
        refine ⟨by omega, by simp at h2; omega, ?_⟩
        have e1 : f - k = (f - (k + 1)) + 1 := by omega
        rw [e1] at h3
        simpa [at_] using h3
theorem mem_sides {fs : List (List Int)} {f : Nat} {w : Int × Int} : (w, f) ∈ sides fs ↔ f < fs.length ∧ w ∈ wayF (at_ fs (f : Int)) := by
  unfold sides; rw [mem_sidesFrom]; simp
theorem mem_hits {L : List ((Int × Int) × Nat)} {a b : Int} {f : Nat} : f ∈ hitsL L a b ↔ ((a, b), f) ∈ L := by
  unfold hitsL
  rw [List.mem_map]
  constructor
  · rintro ⟨⟨w, g⟩, h1, rfl⟩
    rw [List.mem_filter] at h1
    have := of_decide_eq_true h1.2
    simp only at this
    rw [← this]; exact h1.1
  · intro h
    exact ⟨((a, b), f), List.mem_filter.2 ⟨h, by simp⟩, rfl⟩
theorem along_some {fs : List (List Int)} {a b : Int} (h : 0 ≤ alongS fs a b) : alongS fs a b < fs.length ∧ (a, b) ∈ wayF (at_ fs (alongS fs a b)) ∧ ∀ f : Int, 0 ≤ f → f < fs.length → (a, b) ∈ wayF (at_ fs f) → f = alongS fs a b := by
  rcases alongL_cases (sides fs) a b with ⟨h1, h2⟩ | ⟨g, h1, h2⟩ | ⟨h1, h2⟩
  · unfold alongS at h; omega
  · have hm : g ∈ hitsL (sides fs) a b := by rw [h1]; exact .head _
    rw [mem_hits, mem_sides] at hm
    unfold alongS; rw [h2]
    refine ⟨by omega, hm.2, fun f h0 h3 h4 => ?_⟩
    have : f.toNat ∈ hitsL (sides fs) a b := by
      rw [mem_hits, mem_sides]
      refine ⟨by omega, ?_⟩
      rw [Int.toNat_of_nonneg h0]; exact h4
    rw [h1] at this
    simp at this
    omega
  · unfold alongS at h; omega
theorem along_lt (fs : List (List Int)) (a b : Int) : -2 ≤ alongS fs a b ∧ (0 ≤ alongS fs a b → alongS fs a b < fs.length) := by
  refine ⟨?_, fun h => (along_some h).1⟩
  unfold alongS
  rcases alongL_cases (sides fs) a b with ⟨h1, h2⟩ | ⟨g, h1, h2⟩ | ⟨h1, h2⟩ <;> omega
theorem along_good {v : Int} {fs : List (List Int)} (hg : goodS v fs) {f : Int} (h0 : 0 ≤ f) (h1 : f < fs.length) {a b : Int} (h : (a, b) ∈ wayF (at_ fs f)) : alongS fs a b = f := by
  obtain ⟨i, g0, g1, rfl, rfl⟩ := mem_wayF.1 h
  have := (hg f h0 h1).2.2.2 i g0 g1
  exact ((along_some this).2.2 f h0 h1 h).symm
def Apart (l : List Int) : Prop := ∀ i k : Int, 0 ≤ k → k < i → i < l.length → at_ l i ≠ at_ l k
theorem Apart.eq {l : List Int} (h : Apart l) {i k : Int} (h0 : 0 ≤ i) (h1 : i < l.length) (k0 : 0 ≤ k) (k1 : k < l.length) (e : at_ l i = at_ l k) : i = k := by
  rcases Int.lt_trichotomy i k with g | g | g
  · exact absurd e.symm (h k i h0 g k1)
  · exact g
  · exact absurd e (h i k k0 g h1)
theorem nextS_at {l : List Int} (ha : Apart l) {i b : Int} (h0 : 0 ≤ i) (h1 : i < l.length) : nextS l (at_ l i) b = at_ l ((i + l.length + b) % l.length) :=
  (next_hit h0 h1 rfl fun j g0 g1 e => ha i j g0 g1 h1 e.symm).symm
theorem next_way {l : List Int} (ha : Apart l) {a b : Int} (h : (a, b) ∈ wayF l) : nextS l a 1 = b ∧ nextS l b (-1) = a := by
  obtain ⟨i, h0, h1, rfl, rfl⟩ := mem_wayF.1 h
  have hn : (0 : Int) < l.length := by omega
  have hm := mod_in (x := i + 1) hn
  refine ⟨?_, ?_⟩
  · rw [nextS_at ha h0 h1]
    congr 1
    rw [show i + (l.length : Int) + 1 = (i + 1) + l.length by omega, Int.add_emod_right]
  · rw [nextS_at ha hm.1 hm.2]
    congr 1
    rw [show (i + 1) % (l.length : Int) + l.length + -1 = ((i + 1) % (l.length : Int) + -1) + l.length by omega, Int.add_emod_right, Int.emod_add_emod, show i + 1 + -1 = i by omega]
    exact Int.emod_eq_of_lt h0 h1
theorem way_next {l : List Int} (ha : Apart l) {v : Int} (h : v ∈ l) : (v, nextS l v 1) ∈ wayF l ∧ (nextS l v (-1), v) ∈ wayF l := by
  obtain ⟨i, h0, h1, rfl⟩ := mem_at h
  have hn : (0 : Int) < l.length := by omega
  refine ⟨?_, ?_⟩
  · rw [nextS_at ha h0 h1, mem_wayF]
    refine ⟨i, h0, h1, rfl, ?_⟩
    congr 1
    rw [show i + (l.length : Int) + 1 = (i + 1) + l.length by omega, Int.add_emod_right]
  · rw [nextS_at ha h0 h1, mem_wayF]
    have hm := mod_in (x := i + l.length + -1) hn
    refine ⟨(i + l.length + -1) % l.length, hm.1, hm.2, rfl, ?_⟩
    congr 1
    rw [Int.emod_add_emod, show i + (l.length : Int) + -1 + 1 = i + l.length by omega, Int.add_emod_right]
    exact (Int.emod_eq_of_lt h0 h1).symm
def stepS (fs : List (List Int)) (v f : Int) : Int := alongS fs v (nextS (at_ fs f) v (-1))
def iterS (s : Int → Int) (x : Int) : Nat → Int
  | 0 => x
  | n + 1 => s (iterS s x n)
def mineU (fs : List (List Int)) (v i : Int) : List Int := (List.range i.toNat).flatMap fun (k : Nat) => if v ∈ at_ fs (k : Int) then [(k : Int)] else []
def firstN (fs : List (List Int)) (v : Int) : Nat → Int
  | 0 => -1
  | n + 1 => if v ∈ at_ fs (n : Int) ∧ alongS fs (nextS (at_ fs (n : Int)) v 1) v < 0 then (n : Int) else firstN fs v n
def Runs (fs : List (List Int)) (v x : Int) (k : Nat) : Prop := ∀ i, i < k → 0 ≤ iterS (stepS fs v) x i ∧ (i = 0 ∨ iterS (stepS fs v) x i ≠ x)
def orbS (fs : List (List Int)) (v x : Int) (k : Nat) : List Int := (List.range k).map (iterS (stepS fs v) x)
theorem orb_len (fs : List (List Int)) (v x : Int) (k : Nat) : (orbS fs v x k).length = k := by simp [orbS]
theorem orb_step (fs : List (List Int)) (v x : Int) (k : Nat) : orbS fs v x (k + 1) = orbS fs v x k ++ [iterS (stepS fs v) x k] := by simp [orbS, List.range_succ]
section
variable {n v x : Int} {fs : List (List Int)}
theorem good_nn (hg : goodS n fs) {f : Int} (h0 : 0 ≤ f) (h1 : f < fs.length) : ∀ y ∈ at_ fs f, 0 ≤ y ∧ y < n := fun y hy => by
  obtain ⟨i, g0, g1, rfl⟩ := mem_at hy
  exact (hg f h0 h1).2.1 i g0 g1
theorem good_apart (hg : goodS n fs) {f : Int} (h0 : 0 ≤ f) (h1 : f < fs.length) : Apart (at_ fs f) := (hg f h0 h1).2.2.1
theorem step_mem (hg : goodS n fs) {f : Int} (h0 : 0 ≤ f) (h1 : f < fs.length) (hv : v ∈ at_ fs f) (hs : 0 ≤ stepS fs v f) :
    stepS fs v f < fs.length ∧ v ∈ at_ fs (stepS fs v f) ∧ nextS (at_ fs (stepS fs v f)) v 1 = nextS (at_ fs f) v (-1) := by
  obtain ⟨g1, g2, _⟩ := along_some hs
  have ha := good_apart hg hs g1
  obtain ⟨i, k0, k1, k2, _⟩ := mem_wayF.1 g2
  exact ⟨g1, (by have hm := at_mem k0 k1; rw [← k2] at hm; exact hm), (next_way ha g2).1⟩
theorem step_inj (hg : goodS n fs) {f g : Int} (f0 : 0 ≤ f) (f1 : f < fs.length) (fv : v ∈ at_ fs f) (g0 : 0 ≤ g) (g1 : g < fs.length) (gv : v ∈ at_ fs g) (hs : 0 ≤ stepS fs v f) (e : stepS fs v f = stepS fs v g) : f = g := by
  have h1 := (step_mem hg f0 f1 fv hs).2.2
  have h2 := (step_mem hg g0 g1 gv (e ▸ hs)).2.2
  rw [← e, h1] at h2
  have a1 := along_good hg f0 f1 (way_next (good_apart hg f0 f1) fv).2
  have a2 := along_good hg g0 g1 (way_next (good_apart hg g0 g1) gv).2
  rw [h2] at a1
  omega
theorem run_mem (hg : goodS n fs) (x0 : 0 ≤ x) (x1 : x < fs.length) (xv : v ∈ at_ fs x) {k : Nat} (hr : Runs fs v x k) : ∀ i, i < k → 0 ≤ iterS (stepS fs v) x i ∧ iterS (stepS fs v) x i < fs.length ∧ v ∈ at_ fs (iterS (stepS fs v) x i) := by
  intro i
  induction i with
  | zero => intro _; exact ⟨x0, x1, xv⟩
  | succ i ih =>
    intro hi
    obtain ⟨h0, h1, h2⟩ := ih (by omega)
    have := (hr (i + 1) hi).1
    have h3 := step_mem hg h0 h1 h2 this
    exact ⟨this, h3.1, h3.2.1⟩
theorem run_inj (hg : goodS n fs) (x0 : 0 ≤ x) (x1 : x < fs.length) (xv : v ∈ at_ fs x) {k : Nat} (hr : Runs fs v x k) : ∀ i j, i < j → j < k → iterS (stepS fs v) x i ≠ iterS (stepS fs v) x j := by
  intro i
  induction i with
  | zero => intro j hj hk e; exact ((hr j hk).2.resolve_left (by omega)) e.symm
  | succ i ih =>
    intro j hj hk e
    cases j with
    | zero => omega
    | succ j =>
      obtain ⟨a0, a1, a2⟩ := run_mem hg x0 x1 xv hr i (by omega)
      obtain ⟨b0, b1, b2⟩ := run_mem hg x0 x1 xv hr j (by omega)
      exact ih j (by omega) (by omega) (step_inj hg a0 a1 a2 b0 b1 b2 (hr (i + 1) (by omega)).1 e)
theorem mem_mineU {i y : Int} : y ∈ mineU fs v i ↔ 0 ≤ y ∧ y < i ∧ v ∈ at_ fs y := by
  unfold mineU
  rw [List.mem_flatMap]
  constructor
  · rintro ⟨k, hk, h⟩
    rw [List.mem_range] at hk
    split at h
    · simp at h; subst h; exact ⟨by omega, by omega, by assumption⟩
    · simp at h
  · rintro ⟨h0, h1, h2⟩
    refine ⟨y.toNat, by rw [List.mem_range]; omega, ?_⟩
    rw [Int.toNat_of_nonneg h0, if_pos h2]; simp
theorem mine_T {i : Int} (h0 : 0 ≤ i) (h : v ∈ at_ fs i) : mineU fs v (i + 1) = mineU fs v i ++ [i] := by
  unfold mineU; rw [rng_step h0, Int.toNat_of_nonneg h0, if_pos h]
theorem mine_F {i : Int} (h0 : 0 ≤ i) (h : v ∉ at_ fs i) : mineU fs v (i + 1) = mineU fs v i := by
  unfold mineU; rw [rng_step h0, Int.toNat_of_nonneg h0, if_neg h]; simp
theorem orb_nodup (hg : goodS n fs) (x0 : 0 ≤ x) (x1 : x < fs.length) (xv : v ∈ at_ fs x) {k : Nat} (hr : Runs fs v x k) : (orbS fs v x k).Nodup := by
  unfold orbS
  rw [List.nodup_iff_pairwise_ne, List.pairwise_map]
  refine List.Pairwise.imp_of_mem ?_ List.pairwise_lt_range
  intro a b ha hb hab
  rw [List.mem_range] at hb
  exact run_inj hg x0 x1 xv hr a b hab hb
theorem run_le (hg : goodS n fs) (x0 : 0 ≤ x) (x1 : x < fs.length) (xv : v ∈ at_ fs x) {k : Nat} (hr : Runs fs v x k) : k ≤ (mineU fs v fs.length).length := by
  have h1 := orb_nodup hg x0 x1 xv hr
  have h2 : orbS fs v x k ⊆ mineU fs v fs.length := by
    intro y hy
    unfold orbS at hy
    rw [List.mem_map] at hy
    obtain ⟨i, hi, rfl⟩ := hy
    rw [List.mem_range] at hi
    exact mem_mineU.2 (run_mem hg x0 x1 xv hr i hi)
  have := List.Nodup.length_le_of_subset h1 h2
  rw [orb_len] at this
  exact this
end
def stopK (fs : List (List Int)) (v x : Int) : Nat := (List.range (fs.length + 1)).findIdx fun k => decide (1 ≤ k ∧ (iterS (stepS fs v) x k < 0 ∨ iterS (stepS fs v) x k = x))
def isStop (fs : List (List Int)) (v x : Int) (k : Nat) : Prop := 1 ≤ k ∧ (iterS (stepS fs v) x k < 0 ∨ iterS (stepS fs v) x k = x)
instance (fs : List (List Int)) (v x : Int) (k : Nat) : Decidable (isStop fs v x k) := by unfold isStop; exact inferInstance
theorem stop_of {fs : List (List Int)} {v x : Int} {k : Nat} (hk : k ≤ fs.length) (hr : Runs fs v x k) (hs : isStop fs v x k) : k = stopK fs v x := by
  unfold stopK
  symm
  rw [List.findIdx_eq (by simp; omega)]
  refine ⟨by simpa [isStop] using hs, fun j hj => ?_⟩
  have := hr j hj
  simp only [List.getElem_range, Bool.not_eq_eq_eq_not, Bool.not_true, decide_eq_false_iff_not]
  omega
def roundB (fs : List (List Int)) (v : Int) : Bool := decide (firstN fs v fs.length < 0)
def headS (fs : List (List Int)) (v : Int) : Int := if firstN fs v fs.length < 0 then at_ (mineU fs v fs.length) 0 else firstN fs v fs.length
def fanL (fs : List (List Int)) (v : Int) : List Int := if mineU fs v fs.length = [] then [] else orbS fs v (headS fs v) (stopK fs v (headS fs v))
def fanR (fs : List (List Int)) (v : Int) : Bool := if mineU fs v fs.length = [] then false else roundB fs v
def fanOK (fs : List (List Int)) (v : Int) : Bool := if mineU fs v fs.length = [] then false else decide ((fanL fs v).length = (mineU fs v fs.length).length)
theorem first_le (fs : List (List Int)) (v : Int) (n : Nat) : -1 ≤ firstN fs v n ∧ firstN fs v n < n ∧ (0 ≤ firstN fs v n → v ∈ at_ fs (firstN fs v n)) := by
  induction n with
  | zero => simp [firstN]
  | succ n ih =>
    unfold firstN
    split
    · rename_i h; exact ⟨by omega, by omega, fun _ => h.1⟩
    · exact ⟨ih.1, by omega, ih.2.2⟩
theorem head_mem {fs : List (List Int)} {v : Int} (h : mineU fs v fs.length ≠ []) : headS fs v ∈ mineU fs v fs.length := by
  unfold headS
  split
  · exact at_mem (by omega) (by have := List.length_pos_iff.2 h; omega)
  · have := first_le fs v fs.length
    exact mem_mineU.2 ⟨by omega, by omega, this.2.2 (by omega)⟩
theorem mine_le (fs : List (List Int)) (v : Int) (n : Nat) : (mineU fs v (n : Int)).length ≤ n := by
  induction n with
  | zero => simp [mineU]
  | succ n ih =>
    have e : ((n + 1 : Nat) : Int) = (n : Int) + 1 := by omega
    rw [e]
    by_cases h : v ∈ at_ fs (n : Int)
    · rw [mine_T (by omega) h]; simp; omega
    · rw [mine_F (by omega) h]; omega
theorem runs_step {fs : List (List Int)} {v x : Int} {k : Nat} (hr : Runs fs v x k) (h0 : 0 ≤ iterS (stepS fs v) x k) (h1 : k = 0 ∨ iterS (stepS fs v) x k ≠ x) : Runs fs v x (k + 1) := by
  intro i hi
  by_cases e : i = k
  · subst e; exact ⟨h0, h1⟩
  · exact hr i (by omega)
def eAt (fs : List (List Int)) (a b : Int) : List Ed := if 0 ≤ alongS fs a b ∨ 0 ≤ alongS fs b a then [⟨a, b, alongS fs a b, alongS fs b a⟩] else []
def eIn (fs : List (List Int)) (a b : Int) : List Ed := (List.range b.toNat).flatMap fun (k : Nat) => if a < k then eAt fs a k else []
def eOut (fs : List (List Int)) (n a : Int) : List Ed := (List.range a.toNat).flatMap fun (j : Nat) => eIn fs j n
def fansU (fs : List (List Int)) (c : Int) : List (List Int) := (List.range c.toNat).map fun (k : Nat) => fanL fs k
def rndU (fs : List (List Int)) (c : Int) : List Bool := (List.range c.toNat).map fun (k : Nat) => fanR fs k
theorem map_step {α : Type} {g : Nat → α} {i : Int} (h0 : 0 ≤ i) : (List.range (i + 1).toNat).map g = (List.range i.toNat).map g ++ [g i.toNat] := by
  have e : (i + 1).toNat = i.toNat + 1 := by omega
  rw [e, List.range_succ]; simp
theorem fansU_step {fs : List (List Int)} {c : Int} (h0 : 0 ≤ c) : fansU fs (c + 1) = fansU fs c ++ [fanL fs c] := by unfold fansU; rw [map_step h0, Int.toNat_of_nonneg h0]
theorem rndU_step {fs : List (List Int)} {c : Int} (h0 : 0 ≤ c) : rndU fs (c + 1) = rndU fs c ++ [fanR fs c] := by unfold rndU; rw [map_step h0, Int.toNat_of_nonneg h0]
def okS (v : Int) (fs : List (List Int)) : Prop := 0 ≤ v ∧ goodS v fs ∧ ∀ c : Int, 0 ≤ c → c < v → fanOK fs c = true
noncomputable instance (v : Int) (fs : List (List Int)) : Decidable (okS v fs) := Classical.propDecidable _
noncomputable def buildT (v : Int) (fs : List (List Int)) : Tp := if okS v fs then ⟨eOut fs v v, fansU fs v, rndU fs v⟩ else ⟨[], [], []⟩
noncomputable def buildE (v : Int) (fs : List (List Int)) : Int := if okS v fs then 0 else 14
theorem build_no {v : Int} {fs : List (List Int)} (h : ¬ okS v fs) : buildT v fs = ⟨[], [], []⟩ ∧ buildE v fs = 14 := by simp [buildT, buildE, h]
theorem build_ok {v : Int} {fs : List (List Int)} (h : okS v fs) : buildT v fs = ⟨eOut fs v v, fansU fs v, rndU fs v⟩ ∧ buildE v fs = 0 := by simp [buildT, buildE, h]
end Go.Proofs.T
namespace Go.Proofs.T
open Go Go.AH Go.Maps
set_option maxRecDepth 20000
theorem laid : laidOutB Try.prog = true := by kernel_rfl
theorem row_lt {a b : Nat} (h : Nat.ble (a + 1) b = true) : a < b := Nat.le_of_ble_eq_true h
theorem tm52 : TMap Try.prog 85 115 3 := TMap.mk' laid (m := 5) (by decide) rfl (row_lt (by kernel_rfl)) (by kernel_rfl) (by kernel_rfl)
theorem kok63 {a b : Int} (ha : inR a) (hb : inR b) : KOK Try.prog 115 (.agg [.int .i64 a, .int .i64 b]) :=
  KOK.ints (xs := [a, b]) rfl (by kernel_rfl) (by kernel_rfl) rfl (by kernel_rfl) rfl rfl (by simp [ha, hb])
theorem tm55 : TMap Try.prog 88 3 38 := ⟨rfl, int_keyed (q := .i64) rfl⟩
theorem kok3 {a : Int} (h : inR a) : KOK Try.prog 3 (.int .i64 a) := KOK.int rfl h
end Go.Proofs.T
namespace Go.Proofs.T
open Go Go.AH
set_option maxRecDepth 20000
def eS (s : (Int × Int) × Nat) : AV × AV := (.agg (eW s.1), .int .i64 (s.2 : Int))
def KR (L : List ((Int × Int) × Nat)) : Prop := ∀ s ∈ L, inR s.1.1 ∧ inR s.1.2
theorem eW_inj {a b : Int × Int} : AV.agg (eW a) = AV.agg (eW b) ↔ a = b := by
  rw [AV.agg.injEq]; exact (eW_iff a b).symm
theorem mgetL (L : List ((Int × Int) × Nat)) (a b : Int) : mget (L.map eS) (.agg (eW (a, b))) = match hitsL L a b with | [] => none | f :: _ => some (.int .i64 (f : Int)) := by
  induction L with
  | nil => rfl
  | cons s L ih =>
    unfold mget at ih ⊢
    rw [List.map_cons, List.find?_cons]
    by_cases h : s.1 = (a, b)
    · have h1 : hitsL (s :: L) a b = s.2 :: hitsL L a b := by simp [hitsL, h]
      rw [h1]
      have h2 : (eS s).1 = .agg (eW (a, b)) := by show AV.agg (eW s.1) = _; rw [h]
      simp only [h2, decide_true]
      rfl
    · have h1 : hitsL (s :: L) a b = hitsL L a b := by simp [hitsL, h]
      rw [h1]
      have h2 : ¬ (eS s).1 = .agg (eW (a, b)) := fun e => h (eW_inj.1 e)
      simp only [h2, decide_false]
      exact ih
theorem mputL {L : List ((Int × Int) × Nat)} {w : Int × Int} {f : Nat} (h : hitsL L w.1 w.2 = []) : mput (L.map eS) (.agg (eW w)) (.int .i64 (f : Int)) = (L ++ [(w, f)]).map eS := by
  unfold mput
  have := mgetL L w.1 w.2
  rw [h] at this
  have e : ((w.1, w.2) : Int × Int) = w := rfl
  rw [e] at this
  rw [this]
  simp [eS]
theorem kes {L : List ((Int × Int) × Nat)} (h : KR L) : ∀ e ∈ L.map eS, KOK Try.prog 115 e.1 := by
  intro e he
  obtain ⟨s, hs, rfl⟩ := List.mem_map.1 he
  exact kok63 (h s hs).1 (h s hs).2
def addF (n : Int) (fs : List (List Int)) (f : Int) : Prop := 3 ≤ ((at_ fs f).length : Int) ∧ (∀ i : Int, 0 ≤ i → i < (at_ fs f).length → 0 ≤ at_ (at_ fs f) i ∧ at_ (at_ fs f) i < n) ∧
  Apart (at_ fs f) ∧ ∀ i : Int, 0 ≤ i → i < (at_ fs f).length → hitsL (psides fs f i) (at_ (at_ fs f) i) (at_ (at_ fs f) ((i + 1) % (at_ fs f).length)) = []
def Keys (L : List ((Int × Int) × Nat)) : Prop := (L.map Prod.fst).Nodup
theorem keys_step {L : List ((Int × Int) × Nat)} {w : Int × Int} {f : Nat} (h : Keys L) (hn : hitsL L w.1 w.2 = []) : Keys (L ++ [(w, f)]) := by
  unfold Keys at h ⊢
  rw [List.map_append, List.nodup_append]
  refine ⟨h, by simp, fun x hx y hy => ?_⟩
  simp at hy; subst hy
  rintro rfl
  obtain ⟨s, hs, e⟩ := List.mem_map.1 hx
  have : s.2 ∈ hitsL L x.1 x.2 := mem_hits.2 (by rw [show ((x.1, x.2) : Int × Int) = x from rfl, ← e]; exact hs)
  rw [hn] at this
  simp at this
theorem keys_hits {L : List ((Int × Int) × Nat)} (h : Keys L) (a b : Int) : (hitsL L a b).length ≤ 1 := by
  induction L with
  | nil => simp [hitsL]
  | cons s L ih =>
    unfold Keys at h
    rw [List.map_cons, List.nodup_cons] at h
    by_cases e : s.1 = (a, b)
    · have h0 : hitsL L a b = [] := by
        apply List.eq_nil_iff_forall_not_mem.2
        intro f hf
        exact h.1 (List.mem_map.2 ⟨((a, b), f), mem_hits.1 hf, e.symm⟩)
      have h1 : hitsL (s :: L) a b = s.2 :: hitsL L a b := by simp [hitsL, e]
      rw [h1, h0]; simp
    · have h1 : hitsL (s :: L) a b = hitsL L a b := by simp [hitsL, e]
      rw [h1]; exact ih h.2
theorem add_keys {n : Int} {fs : List (List Int)} {k : Nat} (hk : k ≤ fs.length) (h : ∀ f : Int, 0 ≤ f → f < k → addF n fs f) : Keys (sides (fs.take k)) := by
  induction k with
  | zero => simp [Keys, sides, sidesFrom]
  | succ k ih =>
    have hf := h k (by omega) (by omega)
    have key : ∀ i : Nat, (i : Int) ≤ (at_ fs (k : Int)).length → Keys (psides fs k i) := by
      intro i
      induction i with
      | zero => intro _; rw [show ((0 : Nat) : Int) = 0 from rfl, psides_0]; exact ih (by omega) fun f h0 h1 => h f h0 (by omega)
      | succ i ihi =>
        intro hi
        rw [show ((i + 1 : Nat) : Int) = (i : Int) + 1 by omega, psides_step (by omega) (by omega)]
        exact keys_step (ihi (by omega)) (hf.2.2.2 i (by omega) (by omega))
    have := key (at_ fs (k : Int)).length (Int.le_refl _)
    rw [psides_end (by omega) (by omega) (Int.le_refl _)] at this
    exact this
theorem along_keys {fs : List (List Int)} (h : Keys (sides fs)) (a b : Int) : (0 ≤ alongS fs a b ↔ hitsL (sides fs) a b ≠ []) ∧ (alongS fs a b = -1 ∨ 0 ≤ alongS fs a b) := by
  have hl := keys_hits h a b
  unfold alongS
  rcases alongL_cases (sides fs) a b with ⟨h1, h2⟩ | ⟨g, h1, h2⟩ | ⟨h1, h2⟩
  · rw [h1, h2]; simp
  · rw [h1, h2]; simp
  · omega
theorem good_add {n : Int} {fs : List (List Int)} : goodS n fs ↔ ∀ f : Int, 0 ≤ f → f < fs.length → addF n fs f := by
  constructor
  · intro hg f h0 h1
    have hf := hg f h0 h1
    refine ⟨hf.1, hf.2.1, hf.2.2.1, fun i i0 i1 => ?_⟩
    have ha := hf.2.2.2 i i0 i1
    obtain ⟨M, hM⟩ := psides_pre (fs := fs) (f := f) (i := i + 1) h0 h1
    rw [psides_step i0 i1] at hM
    unfold alongS at ha
    rcases alongL_cases (sides fs) (at_ (at_ fs f) i) (at_ (at_ fs f) ((i + 1) % (at_ fs f).length)) with ⟨_, h2⟩ | ⟨g, h3, _⟩ | ⟨_, h2⟩
    · omega
    · rw [hM, hitsL_append, hitsL_append] at h3
      have e : hitsL [((at_ (at_ fs f) i, at_ (at_ fs f) ((i + 1) % (at_ fs f).length)), f.toNat)] (at_ (at_ fs f) i) (at_ (at_ fs f) ((i + 1) % (at_ fs f).length)) = [f.toNat] := by simp [hitsL]
      rw [e] at h3
      have := congrArg List.length h3
      simp only [List.length_append, List.length_cons, List.length_nil] at this
      exact List.eq_nil_of_length_eq_zero (by omega)
    · omega
  · intro h f h0 h1
    have hf := h f h0 h1
    have hk := add_keys (Nat.le_refl fs.length) (fun f g0 g1 => h f g0 g1)
    rw [List.take_length] at hk
    refine ⟨hf.1, hf.2.1, hf.2.2.1, fun i i0 i1 => ?_⟩
    rw [(along_keys hk _ _).1]
    intro e
    have : f.toNat ∈ hitsL (sides fs) (at_ (at_ fs f) i) (at_ (at_ fs f) ((i + 1) % (at_ fs f).length)) := by
      rw [mem_hits, mem_sides]
      refine ⟨by omega, ?_⟩
      rw [Int.toNat_of_nonneg h0]
      exact mem_wayF.2 ⟨i, i0, i1, rfl, rfl⟩
    rw [e] at this; simp at this
theorem good_keys {n : Int} {fs : List (List Int)} (h : goodS n fs) : Keys (sides fs) := by
  have := add_keys (Nat.le_refl fs.length) (fun f g0 g1 => good_add.1 h f g0 g1)
  rwa [List.take_length] at this
theorem psides_KR {n : Int} {fs : List (List Int)} (hn : n ≤ 1000) {f i : Int} (h0 : 0 ≤ f) (h : ∀ g : Int, 0 ≤ g → g < f → g < fs.length → ∀ i : Int, 0 ≤ i → i < (at_ fs g).length → 0 ≤ at_ (at_ fs g) i ∧ at_ (at_ fs g) i < n)
    (hf : ∀ i : Int, 0 ≤ i → i < (at_ fs f).length → 0 ≤ at_ (at_ fs f) i ∧ at_ (at_ fs f) i < n) : KR (psides fs f i) := by
  have hw : ∀ l : List Int, (∀ i : Int, 0 ≤ i → i < l.length → 0 ≤ at_ l i ∧ at_ l i < n) → ∀ w ∈ wayF l, inR w.1 ∧ inR w.2 := by
    intro l hl w hw
    obtain ⟨j, j0, j1, e1, e2⟩ := mem_wayF.1 (show (w.1, w.2) ∈ wayF l from hw)
    have h1 := hl j j0 j1
    have h2 := mod_in (x := j + 1) (y := l.length) (by omega)
    have h3 := hl _ h2.1 h2.2
    rw [← e1] at h1
    rw [← e2] at h3
    unfold inR
    omega
  intro s hs
  unfold psides at hs
  rcases List.mem_append.1 hs with hs | hs
  · obtain ⟨h1, h2⟩ := mem_sides.1 (show (s.1, s.2) ∈ sides (fs.take f.toNat) from hs)
    rw [List.length_take] at h1
    have e : at_ (fs.take f.toNat) (s.2 : Int) = at_ fs (s.2 : Int) := by
      unfold at_
      simp only [Int.toNat_natCast, List.getD_eq_getElem?_getD, List.getElem?_take]
      rw [if_pos (by omega)]
    rw [e] at h2
    exact hw _ (h s.2 (by omega) (by omega) (by omega)) _ h2
  · obtain ⟨w, h1, rfl⟩ := List.mem_map.1 hs
    exact hw _ hf w (List.mem_of_mem_take h1)
theorem good_KR {n : Int} {fs : List (List Int)} (hn : n ≤ 1000) (hg : goodS n fs) : KR (sides fs) := by
  intro s hs
  obtain ⟨h1, h2⟩ := mem_sides.1 (show (s.1, s.2) ∈ sides fs from hs)
  obtain ⟨j, j0, j1, e1, e2⟩ := mem_wayF.1 (show (s.1.1, s.1.2) ∈ wayF _ from h2)
  have g1 := (hg s.2 (by omega) (by omega)).2.1 j j0 j1
  have g2 := mod_in (x := j + 1) (y := (at_ fs (s.2 : Int)).length) (by omega)
  have g3 := (hg s.2 (by omega) (by omega)).2.1 _ g2.1 g2.2
  rw [← e1] at g1
  rw [← e2] at g3
  unfold inR
  omega
def gotA (fs : List (List Int)) (a b : Int) : Int := if 0 ≤ alongS fs a b then alongS fs a b else 0
theorem look_sides {fs : List (List Int)} (h : Keys (sides fs)) (a b : Int) : (mget ((sides fs).map eS) (.agg (eW (a, b)))).getD (.int .i64 0) = .int .i64 (gotA fs a b) ∧ (mget ((sides fs).map eS) (.agg (eW (a, b)))).isSome = decide (0 ≤ alongS fs a b) := by
  rw [mgetL]
  have hk := (along_keys h a b).1
  unfold gotA
  unfold alongS at hk ⊢
  rcases alongL_cases (sides fs) a b with ⟨h1, h2⟩ | ⟨g, h1, h2⟩ | ⟨h1, h2⟩
  · rw [h1, h2]; simp
  · rw [h1, h2]; simp
  · have := keys_hits h a b; omega
theorem look_hits (L : List ((Int × Int) × Nat)) (a b : Int) : ∃ x : Int, (mget (L.map eS) (.agg (eW (a, b)))).getD (.int .i64 0) = .int .i64 x ∧ (mget (L.map eS) (.agg (eW (a, b)))).isSome = !decide (hitsL L a b = []) := by
  rw [mgetL]
  cases hitsL L a b with
  | nil => exact ⟨0, rfl, by simp⟩
  | cons f l => exact ⟨f, rfl, by simp⟩
theorem beside_eq {l : List Int} {v b : Int} (h : v ∈ l) : at_ l ((ixI l v + b + l.length) % l.length) = nextS l v b := by
  unfold ixI nextS
  rw [if_pos h, if_pos h]
  congr 2
  omega
theorem ix_in {l : List Int} {v : Int} (h : v ∈ l) : 0 ≤ ixI l v ∧ ixI l v < l.length := by
  unfold ixI; rw [if_pos h]
  have := List.idxOf_lt_length_of_mem h
  omega
def hide (H : Heap) (m : Nat) : Heap := fun i => if i = m then none else H i
theorem hide_mono (H : Heap) (m : Nat) : Mono (hide H m) H := fun i B h => by
  unfold hide at h; split at h
  · cases h
  · exact h
theorem hide_none (H : Heap) (m : Nat) : hide H m m = none := by simp [hide]
end Go.Proofs.T
namespace Go.Proofs.T
open Go Go.AH
def badF (fs : List (List Int)) (v f : Int) : Bool := decide (alongS fs (nextS (at_ fs f) v 1) v < 0)
def foldB (fs : List (List Int)) (v : Int) (l : List Int) (x : Int) : Int := l.foldl (fun x f => if badF fs v f then f else x) x
def allG (fs : List (List Int)) (v : Int) (l : List Int) : Bool := l.all fun f => !badF fs v f
theorem foldB_step (fs : List (List Int)) (v : Int) (l : List Int) (x f : Int) : foldB fs v (l ++ [f]) x = if badF fs v f then f else foldB fs v l x := by simp [foldB]
theorem allG_step (fs : List (List Int)) (v : Int) (l : List Int) (f : Int) : allG fs v (l ++ [f]) = (allG fs v l && !badF fs v f) := by simp [allG]
theorem fold_mine (fs : List (List Int)) (v x : Int) (n : Nat) : foldB fs v (mineU fs v (n : Int)) x = (if firstN fs v n < 0 then x else firstN fs v n) ∧ allG fs v (mineU fs v (n : Int)) = decide (firstN fs v n < 0) := by
  induction n with
  | zero => simp [mineU, firstN, foldB, allG]
  | succ n ih =>
    have e : ((n + 1 : Nat) : Int) = (n : Int) + 1 := by omega
    rw [e]
    by_cases h : v ∈ at_ fs (n : Int)
    · rw [mine_T (by omega) h, foldB_step, allG_step, ih.1, ih.2]
      unfold badF
      by_cases hb : alongS fs (nextS (at_ fs (n : Int)) v 1) v < 0
      · have : firstN fs v (n + 1) = (n : Int) := by rw [firstN, if_pos ⟨h, hb⟩]
        rw [this]; simp [hb]; omega
      · have : firstN fs v (n + 1) = firstN fs v n := by rw [firstN, if_neg (fun g => hb g.2)]
        rw [this]; simp [hb]
    · rw [mine_F (by omega) h]
      have : firstN fs v (n + 1) = firstN fs v n := by rw [firstN, if_neg (fun g => h g.1)]
      rw [this]; exact ih
theorem fold_head {fs : List (List Int)} {v : Int} : foldB fs v (mineU fs v fs.length) (at_ (mineU fs v fs.length) 0) = headS fs v ∧ allG fs v (mineU fs v fs.length) = roundB fs v := fold_mine fs v _ _
theorem fold_T {fs : List (List Int)} {v i x : Int} {l : List Int} (h0 : 0 ≤ i) (h1 : i < l.length) (hb : alongS fs (nextS (at_ fs (at_ l i)) v 1) v < 0) : foldB fs v (l.take (i + 1).toNat) x = at_ l i ∧ allG fs v (l.take (i + 1).toNat) = false := by
  rw [take_step h0 h1, foldB_step, allG_step]; unfold badF; simp [hb]
theorem fold_F {fs : List (List Int)} {v i x : Int} {l : List Int} (h0 : 0 ≤ i) (h1 : i < l.length) (hb : ¬ alongS fs (nextS (at_ fs (at_ l i)) v 1) v < 0) : foldB fs v (l.take (i + 1).toNat) x = foldB fs v (l.take i.toNat) x ∧ allG fs v (l.take (i + 1).toNat) = allG fs v (l.take i.toNat) := by
  rw [take_step h0 h1, foldB_step, allG_step]; unfold badF; simp [hb]
theorem runs_one {fs : List (List Int)} {v x : Int} (h : 0 ≤ x) : Runs fs v x 1 := fun i hi => by
  have : i = 0 := by omega
  subst this; exact ⟨h, .inl rfl⟩
theorem iter_pred {fs : List (List Int)} {v x : Int} {k : Nat} (h : 1 ≤ k) : alongS fs v (nextS (at_ fs (iterS (stepS fs v) x (k - 1))) v (-1)) = iterS (stepS fs v) x k := by
  obtain ⟨m, rfl⟩ : ∃ m, k = m + 1 := ⟨k - 1, by omega⟩
  rfl
theorem orb_last {fs : List (List Int)} {v x : Int} {k : Nat} (h : 1 ≤ k) : at_ (orbS fs v x k) (((orbS fs v x k).length : Int) - 1) = iterS (stepS fs v) x (k - 1) := by
  rw [orb_len]
  have e : ((k : Int) - 1).toNat = k - 1 := by omega
  unfold at_ orbS
  rw [e]
  have : k - 1 < k := by omega
  simp [this]
theorem next_in {n v : Int} {fs : List (List Int)} (hg : goodS n fs) {f : Int} (h0 : 0 ≤ f) (h1 : f < fs.length) (hv : v ∈ at_ fs f) (b : Int) : 0 ≤ nextS (at_ fs f) v b ∧ nextS (at_ fs f) v b < n := by
  unfold nextS
  rw [if_pos hv]
  have hn : (0 : Int) < (at_ fs f).length := by have := List.length_pos_of_mem hv; omega
  have hm := mod_in (x := ((at_ fs f).idxOf v : Int) + (at_ fs f).length + b) hn
  exact (hg f h0 h1).2.1 _ hm.1 hm.2
theorem take_mem {l : List Int} {i v : Int} (h0 : 0 ≤ i) (h1 : i ≤ l.length) (h : v ∈ l.take i.toNat) : ∃ k : Int, 0 ≤ k ∧ k < i ∧ at_ l k = v := by
  obtain ⟨k, g0, g1, g2⟩ := mem_at h
  rw [List.length_take] at g1
  refine ⟨k, g0, by omega, ?_⟩
  rw [← g2]
  unfold at_
  simp only [List.getD_eq_getElem?_getD, List.getElem?_take]
  rw [if_pos (by omega)]
theorem apart_step {l : List Int} {i : Int} (h0 : 0 ≤ i) (h1 : i < l.length) (h : ∀ j k : Int, 0 ≤ k → k < j → j < i → at_ l j ≠ at_ l k) (hn : ¬ at_ l i ∈ l.take i.toNat) : ∀ j k : Int, 0 ≤ k → k < j → j < i + 1 → at_ l j ≠ at_ l k := by
  intro j k k0 k1 j1
  by_cases e : j = i
  · subst e
    intro e
    apply hn
    rw [e]
    have h2 : k.toNat < (l.take j.toNat).length := by rw [List.length_take]; omega
    have := List.getElem_mem h2
    have h3 : k.toNat < l.length := by omega
    rw [List.getElem_take] at this
    simpa [at_, h3] using this
  · exact h j k k0 k1 (by omega)
end Go.Proofs.T
namespace Go.Proofs.T
open Go Go.AH
set_option maxRecDepth 4000
structure VT where
  X : Int
  Y : Int
  Z : Int
  deriving DecidableEq, Inhabited
def eV (x : VT) : List AV := [.int .i64 x.X, .int .i64 x.Y, .int .i64 x.Z]
theorem eV_len (x : VT) : (eV x).length = 3 := rfl
theorem eV_one (x : VT) : (eV x).all AV.one = true := rfl
theorem eV_iff (a b : VT) : a = b ↔ eV a = eV b := by
  refine ⟨fun h => by rw [h], fun h => ?_⟩
  obtain ⟨_, _, _⟩ := a; obtain ⟨_, _, _⟩ := b
  simp [eV] at h
  simp [h]
structure BoxT where
  Lo : VT
  Hi : VT
  deriving DecidableEq, Inhabited
structure CrT where
  A : Int
  B : Int
  S : Int
  deriving DecidableEq, Inhabited
def eCr (x : CrT) : List AV := [.int .i64 x.A, .int .i64 x.B, .int .i64 x.S]
theorem eCr_len (x : CrT) : (eCr x).length = 3 := rfl
theorem eCr_one (x : CrT) : (eCr x).all AV.one = true := rfl
structure CageT where
  Verts : (List VT)
  Faces : (List (List Int))
  Creases : (List CrT)
  deriving DecidableEq, Inhabited
end Go.Proofs.T
