/- A part of the proof that a law of the edges and fans of faces answers true for every input of its bulk: own work, by an AI agent. -/
import Derived.Test.YtfgfalidpbbkhaaAH9
set_option linter.unusedVariables false
set_option linter.unusedSimpArgs false
namespace Go.AH
open Go Go.Maps

/-- Two slices over rows of their own. -/
def Sep (v w : AV) : Prop := ∀ i a b c d i' a' b' c' d', v = .slm i a b c d → w = .slm i' a' b' c' d' → i ≠ i'
theorem Sep.symm {v w : AV} (h : Sep v w) : Sep w v := fun _ _ _ _ _ _ _ _ _ _ h1 h2 e => h _ _ _ _ _ _ _ _ _ _ h2 h1 e.symm
theorem Sep.nilL (w : AV) : Sep .snil w := fun _ _ _ _ _ _ _ _ _ _ h => by cases h
theorem Sep.nilR (w : AV) : Sep w .snil := fun _ _ _ _ _ _ _ _ _ _ _ h => by cases h
theorem Sep.notId {v w : AV} (h : Sep w v) {i a b c d : Nat} (e : w = .slm i a b c d) : NotId v i := fun _ _ _ _ _ hv => h _ _ _ _ _ _ _ _ _ _ e hv
theorem Sep.ofNotId {v : AV} {i a b c d : Nat} (h : NotId v i) : Sep (.slm i a b c d) v := fun _ _ _ _ _ _ _ _ _ _ e1 e2 => by
  cases e1
  exact h _ _ _ _ _ e2
theorem Sep.ofNotId' {v : AV} {i a b c d : Nat} (h : NotId v i) : Sep v (.slm i a b c d) := (Sep.ofNotId h).symm
theorem NotId.slm {i j a b c d : Nat} (h : j ≠ i) : NotId (.slm i a b c d) j := fun _ _ _ _ _ e => by cases e; exact h

section
variable {H0 H H' : Heap} {es len : Nat} {v v' w : AV} {cells : List AV}
theorem Own.stay (h : Own H0 H es w len cells) (hs : Sep w v) (hk : ∀ i, NotId v i → H i ≠ none → H' i = H i) : Own H0 H' es w len cells := by
  rcases h with h | ⟨id, ver, h1, h2, h3⟩
  · exact .inl h
  · exact .inr ⟨id, ver, h1, (hk id (hs.notId h1) (by rw [h2]; simp)).trans h2, h3⟩
theorem Own.sep (h : Own H0 H es w len cells) (hs : Sep w v) (hk : ∀ i, NotId v i → H i ≠ none → NotId v' i) : Sep w v' := by
  rcases h with ⟨h, _⟩ | ⟨id, ver, h1, h2, h3⟩
  · subst h; exact .nilL _
  · subst h1; exact .ofNotId (hk id (hs.notId rfl) (by rw [h2]; simp))
theorem Own.free (h : Own H0 H es w len cells) {B : AB} {i : Nat} (hi : H0 i = some B) : NotId w i := by
  rcases h with ⟨h, _⟩ | ⟨id, ver, h1, h2, h3, _⟩
  · subst h; exact .nil i
  · subst h1; exact .slm fun e => by subst e; rw [hi] at h3; cases h3
theorem Own.pos (h : Own H0 H es v len cells) (hl : 0 < len) : ∃ id ver, v = .slm id ver es 0 len ∧ H id = some (.row ver cells) ∧ H0 id = none ∧ cells.length = len * es := by
  rcases h with ⟨_, h, _⟩ | h
  · omega
  · exact h
theorem Own.re {k : Nat} {cs : List AV} (h : Own H0 H es v len cells) (hk : len = k) (hc : cells = cs) : Own H0 H es v k cs := hk ▸ hc ▸ h

/-- A slice that is given up for its value: in a slot, and in a cell of another row. -/
theorem Ghost.own {n t : Nat} {f : Nat → AV} (h : Own H0 H es v len cells) (ht : f t = v) (hm : Mono H0 H) :
    ∃ H', Ghost n f H (upd f t (.sl len cells)) H' ∧ Mono H0 H' ∧ (∀ i, NotId v i → H' i = H i) := by
  rcases h with ⟨h1, h2, h3⟩ | ⟨id, ver, h1, h2, h3, h4⟩
  · subst h1 h2 h3; exact ⟨H, .nil ht, hm, fun _ _ => rfl⟩
  · subst h1
    refine ⟨updH H id (.dead ver), ?_, hm.set h3 fun _ h => updH_ne _ _ h, fun i hi => updH_ne _ _ (hi _ _ _ _ _ rfl)⟩
    have := Ghost.freeze (n := n) h2 ht (by omega)
    rwa [List.take_of_length_le (by omega)] at this
theorem Ghost.trans {n : Nat} {f f1 f2 : Nat → AV} {H1 H2 : Heap} (a : Ghost n f H f1 H1) (b : Ghost n f1 H1 f2 H2) : Ghost n f H f2 H2 := fun μ s w hs =>
  let ⟨h1, h2⟩ := a μ s w hs
  let ⟨g1, g2⟩ := b μ s w h1
  ⟨g1, h2.trans g2⟩
theorem Ghost.refl {n : Nat} {f : Nat → AV} : Ghost n f H f H := fun _ _ _ hs => ⟨hs, .refl _ _ _⟩
theorem Ghost.ownCell {n k rid ver : Nat} {f : Nat → AV} {rc : List AV} (h : Own H0 H es v len cells) (hr : H rid = some (.row ver rc)) (h0 : H0 rid = none) (hk : rc[k]? = some v) (hne : NotId v rid) (hm : Mono H0 H) :
    ∃ H', Ghost n f H f H' ∧ H' rid = some (.row ver (rc.set k (.sl len cells))) ∧ Mono H0 H' ∧ (∀ i, i ≠ rid → NotId v i → H' i = H i) := by
  have hkl : k < rc.length := by
    rcases Nat.lt_or_ge k rc.length with h | h
    · exact h
    · rw [List.getElem?_eq_none h] at hk; cases hk
  rcases h with ⟨h1, h2, h3⟩ | ⟨id, fver, h1, h2, h3, h4⟩
  · subst h1 h2 h3
    refine ⟨updH H rid (.row ver (rc.set k (.sl 0 []))), ?_, updH_same _ _ _, hm.set h0 fun _ h => updH_ne _ _ h, fun i hi _ => updH_ne _ _ hi⟩
    intro μ a w hs
    obtain ⟨g1, g2⟩ := recell (cells' := rc.set k (.sl 0 [])) hs.hr hr (by simp) fun j x x' y hx hx' hv => by
      rw [List.getElem?_set] at hx'
      split at hx'
      · rename_i e; subst e
        simp only [hkl, if_true, Option.some.injEq] at hx'
        subst hx'
        rw [hk] at hx; cases hx
        exact VR.nil_sl hv
      · rw [hx] at hx'; cases hx'; exact hv
    exact ⟨⟨g2, hs.size, fun u => (hs.slots u).ext g1, hs.defers⟩, g1⟩
  · subst h1
    have hid : rid ≠ id := hne _ _ _ _ _ rfl
    have hr1 : updH H id (.dead fver) rid = some (.row ver rc) := (updH_ne _ _ hid).trans hr
    refine ⟨updH (updH H id (.dead fver)) rid (.row ver (rc.set k (.sl len cells))), ?_, updH_same _ _ _, (hm.set h3 fun _ h => updH_ne _ _ h).set h0 fun _ h => updH_ne _ _ h, fun i hi hn => (updH_ne _ _ hi).trans (updH_ne _ _ (hn _ _ _ _ _ rfl))⟩
    intro μ a w hs
    obtain ⟨f1, f2, f3⟩ := AH.freeze hs.hr h2
    obtain ⟨cs, T, b1, b2, b3⟩ := hs.hr.rows rid ver rc hr
    obtain ⟨g1, g2⟩ := setrow (.refl _) f2 (cells' := rc.set k (.sl len cells)) (Nat.le_refl ver) hr1 b1 b1 rfl (fun _ _ => rfl) rfl (by simpa using b2) fun j x' hx => by
      rw [List.getElem?_set] at hx
      split at hx
      · rename_i e; subst e
        simp only [hkl, if_true, Option.some.injEq] at hx
        subst hx
        obtain ⟨y, k1, k2⟩ := b3 k _ hk
        have := freeze_VR hs.hr h2 (es := es) (off := 0) (len := len) (by omega) k2
        rw [List.drop_zero, List.take_of_length_le (by omega)] at this
        exact ⟨y, k1, this⟩
      · obtain ⟨y, k1, k2⟩ := b3 j x' hx
        exact ⟨y, k1, k2.ext f1⟩
    exact ⟨⟨g2, hs.size, fun u => (hs.slots u).ext (f1.trans g1), hs.defers⟩, f1.trans g1⟩
end

theorem Own.stay2 {H0 H H' : Heap} {es len rid : Nat} {v w : AV} {cells : List AV} (h : Own H0 H es w len cells) (hs : Sep w v) (hr : NotId w rid) (hk : ∀ i, i ≠ rid → NotId v i → H' i = H i) : Own H0 H' es w len cells := by
  rcases h with h | ⟨id, ver, h1, h2, h3⟩
  · exact .inl h
  · exact .inr ⟨id, ver, h1, (hk id (fun e => hr _ _ _ _ _ h1 e.symm) (hs.notId h1)).trans h2, h3⟩
theorem AWP.unghost {P : Program} {n : Nat} {c : Code} {Q : Exit → (Nat → AV) → Heap → Prop} {f : Nat → AV} {H : Heap} (h : AWP P n c (fun e f H => ∃ f' H', Ghost n f H f' H' ∧ Q e f' H') f H) : AWP P n c Q f H := by
  intro μ a w hs
  refine wp_mono (h μ a w hs) ?_
  rintro e a' w' ⟨μ', f2, H2, g1, g2, f3, H3, g, q⟩
  obtain ⟨k1, k2⟩ := g _ _ _ g1
  exact ⟨μ', f3, H3, k1, g2.trans k2, q⟩
theorem ACalls.of_body' {P : Program} {g : FuncId} {fn : Func} {c : Code} {args : List AV} {H : Heap} {R : AV → Heap → Prop} {n : Nat}
    (hf : P.funcs[g]? = some fn) (hb : fn.body = some c) (hn : fn.ntmps = n) (hle : Nat.ble args.length n = true)
    (h : AWP P n c (fun e f H => ∃ f' H', Ghost n f H f' H' ∧ (e = .normal ∨ e = .ret) ∧ ∃ r, Res P n fn f' H' r ∧ R r H') (entry args) H) : ACalls P g args H R :=
  .of_body hf hb hn hle (.unghost h)
end Go.AH
namespace Go.AH
open Go
section
variable {P : Program} {n : Nat} {f : Nat → AV} {H : Heap} {K : (Nat → AV) → Heap → Prop} {ty : TypeId} {pos : String} {after : Array Edge} {guard : Option (Nat × Bool)} {d : Nat}
theorem AOp.indexAddrO {t : TypeId} {x ix : Operand} {k : IntKind} {i : Int} {len es id ver : Nat} {cells : List AV} (hn : Nat.ble (d + 1) n = true) (hx : ev f x = .slm id ver es 0 len) (hi : ev f ix = .int k i)
    (ht : TSlice P t es) (h0 : 0 ≤ i) (h1 : i < len) (hid : H id = some (.row ver cells)) (hK : K (upd f d (.ptr id ver (i.toNat * es))) H) : AOp P n ⟨some d, .indexAddr t x ix, ty, pos, after, guard⟩ K f H :=
  .indexAddrM hn hx hi ht h0 h1 ⟨_, hid⟩ (by rw [Nat.zero_add]; exact hK)
end
section
variable {P : Program} {n : Nat} {f : Nat → AV} {H H0 : Heap} {K : (Nat → AV) → Heap → Prop} {o : Oper} {c : Code} {Q : Exit → (Nat → AV) → Heap → Prop} {F : (Nat → AV) → Heap → Prop} {es len : Nat} {v : AV} {cells : List AV}
theorem AOp.frz (t : Nat) (h : Own H0 H es v len cells) (ht : f t = v) (hm : Mono H0 H) (hK : ∀ H', Mono H0 H' → (∀ i, NotId v i → H' i = H i) → AOp P n o K (upd f t (.sl len cells)) H') : AOp P n o K f H :=
  let ⟨H', g, m, k⟩ := Ghost.own (n := n) h ht hm
  .ghost g (hK H' m k)
theorem AWP.frz (t : Nat) (h : Own H0 H es v len cells) (ht : f t = v) (hm : Mono H0 H) (hK : ∀ H', Mono H0 H' → (∀ i, NotId v i → H' i = H i) → AWP P n c Q (upd f t (.sl len cells)) H') : AWP P n c Q f H :=
  let ⟨H', g, m, k⟩ := Ghost.own (n := n) h ht hm
  .ghost g (hK H' m k)
theorem Fin.frz (t : Nat) (h : Own H0 H es v len cells) (ht : f t = v) (hm : Mono H0 H) (hK : ∀ H', Mono H0 H' → (∀ i, NotId v i → H' i = H i) → ∃ f2 H2, Ghost n (upd f t (.sl len cells)) H' f2 H2 ∧ F f2 H2) : ∃ f2 H2, Ghost n f H f2 H2 ∧ F f2 H2 :=
  let ⟨H', g, m, k⟩ := Ghost.own (n := n) h ht hm
  let ⟨f2, H2, g2, q⟩ := hK H' m k
  ⟨f2, H2, g.trans g2, q⟩
variable {rid ver : Nat} {rc : List AV}
theorem AOp.frzCell (k : Nat) (h : Own H0 H es v len cells) (hr : H rid = some (.row ver rc)) (h0 : H0 rid = none) (hk : rc[k]? = some v) (hne : NotId v rid) (hm : Mono H0 H)
    (hK : ∀ H', H' rid = some (.row ver (rc.set k (.sl len cells))) → Mono H0 H' → (∀ i, i ≠ rid → NotId v i → H' i = H i) → AOp P n o K f H') : AOp P n o K f H :=
  let ⟨H', g, r, m, k⟩ := Ghost.ownCell (n := n) (f := f) h hr h0 hk hne hm
  .ghost g (hK H' r m k)
theorem AWP.frzCell (k : Nat) (h : Own H0 H es v len cells) (hr : H rid = some (.row ver rc)) (h0 : H0 rid = none) (hk : rc[k]? = some v) (hne : NotId v rid) (hm : Mono H0 H)
    (hK : ∀ H', H' rid = some (.row ver (rc.set k (.sl len cells))) → Mono H0 H' → (∀ i, i ≠ rid → NotId v i → H' i = H i) → AWP P n c Q f H') : AWP P n c Q f H :=
  let ⟨H', g, r, m, k⟩ := Ghost.ownCell (n := n) (f := f) h hr h0 hk hne hm
  .ghost g (hK H' r m k)
theorem Fin.frzCell (k : Nat) (h : Own H0 H es v len cells) (hr : H rid = some (.row ver rc)) (h0 : H0 rid = none) (hk : rc[k]? = some v) (hne : NotId v rid) (hm : Mono H0 H)
    (hK : ∀ H', H' rid = some (.row ver (rc.set k (.sl len cells))) → Mono H0 H' → (∀ i, i ≠ rid → NotId v i → H' i = H i) → ∃ f2 H2, Ghost n f H' f2 H2 ∧ F f2 H2) : ∃ f2 H2, Ghost n f H f2 H2 ∧ F f2 H2 :=
  let ⟨H', g, r, m, k⟩ := Ghost.ownCell (n := n) (f := f) h hr h0 hk hne hm
  let ⟨f2, H2, g2, q⟩ := hK H' r m k
  ⟨f2, H2, g.trans g2, q⟩
end
theorem lapp {α : Type} {l l1 caps r : List α} (h : l = l1) (h2 : l1 ++ caps = r) : l ++ caps = r := by rw [h, h2]
theorem mod_in {x y : Int} (h : 0 < y) : 0 ≤ x % y ∧ x % y < y := ⟨Int.emod_nonneg _ (by omega), Int.emod_lt_of_pos _ h⟩
theorem lc {α : Type} {x y : α} {xs ys : List α} (h : x = y) (t : xs = ys) : x :: xs = y :: ys := by rw [h, t]
theorem lc2 {α : Type} {x y : α} {xs ys zs : List α} (h : x = y) (t : xs ++ zs = ys) : (x :: xs) ++ zs = y :: ys := by rw [List.cons_append, h, t]
end Go.AH
