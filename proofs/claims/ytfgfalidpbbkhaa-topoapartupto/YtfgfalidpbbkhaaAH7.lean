/- A part of the proof that a law of the edges and fans of faces answers true for every input of its bulk: own work, by an AI agent. -/
import Derived.Test.YtfgfalidpbbkhaaAH6
set_option linter.unusedVariables false
set_option linter.unusedSimpArgs false
namespace Go.AH
open Go Go.Maps

/-- All that was there is there, unchanged. -/
def Mono (H H' : Heap) : Prop := ∀ id B, H id = some B → H' id = some B
theorem Mono.refl (H : Heap) : Mono H H := fun _ _ h => h
theorem Mono.trans {H H1 H2 : Heap} (a : Mono H H1) (b : Mono H1 H2) : Mono H H2 := fun id B h => b id B (a id B h)
theorem Mono.free {H H1 : Heap} (m : Mono H H1) {id : Nat} (h : H1 id = none) : H id = none := by
  cases hh : H id with
  | none => rfl
  | some B => rw [m id B hh] at h; cases h
theorem Mono.new {H H1 H2 : Heap} (m : Mono H H1) {id : Nat} (h : H1 id = none) (ho : ∀ i, i ≠ id → H2 i = H1 i) : Mono H H2 := fun i B hi => by
  have : i ≠ id := by rintro rfl; rw [m.free h] at hi; cases hi
  rw [ho i this]; exact m i B hi
theorem Mono.set {H H1 H2 : Heap} (m : Mono H H1) {id : Nat} (h : H id = none) (ho : ∀ i, i ≠ id → H2 i = H1 i) : Mono H H2 := fun i B hi => by
  have : i ≠ id := by rintro rfl; rw [h] at hi; cases hi
  rw [ho i this]; exact m i B hi
theorem ne_new {H : Heap} {i id : Nat} {B : AB} (hi : H i = some B) (h : H id = none) : i ≠ id := by rintro rfl; rw [h] at hi; cases hi
theorem keep {H1 H2 : Heap} {id i : Nat} {B : AB} (ho : ∀ j, j ≠ id → H2 j = H1 j) (hne : i ≠ id) (hi : H1 i = some B) : H2 i = some B := (ho i hne).trans hi
theorem keep0 {H1 H2 : Heap} {id i : Nat} (ho : ∀ j, j ≠ id → H2 j = H1 j) (hne : i ≠ id) (hi : H1 i = none) : H2 i = none := (ho i hne).trans hi

/-- A call that hands back this value and changes nothing that was there. -/
def PC (P : Program) (g : FuncId) (args : List AV) (r : AV) : Prop := ∀ H, ACalls P g args H fun r' H' => r' = r ∧ Mono H H'

section
variable {P : Program} {n : Nat} {Q : Exit → (Nat → AV) → Heap → Prop} {f : Nat → AV} {H : Heap} {K : (Nat → AV) → Heap → Prop} {ty : TypeId} {pos : String} {after : Array Edge} {guard : Option (Nat × Bool)} {d : Nat}

theorem AWP.seq_region {id : Nat} {ops : Array Oper} {y : Code} (l : List Nat) (hl : List.range ops.size = l) (h : AOps P n ops (fun f H => AWP P n y Q f H) l f H) : AWP P n (.seq (.region id ops false) y) Q f H :=
  .seq (.region hl h)
theorem AOps.yes {ops : Array Oper} {i : Nat} {l : List Nat} {o oj : Oper} {j d d' : Nat} {b want : Bool} (ho : ops[i]? = some o) (hg : o.guard = some (j, want))
    (hj : ops[j]? = some oj) (hd : oj.dst = some d) (hd' : o.dst = some d') (hn : Nat.ble (d' + 1) n = true) (hf : f d = .bool b) (hb : b = want)
    (h : AOp P n o (AOps P n ops K l) f H) : AOps P n ops K (i :: l) f H :=
  .consg (b := some b) ho hg hj hd hd' hn hf (fun _ => h) (fun e => absurd (congrArg some hb) e)
theorem AOps.no {ops : Array Oper} {i : Nat} {l : List Nat} {o oj : Oper} {j d d' : Nat} {b want : Bool} (ho : ops[i]? = some o) (hg : o.guard = some (j, want))
    (hj : ops[j]? = some oj) (hd : oj.dst = some d) (hd' : o.dst = some d') (hn : Nat.ble (d' + 1) n = true) (hf : f d = .bool b) (hb : b ≠ want)
    (h : AOps P n ops K l (upd f d' (.tup [])) H) : AOps P n ops K (i :: l) f H :=
  .consg (b := some b) ho hg hj hd hd' hn hf (fun e => absurd (Option.some.inj e) hb) (fun _ => h)
theorem AOps.un {ops : Array Oper} {i : Nat} {l : List Nat} {o oj : Oper} {j d d' : Nat} {want : Bool} (ho : ops[i]? = some o) (hg : o.guard = some (j, want))
    (hj : ops[j]? = some oj) (hd : oj.dst = some d) (hd' : o.dst = some d') (hn : Nat.ble (d' + 1) n = true) (hf : f d = .tup [])
    (h : AOps P n ops K l (upd f d' (.tup [])) H) : AOps P n ops K (i :: l) f H :=
  .consg (b := none) ho hg hj hd hd' hn hf (fun e => by cases e) (fun _ => h)

theorem iadd {p q : Int} (h : -9223372036854775808 ≤ p + q ∧ p + q ≤ 9223372036854775807) : intBin .add .i64 p q = some (.int .i64 (p + q)) := by simp [intBin, IntWalk.i64_in _ h]
theorem isub {p q : Int} (h : -9223372036854775808 ≤ p - q ∧ p - q ≤ 9223372036854775807) : intBin .sub .i64 p q = some (.int .i64 (p - q)) := by simp [intBin, IntWalk.i64_in _ h]
theorem imul {p q : Int} (h : -9223372036854775808 ≤ p * q ∧ p * q ≤ 9223372036854775807) : intBin .mul .i64 p q = some (.int .i64 (p * q)) := by simp [intBin, IntWalk.i64_in _ h]

/-- Stores, with what is there behind them. -/
theorem AOp.store' {t : TypeId} {x y : Operand} {size id ver off : Nat} {cells cells' : List AV} (v : AV) (hx : ev f x = .ptr id ver off) (hy : ev f y = v) (ht : TSize P t size) (hid : H id = some (.row ver cells))
    (hone : v.cells.all AV.one = true) (hsz : v.cells.length = size) (hle : Nat.ble (off + size) cells.length = true) (hw : writeL cells off v.cells = cells')
    (hK : ∀ H', H' id = some (.row ver cells') → (∀ i, i ≠ id → H' i = H i) → K f H') :
    AOp P n ⟨none, .store t x y, ty, pos, after, guard⟩ K f H :=
  .store v hx hy ht hid hone hsz hle (hK _ (by rw [updH_same, hw]) fun _ h => updH_ne _ _ h)

theorem AOp.mapUpdate' {t kt et : TypeId} {m ix y : Operand} {id : Nat} {es : List (AV × AV)} {kv v : AV} (hx : ev f m = .map id) (hid : H id = some (.map es)) (hk : ev f ix = kv) (hkv : KOK P kt kv) (hes : ∀ e ∈ es, KOK P kt e.1)
    (ht : TMap P t kt et) (hy : ev f y = v) (hK : ∀ H', H' id = some (.map (mput es kv v)) → (∀ i, i ≠ id → H' i = H i) → K f H') : AOp P n ⟨none, .mapUpdate t m ix y, ty, pos, after, guard⟩ K f H :=
  .mapUpdate hx hid hk hkv hes ht hy (hK _ (updH_same _ _ _) fun _ h => updH_ne _ _ h)

theorem AOp.pcall {g : FuncId} {c : Operand} {args : Array Operand} {at_ : Array TypeId} {caps as : List AV} {r : AV} (hn : Nat.ble (d + 1) n = true) (hc : ev f c = .fn g caps) (has : args.toList.map (ev f) ++ caps = as) (ht : TFun P g)
    (hC : PC P g as r) (hK : ∀ H', Mono H H' → K (upd f d r) H') : AOp P n ⟨some d, .call { callee := .value c, args, argTypes := at_ }, ty, pos, after, guard⟩ K f H :=
  .call (R := fun r' H' => r' = r ∧ Mono H H') hn hc rfl ht (by rw [has]; exact hC H) fun _ _ ⟨e, m⟩ => e ▸ hK _ m

/-! ### Ghost steps -/
def Ghost (n : Nat) (f : Nat → AV) (H : Heap) (f' : Nat → AV) (H' : Heap) : Prop := ∀ μ a w, SR n w μ f H a → SR n w μ f' H' a ∧ Ext w μ H w μ H'

theorem AWP.ghost {c : Code} {f' : Nat → AV} {H' : Heap} (hg : Ghost n f H f' H') (h : AWP P n c Q f' H') : AWP P n c Q f H := by
  intro μ a w hs
  obtain ⟨h1, h2⟩ := hg μ a w hs
  refine wp_mono (h μ a w h1) ?_
  rintro e a' w' ⟨μ', f2, H2, g1, g2, g3⟩
  exact ⟨μ', f2, H2, g1, h2.trans g2, g3⟩

/-- A slot that holds an owned slice comes to hold its value; the row is given up. -/
theorem Ghost.freeze {t id ver es len : Nat} {cells : List AV} (hid : H id = some (.row ver cells)) (ht : f t = .slm id ver es 0 len) (hle : len * es ≤ cells.length) :
    Ghost n f H (upd f t (.sl len (cells.take (len * es)))) (updH H id (.dead ver)) := by
  intro μ a w hs
  obtain ⟨h1, h2, h3⟩ := AH.freeze hs.hr hid
  refine ⟨⟨h2, hs.size, fun u => ?_, hs.defers⟩, h1⟩
  rw [upd_eq]
  split
  · rename_i hu; subst hu
    have := freeze_VR hs.hr hid (es := es) (off := 0) (len := len) (by omega) (ht ▸ hs.slots u)
    simpa using this
  · exact (hs.slots u).ext h1

/-- nil is the slice of no elements. -/
theorem VR.nil_sl {w : World} {μ : Nat → Nat} {v : Value} (h : VR w μ H .snil v) : VR w μ H (.sl 0 []) v := by cases h; exact .sl0 _ _

theorem Ghost.nil {t : Nat} (ht : f t = .snil) : Ghost n f H (upd f t (.sl 0 [])) H := by
  intro μ a w hs
  refine ⟨⟨hs.hr, hs.size, fun u => ?_, hs.defers⟩, .refl _ _ _⟩
  rw [upd_eq]
  split
  · rename_i hu; subst hu
    exact VR.nil_sl (ht ▸ hs.slots u)
  · exact hs.slots u

/-- A cell of a row comes to hold another name of the same value. -/
theorem recell {w : World} {μ : Nat → Nat} (hr : HR w μ H) {id ver : Nat} {cells cells' : List AV} (hid : H id = some (.row ver cells)) (hl : cells'.length = cells.length)
    (hc : ∀ (j : Nat) (x x' : AV) (y : Value), cells[j]? = some x → cells'[j]? = some x' → VR w μ H x y → VR w μ H x' y) :
    Ext w μ H w μ (updH H id (.row ver cells')) ∧ HR w μ (updH H id (.row ver cells')) := by
  obtain ⟨cs, T, b1, b2, b3⟩ := hr.rows id ver cells hid
  refine setrow (.refl _) hr (Nat.le_refl _) hid b1 b1 rfl (fun _ _ => rfl) rfl (by omega) fun j x' hx => ?_
  have hj : j < cells.length := by
    rcases Nat.lt_or_ge j cells'.length with h | h
    · omega
    · rw [List.getElem?_eq_none h] at hx; cases hx
  obtain ⟨y, g1, g2⟩ := b3 j _ (List.getElem?_eq_getElem hj)
  exact ⟨y, g1, hc j _ x' y (List.getElem?_eq_getElem hj) hx g2⟩

end

theorem Res.mono {P : Program} {n : Nat} {fn : Func} {f : Nat → AV} {H : Heap} {r r' : AV} (h : Res P n fn f H r) (hr : ∀ w μ v, VR w μ H r v → VR w μ H r' v) : Res P n fn f H r' :=
  fun μ a w hs => let ⟨v, h1, h2⟩ := h μ a w hs; ⟨v, h1, hr _ _ _ h2⟩

end Go.AH
