/- A part of the proof that a law of the edges and fans of faces answers true for every input of its bulk: own work, by an AI agent. -/
import Derived.Test.YtfgfalidpbbkhaaAH2
set_option linter.unusedVariables false
set_option linter.unusedSimpArgs false
namespace Go.AH
open Go

@[simp] theorem add_off (b o k : Nat) : (⟨b, o, none⟩ : Addr).add k = ⟨b, o + k, none⟩ := by
  unfold Addr.add
  split
  · rename_i h; simp [h]
  · rfl

/-- Cells of a block that stand for abstract ones. -/
def Holds (w : World) (μ : Nat → Nat) (H : Heap) (b o : Nat) (cells : List AV) : Prop :=
  ∀ (j : Nat) (x : AV), cells[j]? = some x → ∃ y, w.cell? ⟨b, o + j, none⟩ = some y ∧ VR w μ H x y

theorem HR.holds {w : World} {μ : Nat → Nat} {H : Heap} (h : HR w μ H) {id ver : Nat} {cells : List AV} (hid : H id = some (.row ver cells)) : Holds w μ H (μ id) 0 cells := by
  obtain ⟨cs, T, h1, h2, h3⟩ := h.rows id ver cells hid
  intro j x hx
  obtain ⟨y, g1, g2⟩ := h3 j x hx
  exact ⟨y, by simp [World.cell?, h1, g1], g2⟩

section
variable {P : Program}

theorem run_loadCellsFrom {w : World} {b o : Nat} {ys : Nat → Value} : ∀ (m i : Nat) (acc : Array Value), (∀ j, i ≤ j → j < i + m → w.cell? ⟨b, o + j, none⟩ = some (ys j)) →
    (loadCellsFrom ⟨b, o, none⟩ i m acc).run P w = .ok (acc ++ ((List.range' i m).map ys).toArray) w
  | 0, i, acc, _ => by simp [loadCellsFrom]
  | m + 1, i, acc, h => by
    have h0 := h i (Nat.le_refl _) (by omega)
    rw [loadCellsFrom]
    simp only [add_off, Sem.run_bind, run_load, h0, Result.andThen_ok]
    rw [run_loadCellsFrom m (i + 1) (acc.push (ys i)) (fun j h1 h2 => h j (by omega) (by omega))]
    simp [List.range'_succ]

theorem run_loadVar {t : TypeId} {agg : Bool} {size off b o : Nat} {w : World} {μ : Nat → Nat} {H : Heap} {cells : List AV} {v : AV} (ht : TY P t agg size) (hh : Holds w μ H b o cells)
    (hv : loadv agg size off cells = some v) : ∃ u, (loadVar t ⟨b, o + off, none⟩).run P w = .ok u w ∧ VR w μ H v u := by
  cases agg with
  | true =>
    simp only [loadv] at hv
    cases hb : Nat.ble (off + size) cells.length with
    | false => rw [hb] at hv; cases hv
    | true =>
      rw [hb] at hv
      simp only [Option.some.injEq] at hv
      subst hv
      have hb' := Nat.le_of_ble_eq_true hb
      have hex : ∀ j, j < size → ∃ y, w.cell? ⟨b, o + off + j, none⟩ = some y ∧ ∀ x, ((cells.drop off).take size)[j]? = some x → VR w μ H x y := by
        intro j hj
        have hlt : off + j < cells.length := by omega
        obtain ⟨y, h1, h2⟩ := hh (off + j) _ (List.getElem?_eq_getElem hlt)
        refine ⟨y, by rw [Nat.add_assoc]; exact h1, fun x hx => ?_⟩
        simp only [List.getElem?_take, hj, if_true, List.getElem?_drop, List.getElem?_eq_getElem hlt, Option.some.injEq] at hx
        rw [← hx]; exact h2
      let ys : Nat → Value := fun j => if h : j < size then Classical.choose (hex j h) else undef
      have hys : ∀ j, j < size → w.cell? ⟨b, o + off + j, none⟩ = some (ys j) := fun j hj => by
        simp only [ys, dif_pos hj]; exact (Classical.choose_spec (hex j hj)).1
      refine ⟨.agg ((List.range' 0 size).map ys).toArray, ?_, .agg ?_ ?_⟩
      · simp only [loadVar, Sem.run_bind, ht.run, Result.andThen_ok, if_true, ht.size.run, loadCells]
        rw [run_loadCellsFrom size 0 #[] (fun j _ h => hys j (by omega))]
        simp
      · simp; omega
      · intro j x y hx hy
        have hj : j < size := by
          rcases Nat.lt_or_ge j size with h' | h'
          · exact h'
          · rw [List.getElem?_eq_none (by simp; omega)] at hx; cases hx
        have hyj : y = ys j := by
          simp [hj] at hy
          exact hy.symm
        rw [hyj]
        simp only [ys, dif_pos hj]
        exact (Classical.choose_spec (hex j hj)).2 x hx
  | false =>
    simp only [loadv] at hv
    obtain ⟨y, h1, h2⟩ := hh off v hv
    refine ⟨y, ?_, h2⟩
    simp [loadVar, ht.run, h1]

end

section
variable {P : Program} {n : Nat} {f : Nat → AV} {H : Heap} {K : (Nat → AV) → Heap → Prop} {ty : TypeId} {pos : String} {after : Array Edge} {guard : Option (Nat × Bool)} {d : Nat}

theorem AOp.load {t : TypeId} {x : Operand} {agg : Bool} {size id ver off : Nat} {cells : List AV} (v : AV) (hn : Nat.ble (d + 1) n = true) (hx : ev f x = .ptr id ver off) (ht : TY P t agg size)
    (hid : H id = some (.row ver cells)) (hv : loadv agg size off cells = some v) (hK : K (upd f d v) H) : AOp P n ⟨some d, .load t x, ty, pos, after, guard⟩ K f H :=
  .pureV v hn (fun μ a w hs => by
    have h1 := hs.ev x; rw [hx] at h1
    generalize hz : a.eval x = z at h1
    cases h1 with
    | ptr hk ha =>
      have := ha ⟨cells, hid⟩
      subst this
      obtain ⟨u, hu, hr⟩ := run_loadVar (off := off) ht (hs.hr.holds hid) hv
      simp only [Nat.zero_add] at hu
      exact ⟨u, by simp [execOp, hz, Instr.loadAt, Instr.sureAddr, hu], hr⟩) hK

theorem AOp.loadF {t : TypeId} {x : Operand} {agg : Bool} {size off : Nat} {cells : List AV} (v : AV) (hn : Nat.ble (d + 1) n = true) (hx : ev f x = .fptr cells off) (ht : TY P t agg size)
    (hv : loadv agg size off cells = some v) (hK : K (upd f d v) H) : AOp P n ⟨some d, .load t x, ty, pos, after, guard⟩ K f H :=
  .pureV v hn (fun μ a w hs => by
    have h1 := hs.ev x; rw [hx] at h1
    generalize hz : a.eval x = z at h1
    cases h1 with
    | fptr hb hc hv' =>
      obtain ⟨u, hu, hr⟩ := run_loadVar (off := off) ht (fun j x hx => ⟨_, hc j x hx, hv' j x hx⟩) hv
      exact ⟨u, by simp [execOp, hz, Instr.loadAt, Instr.sureAddr, hu], hr⟩) hK

/-! ### New blocks -/
def updN (μ : Nat → Nat) (id b : Nat) : Nat → Nat := fun i => if i = id then b else μ i

theorem newblock {w : World} {μ : Nat → Nat} (hr : HR w μ H) {id : Nat} (hid : H id = none ∨ H id = some .res) {o : Obj} {B : AB} :
    Ext w μ H { w with heap := w.heap.push o } (updN μ id w.heap.size) (updH H id B) := by
  have hne : ∀ (id' v : Nat), Known H id' v → id' ≠ id := by
    rintro id' v ⟨B', v', h1, h2, _⟩ rfl
    rcases hid with h | h
    · rw [h] at h1; cases h1
    · rw [h] at h1; cases h1; cases h2
  have hlt : ∀ i B', H i = some B' → B'.live = true → μ i < w.heap.size := by
    intro i B' hi hl
    cases B' with
    | res => cases hl
    | dead => cases hl
    | row v c =>
      obtain ⟨cs, T, h1, _⟩ := hr.rows i v c hi
      rcases Nat.lt_or_ge (μ i) w.heap.size with h | h
      · exact h
      · rw [Array.getElem?_eq_none h] at h1; cases h1
    | map es =>
      obtain ⟨_, en, c, h1, _⟩ := hr.maps i es hi
      rcases Nat.lt_or_ge (μ i) w.heap.size with h | h
      · exact h
      · rw [Array.getElem?_eq_none h] at h1; cases h1
    | iter it =>
      have h1 := (hr.iters i it hi).1
      rcases Nat.lt_or_ge (μ i) w.heap.size with h | h
      · exact h
      · rw [Array.getElem?_eq_none h] at h1; cases h1
  refine ⟨by simp, fun b hb => ⟨?_, ?_⟩, fun id' v hk => ?_, fun id' v hk ha => ?_, fun id' hm => ?_, fun id' hm => ?_, ⟨rfl, rfl, rfl, Nat.le_refl _⟩⟩
  · rw [Array.getElem?_push]
    split
    · rename_i h; exact absurd h (Nat.ne_of_lt hb.1)
    · rfl
  · rintro ⟨i, B', h1, h2, h3⟩
    rw [updH_eq] at h1
    unfold updN at h3
    by_cases hi : i = id
    · simp only [hi, if_true] at h3; exact absurd h3.symm (Nat.ne_of_lt hb.1)
    · simp only [hi, if_false] at h1 h3
      exact hb.2 ⟨i, B', h1, h2, h3⟩
  · have hi := hne id' v hk
    obtain ⟨B', v', h1, h2⟩ := hk
    exact ⟨B', v', by rw [updH_eq, if_neg hi]; exact h1, h2⟩
  · have hi := hne id' v hk
    obtain ⟨c, hc⟩ := ha
    rw [updH_eq, if_neg hi] at hc
    refine ⟨⟨c, hc⟩, by simp [updN, hi], ?_⟩
    have := hlt id' _ hc rfl
    unfold bsize
    rw [Array.getElem?_push, if_neg (Nat.ne_of_lt this)]
  · obtain ⟨es, hm⟩ := hm
    have hi : id' ≠ id := by rintro rfl; rcases hid with h | h <;> (rw [h] at hm; cases hm)
    exact ⟨⟨es, by rw [updH_eq, if_neg hi]; exact hm⟩, by simp [updN, hi]⟩
  · obtain ⟨it, hm⟩ := hm
    have hi : id' ≠ id := by rintro rfl; rcases hid with h | h <;> (rw [h] at hm; cases hm)
    exact ⟨⟨it, by rw [updH_eq, if_neg hi]; exact hm⟩, by simp [updN, hi]⟩

theorem HR.lt {w : World} {μ : Nat → Nat} (hr : HR w μ H) {i : Nat} {B' : AB} (hi : H i = some B') (hl : B'.live = true) : μ i < w.heap.size := by
  cases B' with
  | res => cases hl
  | dead => cases hl
  | row v c =>
    obtain ⟨cs, T, h1, _⟩ := hr.rows i v c hi
    rcases Nat.lt_or_ge (μ i) w.heap.size with h | h
    · exact h
    · rw [Array.getElem?_eq_none h] at h1; cases h1
  | map es =>
    obtain ⟨_, en, c, h1, _⟩ := hr.maps i es hi
    rcases Nat.lt_or_ge (μ i) w.heap.size with h | h
    · exact h
    · rw [Array.getElem?_eq_none h] at h1; cases h1
  | iter it =>
    have h1 := (hr.iters i it hi).1
    rcases Nat.lt_or_ge (μ i) w.heap.size with h | h
    · exact h
    · rw [Array.getElem?_eq_none h] at h1; cases h1

/-- One block has been laid or has changed: what is told of the others holds on. 'μ'' differs from 'μ' at 'id' alone. -/
theorem HR.change {w w' : World} {μ μ' : Nat → Nat} {H' : Heap} (hr : HR w μ H) (he : Ext w μ H w' μ' H') {id : Nat} {B : AB} (hH : ∀ i, H' i = if i = id then some B else H i)
    (hμ : ∀ i, i ≠ id → μ' i = μ i)
    (hnew : B.live = true → ∀ i C, i ≠ id → H i = some C → C.live = true → μ' id ≠ μ i)
    (hoth : ∀ i C, i ≠ id → H i = some C → C.live = true → w'.heap[μ i]? = w.heap[μ i]?)
    (hrow : ∀ ver cells, B = .row ver cells → ∃ cs T, w'.heap[μ' id]? = some (.cells cs T (0, 0)) ∧ cells.length ≤ cs.size ∧ ∀ (j : Nat) (x : AV), cells[j]? = some x → ∃ y, cs[j]? = some y ∧ VR w' μ' H' x y)
    (hmap : ∀ es, B = .map es → es.Pairwise (fun a b => a.1 ≠ b.1) ∧ ∃ (ents : Array MapEntry) (clock : Nat), w'.heap[μ' id]? = some (.map ents clock) ∧ es.length = ents.size ∧
      ∀ (j : Nat) (x : AV × AV) (e : MapEntry), es[j]? = some x → ents[j]? = some e → VR w' μ' H' x.1 e.key ∧ VR w' μ' H' x.2 e.val)
    (hborn : ∀ es (ents : Array MapEntry) (clock : Nat), B = .map es → w'.heap[μ' id]? = some (.map ents clock) → clock = ents.size ∧ ∀ (j : Nat) (e : MapEntry), ents[j]? = some e → e.born = j)
    (hit : ∀ it, B = .iter it → w'.heap[μ' id]? = some (it.obj μ') ∧ ∀ m n seen, it = .map m n seen → IsMap H' m) : HR w' μ' H' where
  rows := fun i ver cells hi => by
    rw [hH] at hi
    by_cases h : i = id
    · subst h; rw [if_pos rfl] at hi; cases hi; exact hrow ver cells rfl
    · rw [if_neg h] at hi
      obtain ⟨cs, T, h1, h2, h3⟩ := hr.rows i ver cells hi
      refine ⟨cs, T, by rw [hμ i h, hoth i _ h hi rfl]; exact h1, h2, fun j x hx => ?_⟩
      obtain ⟨y, g1, g2⟩ := h3 j x hx
      exact ⟨y, g1, g2.ext he⟩
  maps := fun i es hi => by
    rw [hH] at hi
    by_cases h : i = id
    · subst h; rw [if_pos rfl] at hi; cases hi; exact hmap es rfl
    · rw [if_neg h] at hi
      obtain ⟨h0, en, c, h1, h2, h3⟩ := hr.maps i es hi
      refine ⟨h0, en, c, by rw [hμ i h, hoth i _ h hi rfl]; exact h1, h2, fun j x e hx hy => ?_⟩
      exact ⟨(h3 j x e hx hy).1.ext he, (h3 j x e hx hy).2.ext he⟩
  born := fun i es ents clock hi hw => by
    rw [hH] at hi
    by_cases h : i = id
    · subst h; rw [if_pos rfl] at hi; cases hi; exact hborn es ents clock rfl hw
    · rw [if_neg h] at hi
      rw [hμ i h, hoth i _ h hi rfl] at hw
      exact hr.born i es ents clock hi hw
  iters := fun i it hi => by
    rw [hH] at hi
    by_cases h : i = id
    · subst h; rw [if_pos rfl] at hi; cases hi; exact hit it rfl
    · rw [if_neg h] at hi
      obtain ⟨h1, h2⟩ := hr.iters i it hi
      rw [hμ i h, hoth i _ h hi rfl]
      refine ⟨?_, fun m n seen e => (he.maps m (h2 m n seen e)).1⟩
      rw [h1]
      cases it with
      | str s p => rfl
      | map m n seen => show some (Obj.mapIter (some (μ m)) n seen.toArray n) = some (Obj.mapIter (some (μ' m)) n seen.toArray n); rw [(he.maps m (h2 m n seen rfl)).2]
  inj := fun i j C D hi hj hC hD hij => by
    rw [hH] at hi hj
    by_cases h : i = id
    · subst h
      rw [if_pos rfl] at hi; cases hi
      by_cases g : j = i
      · exact g.symm
      · rw [if_neg g] at hj
        rw [hμ j g] at hij
        exact absurd hij (hnew hC j D g hj hD)
    · rw [if_neg h] at hi
      by_cases g : j = id
      · subst g
        rw [if_pos rfl] at hj; cases hj
        rw [hμ i h] at hij
        exact absurd hij.symm (hnew hD i C h hi hC)
      · rw [if_neg g] at hj
        rw [hμ i h, hμ j g] at hij
        exact hr.inj i j C D hi hj hC hD hij
  fin := by
    obtain ⟨N, hN⟩ := hr.fin
    refine ⟨max N (id + 1), fun i hi => ?_⟩
    rw [hH, if_neg (by omega)]
    exact hN i (by omega)

theorem newrow {w : World} {μ : Nat → Nat} (hr : HR w μ H) {id : Nat} (hid : H id = none ∨ H id = some .res) {cs : Array Value} {T : TypeId} {cells : List AV} (hl : cells.length ≤ cs.size)
    (hc : ∀ (j : Nat) (x : AV), cells[j]? = some x → ∃ y, cs[j]? = some y ∧ VR w μ H x y) :
    HR { w with heap := w.heap.push (.cells cs T) } (updN μ id w.heap.size) (updH H id (.row 0 cells)) := by
  have he := newblock hr hid (o := .cells cs T) (B := .row 0 cells)
  refine hr.change he (fun i => updH_eq _ _ _ _) (fun i hi => by simp [updN, hi]) ?_ ?_ ?_ ?_ ?_ ?_
  · intro _ i C _ hi hC
    have := hr.lt hi hC
    simp only [updN, if_true]; omega
  · intro i C _ hi hC
    have := hr.lt hi hC
    rw [Array.getElem?_push, if_neg (Nat.ne_of_lt this)]
  · intro ver c hB
    cases hB
    refine ⟨cs, T, by simp [updN], hl, fun j x hx => ?_⟩
    obtain ⟨y, g1, g2⟩ := hc j x hx
    exact ⟨y, g1, g2.ext he⟩
  · intro es h; cases h
  · intro es _ _ h; cases h
  · intro it h; cases h

theorem newmap {w : World} {μ : Nat → Nat} (hr : HR w μ H) {id : Nat} (hid : H id = none ∨ H id = some .res) :
    HR { w with heap := w.heap.push (.map #[] 0) } (updN μ id w.heap.size) (updH H id (.map [])) := by
  have he := newblock hr hid (o := .map #[] 0) (B := .map [])
  refine hr.change he (fun i => updH_eq _ _ _ _) (fun i hi => by simp [updN, hi]) ?_ ?_ ?_ ?_ ?_ ?_
  · intro _ i C _ hi hC
    have := hr.lt hi hC
    simp only [updN, if_true]; omega
  · intro i C _ hi hC
    have := hr.lt hi hC
    rw [Array.getElem?_push, if_neg (Nat.ne_of_lt this)]
  · intro ver c hB; cases hB
  · intro es h
    cases h
    exact ⟨.nil, #[], 0, by simp [updN], rfl, fun j x e hx => by simp at hx⟩
  · intro es ents clock _ hw
    simp only [updN, if_true, Array.getElem?_push_size, Option.some.injEq, Obj.map.injEq] at hw
    obtain ⟨rfl, rfl⟩ := hw
    exact ⟨rfl, fun j e h => by simp at h⟩
  · intro it h; cases h

theorem AOp.value {op : Op} (x : AV) (H' : Heap) (hn : Nat.ble (d + 1) n = true)
    (h : ∀ μ a w, SR n w μ f H a → ∃ v w' μ', (execOp a.eval ⟨some d, op, ty, pos, after, guard⟩).run P w = .ok (.value v) w' ∧ Ext w μ H w' μ' H' ∧ HR w' μ' H' ∧ VR w' μ' H' x v) (hK : K (upd f d x) H') :
    AOp P n ⟨some d, op, ty, pos, after, guard⟩ K f H := by
  intro μ a w hs Q
  obtain ⟨v, w', μ', h1, h2, h3, h4⟩ := h μ a w hs
  unfold Oper.wp
  rw [h1]
  exact ⟨μ', _, H', hs.put h2 h3 hn h4, h2, hK⟩

/-- A new variable, under a number of our choice. -/
theorem AOp.alloc_at {t : TypeId} {Z : List AV} (id : Nat) (hid : H id = none ∨ H id = some .res) (hn : Nat.ble (d + 1) n = true) (ht : TZero P t Z)
    (hK : K (upd f d (.ptr id 0 0)) (updH H id (.row 0 Z))) : AOp P n ⟨some d, .alloc t, ty, pos, after, guard⟩ K f H :=
  .value _ _ hn (fun μ a w hs => by
    obtain ⟨i, z, t1, t2, t3⟩ := ht
    have hl : Z.length ≤ z.cells.size := by rw [← t3]; simp
    have hc : ∀ (j : Nat) (x : AV), Z[j]? = some x → ∃ y, z.cells[j]? = some y ∧ VR w μ H x y := fun j x hx => by
      rw [← t3] at hx
      simp only [List.getElem?_map, Array.getElem?_toList, Option.map_eq_some_iff] at hx
      obtain ⟨y, h1, h2⟩ := hx
      exact ⟨y, h1, h2 ▸ cst_VR w μ H y⟩
    refine ⟨.pointer (some ⟨w.heap.size, 0, none⟩), { w with heap := w.heap.push (.cells z.cells t) }, updN μ id w.heap.size, ?_, newblock hs.hr hid, newrow hs.hr hid hl hc, .ptr ⟨_, 0, by rw [updH_eq, if_pos rfl], rfl, Nat.le_refl _⟩ (fun _ => by simp [updN])⟩
    simp [execOp, Instr.alloc, zeroValue, run_info t1, t2, newVar, newRow]) hK

/-- A number that is free. -/
theorem AOp.fresh {o : Oper} (h : ∀ id, H id = none → AOp P n o K f H) : AOp P n o K f H := by
  intro μ a w hs
  obtain ⟨N, hN⟩ := hs.hr.fin
  exact h N (hN N (Nat.le_refl _)) μ a w hs

theorem updH_same (H : Heap) (id : Nat) (B : AB) : updH H id B id = some B := by rw [updH_eq, if_pos rfl]
theorem updH_ne (H : Heap) {id i : Nat} (B : AB) (h : i ≠ id) : updH H id B i = H i := by rw [updH_eq, if_neg h]

theorem AOp.alloc {t : TypeId} {Z : List AV} (hn : Nat.ble (d + 1) n = true) (ht : TZero P t Z)
    (hK : ∀ id H', H id = none → H' id = some (.row 0 Z) → (∀ i, i ≠ id → H' i = H i) → K (upd f d (.ptr id 0 0)) H') : AOp P n ⟨some d, .alloc t, ty, pos, after, guard⟩ K f H :=
  .fresh fun id hid => .alloc_at id (.inl hid) hn ht (hK id _ hid (updH_same _ _ _) fun _ h => updH_ne _ _ h)

/-- A value in a new variable. -/
theorem VR.cells {w : World} {μ : Nat → Nat} {x : AV} {v : Value} (h : VR w μ H x v) (hx : x.one = true ∨ ∃ cs, x = .agg cs) :
    x.cells.length = v.cells.size ∧ ∀ (j : Nat) (a : AV), x.cells[j]? = some a → ∃ y, v.cells[j]? = some y ∧ VR w μ H a y := by
  cases h with
  | agg hl h =>
    rename_i cs vs
    refine ⟨hl, fun j a ha => ?_⟩
    have hj : j < vs.size := by
      rcases Nat.lt_or_ge j cs.length with h' | h'
      · omega
      · simp only [AV.cells] at ha; rw [List.getElem?_eq_none h'] at ha; cases ha
    exact ⟨vs[j], Array.getElem?_eq_getElem hj, h j a _ ha (Array.getElem?_eq_getElem hj)⟩
  | undef => rcases hx with h | ⟨_, h⟩ <;> cases h
  | tup => rcases hx with h | ⟨_, h⟩ <;> cases h
  | _ =>
    refine ⟨rfl, fun j a ha => ?_⟩
    cases j with
    | zero => simp only [AV.cells, List.getElem?_cons_zero, Option.some.injEq] at ha; subst ha; exact ⟨_, rfl, by first | exact .iter ‹_› | (constructor <;> assumption)⟩
    | succ j => simp [AV.cells] at ha

def AV.plainB : AV → Bool
  | .undef | .tup _ => false
  | _ => true

theorem plainB_spec {x : AV} (h : x.plainB = true) : x.one = true ∨ ∃ cs, x = .agg cs := by
  cases x <;> simp_all [AV.plainB, AV.one]

theorem AOp.box_at {t : TypeId} {x : Operand} (v : AV) (id : Nat) (hid : H id = none ∨ H id = some .res) (hn : Nat.ble (d + 1) n = true) (hx : ev f x = v) (hp : v.plainB = true)
    (hK : K (upd f d (.ptr id 0 0)) (updH H id (.row 0 v.cells))) : AOp P n ⟨some d, .box t x, ty, pos, after, guard⟩ K f H :=
  .value _ _ hn (fun μ a w hs => by
    have h1 := hs.ev x; rw [hx] at h1
    obtain ⟨hl, hc⟩ := h1.cells (plainB_spec hp)
    refine ⟨.pointer (some ⟨w.heap.size, 0, none⟩), { w with heap := w.heap.push (.cells (a.eval x).cells t) }, updN μ id w.heap.size, ?_, newblock hs.hr hid, newrow hs.hr hid (Nat.le_of_eq hl) hc, .ptr ⟨_, 0, by rw [updH_eq, if_pos rfl], rfl, Nat.le_refl _⟩ (fun _ => by simp [updN])⟩
    simp [execOp, Instr.box, newVar, newRow]) hK

theorem AOp.box {t : TypeId} {x : Operand} (v : AV) (hn : Nat.ble (d + 1) n = true) (hx : ev f x = v) (hp : v.plainB = true)
    (hK : ∀ id H', H id = none → H' id = some (.row 0 v.cells) → (∀ i, i ≠ id → H' i = H i) → K (upd f d (.ptr id 0 0)) H') : AOp P n ⟨some d, .box t x, ty, pos, after, guard⟩ K f H :=
  .fresh fun id hid => .box_at v id (.inl hid) hn hx hp (hK id _ hid (updH_same _ _ _) fun _ h => updH_ne _ _ h)

/-! ### Stores -/
def writeL (cells : List AV) (off : Nat) (vs : List AV) : List AV := cells.take off ++ vs ++ cells.drop (off + vs.length)

theorem writeL_len {cells vs : List AV} {off : Nat} (h : off + vs.length ≤ cells.length) : (writeL cells off vs).length = cells.length := by
  simp [writeL]; omega

theorem writeL_get {cells vs : List AV} {off : Nat} (h : off + vs.length ≤ cells.length) (j : Nat) :
    (writeL cells off vs)[j]? = if off ≤ j ∧ j < off + vs.length then vs[j - off]? else cells[j]? := by
  unfold writeL
  by_cases h1 : j < off
  · rw [List.getElem?_append_left (by simp <;> omega), List.getElem?_append_left (by simp <;> omega), List.getElem?_take, if_pos h1, if_neg (by omega)]
  · by_cases h2 : j < off + vs.length
    · rw [List.getElem?_append_left (by simp <;> omega), List.getElem?_append_right (by simp <;> omega), if_pos ⟨by omega, h2⟩]
      congr 1; simp only [List.length_take]; omega
    · rw [List.getElem?_append_right (by simp <;> omega), if_neg (by omega), List.getElem?_drop]
      rw [show off + vs.length + (j - (cells.take off ++ vs).length) = j by simp; omega]

theorem run_storeCells {b off : Nat} {T : TypeId} : ∀ (vs : List Value) (i : Nat) (w : World) (cs : Array Value), (∀ v ∈ vs, v.oneCell' = true) → w.heap[b]? = some (.cells cs T (0, 0)) → off + i + vs.length ≤ cs.size →
    ∃ w' cs', (storeCells ⟨b, off, none⟩ vs i).run P w = .ok () w' ∧ w'.heap[b]? = some (.cells cs' T (0, 0)) ∧ cs'.size = cs.size ∧ (∀ b', b' ≠ b → w'.heap[b']? = w.heap[b']?) ∧ w'.heap.size = w.heap.size ∧ Rest w w' ∧
      ∀ j, cs'[j]? = if off + i ≤ j ∧ j < off + i + vs.length then vs[j - (off + i)]? else cs[j]?
  | [], i, w, cs, _, hb, _ => ⟨w, cs, by simp [storeCells], hb, rfl, fun _ _ => rfl, rfl, .refl w, fun j => by rw [if_neg (by simp <;> omega)]⟩
  | v :: vs, i, w, cs, ho, hb, hl => by
    simp only [List.length_cons] at hl
    have hv := ho v List.mem_cons_self
    have hcell : w.cell? ⟨b, off + i, none⟩ = some cs[off + i] := by simp [World.cell?, hb, show off + i < cs.size by omega]
    have hfr : w.frozen? ⟨b, off + i, none⟩ = false := by simp [World.frozen?, hb]
    have hb1 : (w.setCell ⟨b, off + i, none⟩ v).heap[b]? = some (.cells (cs.setIfInBounds (off + i) v) T (0, 0)) := by
      simp [World.setCell, Array.getElem?_modify, hb]
    have ho1 : ∀ b', b' ≠ b → (w.setCell ⟨b, off + i, none⟩ v).heap[b']? = w.heap[b']? := fun b' h => by
      simp [World.setCell, Array.getElem?_modify, Ne.symm h]
    obtain ⟨w', cs', h1, h2, h3, h4, h5, hrest, h6⟩ := run_storeCells (T := T) (b := b) (off := off) vs (i + 1) (w.setCell ⟨b, off + i, none⟩ v) (cs.setIfInBounds (off + i) v) (fun u hu => ho u (List.mem_cons_of_mem _ hu)) hb1 (by rw [Array.size_setIfInBounds]; omega)
    refine ⟨w', cs', ?_, h2, by simpa using h3, fun b' h => (h4 b' h).trans (ho1 b' h), by simpa using h5, hrest, fun j => ?_⟩
    · rw [storeCells]
      simp only [add_off, Sem.run_bind, run_store P w _ v _ hv, hcell, hfr, Bool.false_eq_true, if_false, Result.andThen_ok]
      exact h1
    · rw [h6 j]
      by_cases hj : off + (i + 1) ≤ j ∧ j < off + (i + 1) + vs.length
      · rw [if_pos hj, if_pos ⟨by omega, by simp; omega⟩]
        rw [show j - (off + i) = (j - (off + (i + 1))) + 1 by omega]; rfl
      · rw [if_neg hj]
        by_cases he : j = off + i
        · subst he
          rw [if_pos ⟨by omega, by simp⟩]
          simp [show off + i < cs.size by omega]
        · rw [if_neg (by simp; omega)]
          simp [Ne.symm he]

/-- The cells of a row have changed. -/
theorem setrow {w w' : World} {μ : Nat → Nat} (hrest : Rest w w') (hr : HR w μ H) {id ver ver' : Nat} {cells cells' : List AV} (hver : ver ≤ ver') (hid : H id = some (.row ver cells)) {cs cs' : Array Value} {T : TypeId} (hold : w.heap[μ id]? = some (.cells cs T (0, 0)))
    (hb : w'.heap[μ id]? = some (.cells cs' T (0, 0))) (hsz : cs'.size = cs.size) (hoth : ∀ b, b ≠ μ id → w'.heap[b]? = w.heap[b]?) (hsize : w'.heap.size = w.heap.size) (hlen : cells'.length ≤ cs'.size)
    (hc : ∀ (j : Nat) (x : AV), cells'[j]? = some x → ∃ y, cs'[j]? = some y ∧ VR w μ H x y) :
    Ext w μ H w' μ (updH H id (.row ver' cells')) ∧ HR w' μ (updH H id (.row ver' cells')) := by
  have he : Ext w μ H w' μ (updH H id (.row ver' cells')) := by
    refine ⟨by omega, fun b h => ⟨?_, ?_⟩, fun i v hk => ?_, fun i v hk ha => ?_, fun i hm => ?_, fun i hm => ?_, hrest⟩
    · exact hoth b fun e => h.2 ⟨id, _, hid, rfl, e.symm⟩
    · rintro ⟨i, B, h1, h2, h3⟩
      rw [updH_eq] at h1
      by_cases g : i = id
      · subst g; exact h.2 ⟨i, _, hid, rfl, h3⟩
      · rw [if_neg g] at h1; exact h.2 ⟨i, B, h1, h2, h3⟩
    · obtain ⟨B, v', h1, h2, h3⟩ := hk
      by_cases g : i = id
      · subst g
        rw [hid] at h1; cases h1
        cases h2
        exact ⟨_, ver', by rw [updH_eq, if_pos rfl], rfl, by omega⟩
      · exact ⟨B, v', by rw [updH_eq, if_neg g]; exact h1, h2, h3⟩
    · obtain ⟨c, ha⟩ := ha
      rw [updH_eq] at ha
      by_cases g : i = id
      · subst g
        rw [if_pos rfl] at ha
        cases ha
        obtain ⟨B, v', h1, h2, h3⟩ := hk
        rw [hid] at h1; cases h1
        cases h2
        have : ver' = ver := by omega
        subst this
        exact ⟨⟨cells, hid⟩, rfl, by simp [bsize, hb, hold, osize, hsz]⟩
      · rw [if_neg g] at ha
        refine ⟨⟨c, ha⟩, rfl, ?_⟩
        have hne : μ i ≠ μ id := fun e => g (hr.inj i id _ _ ha hid rfl rfl e)
        simp [bsize, hoth _ hne]
    · obtain ⟨es, hm⟩ := hm
      have g : i ≠ id := by rintro rfl; rw [hid] at hm; cases hm
      exact ⟨⟨es, by rw [updH_eq, if_neg g]; exact hm⟩, rfl⟩
    · obtain ⟨it, hm⟩ := hm
      have g : i ≠ id := by rintro rfl; rw [hid] at hm; cases hm
      exact ⟨⟨it, by rw [updH_eq, if_neg g]; exact hm⟩, rfl⟩
  refine ⟨he, hr.change he (fun i => updH_eq _ _ _ _) (fun _ _ => rfl) ?_ ?_ ?_ ?_ ?_ ?_⟩
  · intro _ i C g hi hC e
    exact g (hr.inj i id C _ hi hid hC rfl e.symm)
  · intro i C g hi hC
    exact hoth _ fun e => g (hr.inj i id C _ hi hid hC rfl e)
  · intro v c hB
    cases hB
    refine ⟨cs', T, hb, hlen, fun j x hx => ?_⟩
    obtain ⟨y, g1, g2⟩ := hc j x hx
    exact ⟨y, g1, g2.ext he⟩
  · intro es h; cases h
  · intro es _ _ h; cases h
  · intro it h; cases h

/-- An operation that yields nothing. -/
theorem AOp.unit {op : Op} {dst : Option Tmp} (H' : Heap) (hdst : dst = none)
    (h : ∀ μ a w, SR n w μ f H a → ∃ w' μ', (execOp a.eval ⟨dst, op, ty, pos, after, guard⟩).run P w = .ok .skip w' ∧ Ext w μ H w' μ' H' ∧ HR w' μ' H') (hK : K f H') :
    AOp P n ⟨dst, op, ty, pos, after, guard⟩ K f H := by
  subst hdst
  intro μ a w hs Q
  obtain ⟨w', μ', h1, h2, h3⟩ := h μ a w hs
  unfold Oper.wp
  rw [h1]
  exact ⟨μ', _, H', hs.stay h2 h3, h2, hK⟩

theorem AOp.store {t : TypeId} {x y : Operand} {size id ver off : Nat} {cells : List AV} (v : AV) (hx : ev f x = .ptr id ver off) (hy : ev f y = v) (ht : TSize P t size) (hid : H id = some (.row ver cells))
    (hone : v.cells.all AV.one = true) (hsz : v.cells.length = size) (hle : Nat.ble (off + size) cells.length = true) (hK : K f (updH H id (.row ver (writeL cells off v.cells)))) :
    AOp P n ⟨none, .store t x y, ty, pos, after, guard⟩ K f H :=
  .unit _ rfl (fun μ a w hs => by
    have h1 := hs.ev x; rw [hx] at h1
    have h2 := hs.ev y; rw [hy] at h2
    have hle' := Nat.le_of_ble_eq_true hle
    have hp : v.one = true ∨ ∃ cs, v = .agg cs := by
      cases v <;> simp_all [AV.one, AV.cells]
    obtain ⟨hl, hc⟩ := h2.cells hp
    generalize hz : a.eval x = z at h1
    cases h1 with
    | ptr hk ha =>
      have := ha ⟨cells, hid⟩
      subst this
      obtain ⟨cs, T, b1, b2, b3⟩ := hs.hr.rows id ver cells hid
      have hones : ∀ u ∈ (a.eval y).cells.toList, u.oneCell' = true := by
        intro u hu
        obtain ⟨j, hj, rfl⟩ := List.mem_iff_getElem.1 hu
        have hj' : j < v.cells.length := by rw [hl]; simpa using hj
        obtain ⟨u', g1, g2⟩ := hc j _ (List.getElem?_eq_getElem hj')
        have : u' = (a.eval y).cells.toList[j] := by
          have hj2 : j < (a.eval y).cells.size := by simpa using hj
          rw [Array.getElem?_eq_getElem hj2] at g1
          simp at g1 ⊢; exact g1.symm
        rw [← this]
        exact g2.one (List.all_eq_true.1 hone _ (List.getElem_mem hj'))
      obtain ⟨w', cs', r1, r2, r3, r4, r5, hrest, r6⟩ := run_storeCells (P := P) (b := μ id) (off := off) (T := T) (a.eval y).cells.toList 0 w cs hones b1 (by simp; omega)
      have hlenv : (a.eval y).cells.size = v.cells.length := hl.symm
      have hset := setrow (w' := w') (cells' := writeL cells off v.cells) hrest hs.hr (Nat.le_refl ver) hid b1 r2 r3 r4 r5 (by rw [writeL_len (by omega)]; omega) (fun j x hx => by
        rw [writeL_get (by omega)] at hx
        rw [r6 j]
        by_cases hj : off ≤ j ∧ j < off + v.cells.length
        · rw [if_pos hj] at hx
          rw [if_pos (by simp; omega)]
          obtain ⟨y', g1, g2⟩ := hc _ x hx
          exact ⟨y', by simpa using g1, g2⟩
        · rw [if_neg hj] at hx
          rw [if_neg (by simp; omega)]
          exact b3 j x hx)
      refine ⟨w', μ, ?_, hset.1, hset.2⟩
      have hszr : (a.eval y).cells.size = size := by omega
      simp [execOp, hz, Instr.storeAt, Instr.sureAddr, storeVar, ht.run, hszr, r1]) hK

end
end Go.AH
