/- A part of the proof that a law of the edges and fans of faces answers true for every input of its bulk: own work, by an AI agent. -/
import Derived.Test.YtfgfalidpbbkhaaAH4
set_option linter.unusedVariables false
set_option linter.unusedSimpArgs false
namespace Go.AH
open Go

section
variable {P : Program} {n : Nat} {f : Nat → AV} {H : Heap} {K : (Nat → AV) → Heap → Prop} {ty : TypeId} {pos : String} {after : Array Edge} {guard : Option (Nat × Bool)} {d : Nat}

/-- What is appended, or copied from. -/
inductive Src (H : Heap) (es : Nat) : AV → Nat → List AV → Prop where
  | nil : Src H es .snil 0 []
  | sl {m : Nat} {cells : List AV} (h : cells.length = m * es) : Src H es (.sl m cells) m cells
  | slm {id ver off m : Nat} {cells : List AV} (hid : H id = some (.row ver cells)) (h : Nat.ble (off + m * es) cells.length = true) : Src H es (.slm id ver es off m) m ((cells.drop off).take (m * es))

theorem load_row {w : World} {μ : Nat → Nat} {b o : Nat} {cells : List AV} (h : Holds w μ H b o cells) : ∃ vs, (loadCells ⟨b, o, none⟩ cells.length).run P w = .ok vs w ∧ CR w μ H cells vs := by
  have hex : ∀ j, j < cells.length → ∃ y, w.cell? ⟨b, o + j, none⟩ = some y ∧ ∀ x, cells[j]? = some x → VR w μ H x y := by
    intro j hj
    obtain ⟨y, h1, h2⟩ := h j _ (List.getElem?_eq_getElem hj)
    exact ⟨y, h1, fun x hx => by rw [List.getElem?_eq_getElem hj] at hx; cases hx; exact h2⟩
  let ys : Nat → Value := fun j => if h : j < cells.length then Classical.choose (hex j h) else undef
  have hys : ∀ j, j < cells.length → w.cell? ⟨b, o + j, none⟩ = some (ys j) := fun j hj => by
    simp only [ys, dif_pos hj]; exact (Classical.choose_spec (hex j hj)).1
  refine ⟨((List.range' 0 cells.length).map ys).toArray, ?_, by simp, fun j x hx => ?_⟩
  · simp only [loadCells]
    rw [run_loadCellsFrom cells.length 0 #[] (fun j _ h => hys j (by omega))]
    simp
  · have hj : j < cells.length := by
      rcases Nat.lt_or_ge j cells.length with h' | h'
      · exact h'
      · rw [List.getElem?_eq_none h'] at hx; cases hx
    refine ⟨ys j, by simp [hj], ?_⟩
    simp only [ys, dif_pos hj]
    exact (Classical.choose_spec (hex j hj)).2 x hx

theorem Src.run {es m : Nat} {x : AV} {cells : List AV} (h : Src H es x m cells) {w : World} {μ : Nat → Nat} (hr : HR w μ H) {v : Value} (hv : VR w μ H x v) :
    (Builtin.lenOf v).run P w = .ok m w ∧ cells.length = m * es ∧ ∃ vs, (Builtin.firstCells es m v).run P w = .ok vs w ∧ CR w μ H cells vs := by
  cases h with
  | nil => cases hv; exact ⟨rfl, by simp, #[], rfl, rfl, fun j x hx => by simp at hx⟩
  | sl h =>
    cases hv with
    | sl0 a cap =>
      refine ⟨rfl, by simp, #[], ?_, rfl, fun j x hx => by simp at hx⟩
      cases a with
      | none => rfl
      | some a => simp [Builtin.firstCells, loadCells, loadCellsFrom]
    | sl hl hb hc hv' =>
      obtain ⟨vs, h1, h2⟩ := load_row (P := P) (w := w) (μ := μ) (H := H) (fun j x hx => ⟨_, hc j x hx, hv' j x hx⟩)
      refine ⟨rfl, h, vs, ?_, h2⟩
      simp only [Builtin.firstCells]
      rw [← h]; exact h1
  | slm hid h =>
    rename_i id ver off c2
    have hle := Nat.le_of_ble_eq_true h
    cases hv with
    | slm hk hl ha =>
      obtain ⟨rfl, _⟩ := ha ⟨c2, hid⟩
      have hh := hr.holds hid
      have hlen : ((c2.drop off).take (m * es)).length = m * es := by simp; omega
      have hh' : Holds w μ H (μ id) off ((c2.drop off).take (m * es)) := by
        intro j x hx
        have hj : j < m * es := by
          rcases Nat.lt_or_ge j (m * es) with h' | h'
          · exact h'
          · rw [List.getElem?_eq_none (by omega)] at hx; cases hx
        simp only [List.getElem?_take, hj, if_true, List.getElem?_drop] at hx
        have := hh (off + j) x hx
        simpa [Nat.zero_add] using this
      obtain ⟨vs, h1, h2⟩ := load_row (P := P) hh'
      refine ⟨rfl, hlen, vs, ?_, h2⟩
      simp only [Builtin.firstCells]
      rw [hlen] at h1; exact h1

theorem growBy_le (m : Nat) : ∀ (r c : Nat), Builtin.growBy m r c ≤ max c (m + (m + 768) / 4)
  | 0, c => by simp [Builtin.growBy]; omega
  | r + 1, c => by
    rw [Builtin.growBy]
    split
    · omega
    · have := growBy_le m r (c + (c + 768) / 4)
      omega

theorem nextcap_le {m c : Nat} (h : c < m) : Builtin.nextslicecap m c ≤ 2 * m + 1024 := by
  unfold Builtin.nextslicecap
  have := growBy_le m 4 c
  split
  · omega
  · split <;> omega

/-- A row has been copied to a new block. -/
theorem regrow {w : World} {μ : Nat → Nat} (hr : HR w μ H) {id ver : Nat} {cells cells' : List AV} (hid : H id = some (.row ver cells)) {cs : Array Value} {T : TypeId} (hl : cells'.length ≤ cs.size)
    (hc : ∀ (j : Nat) (x : AV), cells'[j]? = some x → ∃ y, cs[j]? = some y ∧ VR w μ H x y) :
    Ext w μ H { w with heap := w.heap.push (.cells cs T) } (updN μ id w.heap.size) (updH H id (.row (ver + 1) cells')) ∧
    HR { w with heap := w.heap.push (.cells cs T) } (updN μ id w.heap.size) (updH H id (.row (ver + 1) cells')) := by
  have he : Ext w μ H { w with heap := w.heap.push (.cells cs T) } (updN μ id w.heap.size) (updH H id (.row (ver + 1) cells')) := by
    refine ⟨by simp, fun b hb => ⟨?_, ?_⟩, fun i v hk => ?_, fun i v hk ha => ?_, fun i hm => ?_, fun i hm => ?_, ⟨rfl, rfl, rfl, Nat.le_refl _⟩⟩
    · rw [Array.getElem?_push, if_neg (Nat.ne_of_lt hb.1)]
    · rintro ⟨i, B', h1, h2, h3⟩
      rw [updH_eq] at h1
      unfold updN at h3
      by_cases hi : i = id
      · simp only [hi, if_true] at h3; exact absurd h3.symm (Nat.ne_of_lt hb.1)
      · simp only [hi, if_false] at h1 h3
        exact hb.2 ⟨i, B', h1, h2, h3⟩
    · obtain ⟨B, v', h1, h2, h3⟩ := hk
      by_cases g : i = id
      · subst g
        rw [hid] at h1; cases h1
        cases h2
        exact ⟨_, ver + 1, by rw [updH_eq, if_pos rfl], rfl, by omega⟩
      · exact ⟨B, v', by rw [updH_eq, if_neg g]; exact h1, h2, h3⟩
    · obtain ⟨c, ha⟩ := ha
      rw [updH_eq] at ha
      by_cases g : i = id
      · subst g
        rw [if_pos rfl] at ha
        cases ha
        obtain ⟨B, v', h1, h2, h3⟩ := hk
        rw [hid] at h1; cases h1
        cases h2
        omega
      · rw [if_neg g] at ha
        refine ⟨⟨c, ha⟩, by simp [updN, g], ?_⟩
        have := hr.lt ha rfl
        unfold bsize
        rw [Array.getElem?_push, if_neg (Nat.ne_of_lt this)]
    · obtain ⟨es, hm⟩ := hm
      have g : i ≠ id := by rintro rfl; rw [hid] at hm; cases hm
      exact ⟨⟨es, by rw [updH_eq, if_neg g]; exact hm⟩, by simp [updN, g]⟩
    · obtain ⟨it, hm⟩ := hm
      have g : i ≠ id := by rintro rfl; rw [hid] at hm; cases hm
      exact ⟨⟨it, by rw [updH_eq, if_neg g]; exact hm⟩, by simp [updN, g]⟩
  refine ⟨he, hr.change he (fun i => updH_eq _ _ _ _) (fun i hi => by simp [updN, hi]) ?_ ?_ ?_ ?_ ?_ ?_⟩
  · intro _ i C _ hi hC
    have := hr.lt hi hC
    simp only [updN, if_true]; omega
  · intro i C _ hi hC
    have := hr.lt hi hC
    rw [Array.getElem?_push, if_neg (Nat.ne_of_lt this)]
  · intro v c hB
    cases hB
    refine ⟨cs, T, by simp [updN], hl, fun j x hx => ?_⟩
    obtain ⟨y, g1, g2⟩ := hc j x hx
    exact ⟨y, g1, g2.ext he⟩
  · intro es h; cases h
  · intro es _ _ h; cases h
  · intro it h; cases h

theorem CR.append {w : World} {μ : Nat → Nat} {xs ys : List AV} {as bs : Array Value} (h1 : CR w μ H xs as) (h2 : CR w μ H ys bs) : CR w μ H (xs ++ ys) (as ++ bs) := by
  refine ⟨by simp [h1.1, h2.1], fun j x hx => ?_⟩
  rcases Nat.lt_or_ge j xs.length with h | h
  · rw [List.getElem?_append_left h] at hx
    obtain ⟨y, g1, g2⟩ := h1.2 j x hx
    exact ⟨y, by rw [Array.getElem?_append_left (by have := h1.1; omega)]; exact g1, g2⟩
  · rw [List.getElem?_append_right h] at hx
    obtain ⟨y, g1, g2⟩ := h2.2 _ x hx
    exact ⟨y, by rw [Array.getElem?_append_right (by have := h1.1; omega), ← h1.1]; exact g1, g2⟩

theorem zeroCells_size (z : Array Value) (m : Nat) : (Builtin.zeroCells z m).size = m * z.size := by simp [Builtin.zeroCells]

/-- Not an integer's type: what is appended is no 'make'. -/
def NotInt (P : Program) (t : TypeId) : Prop := ∃ dd, P.underlying t = some dd ∧ (match dd with | .int _ => true | _ => false) = false

/-- 'append' that grows. -/
theorem run_append_grow {w : World} {st xt e es m : Nat} {bm sLen sCap : Nat} {base : Option Addr} {u : Value} (ht : P.underlying st = some (.slice e)) (hs' : TSize P e es) (hz : TZn P e es) (hb : TBytes P e bm) (hbm : bm ≤ 1024)
    (hxt : NotInt P xt) (hm : (Builtin.lenOf u).run P w = .ok m w) (hcap : sCap < sLen + m) (hbig : sLen + m ≤ 4294967296)
    {old new : Array Value} (hw : ∀ w' : World, w'.heap = w.heap → (Builtin.firstCells es sLen (.slice base sLen sCap)).run P w' = .ok old w' ∧ (Builtin.firstCells es m u).run P w' = .ok new w') (tt : TypeId) :
    ∃ rest cap w', w'.heap = w.heap.push (.cells (old ++ new ++ rest) e) ∧ sLen + m ≤ cap ∧ rest.size = (cap - (sLen + m)) * es ∧ Rest w w' ∧
      (Builtin.append_ #[st, xt] tt #[.slice base sLen sCap, u]).run P w = .ok (.slice (some ⟨w.heap.size, 0, none⟩) (sLen + m) cap) w' := by
  obtain ⟨ib, b1, b2⟩ := hb
  obtain ⟨iz, z, z1, z2, z3, z4⟩ := hz
  obtain rfl := Option.some.inj (z1.symm.trans b1)
  obtain ⟨dd, x1, x2⟩ := hxt
  have hnc := nextcap_le hcap
  have hbytes : ¬ (Builtin.nextslicecap (sLen + m) sCap * iz.bytes > 2 ^ 48) := by
    have h1 : Builtin.nextslicecap (sLen + m) sCap * iz.bytes ≤ (2 * 4294967296 + 1024) * 1024 := Nat.mul_le_mul (by omega) (by omega)
    omega
  have hz0 : iz.bytes = 0 → ¬ ((sLen + m : Nat) : Int) > IntKind.i64.max := fun _ => by
    have : IntKind.i64.max = 9223372036854775807 := rfl
    omega
  let w1 : World := { w with drawn := w.drawn + 1 }
  let cap := (Question.appendCap (sLen + m) sCap e).cut (w.tape w.drawn (.appendCap (sLen + m) sCap e))
  have hcap2 : sLen + m ≤ cap := by simp only [cap, Question.cut]; omega
  obtain ⟨g1, g2⟩ := hw w1 rfl
  refine ⟨Builtin.zeroCells z.cells (cap - (sLen + m)), cap, { w1 with heap := w1.heap.push (.cells (old ++ new ++ Builtin.zeroCells z.cells (cap - (sLen + m))) e) }, rfl, hcap2, by rw [zeroCells_size, z4], ⟨rfl, rfl, rfl, Nat.le_succ _⟩, ?_⟩
  unfold Builtin.append_
  simp only [Sem.run_bind, List.getElem?_toArray, List.getElem?_cons_zero, List.getElem?_cons_succ, run_under ht, Result.andThen_ok, hs'.run, run_under x1, Sem.run_pure]
  cases dd
  case int k => simp at x2
  all_goals
    simp only [Bool.false_eq_true, if_false, Sem.run_bind, hm, Result.andThen_ok, Bool.not_false, if_true, if_neg (show ¬ sLen + m ≤ sCap by omega), run_info z1, false_or]
    rw [if_neg (fun h => hz0 h.2 h.1)]
    simp only [Sem.run_bind, run_info z1, Result.andThen_ok, if_neg hbytes, run_choose, Question.forced, Bool.false_eq_true, if_false, run_askRoom]
    rw [show ({ w with drawn := w.drawn + 1 } : World) = w1 from rfl]
    simp only [g1, g2, Result.andThen_ok, zeroValue, Sem.run_bind, run_info z1, z2, Sem.run_pure, newRow, run_newObj]
    rfl

/-- 'append' within the capacity. -/
theorem run_append_fit {w : World} {st xt e es m : Nat} {sLen sCap : Nat} {base : Option Addr} {u : Value} (ht : P.underlying st = some (.slice e)) (hs' : TSize P e es)
    (hxt : NotInt P xt) (hm : (Builtin.lenOf u).run P w = .ok m w) (hcap : sLen + m ≤ sCap) {new : Array Value} (hw : (Builtin.firstCells es m u).run P w = .ok new w) (tt : TypeId) :
    (Builtin.append_ #[st, xt] tt #[.slice base sLen sCap, u]).run P w =
      match base with
      | some a => ((storeCells (a.add (sLen * es)) new.toList).run P w).andThen fun _ w' => .ok (.slice base (sLen + m) sCap) w'
      | none => .ok (.slice base (sLen + m) sCap) w := by
  obtain ⟨dd, x1, x2⟩ := hxt
  unfold Builtin.append_
  simp only [Sem.run_bind, List.getElem?_toArray, List.getElem?_cons_zero, List.getElem?_cons_succ, run_under ht, Result.andThen_ok, hs'.run, run_under x1, Sem.run_pure]
  cases dd
  case int k => simp at x2
  all_goals
    simp only [Bool.false_eq_true, if_false, Sem.run_bind, hm, Result.andThen_ok, Bool.not_false, if_true, if_pos hcap, hw]
    cases base <;> simp

theorem VR.slm_inv {w : World} {μ : Nat → Nat} {id ver es off len : Nat} {v : Value} (h : VR w μ H (.slm id ver es off len) v) (hal : Alive H id ver) :
    ∃ cap, v = .slice (some ⟨μ id, off, none⟩) len cap ∧ len ≤ cap ∧ off + cap * es ≤ bsize w (μ id) ∧ Known H id ver := by
  cases h with
  | slm hk hl ha =>
    obtain ⟨rfl, h⟩ := ha hal
    exact ⟨_, rfl, hl, h, hk⟩

theorem run_call_builtin {a : Act} {b : Builtin} {args : Array Operand} {at_ : Array TypeId} (w : World) {r : Result Value}
    (h : (match b with | .append => (Builtin.append_ at_ ty (args.map a.eval)).run P w | .len => (Builtin.len_ at_ ty (args.map a.eval)).run P w | .min => (Builtin.min_ at_ ty (args.map a.eval)).run P w | .max => (Builtin.max_ at_ ty (args.map a.eval)).run P w | _ => .halt (.stuck "") w) = r)
    (hb : (match b with | .append | .len | .min | .max => true | _ => false) = true) :
    (execOp a.eval ⟨some d, .call { callee := .builtin b, args, argTypes := at_ }, ty, pos, after, guard⟩).run P w = r.andThen fun v w' => .ok (.value v) w' := by
  cases b <;> simp at hb <;> (subst h; simp only [execOp, resolve, Sem.run_bind, Sem.run_pure, Result.andThen_ok, invoke, builtin])

theorem firstCells_heap {w1 w2 : World} (hh : w1.heap = w2.heap) {es m : Nat} {u : Value} : ∀ (v1 v2 : Array Value) (w1' : World), (Builtin.firstCells es m u).run P w1 = .ok v1 w1' → ∀ {w2' : World}, (Builtin.firstCells es m u).run P w2 = .ok v2 w2' → v1 = v2 := by
  intro v1 v2 w1' e1 w2' e2
  cases u with
  | slice b ln cp =>
    cases b with
    | none => simp only [Builtin.firstCells, Sem.run_pure, Result.ok.injEq] at e1 e2; rw [← e1.1, ← e2.1]
    | some b =>
      simp only [Builtin.firstCells, loadCells] at e1 e2
      have go : ∀ (k i : Nat) (acc v1 v2 : Array Value), (loadCellsFrom b i k acc).run P w1 = .ok v1 w1' → (loadCellsFrom b i k acc).run P w2 = .ok v2 w2' → v1 = v2 := by
        intro k
        induction k with
        | zero => intro i acc v1 v2 e1 e2; simp only [loadCellsFrom, Sem.run_pure, Result.ok.injEq] at e1 e2; rw [← e1.1, ← e2.1]
        | succ k ih =>
          intro i acc v1 v2 e1 e2
          rw [loadCellsFrom] at e1 e2
          simp only [Sem.run_bind, run_load] at e1 e2
          have hc : w1.cell? (b.add i) = w2.cell? (b.add i) := by simp only [World.cell?, hh]
          have hf : ∀ bo, w1.farLoad P (b.add i) bo = w2.farLoad P (b.add i) bo := fun bo => by
            simp only [World.farLoad, World.viewLoad, World.seen, World.noCell, hh]
          rw [hc] at e1
          rw [hf] at e1
          cases hcc : w2.cell? (b.add i) with
          | some x => rw [hcc] at e1 e2; simp only [Result.andThen_ok] at e1 e2; exact ih _ _ _ _ e1 e2
          | none =>
            rw [hcc] at e1 e2
            simp only at e1 e2
            cases hfl : w2.farLoad P (b.add i) (Mode.plain == Mode.atomic) with
            | ok x => rw [hfl] at e1 e2; simp only [Result.andThen_ok] at e1 e2; exact ih _ _ _ _ e1 e2
            | error h => rw [hfl] at e1; cases e1
      exact go _ _ _ _ _ e1 e2
  | string s => simp only [Builtin.firstCells, Sem.run_pure, Result.ok.injEq] at e1 e2; rw [← e1.1, ← e2.1]
  | _ => cases e1

/-- Nothing is appended. -/
theorem AOp.append_none {st xt e es : Nat} {x y : Operand} {src : AV} {cells : List AV} (v : AV) (hn : Nat.ble (d + 1) n = true) (ht : P.underlying st = some (.slice e)) (hs' : TSize P e es) (hxt : NotInt P xt)
    (hx : ev f x = v) (hv : v = .snil ∨ ∃ id ver off len, v = .slm id ver es off len ∧ Alive H id ver) (hy : ev f y = src) (hsrc : Src H es src 0 cells) (hK : K (upd f d v) H) :
    AOp P n ⟨some d, .call { callee := .builtin .append, args := #[x, y], argTypes := #[st, xt] }, ty, pos, after, guard⟩ K f H :=
  .pureV v hn (fun μ a w hs => by
    have h1 := hs.ev x; rw [hx] at h1
    have h2 := hs.ev y; rw [hy] at h2
    obtain ⟨r1, r2, vs, r3, r4⟩ := hsrc.run (P := P) hs.hr h2
    have hvs : vs = #[] := by
      have := r4.1
      have h0 : vs.size = 0 := by omega
      exact Array.eq_empty_of_size_eq_zero h0
    subst hvs
    rcases hv with rfl | ⟨id, ver, off, len, rfl, hal⟩
    · generalize hz : a.eval x = z at h1
      cases h1
      refine ⟨.slice none 0 0, ?_, .snil⟩
      rw [run_call_builtin (r := .ok (.slice none 0 0) w) w ?_ rfl]
      · rfl
      · simp only [List.map_toArray, List.map_cons, List.map_nil, hz]
        rw [run_append_fit ht hs' hxt r1 (Nat.le_refl 0) r3]
    · obtain ⟨cap, hz, hl, _, _⟩ := h1.slm_inv hal
      refine ⟨a.eval x, ?_, h1⟩
      rw [run_call_builtin (r := .ok (a.eval x) w) w ?_ rfl]
      · rfl
      · simp only [List.map_toArray, List.map_cons, List.map_nil]
        rw [hz, run_append_fit ht hs' hxt r1 (by omega) r3]
        simp [storeCells]) hK

/-- Some are appended to nil. -/
theorem AOp.append_nil_at {st xt e es m bm : Nat} {x y : Operand} {src : AV} {cells : List AV} (id : Nat) (hid : H id = none ∨ H id = some .res) (hn : Nat.ble (d + 1) n = true) (ht : P.underlying st = some (.slice e)) (hs' : TSize P e es) (hz : TZn P e es) (hb : TBytes P e bm) (hbm : bm ≤ 1024) (hxt : NotInt P xt)
    (hx : ev f x = .snil) (hy : ev f y = src) (hsrc : Src H es src m cells) (hm : 0 < m) (hbig : m ≤ 4294967296) (hK : K (upd f d (.slm id 0 es 0 m)) (updH H id (.row 0 cells))) :
    AOp P n ⟨some d, .call { callee := .builtin .append, args := #[x, y], argTypes := #[st, xt] }, ty, pos, after, guard⟩ K f H :=
  .value _ _ hn (fun μ a w hs => by
    have h1 := hs.ev x; rw [hx] at h1
    have h2 := hs.ev y; rw [hy] at h2
    obtain ⟨r1, r2, vs, r3, r4⟩ := hsrc.run (P := P) hs.hr h2
    generalize hz' : a.eval x = z at h1
    cases h1
    have hold : ∀ w' : World, (Builtin.firstCells es 0 (.slice none 0 0)).run P w' = .ok #[] w' := fun _ => rfl
    obtain ⟨rest, cap, w', g1, g2, g3, hrest, g4⟩ := run_append_grow (P := P) (base := none) (sLen := 0) (sCap := 0) ht hs' hz hb hbm hxt r1 (by omega) (by omega) (old := #[]) (new := vs)
      (fun w' hw' => ⟨hold w', by
        have hs2 : HR w' μ H := hs.hr.heap hw'
        obtain ⟨_, _, vs', q3, _⟩ := hsrc.run (P := P) hs2 (h2.heap hw')
        have : vs' = vs := by
          exact firstCells_heap hw' _ _ _ q3 r3
        rw [← this]; exact q3⟩) ty
    simp only [Nat.zero_add, Array.empty_append] at g1 g2 g3 g4
    have hw1 : w'.heap = ({ w with heap := w.heap.push (.cells (vs ++ rest) e) } : World).heap := g1
    have hcr : CR w μ H cells vs := r4
    have hnew := newrow (cs := vs ++ rest) (T := e) (cells := cells) hs.hr hid (by have := hcr.1; simp; omega) (fun j x hx => by
      obtain ⟨y, e1, e2⟩ := hcr.2 j x hx
      have hj : j < vs.size := by
        rcases Nat.lt_or_ge j vs.size with h | h
        · exact h
        · rw [Array.getElem?_eq_none h] at e1; cases e1
      exact ⟨y, by rw [Array.getElem?_append_left hj]; exact e1, e2⟩)
    refine ⟨.slice (some ⟨w.heap.size, 0, none⟩) m cap, w', updN μ id w.heap.size, ?_, (newblock hs.hr hid).trans (.heap hw1 hrest), hnew.heap hw1, ?_⟩
    · rw [run_call_builtin (r := .ok (.slice (some ⟨w.heap.size, 0, none⟩) m cap) w') w ?_ rfl]
      · rfl
      · simp only [List.map_toArray, List.map_cons, List.map_nil, hz']
        exact g4
    · refine .slm ⟨_, 0, by rw [updH_eq, if_pos rfl], rfl, Nat.le_refl _⟩ g2 fun _ => ⟨by simp [updN], ?_⟩
      have hsz : vs.size = m * es := by rw [← r2, ← hcr.1]
      have : cap * es = m * es + (cap - m) * es := by rw [← Nat.add_mul]; congr 1; omega
      simp only [updN, if_true, bsize, g1, Array.getElem?_push_size, osize, Array.size_append, g3, hsz, Nat.zero_add]
      omega) hK

theorem AOp.append_nil {st xt e es m bm : Nat} {x y : Operand} {src : AV} {cells : List AV} (hn : Nat.ble (d + 1) n = true) (ht : P.underlying st = some (.slice e)) (hs' : TSize P e es) (hz : TZn P e es) (hb : TBytes P e bm) (hbm : bm ≤ 1024) (hxt : NotInt P xt)
    (hx : ev f x = .snil) (hy : ev f y = src) (hsrc : Src H es src m cells) (hm : 0 < m) (hbig : m ≤ 4294967296)
    (hK : ∀ id H', H id = none → H' id = some (.row 0 cells) → (∀ i, i ≠ id → H' i = H i) → K (upd f d (.slm id 0 es 0 m)) H') :
    AOp P n ⟨some d, .call { callee := .builtin .append, args := #[x, y], argTypes := #[st, xt] }, ty, pos, after, guard⟩ K f H :=
  .fresh fun id hid => .append_nil_at id (.inl hid) hn ht hs' hz hb hbm hxt hx hy hsrc hm hbig (hK id _ hid (updH_same _ _ _) fun _ h => updH_ne _ _ h)

/-- Some are appended to a slice that is owned: it keeps its number and gets a new version. -/
theorem AOp.append {st xt e es m bm id ver len : Nat} {x y : Operand} {src : AV} {cells old : List AV} (hn : Nat.ble (d + 1) n = true) (ht : P.underlying st = some (.slice e)) (hs' : TSize P e es) (hz : TZn P e es) (hb : TBytes P e bm) (hbm : bm ≤ 1024) (hxt : NotInt P xt)
    (hx : ev f x = .slm id ver es 0 len) (hid : H id = some (.row ver old)) (hlen : len * es ≤ old.length) (hy : ev f y = src) (hsrc : Src H es src m cells) (hone : ∀ c ∈ cells, c.one = true) (hbig : len + m ≤ 4294967296)
    (hK : ∀ H', H' id = some (.row (ver + 1) (old.take (len * es) ++ cells)) → (∀ i, i ≠ id → H' i = H i) → K (upd f d (.slm id (ver + 1) es 0 (len + m))) H') :
    AOp P n ⟨some d, .call { callee := .builtin .append, args := #[x, y], argTypes := #[st, xt] }, ty, pos, after, guard⟩ K f H := by
  refine .value _ (updH H id (.row (ver + 1) (old.take (len * es) ++ cells))) hn ?_ (hK _ (updH_same _ _ _) fun _ h => updH_ne _ _ h)
  intro μ a w hs
  have h1 := hs.ev x; rw [hx] at h1
  have h2 := hs.ev y; rw [hy] at h2
  obtain ⟨r1, r2, vs, r3, r4⟩ := hsrc.run (P := P) hs.hr h2
  obtain ⟨cap, hz', hl, hsz, hk⟩ := h1.slm_inv ⟨old, hid⟩
  obtain ⟨cs, T, b1, b2, b3⟩ := hs.hr.rows id ver old hid
  have hbs : bsize w (μ id) = cs.size := by simp [bsize, b1, osize]
  rw [hbs, Nat.zero_add] at hsz
  have hvs : vs.size = m * es := by rw [← r2, ← r4.1]
  have hmul : (len + m) * es = len * es + m * es := Nat.add_mul _ _ _
  have htake : (old.take (len * es)).length = len * es := by simp; omega
  have hnewlen : (old.take (len * es) ++ cells).length = (len + m) * es := by rw [List.length_append, htake, r2, hmul]
  by_cases hfit : len + m ≤ cap
  · -- in place
    have hfs : (len + m) * es ≤ cap * es := Nat.mul_le_mul_right _ hfit
    have hones : ∀ u ∈ vs.toList, u.oneCell' = true := by
      intro u hu
      obtain ⟨j, hj, rfl⟩ := List.mem_iff_getElem.1 hu
      have hj1 : j < vs.size := by simpa using hj
      have hj2 : j < cells.length := by rw [r4.1]; exact hj1
      obtain ⟨y, e1, e2⟩ := r4.2 j _ (List.getElem?_eq_getElem hj2)
      rw [Array.getElem?_eq_getElem hj1] at e1
      simp only [Option.some.injEq] at e1
      simp only [Array.getElem_toList, e1]
      exact e2.one (hone _ (List.getElem_mem hj2))
    obtain ⟨w', cs', s1, s2, s3, s4, s5, hrest, s6⟩ := run_storeCells (P := P) (b := μ id) (off := len * es) (T := T) vs.toList 0 w cs hones b1 (by simp; omega)
    have hset := setrow (w' := w') (ver' := ver + 1) (cells' := old.take (len * es) ++ cells) hrest hs.hr (by omega) hid b1 s2 s3 s4 s5 (by omega) (fun j x hx => by
      rw [s6 j]
      rcases Nat.lt_or_ge j (len * es) with h | h
      · rw [List.getElem?_append_left (by omega), List.getElem?_take, if_pos h] at hx
        rw [if_neg (by omega)]
        exact b3 j x hx
      · rw [List.getElem?_append_right (by omega), htake] at hx
        obtain ⟨y, e1, e2⟩ := r4.2 _ x hx
        have hj : j - len * es < vs.size := by
          rcases Nat.lt_or_ge (j - len * es) vs.size with h' | h'
          · exact h'
          · rw [Array.getElem?_eq_none h'] at e1; cases e1
        rw [if_pos (by simp; omega)]
        exact ⟨y, by simpa using e1, e2⟩)
    refine ⟨.slice (some ⟨μ id, 0, none⟩) (len + m) cap, w', μ, ?_, hset.1, hset.2, ?_⟩
    · rw [run_call_builtin (r := .ok (.slice (some ⟨μ id, 0, none⟩) (len + m) cap) w') w ?_ rfl]
      · rfl
      · simp only [List.map_toArray, List.map_cons, List.map_nil]
        rw [hz', run_append_fit ht hs' hxt r1 hfit r3]
        simp only [add_off, Nat.zero_add, s1, Result.andThen_ok]
    · refine .slm ⟨_, ver + 1, by rw [updH_eq, if_pos rfl], rfl, Nat.le_refl _⟩ hfit fun _ => ⟨rfl, ?_⟩
      simp only [bsize, s2, osize, s3]; omega
  · -- a new block
    obtain ⟨vo, q1, q2⟩ := load_row (P := P) (w := w) (μ := μ) (H := H) (b := μ id) (o := 0) (cells := old.take (len * es)) (fun j x hx => by
      have hj : j < len * es := by
        rcases Nat.lt_or_ge j (len * es) with h' | h'
        · exact h'
        · rw [List.getElem?_eq_none (by omega)] at hx; cases hx
      rw [List.getElem?_take, if_pos hj] at hx
      exact hs.hr.holds hid j x hx)
    rw [htake] at q1
    have hfo : (Builtin.firstCells es len (.slice (some ⟨μ id, 0, none⟩) len cap)).run P w = .ok vo w := q1
    obtain ⟨rest, cap', w', g1, g2, g3, hrest, g4⟩ := run_append_grow (P := P) (base := some ⟨μ id, 0, none⟩) (sLen := len) (sCap := cap) ht hs' hz hb hbm hxt r1 (by omega) hbig (old := vo) (new := vs)
      (fun w' hw' => by
        have hs2 : HR w' μ H := hs.hr.heap hw'
        obtain ⟨_, _, vs', q3, _⟩ := hsrc.run (P := P) hs2 (h2.heap hw')
        obtain ⟨vo', q4, _⟩ := load_row (P := P) (w := w') (μ := μ) (H := H) (b := μ id) (o := 0) (cells := old.take (len * es)) (fun j x hx => by
          have hj : j < len * es := by
            rcases Nat.lt_or_ge j (len * es) with h' | h'
            · exact h'
            · rw [List.getElem?_eq_none (by omega)] at hx; cases hx
          rw [List.getElem?_take, if_pos hj] at hx
          exact hs2.holds hid j x hx)
        rw [htake] at q4
        have hfo' : (Builtin.firstCells es len (.slice (some ⟨μ id, 0, none⟩) len cap)).run P w' = .ok vo' w' := q4
        have e1 : vs' = vs := firstCells_heap hw' _ _ _ q3 r3
        have e2 : vo' = vo := firstCells_heap hw' _ _ _ hfo' hfo
        exact ⟨e2 ▸ hfo', e1 ▸ q3⟩) ty
    have hcr := CR.append q2 r4
    have hw1 : w'.heap = ({ w with heap := w.heap.push (.cells (vo ++ vs ++ rest) e) } : World).heap := g1
    have hreg := regrow (cs := vo ++ vs ++ rest) (T := e) (cells' := old.take (len * es) ++ cells) hs.hr hid (by have := hcr.1; rw [Array.size_append]; omega) (fun j x hx => by
      obtain ⟨y, e1, e2⟩ := hcr.2 j x hx
      have hj : j < (vo ++ vs).size := by
        rcases Nat.lt_or_ge j (vo ++ vs).size with h | h
        · exact h
        · rw [Array.getElem?_eq_none h] at e1; cases e1
      exact ⟨y, by rw [Array.getElem?_append_left hj]; exact e1, e2⟩)
    refine ⟨.slice (some ⟨w.heap.size, 0, none⟩) (len + m) cap', w', updN μ id w.heap.size, ?_, hreg.1.trans (.heap hw1 hrest), hreg.2.heap hw1, ?_⟩
    · rw [run_call_builtin (r := .ok (.slice (some ⟨w.heap.size, 0, none⟩) (len + m) cap') w') w ?_ rfl]
      · rfl
      · simp only [List.map_toArray, List.map_cons, List.map_nil]
        rw [hz']
        exact g4
    · refine .slm ⟨_, ver + 1, by rw [updH_eq, if_pos rfl], rfl, Nat.le_refl _⟩ g2 fun _ => ⟨by simp [updN], ?_⟩
      have hvo : vo.size = len * es := by rw [← htake, ← q2.1]
      have : cap' * es = (len + m) * es + (cap' - (len + m)) * es := by rw [← Nat.add_mul]; congr 1; omega
      simp only [updN, if_true, bsize, g1, Array.getElem?_push_size, osize, Array.size_append, g3, hvs, hvo, Nat.zero_add]
      omega

/-! ### Lengths, slicing -/
theorem AOp.len {t : TypeId} {x : Operand} {m : Nat} {v : AV} (hn : Nat.ble (d + 1) n = true) (hx : ev f x = v) (hv : (v = .snil ∧ m = 0) ∨ (∃ cells, v = .sl m cells) ∨ ∃ id ver es off, v = .slm id ver es off m)
    {e : TypeId} (ht : P.underlying t = some (.slice e)) (hK : K (upd f d (.int .i64 m)) H) : AOp P n ⟨some d, .call { callee := .builtin .len, args := #[x], argTypes := #[t] }, ty, pos, after, guard⟩ K f H :=
  .pureV _ hn (fun μ a w hs => by
    have h1 := hs.ev x; rw [hx] at h1
    refine ⟨.int .i64 m, ?_, .int _ _⟩
    have key : ∃ b c, a.eval x = .slice b m c := by
      rcases hv with ⟨rfl, rfl⟩ | ⟨cells, rfl⟩ | ⟨id, ver, es, off, rfl⟩
      · generalize a.eval x = z at h1; cases h1; exact ⟨_, _, rfl⟩
      · generalize a.eval x = z at h1; cases h1 <;> exact ⟨_, _, rfl⟩
      · generalize a.eval x = z at h1; cases h1; exact ⟨_, _, rfl⟩
    obtain ⟨b, c, hz⟩ := key
    rw [run_call_builtin (r := .ok (.int .i64 m) w) w ?_ rfl]
    · rfl
    · simp [Builtin.len_, hz, run_under ht, goInt]) hK

theorem AOp.lenStr {t : TypeId} {x : Operand} {s : ByteArray} (hn : Nat.ble (d + 1) n = true) (hx : ev f x = .str s) (ht : P.underlying t = some .string) (hK : K (upd f d (.int .i64 s.size)) H) :
    AOp P n ⟨some d, .call { callee := .builtin .len, args := #[x], argTypes := #[t] }, ty, pos, after, guard⟩ K f H :=
  .pureV _ hn (fun μ a w hs => by
    have h1 := hs.ev x; rw [hx] at h1
    refine ⟨.int .i64 s.size, ?_, .int _ _⟩
    rw [run_call_builtin (r := .ok (.int .i64 s.size) w) w ?_ rfl]
    · rfl
    · simp [Builtin.len_, h1.str_inv, run_under ht, goInt]) hK

theorem AOp.lenArr {t : TypeId} {x : Operand} {m : Nat} {e : TypeId} (hn : Nat.ble (d + 1) n = true) (ht : P.underlying t = some (.array m e)) (hK : K (upd f d (.int .i64 m)) H) :
    AOp P n ⟨some d, .call { callee := .builtin .len, args := #[x], argTypes := #[t] }, ty, pos, after, guard⟩ K f H :=
  .pureV _ hn (fun μ a w hs => by
    refine ⟨.int .i64 m, ?_, .int _ _⟩
    rw [run_call_builtin (r := .ok (.int .i64 m) w) w ?_ rfl]
    · rfl
    · simp [Builtin.len_, run_under ht, goInt]) hK

/-- The bounds of 's[lo:hi]'. -/
def loOf (f : Nat → AV) : Option Operand → Option Int
  | none => some 0
  | some x => match ev f x with | .int _ k => some k | _ => none
def hiOf (f : Nat → AV) (len : Nat) : Option Operand → Option Int
  | none => some len
  | some x => match ev f x with | .int _ k => some k | _ => none

theorem run_bounds {w : World} {μ : Nat → Nat} {a : Act} (hs : SR n w μ f H a) {lo hi : Option Operand} {isS : Bool} {len cap : Nat} {l h : Int} (hl : loOf f lo = some l) (hh : hiOf f len hi = some h) (h0 : 0 ≤ l) (h1 : l ≤ h) (h2 : h ≤ len) (hc : len ≤ cap) :
    (Instr.sliceBounds isS len cap (lo.map a.eval) (hi.map a.eval) none).run P w = .ok (l.toNat, h.toNat, cap) w := by
  have hhi : ∀ x, hi = some x → ∃ k, a.eval x = .int k h := by
    rintro x rfl
    simp only [hiOf] at hh
    have := hs.ev x
    split at hh
    · rename_i k v he; rw [he] at this; cases hh; exact ⟨k, this.int_inv⟩
    · cases hh
  have hlo : ∀ x, lo = some x → ∃ k, a.eval x = .int k l := by
    rintro x rfl
    simp only [loOf] at hl
    have := hs.ev x
    split at hl
    · rename_i k v he; rw [he] at this; cases hl; exact ⟨k, this.int_inv⟩
    · cases hl
  unfold Instr.sliceBounds
  cases hi with
  | none =>
    simp only [hiOf, Option.some.injEq] at hh
    subst hh
    cases lo with
    | none => simp only [loOf, Option.some.injEq] at hl; subst hl; simp
    | some x =>
      obtain ⟨k, hk⟩ := hlo x rfl
      simp [hk, Instr.sliceBound, asIntOf, h0, h1]
  | some y =>
    obtain ⟨k', hk'⟩ := hhi y rfl
    have hy : 0 ≤ h ∧ h ≤ cap := ⟨by omega, by omega⟩
    cases lo with
    | none => simp only [loOf, Option.some.injEq] at hl; subst hl; simp [hk', Instr.sliceBound, asIntOf, hy]
    | some x =>
      obtain ⟨k, hk⟩ := hlo x rfl
      have hx : 0 ≤ l ∧ l ≤ (h.toNat : Int) := ⟨h0, by omega⟩
      simp [hk, hk', Instr.sliceBound, asIntOf, hy, hx]
      intro hm; omega

/-- A part of a slice that is known by value. -/
theorem AOp.sliceS {t : TypeId} {x : Operand} {lo hi : Option Operand} {len es : Nat} {cells : List AV} {l h : Int} (hn : Nat.ble (d + 1) n = true) (hx : ev f x = .sl len cells) (hc : cells.length = len * es) (ht : TSlice P t es)
    (hl : loOf f lo = some l) (hh : hiOf f len hi = some h) (h0 : 0 ≤ l) (h1 : l ≤ h) (h2 : h ≤ len)
    (hK : K (upd f d (.sl (h.toNat - l.toNat) ((cells.drop (l.toNat * es)).take ((h.toNat - l.toNat) * es)))) H) : AOp P n ⟨some d, .slice t x lo hi none, ty, pos, after, guard⟩ K f H :=
  .pureV _ hn (fun μ a w hs => by
    have g1 := hs.ev x; rw [hx] at g1
    obtain ⟨e, t1, t2⟩ := ht
    generalize hz : a.eval x = z at g1
    have main : ∀ (b : Option Addr) (cap : Nat), z = .slice b len cap → len ≤ cap → (execOp a.eval ⟨some d, .slice t x lo hi none, ty, pos, after, guard⟩).run P w = .ok (.value (.slice (if cap = l.toNat then b else b.map (·.add (l.toNat * es))) (h.toNat - l.toNat) (cap - l.toNat))) w := by
      intro b cap hb hcap
      have := run_bounds (P := P) (isS := true) (cap := cap) hs hl hh h0 h1 h2 hcap
      simp only [execOp, hz, hb, Instr.sliceAt, Sem.run_bind, run_under t1, Result.andThen_ok, Instr.slice, Option.map_none, this, t2.run, Sem.run_pure]
    cases g1 with
    | sl0 b cap =>
      refine ⟨_, main b cap rfl (by omega), ?_⟩
      have e1 : h.toNat - l.toNat = 0 := by omega
      simp only [e1, Nat.zero_mul, List.take_zero]
      exact .sl0 _ _
    | sl hcap hb hc' hv =>
      rename_i cap b o ys
      refine ⟨_, main _ cap rfl hcap, ?_⟩
      by_cases he : h.toNat - l.toNat = 0
      · simp only [he, Nat.zero_mul, List.take_zero]; exact .sl0 _ _
      · rw [if_neg (by omega)]
        simp only [Option.map_some, add_off]
        refine .sl (ys := fun j => ys (l.toNat * es + j)) (by omega) hb (fun j x hx => ?_) (fun j x hx => ?_)
        · have hj : j < (h.toNat - l.toNat) * es := by
            rcases Nat.lt_or_ge j ((h.toNat - l.toNat) * es) with h' | h'
            · exact h'
            · rw [List.getElem?_eq_none (by simp; omega)] at hx; cases hx
          simp only [List.getElem?_take, hj, if_true, List.getElem?_drop] at hx
          rw [Nat.add_assoc]; exact hc' _ x hx
        · have hj : j < (h.toNat - l.toNat) * es := by
            rcases Nat.lt_or_ge j ((h.toNat - l.toNat) * es) with h' | h'
            · exact h'
            · rw [List.getElem?_eq_none (by simp; omega)] at hx; cases hx
          simp only [List.getElem?_take, hj, if_true, List.getElem?_drop] at hx
          exact hv _ x hx) hK

/-- A part of a slice that is owned, of one element at least. -/
theorem AOp.sliceM {t : TypeId} {x : Operand} {lo hi : Option Operand} {len es id ver off : Nat} {l h : Int} (hn : Nat.ble (d + 1) n = true) (hx : ev f x = .slm id ver es off len) (hal : Alive H id ver) (ht : TSlice P t es)
    (hl : loOf f lo = some l) (hh : hiOf f len hi = some h) (h0 : 0 ≤ l) (h1 : l < h ∨ l = 0) (h1' : l ≤ h) (h2 : h ≤ len)
    (hK : K (upd f d (.slm id ver es (off + l.toNat * es) (h.toNat - l.toNat))) H) : AOp P n ⟨some d, .slice t x lo hi none, ty, pos, after, guard⟩ K f H :=
  .pureV _ hn (fun μ a w hs => by
    have g1 := hs.ev x; rw [hx] at g1
    obtain ⟨e, t1, t2⟩ := ht
    obtain ⟨cap, hz, hcap, hsz, hk⟩ := g1.slm_inv hal
    have := run_bounds (P := P) (isS := true) (cap := cap) hs hl hh h0 h1' h2 hcap
    refine ⟨.slice (some ⟨μ id, off + l.toNat * es, none⟩) (h.toNat - l.toNat) (cap - l.toNat), ?_, .slm hk (by omega) fun _ => ⟨rfl, ?_⟩⟩
    · simp only [execOp, hz, Instr.sliceAt, Sem.run_bind, run_under t1, Result.andThen_ok, Instr.slice, Option.map_none, this, t2.run, Sem.run_pure, Option.map_some, add_off]
      by_cases hc : cap = l.toNat
      · have hl0 : l = 0 := by omega
        subst hl0
        simp [hc]
      · rw [if_neg hc]
    · have : off + l.toNat * es + (cap - l.toNat) * es = off + cap * es := by
        rw [Nat.add_assoc, ← Nat.add_mul]; congr 2; omega
      omega) hK

/-- An array in memory as a slice. -/
theorem AOp.sliceA {t : TypeId} {x : Operand} {m es id ver off : Nat} {cells : List AV} {agg : Bool} (hn : Nat.ble (d + 1) n = true) (hx : ev f x = .ptr id ver off) (hid : H id = some (.row ver cells)) (ht : TArr P t m agg es) (hm : 0 < m) (hle : Nat.ble (off + m * es) cells.length = true)
    (hK : K (upd f d (.slm id ver es off m)) H) : AOp P n ⟨some d, .slice t x none none none, ty, pos, after, guard⟩ K f H :=
  .pureV _ hn (fun μ a w hs => by
    have g1 := hs.ev x; rw [hx] at g1
    obtain ⟨e, t1, t2⟩ := ht
    generalize hz : a.eval x = z at g1
    cases g1 with
    | ptr hk ha =>
      have := ha ⟨cells, hid⟩
      subst this
      have hb := run_bounds (P := P) (isS := false) (cap := m) (len := m) (lo := none) (hi := none) (l := 0) (h := m) hs rfl rfl (by omega) (by omega) (by omega) (Nat.le_refl _)
      simp only [Option.map_none] at hb
      obtain ⟨cs, T, b1, b2, _⟩ := hs.hr.rows id ver cells hid
      have hle' := Nat.le_of_ble_eq_true hle
      refine ⟨.slice (some ⟨μ id, off, none⟩) m m, ?_, .slm hk (Nat.le_refl _) fun _ => ⟨rfl, by simp [bsize, b1, osize]; omega⟩⟩
      simp [execOp, hz, Instr.sliceAt, run_under t1, Instr.sureAddr, hb, t2.size.run]) hK

theorem AOp.sliceStr {t : TypeId} {x : Operand} {lo hi : Option Operand} {s : ByteArray} {l h : Int} (hn : Nat.ble (d + 1) n = true) (hx : ev f x = .str s) (ht : P.underlying t = some .string)
    (hl : loOf f lo = some l) (hh : hiOf f s.size hi = some h) (h0 : 0 ≤ l) (h1 : l ≤ h) (h2 : h ≤ s.size) (hK : K (upd f d (.str (s.extract l.toNat h.toNat))) H) : AOp P n ⟨some d, .slice t x lo hi none, ty, pos, after, guard⟩ K f H :=
  .pureV _ hn (fun μ a w hs => by
    have g1 := hs.ev x; rw [hx] at g1
    have hb := run_bounds (P := P) (isS := false) (cap := s.size) hs hl hh h0 h1 h2 (Nat.le_refl _)
    refine ⟨.string (s.extract l.toNat h.toNat), ?_, .str _⟩
    simp [execOp, g1.str_inv, Instr.sliceAt, run_under ht, Instr.slice, hb]) hK

/-! ### Functions as values, interface values, the least and the greatest -/
theorem AOp.makeFunc {g : FuncId} {caps : Array Operand} {cs : List AV} (hn : Nat.ble (d + 1) n = true) (hc : caps.toList.map (ev f) = cs) (hK : K (upd f d (.fn g cs)) H) :
    AOp P n ⟨some d, .makeFunc (.func g) #[] caps, ty, pos, after, guard⟩ K f H :=
  .pureV _ hn (fun μ a w hs => by
    subst hc
    refine ⟨.func (.func g) #[] (caps.map a.eval), by simp [execOp, Instr.makeFunc], .fn (by simp) fun j x y hx hy => ?_⟩
    simp only [List.getElem?_map, Array.getElem?_map, Option.map_eq_some_iff] at hx hy
    obtain ⟨p, h1, rfl⟩ := hx
    obtain ⟨q, h2, rfl⟩ := hy
    rw [Array.getElem?_toList, h2] at h1; cases h1
    exact hs.ev _) hK

theorem AOp.makeIface {t : TypeId} {x : Operand} {dd : TypeDesc} (v : AV) (hn : Nat.ble (d + 1) n = true) (hx : ev f x = v) (ht : P.underlying t = some dd) (hd : (match dd with | .interface _ => true | _ => false) = false) (hK : K (upd f d (.iface t v)) H) :
    AOp P n ⟨some d, .makeInterface t x, ty, pos, after, guard⟩ K f H :=
  .pureV _ hn (fun μ a w hs => by
    have h1 := hs.ev x; rw [hx] at h1
    refine ⟨.iface t (a.eval x), ?_, .iface h1⟩
    simp only [execOp, Instr.makeInterface, Sem.run_bind, run_under ht, Result.andThen_ok]
    cases dd <;> first | rfl | (simp at hd)) hK

theorem AOp.min2 {x y : Operand} {at_ : Array TypeId} {k : IntKind} {p q : Int} (hn : Nat.ble (d + 1) n = true) (hx : ev f x = .int k p) (hy : ev f y = .int k q) (hK : K (upd f d (.int k (min p q))) H) :
    AOp P n ⟨some d, .call { callee := .builtin .min, args := #[x, y], argTypes := at_ }, ty, pos, after, guard⟩ K f H :=
  .pureV _ hn (fun μ a w hs => by
    have h1 := hs.ev x; rw [hx] at h1
    have h2 := hs.ev y; rw [hy] at h2
    refine ⟨.int k (min p q), ?_, .int _ _⟩
    rw [run_call_builtin (r := .ok (.int k (min p q)) w) w ?_ rfl]
    · rfl
    · simp only [List.map_toArray, List.map_cons, List.map_nil, h1.int_inv, h2.int_inv, Builtin.min_, List.foldlM_cons, List.foldlM_nil, Builtin.min2]
      simp
      by_cases h : q < p
      · rw [if_pos h, Int.min_eq_right (by omega)]
      · rw [if_neg h, Int.min_eq_left (by omega)]) hK

theorem AOp.max2 {x y : Operand} {at_ : Array TypeId} {k : IntKind} {p q : Int} (hn : Nat.ble (d + 1) n = true) (hx : ev f x = .int k p) (hy : ev f y = .int k q) (hK : K (upd f d (.int k (max p q))) H) :
    AOp P n ⟨some d, .call { callee := .builtin .max, args := #[x, y], argTypes := at_ }, ty, pos, after, guard⟩ K f H :=
  .pureV _ hn (fun μ a w hs => by
    have h1 := hs.ev x; rw [hx] at h1
    have h2 := hs.ev y; rw [hy] at h2
    refine ⟨.int k (max p q), ?_, .int _ _⟩
    rw [run_call_builtin (r := .ok (.int k (max p q)) w) w ?_ rfl]
    · rfl
    · simp only [List.map_toArray, List.map_cons, List.map_nil, h1.int_inv, h2.int_inv, Builtin.max_, List.foldlM_cons, List.foldlM_nil, Builtin.max2]
      simp
      by_cases h : q > p
      · rw [if_pos h, Int.max_eq_right (by omega)]
      · rw [if_neg h, Int.max_eq_left (by omega)]) hK

/-! ### Calls -/
def TFun (P : Program) (g : FuncId) : Prop := ∃ fn, P.funcs[g]? = some fn ∧ (fn.name == "runtime.NumGoroutine") = false ∧ fn.body.isNone = false

theorem VRs_ev {w : World} {μ : Nat → Nat} {a : Act} (hs : SR n w μ f H a) (args : List Operand) : VRs w μ H (args.map (ev f)) (args.map a.eval) :=
  ⟨by simp, fun j x y hx hy => by
    simp only [List.getElem?_map, Option.map_eq_some_iff] at hx hy
    obtain ⟨p, h1, rfl⟩ := hx
    obtain ⟨q, h2, rfl⟩ := hy
    rw [h1] at h2; cases h2
    exact hs.ev _⟩

theorem AOp.call {g : FuncId} {c : Operand} {args : Array Operand} {at_ : Array TypeId} {caps as : List AV} {R : AV → Heap → Prop} (hn : Nat.ble (d + 1) n = true) (hc : ev f c = .fn g caps) (has : args.toList.map (ev f) = as) (ht : TFun P g)
    (hC : ACalls P g (as ++ caps) H R) (hK : ∀ r H', R r H' → K (upd f d r) H') : AOp P n ⟨some d, .call { callee := .value c, args, argTypes := at_ }, ty, pos, after, guard⟩ K f H := by
  intro μ a w hs Q
  have h1 := hs.ev c; rw [hc] at h1
  obtain ⟨fn, t1, t2, t3⟩ := ht
  generalize hz : a.eval c = z at h1
  cases h1 with
  | fn hl hcv =>
    rename_i vs
    have hargs : VRs w μ H (as ++ caps) ((args.map a.eval ++ vs : Array Value)).toList := by
      have h2 := VRs_ev hs args.toList
      rw [has] at h2
      refine ⟨by have := h2.1; simp at this ⊢; omega, fun j x y hx hy => ?_⟩
      rcases Nat.lt_or_ge j as.length with h | h
      · rw [List.getElem?_append_left h] at hx
        have hl2 : j < (args.map a.eval).size := by have := h2.1; simp at this ⊢; omega
        rw [Array.toList_append, List.getElem?_append_left (by simpa using hl2)] at hy
        refine h2.2 j x y hx ?_
        simpa using hy
      · rw [List.getElem?_append_right h] at hx
        have hl2 : (args.map a.eval).toList.length = as.length := by have := h2.1; simp at this ⊢; omega
        rw [Array.toList_append, List.getElem?_append_right (by omega), hl2] at hy
        exact hcv _ x y hx (by simpa using hy)
    have hrun : (execOp a.eval ⟨some d, .call { callee := .value c, args, argTypes := at_ }, ty, pos, after, guard⟩).run P w = .ok (.enter g (args.map a.eval ++ vs)) w := by
      have t2' : fn.name ≠ "runtime.NumGoroutine" := by simpa using t2
      have t3' : fn.body ≠ none := fun h => by rw [h] at t3; cases t3
      simp [execOp, resolve, hz, Deferred.ofValue, invoke, callFunc, t1, t2', t3']
    unfold Oper.wp
    rw [hrun]
    refine (hC μ w _ hs.hr hargs).mono ?_
    rintro e w' ⟨v, rfl, μ', H', r, g1, g2, g3, g4⟩
    exact ⟨μ', _, H', hs.put g3 g1 hn g2, g3, hK r H' g4⟩

/-- A call whose result nobody takes. -/
theorem AOp.call0 {g : FuncId} {c : Operand} {args : Array Operand} {at_ : Array TypeId} {caps as : List AV} {R : AV → Heap → Prop} (hc : ev f c = .fn g caps) (has : args.toList.map (ev f) = as) (ht : TFun P g)
    (hC : ACalls P g (as ++ caps) H R) (hK : ∀ r H', R r H' → K f H') : AOp P n ⟨none, .call { callee := .value c, args, argTypes := at_ }, ty, pos, after, guard⟩ K f H := by
  intro μ a w hs Q
  have h1 := hs.ev c; rw [hc] at h1
  obtain ⟨fn, t1, t2, t3⟩ := ht
  generalize hz : a.eval c = z at h1
  cases h1 with
  | fn hl hcv =>
    rename_i vs
    have hargs : VRs w μ H (as ++ caps) ((args.map a.eval ++ vs : Array Value)).toList := by
      have h2 := VRs_ev hs args.toList
      rw [has] at h2
      refine ⟨by have := h2.1; simp at this ⊢; omega, fun j x y hx hy => ?_⟩
      rcases Nat.lt_or_ge j as.length with h | h
      · rw [List.getElem?_append_left h] at hx
        have hl2 : j < (args.map a.eval).size := by have := h2.1; simp at this ⊢; omega
        rw [Array.toList_append, List.getElem?_append_left (by simpa using hl2)] at hy
        refine h2.2 j x y hx ?_
        simpa using hy
      · rw [List.getElem?_append_right h] at hx
        have hl2 : (args.map a.eval).toList.length = as.length := by have := h2.1; simp at this ⊢; omega
        rw [Array.toList_append, List.getElem?_append_right (by omega), hl2] at hy
        exact hcv _ x y hx (by simpa using hy)
    have hrun : (execOp a.eval ⟨none, .call { callee := .value c, args, argTypes := at_ }, ty, pos, after, guard⟩).run P w = .ok (.enter g (args.map a.eval ++ vs)) w := by
      have t2' : fn.name ≠ "runtime.NumGoroutine" := by simpa using t2
      have t3' : fn.body ≠ none := fun h => by rw [h] at t3; cases t3
      simp [execOp, resolve, hz, Deferred.ofValue, invoke, callFunc, t1, t2', t3']
    unfold Oper.wp
    rw [hrun]
    refine (hC μ w _ hs.hr hargs).mono ?_
    rintro e w' ⟨v, rfl, μ', H', r, g1, g2, g3, g4⟩
    exact ⟨μ', _, H', hs.stay g3 g1, g3, hK r H' g4⟩

end
end Go.AH
