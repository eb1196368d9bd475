/- A part of the proof that a law of the edges and fans of faces answers true for every input of its bulk: own work, by an AI agent. -/
import Derived.Test.YtfgfalidpbbkhaaAH1
set_option linter.unusedVariables false
set_option linter.unusedSimpArgs false
namespace Go.AH
open Go

def updH (H : Heap) (id : Nat) (B : AB) : Heap := fun i => bif Nat.beq i id then some B else H i
theorem updH_eq (H : Heap) (id : Nat) (B : AB) (i : Nat) : updH H id B i = if i = id then some B else H i := by
  unfold updH
  by_cases h : i = id
  · simp [h]
  · have : Nat.beq i id = false := by
      cases hb : Nat.beq i id with
      | false => rfl
      | true => exact absurd (Nat.eq_of_beq_eq_true hb) h
    simp [h, this]

/-! ### What the program's tables say of a type -/
def TY (P : Program) (t : TypeId) (agg : Bool) (size : Nat) : Prop :=
  (∃ i, P.info? t = some i ∧ i.size = size) ∧ ∃ d, P.underlying t = some d ∧ (match d with | .struct _ | .array _ _ => true | _ => false) = agg
def TSize (P : Program) (t : TypeId) (size : Nat) : Prop := ∃ i, P.info? t = some i ∧ i.size = size
def TField (P : Program) (s : TypeId) (i off : Nat) (agg : Bool) (size : Nat) : Prop :=
  ∃ fs fl, P.underlying s = some (.struct fs) ∧ fs[i]? = some fl ∧ fl.offset = off ∧ TY P fl.type agg size ∧ size ≠ 0
def TSlice (P : Program) (t : TypeId) (es : Nat) : Prop := ∃ e, P.underlying t = some (.slice e) ∧ TSize P e es
def TArr (P : Program) (t : TypeId) (len : Nat) (agg : Bool) (es : Nat) : Prop := ∃ e, P.underlying t = some (.array len e) ∧ TY P e agg es
def TZero (P : Program) (t : TypeId) (Z : List AV) : Prop := ∃ i z, P.info? t = some i ∧ i.zero = some z ∧ z.cells.toList.map cst = Z

section
variable {P : Program}
theorem TY.size {t : TypeId} {b : Bool} {s : Nat} (h : TY P t b s) : TSize P t s := h.1

theorem run_info {t : TypeId} {i : TypeInfo} (h : P.info? t = some i) (w : World) : (typeInfo t).run P w = .ok i w := by
  simp [typeInfo, h]
theorem run_under {t : TypeId} {d : TypeDesc} (h : P.underlying t = some d) (w : World) : (underlying t).run P w = .ok d w := by
  simp [underlying, h]
theorem TSize.run {t : TypeId} {s : Nat} (h : TSize P t s) (w : World) : (sizeOf t).run P w = .ok s w := by
  obtain ⟨i, h1, h2⟩ := h
  simp [sizeOf, run_info h1, h2]
theorem TY.run {t : TypeId} {b : Bool} {s : Nat} (h : TY P t b s) (w : World) : (isAgg t).run P w = .ok b w := by
  obtain ⟨_, d, h1, h2⟩ := h
  simp only [isAgg, Sem.run_bind, run_under h1, Result.andThen_ok]
  cases d <;> simp at h2 <;> simp [h2]
end

/-! ### Cells -/
def AV.one : AV → Bool
  | .undef | .agg _ | .tup _ => false
  | _ => true

theorem VR.one {w : World} {μ : Nat → Nat} {H : Heap} {x : AV} {v : Value} (h : VR w μ H x v) (hx : x.one = true) : v.oneCell' = true := by
  cases h <;> simp_all [AV.one, Value.oneCell']

def AV.cells : AV → List AV
  | .agg cs => cs
  | v => [v]

/-- A variable of some cells, out of a row of cells. -/
def loadv (agg : Bool) (size off : Nat) (cells : List AV) : Option AV :=
  match agg with
  | true => match Nat.ble (off + size) cells.length with
    | true => some (.agg ((cells.drop off).take size))
    | false => none
  | false => cells[off]?

section
variable {P : Program} {n : Nat} {f : Nat → AV} {H : Heap} {K : (Nat → AV) → Heap → Prop} {ty : TypeId} {pos : String} {after : Array Edge} {guard : Option (Nat × Bool)} {d : Nat}

theorem AOp.pureV {op : Op} (x : AV) (hn : Nat.ble (d + 1) n = true)
    (h : ∀ μ a w, SR n w μ f H a → ∃ v, (execOp a.eval ⟨some d, op, ty, pos, after, guard⟩).run P w = .ok (.value v) w ∧ VR w μ H x v) (hK : K (upd f d x) H) :
    AOp P n ⟨some d, op, ty, pos, after, guard⟩ K f H := by
  intro μ a w hs Q
  obtain ⟨v, h1, h2⟩ := h μ a w hs
  unfold Oper.wp
  rw [h1]
  exact ⟨μ, _, H, hs.put (.refl _ _ _) hs.hr hn h2, .refl _ _ _, hK⟩

theorem AOp.move {x : Operand} (v : AV) (hn : Nat.ble (d + 1) n = true) (hx : ev f x = v) (hK : K (upd f d v) H) : AOp P n ⟨some d, .move x, ty, pos, after, guard⟩ K f H :=
  .pureV v hn (fun _ a _ hs => ⟨a.eval x, by simp [execOp], hx ▸ hs.ev x⟩) hK

theorem AOp.assign {x : Operand} (v : AV) (hn : Nat.ble (d + 1) n = true) (hx : ev f x = v) (hK : K (upd f d v) H) : AOp P n ⟨some d, .assign x, ty, pos, after, guard⟩ K f H :=
  .pureV v hn (fun _ a _ hs => ⟨a.eval x, by simp [execOp], hx ▸ hs.ev x⟩) hK

theorem VR.bool_inv {w : World} {μ : Nat → Nat} {b : Bool} {v : Value} (h : VR w μ H (.bool b) v) : v = .bool b := by cases h; rfl
theorem VR.int_inv {w : World} {μ : Nat → Nat} {k : IntKind} {m : Int} {v : Value} (h : VR w μ H (.int k m) v) : v = .int k m := by cases h; rfl
theorem VR.str_inv {w : World} {μ : Nat → Nat} {s : ByteArray} {v : Value} (h : VR w μ H (.str s) v) : v = .string s := by cases h; rfl

theorem AOp.pick {c x y : Operand} {b : Bool} (v : AV) (hn : Nat.ble (d + 1) n = true) (hc : ev f c = .bool b) (h1 : b = true → ev f x = v) (h2 : b = false → ev f y = v)
    (hK : K (upd f d v) H) : AOp P n ⟨some d, .pick c x y, ty, pos, after, guard⟩ K f H :=
  .pureV v hn (fun μ a w hs => by
    have hb := hs.ev c
    rw [hc] at hb
    have hb := hb.bool_inv
    cases b with
    | true => exact ⟨a.eval x, by simp [execOp, hb, asBool], h1 rfl ▸ hs.ev x⟩
    | false => exact ⟨a.eval y, by simp [execOp, hb, asBool], h2 rfl ▸ hs.ev y⟩) hK

theorem AOp.extract {x : Operand} {i : Nat} {vs : List AV} (v : AV) (hn : Nat.ble (d + 1) n = true) (hx : ev f x = .tup vs) (hv : vs[i]? = some v) (hK : K (upd f d v) H) :
    AOp P n ⟨some d, .extract x i, ty, pos, after, guard⟩ K f H :=
  .pureV v hn (fun μ a w hs => by
    have h := hs.ev x
    rw [hx] at h
    generalize hz : a.eval x = z at h
    cases h with
    | tup hl h =>
      rename_i us
      have hi : i < us.size := by
        rcases Nat.lt_or_ge i vs.length with h' | h'
        · omega
        · rw [List.getElem?_eq_none h'] at hv; cases hv
      refine ⟨us[i], ?_, h i v us[i] hv (Array.getElem?_eq_getElem hi)⟩
      simp [execOp, hz, Instr.extract, hi]) hK

/-- A check against nil: of a pointer, a function, an interface value. -/
def AV.notNil : AV → Bool
  | .ptr .. | .fptr .. | .fn .. | .iface .. => true
  | _ => false

theorem AOp.nilCheck {x : Operand} (v : AV) (hn : Nat.ble (d + 1) n = true) (hx : ev f x = v) (hv : v.notNil = true) (hK : K (upd f d v) H) :
    AOp P n ⟨some d, .nilCheck x, ty, pos, after, guard⟩ K f H :=
  .pureV v hn (fun μ a w hs => by
    have h := hs.ev x
    rw [hx] at h
    refine ⟨a.eval x, ?_, h⟩
    generalize hz : a.eval x = z at h
    cases h <;> simp [AV.notNil] at hv <;> simp [execOp, hz]) hK

theorem AOp.not {x : Operand} {b : Bool} {t : TypeId} (hn : Nat.ble (d + 1) n = true) (hx : ev f x = .bool b) (hK : K (upd f d (.bool !b)) H) :
    AOp P n ⟨some d, .unOp .not t x, ty, pos, after, guard⟩ K f H :=
  .pureV (.bool !b) hn (fun μ a w hs => by
    have h := hs.ev x; rw [hx] at h
    exact ⟨.bool !b, by simp [execOp, h.bool_inv, Op.unary], .bool _⟩) hK

theorem AOp.neg {x : Operand} {k : IntKind} {m : Int} {t : TypeId} (hn : Nat.ble (d + 1) n = true) (hx : ev f x = .int k m) (hK : K (upd f d (.int k (k.wrap (0 - m)))) H) :
    AOp P n ⟨some d, .unOp .neg t x, ty, pos, after, guard⟩ K f H :=
  .pureV (.int k (k.wrap (0 - m))) hn (fun μ a w hs => by
    have h := hs.ev x; rw [hx] at h
    exact ⟨.int k (k.wrap (0 - m)), by simp [execOp, h.int_inv, Op.unary, Op.intArith], .int _ _⟩) hK

/-- What an operator makes of two integers. -/
def intBin (op : BinOp) (k : IntKind) (x y : Int) : Option AV :=
  match op with
  | .add => some (.int k (k.wrap (x + y)))
  | .sub => some (.int k (k.wrap (x - y)))
  | .mul => some (.int k (k.wrap (x * y)))
  | .eql => some (.bool (x == y))
  | .neq => some (.bool (x != y))
  | .lss => some (.bool (decide (x < y)))
  | .leq => some (.bool (decide (x ≤ y)))
  | .gtr => some (.bool (decide (x > y)))
  | .geq => some (.bool (decide (x ≥ y)))
  | _ => none

theorem AOp.bin {op : BinOp} {t t' : TypeId} {x y : Operand} {k : IntKind} {p q : Int} (v : AV) (hn : Nat.ble (d + 1) n = true) (hx : ev f x = .int k p) (hy : ev f y = .int k q)
    (hv : intBin op k p q = some v) (hK : K (upd f d v) H) : AOp P n ⟨some d, .binOp op t x y t', ty, pos, after, guard⟩ K f H :=
  .pureV v hn (fun μ a w hs => by
    have h1 := hs.ev x; rw [hx] at h1
    have h2 := hs.ev y; rw [hy] at h2
    have h1 := h1.int_inv
    have h2 := h2.int_inv
    cases op with
    | add =>
      simp only [intBin, Option.some.injEq] at hv
      subst hv
      exact ⟨.int k (k.wrap (p + q)), by simp [execOp, eqGuard, h1, h2, binOp, Op.intArith], .int _ _⟩
    | sub =>
      simp only [intBin, Option.some.injEq] at hv
      subst hv
      exact ⟨.int k (k.wrap (p - q)), by simp [execOp, eqGuard, h1, h2, binOp, Op.intArith], .int _ _⟩
    | mul =>
      simp only [intBin, Option.some.injEq] at hv
      subst hv
      exact ⟨.int k (k.wrap (p * q)), by simp [execOp, eqGuard, h1, h2, binOp, Op.intArith], .int _ _⟩
    | eql =>
      simp only [intBin, Option.some.injEq] at hv
      subst hv
      exact ⟨.bool (p == q), by simp [execOp, eqGuard, h1, h2, binOp, Op.intCmp], .bool _⟩
    | neq =>
      simp only [intBin, Option.some.injEq] at hv
      subst hv
      exact ⟨.bool (p != q), by simp [execOp, eqGuard, h1, h2, binOp, Op.intCmp], .bool _⟩
    | lss =>
      simp only [intBin, Option.some.injEq] at hv
      subst hv
      exact ⟨.bool (decide (p < q)), by simp [execOp, eqGuard, h1, h2, binOp, Op.intCmp], .bool _⟩
    | leq =>
      simp only [intBin, Option.some.injEq] at hv
      subst hv
      exact ⟨.bool (decide (p ≤ q)), by simp [execOp, eqGuard, h1, h2, binOp, Op.intCmp], .bool _⟩
    | gtr =>
      simp only [intBin, Option.some.injEq] at hv
      subst hv
      exact ⟨.bool (decide (p > q)), by simp [execOp, eqGuard, h1, h2, binOp, Op.intCmp], .bool _⟩
    | geq =>
      simp only [intBin, Option.some.injEq] at hv
      subst hv
      exact ⟨.bool (decide (p ≥ q)), by simp [execOp, eqGuard, h1, h2, binOp, Op.intCmp], .bool _⟩
    | _ => simp [intBin] at hv) hK

theorem AOp.quo {t t' : TypeId} {x y : Operand} {k : IntKind} {p q : Int} (hn : Nat.ble (d + 1) n = true) (hx : ev f x = .int k p) (hy : ev f y = .int k q)
    (hq : q ≠ 0) (hK : K (upd f d (.int k (k.wrap (p.tdiv q)))) H) : AOp P n ⟨some d, .binOp .quo t x y t', ty, pos, after, guard⟩ K f H :=
  .pureV _ hn (fun μ a w hs => by
    have h1 := hs.ev x; rw [hx] at h1
    have h2 := hs.ev y; rw [hy] at h2
    exact ⟨.int k (k.wrap (p.tdiv q)), by simp [execOp, eqGuard, h1.int_inv, h2.int_inv, binOp, Op.intDiv, hq], .int _ _⟩) hK

theorem AOp.rem {t t' : TypeId} {x y : Operand} {k : IntKind} {p q : Int} (hn : Nat.ble (d + 1) n = true) (hx : ev f x = .int k p) (hy : ev f y = .int k q)
    (hq : q ≠ 0) (hK : K (upd f d (.int k (p.tmod q))) H) : AOp P n ⟨some d, .binOp .rem t x y t', ty, pos, after, guard⟩ K f H :=
  .pureV _ hn (fun μ a w hs => by
    have h1 := hs.ev x; rw [hx] at h1
    have h2 := hs.ev y; rw [hy] at h2
    exact ⟨.int k (p.tmod q), by simp [execOp, eqGuard, h1.int_inv, h2.int_inv, binOp, Op.intDiv, hq], .int _ _⟩) hK

/-- 'x >> c' by a number of at least 0. -/
theorem AOp.shr {t t' : TypeId} {x y : Operand} {k k' : IntKind} {p q : Int} (hn : Nat.ble (d + 1) n = true) (hx : ev f x = .int k p) (hy : ev f y = .int k' q)
    (hq : 0 ≤ q) (hK : K (upd f d (.int k (p.fdiv (2 ^ (min q.toNat k.bits))))) H) : AOp P n ⟨some d, .binOp .shr t x y t', ty, pos, after, guard⟩ K f H :=
  .pureV _ hn (fun μ a w hs => by
    have h1 := hs.ev x; rw [hx] at h1
    have h2 := hs.ev y; rw [hy] at h2
    exact ⟨.int k (p.fdiv (2 ^ (min q.toNat k.bits))), by simp [execOp, eqGuard, h1.int_inv, h2.int_inv, binOp, Op.shift, Int.not_lt.2 hq], .int _ _⟩) hK

theorem run_equal_bool {t : TypeId} (ht : P.underlying t = some .bool) (p q : Bool) (w : World) : (Op.equal t (.bool p) (.bool q)).run P w = .ok (p == q) w := by
  have h : ∀ d, (Op.equalIn (d + 1) t (.bool p) (.bool q)).run P w = .ok (p == q) w := fun d => by
    rw [Op.equalIn]; simp [run_under ht]
  exact h 9999

theorem AOp.beq {t t' : TypeId} {x y : Operand} {p q : Bool} (hn : Nat.ble (d + 1) n = true) (hx : ev f x = .bool p) (hy : ev f y = .bool q) (ht : P.underlying t = some .bool)
    (hK : K (upd f d (.bool (p == q))) H) : AOp P n ⟨some d, .binOp .eql t x y t', ty, pos, after, guard⟩ K f H :=
  .pureV _ hn (fun μ a w hs => by
    have h1 := hs.ev x; rw [hx] at h1
    have h2 := hs.ev y; rw [hy] at h2
    exact ⟨.bool (p == q), by simp [execOp, eqGuard, h1.bool_inv, h2.bool_inv, binOp, run_equal_bool ht], .bool _⟩) hK

theorem AOp.bne {t t' : TypeId} {x y : Operand} {p q : Bool} (hn : Nat.ble (d + 1) n = true) (hx : ev f x = .bool p) (hy : ev f y = .bool q) (ht : P.underlying t = some .bool)
    (hK : K (upd f d (.bool (p != q))) H) : AOp P n ⟨some d, .binOp .neq t x y t', ty, pos, after, guard⟩ K f H :=
  .pureV _ hn (fun μ a w hs => by
    have h1 := hs.ev x; rw [hx] at h1
    have h2 := hs.ev y; rw [hy] at h2
    exact ⟨.bool (p != q), by simp [execOp, eqGuard, h1.bool_inv, h2.bool_inv, binOp, run_equal_bool ht]; cases p <;> cases q <;> rfl, .bool _⟩) hK

theorem AOp.seq {t t' : TypeId} {x y : Operand} {p q : ByteArray} (hn : Nat.ble (d + 1) n = true) (hx : ev f x = .str p) (hy : ev f y = .str q)
    (hK : K (upd f d (.bool (p.toList == q.toList))) H) : AOp P n ⟨some d, .binOp .eql t x y t', ty, pos, after, guard⟩ K f H :=
  .pureV _ hn (fun μ a w hs => by
    have h1 := hs.ev x; rw [hx] at h1
    have h2 := hs.ev y; rw [hy] at h2
    exact ⟨.bool (p.toList == q.toList), by simp [execOp, eqGuard, h1.str_inv, h2.str_inv, binOp, Op.stringOp], .bool _⟩) hK

theorem AOp.sne {t t' : TypeId} {x y : Operand} {p q : ByteArray} (hn : Nat.ble (d + 1) n = true) (hx : ev f x = .str p) (hy : ev f y = .str q)
    (hK : K (upd f d (.bool (!(p.toList == q.toList)))) H) : AOp P n ⟨some d, .binOp .neq t x y t', ty, pos, after, guard⟩ K f H :=
  .pureV _ hn (fun μ a w hs => by
    have h1 := hs.ev x; rw [hx] at h1
    have h2 := hs.ev y; rw [hy] at h2
    exact ⟨.bool (!(p.toList == q.toList)), by simp [execOp, eqGuard, h1.str_inv, h2.str_inv, binOp, Op.stringOp], .bool _⟩) hK

theorem AOp.convInt {s t : TypeId} {x : Operand} {k k' : IntKind} {p : Int} (hn : Nat.ble (d + 1) n = true) (hx : ev f x = .int k p) {ds : TypeDesc} (hs' : P.underlying s = some ds) (ht : P.underlying t = some (.int k'))
    (hK : K (upd f d (.int k' (k'.wrap p))) H) : AOp P n ⟨some d, .convert s t x, ty, pos, after, guard⟩ K f H :=
  .pureV _ hn (fun μ a w hs => by
    have h1 := hs.ev x; rw [hx] at h1
    exact ⟨.int k' (k'.wrap p), by simp [execOp, h1.int_inv, convert, run_under hs', run_under ht, Conv.intToInt], .int _ _⟩) hK

/-! ### Places -/
theorem AOp.fieldAddr {s : TypeId} {x : Operand} {i id ver off o size : Nat} {agg : Bool} (hn : Nat.ble (d + 1) n = true) (hx : ev f x = .ptr id ver off) (ht : TField P s i o agg size)
    (hK : K (upd f d (.ptr id ver (off + o))) H) (hid : Alive H id ver) : AOp P n ⟨some d, .fieldAddr s x i, ty, pos, after, guard⟩ K f H :=
  .pureV _ hn (fun μ a w hs => by
    have h1 := hs.ev x; rw [hx] at h1
    obtain ⟨fs, fl, t1, t2, t3, t4, t5⟩ := ht
    generalize hz : a.eval x = z at h1
    cases h1 with
    | ptr hk ha =>
      have := ha hid
      subst this
      refine ⟨.pointer (some ⟨μ id, off + o, none⟩), ?_, .ptr hk fun _ => rfl⟩
      simp [execOp, hz, Instr.fieldAt, run_under t1, t2, Instr.sureAddr, fieldPlace, t4.size.run, t5, Addr.add, t3]) hK

theorem AOp.fieldAddrF {s : TypeId} {x : Operand} {i off o size : Nat} {cells : List AV} {agg : Bool} (hn : Nat.ble (d + 1) n = true) (hx : ev f x = .fptr cells off) (ht : TField P s i o agg size)
    (hK : K (upd f d (.fptr cells (off + o))) H) : AOp P n ⟨some d, .fieldAddr s x i, ty, pos, after, guard⟩ K f H :=
  .pureV _ hn (fun μ a w hs => by
    have h1 := hs.ev x; rw [hx] at h1
    obtain ⟨fs, fl, t1, t2, t3, t4, t5⟩ := ht
    generalize hz : a.eval x = z at h1
    cases h1 with
    | fptr hb hc hv =>
      rename_i b o' ys
      refine ⟨.pointer (some ⟨b, o' + (off + o), none⟩), ?_, .fptr hb hc hv⟩
      simp [execOp, hz, Instr.fieldAt, run_under t1, t2, Instr.sureAddr, fieldPlace, t4.size.run, t5, Addr.add, t3, Nat.add_assoc]) hK

/-- 'part': a part of an aggregate. -/
theorem run_part {t : TypeId} {agg : Bool} {size off : Nat} (ht : TY P t agg size) {w : World} {μ : Nat → Nat} {cells : List AV} {vs : Array Value} (hl : cells.length = vs.size)
    (h : ∀ (j : Nat) (x : AV) (y : Value), cells[j]? = some x → vs[j]? = some y → VR w μ H x y) {v : AV} (hv : loadv agg size off cells = some v) :
    ∃ u, (part t vs off).run P w = .ok u w ∧ VR w μ H v u := by
  cases agg with
  | true =>
    simp only [loadv] at hv
    cases hb : Nat.ble (off + size) cells.length with
    | false => rw [hb] at hv; cases hv
    | true =>
      rw [hb] at hv
      simp only [Option.some.injEq] at hv
      subst hv
      have hb' := Nat.le_of_ble_eq_true hb
      refine ⟨.agg (vs.extract off (off + size)), ?_, .agg ?_ ?_⟩
      · simp [part, ht.run, ht.size.run]
      · simp; omega
      · intro j x y hx hy
        have hj : j < size := by
          rcases Nat.lt_or_ge j size with h' | h'
          · exact h'
          · rw [List.getElem?_eq_none (by simp; omega)] at hx; cases hx
        refine h (off + j) x y ?_ ?_
        · simpa [List.getElem?_take, hj] using hx
        · rw [Array.getElem?_extract] at hy
          split at hy
          · exact hy
          · cases hy
  | false =>
    simp only [loadv] at hv
    have hi : off < vs.size := by
      rcases Nat.lt_or_ge off cells.length with h' | h'
      · omega
      · rw [List.getElem?_eq_none h'] at hv; cases hv
    refine ⟨vs[off], ?_, h off v vs[off] hv (Array.getElem?_eq_getElem hi)⟩
    simp [part, ht.run, hi]

theorem AOp.field {s : TypeId} {x : Operand} {i o size : Nat} {cells : List AV} {agg : Bool} (v : AV) (hn : Nat.ble (d + 1) n = true) (hx : ev f x = .agg cells) (ht : TField P s i o agg size)
    (hv : loadv agg size o cells = some v) (hK : K (upd f d v) H) : AOp P n ⟨some d, .field s x i, ty, pos, after, guard⟩ K f H :=
  .pureV v hn (fun μ a w hs => by
    have h1 := hs.ev x; rw [hx] at h1
    obtain ⟨fs, fl, t1, t2, t3, t4, t5⟩ := ht
    generalize hz : a.eval x = z at h1
    cases h1 with
    | agg hl h =>
      obtain ⟨u, hu, hr⟩ := run_part t4 hl h hv
      refine ⟨u, ?_, hr⟩
      subst t3
      simp [execOp, hz, Instr.field, run_under t1, t2, asAgg, hu]) hK

theorem AOp.indexArr {t : TypeId} {x ix : Operand} {k : IntKind} {i : Int} {len es : Nat} {cells : List AV} {agg : Bool} (v : AV) (hn : Nat.ble (d + 1) n = true) (hx : ev f x = .agg cells) (hi : ev f ix = .int k i)
    (ht : TArr P t len agg es) (h0 : 0 ≤ i) (h1 : i < len) (hv : loadv agg es (i.toNat * es) cells = some v) (hK : K (upd f d v) H) : AOp P n ⟨some d, .index t x ix, ty, pos, after, guard⟩ K f H :=
  .pureV v hn (fun μ a w hs => by
    have g1 := hs.ev x; rw [hx] at g1
    have g2 := hs.ev ix; rw [hi] at g2
    obtain ⟨e, t1, t2⟩ := ht
    generalize hz : a.eval x = z at g1
    cases g1 with
    | agg hl h =>
      obtain ⟨u, hu, hr⟩ := run_part t2 hl h hv
      refine ⟨u, ?_, hr⟩
      simp [execOp, hz, Instr.index, g2.int_inv, asIntOf, run_under t1, h0, h1, t2.size.run, hu]) hK

/-- The address of an element of a slice that is known by value. -/
theorem AOp.indexAddrS {t : TypeId} {x ix : Operand} {k : IntKind} {i : Int} {len es : Nat} {cells : List AV} (hn : Nat.ble (d + 1) n = true) (hx : ev f x = .sl len cells) (hi : ev f ix = .int k i)
    (ht : TSlice P t es) (h0 : 0 ≤ i) (h1 : i < len) (hK : K (upd f d (.fptr cells (i.toNat * es))) H) : AOp P n ⟨some d, .indexAddr t x ix, ty, pos, after, guard⟩ K f H :=
  .pureV _ hn (fun μ a w hs => by
    have g1 := hs.ev x; rw [hx] at g1
    have g2 := hs.ev ix; rw [hi] at g2
    obtain ⟨e, t1, t2⟩ := ht
    generalize hz : a.eval x = z at g1
    cases g1 with
    | sl0 => omega
    | sl hl hb hc hv =>
      rename_i cap b o ys
      refine ⟨.pointer (some ⟨b, o + i.toNat * es, none⟩), ?_, .fptr hb hc hv⟩
      simp [execOp, hz, Instr.indexAt, g2.int_inv, asIntOf, run_under t1, h0, h1, t2.run, Addr.add]) hK

/-- The address of an element of a slice that is owned. -/
theorem AOp.indexAddrM {t : TypeId} {x ix : Operand} {k : IntKind} {i : Int} {len es id ver off : Nat} (hn : Nat.ble (d + 1) n = true) (hx : ev f x = .slm id ver es off len) (hi : ev f ix = .int k i)
    (ht : TSlice P t es) (h0 : 0 ≤ i) (h1 : i < len) (hid : Alive H id ver) (hK : K (upd f d (.ptr id ver (off + i.toNat * es))) H) : AOp P n ⟨some d, .indexAddr t x ix, ty, pos, after, guard⟩ K f H :=
  .pureV _ hn (fun μ a w hs => by
    have g1 := hs.ev x; rw [hx] at g1
    have g2 := hs.ev ix; rw [hi] at g2
    obtain ⟨e, t1, t2⟩ := ht
    generalize hz : a.eval x = z at g1
    cases g1 with
    | slm hk hl ha =>
      obtain ⟨rfl, _⟩ := ha hid
      refine ⟨.pointer (some ⟨μ id, off + i.toNat * es, none⟩), ?_, .ptr hk fun _ => rfl⟩
      simp [execOp, hz, Instr.indexAt, g2.int_inv, asIntOf, run_under t1, h0, h1, t2.run, Addr.add]) hK

/-- The address of an element of an array in memory. -/
theorem AOp.indexAddrA {t : TypeId} {x ix : Operand} {k : IntKind} {i : Int} {len es id ver off : Nat} {agg : Bool} (hn : Nat.ble (d + 1) n = true) (hx : ev f x = .ptr id ver off) (hi : ev f ix = .int k i)
    (ht : TArr P t len agg es) (h0 : 0 ≤ i) (h1 : i < len) (hid : Alive H id ver) (hK : K (upd f d (.ptr id ver (off + i.toNat * es))) H) : AOp P n ⟨some d, .indexAddr t x ix, ty, pos, after, guard⟩ K f H :=
  .pureV _ hn (fun μ a w hs => by
    have g1 := hs.ev x; rw [hx] at g1
    have g2 := hs.ev ix; rw [hi] at g2
    obtain ⟨e, t1, t2⟩ := ht
    generalize hz : a.eval x = z at g1
    cases g1 with
    | ptr hk ha =>
      have := ha hid
      subst this
      refine ⟨.pointer (some ⟨μ id, off + i.toNat * es, none⟩), ?_, .ptr hk fun _ => rfl⟩
      simp [execOp, hz, Instr.indexAt, g2.int_inv, asIntOf, run_under t1, h0, h1, t2.size.run, Addr.add, Instr.sureAddr]) hK

theorem AOp.indexAddrFA {t : TypeId} {x ix : Operand} {k : IntKind} {i : Int} {len es off : Nat} {cells : List AV} {agg : Bool} (hn : Nat.ble (d + 1) n = true) (hx : ev f x = .fptr cells off) (hi : ev f ix = .int k i)
    (ht : TArr P t len agg es) (h0 : 0 ≤ i) (h1 : i < len) (hK : K (upd f d (.fptr cells (off + i.toNat * es))) H) : AOp P n ⟨some d, .indexAddr t x ix, ty, pos, after, guard⟩ K f H :=
  .pureV _ hn (fun μ a w hs => by
    have g1 := hs.ev x; rw [hx] at g1
    have g2 := hs.ev ix; rw [hi] at g2
    obtain ⟨e, t1, t2⟩ := ht
    generalize hz : a.eval x = z at g1
    cases g1 with
    | fptr hb hc hv =>
      rename_i b o ys
      refine ⟨.pointer (some ⟨b, o + (off + i.toNat * es), none⟩), ?_, .fptr hb hc hv⟩
      simp [execOp, hz, Instr.indexAt, g2.int_inv, asIntOf, run_under t1, h0, h1, t2.size.run, Addr.add, Instr.sureAddr, Nat.add_assoc]) hK

/-- A byte of a string. -/
theorem AOp.indexStr {t : TypeId} {x ix : Operand} {k : IntKind} {i : Int} {s : ByteArray} (hn : Nat.ble (d + 1) n = true) (hx : ev f x = .str s) (hi : ev f ix = .int k i)
    (ht : P.underlying t = some .string) (h0 : 0 ≤ i) (h1 : i.toNat < s.size) (hK : K (upd f d (.int .u8 (s[i.toNat]'h1).toNat)) H) : AOp P n ⟨some d, .index t x ix, ty, pos, after, guard⟩ K f H :=
  .pureV _ hn (fun μ a w hs => by
    have g1 := hs.ev x; rw [hx] at g1
    have g2 := hs.ev ix; rw [hi] at g2
    refine ⟨.int .u8 (s[i.toNat]'h1).toNat, ?_, .int _ _⟩
    simp [execOp, g1.str_inv, Instr.index, g2.int_inv, asIntOf, run_under ht, h0, h1]) hK

end
end Go.AH
