/- A part of the proof that a law of the edges and fans of faces answers true for every input of its bulk: own work, by an AI agent. -/
import Derived.Orders
import Derived.Laws.Sem
import Derived.Laws.World
set_option linter.unusedVariables false
set_option linter.unusedSimpArgs false
namespace Go.AH
open Go

/-- Abstract values: plain data; frozen slices by value; owned blocks by ghost numbers with versions. -/
inductive AV where
  | undef
  | int (k : IntKind) (n : Int)
  | bool (b : Bool)
  | str (s : ByteArray)
  | nilptr
  | ptr (id ver off : Nat)
  | fptr (cells : List AV) (off : Nat)
  | snil
  | sl (len : Nat) (cells : List AV)
  | slm (id ver es off len : Nat)
  | mapnil
  | map (id : Nat)
  | nilfn
  | fn (f : FuncId) (caps : List AV)
  | nilIface
  | iface (t : TypeId) (v : AV)
  | agg (cells : List AV)
  | tup (vs : List AV)
  | it (id : Nat)
  deriving Inhabited

/-- Iterators: over a string; over a map (as long as it has so many entries), with the places seen. -/
inductive It where
  | str (s : ByteArray) (pos : Nat)
  | map (m n : Nat) (seen : List Nat)
def It.obj (μ : Nat → Nat) : It → Obj
  | .str s p => .stringIter s p
  | .map m n seen => .mapIter (some (μ m)) n seen.toArray n

/-- Blocks of the abstract heap. -/
inductive AB where
  | res
  | dead (ver : Nat)
  | row (ver : Nat) (cells : List AV)
  | map (es : List (AV × AV))
  | iter (it : It)

abbrev Heap := Nat → Option AB

def AB.live : AB → Bool
  | .res | .dead _ => false
  | _ => true

/-- The newest version of a block. -/
def AB.cur : AB → Option Nat
  | .res => none
  | .dead v => some v
  | .row v _ => some v
  | .map _ => some 0
  | .iter _ => some 0

def Known (H : Heap) (id ver : Nat) : Prop := ∃ B v, H id = some B ∧ B.cur = some v ∧ ver ≤ v
def Alive (H : Heap) (id ver : Nat) : Prop := ∃ cells, H id = some (.row ver cells)
def IsMap (H : Heap) (id : Nat) : Prop := ∃ es, H id = some (.map es)
def IsIter (H : Heap) (id : Nat) : Prop := ∃ it, H id = some (.iter it)
def Owned (μ : Nat → Nat) (H : Heap) (b : Nat) : Prop := ∃ id B, H id = some B ∧ B.live = true ∧ μ id = b
def Frz (w : World) (μ : Nat → Nat) (H : Heap) (b : Nat) : Prop := b < w.heap.size ∧ ¬ Owned μ H b

def osize : Option Obj → Nat
  | some (.cells cs _ _) => cs.size
  | _ => 0
def bsize (w : World) (b : Nat) : Nat := osize w.heap[b]?

/-- What a machine value must be to stand for an abstract one. -/
inductive VR (w : World) (μ : Nat → Nat) (H : Heap) : AV → Value → Prop where
  | undef (v : Value) : VR w μ H .undef v
  | int (k : IntKind) (n : Int) : VR w μ H (.int k n) (.int k n)
  | bool (b : Bool) : VR w μ H (.bool b) (.bool b)
  | str (s : ByteArray) : VR w μ H (.str s) (.string s)
  | nilptr : VR w μ H .nilptr (.pointer none)
  | ptr {id ver off : Nat} {a : Addr} (hk : Known H id ver) (ha : Alive H id ver → a = ⟨μ id, off, none⟩) : VR w μ H (.ptr id ver off) (.pointer (some a))
  | iter {id : Nat} (hi : IsIter H id) : VR w μ H (.it id) (.pointer (some ⟨μ id, 0, none⟩))
  | fptr {cells : List AV} {off b o : Nat} {ys : Nat → Value} (hb : Frz w μ H b)
      (hc : ∀ (j : Nat) (x : AV), cells[j]? = some x → w.cell? ⟨b, o + j, none⟩ = some (ys j)) (hv : ∀ (j : Nat) (x : AV), cells[j]? = some x → VR w μ H x (ys j)) :
      VR w μ H (.fptr cells off) (.pointer (some ⟨b, o + off, none⟩))
  | snil : VR w μ H .snil (.slice none 0 0)
  | sl0 (a : Option Addr) (cap : Nat) : VR w μ H (.sl 0 []) (.slice a 0 cap)
  | sl {len cap b o : Nat} {cells : List AV} {ys : Nat → Value} (hl : len ≤ cap) (hb : Frz w μ H b)
      (hc : ∀ (j : Nat) (x : AV), cells[j]? = some x → w.cell? ⟨b, o + j, none⟩ = some (ys j)) (hv : ∀ (j : Nat) (x : AV), cells[j]? = some x → VR w μ H x (ys j)) :
      VR w μ H (.sl len cells) (.slice (some ⟨b, o, none⟩) len cap)
  | slm {id ver es off len cap : Nat} {a : Option Addr} (hk : Known H id ver) (hl : len ≤ cap)
      (ha : Alive H id ver → a = some ⟨μ id, off, none⟩ ∧ off + cap * es ≤ bsize w (μ id)) : VR w μ H (.slm id ver es off len) (.slice a len cap)
  | mapnil : VR w μ H .mapnil (.map none)
  | map {id : Nat} (hm : IsMap H id) : VR w μ H (.map id) (.map (some (μ id)))
  | nilfn : VR w μ H .nilfn .nilFunc
  | fn {f : FuncId} {caps : List AV} {vs : Array Value} (hl : caps.length = vs.size)
      (h : ∀ (j : Nat) (x : AV) (y : Value), caps[j]? = some x → vs[j]? = some y → VR w μ H x y) : VR w μ H (.fn f caps) (.func (.func f) #[] vs)
  | nilIface : VR w μ H .nilIface .nilIface
  | iface {t : TypeId} {x : AV} {v : Value} (h : VR w μ H x v) : VR w μ H (.iface t x) (.iface t v)
  | agg {cells : List AV} {vs : Array Value} (hl : cells.length = vs.size)
      (h : ∀ (j : Nat) (x : AV) (y : Value), cells[j]? = some x → vs[j]? = some y → VR w μ H x y) : VR w μ H (.agg cells) (.agg vs)
  | tup {cells : List AV} {vs : Array Value} (hl : cells.length = vs.size)
      (h : ∀ (j : Nat) (x : AV) (y : Value), cells[j]? = some x → vs[j]? = some y → VR w μ H x y) : VR w μ H (.tup cells) (.tuple vs)

/-- Lists of values, place by place. -/
def VRs (w : World) (μ : Nat → Nat) (H : Heap) (xs : List AV) (vs : List Value) : Prop :=
  xs.length = vs.length ∧ ∀ (j : Nat) (x : AV) (y : Value), xs[j]? = some x → vs[j]? = some y → VR w μ H x y

structure HR (w : World) (μ : Nat → Nat) (H : Heap) : Prop where
  rows : ∀ id ver cells, H id = some (.row ver cells) → ∃ cs T, w.heap[μ id]? = some (.cells cs T (0, 0)) ∧ cells.length ≤ cs.size ∧
    ∀ (j : Nat) (x : AV), cells[j]? = some x → ∃ y, cs[j]? = some y ∧ VR w μ H x y
  maps : ∀ id es, H id = some (.map es) → es.Pairwise (fun a b => a.1 ≠ b.1) ∧ ∃ (ents : Array MapEntry) (clock : Nat), w.heap[μ id]? = some (.map ents clock) ∧ es.length = ents.size ∧
    ∀ (j : Nat) (x : AV × AV) (e : MapEntry), es[j]? = some x → ents[j]? = some e → VR w μ H x.1 e.key ∧ VR w μ H x.2 e.val
  born : ∀ id es (ents : Array MapEntry) (clock : Nat), H id = some (.map es) → w.heap[μ id]? = some (.map ents clock) → clock = ents.size ∧ ∀ (j : Nat) (e : MapEntry), ents[j]? = some e → e.born = j
  iters : ∀ id it, H id = some (.iter it) → w.heap[μ id]? = some (it.obj μ) ∧ ∀ m n seen, it = .map m n seen → IsMap H m
  inj : ∀ i j B C, H i = some B → H j = some C → B.live = true → C.live = true → μ i = μ j → i = j
  fin : ∃ N, ∀ id, N ≤ id → H id = none

/-- What no operation of ours touches; draws only go on. -/
def Rest (w w' : World) : Prop := w'.tape = w.tape ∧ w'.os = w.os ∧ w'.output = w.output ∧ w.drawn ≤ w'.drawn
theorem Rest.refl (w : World) : Rest w w := ⟨rfl, rfl, rfl, Nat.le_refl _⟩

structure Ext (w : World) (μ : Nat → Nat) (H : Heap) (w' : World) (μ' : Nat → Nat) (H' : Heap) : Prop where
  size : w.heap.size ≤ w'.heap.size
  frz : ∀ b, Frz w μ H b → w'.heap[b]? = w.heap[b]? ∧ ¬ Owned μ' H' b
  known : ∀ id ver, Known H id ver → Known H' id ver
  alive : ∀ id ver, Known H id ver → Alive H' id ver → Alive H id ver ∧ μ' id = μ id ∧ bsize w' (μ id) = bsize w (μ id)
  maps : ∀ id, IsMap H id → IsMap H' id ∧ μ' id = μ id
  iters : ∀ id, IsIter H id → IsIter H' id ∧ μ' id = μ id
  rest : Rest w w'

theorem Ext.refl (w : World) (μ : Nat → Nat) (H : Heap) : Ext w μ H w μ H :=
  ⟨Nat.le_refl _, fun _ h => ⟨rfl, h.2⟩, fun _ _ h => h, fun _ _ _ h => ⟨h, rfl, rfl⟩, fun _ h => ⟨h, rfl⟩, fun _ h => ⟨h, rfl⟩, .refl w⟩

theorem Ext.frz' {w w' : World} {μ μ' : Nat → Nat} {H H' : Heap} (h : Ext w μ H w' μ' H') {b : Nat} (hb : Frz w μ H b) : Frz w' μ' H' b :=
  ⟨Nat.lt_of_lt_of_le hb.1 h.size, (h.frz b hb).2⟩

theorem Ext.trans {w w1 w2 : World} {μ μ1 μ2 : Nat → Nat} {H H1 H2 : Heap} (a : Ext w μ H w1 μ1 H1) (b : Ext w1 μ1 H1 w2 μ2 H2) : Ext w μ H w2 μ2 H2 where
  size := Nat.le_trans a.size b.size
  frz := fun x hx => ⟨(b.frz x (a.frz' hx)).1.trans (a.frz x hx).1, (b.frz x (a.frz' hx)).2⟩
  known := fun id ver h => b.known id ver (a.known id ver h)
  alive := fun id ver hk h => by
    obtain ⟨h1, e1, s1⟩ := b.alive id ver (a.known id ver hk) h
    obtain ⟨h0, e0, s0⟩ := a.alive id ver hk h1
    refine ⟨h0, e1.trans e0, ?_⟩
    rw [← s0, ← e0, s1]
  maps := fun id h => ⟨(b.maps id (a.maps id h).1).1, ((b.maps id (a.maps id h).1).2).trans (a.maps id h).2⟩
  iters := fun id h => ⟨(b.iters id (a.iters id h).1).1, ((b.iters id (a.iters id h).1).2).trans (a.iters id h).2⟩
  rest := ⟨b.rest.1.trans a.rest.1, b.rest.2.1.trans a.rest.2.1, b.rest.2.2.1.trans a.rest.2.2.1, Nat.le_trans a.rest.2.2.2 b.rest.2.2.2⟩

theorem cell_of_heap {w w' : World} {b o : Nat} (h : w'.heap[b]? = w.heap[b]?) : w'.cell? ⟨b, o, none⟩ = w.cell? ⟨b, o, none⟩ := by
  simp only [World.cell?, h]

theorem VR.ext {w w' : World} {μ μ' : Nat → Nat} {H H' : Heap} (h : Ext w μ H w' μ' H') {x : AV} {v : Value} (hv : VR w μ H x v) : VR w' μ' H' x v := by
  induction hv with
  | undef v => exact .undef v
  | int k n => exact .int k n
  | bool b => exact .bool b
  | str s => exact .str s
  | nilptr => exact .nilptr
  | ptr hk ha =>
    refine .ptr (h.known _ _ hk) fun hal => ?_
    obtain ⟨h0, e, _⟩ := h.alive _ _ hk hal
    rw [ha h0, e]
  | iter hi => rw [← (h.iters _ hi).2]; exact .iter (h.iters _ hi).1
  | fptr hb hc _ ih => exact .fptr (h.frz' hb) (fun j x hj => (cell_of_heap (h.frz _ hb).1).trans (hc j x hj)) ih
  | snil => exact .snil
  | sl0 a cap => exact .sl0 a cap
  | sl hl hb hc _ ih => exact .sl hl (h.frz' hb) (fun j x hj => (cell_of_heap (h.frz _ hb).1).trans (hc j x hj)) ih
  | slm hk hl ha =>
    refine .slm (h.known _ _ hk) hl fun hal => ?_
    obtain ⟨h0, e, s⟩ := h.alive _ _ hk hal
    obtain ⟨h1, h2⟩ := ha h0
    rw [e]; exact ⟨h1, by rw [s]; exact h2⟩
  | mapnil => exact .mapnil
  | map hm => rw [← (h.maps _ hm).2]; exact .map (h.maps _ hm).1
  | nilfn => exact .nilfn
  | fn hl _ ih => exact .fn hl ih
  | nilIface => exact .nilIface
  | iface _ ih => exact .iface ih
  | agg hl _ ih => exact .agg hl ih
  | tup hl _ ih => exact .tup hl ih

theorem VRs.ext {w w' : World} {μ μ' : Nat → Nat} {H H' : Heap} (h : Ext w μ H w' μ' H') {xs : List AV} {vs : List Value} (hv : VRs w μ H xs vs) : VRs w' μ' H' xs vs :=
  ⟨hv.1, fun j x y hx hy => (hv.2 j x y hx hy).ext h⟩

/-- Frames. -/
structure SR (n : Nat) (w : World) (μ : Nat → Nat) (f : Nat → AV) (H : Heap) (a : Act) : Prop where
  hr : HR w μ H
  size : a.tmps.size = n
  slots : ∀ t, VR w μ H (f t) (a.tmps.getD t undef)
  defers : a.defers = []

def upd (f : Nat → AV) (d : Nat) (v : AV) : Nat → AV := fun t => bif Nat.beq t d then v else f t

theorem upd_eq (f : Nat → AV) (d : Nat) (v : AV) (t : Nat) : upd f d v t = if t = d then v else f t := by
  unfold upd
  by_cases h : t = d
  · simp [h]
  · have : Nat.beq t d = false := by
      cases hb : Nat.beq t d with
      | false => rfl
      | true => exact absurd (Nat.eq_of_beq_eq_true hb) h
    simp [h, this]
@[simp] theorem upd_same (f : Nat → AV) (d : Nat) (v : AV) : upd f d v d = v := by simp [upd_eq]
theorem upd_ne (f : Nat → AV) {d t : Nat} (v : AV) (h : t ≠ d) : upd f d v t = f t := by simp [upd_eq, h]

theorem SR.put {n : Nat} {w w' : World} {μ μ' : Nat → Nat} {f : Nat → AV} {H H' : Heap} {a : Act} (h : SR n w μ f H a) (he : Ext w μ H w' μ' H') (hr : HR w' μ' H')
    {d : Nat} (hd : Nat.ble (d + 1) n = true) {x : AV} {v : Value} (hv : VR w' μ' H' x v) : SR n w' μ' (upd f d x) H' (a.put (some d) v) where
  hr := hr
  size := by simp [Act.put, h.size]
  slots := fun t => by
    have hd' : d < n := Nat.le_of_ble_eq_true hd
    rw [upd_eq]
    by_cases ht : t = d
    · subst ht
      have : (a.tmps.setIfInBounds t v).getD t undef = v := by
        simp [Array.getD_eq_getD_getElem?, h.size, hd']
      simp only [if_true, Act.put, this]; exact hv
    · have : (a.tmps.setIfInBounds d v).getD t undef = a.tmps.getD t undef := by
        simp [Array.getD_eq_getD_getElem?, Ne.symm ht]
      simp only [ht, if_false, Act.put, this]
      exact (h.slots t).ext he
  defers := by simp [Act.put, h.defers]

theorem SR.stay {n : Nat} {w w' : World} {μ μ' : Nat → Nat} {f : Nat → AV} {H H' : Heap} {a : Act} (h : SR n w μ f H a) (he : Ext w μ H w' μ' H') (hr : HR w' μ' H') : SR n w' μ' f H' a where
  hr := hr
  size := h.size
  slots := fun t => (h.slots t).ext he
  defers := h.defers

/-- An operand's abstract value. Constants are the machine's own plain values. -/
def cst : Value → AV
  | .int k n => .int k n
  | .bool b => .bool b
  | .string s => .str s
  | .pointer none => .nilptr
  | .slice none 0 0 => .snil
  | .map none => .mapnil
  | .nilFunc => .nilfn
  | .nilIface => .nilIface
  | _ => .undef

theorem cst_VR (w : World) (μ : Nat → Nat) (H : Heap) (v : Value) : VR w μ H (cst v) v := by
  unfold cst
  split <;> constructor

def ev (f : Nat → AV) : Operand → AV
  | .tmp t => f t
  | .const v => cst v
  | .func g => .fn g []
  | .global _ => .undef

theorem SR.ev {n : Nat} {w : World} {μ : Nat → Nat} {f : Nat → AV} {H : Heap} {a : Act} (h : SR n w μ f H a) (x : Operand) : VR w μ H (ev f x) (a.eval x) := by
  cases x with
  | tmp t => exact h.slots t
  | const v => exact cst_VR w μ H v
  | global g => exact .undef _
  | func g => exact .fn (by simp) (by simp)

end Go.AH
