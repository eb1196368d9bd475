/- A part of the proof that a law answers true for every input of its row: own work, by an AI agent. -/
import Derived.Orders
import Derived.Laws.Sem
import Derived.Laws.World
import Derived.LoopN
import Derived.IntWalk
import Derived.Maps.Keyed
import Derived.DeepKeys5
import Derived.Laws.StructEq
import Derived.Maps.RangeRun
set_option linter.unusedSimpArgs false
set_option linter.unusedVariables false
set_option linter.defProp false
namespace Go.AH
open Go
inductive AV where
  | undef
  | int (k : IntKind) (n : Int)
  | bool (b : Bool)
  | str (s : ByteArray)
  | nilptr
  | ptr (id ver off : Nat)
  | fptr (cells : List AV) (off : Nat)
  | snil
  | sl (len : Nat) (cells : List AV)
  | slm (id ver es off len : Nat)
  | mapnil
  | map (id : Nat)
  | nilfn
  | fn (f : FuncId) (caps : List AV)
  | nilIface
  | iface (t : TypeId) (v : AV)
  | agg (cells : List AV)
  | tup (vs : List AV)
  | it (id : Nat)
  deriving Inhabited
inductive It where
  | str (s : ByteArray) (pos : Nat)
  | map (m n : Nat) (seen : List Nat)
def It.obj (μ : Nat → Nat) : It → Obj
  | .str s p => .stringIter s p
  | .map m n seen => .mapIter (some (μ m)) n seen.toArray n
inductive AB where
  | res
  | dead (ver : Nat)
  | row (ver : Nat) (cells : List AV)
  | map (es : List (AV × AV))
  | iter (it : It)
abbrev Heap := Nat → Option AB
def AB.live : AB → Bool
  | .res | .dead _ => false
  | _ => true
def AB.cur : AB → Option Nat
  | .res => none
  | .dead v => some v
  | .row v _ => some v
  | .map _ => some 0
  | .iter _ => some 0
def Known (H : Heap) (id ver : Nat) : Prop := ∃ B v, H id = some B ∧ B.cur = some v ∧ ver ≤ v
def Alive (H : Heap) (id ver : Nat) : Prop := ∃ cells, H id = some (.row ver cells)
def IsMap (H : Heap) (id : Nat) : Prop := ∃ es, H id = some (.map es)
def IsIter (H : Heap) (id : Nat) : Prop := ∃ it, H id = some (.iter it)
def Owned (μ : Nat → Nat) (H : Heap) (b : Nat) : Prop := ∃ id B, H id = some B ∧ B.live = true ∧ μ id = b
def Frz (w : World) (μ : Nat → Nat) (H : Heap) (b : Nat) : Prop := b < w.heap.size ∧ ¬ Owned μ H b
def osize : Option Obj → Nat
  | some (.cells cs _ _) => cs.size
  | _ => 0
def bsize (w : World) (b : Nat) : Nat := osize w.heap[b]?
inductive VR (w : World) (μ : Nat → Nat) (H : Heap) : AV → Value → Prop where
  | undef (v : Value) : VR w μ H .undef v
  | int (k : IntKind) (n : Int) : VR w μ H (.int k n) (.int k n)
  | bool (b : Bool) : VR w μ H (.bool b) (.bool b)
  | str (s : ByteArray) : VR w μ H (.str s) (.string s)
  | nilptr : VR w μ H .nilptr (.pointer none)
  | ptr {id ver off : Nat} {a : Addr} (hk : Known H id ver) (ha : Alive H id ver → a = ⟨μ id, off, none⟩) : VR w μ H (.ptr id ver off) (.pointer (some a))
  | iter {id : Nat} (hi : IsIter H id) : VR w μ H (.it id) (.pointer (some ⟨μ id, 0, none⟩))
  | fptr {cells : List AV} {off b o : Nat} {ys : Nat → Value} (hb : Frz w μ H b)
      (hc : ∀ (j : Nat) (x : AV), cells[j]? = some x → w.cell? ⟨b, o + j, none⟩ = some (ys j)) (hv : ∀ (j : Nat) (x : AV), cells[j]? = some x → VR w μ H x (ys j)) :
      VR w μ H (.fptr cells off) (.pointer (some ⟨b, o + off, none⟩))
  | snil : VR w μ H .snil (.slice none 0 0)
  | sl0 (a : Option Addr) (cap : Nat) : VR w μ H (.sl 0 []) (.slice a 0 cap)
  | sl {len cap b o : Nat} {cells : List AV} {ys : Nat → Value} (hl : len ≤ cap) (hb : Frz w μ H b)
      (hc : ∀ (j : Nat) (x : AV), cells[j]? = some x → w.cell? ⟨b, o + j, none⟩ = some (ys j)) (hv : ∀ (j : Nat) (x : AV), cells[j]? = some x → VR w μ H x (ys j)) :
      VR w μ H (.sl len cells) (.slice (some ⟨b, o, none⟩) len cap)
  | slm {id ver es off len cap : Nat} {a : Option Addr} (hk : Known H id ver) (hl : len ≤ cap)
      (ha : Alive H id ver → a = some ⟨μ id, off, none⟩ ∧ off + cap * es ≤ bsize w (μ id)) : VR w μ H (.slm id ver es off len) (.slice a len cap)
  | mapnil : VR w μ H .mapnil (.map none)
  | map {id : Nat} (hm : IsMap H id) : VR w μ H (.map id) (.map (some (μ id)))
  | nilfn : VR w μ H .nilfn .nilFunc
  | fn {f : FuncId} {caps : List AV} {vs : Array Value} (hl : caps.length = vs.size)
      (h : ∀ (j : Nat) (x : AV) (y : Value), caps[j]? = some x → vs[j]? = some y → VR w μ H x y) : VR w μ H (.fn f caps) (.func (.func f) #[] vs)
  | nilIface : VR w μ H .nilIface .nilIface
  | iface {t : TypeId} {x : AV} {v : Value} (h : VR w μ H x v) : VR w μ H (.iface t x) (.iface t v)
  | agg {cells : List AV} {vs : Array Value} (hl : cells.length = vs.size)
      (h : ∀ (j : Nat) (x : AV) (y : Value), cells[j]? = some x → vs[j]? = some y → VR w μ H x y) : VR w μ H (.agg cells) (.agg vs)
  | tup {cells : List AV} {vs : Array Value} (hl : cells.length = vs.size)
      (h : ∀ (j : Nat) (x : AV) (y : Value), cells[j]? = some x → vs[j]? = some y → VR w μ H x y) : VR w μ H (.tup cells) (.tuple vs)
def VRs (w : World) (μ : Nat → Nat) (H : Heap) (xs : List AV) (vs : List Value) : Prop :=
  xs.length = vs.length ∧ ∀ (j : Nat) (x : AV) (y : Value), xs[j]? = some x → vs[j]? = some y → VR w μ H x y
class Globs where
  val : Nat → Option (List AV)
  blk : Nat → Option (Array Value) := fun _ => none
  dfr : List Deferred := []
structure GOK [Globs] (w : World) (μ : Nat → Nat) (H : Heap) : Prop where
  val : ∀ g cells, Globs.val g = some cells → VR w μ H (.fptr cells 0) (.pointer (some ⟨g, 0, none⟩))
  blk : ∀ g cs, Globs.blk g = some cs → Frz w μ H g ∧ ∃ T fr, w.heap[g]? = some (.cells cs T fr)
structure HR [Globs] (w : World) (μ : Nat → Nat) (H : Heap) : Prop where
  rows : ∀ id ver cells, H id = some (.row ver cells) → ∃ cs T, w.heap[μ id]? = some (.cells cs T (0, 0)) ∧ cells.length ≤ cs.size ∧
    ∀ (j : Nat) (x : AV), cells[j]? = some x → ∃ y, cs[j]? = some y ∧ VR w μ H x y
  maps : ∀ id es, H id = some (.map es) → es.Pairwise (fun a b => a.1 ≠ b.1) ∧ ∃ (ents : Array MapEntry) (clock : Nat), w.heap[μ id]? = some (.map ents clock) ∧ es.length = ents.size ∧
    ∀ (j : Nat) (x : AV × AV) (e : MapEntry), es[j]? = some x → ents[j]? = some e → VR w μ H x.1 e.key ∧ VR w μ H x.2 e.val
  born : ∀ id es (ents : Array MapEntry) (clock : Nat), H id = some (.map es) → w.heap[μ id]? = some (.map ents clock) → clock = ents.size ∧ ∀ (j : Nat) (e : MapEntry), ents[j]? = some e → e.born = j
  iters : ∀ id it, H id = some (.iter it) → w.heap[μ id]? = some (it.obj μ) ∧ ∀ m n seen, it = .map m n seen → IsMap H m
  inj : ∀ i j B C, H i = some B → H j = some C → B.live = true → C.live = true → μ i = μ j → i = j
  fin : ∃ N, ∀ id, N ≤ id → H id = none
  glob : GOK w μ H
def Tick : Prop := False
def Rest (w w' : World) : Prop := w'.tape = w.tape ∧ w'.os = w.os ∧ w'.output = w.output ∧ (Tick → w.drawn ≤ w'.drawn)
theorem Rest.refl (w : World) : Rest w w := ⟨rfl, rfl, rfl, fun _ => Nat.le_refl _⟩
structure Ext (w : World) (μ : Nat → Nat) (H : Heap) (w' : World) (μ' : Nat → Nat) (H' : Heap) : Prop where
  size : w.heap.size ≤ w'.heap.size
  frz : ∀ b, Frz w μ H b → w'.heap[b]? = w.heap[b]? ∧ ¬ Owned μ' H' b
  known : ∀ id ver, Known H id ver → Known H' id ver
  alive : ∀ id ver, Known H id ver → Alive H' id ver → Alive H id ver ∧ μ' id = μ id ∧ bsize w' (μ id) = bsize w (μ id)
  maps : ∀ id, IsMap H id → IsMap H' id ∧ μ' id = μ id
  iters : ∀ id, IsIter H id → IsIter H' id ∧ μ' id = μ id
  rest : Rest w w'
theorem Ext.refl (w : World) (μ : Nat → Nat) (H : Heap) : Ext w μ H w μ H :=
  ⟨Nat.le_refl _, fun _ h => ⟨rfl, h.2⟩, fun _ _ h => h, fun _ _ _ h => ⟨h, rfl, rfl⟩, fun _ h => ⟨h, rfl⟩, fun _ h => ⟨h, rfl⟩, .refl w⟩
theorem Ext.frz' {w w' : World} {μ μ' : Nat → Nat} {H H' : Heap} (h : Ext w μ H w' μ' H') {b : Nat} (hb : Frz w μ H b) : Frz w' μ' H' b :=
  ⟨Nat.lt_of_lt_of_le hb.1 h.size, (h.frz b hb).2⟩
theorem Ext.trans {w w1 w2 : World} {μ μ1 μ2 : Nat → Nat} {H H1 H2 : Heap} (a : Ext w μ H w1 μ1 H1) (b : Ext w1 μ1 H1 w2 μ2 H2) : Ext w μ H w2 μ2 H2 where
  size := Nat.le_trans a.size b.size
  frz := fun x hx => ⟨(b.frz x (a.frz' hx)).1.trans (a.frz x hx).1, (b.frz x (a.frz' hx)).2⟩
  known := fun id ver h => b.known id ver (a.known id ver h)
  alive := fun id ver hk h => by
    obtain ⟨h1, e1, s1⟩ := b.alive id ver (a.known id ver hk) h
    obtain ⟨h0, e0, s0⟩ := a.alive id ver hk h1
    refine ⟨h0, e1.trans e0, ?_⟩
    rw [← s0, ← e0, s1]
  maps := fun id h => ⟨(b.maps id (a.maps id h).1).1, ((b.maps id (a.maps id h).1).2).trans (a.maps id h).2⟩
  iters := fun id h => ⟨(b.iters id (a.iters id h).1).1, ((b.iters id (a.iters id h).1).2).trans (a.iters id h).2⟩
  rest := ⟨b.rest.1.trans a.rest.1, b.rest.2.1.trans a.rest.2.1, b.rest.2.2.1.trans a.rest.2.2.1, fun t => Nat.le_trans (a.rest.2.2.2 t) (b.rest.2.2.2 t)⟩
theorem cell_of_heap {w w' : World} {b o : Nat} (h : w'.heap[b]? = w.heap[b]?) : w'.cell? ⟨b, o, none⟩ = w.cell? ⟨b, o, none⟩ := by
  simp only [World.cell?, h]
theorem VR.ext {w w' : World} {μ μ' : Nat → Nat} {H H' : Heap} (h : Ext w μ H w' μ' H') {x : AV} {v : Value} (hv : VR w μ H x v) : VR w' μ' H' x v := by
  induction hv with
  | undef v => exact .undef v
  | int k n => exact .int k n
  | bool b => exact .bool b
  | str s => exact .str s
  | nilptr => exact .nilptr
  | ptr hk ha =>
    refine .ptr (h.known _ _ hk) fun hal => ?_
    obtain ⟨h0, e, _⟩ := h.alive _ _ hk hal
    rw [ha h0, e]
  | iter hi => rw [← (h.iters _ hi).2]; exact .iter (h.iters _ hi).1
  | fptr hb hc _ ih => exact .fptr (h.frz' hb) (fun j x hj => (cell_of_heap (h.frz _ hb).1).trans (hc j x hj)) ih
  | snil => exact .snil
  | sl0 a cap => exact .sl0 a cap
  | sl hl hb hc _ ih => exact .sl hl (h.frz' hb) (fun j x hj => (cell_of_heap (h.frz _ hb).1).trans (hc j x hj)) ih
  | slm hk hl ha =>
    refine .slm (h.known _ _ hk) hl fun hal => ?_
    obtain ⟨h0, e, s⟩ := h.alive _ _ hk hal
    obtain ⟨h1, h2⟩ := ha h0
    rw [e]; exact ⟨h1, by rw [s]; exact h2⟩
  | mapnil => exact .mapnil
  | map hm => rw [← (h.maps _ hm).2]; exact .map (h.maps _ hm).1
  | nilfn => exact .nilfn
  | fn hl _ ih => exact .fn hl ih
  | nilIface => exact .nilIface
  | iface _ ih => exact .iface ih
  | agg hl _ ih => exact .agg hl ih
  | tup hl _ ih => exact .tup hl ih
theorem VRs.ext {w w' : World} {μ μ' : Nat → Nat} {H H' : Heap} (h : Ext w μ H w' μ' H') {xs : List AV} {vs : List Value} (hv : VRs w μ H xs vs) : VRs w' μ' H' xs vs :=
  ⟨hv.1, fun j x y hx hy => (hv.2 j x y hx hy).ext h⟩
theorem GOK.ext [Globs] {w w' : World} {μ μ' : Nat → Nat} {H H' : Heap} (h : Ext w μ H w' μ' H') (hg : GOK w μ H) : GOK w' μ' H' :=
  ⟨fun g c hv => (hg.val g c hv).ext h, fun g cs hb => ⟨h.frz' (hg.blk g cs hb).1, let ⟨T, fr, e⟩ := (hg.blk g cs hb).2; ⟨T, fr, (h.frz g (hg.blk g cs hb).1).1.trans e⟩⟩⟩
structure SR [Globs] (n : Nat) (w : World) (μ : Nat → Nat) (f : Nat → AV) (H : Heap) (a : Act) : Prop where
  hr : HR w μ H
  size : a.tmps.size = n
  slots : ∀ t, VR w μ H (f t) (a.tmps.getD t undef)
  defers : a.defers = Globs.dfr
def upd (f : Nat → AV) (d : Nat) (v : AV) : Nat → AV := fun t => bif Nat.beq t d then v else f t
theorem upd_eq (f : Nat → AV) (d : Nat) (v : AV) (t : Nat) : upd f d v t = if t = d then v else f t := by
  unfold upd
  by_cases h : t = d
  · simp [h]
  · have : Nat.beq t d = false := by
      cases hb : Nat.beq t d with
      | false => rfl
      | true => exact absurd (Nat.eq_of_beq_eq_true hb) h
    simp [h, this]
@[simp] theorem upd_same (f : Nat → AV) (d : Nat) (v : AV) : upd f d v d = v := by simp [upd_eq]
theorem upd_ne (f : Nat → AV) {d t : Nat} (v : AV) (h : t ≠ d) : upd f d v t = f t := by simp [upd_eq, h]
theorem SR.put [Globs] {n : Nat} {w w' : World} {μ μ' : Nat → Nat} {f : Nat → AV} {H H' : Heap} {a : Act} (h : SR n w μ f H a) (he : Ext w μ H w' μ' H') (hr : HR w' μ' H')
    {d : Nat} (hd : Nat.ble (d + 1) n = true) {x : AV} {v : Value} (hv : VR w' μ' H' x v) : SR n w' μ' (upd f d x) H' (a.put (some d) v) where
  hr := hr
  size := by simp [Act.put, h.size]
  slots := fun t => by
    have hd' : d < n := Nat.le_of_ble_eq_true hd
    rw [upd_eq]
    by_cases ht : t = d
    · subst ht
      have : (a.tmps.setIfInBounds t v).getD t undef = v := by
        simp [Array.getD_eq_getD_getElem?, h.size, hd']
      simp only [if_true, Act.put, this]; exact hv
    · have : (a.tmps.setIfInBounds d v).getD t undef = a.tmps.getD t undef := by
        simp [Array.getD_eq_getD_getElem?, Ne.symm ht]
      simp only [ht, if_false, Act.put, this]
      exact (h.slots t).ext he
  defers := by simp [Act.put, h.defers]
theorem SR.stay [Globs] {n : Nat} {w w' : World} {μ μ' : Nat → Nat} {f : Nat → AV} {H H' : Heap} {a : Act} (h : SR n w μ f H a) (he : Ext w μ H w' μ' H') (hr : HR w' μ' H') : SR n w' μ' f H' a where
  hr := hr
  size := h.size
  slots := fun t => (h.slots t).ext he
  defers := h.defers
def cst : Value → AV
  | .int k n => .int k n
  | .bool b => .bool b
  | .string s => .str s
  | .pointer none => .nilptr
  | .slice none 0 0 => .snil
  | .map none => .mapnil
  | .nilFunc => .nilfn
  | .nilIface => .nilIface
  | _ => .undef
theorem cst_VR (w : World) (μ : Nat → Nat) (H : Heap) (v : Value) : VR w μ H (cst v) v := by
  unfold cst
  split <;> constructor
def evG : Option (List AV) → AV
  | some cells => .fptr cells 0
  | none => .undef
def ev [Globs] (f : Nat → AV) : Operand → AV
  | .tmp t => f t
  | .const v => cst v
  | .func g => .fn g []
  | .global g => evG (Globs.val g)
theorem SR.ev [Globs] {n : Nat} {w : World} {μ : Nat → Nat} {f : Nat → AV} {H : Heap} {a : Act} (h : SR n w μ f H a) (x : Operand) : VR w μ H (ev f x) (a.eval x) := by
  cases x with
  | tmp t => exact h.slots t
  | const v => exact cst_VR w μ H v
  | global g =>
    show VR w μ H (evG (Globs.val g)) _
    cases hg : Globs.val g with
    | none => exact .undef _
    | some cells => exact h.hr.glob.val g cells hg
  | func g => exact .fn (by simp) (by simp)
end Go.AH
namespace Go.AH
variable [Globs]
set_option linter.unusedSectionVars false
open Go
def Post (n : Nat) (μ : Nat → Nat) (H : Heap) (w : World) (Q : Exit → (Nat → AV) → Heap → Prop) : Exit → Act → World → Prop :=
  fun e a' w' => ∃ μ' f' H', SR n w' μ' f' H' a' ∧ Ext w μ H w' μ' H' ∧ Q e f' H'
def AWP (P : Program) (n : Nat) (c : Code) (Q : Exit → (Nat → AV) → Heap → Prop) (f : Nat → AV) (H : Heap) : Prop :=
  ∀ μ a w, SR n w μ f H a → c.wp P (Post n μ H w Q) a w
def gAV : Option Bool → AV
  | some b => .bool b
  | none => .tup []
def AOp (P : Program) (n : Nat) (o : Oper) (K : (Nat → AV) → Heap → Prop) (f : Nat → AV) (H : Heap) : Prop :=
  ∀ μ a w, SR n w μ f H a → ∀ Q, o.wp P a w (fun a' w' => ∃ μ' f' H', SR n w' μ' f' H' a' ∧ Ext w μ H w' μ' H' ∧ K f' H') Q
def AOps (P : Program) (n : Nat) (ops : Array Oper) (Q : (Nat → AV) → Heap → Prop) : List Nat → (Nat → AV) → Heap → Prop
  | [], f, H => Q f H
  | i :: l, f, H => ∃ o, ops[i]? = some o ∧ ((o.guard = none ∧ AOp P n o (AOps P n ops Q l) f H) ∨
      (∃ j want oj d b, o.guard = some (j, want) ∧ ops[j]? = some oj ∧ oj.dst = some d ∧ f d = gAV b ∧
        (b = some want → AOp P n o (AOps P n ops Q l) f H) ∧ (b ≠ some want → ∃ d', o.dst = some d' ∧ Nat.ble (d' + 1) n = true ∧ AOps P n ops Q l (upd f d' (.tup [])) H)))
theorem Oper.upon_mono {P : Program} {o : Oper} {a : Act} {K K' : Act → World → Prop} {Q Q' : Exit → Act → World → Prop} {r : Result Next}
    (hk : ∀ a w, K a w → K' a w) (hq : ∀ e a w, e ≠ .normal → Q e a w → Q' e a w) (h : o.upon P a K Q r) : o.upon P a K' Q' r := by
  cases r with
  | ok x w' =>
    cases x <;> simp only [Oper.upon] at h ⊢ <;> try exact hk _ _ h
    case enter g args =>
      refine h.mono fun e w'' he => ?_
      cases e with
      | returned v => exact hk _ _ he
      | panicked c => exact hq _ _ _ (by simp) he
      | outgrown => obtain ⟨a1, w1, h1⟩ := he; exact ⟨a1, w1, hq _ _ _ (by simp) h1⟩
    case row row args => exact h.mono fun v w'' he => hk _ _ he
  | halt x w' =>
    cases x <;> simp only [Oper.upon] at h ⊢
    case panic v => exact hq _ _ _ (by simp) h
theorem Oper.wp_mono {P : Program} {o : Oper} {a : Act} {w : World} {K K' : Act → World → Prop} {Q Q' : Exit → Act → World → Prop}
    (hk : ∀ a w, K a w → K' a w) (hq : ∀ e a w, e ≠ .normal → Q e a w → Q' e a w) (h : o.wp P a w K Q) : o.wp P a w K' Q' :=
  Oper.upon_mono hk hq h
theorem wpOps_mono {P : Program} {ops : Array Oper} {Q Q' : Exit → Act → World → Prop} (hq : ∀ e a w, Q e a w → Q' e a w) :
    ∀ (l : List Nat) (a : Act) (w : World), wpOps P ops Q l a w → wpOps P ops Q' l a w
  | [], _, _, h => hq _ _ _ h
  | i :: l, a, w, h => by
    unfold wpOps at h ⊢
    split
    · rename_i hn; simp only [hn] at h; exact wpOps_mono hq l _ _ h
    · rename_i o ho
      simp only [ho] at h
      split
      · rename_i hw
        simp only [hw, if_true] at h
        rcases h with h | ⟨h1, a1, w1, h2⟩
        · exact .inl (Oper.wp_mono (fun a w h => wpOps_mono hq l a w h) (fun e a w _ h => hq e a w h) h)
        · exact .inr ⟨h1, a1, w1, hq _ _ _ h2⟩
      · rename_i hw
        simp only [hw] at h
        exact wpOps_mono hq l _ _ h
section code
variable {P : Program} {n : Nat} {Q : Exit → (Nat → AV) → Heap → Prop} {f : Nat → AV} {H : Heap}
theorem AWP.mono {c : Code} {Q' : Exit → (Nat → AV) → Heap → Prop} (h : AWP P n c Q f H) (hq : ∀ e f H, Q e f H → Q' e f H) : AWP P n c Q' f H :=
  fun μ a w hs => wp_mono (h μ a w hs) fun _ _ _ ⟨μ', f', H', h1, h2, h3⟩ => ⟨μ', f', H', h1, h2, hq _ _ _ h3⟩
theorem AWP.skip (h : Q .normal f H) : AWP P n .skip Q f H :=
  fun μ _ _ hs => wp_skip ⟨μ, f, H, hs, .refl _ _ _, h⟩
theorem AWP.exit {id : Nat} (h : Q (.exit id) f H) : AWP P n (.exit id) Q f H :=
  fun μ _ _ hs => wp_exit ⟨μ, f, H, hs, .refl _ _ _, h⟩
theorem AWP.ret (h : Q .ret f H) : AWP P n .ret Q f H :=
  fun μ _ _ hs => wp_ret ⟨μ, f, H, hs, .refl _ _ _, h⟩
def Then (K : (Nat → AV) → Heap → Prop) (Q : Exit → (Nat → AV) → Heap → Prop) : Exit → (Nat → AV) → Heap → Prop
  | .normal, f, H => K f H
  | e, f, H => Q e f H
theorem AWP.seq {x y : Code} (h : AWP P n x (Then (AWP P n y Q) Q) f H) : AWP P n (.seq x y) Q f H := by
  intro μ a w hs
  refine wp_seq (wp_mono (h μ a w hs) ?_)
  rintro e a' w' ⟨μ', f', H', h1, h2, h3⟩
  cases e with
  | normal =>
    refine wp_mono (h3 μ' a' w' h1) ?_
    rintro e2 a2 w2 ⟨μ2, f2, H2, g1, g2, g3⟩
    exact ⟨μ2, f2, H2, g1, h2.trans g2, g3⟩
  | exit id => exact ⟨μ', f', H', h1, h2, h3⟩
  | goto l => exact ⟨μ', f', H', h1, h2, h3⟩
  | ret => exact ⟨μ', f', H', h1, h2, h3⟩
  | panic c => exact ⟨μ', f', H', h1, h2, h3⟩
  | outgrown => exact ⟨μ', f', H', h1, h2, h3⟩
theorem AWP.seqc {x y : Code} (K : (Nat → AV) → Heap → Prop) (h : AWP P n x (Then K Q) f H) (h2 : ∀ f H, K f H → AWP P n y Q f H) : AWP P n (.seq x y) Q f H :=
  .seq (h.mono fun e f H hq => by cases e <;> first | exact h2 _ _ hq | exact hq)
theorem AWP.cond {c : Operand} {x y : Code} {b : Bool} (hc : ev f c = .bool b) (h1 : b = true → AWP P n x Q f H) (h2 : b = false → AWP P n y Q f H) :
    AWP P n (.cond c x y) Q f H := by
  intro μ a w hs
  have hv := hs.ev c
  rw [hc] at hv
  generalize hz : a.eval c = v at hv
  cases hv
  exact wp_cond_split hz (fun e => h1 e μ a w hs) (fun e => h2 e μ a w hs)
def InBlock (id : Nat) (Q : Exit → (Nat → AV) → Heap → Prop) : Exit → (Nat → AV) → Heap → Prop
  | .exit id', f, H => if id' = id then Q .normal f H else Q (.exit id') f H
  | e, f, H => Q e f H
theorem AWP.block {id : Nat} {c : Code} (h : AWP P n c (InBlock id Q) f H) : AWP P n (.block id c) Q f H := by
  intro μ a w hs
  refine wp_block (wp_mono (h μ a w hs) ?_)
  rintro e a' w' ⟨μ', f', H', h1, h2, h3⟩
  cases e with
  | exit id' =>
    simp only [InBlock] at h3
    simp only [Exit.inBlock]
    split
    · rename_i hi; rw [if_pos hi] at h3; exact ⟨μ', f', H', h1, h2, h3⟩
    · rename_i hi; rw [if_neg hi] at h3; exact ⟨μ', f', H', h1, h2, h3⟩
  | normal => exact ⟨μ', f', H', h1, h2, h3⟩
  | goto l => exact ⟨μ', f', H', h1, h2, h3⟩
  | ret => exact ⟨μ', f', H', h1, h2, h3⟩
  | panic c => exact ⟨μ', f', H', h1, h2, h3⟩
  | outgrown => exact ⟨μ', f', H', h1, h2, h3⟩
theorem rounds_mono {P : Program} {c : Code} {Q : Exit → Act → World → Prop} : ∀ (k : Nat) (a : Act) (w : World), Code.rounds P c Q k a w → Code.rounds P c Q (k + 1) a w
  | 0, _, _, h => h.elim
  | k + 1, a, w, h => by
    rw [rounds_succ] at h ⊢
    refine wp_mono h fun e a w h => ?_
    cases e <;> first | exact rounds_mono k a w h | exact h
theorem rounds_le {P : Program} {c : Code} {Q : Exit → Act → World → Prop} {k k' : Nat} (hk : k ≤ k') {a : Act} {w : World} (h : Code.rounds P c Q k a w) : Code.rounds P c Q k' a w := by
  induction hk with
  | refl => exact h
  | step _ ih => exact rounds_mono _ _ _ ih
theorem rounds_post {P : Program} {c : Code} {Q Q' : Exit → Act → World → Prop} (hq : ∀ e a w, Q e a w → Q' e a w) : ∀ (k : Nat) (a : Act) (w : World), Code.rounds P c Q k a w → Code.rounds P c Q' k a w
  | 0, _, _, h => h.elim
  | k + 1, a, w, h => by
    rw [rounds_succ] at h ⊢
    refine wp_mono h fun e a w h => ?_
    cases e <;> first | exact rounds_post hq k a w h | exact hq _ _ _ h
theorem AWP.loop {c : Code} (I : Nat → (Nat → AV) → Heap → Prop) {k : Nat} (h0 : I k f H)
    (round : ∀ k f H, I k f H → AWP P n c (Then (fun f' H' => ∃ k', k' < k ∧ I k' f' H') Q) f H) : AWP P n (.loop c) Q f H := by
  have key : ∀ k f H, I k f H → ∀ μ a w, SR n w μ f H a → Code.rounds P c (Post n μ H w Q) (k + 1) a w := by
    intro k
    induction k using Nat.strongRecOn with
    | _ k ih =>
      intro f H hI μ a w hs
      rw [rounds_succ]
      refine wp_mono (round k f H hI μ a w hs) ?_
      rintro e a' w' ⟨μ', f', H', h1, h2, h3⟩
      cases e with
      | normal =>
        obtain ⟨k', hk', hI'⟩ := h3
        refine rounds_le hk' (rounds_post ?_ _ _ _ (ih k' hk' f' H' hI' μ' a' w' h1))
        rintro e2 a2 w2 ⟨μ2, f2, H2, g1, g2, g3⟩
        exact ⟨μ2, f2, H2, g1, h2.trans g2, g3⟩
      | exit id => exact ⟨μ', f', H', h1, h2, h3⟩
      | goto l => exact ⟨μ', f', H', h1, h2, h3⟩
      | ret => exact ⟨μ', f', H', h1, h2, h3⟩
      | panic c => exact ⟨μ', f', H', h1, h2, h3⟩
      | outgrown => exact ⟨μ', f', H', h1, h2, h3⟩
  exact fun μ a w hs => wp_loop_rounds (k + 1) (key k f H h0 μ a w hs)
theorem AOps.nil {ops : Array Oper} {K : (Nat → AV) → Heap → Prop} (h : K f H) : AOps P n ops K [] f H := h
theorem AOps.cons {ops : Array Oper} {K : (Nat → AV) → Heap → Prop} {i : Nat} {l : List Nat} {o : Oper} (ho : ops[i]? = some o) (hg : o.guard = none)
    (h : AOp P n o (AOps P n ops K l) f H) : AOps P n ops K (i :: l) f H := ⟨o, ho, .inl ⟨hg, h⟩⟩
theorem AOps.consg {ops : Array Oper} {K : (Nat → AV) → Heap → Prop} {i : Nat} {l : List Nat} {o oj : Oper} {j d d' : Nat} {b : Option Bool} {want : Bool} (ho : ops[i]? = some o) (hg : o.guard = some (j, want))
    (hj : ops[j]? = some oj) (hd : oj.dst = some d) (hd' : o.dst = some d') (hn : Nat.ble (d' + 1) n = true) (hf : f d = gAV b)
    (h1 : b = some want → AOp P n o (AOps P n ops K l) f H) (h2 : b ≠ some want → AOps P n ops K l (upd f d' (.tup [])) H) : AOps P n ops K (i :: l) f H :=
  ⟨o, ho, .inr ⟨j, want, oj, d, b, hg, hj, hd, hf, h1, fun h => ⟨d', hd', hn, h2 h⟩⟩⟩
theorem yielded_of {ops : Array Oper} {j : Nat} {oj : Oper} {d : Nat} {b : Option Bool} {w : World} {μ : Nat → Nat} {a : Act} (hs : SR n w μ f H a)
    (hj : ops[j]? = some oj) (hd : oj.dst = some d) (hf : f d = gAV b) : yielded ops a.tmps j = b := by
  have hv := hs.slots d
  rw [hf] at hv
  unfold yielded
  simp only [hj, Option.bind_some, hd]
  rcases Nat.lt_or_ge d a.tmps.size with h | h
  · simp only [Array.getD_eq_getD_getElem?, Array.getElem?_eq_getElem h, Option.getD_some] at hv
    simp only [Array.getElem?_eq_getElem h]
    generalize a.tmps[d] = v at hv
    cases b with
    | some b => cases hv; rfl
    | none => cases hv; rfl
  · simp only [Array.getElem?_eq_none h]
    simp only [Array.getD_eq_getD_getElem?, Array.getElem?_eq_none h, Option.getD_none, undef] at hv
    cases b with
    | some b => cases hv
    | none => rfl
theorem AOps.sound {ops : Array Oper} {K : (Nat → AV) → Heap → Prop} : ∀ (l : List Nat) (f : Nat → AV) (H : Heap), AOps P n ops K l f H → ∀ μ a w, SR n w μ f H a → ∀ E : Exit → Act → World → Prop,
    wpOps P ops (fun e a' w' => (e = .normal ∧ ∃ μ' f' H', SR n w' μ' f' H' a' ∧ Ext w μ H w' μ' H' ∧ K f' H') ∨ (e ≠ .normal ∧ E e a' w')) l a w
  | [], f, H, h, μ, _, _, hs, _ => .inl ⟨rfl, μ, f, H, hs, .refl _ _ _, h⟩
  | i :: l, f, H, h, μ, a, w, hs, E => by
    obtain ⟨o, ho, h⟩ := h
    have go : AOp P n o (AOps P n ops K l) f H → o.wp P a w (wpOps P ops (fun e a' w' => (e = .normal ∧ ∃ μ' f' H', SR n w' μ' f' H' a' ∧ Ext w μ H w' μ' H' ∧ K f' H') ∨ (e ≠ .normal ∧ E e a' w')) l)
        (fun e a' w' => (e = .normal ∧ ∃ μ' f' H', SR n w' μ' f' H' a' ∧ Ext w μ H w' μ' H' ∧ K f' H') ∨ (e ≠ .normal ∧ E e a' w')) := by
      intro h
      refine Oper.wp_mono ?_ ?_ (h μ a w hs (fun e a w => E e a w))
      · rintro a' w' ⟨μ', f', H', h1, h2, h3⟩
        refine wpOps_mono ?_ l _ _ (AOps.sound l f' H' h3 μ' a' w' h1 E)
        rintro e2 a2 w2 (⟨he, μ2, f2, H2, g1, g2, g3⟩ | h)
        · exact .inl ⟨he, μ2, f2, H2, g1, h2.trans g2, g3⟩
        · exact .inr h
      · intro e a w hne h
        exact .inr ⟨hne, h⟩
    unfold wpOps
    simp only [ho]
    rcases h with ⟨hg, h⟩ | ⟨j, want, oj, d, b, hg, hj, hd, hf, h1, h2⟩
    · simp only [Region.wanted, hg, if_true]
      exact .inl (go h)
    · simp only [Region.wanted, hg, yielded_of hs hj hd hf]
      by_cases hb : b = some want
      · subst hb
        simp only [BEq.rfl, if_true]
        exact .inl (go (h1 rfl))
      · have hbe : (b == some want) = false := by simpa using hb
        obtain ⟨d', hd', hn, h3⟩ := h2 hb
        simp only [hbe, Bool.false_eq_true, if_false, hd']
        exact AOps.sound l _ H h3 μ _ w (hs.put (.refl _ _ _) hs.hr hn (.tup rfl (by simp))) E
theorem AWP.region {id : Nat} {ops : Array Oper} {l : List Nat} (hl : List.range ops.size = l) (h : AOps P n ops (Q .normal) l f H) : AWP P n (.region id ops false) Q f H := by
  intro μ a w hs
  refine wp_region (wpOps_mono ?_ _ _ _ (hl ▸ AOps.sound l f H h μ a w hs (fun _ _ _ => False)))
  rintro e a' w' (⟨rfl, h⟩ | ⟨_, h⟩)
  · exact h
  · exact h.elim
theorem VR.heap {w w' : World} {μ : Nat → Nat} (h : w'.heap = w.heap) {x : AV} {v : Value} (hv : VR w μ H x v) : VR w' μ H x v := by
  have hc' : ∀ b o, w'.cell? ⟨b, o, none⟩ = w.cell? ⟨b, o, none⟩ := fun b o => cell_of_heap (by rw [h])
  induction hv with
  | undef v => exact .undef v
  | int k n => exact .int k n
  | bool b => exact .bool b
  | str s => exact .str s
  | nilptr => exact .nilptr
  | ptr hk ha => exact .ptr hk ha
  | iter hi => exact .iter hi
  | fptr hb hc _ ih => exact .fptr ⟨by rw [h]; exact hb.1, hb.2⟩ (fun j x hj => (hc' _ _).trans (hc j x hj)) ih
  | snil => exact .snil
  | sl0 a cap => exact .sl0 a cap
  | sl hl hb hc _ ih => exact .sl hl ⟨by rw [h]; exact hb.1, hb.2⟩ (fun j x hj => (hc' _ _).trans (hc j x hj)) ih
  | slm hk hl ha => exact .slm hk hl fun hal => ⟨(ha hal).1, by simp only [bsize, h]; exact (ha hal).2⟩
  | mapnil => exact .mapnil
  | map hm => exact .map hm
  | nilfn => exact .nilfn
  | fn hl _ ih => exact .fn hl ih
  | nilIface => exact .nilIface
  | iface _ ih => exact .iface ih
  | agg hl _ ih => exact .agg hl ih
  | tup hl _ ih => exact .tup hl ih
theorem Ext.heap {w w' : World} {μ : Nat → Nat} (h : w'.heap = w.heap) (hr : Rest w w') : Ext w μ H w' μ H :=
  ⟨by rw [h]; exact Nat.le_refl _, fun b hb => ⟨by rw [h], hb.2⟩, fun _ _ h => h, fun _ _ _ ha => ⟨ha, rfl, by simp only [bsize, h]⟩, fun _ h => ⟨h, rfl⟩, fun _ h => ⟨h, rfl⟩, hr⟩
theorem HR.heap {w w' : World} {μ : Nat → Nat} (h : w'.heap = w.heap) (hr : HR w μ H) : HR w' μ H where
  rows := fun id ver cells hi => by
    obtain ⟨cs, T, h1, h2, h3⟩ := hr.rows id ver cells hi
    exact ⟨cs, T, by rw [h]; exact h1, h2, fun j x hx => let ⟨y, g1, g2⟩ := h3 j x hx; ⟨y, g1, g2.heap h⟩⟩
  maps := fun id es hi => by
    obtain ⟨h0, en, c, h1, h2, h3⟩ := hr.maps id es hi
    exact ⟨h0, en, c, by rw [h]; exact h1, h2, fun j x e hx he => ⟨(h3 j x e hx he).1.heap h, (h3 j x e hx he).2.heap h⟩⟩
  born := fun id es ents clock hi hw => hr.born id es ents clock hi (by rw [← h]; exact hw)
  iters := fun id it hi => by rw [h]; exact hr.iters id it hi
  inj := hr.inj
  fin := hr.fin
  glob := ⟨fun g c hg => (hr.glob.val g c hg).heap h, fun g cs hb => by rw [h]; exact ⟨⟨by rw [h]; exact (hr.glob.blk g cs hb).1.1, (hr.glob.blk g cs hb).1.2⟩, (hr.glob.blk g cs hb).2⟩⟩
def backB (ops : Array Oper) : Bool := (List.range ops.size).all fun i => (ops[i]?).all fun o => o.after.all fun e => !Region.binds .any e || Nat.blt e.on i
theorem backB_spec {ops : Array Oper} (h : backB ops = true) {i : Nat} {o : Oper} (ho : ops[i]? = some o) {e : Edge} (he : e ∈ o.after) (hb : Region.binds .any e = true) : e.on < i := by
  unfold backB at h
  rw [List.all_eq_true] at h
  have hi : i < ops.size := by
    rcases Nat.lt_or_ge i ops.size with h' | h'
    · exact h'
    · rw [Array.getElem?_eq_none h'] at ho; cases ho
  have h1 := h i (List.mem_range.2 hi)
  rw [ho] at h1
  simp only [Option.all_some] at h1
  rw [Array.all_eq_true] at h1
  obtain ⟨k, hk, rfl⟩ := Array.mem_iff_getElem.1 he
  have h2 := h1 k hk
  simp only [hb, Bool.not_true, Bool.false_or] at h2
  exact Nat.le_of_ble_eq_true h2
def left (m : Nat) (S : Nat → Bool) : Nat := ((List.range m).filter fun i => !S i).length
theorem left_set {m i : Nat} {S : Nat → Bool} (hi : i < m) (hS : S i = false) : left m (fun k => Nat.beq k i || S k) + 1 = left m S := by
  unfold left
  have key : ∀ (l : List Nat), l.Nodup → i ∈ l → ((l.filter fun k => !(Nat.beq k i || S k)).length) + 1 = (l.filter fun k => !S k).length := by
    intro l
    induction l with
    | nil => intro _ h; cases h
    | cons x l ih =>
      intro hn hm
      rw [List.nodup_cons] at hn
      by_cases hx : x = i
      · subst hx
        have h1 : ∀ k ∈ l, (!(Nat.beq k x || S k)) = !S k := fun k hk => by
          have hkx : k ≠ x := fun e => hn.1 (e ▸ hk)
          have : Nat.beq k x = false := by
            cases hb : Nat.beq k x with
            | false => rfl
            | true => exact absurd (Nat.eq_of_beq_eq_true hb) hkx
          rw [this, Bool.false_or]
        rw [List.filter_cons_of_neg (by simp), List.filter_cons_of_pos (by simp [hS]), List.filter_congr h1]
        rfl
      · have hb : Nat.beq x i = false := by
          cases hb : Nat.beq x i with
          | false => rfl
          | true => exact absurd (Nat.eq_of_beq_eq_true hb) hx
        have hm' : i ∈ l := by
          rcases List.mem_cons.1 hm with h | h
          · exact absurd h.symm hx
          · exact h
        have := ih hn.2 hm'
        by_cases hs : S x = true
        · rw [List.filter_cons_of_neg (by simp [hs]), List.filter_cons_of_neg (by simp [hs])]; exact this
        · rw [List.filter_cons_of_pos (by simp [hs, hb]), List.filter_cons_of_pos (by simp [hs])]
          simp only [List.length_cons]; omega
  exact key _ List.nodup_range (List.mem_range.2 hi)
theorem left_zero {m : Nat} {S : Nat → Bool} (h : left m S = 0) : ∀ i, i < m → S i = true := fun i hi => by
  unfold left at h
  have h1 := List.eq_nil_of_length_eq_zero h
  cases hS : S i with
  | true => rfl
  | false =>
    have : i ∈ (List.range m).filter fun i => !S i := List.mem_filter.2 ⟨List.mem_range.2 hi, by simp [hS]⟩
    rw [h1] at this; cases this
theorem left_pos {m : Nat} {S : Nat → Bool} (h : left m S ≠ 0) : ∃ i, i < m ∧ S i = false ∧ ∀ k, k < i → S k = true := by
  have : ∃ i, i < m ∧ S i = false := by
    apply Classical.byContradiction
    intro hn
    apply h
    unfold left
    have : ((List.range m).filter fun i => !S i) = [] := by
      rw [List.filter_eq_nil_iff]
      intro i hi
      have := List.mem_range.1 hi
      cases hS : S i with
      | true => simp
      | false => exact absurd ⟨i, this, hS⟩ hn
    rw [this]; rfl
  obtain ⟨i, hi⟩ := this
  induction i using Nat.strongRecOn with
  | _ i ih =>
    by_cases hk : ∃ k, k < i ∧ S k = false
    · obtain ⟨k, hk1, hk2⟩ := hk
      exact ih k hk1 ⟨by omega, hk2⟩
    · refine ⟨i, hi.1, hi.2, fun k hk' => ?_⟩
      cases hS : S k with
      | true => rfl
      | false => exact absurd ⟨k, hk', hS⟩ hk
abbrev listedOf (l : Array Bool) : Nat → Bool := fun i => l.getD i false
theorem listedOf_set {l : Array Bool} {i : Nat} (hi : i < l.size) : listedOf (l.setIfInBounds i true) = fun k => Nat.beq k i || listedOf l k := by
  funext k
  unfold listedOf
  by_cases h : k = i
  · subst h; simp [Array.getD_eq_getD_getElem?, hi]
  · have hb : Nat.beq k i = false := by
      cases hb : Nat.beq k i with
      | false => rfl
      | true => exact absurd (Nat.eq_of_beq_eq_true hb) h
    rw [hb, Bool.false_or]
    simp [Array.getD_eq_getD_getElem?, Ne.symm h]
theorem AWP.region_any {id : Nat} {ops : Array Oper} (hm : P.follows .mixedOrders = true) (hback : backB ops = true) (I : (Nat → Bool) → (Nat → AV) → Heap → Prop)
    (h0 : I (fun _ => false) f H)
    (step : ∀ S i o, ops[i]? = some o → S i = false → (∀ e ∈ o.after, Region.binds .any e = true → S e.on = true) → ∀ f H, I S f H →
      (o.guard = none ∧ AOp P n o (I (fun k => Nat.beq k i || S k)) f H) ∨
      (∃ j want oj d b, o.guard = some (j, want) ∧ ops[j]? = some oj ∧ oj.dst = some d ∧ f d = gAV b ∧
        (b = some want → AOp P n o (I (fun k => Nat.beq k i || S k)) f H) ∧
        (b ≠ some want → ∃ d', o.dst = some d' ∧ Nat.ble (d' + 1) n = true ∧ I (fun k => Nat.beq k i || S k) (upd f d' (.tup [])) H)))
    (fin : ∀ S f H, (∀ i, i < ops.size → S i = true) → I S f H → Q .normal f H) : AWP P n (.region id ops true) Q f H := by
  have key : ∀ (fuel : Nat) (listed : Array Bool), listed.size = ops.size → left ops.size (listedOf listed) = fuel → ∀ μ f H a w, SR n w μ f H a → I (listedOf listed) f H →
      wpAny P .any ops (Post n μ H w Q) fuel listed a w := by
    intro fuel
    induction fuel with
    | zero =>
      intro listed hsz hl μ f H a w hs hI
      have hall := left_zero hl
      refine ⟨?_, μ, f, H, hs, .refl _ _ _, fin _ f H hall hI⟩
      cases hr : Region.ready .any ops listed with
      | nil => rfl
      | cons i l =>
        have hi : i ∈ Region.ready .any ops listed := by rw [hr]; exact List.mem_cons_self
        obtain ⟨h1, o, ho, _⟩ := mem_ready.1 hi
        have hlt : i < ops.size := by
          rcases Nat.lt_or_ge i ops.size with h' | h'
          · exact h'
          · rw [Array.getElem?_eq_none h'] at ho; cases ho
        have h2 := hall i hlt
        simp only [listedOf, Array.getD_eq_getD_getElem?] at h1 h2
        rw [Array.getElem?_eq_getElem (hsz ▸ hlt)] at h1 h2
        simp only [Option.getD_some] at h1 h2
        rw [h1] at h2; cases h2
    | succ fuel ih =>
      intro listed hsz hl μ f H a w hs hI
      refine ⟨fun hr => ?_, fun i hi => ?_⟩
      · exfalso
        obtain ⟨i, hi1, hi2, hi3⟩ := left_pos (m := ops.size) (S := listedOf listed) (by omega)
        have : i ∈ Region.ready .any ops listed := by
          refine mem_ready.2 ⟨?_, ops[i], Array.getElem?_eq_getElem hi1, fun e he hb => ?_⟩
          · simp only [listedOf, Array.getD_eq_getD_getElem?] at hi2 ⊢
            rw [Array.getElem?_eq_getElem (hsz ▸ hi1)] at hi2 ⊢
            exact hi2
          · exact hi3 _ (backB_spec hback (Array.getElem?_eq_getElem hi1) he hb)
        rw [hr] at this; cases this
      · obtain ⟨h1, o, ho, h2⟩ := mem_ready.1 hi
        have hlt : i < ops.size := by
          rcases Nat.lt_or_ge i ops.size with h' | h'
          · exact h'
          · rw [Array.getElem?_eq_none h'] at ho; cases ho
        have hSi : listedOf listed i = false := by
          simp only [listedOf, Array.getD_eq_getD_getElem?] at h1 ⊢
          rw [Array.getElem?_eq_getElem (hsz ▸ hlt)] at h1 ⊢
          exact h1
        have hset := listedOf_set (l := listed) (i := i) (by omega)
        have hleft : left ops.size (listedOf (listed.setIfInBounds i true)) = fuel := by
          rw [hset]
          have := left_set (m := ops.size) (S := listedOf listed) hlt hSi
          omega
        have go : ∀ μ' f' H' a' w', SR n w' μ' f' H' a' → Ext w μ H w' μ' H' → I (fun k => Nat.beq k i || listedOf listed k) f' H' →
            wpAny P .any ops (Post n μ H w Q) fuel (listed.setIfInBounds i true) a' w' := by
          intro μ' f' H' a' w' hs' he' hI'
          rw [← hset] at hI'
          have h3 := ih (listed.setIfInBounds i true) (by simp [hsz]) hleft μ' f' H' a' w' hs' hI'
          have mono : ∀ (fuel : Nat) (l : Array Bool) (a : Act) (w1 : World), wpAny P .any ops (Post n μ' H' w' Q) fuel l a w1 → wpAny P .any ops (Post n μ H w Q) fuel l a w1 := by
            have hq : ∀ e a w1, Post n μ' H' w' Q e a w1 → Post n μ H w Q e a w1 := by
              rintro e a w1 ⟨μ2, f2, H2, g1, g2, g3⟩
              exact ⟨μ2, f2, H2, g1, he'.trans g2, g3⟩
            intro fuel
            induction fuel with
            | zero => intro l a w1 h; exact ⟨h.1, hq _ _ _ h.2⟩
            | succ fuel ih2 =>
              intro l a w1 h
              refine ⟨fun h0 => hq _ _ _ (h.1 h0), fun j hj => ?_⟩
              have h4 := h.2 j hj
              unfold wpOp at h4 ⊢
              split
              · rename_i hn; simp only [hn] at h4; exact ih2 _ _ _ h4
              · rename_i oj hoj
                simp only [hoj] at h4
                split
                · rename_i hw
                  simp only [hw, if_true] at h4
                  rcases h4 with h4 | ⟨h5, a1, w2, h6⟩
                  · exact .inl (Oper.wp_mono (fun a w h => ih2 _ a w h) (fun e a w _ h => hq e a w h) h4)
                  · exact .inr ⟨h5, a1, w2, hq _ _ _ h6⟩
                · rename_i hw
                  simp only [hw] at h4
                  exact ih2 _ _ _ h4
          exact mono _ _ _ _ h3
        have opgo : AOp P n o (I (fun k => Nat.beq k i || listedOf listed k)) f H → o.wp P a w (wpAny P .any ops (Post n μ H w Q) fuel (listed.setIfInBounds i true)) (Post n μ H w Q) := by
          intro hop
          refine Oper.wp_mono ?_ ?_ (hop μ a w hs (Post n μ H w Q))
          · rintro a' w' ⟨μ', f', H', g1, g2, g3⟩
            exact go μ' f' H' a' w' g1 g2 g3
          · intro e a w _ h; exact h
        unfold wpOp
        simp only [ho]
        rcases step (listedOf listed) i o ho hSi h2 f H hI with ⟨hg, hop⟩ | ⟨j, want, oj, d, b, hg, hj, hd, hf, hyes, hno⟩
        · simp only [Region.wanted, hg, if_true]
          exact .inl (opgo hop)
        · simp only [Region.wanted, hg, yielded_of hs hj hd hf]
          by_cases hb : b = some want
          · subst hb
            simp only [BEq.rfl, if_true]
            exact .inl (opgo (hyes rfl))
          · have hbe : (b == some want) = false := by simpa using hb
            simp only [hbe, Bool.false_eq_true, if_false]
            obtain ⟨d', hd', hn', hI'⟩ := hno hb
            rw [hd']
            exact go μ _ H _ w (hs.put (.refl _ _ _) hs.hr hn' (.tup rfl (by simp))) (.refl _ _ _) hI'
  intro μ a w hs
  have hh : ({ w with drawn := w.drawn + 1 } : World).heap = w.heap := rfl
  have hs' : SR n { w with drawn := w.drawn + 1 } μ f H a := hs.stay (.heap hh ⟨rfl, rfl, rfl, fun _ => Nat.le_succ _⟩) (hs.hr.heap hh)
  refine wp_region_any hm ?_
  have hS0 : listedOf (Array.replicate ops.size false) = fun _ => false := by
    funext k
    simp only [listedOf, Array.getD_eq_getD_getElem?, Array.getElem?_replicate]
    split <;> rfl
  have hl0 : left ops.size (listedOf (Array.replicate ops.size false)) = ops.size := by
    rw [hS0]; unfold left; rw [List.filter_eq_self.2 (by simp)]; simp
  have := key ops.size (Array.replicate ops.size false) (by simp) hl0 μ f H a _ hs' (by rw [hS0]; exact h0)
  have mono : ∀ (fuel : Nat) (l : Array Bool) (a : Act) (w1 : World), wpAny P .any ops (Post n μ H { w with drawn := w.drawn + 1 } Q) fuel l a w1 → wpAny P .any ops (Post n μ H w Q) fuel l a w1 := by
    have hq : ∀ e a w1, Post n μ H { w with drawn := w.drawn + 1 } Q e a w1 → Post n μ H w Q e a w1 := by
      rintro e a w1 ⟨μ2, f2, H2, g1, g2, g3⟩
      exact ⟨μ2, f2, H2, g1, (Ext.heap hh ⟨rfl, rfl, rfl, fun _ => Nat.le_succ _⟩).trans g2, g3⟩
    intro fuel
    induction fuel with
    | zero => intro l a w1 h; exact ⟨h.1, hq _ _ _ h.2⟩
    | succ fuel ih2 =>
      intro l a w1 h
      refine ⟨fun h0 => hq _ _ _ (h.1 h0), fun j hj => ?_⟩
      have h4 := h.2 j hj
      unfold wpOp at h4 ⊢
      split
      · rename_i hn; simp only [hn] at h4; exact ih2 _ _ _ h4
      · rename_i oj hoj
        simp only [hoj] at h4
        split
        · rename_i hw
          simp only [hw, if_true] at h4
          rcases h4 with h4 | ⟨h5, a1, w2, h6⟩
          · exact .inl (Oper.wp_mono (fun a w h => ih2 _ a w h) (fun e a w _ h => hq e a w h) h4)
          · exact .inr ⟨h5, a1, w2, hq _ _ _ h6⟩
        · rename_i hw
          simp only [hw] at h4
          exact ih2 _ _ _ h4
  exact mono _ _ _ _ this
end code
def ACalls (P : Program) (g : FuncId) (args : List AV) (H : Heap) (R : AV → Heap → Prop) : Prop :=
  ∀ μ w (vs : Array Value), HR w μ H → VRs w μ H args vs.toList →
    Calls P g vs w fun e w' => ∃ v, e = .returned v ∧ ∃ μ' H' r, HR w' μ' H' ∧ VR w' μ' H' r v ∧ Ext w μ H w' μ' H' ∧ R r H'
theorem ACalls.mono {P : Program} {g : FuncId} {args : List AV} {H : Heap} {R R' : AV → Heap → Prop} (h : ACalls P g args H R) (hr : ∀ r H', R r H' → R' r H') : ACalls P g args H R' :=
  fun μ w vs h1 h2 => (h μ w vs h1 h2).mono fun _ _ ⟨v, e, μ', H', r, a, b, c, d⟩ => ⟨v, e, μ', H', r, a, b, c, hr _ _ d⟩
def entry (args : List AV) : Nat → AV := fun t => args.getD t .undef
def Res (P : Program) (n : Nat) (fn : Func) (f : Nat → AV) (H : Heap) (r : AV) : Prop :=
  ∀ μ a w, SR n w μ f H a → ∃ v, (results fn a.tmps).run P w = .ok v w ∧ VR w μ H r v
theorem ACalls.of_body {P : Program} {g : FuncId} {fn : Func} {c : Code} {args : List AV} {H : Heap} {R : AV → Heap → Prop} {n : Nat}
    (hf : P.funcs[g]? = some fn) (hb : fn.body = some c) (hn : fn.ntmps = n) (hle : Nat.ble args.length n = true)
    (h : AWP P n c (fun e f' H' => (e = .normal ∨ e = .ret) ∧ ∃ r, Res P n fn f' H' r ∧ R r H') (entry args) H) (hd : Globs.dfr = [] := by rfl) : ACalls P g args H R := by
  intro μ w vs hr hv
  have hlen : args.length = vs.size := by simpa using hv.1
  have hle' : args.length ≤ n := Nat.le_of_ble_eq_true hle
  refine calls_of_wp hf hb ?_
  have hs : SR n w μ (entry args) H { tmps := vs ++ Array.replicate (fn.ntmps - vs.size) undef, defers := [] } := by
    refine ⟨hr, by simp [hn]; omega, fun t => ?_, hd.symm⟩
    unfold entry
    rcases Nat.lt_or_ge t args.length with ht | ht
    · have h1 : args[t]? = some args[t] := List.getElem?_eq_getElem ht
      have h2 : vs.toList[t]? = some vs[t] := by simp [hlen ▸ ht]
      have := hv.2 t _ _ h1 h2
      have e1 : args.getD t .undef = args[t] := by simp [ht]
      have e2 : (vs ++ Array.replicate (fn.ntmps - vs.size) undef).getD t undef = vs[t] := by
        simp [Array.getD_eq_getD_getElem?, Array.getElem?_append, hlen ▸ ht]
      rw [e1, e2]; exact this
    · have e1 : args.getD t .undef = .undef := by simp [ht]
      rw [e1]; exact .undef _
  refine wp_mono (h μ _ w hs) ?_
  rintro e a' w' ⟨μ', f', H', h1, h2, h3, r, h4, h5⟩
  obtain ⟨v, hv1, hv2⟩ := h4 μ' a' w' h1
  rcases h3 with rfl | rfl
  · exact ⟨h1.defers.trans hd, v, hv1, v, rfl, μ', H', r, h1.hr, hv2, h2, h5⟩
  · exact ⟨h1.defers.trans hd, v, hv1, v, rfl, μ', H', r, h1.hr, hv2, h2, h5⟩
theorem Res.one {P : Program} {n : Nat} {fn : Func} {f : Nat → AV} {H : Heap} {t : Nat} {x : AV} (hr : fn.results = #[.tmp t]) (hx : f t = x) : Res P n fn f H x := by
  intro μ a w hs
  refine ⟨a.tmps.getD t undef, ?_, hx ▸ hs.slots t⟩
  simp [results, hr]
theorem Res.two {P : Program} {n : Nat} {fn : Func} {f : Nat → AV} {H : Heap} {t u : Nat} {x y : AV} (hr : fn.results = #[.tmp t, .tmp u]) (hx : f t = x) (hy : f u = y) : Res P n fn f H (.tup [x, y]) := by
  intro μ a w hs
  refine ⟨.tuple #[a.tmps.getD t undef, a.tmps.getD u undef], ?_, .tup rfl ?_⟩
  · simp [results, hr]
  · intro j p q h1 h2
    match j with
    | 0 => simp at h1 h2; subst h1 h2; have := hs.slots t; rw [hx, Array.getD_eq_getD_getElem?] at this; exact this
    | 1 => simp at h1 h2; subst h1 h2; have := hs.slots u; rw [hy, Array.getD_eq_getD_getElem?] at this; exact this
    | j + 2 => simp at h1
end Go.AH
namespace Go.AH
variable [Globs]
set_option linter.unusedSectionVars false
open Go
def updH (H : Heap) (id : Nat) (B : AB) : Heap := fun i => bif Nat.beq i id then some B else H i
theorem updH_eq (H : Heap) (id : Nat) (B : AB) (i : Nat) : updH H id B i = if i = id then some B else H i := by
  unfold updH
  by_cases h : i = id
  · simp [h]
  · have : Nat.beq i id = false := by
      cases hb : Nat.beq i id with
      | false => rfl
      | true => exact absurd (Nat.eq_of_beq_eq_true hb) h
    simp [h, this]
def TY (P : Program) (t : TypeId) (agg : Bool) (size : Nat) : Prop :=
  (∃ i, P.info? t = some i ∧ i.size = size) ∧ ∃ d, P.underlying t = some d ∧ (match d with | .struct _ | .array _ _ => true | _ => false) = agg
def TSize (P : Program) (t : TypeId) (size : Nat) : Prop := ∃ i, P.info? t = some i ∧ i.size = size
def TField (P : Program) (s : TypeId) (i off : Nat) (agg : Bool) (size : Nat) : Prop :=
  ∃ fs fl, P.underlying s = some (.struct fs) ∧ fs[i]? = some fl ∧ fl.offset = off ∧ TY P fl.type agg size ∧ size ≠ 0
def TSlice (P : Program) (t : TypeId) (es : Nat) : Prop := ∃ e, P.underlying t = some (.slice e) ∧ TSize P e es
def TZero (P : Program) (t : TypeId) (Z : List AV) : Prop := ∃ i z, P.info? t = some i ∧ i.zero = some z ∧ z.cells.toList.map cst = Z
section
variable {P : Program}
theorem TY.size {t : TypeId} {b : Bool} {s : Nat} (h : TY P t b s) : TSize P t s := h.1
theorem run_info {t : TypeId} {i : TypeInfo} (h : P.info? t = some i) (w : World) : (typeInfo t).run P w = .ok i w := by
  simp [typeInfo, h]
theorem run_under {t : TypeId} {d : TypeDesc} (h : P.underlying t = some d) (w : World) : (underlying t).run P w = .ok d w := by
  simp [underlying, h]
theorem TSize.run {t : TypeId} {s : Nat} (h : TSize P t s) (w : World) : (sizeOf t).run P w = .ok s w := by
  obtain ⟨i, h1, h2⟩ := h
  simp [sizeOf, run_info h1, h2]
theorem TY.run {t : TypeId} {b : Bool} {s : Nat} (h : TY P t b s) (w : World) : (isAgg t).run P w = .ok b w := by
  obtain ⟨_, d, h1, h2⟩ := h
  simp only [isAgg, Sem.run_bind, run_under h1, Result.andThen_ok]
  cases d <;> simp at h2 <;> simp [h2]
end
def AV.one : AV → Bool
  | .undef | .agg _ | .tup _ => false
  | _ => true
theorem VR.one {w : World} {μ : Nat → Nat} {H : Heap} {x : AV} {v : Value} (h : VR w μ H x v) (hx : x.one = true) : v.oneCell' = true := by
  cases h <;> simp_all [AV.one, Value.oneCell']
def AV.cells : AV → List AV
  | .agg cs => cs
  | v => [v]
def loadv (agg : Bool) (size off : Nat) (cells : List AV) : Option AV :=
  match agg with
  | true => match Nat.ble (off + size) cells.length with
    | true => some (.agg ((cells.drop off).take size))
    | false => none
  | false => cells[off]?
section
variable {P : Program} {n : Nat} {f : Nat → AV} {H : Heap} {K : (Nat → AV) → Heap → Prop} {ty : TypeId} {pos : String} {after : Array Edge} {guard : Option (Nat × Bool)} {d : Nat}
theorem AOp.pureV {op : Op} (x : AV) (hn : Nat.ble (d + 1) n = true)
    (h : ∀ μ a w, SR n w μ f H a → ∃ v, (execOp a.eval ⟨some d, op, ty, pos, after, guard⟩).run P w = .ok (.value v) w ∧ VR w μ H x v) (hK : K (upd f d x) H) :
    AOp P n ⟨some d, op, ty, pos, after, guard⟩ K f H := by
  intro μ a w hs Q
  obtain ⟨v, h1, h2⟩ := h μ a w hs
  unfold Oper.wp
  rw [h1]
  exact ⟨μ, _, H, hs.put (.refl _ _ _) hs.hr hn h2, .refl _ _ _, hK⟩
theorem AOp.move {x : Operand} (v : AV) (hn : Nat.ble (d + 1) n = true) (hx : ev f x = v) (hK : K (upd f d v) H) : AOp P n ⟨some d, .move x, ty, pos, after, guard⟩ K f H :=
  .pureV v hn (fun _ a _ hs => ⟨a.eval x, by simp [execOp], hx ▸ hs.ev x⟩) hK
theorem AOp.assign {x : Operand} (v : AV) (hn : Nat.ble (d + 1) n = true) (hx : ev f x = v) (hK : K (upd f d v) H) : AOp P n ⟨some d, .assign x, ty, pos, after, guard⟩ K f H :=
  .pureV v hn (fun _ a _ hs => ⟨a.eval x, by simp [execOp], hx ▸ hs.ev x⟩) hK
theorem VR.bool_inv {w : World} {μ : Nat → Nat} {b : Bool} {v : Value} (h : VR w μ H (.bool b) v) : v = .bool b := by cases h; rfl
theorem VR.int_inv {w : World} {μ : Nat → Nat} {k : IntKind} {m : Int} {v : Value} (h : VR w μ H (.int k m) v) : v = .int k m := by cases h; rfl
theorem VR.str_inv {w : World} {μ : Nat → Nat} {s : ByteArray} {v : Value} (h : VR w μ H (.str s) v) : v = .string s := by cases h; rfl
theorem AOp.pick {c x y : Operand} {b : Bool} (v : AV) (hn : Nat.ble (d + 1) n = true) (hc : ev f c = .bool b) (h1 : b = true → ev f x = v) (h2 : b = false → ev f y = v)
    (hK : K (upd f d v) H) : AOp P n ⟨some d, .pick c x y, ty, pos, after, guard⟩ K f H :=
  .pureV v hn (fun μ a w hs => by
    have hb := hs.ev c
    rw [hc] at hb
    have hb := hb.bool_inv
    cases b with
    | true => exact ⟨a.eval x, by simp [execOp, hb, asBool], h1 rfl ▸ hs.ev x⟩
    | false => exact ⟨a.eval y, by simp [execOp, hb, asBool], h2 rfl ▸ hs.ev y⟩) hK
theorem AOp.extract {x : Operand} {i : Nat} {vs : List AV} (v : AV) (hn : Nat.ble (d + 1) n = true) (hx : ev f x = .tup vs) (hv : vs[i]? = some v) (hK : K (upd f d v) H) :
    AOp P n ⟨some d, .extract x i, ty, pos, after, guard⟩ K f H :=
  .pureV v hn (fun μ a w hs => by
    have h := hs.ev x
    rw [hx] at h
    generalize hz : a.eval x = z at h
    cases h with
    | tup hl h =>
      rename_i us
      have hi : i < us.size := by
        rcases Nat.lt_or_ge i vs.length with h' | h'
        · omega
        · rw [List.getElem?_eq_none h'] at hv; cases hv
      refine ⟨us[i], ?_, h i v us[i] hv (Array.getElem?_eq_getElem hi)⟩
      simp [execOp, hz, Instr.extract, hi]) hK
def AV.notNil : AV → Bool
  | .ptr .. | .fptr .. | .fn .. | .iface .. => true
  | _ => false
theorem AOp.nilCheck {x : Operand} (v : AV) (hn : Nat.ble (d + 1) n = true) (hx : ev f x = v) (hv : v.notNil = true) (hK : K (upd f d v) H) :
    AOp P n ⟨some d, .nilCheck x, ty, pos, after, guard⟩ K f H :=
  .pureV v hn (fun μ a w hs => by
    have h := hs.ev x
    rw [hx] at h
    refine ⟨a.eval x, ?_, h⟩
    generalize hz : a.eval x = z at h
    cases h <;> simp [AV.notNil] at hv <;> simp [execOp, hz]) hK
theorem AOp.not {x : Operand} {b : Bool} {t : TypeId} (hn : Nat.ble (d + 1) n = true) (hx : ev f x = .bool b) (hK : K (upd f d (.bool !b)) H) :
    AOp P n ⟨some d, .unOp .not t x, ty, pos, after, guard⟩ K f H :=
  .pureV (.bool !b) hn (fun μ a w hs => by
    have h := hs.ev x; rw [hx] at h
    exact ⟨.bool !b, by simp [execOp, h.bool_inv, Op.unary], .bool _⟩) hK
theorem AOp.neg {x : Operand} {k : IntKind} {m : Int} {t : TypeId} (hn : Nat.ble (d + 1) n = true) (hx : ev f x = .int k m) (hK : K (upd f d (.int k (k.wrap (0 - m)))) H) :
    AOp P n ⟨some d, .unOp .neg t x, ty, pos, after, guard⟩ K f H :=
  .pureV (.int k (k.wrap (0 - m))) hn (fun μ a w hs => by
    have h := hs.ev x; rw [hx] at h
    exact ⟨.int k (k.wrap (0 - m)), by simp [execOp, h.int_inv, Op.unary, Op.intArith], .int _ _⟩) hK
def intBin (op : BinOp) (k : IntKind) (x y : Int) : Option AV :=
  match op with
  | .add => some (.int k (k.wrap (x + y)))
  | .sub => some (.int k (k.wrap (x - y)))
  | .mul => some (.int k (k.wrap (x * y)))
  | .eql => some (.bool (x == y))
  | .neq => some (.bool (x != y))
  | .lss => some (.bool (decide (x < y)))
  | .leq => some (.bool (decide (x ≤ y)))
  | .gtr => some (.bool (decide (x > y)))
  | .geq => some (.bool (decide (x ≥ y)))
  | _ => none
theorem AOp.bin {op : BinOp} {t t' : TypeId} {x y : Operand} {k : IntKind} {p q : Int} (v : AV) (hn : Nat.ble (d + 1) n = true) (hx : ev f x = .int k p) (hy : ev f y = .int k q)
    (hv : intBin op k p q = some v) (hK : K (upd f d v) H) : AOp P n ⟨some d, .binOp op t x y t', ty, pos, after, guard⟩ K f H :=
  .pureV v hn (fun μ a w hs => by
    have h1 := hs.ev x; rw [hx] at h1
    have h2 := hs.ev y; rw [hy] at h2
    have h1 := h1.int_inv
    have h2 := h2.int_inv
    cases op with
    | add =>
      simp only [intBin, Option.some.injEq] at hv
      subst hv
      exact ⟨.int k (k.wrap (p + q)), by simp [execOp, eqGuard, h1, h2, binOp, Op.intArith], .int _ _⟩
    | sub =>
      simp only [intBin, Option.some.injEq] at hv
      subst hv
      exact ⟨.int k (k.wrap (p - q)), by simp [execOp, eqGuard, h1, h2, binOp, Op.intArith], .int _ _⟩
    | mul =>
      simp only [intBin, Option.some.injEq] at hv
      subst hv
      exact ⟨.int k (k.wrap (p * q)), by simp [execOp, eqGuard, h1, h2, binOp, Op.intArith], .int _ _⟩
    | eql =>
      simp only [intBin, Option.some.injEq] at hv
      subst hv
      exact ⟨.bool (p == q), by simp [execOp, eqGuard, h1, h2, binOp, Op.intCmp], .bool _⟩
    | neq =>
      simp only [intBin, Option.some.injEq] at hv
      subst hv
      exact ⟨.bool (p != q), by simp [execOp, eqGuard, h1, h2, binOp, Op.intCmp], .bool _⟩
    | lss =>
      simp only [intBin, Option.some.injEq] at hv
      subst hv
      exact ⟨.bool (decide (p < q)), by simp [execOp, eqGuard, h1, h2, binOp, Op.intCmp], .bool _⟩
    | leq =>
      simp only [intBin, Option.some.injEq] at hv
      subst hv
      exact ⟨.bool (decide (p ≤ q)), by simp [execOp, eqGuard, h1, h2, binOp, Op.intCmp], .bool _⟩
    | gtr =>
      simp only [intBin, Option.some.injEq] at hv
      subst hv
      exact ⟨.bool (decide (p > q)), by simp [execOp, eqGuard, h1, h2, binOp, Op.intCmp], .bool _⟩
    | geq =>
      simp only [intBin, Option.some.injEq] at hv
      subst hv
      exact ⟨.bool (decide (p ≥ q)), by simp [execOp, eqGuard, h1, h2, binOp, Op.intCmp], .bool _⟩
    | _ => simp [intBin] at hv) hK
theorem AOp.rem {t t' : TypeId} {x y : Operand} {k : IntKind} {p q : Int} (hn : Nat.ble (d + 1) n = true) (hx : ev f x = .int k p) (hy : ev f y = .int k q)
    (hq : q ≠ 0) (hK : K (upd f d (.int k (p.tmod q))) H) : AOp P n ⟨some d, .binOp .rem t x y t', ty, pos, after, guard⟩ K f H :=
  .pureV _ hn (fun μ a w hs => by
    have h1 := hs.ev x; rw [hx] at h1
    have h2 := hs.ev y; rw [hy] at h2
    exact ⟨.int k (p.tmod q), by simp [execOp, eqGuard, h1.int_inv, h2.int_inv, binOp, Op.intDiv, hq], .int _ _⟩) hK
theorem run_equal_bool {t : TypeId} (ht : P.underlying t = some .bool) (p q : Bool) (w : World) : (Op.equal t (.bool p) (.bool q)).run P w = .ok (p == q) w := by
  have h : ∀ d, (Op.equalIn (d + 1) t (.bool p) (.bool q)).run P w = .ok (p == q) w := fun d => by
    rw [Op.equalIn]; simp [run_under ht]
  exact h 9999
theorem AOp.beq {t t' : TypeId} {x y : Operand} {p q : Bool} (hn : Nat.ble (d + 1) n = true) (hx : ev f x = .bool p) (hy : ev f y = .bool q) (ht : P.underlying t = some .bool)
    (hK : K (upd f d (.bool (p == q))) H) : AOp P n ⟨some d, .binOp .eql t x y t', ty, pos, after, guard⟩ K f H :=
  .pureV _ hn (fun μ a w hs => by
    have h1 := hs.ev x; rw [hx] at h1
    have h2 := hs.ev y; rw [hy] at h2
    exact ⟨.bool (p == q), by simp [execOp, eqGuard, h1.bool_inv, h2.bool_inv, binOp, run_equal_bool ht], .bool _⟩) hK
theorem AOp.seq {t t' : TypeId} {x y : Operand} {p q : ByteArray} (hn : Nat.ble (d + 1) n = true) (hx : ev f x = .str p) (hy : ev f y = .str q)
    (hK : K (upd f d (.bool (p.toList == q.toList))) H) : AOp P n ⟨some d, .binOp .eql t x y t', ty, pos, after, guard⟩ K f H :=
  .pureV _ hn (fun μ a w hs => by
    have h1 := hs.ev x; rw [hx] at h1
    have h2 := hs.ev y; rw [hy] at h2
    exact ⟨.bool (p.toList == q.toList), by simp [execOp, eqGuard, h1.str_inv, h2.str_inv, binOp, Op.stringOp], .bool _⟩) hK
theorem AOp.sne {t t' : TypeId} {x y : Operand} {p q : ByteArray} (hn : Nat.ble (d + 1) n = true) (hx : ev f x = .str p) (hy : ev f y = .str q)
    (hK : K (upd f d (.bool (!(p.toList == q.toList)))) H) : AOp P n ⟨some d, .binOp .neq t x y t', ty, pos, after, guard⟩ K f H :=
  .pureV _ hn (fun μ a w hs => by
    have h1 := hs.ev x; rw [hx] at h1
    have h2 := hs.ev y; rw [hy] at h2
    exact ⟨.bool (!(p.toList == q.toList)), by simp [execOp, eqGuard, h1.str_inv, h2.str_inv, binOp, Op.stringOp], .bool _⟩) hK
theorem AOp.fieldAddr {s : TypeId} {x : Operand} {i id ver off o size : Nat} {agg : Bool} (hn : Nat.ble (d + 1) n = true) (hx : ev f x = .ptr id ver off) (ht : TField P s i o agg size)
    (hK : K (upd f d (.ptr id ver (off + o))) H) (hid : Alive H id ver) : AOp P n ⟨some d, .fieldAddr s x i, ty, pos, after, guard⟩ K f H :=
  .pureV _ hn (fun μ a w hs => by
    have h1 := hs.ev x; rw [hx] at h1
    obtain ⟨fs, fl, t1, t2, t3, t4, t5⟩ := ht
    generalize hz : a.eval x = z at h1
    cases h1 with
    | ptr hk ha =>
      have := ha hid
      subst this
      refine ⟨.pointer (some ⟨μ id, off + o, none⟩), ?_, .ptr hk fun _ => rfl⟩
      simp [execOp, hz, Instr.fieldAt, run_under t1, t2, Instr.sureAddr, fieldPlace, t4.size.run, t5, Addr.add, t3]) hK
theorem AOp.fieldAddrF {s : TypeId} {x : Operand} {i off o size : Nat} {cells : List AV} {agg : Bool} (hn : Nat.ble (d + 1) n = true) (hx : ev f x = .fptr cells off) (ht : TField P s i o agg size)
    (hK : K (upd f d (.fptr cells (off + o))) H) : AOp P n ⟨some d, .fieldAddr s x i, ty, pos, after, guard⟩ K f H :=
  .pureV _ hn (fun μ a w hs => by
    have h1 := hs.ev x; rw [hx] at h1
    obtain ⟨fs, fl, t1, t2, t3, t4, t5⟩ := ht
    generalize hz : a.eval x = z at h1
    cases h1 with
    | fptr hb hc hv =>
      rename_i b o' ys
      refine ⟨.pointer (some ⟨b, o' + (off + o), none⟩), ?_, .fptr hb hc hv⟩
      simp [execOp, hz, Instr.fieldAt, run_under t1, t2, Instr.sureAddr, fieldPlace, t4.size.run, t5, Addr.add, t3, Nat.add_assoc]) hK
theorem run_part {t : TypeId} {agg : Bool} {size off : Nat} (ht : TY P t agg size) {w : World} {μ : Nat → Nat} {cells : List AV} {vs : Array Value} (hl : cells.length = vs.size)
    (h : ∀ (j : Nat) (x : AV) (y : Value), cells[j]? = some x → vs[j]? = some y → VR w μ H x y) {v : AV} (hv : loadv agg size off cells = some v) :
    ∃ u, (part t vs off).run P w = .ok u w ∧ VR w μ H v u := by
  cases agg with
  | true =>
    simp only [loadv] at hv
    cases hb : Nat.ble (off + size) cells.length with
    | false => rw [hb] at hv; cases hv
    | true =>
      rw [hb] at hv
      simp only [Option.some.injEq] at hv
      subst hv
      have hb' := Nat.le_of_ble_eq_true hb
      refine ⟨.agg (vs.extract off (off + size)), ?_, .agg ?_ ?_⟩
      · simp [part, ht.run, ht.size.run]
      · simp; omega
      · intro j x y hx hy
        have hj : j < size := by
          rcases Nat.lt_or_ge j size with h' | h'
          · exact h'
          · rw [List.getElem?_eq_none (by simp; omega)] at hx; cases hx
        refine h (off + j) x y ?_ ?_
        · simpa [List.getElem?_take, hj] using hx
        · rw [Array.getElem?_extract] at hy
          split at hy
          · exact hy
          · cases hy
  | false =>
    simp only [loadv] at hv
    have hi : off < vs.size := by
      rcases Nat.lt_or_ge off cells.length with h' | h'
      · omega
      · rw [List.getElem?_eq_none h'] at hv; cases hv
    refine ⟨vs[off], ?_, h off v vs[off] hv (Array.getElem?_eq_getElem hi)⟩
    simp [part, ht.run, hi]
theorem AOp.field {s : TypeId} {x : Operand} {i o size : Nat} {cells : List AV} {agg : Bool} (v : AV) (hn : Nat.ble (d + 1) n = true) (hx : ev f x = .agg cells) (ht : TField P s i o agg size)
    (hv : loadv agg size o cells = some v) (hK : K (upd f d v) H) : AOp P n ⟨some d, .field s x i, ty, pos, after, guard⟩ K f H :=
  .pureV v hn (fun μ a w hs => by
    have h1 := hs.ev x; rw [hx] at h1
    obtain ⟨fs, fl, t1, t2, t3, t4, t5⟩ := ht
    generalize hz : a.eval x = z at h1
    cases h1 with
    | agg hl h =>
      obtain ⟨u, hu, hr⟩ := run_part t4 hl h hv
      refine ⟨u, ?_, hr⟩
      subst t3
      simp [execOp, hz, Instr.field, run_under t1, t2, asAgg, hu]) hK
theorem AOp.indexAddrS {t : TypeId} {x ix : Operand} {k : IntKind} {i : Int} {len es : Nat} {cells : List AV} (hn : Nat.ble (d + 1) n = true) (hx : ev f x = .sl len cells) (hi : ev f ix = .int k i)
    (ht : TSlice P t es) (h0 : 0 ≤ i) (h1 : i < len) (hK : K (upd f d (.fptr cells (i.toNat * es))) H) : AOp P n ⟨some d, .indexAddr t x ix, ty, pos, after, guard⟩ K f H :=
  .pureV _ hn (fun μ a w hs => by
    have g1 := hs.ev x; rw [hx] at g1
    have g2 := hs.ev ix; rw [hi] at g2
    obtain ⟨e, t1, t2⟩ := ht
    generalize hz : a.eval x = z at g1
    cases g1 with
    | sl0 => omega
    | sl hl hb hc hv =>
      rename_i cap b o ys
      refine ⟨.pointer (some ⟨b, o + i.toNat * es, none⟩), ?_, .fptr hb hc hv⟩
      simp [execOp, hz, Instr.indexAt, g2.int_inv, asIntOf, run_under t1, h0, h1, t2.run, Addr.add]) hK
theorem AOp.indexAddrM {t : TypeId} {x ix : Operand} {k : IntKind} {i : Int} {len es id ver off : Nat} (hn : Nat.ble (d + 1) n = true) (hx : ev f x = .slm id ver es off len) (hi : ev f ix = .int k i)
    (ht : TSlice P t es) (h0 : 0 ≤ i) (h1 : i < len) (hid : Alive H id ver) (hK : K (upd f d (.ptr id ver (off + i.toNat * es))) H) : AOp P n ⟨some d, .indexAddr t x ix, ty, pos, after, guard⟩ K f H :=
  .pureV _ hn (fun μ a w hs => by
    have g1 := hs.ev x; rw [hx] at g1
    have g2 := hs.ev ix; rw [hi] at g2
    obtain ⟨e, t1, t2⟩ := ht
    generalize hz : a.eval x = z at g1
    cases g1 with
    | slm hk hl ha =>
      obtain ⟨rfl, _⟩ := ha hid
      refine ⟨.pointer (some ⟨μ id, off + i.toNat * es, none⟩), ?_, .ptr hk fun _ => rfl⟩
      simp [execOp, hz, Instr.indexAt, g2.int_inv, asIntOf, run_under t1, h0, h1, t2.run, Addr.add]) hK
theorem AOp.indexStr {t : TypeId} {x ix : Operand} {k : IntKind} {i : Int} {s : ByteArray} (hn : Nat.ble (d + 1) n = true) (hx : ev f x = .str s) (hi : ev f ix = .int k i)
    (ht : P.underlying t = some .string) (h0 : 0 ≤ i) (h1 : i.toNat < s.size) (hK : K (upd f d (.int .u8 (s[i.toNat]'h1).toNat)) H) : AOp P n ⟨some d, .index t x ix, ty, pos, after, guard⟩ K f H :=
  .pureV _ hn (fun μ a w hs => by
    have g1 := hs.ev x; rw [hx] at g1
    have g2 := hs.ev ix; rw [hi] at g2
    refine ⟨.int .u8 (s[i.toNat]'h1).toNat, ?_, .int _ _⟩
    simp [execOp, g1.str_inv, Instr.index, g2.int_inv, asIntOf, run_under ht, h0, h1]) hK
end
end Go.AH
namespace Go.AH
variable [Globs]
set_option linter.unusedSectionVars false
open Go
@[simp] theorem add_off (b o k : Nat) : (⟨b, o, none⟩ : Addr).add k = ⟨b, o + k, none⟩ := by
  unfold Addr.add
  split
  · rename_i h; simp [h]
  · rfl
def Holds (w : World) (μ : Nat → Nat) (H : Heap) (b o : Nat) (cells : List AV) : Prop :=
  ∀ (j : Nat) (x : AV), cells[j]? = some x → ∃ y, w.cell? ⟨b, o + j, none⟩ = some y ∧ VR w μ H x y
theorem HR.holds {w : World} {μ : Nat → Nat} {H : Heap} (h : HR w μ H) {id ver : Nat} {cells : List AV} (hid : H id = some (.row ver cells)) : Holds w μ H (μ id) 0 cells := by
  obtain ⟨cs, T, h1, h2, h3⟩ := h.rows id ver cells hid
  intro j x hx
  obtain ⟨y, g1, g2⟩ := h3 j x hx
  exact ⟨y, by simp [World.cell?, h1, g1], g2⟩
section
variable {P : Program}
theorem run_loadCellsFrom {w : World} {b o : Nat} {ys : Nat → Value} : ∀ (m i : Nat) (acc : Array Value), (∀ j, i ≤ j → j < i + m → w.cell? ⟨b, o + j, none⟩ = some (ys j)) →
    (loadCellsFrom ⟨b, o, none⟩ i m acc).run P w = .ok (acc ++ ((List.range' i m).map ys).toArray) w
  | 0, i, acc, _ => by simp [loadCellsFrom]
  | m + 1, i, acc, h => by
    have h0 := h i (Nat.le_refl _) (by omega)
    rw [loadCellsFrom]
    simp only [add_off, Sem.run_bind, run_load, h0, Result.andThen_ok]
    rw [run_loadCellsFrom m (i + 1) (acc.push (ys i)) (fun j h1 h2 => h j (by omega) (by omega))]
    simp [List.range'_succ]
theorem run_loadVar {t : TypeId} {agg : Bool} {size off b o : Nat} {w : World} {μ : Nat → Nat} {H : Heap} {cells : List AV} {v : AV} (ht : TY P t agg size) (hh : Holds w μ H b o cells)
    (hv : loadv agg size off cells = some v) : ∃ u, (loadVar t ⟨b, o + off, none⟩).run P w = .ok u w ∧ VR w μ H v u := by
  cases agg with
  | true =>
    simp only [loadv] at hv
    cases hb : Nat.ble (off + size) cells.length with
    | false => rw [hb] at hv; cases hv
    | true =>
      rw [hb] at hv
      simp only [Option.some.injEq] at hv
      subst hv
      have hb' := Nat.le_of_ble_eq_true hb
      have hex : ∀ j, j < size → ∃ y, w.cell? ⟨b, o + off + j, none⟩ = some y ∧ ∀ x, ((cells.drop off).take size)[j]? = some x → VR w μ H x y := by
        intro j hj
        have hlt : off + j < cells.length := by omega
        obtain ⟨y, h1, h2⟩ := hh (off + j) _ (List.getElem?_eq_getElem hlt)
        refine ⟨y, by rw [Nat.add_assoc]; exact h1, fun x hx => ?_⟩
        simp only [List.getElem?_take, hj, if_true, List.getElem?_drop, List.getElem?_eq_getElem hlt, Option.some.injEq] at hx
        rw [← hx]; exact h2
      let ys : Nat → Value := fun j => if h : j < size then Classical.choose (hex j h) else undef
      have hys : ∀ j, j < size → w.cell? ⟨b, o + off + j, none⟩ = some (ys j) := fun j hj => by
        simp only [ys, dif_pos hj]; exact (Classical.choose_spec (hex j hj)).1
      refine ⟨.agg ((List.range' 0 size).map ys).toArray, ?_, .agg ?_ ?_⟩
      · simp only [loadVar, Sem.run_bind, ht.run, Result.andThen_ok, if_true, ht.size.run, loadCells]
        rw [run_loadCellsFrom size 0 #[] (fun j _ h => hys j (by omega))]
        simp
      · simp; omega
      · intro j x y hx hy
        have hj : j < size := by
          rcases Nat.lt_or_ge j size with h' | h'
          · exact h'
          · rw [List.getElem?_eq_none (by simp; omega)] at hx; cases hx
        have hyj : y = ys j := by
          simp [hj] at hy
          exact hy.symm
        rw [hyj]
        simp only [ys, dif_pos hj]
        exact (Classical.choose_spec (hex j hj)).2 x hx
  | false =>
    simp only [loadv] at hv
    obtain ⟨y, h1, h2⟩ := hh off v hv
    refine ⟨y, ?_, h2⟩
    simp [loadVar, ht.run, h1]
end
section
variable {P : Program} {n : Nat} {f : Nat → AV} {H : Heap} {K : (Nat → AV) → Heap → Prop} {ty : TypeId} {pos : String} {after : Array Edge} {guard : Option (Nat × Bool)} {d : Nat}
theorem AOp.load {t : TypeId} {x : Operand} {agg : Bool} {size id ver off : Nat} {cells : List AV} (v : AV) (hn : Nat.ble (d + 1) n = true) (hx : ev f x = .ptr id ver off) (ht : TY P t agg size)
    (hid : H id = some (.row ver cells)) (hv : loadv agg size off cells = some v) (hK : K (upd f d v) H) : AOp P n ⟨some d, .load t x, ty, pos, after, guard⟩ K f H :=
  .pureV v hn (fun μ a w hs => by
    have h1 := hs.ev x; rw [hx] at h1
    generalize hz : a.eval x = z at h1
    cases h1 with
    | ptr hk ha =>
      have := ha ⟨cells, hid⟩
      subst this
      obtain ⟨u, hu, hr⟩ := run_loadVar (off := off) ht (hs.hr.holds hid) hv
      simp only [Nat.zero_add] at hu
      exact ⟨u, by simp [execOp, hz, Instr.loadAt, Instr.sureAddr, hu], hr⟩) hK
theorem AOp.loadF {t : TypeId} {x : Operand} {agg : Bool} {size off : Nat} {cells : List AV} (v : AV) (hn : Nat.ble (d + 1) n = true) (hx : ev f x = .fptr cells off) (ht : TY P t agg size)
    (hv : loadv agg size off cells = some v) (hK : K (upd f d v) H) : AOp P n ⟨some d, .load t x, ty, pos, after, guard⟩ K f H :=
  .pureV v hn (fun μ a w hs => by
    have h1 := hs.ev x; rw [hx] at h1
    generalize hz : a.eval x = z at h1
    cases h1 with
    | fptr hb hc hv' =>
      obtain ⟨u, hu, hr⟩ := run_loadVar (off := off) ht (fun j x hx => ⟨_, hc j x hx, hv' j x hx⟩) hv
      exact ⟨u, by simp [execOp, hz, Instr.loadAt, Instr.sureAddr, hu], hr⟩) hK
def updN (μ : Nat → Nat) (id b : Nat) : Nat → Nat := fun i => if i = id then b else μ i
theorem newblock {w : World} {μ : Nat → Nat} (hr : HR w μ H) {id : Nat} (hid : H id = none ∨ H id = some .res) {o : Obj} {B : AB} :
    Ext w μ H { w with heap := w.heap.push o } (updN μ id w.heap.size) (updH H id B) := by
  have hne : ∀ (id' v : Nat), Known H id' v → id' ≠ id := by
    rintro id' v ⟨B', v', h1, h2, _⟩ rfl
    rcases hid with h | h
    · rw [h] at h1; cases h1
    · rw [h] at h1; cases h1; cases h2
  have hlt : ∀ i B', H i = some B' → B'.live = true → μ i < w.heap.size := by
    intro i B' hi hl
    cases B' with
    | res => cases hl
    | dead => cases hl
    | row v c =>
      obtain ⟨cs, T, h1, _⟩ := hr.rows i v c hi
      rcases Nat.lt_or_ge (μ i) w.heap.size with h | h
      · exact h
      · rw [Array.getElem?_eq_none h] at h1; cases h1
    | map es =>
      obtain ⟨_, en, c, h1, _⟩ := hr.maps i es hi
      rcases Nat.lt_or_ge (μ i) w.heap.size with h | h
      · exact h
      · rw [Array.getElem?_eq_none h] at h1; cases h1
    | iter it =>
      have h1 := (hr.iters i it hi).1
      rcases Nat.lt_or_ge (μ i) w.heap.size with h | h
      · exact h
      · rw [Array.getElem?_eq_none h] at h1; cases h1
  refine ⟨by simp, fun b hb => ⟨?_, ?_⟩, fun id' v hk => ?_, fun id' v hk ha => ?_, fun id' hm => ?_, fun id' hm => ?_, ⟨rfl, rfl, rfl, fun _ => Nat.le_refl _⟩⟩
  · rw [Array.getElem?_push]
    split
    · rename_i h; exact absurd h (Nat.ne_of_lt hb.1)
    · rfl
  · rintro ⟨i, B', h1, h2, h3⟩
    rw [updH_eq] at h1
    unfold updN at h3
    by_cases hi : i = id
    · simp only [hi, if_true] at h3; exact absurd h3.symm (Nat.ne_of_lt hb.1)
    · simp only [hi, if_false] at h1 h3
      exact hb.2 ⟨i, B', h1, h2, h3⟩
  · have hi := hne id' v hk
    obtain ⟨B', v', h1, h2⟩ := hk
    exact ⟨B', v', by rw [updH_eq, if_neg hi]; exact h1, h2⟩
  · have hi := hne id' v hk
    obtain ⟨c, hc⟩ := ha
    rw [updH_eq, if_neg hi] at hc
    refine ⟨⟨c, hc⟩, by simp [updN, hi], ?_⟩
    have := hlt id' _ hc rfl
    unfold bsize
    rw [Array.getElem?_push, if_neg (Nat.ne_of_lt this)]
  · obtain ⟨es, hm⟩ := hm
    have hi : id' ≠ id := by rintro rfl; rcases hid with h | h <;> (rw [h] at hm; cases hm)
    exact ⟨⟨es, by rw [updH_eq, if_neg hi]; exact hm⟩, by simp [updN, hi]⟩
  · obtain ⟨it, hm⟩ := hm
    have hi : id' ≠ id := by rintro rfl; rcases hid with h | h <;> (rw [h] at hm; cases hm)
    exact ⟨⟨it, by rw [updH_eq, if_neg hi]; exact hm⟩, by simp [updN, hi]⟩
theorem HR.lt {w : World} {μ : Nat → Nat} (hr : HR w μ H) {i : Nat} {B' : AB} (hi : H i = some B') (hl : B'.live = true) : μ i < w.heap.size := by
  cases B' with
  | res => cases hl
  | dead => cases hl
  | row v c =>
    obtain ⟨cs, T, h1, _⟩ := hr.rows i v c hi
    rcases Nat.lt_or_ge (μ i) w.heap.size with h | h
    · exact h
    · rw [Array.getElem?_eq_none h] at h1; cases h1
  | map es =>
    obtain ⟨_, en, c, h1, _⟩ := hr.maps i es hi
    rcases Nat.lt_or_ge (μ i) w.heap.size with h | h
    · exact h
    · rw [Array.getElem?_eq_none h] at h1; cases h1
  | iter it =>
    have h1 := (hr.iters i it hi).1
    rcases Nat.lt_or_ge (μ i) w.heap.size with h | h
    · exact h
    · rw [Array.getElem?_eq_none h] at h1; cases h1
theorem HR.change {w w' : World} {μ μ' : Nat → Nat} {H' : Heap} (hr : HR w μ H) (he : Ext w μ H w' μ' H') {id : Nat} {B : AB} (hH : ∀ i, H' i = if i = id then some B else H i)
    (hμ : ∀ i, i ≠ id → μ' i = μ i)
    (hnew : B.live = true → ∀ i C, i ≠ id → H i = some C → C.live = true → μ' id ≠ μ i)
    (hoth : ∀ i C, i ≠ id → H i = some C → C.live = true → w'.heap[μ i]? = w.heap[μ i]?)
    (hrow : ∀ ver cells, B = .row ver cells → ∃ cs T, w'.heap[μ' id]? = some (.cells cs T (0, 0)) ∧ cells.length ≤ cs.size ∧ ∀ (j : Nat) (x : AV), cells[j]? = some x → ∃ y, cs[j]? = some y ∧ VR w' μ' H' x y)
    (hmap : ∀ es, B = .map es → es.Pairwise (fun a b => a.1 ≠ b.1) ∧ ∃ (ents : Array MapEntry) (clock : Nat), w'.heap[μ' id]? = some (.map ents clock) ∧ es.length = ents.size ∧
      ∀ (j : Nat) (x : AV × AV) (e : MapEntry), es[j]? = some x → ents[j]? = some e → VR w' μ' H' x.1 e.key ∧ VR w' μ' H' x.2 e.val)
    (hborn : ∀ es (ents : Array MapEntry) (clock : Nat), B = .map es → w'.heap[μ' id]? = some (.map ents clock) → clock = ents.size ∧ ∀ (j : Nat) (e : MapEntry), ents[j]? = some e → e.born = j)
    (hit : ∀ it, B = .iter it → w'.heap[μ' id]? = some (it.obj μ') ∧ ∀ m n seen, it = .map m n seen → IsMap H' m) : HR w' μ' H' where
  rows := fun i ver cells hi => by
    rw [hH] at hi
    by_cases h : i = id
    · subst h; rw [if_pos rfl] at hi; cases hi; exact hrow ver cells rfl
    · rw [if_neg h] at hi
      obtain ⟨cs, T, h1, h2, h3⟩ := hr.rows i ver cells hi
      refine ⟨cs, T, by rw [hμ i h, hoth i _ h hi rfl]; exact h1, h2, fun j x hx => ?_⟩
      obtain ⟨y, g1, g2⟩ := h3 j x hx
      exact ⟨y, g1, g2.ext he⟩
  maps := fun i es hi => by
    rw [hH] at hi
    by_cases h : i = id
    · subst h; rw [if_pos rfl] at hi; cases hi; exact hmap es rfl
    · rw [if_neg h] at hi
      obtain ⟨h0, en, c, h1, h2, h3⟩ := hr.maps i es hi
      refine ⟨h0, en, c, by rw [hμ i h, hoth i _ h hi rfl]; exact h1, h2, fun j x e hx hy => ?_⟩
      exact ⟨(h3 j x e hx hy).1.ext he, (h3 j x e hx hy).2.ext he⟩
  born := fun i es ents clock hi hw => by
    rw [hH] at hi
    by_cases h : i = id
    · subst h; rw [if_pos rfl] at hi; cases hi; exact hborn es ents clock rfl hw
    · rw [if_neg h] at hi
      rw [hμ i h, hoth i _ h hi rfl] at hw
      exact hr.born i es ents clock hi hw
  iters := fun i it hi => by
    rw [hH] at hi
    by_cases h : i = id
    · subst h; rw [if_pos rfl] at hi; cases hi; exact hit it rfl
    · rw [if_neg h] at hi
      obtain ⟨h1, h2⟩ := hr.iters i it hi
      rw [hμ i h, hoth i _ h hi rfl]
      refine ⟨?_, fun m n seen e => (he.maps m (h2 m n seen e)).1⟩
      rw [h1]
      cases it with
      | str s p => rfl
      | map m n seen => show some (Obj.mapIter (some (μ m)) n seen.toArray n) = some (Obj.mapIter (some (μ' m)) n seen.toArray n); rw [(he.maps m (h2 m n seen rfl)).2]
  inj := fun i j C D hi hj hC hD hij => by
    rw [hH] at hi hj
    by_cases h : i = id
    · subst h
      rw [if_pos rfl] at hi; cases hi
      by_cases g : j = i
      · exact g.symm
      · rw [if_neg g] at hj
        rw [hμ j g] at hij
        exact absurd hij (hnew hC j D g hj hD)
    · rw [if_neg h] at hi
      by_cases g : j = id
      · subst g
        rw [if_pos rfl] at hj; cases hj
        rw [hμ i h] at hij
        exact absurd hij.symm (hnew hD i C h hi hC)
      · rw [if_neg g] at hj
        rw [hμ i h, hμ j g] at hij
        exact hr.inj i j C D hi hj hC hD hij
  glob := hr.glob.ext he
  fin := by
    obtain ⟨N, hN⟩ := hr.fin
    refine ⟨max N (id + 1), fun i hi => ?_⟩
    rw [hH, if_neg (by omega)]
    exact hN i (by omega)
theorem newrow {w : World} {μ : Nat → Nat} (hr : HR w μ H) {id : Nat} (hid : H id = none ∨ H id = some .res) {cs : Array Value} {T : TypeId} {cells : List AV} (hl : cells.length ≤ cs.size)
    (hc : ∀ (j : Nat) (x : AV), cells[j]? = some x → ∃ y, cs[j]? = some y ∧ VR w μ H x y) :
    HR { w with heap := w.heap.push (.cells cs T) } (updN μ id w.heap.size) (updH H id (.row 0 cells)) := by
  have he := newblock hr hid (o := .cells cs T) (B := .row 0 cells)
  refine hr.change he (fun i => updH_eq _ _ _ _) (fun i hi => by simp [updN, hi]) ?_ ?_ ?_ ?_ ?_ ?_
  · intro _ i C _ hi hC
    have := hr.lt hi hC
    simp only [updN, if_true]; omega
  · intro i C _ hi hC
    have := hr.lt hi hC
    rw [Array.getElem?_push, if_neg (Nat.ne_of_lt this)]
  · intro ver c hB
    cases hB
    refine ⟨cs, T, by simp [updN], hl, fun j x hx => ?_⟩
    obtain ⟨y, g1, g2⟩ := hc j x hx
    exact ⟨y, g1, g2.ext he⟩
  · intro es h; cases h
  · intro es _ _ h; cases h
  · intro it h; cases h
theorem AOp.value {op : Op} (x : AV) (H' : Heap) (hn : Nat.ble (d + 1) n = true)
    (h : ∀ μ a w, SR n w μ f H a → ∃ v w' μ', (execOp a.eval ⟨some d, op, ty, pos, after, guard⟩).run P w = .ok (.value v) w' ∧ Ext w μ H w' μ' H' ∧ HR w' μ' H' ∧ VR w' μ' H' x v) (hK : K (upd f d x) H') :
    AOp P n ⟨some d, op, ty, pos, after, guard⟩ K f H := by
  intro μ a w hs Q
  obtain ⟨v, w', μ', h1, h2, h3, h4⟩ := h μ a w hs
  unfold Oper.wp
  rw [h1]
  exact ⟨μ', _, H', hs.put h2 h3 hn h4, h2, hK⟩
theorem AOp.alloc_at {t : TypeId} {Z : List AV} (id : Nat) (hid : H id = none ∨ H id = some .res) (hn : Nat.ble (d + 1) n = true) (ht : TZero P t Z)
    (hK : K (upd f d (.ptr id 0 0)) (updH H id (.row 0 Z))) : AOp P n ⟨some d, .alloc t, ty, pos, after, guard⟩ K f H :=
  .value _ _ hn (fun μ a w hs => by
    obtain ⟨i, z, t1, t2, t3⟩ := ht
    have hl : Z.length ≤ z.cells.size := by rw [← t3]; simp
    have hc : ∀ (j : Nat) (x : AV), Z[j]? = some x → ∃ y, z.cells[j]? = some y ∧ VR w μ H x y := fun j x hx => by
      rw [← t3] at hx
      simp only [List.getElem?_map, Array.getElem?_toList, Option.map_eq_some_iff] at hx
      obtain ⟨y, h1, h2⟩ := hx
      exact ⟨y, h1, h2 ▸ cst_VR w μ H y⟩
    refine ⟨.pointer (some ⟨w.heap.size, 0, none⟩), { w with heap := w.heap.push (.cells z.cells t) }, updN μ id w.heap.size, ?_, newblock hs.hr hid, newrow hs.hr hid hl hc, .ptr ⟨_, 0, by rw [updH_eq, if_pos rfl], rfl, Nat.le_refl _⟩ (fun _ => by simp [updN])⟩
    simp [execOp, Instr.alloc, zeroValue, run_info t1, t2, newVar, newRow]) hK
theorem AOp.fresh {o : Oper} (h : ∀ id, H id = none → AOp P n o K f H) : AOp P n o K f H := by
  intro μ a w hs
  obtain ⟨N, hN⟩ := hs.hr.fin
  exact h N (hN N (Nat.le_refl _)) μ a w hs
theorem updH_same (H : Heap) (id : Nat) (B : AB) : updH H id B id = some B := by rw [updH_eq, if_pos rfl]
theorem updH_ne (H : Heap) {id i : Nat} (B : AB) (h : i ≠ id) : updH H id B i = H i := by rw [updH_eq, if_neg h]
theorem AOp.alloc {t : TypeId} {Z : List AV} (hn : Nat.ble (d + 1) n = true) (ht : TZero P t Z)
    (hK : ∀ id H', H id = none → H' id = some (.row 0 Z) → (∀ i, i ≠ id → H' i = H i) → K (upd f d (.ptr id 0 0)) H') : AOp P n ⟨some d, .alloc t, ty, pos, after, guard⟩ K f H :=
  .fresh fun id hid => .alloc_at id (.inl hid) hn ht (hK id _ hid (updH_same _ _ _) fun _ h => updH_ne _ _ h)
theorem VR.cells {w : World} {μ : Nat → Nat} {x : AV} {v : Value} (h : VR w μ H x v) (hx : x.one = true ∨ ∃ cs, x = .agg cs) :
    x.cells.length = v.cells.size ∧ ∀ (j : Nat) (a : AV), x.cells[j]? = some a → ∃ y, v.cells[j]? = some y ∧ VR w μ H a y := by
  cases h with
  | agg hl h =>
    rename_i cs vs
    refine ⟨hl, fun j a ha => ?_⟩
    have hj : j < vs.size := by
      rcases Nat.lt_or_ge j cs.length with h' | h'
      · omega
      · simp only [AV.cells] at ha; rw [List.getElem?_eq_none h'] at ha; cases ha
    exact ⟨vs[j], Array.getElem?_eq_getElem hj, h j a _ ha (Array.getElem?_eq_getElem hj)⟩
  | undef => rcases hx with h | ⟨_, h⟩ <;> cases h
  | tup => rcases hx with h | ⟨_, h⟩ <;> cases h
  | _ =>
    refine ⟨rfl, fun j a ha => ?_⟩
    cases j with
    | zero => simp only [AV.cells, List.getElem?_cons_zero, Option.some.injEq] at ha; subst ha; exact ⟨_, rfl, by first | exact .iter ‹_› | (constructor <;> assumption)⟩
    | succ j => simp [AV.cells] at ha
def AV.plainB : AV → Bool
  | .undef | .tup _ => false
  | _ => true
theorem plainB_spec {x : AV} (h : x.plainB = true) : x.one = true ∨ ∃ cs, x = .agg cs := by
  cases x <;> simp_all [AV.plainB, AV.one]
theorem AOp.box_at {t : TypeId} {x : Operand} (v : AV) (id : Nat) (hid : H id = none ∨ H id = some .res) (hn : Nat.ble (d + 1) n = true) (hx : ev f x = v) (hp : v.plainB = true)
    (hK : K (upd f d (.ptr id 0 0)) (updH H id (.row 0 v.cells))) : AOp P n ⟨some d, .box t x, ty, pos, after, guard⟩ K f H :=
  .value _ _ hn (fun μ a w hs => by
    have h1 := hs.ev x; rw [hx] at h1
    obtain ⟨hl, hc⟩ := h1.cells (plainB_spec hp)
    refine ⟨.pointer (some ⟨w.heap.size, 0, none⟩), { w with heap := w.heap.push (.cells (a.eval x).cells t) }, updN μ id w.heap.size, ?_, newblock hs.hr hid, newrow hs.hr hid (Nat.le_of_eq hl) hc, .ptr ⟨_, 0, by rw [updH_eq, if_pos rfl], rfl, Nat.le_refl _⟩ (fun _ => by simp [updN])⟩
    simp [execOp, Instr.box, newVar, newRow]) hK
theorem AOp.box {t : TypeId} {x : Operand} (v : AV) (hn : Nat.ble (d + 1) n = true) (hx : ev f x = v) (hp : v.plainB = true)
    (hK : ∀ id H', H id = none → H' id = some (.row 0 v.cells) → (∀ i, i ≠ id → H' i = H i) → K (upd f d (.ptr id 0 0)) H') : AOp P n ⟨some d, .box t x, ty, pos, after, guard⟩ K f H :=
  .fresh fun id hid => .box_at v id (.inl hid) hn hx hp (hK id _ hid (updH_same _ _ _) fun _ h => updH_ne _ _ h)
def writeL (cells : List AV) (off : Nat) (vs : List AV) : List AV := cells.take off ++ vs ++ cells.drop (off + vs.length)
theorem writeL_len {cells vs : List AV} {off : Nat} (h : off + vs.length ≤ cells.length) : (writeL cells off vs).length = cells.length := by
  simp [writeL]; omega
theorem writeL_get {cells vs : List AV} {off : Nat} (h : off + vs.length ≤ cells.length) (j : Nat) :
    (writeL cells off vs)[j]? = if off ≤ j ∧ j < off + vs.length then vs[j - off]? else cells[j]? := by
  unfold writeL
  by_cases h1 : j < off
  · rw [List.getElem?_append_left (by simp <;> omega), List.getElem?_append_left (by simp <;> omega), List.getElem?_take, if_pos h1, if_neg (by omega)]
  · by_cases h2 : j < off + vs.length
    · rw [List.getElem?_append_left (by simp <;> omega), List.getElem?_append_right (by simp <;> omega), if_pos ⟨by omega, h2⟩]
      congr 1; simp only [List.length_take]; omega
    · rw [List.getElem?_append_right (by simp <;> omega), if_neg (by omega), List.getElem?_drop]
      rw [show off + vs.length + (j - (cells.take off ++ vs).length) = j by simp; omega]
theorem run_storeCells {b off : Nat} {T : TypeId} : ∀ (vs : List Value) (i : Nat) (w : World) (cs : Array Value), (∀ v ∈ vs, v.oneCell' = true) → w.heap[b]? = some (.cells cs T (0, 0)) → off + i + vs.length ≤ cs.size →
    ∃ w' cs', (storeCells ⟨b, off, none⟩ vs i).run P w = .ok () w' ∧ w'.heap[b]? = some (.cells cs' T (0, 0)) ∧ cs'.size = cs.size ∧ (∀ b', b' ≠ b → w'.heap[b']? = w.heap[b']?) ∧ w'.heap.size = w.heap.size ∧ Rest w w' ∧
      ∀ j, cs'[j]? = if off + i ≤ j ∧ j < off + i + vs.length then vs[j - (off + i)]? else cs[j]?
  | [], i, w, cs, _, hb, _ => ⟨w, cs, by simp [storeCells], hb, rfl, fun _ _ => rfl, rfl, .refl w, fun j => by rw [if_neg (by simp <;> omega)]⟩
  | v :: vs, i, w, cs, ho, hb, hl => by
    simp only [List.length_cons] at hl
    have hv := ho v List.mem_cons_self
    have hcell : w.cell? ⟨b, off + i, none⟩ = some cs[off + i] := by simp [World.cell?, hb, show off + i < cs.size by omega]
    have hfr : w.frozen? ⟨b, off + i, none⟩ = false := by simp [World.frozen?, hb]
    have hb1 : (w.setCell ⟨b, off + i, none⟩ v).heap[b]? = some (.cells (cs.setIfInBounds (off + i) v) T (0, 0)) := by
      simp [World.setCell, Array.getElem?_modify, hb]
    have ho1 : ∀ b', b' ≠ b → (w.setCell ⟨b, off + i, none⟩ v).heap[b']? = w.heap[b']? := fun b' h => by
      simp [World.setCell, Array.getElem?_modify, Ne.symm h]
    obtain ⟨w', cs', h1, h2, h3, h4, h5, hrest, h6⟩ := run_storeCells (T := T) (b := b) (off := off) vs (i + 1) (w.setCell ⟨b, off + i, none⟩ v) (cs.setIfInBounds (off + i) v) (fun u hu => ho u (List.mem_cons_of_mem _ hu)) hb1 (by rw [Array.size_setIfInBounds]; omega)
    refine ⟨w', cs', ?_, h2, by simpa using h3, fun b' h => (h4 b' h).trans (ho1 b' h), by simpa using h5, hrest, fun j => ?_⟩
    · rw [storeCells]
      simp only [add_off, Sem.run_bind, run_store P w _ v _ hv, hcell, hfr, Bool.false_eq_true, if_false, Result.andThen_ok]
      exact h1
    · rw [h6 j]
      by_cases hj : off + (i + 1) ≤ j ∧ j < off + (i + 1) + vs.length
      · rw [if_pos hj, if_pos ⟨by omega, by simp; omega⟩]
        rw [show j - (off + i) = (j - (off + (i + 1))) + 1 by omega]; rfl
      · rw [if_neg hj]
        by_cases he : j = off + i
        · subst he
          rw [if_pos ⟨by omega, by simp⟩]
          simp [show off + i < cs.size by omega]
        · rw [if_neg (by simp; omega)]
          simp [Ne.symm he]
theorem setrow {w w' : World} {μ : Nat → Nat} (hrest : Rest w w') (hr : HR w μ H) {id ver ver' : Nat} {cells cells' : List AV} (hver : ver ≤ ver') (hid : H id = some (.row ver cells)) {cs cs' : Array Value} {T : TypeId} (hold : w.heap[μ id]? = some (.cells cs T (0, 0)))
    (hb : w'.heap[μ id]? = some (.cells cs' T (0, 0))) (hsz : cs'.size = cs.size) (hoth : ∀ b, b ≠ μ id → w'.heap[b]? = w.heap[b]?) (hsize : w'.heap.size = w.heap.size) (hlen : cells'.length ≤ cs'.size)
    (hc : ∀ (j : Nat) (x : AV), cells'[j]? = some x → ∃ y, cs'[j]? = some y ∧ VR w μ H x y) :
    Ext w μ H w' μ (updH H id (.row ver' cells')) ∧ HR w' μ (updH H id (.row ver' cells')) := by
  have he : Ext w μ H w' μ (updH H id (.row ver' cells')) := by
    refine ⟨by omega, fun b h => ⟨?_, ?_⟩, fun i v hk => ?_, fun i v hk ha => ?_, fun i hm => ?_, fun i hm => ?_, hrest⟩
    · exact hoth b fun e => h.2 ⟨id, _, hid, rfl, e.symm⟩
    · rintro ⟨i, B, h1, h2, h3⟩
      rw [updH_eq] at h1
      by_cases g : i = id
      · subst g; exact h.2 ⟨i, _, hid, rfl, h3⟩
      · rw [if_neg g] at h1; exact h.2 ⟨i, B, h1, h2, h3⟩
    · obtain ⟨B, v', h1, h2, h3⟩ := hk
      by_cases g : i = id
      · subst g
        rw [hid] at h1; cases h1
        cases h2
        exact ⟨_, ver', by rw [updH_eq, if_pos rfl], rfl, by omega⟩
      · exact ⟨B, v', by rw [updH_eq, if_neg g]; exact h1, h2, h3⟩
    · obtain ⟨c, ha⟩ := ha
      rw [updH_eq] at ha
      by_cases g : i = id
      · subst g
        rw [if_pos rfl] at ha
        cases ha
        obtain ⟨B, v', h1, h2, h3⟩ := hk
        rw [hid] at h1; cases h1
        cases h2
        have : ver' = ver := by omega
        subst this
        exact ⟨⟨cells, hid⟩, rfl, by simp [bsize, hb, hold, osize, hsz]⟩
      · rw [if_neg g] at ha
        refine ⟨⟨c, ha⟩, rfl, ?_⟩
        have hne : μ i ≠ μ id := fun e => g (hr.inj i id _ _ ha hid rfl rfl e)
        simp [bsize, hoth _ hne]
    · obtain ⟨es, hm⟩ := hm
      have g : i ≠ id := by rintro rfl; rw [hid] at hm; cases hm
      exact ⟨⟨es, by rw [updH_eq, if_neg g]; exact hm⟩, rfl⟩
    · obtain ⟨it, hm⟩ := hm
      have g : i ≠ id := by rintro rfl; rw [hid] at hm; cases hm
      exact ⟨⟨it, by rw [updH_eq, if_neg g]; exact hm⟩, rfl⟩
  refine ⟨he, hr.change he (fun i => updH_eq _ _ _ _) (fun _ _ => rfl) ?_ ?_ ?_ ?_ ?_ ?_⟩
  · intro _ i C g hi hC e
    exact g (hr.inj i id C _ hi hid hC rfl e.symm)
  · intro i C g hi hC
    exact hoth _ fun e => g (hr.inj i id C _ hi hid hC rfl e)
  · intro v c hB
    cases hB
    refine ⟨cs', T, hb, hlen, fun j x hx => ?_⟩
    obtain ⟨y, g1, g2⟩ := hc j x hx
    exact ⟨y, g1, g2.ext he⟩
  · intro es h; cases h
  · intro es _ _ h; cases h
  · intro it h; cases h
theorem AOp.unit {op : Op} {dst : Option Tmp} (H' : Heap) (hdst : dst = none)
    (h : ∀ μ a w, SR n w μ f H a → ∃ w' μ', (execOp a.eval ⟨dst, op, ty, pos, after, guard⟩).run P w = .ok .skip w' ∧ Ext w μ H w' μ' H' ∧ HR w' μ' H') (hK : K f H') :
    AOp P n ⟨dst, op, ty, pos, after, guard⟩ K f H := by
  subst hdst
  intro μ a w hs Q
  obtain ⟨w', μ', h1, h2, h3⟩ := h μ a w hs
  unfold Oper.wp
  rw [h1]
  exact ⟨μ', _, H', hs.stay h2 h3, h2, hK⟩
theorem AOp.store {t : TypeId} {x y : Operand} {size id ver off : Nat} {cells : List AV} (v : AV) (hx : ev f x = .ptr id ver off) (hy : ev f y = v) (ht : TSize P t size) (hid : H id = some (.row ver cells))
    (hone : v.cells.all AV.one = true) (hsz : v.cells.length = size) (hle : Nat.ble (off + size) cells.length = true) (hK : K f (updH H id (.row ver (writeL cells off v.cells)))) :
    AOp P n ⟨none, .store t x y, ty, pos, after, guard⟩ K f H :=
  .unit _ rfl (fun μ a w hs => by
    have h1 := hs.ev x; rw [hx] at h1
    have h2 := hs.ev y; rw [hy] at h2
    have hle' := Nat.le_of_ble_eq_true hle
    have hp : v.one = true ∨ ∃ cs, v = .agg cs := by
      cases v <;> simp_all [AV.one, AV.cells]
    obtain ⟨hl, hc⟩ := h2.cells hp
    generalize hz : a.eval x = z at h1
    cases h1 with
    | ptr hk ha =>
      have := ha ⟨cells, hid⟩
      subst this
      obtain ⟨cs, T, b1, b2, b3⟩ := hs.hr.rows id ver cells hid
      have hones : ∀ u ∈ (a.eval y).cells.toList, u.oneCell' = true := by
        intro u hu
        obtain ⟨j, hj, rfl⟩ := List.mem_iff_getElem.1 hu
        have hj' : j < v.cells.length := by rw [hl]; simpa using hj
        obtain ⟨u', g1, g2⟩ := hc j _ (List.getElem?_eq_getElem hj')
        have : u' = (a.eval y).cells.toList[j] := by
          have hj2 : j < (a.eval y).cells.size := by simpa using hj
          rw [Array.getElem?_eq_getElem hj2] at g1
          simp at g1 ⊢; exact g1.symm
        rw [← this]
        exact g2.one (List.all_eq_true.1 hone _ (List.getElem_mem hj'))
      obtain ⟨w', cs', r1, r2, r3, r4, r5, hrest, r6⟩ := run_storeCells (P := P) (b := μ id) (off := off) (T := T) (a.eval y).cells.toList 0 w cs hones b1 (by simp; omega)
      have hlenv : (a.eval y).cells.size = v.cells.length := hl.symm
      have hset := setrow (w' := w') (cells' := writeL cells off v.cells) hrest hs.hr (Nat.le_refl ver) hid b1 r2 r3 r4 r5 (by rw [writeL_len (by omega)]; omega) (fun j x hx => by
        rw [writeL_get (by omega)] at hx
        rw [r6 j]
        by_cases hj : off ≤ j ∧ j < off + v.cells.length
        · rw [if_pos hj] at hx
          rw [if_pos (by simp; omega)]
          obtain ⟨y', g1, g2⟩ := hc _ x hx
          exact ⟨y', by simpa using g1, g2⟩
        · rw [if_neg hj] at hx
          rw [if_neg (by simp; omega)]
          exact b3 j x hx)
      refine ⟨w', μ, ?_, hset.1, hset.2⟩
      have hszr : (a.eval y).cells.size = size := by omega
      simp [execOp, hz, Instr.storeAt, Instr.sureAddr, storeVar, ht.run, hszr, r1]) hK
end
end Go.AH
namespace Go.AH
variable [Globs]
set_option linter.unusedSectionVars false
open Go
def TZn (P : Program) (t : TypeId) (size : Nat) : Prop := ∃ i z, P.info? t = some i ∧ i.zero = some z ∧ i.size = size ∧ z.cells.size = size
def TBytes (P : Program) (t : TypeId) (m : Nat) : Prop := ∃ i, P.info? t = some i ∧ i.bytes ≤ m
def CR (w : World) (μ : Nat → Nat) (H : Heap) (xs : List AV) (vs : Array Value) : Prop :=
  xs.length = vs.size ∧ ∀ (j : Nat) (x : AV), xs[j]? = some x → ∃ y, vs[j]? = some y ∧ VR w μ H x y
theorem foldl_set (off : Nat) : ∀ (l : List Value) (k : Nat) (cs : Array Value), off + k + l.length ≤ cs.size →
    ((l.zipIdx k).foldl (fun cs (c, j) => cs.setIfInBounds (off + j) c) cs).size = cs.size ∧
    ∀ j, ((l.zipIdx k).foldl (fun cs (c, j) => cs.setIfInBounds (off + j) c) cs)[j]? = if off + k ≤ j ∧ j < off + k + l.length then l[j - (off + k)]? else cs[j]?
  | [], k, cs, _ => ⟨rfl, fun j => by rw [if_neg (by simp <;> omega)]; rfl⟩
  | v :: l, k, cs, h => by
    simp only [List.length_cons] at h
    simp only [List.zipIdx_cons, List.foldl_cons]
    obtain ⟨h1, h2⟩ := foldl_set off l (k + 1) (cs.setIfInBounds (off + k) v) (by rw [Array.size_setIfInBounds]; omega)
    refine ⟨by rw [h1, Array.size_setIfInBounds], fun j => ?_⟩
    rw [h2 j]
    by_cases hj : off + (k + 1) ≤ j ∧ j < off + (k + 1) + l.length
    · rw [if_pos hj, if_pos ⟨by omega, by simp only [List.length_cons]; omega⟩, show j - (off + k) = (j - (off + (k + 1))) + 1 by omega]; rfl
    · rw [if_neg hj]
      by_cases he : j = off + k
      · subst he
        rw [if_pos ⟨by omega, by simp⟩]
        simp [show off + k < cs.size by omega]
      · rw [if_neg (by simp only [List.length_cons]; omega)]
        simp [Ne.symm he]
def fillA (places : Nat → Option (Nat × Nat)) (cells : List AV) : List (Nat × AV) → Option (List AV)
  | [] => some cells
  | (i, v) :: rest =>
    match places i with
    | none => none
    | some (off, size) =>
      match v.plainB && Nat.beq v.cells.length size && Nat.ble (off + size) cells.length with
      | true => fillA places (writeL cells off v.cells) rest
      | false => none
theorem fill_rel {w : World} {μ : Nat → Nat} {H : Heap} {pl : Nat → Option (Nat × Nat)} : ∀ (ps : List (Nat × AV)) (qs : List (Nat × Value)) (cells cells' : List AV) (cs : Array Value),
    ps.length = qs.length → (∀ (j : Nat) p q, ps[j]? = some p → qs[j]? = some q → p.1 = q.1 ∧ VR w μ H p.2 q.2) → CR w μ H cells cs → fillA pl cells ps = some cells' →
    ∃ cs', Instr.fill pl cs qs = some cs' ∧ CR w μ H cells' cs'
  | [], [], cells, cells', cs, _, _, hc, h => by
    simp only [fillA, Option.some.injEq] at h
    exact ⟨cs, rfl, h ▸ hc⟩
  | [], _ :: _, _, _, _, hl, _, _, _ => by simp at hl
  | _ :: _, [], _, _, _, hl, _, _, _ => by simp at hl
  | (i, v) :: ps, (i', u) :: qs, cells, cells', cs, hl, hv, hc, h => by
    obtain ⟨rfl, hvu⟩ := hv 0 _ _ rfl rfl
    rw [fillA] at h
    rw [Instr.fill]
    dsimp only at h hvu
    cases hp : pl i with
    | none => rw [hp] at h; cases h
    | some os =>
      obtain ⟨off, size⟩ := os
      rw [hp] at h
      dsimp only at h ⊢
      cases hb : (v.plainB && Nat.beq v.cells.length size && Nat.ble (off + size) cells.length) with
      | false => rw [hb] at h; cases h
      | true =>
        rw [hb] at h
        dsimp only at h
        simp only [Bool.and_eq_true] at hb
        obtain ⟨⟨hb1, hb2⟩, hb3⟩ := hb
        have hb2 := Nat.eq_of_beq_eq_true hb2
        have hb3 := Nat.le_of_ble_eq_true hb3
        obtain ⟨g1, g2⟩ := hvu.cells (plainB_spec hb1)
        have hsz : u.cells.size = size := by omega
        have hle : off + size ≤ cs.size := by have := hc.1; omega
        rw [if_neg (by simp [hsz]; omega)]
        have hf := foldl_set off u.cells.toList 0 cs (by simp; omega)
        have hz : u.cells.zipIdx.foldl (fun cs (c, j) => cs.setIfInBounds (off + j) c) cs = (u.cells.toList.zipIdx 0).foldl (fun cs (c, j) => cs.setIfInBounds (off + j) c) cs := by
          rw [← Array.foldl_toList, Array.toList_zipIdx]
        refine fill_rel ps qs (writeL cells off v.cells) cells' _ (by simpa using hl) (fun j p q hp hq => hv (j + 1) p q hp hq) ?_ h
        rw [hz]
        refine ⟨by rw [hf.1, writeL_len (by omega)]; exact hc.1, fun j x hx => ?_⟩
        rw [hf.2 j]
        rw [writeL_get (by omega)] at hx
        by_cases hj : off ≤ j ∧ j < off + v.cells.length
        · rw [if_pos hj] at hx
          rw [if_pos (by simp; omega)]
          obtain ⟨y, e1, e2⟩ := g2 _ x hx
          exact ⟨y, by simpa using e1, e2⟩
        · rw [if_neg hj] at hx
          rw [if_neg (by simp; omega)]
          exact hc.2 j x hx
def TPlaces (P : Program) (t : TypeId) (places : Nat → Option (Nat × Nat)) : Prop :=
  (∃ fs, P.underlying t = some (.struct fs) ∧ ∀ j, places j = none ∧ fs.size ≤ j ∨ ∃ fl size, fs[j]? = some fl ∧ TSize P fl.type size ∧ places j = some (fl.offset, size)) ∨
  (∃ len e es, P.underlying t = some (.array len e) ∧ TSize P e es ∧ ∀ j, places j = some (j * es, es))
def lookupL (l : List (Nat × Nat)) : Nat → Option (Nat × Nat) := fun j => l[j]?
section
variable {P : Program} {n : Nat} {f : Nat → AV} {H : Heap} {K : (Nat → AV) → Heap → Prop} {ty : TypeId} {pos : String} {after : Array Edge} {guard : Option (Nat × Bool)} {d : Nat}
theorem zero_rel {w : World} {μ : Nat → Nat} {t : TypeId} {Z : List AV} (ht : TZero P t Z) : ∃ i z, P.info? t = some i ∧ i.zero = some z ∧ CR w μ H Z z.cells := by
  obtain ⟨i, z, t1, t2, t3⟩ := ht
  refine ⟨i, z, t1, t2, by rw [← t3]; simp, fun j x hx => ?_⟩
  rw [← t3] at hx
  simp only [List.getElem?_map, Array.getElem?_toList, Option.map_eq_some_iff] at hx
  obtain ⟨y, h1, h2⟩ := hx
  exact ⟨y, h1, h2 ▸ cst_VR w μ H y⟩
theorem mapM_sizes {fs : List Field} {g : Field → Nat} (w : World) (h : ∀ f ∈ fs, TSize P f.type (g f)) : (fs.mapM (m := Sem) fun f => do pure (f.offset, ← sizeOf f.type)).run P w = .ok (fs.map fun f => (f.offset, g f)) w := by
  induction fs with
  | nil => rfl
  | cons x fs ih =>
    rw [List.mapM_cons]
    simp only [Sem.run_bind, (h x List.mem_cons_self).run, Result.andThen_ok, Sem.run_pure]
    rw [ih fun f hf => h f (List.mem_cons_of_mem _ hf)]
    rfl
theorem parts_rel {w : World} {μ : Nat → Nat} {a : Act} (hs : SR n w μ f H a) {parts : Array (Nat × Operand)} {ps : List (Nat × AV)} (hps : parts.toList.map (fun p => (p.1, ev f p.2)) = ps) :
    ps.length = (parts.map fun (i, x) => (i, a.eval x)).toList.length ∧ ∀ (j : Nat) p q, ps[j]? = some p → (parts.map fun (i, x) => (i, a.eval x)).toList[j]? = some q → p.1 = q.1 ∧ VR w μ H p.2 q.2 := by
  subst hps
  refine ⟨by simp, fun j p q hp hq => ?_⟩
  simp only [List.getElem?_map, Array.toList_map, Option.map_eq_some_iff] at hp hq
  obtain ⟨x, h1, rfl⟩ := hp
  obtain ⟨y, h2, rfl⟩ := hq
  rw [h1] at h2; cases h2
  exact ⟨rfl, hs.ev _⟩
theorem AOp.build {t : TypeId} {parts : Array (Nat × Operand)} {ps : List (Nat × AV)} {Z cells : List AV} {places : Nat → Option (Nat × Nat)} (hn : Nat.ble (d + 1) n = true) (ht : TZero P t Z) (hpl : TPlaces P t places)
    (hps : parts.toList.map (fun p => (p.1, ev f p.2)) = ps) (hf : fillA places Z ps = some cells) (hK : K (upd f d (.agg cells)) H) : AOp P n ⟨some d, .build t parts, ty, pos, after, guard⟩ K f H :=
  .pureV _ hn (fun μ a w hs => by
    obtain ⟨i, z, t1, t2, hz⟩ := zero_rel (w := w) (μ := μ) (H := H) ht
    obtain ⟨hl, hv⟩ := parts_rel hs hps
    obtain ⟨cs', h1, h2⟩ := fill_rel ps _ Z cells z.cells hl hv hz hf
    refine ⟨.agg cs', ?_, .agg h2.1 fun j x y hx hy => ?_⟩
    · rcases hpl with ⟨fs, u1, u2⟩ | ⟨len, e, es, u1, u2, u3⟩
      · have hg : ∀ fl ∈ fs.toList, TSize P fl.type (((P.info? fl.type).map (·.size)).getD 0) := by
          intro fl hfl
          obtain ⟨j, hj, rfl⟩ := List.mem_iff_getElem.1 hfl
          have hj' : j < fs.size := by simpa using hj
          rcases u2 j with ⟨_, h⟩ | ⟨fl, size, g1, g2, g3⟩
          · omega
          · rw [Array.getElem?_eq_getElem hj'] at g1
            simp only [Option.some.injEq] at g1
            subst g1
            obtain ⟨i', e1, e2⟩ := g2
            simp only [Array.getElem_toList]
            exact ⟨i', e1, by simp [e1]⟩
        have hm := mapM_sizes w hg
        have hplaces : (fun j => ((fs.toList.map fun fl => (fl.offset, ((P.info? fl.type).map (·.size)).getD 0)).toArray)[j]?) = places := by
          funext j
          rcases u2 j with ⟨h, hj⟩ | ⟨fl, size, g1, g2, g3⟩
          · rw [h]; simp [hj]
          · rw [g3]
            obtain ⟨i', e1, e2⟩ := g2
            simp [g1, e1, e2]
        simp only [execOp, Instr.build, Sem.run_bind, zeroValue, run_info t1, Result.andThen_ok, t2, Sem.run_pure, run_under u1]
        rw [Array.mapM_eq_mapM_toList]
        simp only [Sem.run_map, hm, Result.andThen_ok]
        rw [hplaces, h1]
        rfl
      · have hplaces : (fun i => some (i * es, es)) = places := funext fun j => (u3 j).symm
        simp only [execOp, Instr.build, Sem.run_bind, zeroValue, run_info t1, Result.andThen_ok, t2, Sem.run_pure, run_under u1, u2.run]
        rw [hplaces, h1]
        rfl
    · obtain ⟨y', g1, g2⟩ := h2.2 j x hx
      rw [g1] at hy; cases hy; exact g2) hK
def zeroRow (Z : List AV) (m : Nat) : List AV := (List.range m).map fun k => Z.getD (k % Z.length) .undef
theorem zeroRow_rel {w : World} {μ : Nat → Nat} {Z : List AV} {z : Array Value} (h : CR w μ H Z z) (m : Nat) : CR w μ H (zeroRow Z m) ((Array.range m).map (z[· % z.size]!)) := by
  refine ⟨by simp [zeroRow], fun j x hx => ?_⟩
  have hj : j < m := by
    rcases Nat.lt_or_ge j m with h' | h'
    · exact h'
    · rw [List.getElem?_eq_none (by simp [zeroRow]; omega)] at hx; cases hx
  simp only [zeroRow, List.getElem?_map, List.getElem?_range hj, Option.map_some, Option.some.injEq] at hx
  refine ⟨z[j % z.size]!, by simp [hj], ?_⟩
  subst hx
  rw [h.1]
  by_cases hz : z.size = 0
  · have : Z.length = 0 := by have := h.1; omega
    have hZ : Z = [] := List.eq_nil_of_length_eq_zero this
    subst hZ
    exact .undef _
  · have hlt : j % z.size < z.size := Nat.mod_lt _ (Nat.pos_of_ne_zero hz)
    have hlt' : j % z.size < Z.length := by have := h.1; omega
    obtain ⟨y, g1, g2⟩ := h.2 (j % z.size) Z[j % z.size] (List.getElem?_eq_getElem hlt')
    have e1 : Z.getD (j % z.size) .undef = Z[j % z.size] := by simp [hlt']
    have e2 : z[j % z.size]! = y := by
      rw [Array.getElem?_eq_getElem hlt] at g1
      simp only [Option.some.injEq] at g1
      rw [getElem!_pos z _ hlt, g1]
    rw [e1, e2]; exact g2
theorem AOp.buildSlice_at {t e : TypeId} {len es : Nat} {parts : Array (Nat × Operand)} {ps : List (Nat × AV)} {Z cells : List AV} (id : Nat) (hid : H id = none ∨ H id = some .res) (hn : Nat.ble (d + 1) n = true)
    (ht : P.underlying t = some (.slice e)) (hs' : TSize P e es) (hz : TZero P e Z) (hbig : Nat.ble (len * es) 16777216 = true)
    (hps : parts.toList.map (fun p => (p.1, ev f p.2)) = ps) (hf : fillA (fun i => some (i * es, es)) (zeroRow Z (len * es)) ps = some cells)
    (hK : K (upd f d (.slm id 0 es 0 len)) (updH H id (.row 0 cells))) : AOp P n ⟨some d, .buildSlice t len parts, ty, pos, after, guard⟩ K f H :=
  .value _ _ hn (fun μ a w hs => by
    obtain ⟨i, z, t1, t2, hz⟩ := zero_rel (w := w) (μ := μ) (H := H) hz
    obtain ⟨hl, hv⟩ := parts_rel hs hps
    have hbig' : ¬ len * es > 2 ^ 24 := by have := Nat.le_of_ble_eq_true hbig; omega
    let zz : Array Value := if len * es = 0 then #[] else z.cells
    have hzz : CR w μ H (zeroRow Z (len * es)) ((Array.range (len * es)).map (zz[· % zz.size]!)) := by
      by_cases h0 : len * es = 0
      · rw [h0]; exact ⟨by simp [zeroRow], fun j x hx => by simp [zeroRow] at hx⟩
      · simp only [zz, if_neg h0]; exact zeroRow_rel hz _
    obtain ⟨cs', h1, h2⟩ := fill_rel ps _ (zeroRow Z (len * es)) cells _ hl hv hzz hf
    refine ⟨.slice (some ⟨w.heap.size, 0, none⟩) len len, { w with heap := w.heap.push (.cells cs' e) }, updN μ id w.heap.size, ?_, newblock hs.hr hid, newrow hs.hr hid (Nat.le_of_eq h2.1) h2.2, ?_⟩
    · simp only [execOp, Instr.buildSlice, Sem.run_bind, run_under ht, Result.andThen_ok, hs'.run, if_neg hbig']
      by_cases h0 : len * es = 0
      · have hz0 : zz = #[] := by simp only [zz, if_pos h0]
        rw [hz0] at h1
        simp only [if_pos h0, Sem.run_bind, Sem.run_pure, Result.andThen_ok]
        rw [h1]; simp [newRow]
      · have hz0 : zz = z.cells := by simp only [zz, if_neg h0]
        rw [hz0] at h1
        simp only [if_neg h0, Sem.run_bind, zeroValue, run_info t1, t2, Sem.run_pure, Result.andThen_ok]
        rw [h1]; simp [newRow]
    · refine .slm ⟨_, 0, by rw [updH_eq, if_pos rfl], rfl, Nat.le_refl _⟩ (Nat.le_refl _) fun _ => ⟨by simp [updN], ?_⟩
      have hsz : cells.length = len * es := by
        have : ∀ (ps : List (Nat × AV)) (c c' : List AV), fillA (fun i => some (i * es, es)) c ps = some c' → c'.length = c.length := by
          intro ps
          induction ps with
          | nil => intro c c' h; simp only [fillA, Option.some.injEq] at h; rw [h]
          | cons p ps ih =>
            intro c c' h
            obtain ⟨i, v⟩ := p
            rw [fillA] at h
            dsimp only at h
            split at h
            · rename_i hb
              simp only [Bool.and_eq_true] at hb
              have hb2 := Nat.eq_of_beq_eq_true hb.1.2
              have hb3 := Nat.le_of_ble_eq_true hb.2
              rw [ih _ _ h, writeL_len (by omega)]
            · cases h
        rw [this _ _ _ hf]; simp [zeroRow]
      simp [updN, bsize, osize, ← h2.1, hsz]) hK
theorem AOp.buildSlice {t e : TypeId} {len es : Nat} {parts : Array (Nat × Operand)} {ps : List (Nat × AV)} {Z cells : List AV} (hn : Nat.ble (d + 1) n = true)
    (ht : P.underlying t = some (.slice e)) (hs' : TSize P e es) (hz : TZero P e Z) (hbig : Nat.ble (len * es) 16777216 = true)
    (hps : parts.toList.map (fun p => (p.1, ev f p.2)) = ps) (hf : fillA (fun i => some (i * es, es)) (zeroRow Z (len * es)) ps = some cells)
    (hK : ∀ id H', H id = none → H' id = some (.row 0 cells) → (∀ i, i ≠ id → H' i = H i) → K (upd f d (.slm id 0 es 0 len)) H') : AOp P n ⟨some d, .buildSlice t len parts, ty, pos, after, guard⟩ K f H :=
  .fresh fun id hid => .buildSlice_at id (.inl hid) hn ht hs' hz hbig hps hf (hK id _ hid (updH_same _ _ _) fun _ h => updH_ne _ _ h)
end
end Go.AH
namespace Go.AH
variable [Globs]
set_option linter.unusedSectionVars false
open Go
section
variable {P : Program} {n : Nat} {f : Nat → AV} {H : Heap} {K : (Nat → AV) → Heap → Prop} {ty : TypeId} {pos : String} {after : Array Edge} {guard : Option (Nat × Bool)} {d : Nat}
inductive Src (H : Heap) (es : Nat) : AV → Nat → List AV → Prop where
  | nil : Src H es .snil 0 []
  | sl {m : Nat} {cells : List AV} (h : cells.length = m * es) : Src H es (.sl m cells) m cells
  | slm {id ver off m : Nat} {cells : List AV} (hid : H id = some (.row ver cells)) (h : Nat.ble (off + m * es) cells.length = true) : Src H es (.slm id ver es off m) m ((cells.drop off).take (m * es))
theorem load_row {w : World} {μ : Nat → Nat} {b o : Nat} {cells : List AV} (h : Holds w μ H b o cells) : ∃ vs, (loadCells ⟨b, o, none⟩ cells.length).run P w = .ok vs w ∧ CR w μ H cells vs := by
  have hex : ∀ j, j < cells.length → ∃ y, w.cell? ⟨b, o + j, none⟩ = some y ∧ ∀ x, cells[j]? = some x → VR w μ H x y := by
    intro j hj
    obtain ⟨y, h1, h2⟩ := h j _ (List.getElem?_eq_getElem hj)
    exact ⟨y, h1, fun x hx => by rw [List.getElem?_eq_getElem hj] at hx; cases hx; exact h2⟩
  let ys : Nat → Value := fun j => if h : j < cells.length then Classical.choose (hex j h) else undef
  have hys : ∀ j, j < cells.length → w.cell? ⟨b, o + j, none⟩ = some (ys j) := fun j hj => by
    simp only [ys, dif_pos hj]; exact (Classical.choose_spec (hex j hj)).1
  refine ⟨((List.range' 0 cells.length).map ys).toArray, ?_, by simp, fun j x hx => ?_⟩
  · simp only [loadCells]
    rw [run_loadCellsFrom cells.length 0 #[] (fun j _ h => hys j (by omega))]
    simp
  · have hj : j < cells.length := by
      rcases Nat.lt_or_ge j cells.length with h' | h'
      · exact h'
      · rw [List.getElem?_eq_none h'] at hx; cases hx
    refine ⟨ys j, by simp [hj], ?_⟩
    simp only [ys, dif_pos hj]
    exact (Classical.choose_spec (hex j hj)).2 x hx
theorem Src.run {es m : Nat} {x : AV} {cells : List AV} (h : Src H es x m cells) {w : World} {μ : Nat → Nat} (hr : HR w μ H) {v : Value} (hv : VR w μ H x v) :
    (Builtin.lenOf v).run P w = .ok m w ∧ cells.length = m * es ∧ ∃ vs, (Builtin.firstCells es m v).run P w = .ok vs w ∧ CR w μ H cells vs := by
  cases h with
  | nil => cases hv; exact ⟨rfl, by simp, #[], rfl, rfl, fun j x hx => by simp at hx⟩
  | sl h =>
    cases hv with
    | sl0 a cap =>
      refine ⟨rfl, by simp, #[], ?_, rfl, fun j x hx => by simp at hx⟩
      cases a with
      | none => rfl
      | some a => simp [Builtin.firstCells, loadCells, loadCellsFrom]
    | sl hl hb hc hv' =>
      obtain ⟨vs, h1, h2⟩ := load_row (P := P) (w := w) (μ := μ) (H := H) (fun j x hx => ⟨_, hc j x hx, hv' j x hx⟩)
      refine ⟨rfl, h, vs, ?_, h2⟩
      simp only [Builtin.firstCells]
      rw [← h]; exact h1
  | slm hid h =>
    rename_i id ver off c2
    have hle := Nat.le_of_ble_eq_true h
    cases hv with
    | slm hk hl ha =>
      obtain ⟨rfl, _⟩ := ha ⟨c2, hid⟩
      have hh := hr.holds hid
      have hlen : ((c2.drop off).take (m * es)).length = m * es := by simp; omega
      have hh' : Holds w μ H (μ id) off ((c2.drop off).take (m * es)) := by
        intro j x hx
        have hj : j < m * es := by
          rcases Nat.lt_or_ge j (m * es) with h' | h'
          · exact h'
          · rw [List.getElem?_eq_none (by omega)] at hx; cases hx
        simp only [List.getElem?_take, hj, if_true, List.getElem?_drop] at hx
        have := hh (off + j) x hx
        simpa [Nat.zero_add] using this
      obtain ⟨vs, h1, h2⟩ := load_row (P := P) hh'
      refine ⟨rfl, hlen, vs, ?_, h2⟩
      simp only [Builtin.firstCells]
      rw [hlen] at h1; exact h1
theorem growBy_le (m : Nat) : ∀ (r c : Nat), Builtin.growBy m r c ≤ max c (m + (m + 768) / 4)
  | 0, c => by simp [Builtin.growBy]; omega
  | r + 1, c => by
    rw [Builtin.growBy]
    split
    · omega
    · have := growBy_le m r (c + (c + 768) / 4)
      omega
theorem nextcap_le {m c : Nat} (h : c < m) : Builtin.nextslicecap m c ≤ 2 * m + 1024 := by
  unfold Builtin.nextslicecap
  have := growBy_le m 4 c
  split
  · omega
  · split <;> omega
theorem regrow {w : World} {μ : Nat → Nat} (hr : HR w μ H) {id ver : Nat} {cells cells' : List AV} (hid : H id = some (.row ver cells)) {cs : Array Value} {T : TypeId} (hl : cells'.length ≤ cs.size)
    (hc : ∀ (j : Nat) (x : AV), cells'[j]? = some x → ∃ y, cs[j]? = some y ∧ VR w μ H x y) :
    Ext w μ H { w with heap := w.heap.push (.cells cs T) } (updN μ id w.heap.size) (updH H id (.row (ver + 1) cells')) ∧
    HR { w with heap := w.heap.push (.cells cs T) } (updN μ id w.heap.size) (updH H id (.row (ver + 1) cells')) := by
  have he : Ext w μ H { w with heap := w.heap.push (.cells cs T) } (updN μ id w.heap.size) (updH H id (.row (ver + 1) cells')) := by
    refine ⟨by simp, fun b hb => ⟨?_, ?_⟩, fun i v hk => ?_, fun i v hk ha => ?_, fun i hm => ?_, fun i hm => ?_, ⟨rfl, rfl, rfl, fun _ => Nat.le_refl _⟩⟩
    · rw [Array.getElem?_push, if_neg (Nat.ne_of_lt hb.1)]
    · rintro ⟨i, B', h1, h2, h3⟩
      rw [updH_eq] at h1
      unfold updN at h3
      by_cases hi : i = id
      · simp only [hi, if_true] at h3; exact absurd h3.symm (Nat.ne_of_lt hb.1)
      · simp only [hi, if_false] at h1 h3
        exact hb.2 ⟨i, B', h1, h2, h3⟩
    · obtain ⟨B, v', h1, h2, h3⟩ := hk
      by_cases g : i = id
      · subst g
        rw [hid] at h1; cases h1
        cases h2
        exact ⟨_, ver + 1, by rw [updH_eq, if_pos rfl], rfl, by omega⟩
      · exact ⟨B, v', by rw [updH_eq, if_neg g]; exact h1, h2, h3⟩
    · obtain ⟨c, ha⟩ := ha
      rw [updH_eq] at ha
      by_cases g : i = id
      · subst g
        rw [if_pos rfl] at ha
        cases ha
        obtain ⟨B, v', h1, h2, h3⟩ := hk
        rw [hid] at h1; cases h1
        cases h2
        omega
      · rw [if_neg g] at ha
        refine ⟨⟨c, ha⟩, by simp [updN, g], ?_⟩
        have := hr.lt ha rfl
        unfold bsize
        rw [Array.getElem?_push, if_neg (Nat.ne_of_lt this)]
    · obtain ⟨es, hm⟩ := hm
      have g : i ≠ id := by rintro rfl; rw [hid] at hm; cases hm
      exact ⟨⟨es, by rw [updH_eq, if_neg g]; exact hm⟩, by simp [updN, g]⟩
    · obtain ⟨it, hm⟩ := hm
      have g : i ≠ id := by rintro rfl; rw [hid] at hm; cases hm
      exact ⟨⟨it, by rw [updH_eq, if_neg g]; exact hm⟩, by simp [updN, g]⟩
  refine ⟨he, hr.change he (fun i => updH_eq _ _ _ _) (fun i hi => by simp [updN, hi]) ?_ ?_ ?_ ?_ ?_ ?_⟩
  · intro _ i C _ hi hC
    have := hr.lt hi hC
    simp only [updN, if_true]; omega
  · intro i C _ hi hC
    have := hr.lt hi hC
    rw [Array.getElem?_push, if_neg (Nat.ne_of_lt this)]
  · intro v c hB
    cases hB
    refine ⟨cs, T, by simp [updN], hl, fun j x hx => ?_⟩
    obtain ⟨y, g1, g2⟩ := hc j x hx
    exact ⟨y, g1, g2.ext he⟩
  · intro es h; cases h
  · intro es _ _ h; cases h
  · intro it h; cases h
theorem CR.append {w : World} {μ : Nat → Nat} {xs ys : List AV} {«as» bs : Array Value} (h1 : CR w μ H xs «as») (h2 : CR w μ H ys bs) : CR w μ H (xs ++ ys) («as» ++ bs) := by
  refine ⟨by simp [h1.1, h2.1], fun j x hx => ?_⟩
  rcases Nat.lt_or_ge j xs.length with h | h
  · rw [List.getElem?_append_left h] at hx
    obtain ⟨y, g1, g2⟩ := h1.2 j x hx
    exact ⟨y, by rw [Array.getElem?_append_left (by have := h1.1; omega)]; exact g1, g2⟩
  · rw [List.getElem?_append_right h] at hx
    obtain ⟨y, g1, g2⟩ := h2.2 _ x hx
    exact ⟨y, by rw [Array.getElem?_append_right (by have := h1.1; omega), ← h1.1]; exact g1, g2⟩
theorem zeroCells_size (z : Array Value) (m : Nat) : (Builtin.zeroCells z m).size = m * z.size := by simp [Builtin.zeroCells]
def NotInt (P : Program) (t : TypeId) : Prop := ∃ dd, P.underlying t = some dd ∧ (match dd with | .int _ => true | _ => false) = false
theorem run_append_grow {w : World} {st xt e es m : Nat} {bm sLen sCap : Nat} {base : Option Addr} {u : Value} (ht : P.underlying st = some (.slice e)) (hs' : TSize P e es) (hz : TZn P e es) (hb : TBytes P e bm) (hbm : bm ≤ 1024)
    (hxt : NotInt P xt) (hm : (Builtin.lenOf u).run P w = .ok m w) (hcap : sCap < sLen + m) (hbig : sLen + m ≤ 4294967296)
    {old new : Array Value} (hw : ∀ w' : World, w'.heap = w.heap → (Builtin.firstCells es sLen (.slice base sLen sCap)).run P w' = .ok old w' ∧ (Builtin.firstCells es m u).run P w' = .ok new w') (tt : TypeId) :
    ∃ rest cap w', w'.heap = w.heap.push (.cells (old ++ new ++ rest) e) ∧ sLen + m ≤ cap ∧ rest.size = (cap - (sLen + m)) * es ∧ Rest w w' ∧
      (Builtin.append_ #[st, xt] tt #[.slice base sLen sCap, u]).run P w = .ok (.slice (some ⟨w.heap.size, 0, none⟩) (sLen + m) cap) w' := by
  obtain ⟨ib, b1, b2⟩ := hb
  obtain ⟨iz, z, z1, z2, z3, z4⟩ := hz
  obtain rfl := Option.some.inj (z1.symm.trans b1)
  obtain ⟨dd, x1, x2⟩ := hxt
  have hnc := nextcap_le hcap
  have hbytes : ¬ (Builtin.nextslicecap (sLen + m) sCap * iz.bytes > 2 ^ 48) := by
    have h1 : Builtin.nextslicecap (sLen + m) sCap * iz.bytes ≤ (2 * 4294967296 + 1024) * 1024 := Nat.mul_le_mul (by omega) (by omega)
    omega
  have hz0 : iz.bytes = 0 → ¬ ((sLen + m : Nat) : Int) > IntKind.i64.max := fun _ => by
    have : IntKind.i64.max = 9223372036854775807 := rfl
    omega
  let w1 : World := { w with drawn := w.drawn + 1 }
  let cap := (Question.appendCap (sLen + m) sCap e).cut (w.tape w.drawn (.appendCap (sLen + m) sCap e))
  have hcap2 : sLen + m ≤ cap := by simp only [cap, Question.cut]; omega
  obtain ⟨g1, g2⟩ := hw w1 rfl
  refine ⟨Builtin.zeroCells z.cells (cap - (sLen + m)), cap, { w1 with heap := w1.heap.push (.cells (old ++ new ++ Builtin.zeroCells z.cells (cap - (sLen + m))) e) }, rfl, hcap2, by rw [zeroCells_size, z4], ⟨rfl, rfl, rfl, fun _ => Nat.le_succ _⟩, ?_⟩
  unfold Builtin.append_
  simp only [Sem.run_bind, List.getElem?_toArray, List.getElem?_cons_zero, List.getElem?_cons_succ, run_under ht, Result.andThen_ok, hs'.run, run_under x1, Sem.run_pure]
  cases dd
  case int k => simp at x2
  all_goals
    simp only [Bool.false_eq_true, if_false, Sem.run_bind, hm, Result.andThen_ok, Bool.not_false, if_true, if_neg (show ¬ sLen + m ≤ sCap by omega), run_info z1, false_or]
    rw [if_neg (fun h => hz0 h.2 h.1)]
    simp only [Sem.run_bind, run_info z1, Result.andThen_ok, if_neg hbytes, run_choose, Question.forced, Bool.false_eq_true, if_false, run_askRoom]
    rw [show ({ w with drawn := w.drawn + 1 } : World) = w1 from rfl]
    simp only [g1, g2, Result.andThen_ok, zeroValue, Sem.run_bind, run_info z1, z2, Sem.run_pure, newRow, run_newObj]
    rfl
theorem run_append_fit {w : World} {st xt e es m : Nat} {sLen sCap : Nat} {base : Option Addr} {u : Value} (ht : P.underlying st = some (.slice e)) (hs' : TSize P e es)
    (hxt : NotInt P xt) (hm : (Builtin.lenOf u).run P w = .ok m w) (hcap : sLen + m ≤ sCap) {new : Array Value} (hw : (Builtin.firstCells es m u).run P w = .ok new w) (tt : TypeId) :
    (Builtin.append_ #[st, xt] tt #[.slice base sLen sCap, u]).run P w =
      match base with
      | some a => ((storeCells (a.add (sLen * es)) new.toList).run P w).andThen fun _ w' => .ok (.slice base (sLen + m) sCap) w'
      | none => .ok (.slice base (sLen + m) sCap) w := by
  obtain ⟨dd, x1, x2⟩ := hxt
  unfold Builtin.append_
  simp only [Sem.run_bind, List.getElem?_toArray, List.getElem?_cons_zero, List.getElem?_cons_succ, run_under ht, Result.andThen_ok, hs'.run, run_under x1, Sem.run_pure]
  cases dd
  case int k => simp at x2
  all_goals
    simp only [Bool.false_eq_true, if_false, Sem.run_bind, hm, Result.andThen_ok, Bool.not_false, if_true, if_pos hcap, hw]
    cases base <;> simp
theorem VR.slm_inv {w : World} {μ : Nat → Nat} {id ver es off len : Nat} {v : Value} (h : VR w μ H (.slm id ver es off len) v) (hal : Alive H id ver) :
    ∃ cap, v = .slice (some ⟨μ id, off, none⟩) len cap ∧ len ≤ cap ∧ off + cap * es ≤ bsize w (μ id) ∧ Known H id ver := by
  cases h with
  | slm hk hl ha =>
    obtain ⟨rfl, h⟩ := ha hal
    exact ⟨_, rfl, hl, h, hk⟩
theorem run_call_builtin {a : Act} {b : Builtin} {args : Array Operand} {at_ : Array TypeId} (w : World) {r : Result Value}
    (h : (match b with | .append => (Builtin.append_ at_ ty (args.map a.eval)).run P w | .len => (Builtin.len_ at_ ty (args.map a.eval)).run P w | .min => (Builtin.min_ at_ ty (args.map a.eval)).run P w | .max => (Builtin.max_ at_ ty (args.map a.eval)).run P w | _ => .halt (.stuck "") w) = r)
    (hb : (match b with | .append | .len | .min | .max => true | _ => false) = true) :
    (execOp a.eval ⟨some d, .call { callee := .builtin b, args, argTypes := at_ }, ty, pos, after, guard⟩).run P w = r.andThen fun v w' => .ok (.value v) w' := by
  cases b <;> simp at hb <;> (subst h; simp only [execOp, resolve, Sem.run_bind, Sem.run_pure, Result.andThen_ok, invoke, builtin])
theorem firstCells_heap {w1 w2 : World} (hh : w1.heap = w2.heap) {es m : Nat} {u : Value} : ∀ (v1 v2 : Array Value) (w1' : World), (Builtin.firstCells es m u).run P w1 = .ok v1 w1' → ∀ {w2' : World}, (Builtin.firstCells es m u).run P w2 = .ok v2 w2' → v1 = v2 := by
  intro v1 v2 w1' e1 w2' e2
  cases u with
  | slice b ln cp =>
    cases b with
    | none => simp only [Builtin.firstCells, Sem.run_pure, Result.ok.injEq] at e1 e2; rw [← e1.1, ← e2.1]
    | some b =>
      simp only [Builtin.firstCells, loadCells] at e1 e2
      have go : ∀ (k i : Nat) (acc v1 v2 : Array Value), (loadCellsFrom b i k acc).run P w1 = .ok v1 w1' → (loadCellsFrom b i k acc).run P w2 = .ok v2 w2' → v1 = v2 := by
        intro k
        induction k with
        | zero => intro i acc v1 v2 e1 e2; simp only [loadCellsFrom, Sem.run_pure, Result.ok.injEq] at e1 e2; rw [← e1.1, ← e2.1]
        | succ k ih =>
          intro i acc v1 v2 e1 e2
          rw [loadCellsFrom] at e1 e2
          simp only [Sem.run_bind, run_load] at e1 e2
          have hc : w1.cell? (b.add i) = w2.cell? (b.add i) := by simp only [World.cell?, hh]
          have hf : ∀ bo, w1.farLoad P (b.add i) bo = w2.farLoad P (b.add i) bo := fun bo => by
            simp only [World.farLoad, World.viewLoad, World.seen, World.noCell, hh]
          rw [hc] at e1
          rw [hf] at e1
          cases hcc : w2.cell? (b.add i) with
          | some x => rw [hcc] at e1 e2; simp only [Result.andThen_ok] at e1 e2; exact ih _ _ _ _ e1 e2
          | none =>
            rw [hcc] at e1 e2
            simp only at e1 e2
            cases hfl : w2.farLoad P (b.add i) (Mode.plain == Mode.atomic) with
            | ok x => rw [hfl] at e1 e2; simp only [Result.andThen_ok] at e1 e2; exact ih _ _ _ _ e1 e2
            | error h => rw [hfl] at e1; cases e1
      exact go _ _ _ _ _ e1 e2
  | string s => simp only [Builtin.firstCells, Sem.run_pure, Result.ok.injEq] at e1 e2; rw [← e1.1, ← e2.1]
  | _ => cases e1
theorem AOp.append_nil_at {st xt e es m bm : Nat} {x y : Operand} {src : AV} {cells : List AV} (id : Nat) (hid : H id = none ∨ H id = some .res) (hn : Nat.ble (d + 1) n = true) (ht : P.underlying st = some (.slice e)) (hs' : TSize P e es) (hz : TZn P e es) (hb : TBytes P e bm) (hbm : bm ≤ 1024) (hxt : NotInt P xt)
    (hx : ev f x = .snil) (hy : ev f y = src) (hsrc : Src H es src m cells) (hm : 0 < m) (hbig : m ≤ 4294967296) (hK : K (upd f d (.slm id 0 es 0 m)) (updH H id (.row 0 cells))) :
    AOp P n ⟨some d, .call { callee := .builtin .append, args := #[x, y], argTypes := #[st, xt] }, ty, pos, after, guard⟩ K f H :=
  .value _ _ hn (fun μ a w hs => by
    have h1 := hs.ev x; rw [hx] at h1
    have h2 := hs.ev y; rw [hy] at h2
    obtain ⟨r1, r2, vs, r3, r4⟩ := hsrc.run (P := P) hs.hr h2
    generalize hz' : a.eval x = z at h1
    cases h1
    have hold : ∀ w' : World, (Builtin.firstCells es 0 (.slice none 0 0)).run P w' = .ok #[] w' := fun _ => rfl
    obtain ⟨rest, cap, w', g1, g2, g3, hrest, g4⟩ := run_append_grow (P := P) (base := none) (sLen := 0) (sCap := 0) ht hs' hz hb hbm hxt r1 (by omega) (by omega) (old := #[]) (new := vs)
      (fun w' hw' => ⟨hold w', by
        have hs2 : HR w' μ H := hs.hr.heap hw'
        obtain ⟨_, _, vs', q3, _⟩ := hsrc.run (P := P) hs2 (h2.heap hw')
        have : vs' = vs := by
          exact firstCells_heap hw' _ _ _ q3 r3
        rw [← this]; exact q3⟩) ty
    simp only [Nat.zero_add, Array.empty_append] at g1 g2 g3 g4
    have hw1 : w'.heap = ({ w with heap := w.heap.push (.cells (vs ++ rest) e) } : World).heap := g1
    have hcr : CR w μ H cells vs := r4
    have hnew := newrow (cs := vs ++ rest) (T := e) (cells := cells) hs.hr hid (by have := hcr.1; simp; omega) (fun j x hx => by
      obtain ⟨y, e1, e2⟩ := hcr.2 j x hx
      have hj : j < vs.size := by
        rcases Nat.lt_or_ge j vs.size with h | h
        · exact h
        · rw [Array.getElem?_eq_none h] at e1; cases e1
      exact ⟨y, by rw [Array.getElem?_append_left hj]; exact e1, e2⟩)
    refine ⟨.slice (some ⟨w.heap.size, 0, none⟩) m cap, w', updN μ id w.heap.size, ?_, (newblock hs.hr hid).trans (.heap hw1 hrest), hnew.heap hw1, ?_⟩
    · rw [run_call_builtin (r := .ok (.slice (some ⟨w.heap.size, 0, none⟩) m cap) w') w ?_ rfl]
      · rfl
      · simp only [List.map_toArray, List.map_cons, List.map_nil, hz']
        exact g4
    · refine .slm ⟨_, 0, by rw [updH_eq, if_pos rfl], rfl, Nat.le_refl _⟩ g2 fun _ => ⟨by simp [updN], ?_⟩
      have hsz : vs.size = m * es := by rw [← r2, ← hcr.1]
      have : cap * es = m * es + (cap - m) * es := by rw [← Nat.add_mul]; congr 1; omega
      simp only [updN, if_true, bsize, g1, Array.getElem?_push_size, osize, Array.size_append, g3, hsz, Nat.zero_add]
      omega) hK
theorem AOp.append_nil {st xt e es m bm : Nat} {x y : Operand} {src : AV} {cells : List AV} (hn : Nat.ble (d + 1) n = true) (ht : P.underlying st = some (.slice e)) (hs' : TSize P e es) (hz : TZn P e es) (hb : TBytes P e bm) (hbm : bm ≤ 1024) (hxt : NotInt P xt)
    (hx : ev f x = .snil) (hy : ev f y = src) (hsrc : Src H es src m cells) (hm : 0 < m) (hbig : m ≤ 4294967296)
    (hK : ∀ id H', H id = none → H' id = some (.row 0 cells) → (∀ i, i ≠ id → H' i = H i) → K (upd f d (.slm id 0 es 0 m)) H') :
    AOp P n ⟨some d, .call { callee := .builtin .append, args := #[x, y], argTypes := #[st, xt] }, ty, pos, after, guard⟩ K f H :=
  .fresh fun id hid => .append_nil_at id (.inl hid) hn ht hs' hz hb hbm hxt hx hy hsrc hm hbig (hK id _ hid (updH_same _ _ _) fun _ h => updH_ne _ _ h)
theorem AOp.append {st xt e es m bm id ver len : Nat} {x y : Operand} {src : AV} {cells old : List AV} (hn : Nat.ble (d + 1) n = true) (ht : P.underlying st = some (.slice e)) (hs' : TSize P e es) (hz : TZn P e es) (hb : TBytes P e bm) (hbm : bm ≤ 1024) (hxt : NotInt P xt)
    (hx : ev f x = .slm id ver es 0 len) (hid : H id = some (.row ver old)) (hlen : len * es ≤ old.length) (hy : ev f y = src) (hsrc : Src H es src m cells) (hone : ∀ c ∈ cells, c.one = true) (hbig : len + m ≤ 4294967296)
    (hK : ∀ H', H' id = some (.row (ver + 1) (old.take (len * es) ++ cells)) → (∀ i, i ≠ id → H' i = H i) → K (upd f d (.slm id (ver + 1) es 0 (len + m))) H') :
    AOp P n ⟨some d, .call { callee := .builtin .append, args := #[x, y], argTypes := #[st, xt] }, ty, pos, after, guard⟩ K f H := by
  refine .value _ (updH H id (.row (ver + 1) (old.take (len * es) ++ cells))) hn ?_ (hK _ (updH_same _ _ _) fun _ h => updH_ne _ _ h)
  intro μ a w hs
  have h1 := hs.ev x; rw [hx] at h1
  have h2 := hs.ev y; rw [hy] at h2
  obtain ⟨r1, r2, vs, r3, r4⟩ := hsrc.run (P := P) hs.hr h2
  obtain ⟨cap, hz', hl, hsz, hk⟩ := h1.slm_inv ⟨old, hid⟩
  obtain ⟨cs, T, b1, b2, b3⟩ := hs.hr.rows id ver old hid
  have hbs : bsize w (μ id) = cs.size := by simp [bsize, b1, osize]
  rw [hbs, Nat.zero_add] at hsz
  have hvs : vs.size = m * es := by rw [← r2, ← r4.1]
  have hmul : (len + m) * es = len * es + m * es := Nat.add_mul _ _ _
  have htake : (old.take (len * es)).length = len * es := by simp; omega
  have hnewlen : (old.take (len * es) ++ cells).length = (len + m) * es := by rw [List.length_append, htake, r2, hmul]
  by_cases hfit : len + m ≤ cap
  · -- in place
    have hfs : (len + m) * es ≤ cap * es := Nat.mul_le_mul_right _ hfit
    have hones : ∀ u ∈ vs.toList, u.oneCell' = true := by
      intro u hu
      obtain ⟨j, hj, rfl⟩ := List.mem_iff_getElem.1 hu
      have hj1 : j < vs.size := by simpa using hj
      have hj2 : j < cells.length := by rw [r4.1]; exact hj1
      obtain ⟨y, e1, e2⟩ := r4.2 j _ (List.getElem?_eq_getElem hj2)
      rw [Array.getElem?_eq_getElem hj1] at e1
      simp only [Option.some.injEq] at e1
      simp only [Array.getElem_toList, e1]
      exact e2.one (hone _ (List.getElem_mem hj2))
    obtain ⟨w', cs', s1, s2, s3, s4, s5, hrest, s6⟩ := run_storeCells (P := P) (b := μ id) (off := len * es) (T := T) vs.toList 0 w cs hones b1 (by simp; omega)
    have hset := setrow (w' := w') (ver' := ver + 1) (cells' := old.take (len * es) ++ cells) hrest hs.hr (by omega) hid b1 s2 s3 s4 s5 (by omega) (fun j x hx => by
      rw [s6 j]
      rcases Nat.lt_or_ge j (len * es) with h | h
      · rw [List.getElem?_append_left (by omega), List.getElem?_take, if_pos h] at hx
        rw [if_neg (by omega)]
        exact b3 j x hx
      · rw [List.getElem?_append_right (by omega), htake] at hx
        obtain ⟨y, e1, e2⟩ := r4.2 _ x hx
        have hj : j - len * es < vs.size := by
          rcases Nat.lt_or_ge (j - len * es) vs.size with h' | h'
          · exact h'
          · rw [Array.getElem?_eq_none h'] at e1; cases e1
        rw [if_pos (by simp; omega)]
        exact ⟨y, by simpa using e1, e2⟩)
    refine ⟨.slice (some ⟨μ id, 0, none⟩) (len + m) cap, w', μ, ?_, hset.1, hset.2, ?_⟩
    · rw [run_call_builtin (r := .ok (.slice (some ⟨μ id, 0, none⟩) (len + m) cap) w') w ?_ rfl]
      · rfl
      · simp only [List.map_toArray, List.map_cons, List.map_nil]
        rw [hz', run_append_fit ht hs' hxt r1 hfit r3]
        simp only [add_off, Nat.zero_add, s1, Result.andThen_ok]
    · refine .slm ⟨_, ver + 1, by rw [updH_eq, if_pos rfl], rfl, Nat.le_refl _⟩ hfit fun _ => ⟨rfl, ?_⟩
      simp only [bsize, s2, osize, s3]; omega
  · -- a new block
    obtain ⟨vo, q1, q2⟩ := load_row (P := P) (w := w) (μ := μ) (H := H) (b := μ id) (o := 0) (cells := old.take (len * es)) (fun j x hx => by
      have hj : j < len * es := by
        rcases Nat.lt_or_ge j (len * es) with h' | h'
        · exact h'
        · rw [List.getElem?_eq_none (by omega)] at hx; cases hx
      rw [List.getElem?_take, if_pos hj] at hx
      exact hs.hr.holds hid j x hx)
    rw [htake] at q1
    have hfo : (Builtin.firstCells es len (.slice (some ⟨μ id, 0, none⟩) len cap)).run P w = .ok vo w := q1
    obtain ⟨rest, cap', w', g1, g2, g3, hrest, g4⟩ := run_append_grow (P := P) (base := some ⟨μ id, 0, none⟩) (sLen := len) (sCap := cap) ht hs' hz hb hbm hxt r1 (by omega) hbig (old := vo) (new := vs)
      (fun w' hw' => by
        have hs2 : HR w' μ H := hs.hr.heap hw'
        obtain ⟨_, _, vs', q3, _⟩ := hsrc.run (P := P) hs2 (h2.heap hw')
        obtain ⟨vo', q4, _⟩ := load_row (P := P) (w := w') (μ := μ) (H := H) (b := μ id) (o := 0) (cells := old.take (len * es)) (fun j x hx => by
          have hj : j < len * es := by
            rcases Nat.lt_or_ge j (len * es) with h' | h'
            · exact h'
            · rw [List.getElem?_eq_none (by omega)] at hx; cases hx
          rw [List.getElem?_take, if_pos hj] at hx
          exact hs2.holds hid j x hx)
        rw [htake] at q4
        have hfo' : (Builtin.firstCells es len (.slice (some ⟨μ id, 0, none⟩) len cap)).run P w' = .ok vo' w' := q4
        have e1 : vs' = vs := firstCells_heap hw' _ _ _ q3 r3
        have e2 : vo' = vo := firstCells_heap hw' _ _ _ hfo' hfo
        exact ⟨e2 ▸ hfo', e1 ▸ q3⟩) ty
    have hcr := CR.append q2 r4
    have hw1 : w'.heap = ({ w with heap := w.heap.push (.cells (vo ++ vs ++ rest) e) } : World).heap := g1
    have hreg := regrow (cs := vo ++ vs ++ rest) (T := e) (cells' := old.take (len * es) ++ cells) hs.hr hid (by have := hcr.1; rw [Array.size_append]; omega) (fun j x hx => by
      obtain ⟨y, e1, e2⟩ := hcr.2 j x hx
      have hj : j < (vo ++ vs).size := by
        rcases Nat.lt_or_ge j (vo ++ vs).size with h | h
        · exact h
        · rw [Array.getElem?_eq_none h] at e1; cases e1
      exact ⟨y, by rw [Array.getElem?_append_left hj]; exact e1, e2⟩)
    refine ⟨.slice (some ⟨w.heap.size, 0, none⟩) (len + m) cap', w', updN μ id w.heap.size, ?_, hreg.1.trans (.heap hw1 hrest), hreg.2.heap hw1, ?_⟩
    · rw [run_call_builtin (r := .ok (.slice (some ⟨w.heap.size, 0, none⟩) (len + m) cap') w') w ?_ rfl]
      · rfl
      · simp only [List.map_toArray, List.map_cons, List.map_nil]
        rw [hz']
        exact g4
    · refine .slm ⟨_, ver + 1, by rw [updH_eq, if_pos rfl], rfl, Nat.le_refl _⟩ g2 fun _ => ⟨by simp [updN], ?_⟩
      have hvo : vo.size = len * es := by rw [← htake, ← q2.1]
      have : cap' * es = (len + m) * es + (cap' - (len + m)) * es := by rw [← Nat.add_mul]; congr 1; omega
      simp only [updN, if_true, bsize, g1, Array.getElem?_push_size, osize, Array.size_append, g3, hvs, hvo, Nat.zero_add]
      omega
theorem AOp.len {t : TypeId} {x : Operand} {m : Nat} {v : AV} (hn : Nat.ble (d + 1) n = true) (hx : ev f x = v) (hv : (v = .snil ∧ m = 0) ∨ (∃ cells, v = .sl m cells) ∨ ∃ id ver es off, v = .slm id ver es off m)
    {e : TypeId} (ht : P.underlying t = some (.slice e)) (hK : K (upd f d (.int .i64 m)) H) : AOp P n ⟨some d, .call { callee := .builtin .len, args := #[x], argTypes := #[t] }, ty, pos, after, guard⟩ K f H :=
  .pureV _ hn (fun μ a w hs => by
    have h1 := hs.ev x; rw [hx] at h1
    refine ⟨.int .i64 m, ?_, .int _ _⟩
    have key : ∃ b c, a.eval x = .slice b m c := by
      rcases hv with ⟨rfl, rfl⟩ | ⟨cells, rfl⟩ | ⟨id, ver, es, off, rfl⟩
      · generalize a.eval x = z at h1; cases h1; exact ⟨_, _, rfl⟩
      · generalize a.eval x = z at h1; cases h1 <;> exact ⟨_, _, rfl⟩
      · generalize a.eval x = z at h1; cases h1; exact ⟨_, _, rfl⟩
    obtain ⟨b, c, hz⟩ := key
    rw [run_call_builtin (r := .ok (.int .i64 m) w) w ?_ rfl]
    · rfl
    · simp [Builtin.len_, hz, run_under ht, goInt]) hK
theorem AOp.lenStr {t : TypeId} {x : Operand} {s : ByteArray} (hn : Nat.ble (d + 1) n = true) (hx : ev f x = .str s) (ht : P.underlying t = some .string) (hK : K (upd f d (.int .i64 s.size)) H) :
    AOp P n ⟨some d, .call { callee := .builtin .len, args := #[x], argTypes := #[t] }, ty, pos, after, guard⟩ K f H :=
  .pureV _ hn (fun μ a w hs => by
    have h1 := hs.ev x; rw [hx] at h1
    refine ⟨.int .i64 s.size, ?_, .int _ _⟩
    rw [run_call_builtin (r := .ok (.int .i64 s.size) w) w ?_ rfl]
    · rfl
    · simp [Builtin.len_, h1.str_inv, run_under ht, goInt]) hK
def loOf (f : Nat → AV) : Option Operand → Option Int
  | none => some 0
  | some x => match ev f x with | .int _ k => some k | _ => none
def hiOf (f : Nat → AV) (len : Nat) : Option Operand → Option Int
  | none => some len
  | some x => match ev f x with | .int _ k => some k | _ => none
theorem run_bounds {w : World} {μ : Nat → Nat} {a : Act} (hs : SR n w μ f H a) {lo hi : Option Operand} {isS : Bool} {len cap : Nat} {l h : Int} (hl : loOf f lo = some l) (hh : hiOf f len hi = some h) (h0 : 0 ≤ l) (h1 : l ≤ h) (h2 : h ≤ len) (hc : len ≤ cap) :
    (Instr.sliceBounds isS len cap (lo.map a.eval) (hi.map a.eval) none).run P w = .ok (l.toNat, h.toNat, cap) w := by
  have hhi : ∀ x, hi = some x → ∃ k, a.eval x = .int k h := by
    rintro x rfl
    simp only [hiOf] at hh
    have := hs.ev x
    split at hh
    · rename_i k v he; rw [he] at this; cases hh; exact ⟨k, this.int_inv⟩
    · cases hh
  have hlo : ∀ x, lo = some x → ∃ k, a.eval x = .int k l := by
    rintro x rfl
    simp only [loOf] at hl
    have := hs.ev x
    split at hl
    · rename_i k v he; rw [he] at this; cases hl; exact ⟨k, this.int_inv⟩
    · cases hl
  unfold Instr.sliceBounds
  cases hi with
  | none =>
    simp only [hiOf, Option.some.injEq] at hh
    subst hh
    cases lo with
    | none => simp only [loOf, Option.some.injEq] at hl; subst hl; simp
    | some x =>
      obtain ⟨k, hk⟩ := hlo x rfl
      simp [hk, Instr.sliceBound, asIntOf, h0, h1]
  | some y =>
    obtain ⟨k', hk'⟩ := hhi y rfl
    have hy : 0 ≤ h ∧ h ≤ cap := ⟨by omega, by omega⟩
    cases lo with
    | none => simp only [loOf, Option.some.injEq] at hl; subst hl; simp [hk', Instr.sliceBound, asIntOf, hy]
    | some x =>
      obtain ⟨k, hk⟩ := hlo x rfl
      have hx : 0 ≤ l ∧ l ≤ (h.toNat : Int) := ⟨h0, by omega⟩
      simp [hk, hk', Instr.sliceBound, asIntOf, hy, hx]
      intro hm; omega
theorem AOp.sliceS {t : TypeId} {x : Operand} {lo hi : Option Operand} {len es : Nat} {cells : List AV} {l h : Int} (hn : Nat.ble (d + 1) n = true) (hx : ev f x = .sl len cells) (hc : cells.length = len * es) (ht : TSlice P t es)
    (hl : loOf f lo = some l) (hh : hiOf f len hi = some h) (h0 : 0 ≤ l) (h1 : l ≤ h) (h2 : h ≤ len)
    (hK : K (upd f d (.sl (h.toNat - l.toNat) ((cells.drop (l.toNat * es)).take ((h.toNat - l.toNat) * es)))) H) : AOp P n ⟨some d, .slice t x lo hi none, ty, pos, after, guard⟩ K f H :=
  .pureV _ hn (fun μ a w hs => by
    have g1 := hs.ev x; rw [hx] at g1
    obtain ⟨e, t1, t2⟩ := ht
    generalize hz : a.eval x = z at g1
    have main : ∀ (b : Option Addr) (cap : Nat), z = .slice b len cap → len ≤ cap → (execOp a.eval ⟨some d, .slice t x lo hi none, ty, pos, after, guard⟩).run P w = .ok (.value (.slice (if cap = l.toNat then b else b.map (·.add (l.toNat * es))) (h.toNat - l.toNat) (cap - l.toNat))) w := by
      intro b cap hb hcap
      have := run_bounds (P := P) (isS := true) (cap := cap) hs hl hh h0 h1 h2 hcap
      simp only [execOp, hz, hb, Instr.sliceAt, Sem.run_bind, run_under t1, Result.andThen_ok, Instr.slice, Option.map_none, this, t2.run, Sem.run_pure]
    cases g1 with
    | sl0 b cap =>
      refine ⟨_, main b cap rfl (by omega), ?_⟩
      have e1 : h.toNat - l.toNat = 0 := by omega
      simp only [e1, Nat.zero_mul, List.take_zero]
      exact .sl0 _ _
    | sl hcap hb hc' hv =>
      rename_i cap b o ys
      refine ⟨_, main _ cap rfl hcap, ?_⟩
      by_cases he : h.toNat - l.toNat = 0
      · simp only [he, Nat.zero_mul, List.take_zero]; exact .sl0 _ _
      · rw [if_neg (by omega)]
        simp only [Option.map_some, add_off]
        refine .sl (ys := fun j => ys (l.toNat * es + j)) (by omega) hb (fun j x hx => ?_) (fun j x hx => ?_)
        · have hj : j < (h.toNat - l.toNat) * es := by
            rcases Nat.lt_or_ge j ((h.toNat - l.toNat) * es) with h' | h'
            · exact h'
            · rw [List.getElem?_eq_none (by simp; omega)] at hx; cases hx
          simp only [List.getElem?_take, hj, if_true, List.getElem?_drop] at hx
          rw [Nat.add_assoc]; exact hc' _ x hx
        · have hj : j < (h.toNat - l.toNat) * es := by
            rcases Nat.lt_or_ge j ((h.toNat - l.toNat) * es) with h' | h'
            · exact h'
            · rw [List.getElem?_eq_none (by simp; omega)] at hx; cases hx
          simp only [List.getElem?_take, hj, if_true, List.getElem?_drop] at hx
          exact hv _ x hx) hK
theorem AOp.makeFunc {g : FuncId} {caps : Array Operand} {cs : List AV} (hn : Nat.ble (d + 1) n = true) (hc : caps.toList.map (ev f) = cs) (hK : K (upd f d (.fn g cs)) H) :
    AOp P n ⟨some d, .makeFunc (.func g) #[] caps, ty, pos, after, guard⟩ K f H :=
  .pureV _ hn (fun μ a w hs => by
    subst hc
    refine ⟨.func (.func g) #[] (caps.map a.eval), by simp [execOp, Instr.makeFunc], .fn (by simp) fun j x y hx hy => ?_⟩
    simp only [List.getElem?_map, Array.getElem?_map, Option.map_eq_some_iff] at hx hy
    obtain ⟨p, h1, rfl⟩ := hx
    obtain ⟨q, h2, rfl⟩ := hy
    rw [Array.getElem?_toList, h2] at h1; cases h1
    exact hs.ev _) hK
theorem AOp.makeIface {t : TypeId} {x : Operand} {dd : TypeDesc} (v : AV) (hn : Nat.ble (d + 1) n = true) (hx : ev f x = v) (ht : P.underlying t = some dd) (hd : (match dd with | .interface _ => true | _ => false) = false) (hK : K (upd f d (.iface t v)) H) :
    AOp P n ⟨some d, .makeInterface t x, ty, pos, after, guard⟩ K f H :=
  .pureV _ hn (fun μ a w hs => by
    have h1 := hs.ev x; rw [hx] at h1
    refine ⟨.iface t (a.eval x), ?_, .iface h1⟩
    simp only [execOp, Instr.makeInterface, Sem.run_bind, run_under ht, Result.andThen_ok]
    cases dd <;> first | rfl | (simp at hd)) hK
def TFun (P : Program) (g : FuncId) : Prop := ∃ fn, P.funcs[g]? = some fn ∧ (fn.name == "runtime.NumGoroutine") = false ∧ fn.body.isNone = false
theorem VRs_ev {w : World} {μ : Nat → Nat} {a : Act} (hs : SR n w μ f H a) (args : List Operand) : VRs w μ H (args.map (ev f)) (args.map a.eval) :=
  ⟨by simp, fun j x y hx hy => by
    simp only [List.getElem?_map, Option.map_eq_some_iff] at hx hy
    obtain ⟨p, h1, rfl⟩ := hx
    obtain ⟨q, h2, rfl⟩ := hy
    rw [h1] at h2; cases h2
    exact hs.ev _⟩
theorem AOp.call {g : FuncId} {c : Operand} {args : Array Operand} {at_ : Array TypeId} {caps «as» : List AV} {R : AV → Heap → Prop} (hn : Nat.ble (d + 1) n = true) (hc : ev f c = .fn g caps) (has : args.toList.map (ev f) = «as») (ht : TFun P g)
    (hC : ACalls P g («as» ++ caps) H R) (hK : ∀ r H', R r H' → K (upd f d r) H') : AOp P n ⟨some d, .call { callee := .value c, args, argTypes := at_ }, ty, pos, after, guard⟩ K f H := by
  intro μ a w hs Q
  have h1 := hs.ev c; rw [hc] at h1
  obtain ⟨fn, t1, t2, t3⟩ := ht
  generalize hz : a.eval c = z at h1
  cases h1 with
  | fn hl hcv =>
    rename_i vs
    have hargs : VRs w μ H («as» ++ caps) ((args.map a.eval ++ vs : Array Value)).toList := by
      have h2 := VRs_ev hs args.toList
      rw [has] at h2
      refine ⟨by have := h2.1; simp at this ⊢; omega, fun j x y hx hy => ?_⟩
      rcases Nat.lt_or_ge j «as».length with h | h
      · rw [List.getElem?_append_left h] at hx
        have hl2 : j < (args.map a.eval).size := by have := h2.1; simp at this ⊢; omega
        rw [Array.toList_append, List.getElem?_append_left (by simpa using hl2)] at hy
        refine h2.2 j x y hx ?_
        simpa using hy
      · rw [List.getElem?_append_right h] at hx
        have hl2 : (args.map a.eval).toList.length = «as».length := by have := h2.1; simp at this ⊢; omega
        rw [Array.toList_append, List.getElem?_append_right (by omega), hl2] at hy
        exact hcv _ x y hx (by simpa using hy)
    have hrun : (execOp a.eval ⟨some d, .call { callee := .value c, args, argTypes := at_ }, ty, pos, after, guard⟩).run P w = .ok (.enter g (args.map a.eval ++ vs)) w := by
      have t2' : fn.name ≠ "runtime.NumGoroutine" := by simpa using t2
      have t3' : fn.body ≠ none := fun h => by rw [h] at t3; cases t3
      simp [execOp, resolve, hz, Deferred.ofValue, invoke, callFunc, t1, t2', t3']
    unfold Oper.wp
    rw [hrun]
    refine (hC μ w _ hs.hr hargs).mono ?_
    rintro e w' ⟨v, rfl, μ', H', r, g1, g2, g3, g4⟩
    exact ⟨μ', _, H', hs.put g3 g1 hn g2, g3, hK r H' g4⟩
end
end Go.AH
namespace Go.AH
variable [Globs]
set_option linter.unusedSectionVars false
open Go Go.Maps
def concA : AV → Option Value
  | .int k m => some (.int k m)
  | .bool b => some (.bool b)
  | .str s => some (.string s)
  | _ => none
def conc : AV → Option Value
  | .agg cs => (cs.mapM concA).map fun l => .agg l.toArray
  | v => concA v
theorem concA_VR {w : World} {μ : Nat → Nat} {H : Heap} {x : AV} {v u : Value} (h : VR w μ H x v) (hu : concA x = some u) : v = u := by
  cases h <;> simp [concA] at hu <;> exact hu
theorem concA_inj {x y : AV} {u : Value} (hx : concA x = some u) (hy : concA y = some u) : x = y := by
  cases x <;> simp [concA] at hx <;> subst hx <;> cases y <;> simp [concA] at hy
  · rw [hy.1, hy.2]
  · rw [hy]
  · rw [hy]
theorem mapM_get {xs : List AV} {us : List Value} (h : xs.mapM concA = some us) : xs.length = us.length ∧ ∀ (j : Nat) (x : AV), xs[j]? = some x → ∃ u, us[j]? = some u ∧ concA x = some u := by
  induction xs generalizing us with
  | nil => simp at h; subst h; exact ⟨rfl, fun j x hx => by simp at hx⟩
  | cons a xs ih =>
    simp only [List.mapM_cons, Option.pure_def, Option.bind_eq_bind, Option.bind_eq_some_iff, Option.some.injEq] at h
    obtain ⟨u, h1, us', h2, rfl⟩ := h
    obtain ⟨g1, g2⟩ := ih h2
    refine ⟨by simp [g1], fun j x hx => ?_⟩
    cases j with
    | zero => simp only [List.getElem?_cons_zero, Option.some.injEq] at hx; subst hx; exact ⟨u, rfl, h1⟩
    | succ j => simpa using g2 j x (by simpa using hx)
theorem conc_VR {w : World} {μ : Nat → Nat} {H : Heap} {x : AV} {v u : Value} (h : VR w μ H x v) (hu : conc x = some u) : v = u := by
  by_cases hx : ∃ cs, x = .agg cs
  · obtain ⟨cells, rfl⟩ := hx
    cases h with
    | agg hl h =>
      rename_i vs
      simp only [conc, Option.map_eq_some_iff] at hu
      obtain ⟨us, h1, rfl⟩ := hu
      obtain ⟨g1, g2⟩ := mapM_get h1
      congr 1
      apply Array.ext
      · simp; omega
      · intro j hj1 hj2
        have hj : j < cells.length := by omega
        obtain ⟨u, e1, e2⟩ := g2 j _ (List.getElem?_eq_getElem hj)
        have := concA_VR (h j _ _ (List.getElem?_eq_getElem hj) (Array.getElem?_eq_getElem hj1)) e2
        rw [this]
        simp only [List.getElem?_eq_some_iff] at e1
        obtain ⟨_, e1⟩ := e1
        simp [← e1]
  · have : conc x = concA x := by cases x <;> first | rfl | exact absurd ⟨_, rfl⟩ hx
    rw [this] at hu
    exact concA_VR h hu
theorem conc_inj {x y : AV} {u : Value} (hx : conc x = some u) (hy : conc y = some u) : x = y := by
  have agg : ∀ {cs : List AV} {z : Value}, conc (.agg cs) = some z → ∃ us, cs.mapM concA = some us ∧ z = .agg us.toArray := by
    intro cs z h
    simp only [conc, Option.map_eq_some_iff] at h
    obtain ⟨us, h1, h2⟩ := h
    exact ⟨us, h1, h2.symm⟩
  have notagg : ∀ {a : AV} {us : List Value}, concA a ≠ some (.agg us.toArray) := by
    intro a us h; cases a <;> simp [concA] at h
  have other : ∀ a : AV, (∀ cs, a ≠ .agg cs) → conc a = concA a := by
    intro a h; cases a <;> first | rfl | exact absurd rfl (h _)
  by_cases h1 : ∃ cs, x = .agg cs
  · obtain ⟨cs, rfl⟩ := h1
    obtain ⟨us, e1, rfl⟩ := agg hx
    by_cases h2 : ∃ ds, y = .agg ds
    · obtain ⟨ds, rfl⟩ := h2
      obtain ⟨vs, e2, e3⟩ := agg hy
      have : us = vs := by simpa using e3
      subst this
      obtain ⟨g1, g2⟩ := mapM_get e1
      obtain ⟨k1, k2⟩ := mapM_get e2
      congr 1
      apply List.ext_getElem?
      intro j
      cases hj : cs[j]? with
      | none =>
        rw [List.getElem?_eq_none_iff] at hj
        exact (List.getElem?_eq_none (by omega)).symm
      | some a =>
        have hjl : j < ds.length := by
          have := (List.getElem?_eq_some_iff.1 hj).1
          omega
        obtain ⟨u, f1, f2⟩ := g2 j a hj
        obtain ⟨v, f3, f4⟩ := k2 j _ (List.getElem?_eq_getElem hjl)
        rw [f1] at f3; cases f3
        rw [List.getElem?_eq_getElem hjl, concA_inj f2 f4]
    · rw [other y (fun ds e => h2 ⟨ds, e⟩)] at hy
      exact absurd hy notagg
  · rw [other x (fun cs e => h1 ⟨cs, e⟩)] at hx
    by_cases h2 : ∃ ds, y = .agg ds
    · obtain ⟨ds, rfl⟩ := h2
      obtain ⟨vs, e2, rfl⟩ := agg hy
      exact absurd hx notagg
    · rw [other y (fun ds e => h2 ⟨ds, e⟩)] at hy
      exact concA_inj hx hy
def KOK (P : Program) (t : TypeId) (k : AV) : Prop := ∃ v l, conc k = some v ∧ keyOf P t v = some l
def TMap (P : Program) (t kt et : TypeId) : Prop := P.underlying t = some (.map kt et) ∧ Keyed P kt
section
variable {P : Program} {n : Nat} {f : Nat → AV} {H : Heap} {K : (Nat → AV) → Heap → Prop} {ty : TypeId} {pos : String} {after : Array Edge} {guard : Option (Nat × Bool)} {d : Nat}
def TEq (P : Program) (t : TypeId) : Prop :=
  Keyed P t ∧ P.eqGuardType P.depth t = false ∧ ∀ (w : World) (x y : Value) (lx ly : Lit), keyOf P t x = some lx → keyOf P t y = some ly → ∃ r : Bool, (Op.equal t x y).run P w = .ok r w ∧ (r = true ↔ lx = ly)
theorem TEq.mk' (hl : laidOutB P = true) {m : Nat} (hm : m + 1 ≤ 10000) {k : TypeId} (hrow : k < P.types.size) (hk : P.keyTypeAt m k = true)
    (hwide : (match P.underlying k with | some (.array _ _) | some (.struct _) => true | _ => false) = true) (hg : P.eqGuardType P.depth k = false) : TEq P k :=
  ⟨.of_law (deep_law_laid hl hm hrow hk hwide), hg, fun w _ _ _ _ hx hy => run_equal_deep w (by omega) hk hwide hx hy⟩
theorem TMap.mk' (hl : laidOutB P = true) {m : Nat} (hm : m + 1 ≤ 10000) {t k e : TypeId} (ht : P.underlying t = some (.map k e)) (hrow : k < P.types.size) (hk : P.keyTypeAt m k = true)
    (hwide : (match P.underlying k with | some (.array _ _) | some (.struct _) => true | _ => false) = true) : TMap P t k e :=
  ⟨ht, .of_law (deep_law_laid hl hm hrow hk hwide)⟩
theorem run_eqAgg {t : TypeId} (ht : TEq P t) {w : World} {μ : Nat → Nat} {xs ys : List AV} {x y : Value} (hx : VR w μ H (.agg xs) x) (hy : VR w μ H (.agg ys) y) (hkx : KOK P t (.agg xs)) (hky : KOK P t (.agg ys)) :
    ∃ r : Bool, (Op.equal t x y).run P w = .ok r w ∧ (r = true ↔ xs = ys) := by
  obtain ⟨u, lx, k1, k2⟩ := hkx
  obtain ⟨v, ly, k3, k4⟩ := hky
  have e1 := conc_VR hx k1
  have e2 := conc_VR hy k3
  subst e1 e2
  obtain ⟨r, h1, h2⟩ := ht.2.2 w x y lx ly k2 k4
  refine ⟨r, h1, h2.trans ⟨fun e => ?_, fun e => ?_⟩⟩
  · subst e
    have := ht.1.inj k2 k4
    subst this
    have := conc_inj k1 k3
    simpa using this
  · subst e
    rw [k1] at k3
    cases k3
    rw [k2] at k4
    cases k4
    rfl
theorem AOp.neAgg {t t' : TypeId} {x y : Operand} {xs ys : List AV} (hn : Nat.ble (d + 1) n = true) (hx : ev f x = .agg xs) (hy : ev f y = .agg ys) (ht : TEq P t) (hkx : KOK P t (.agg xs)) (hky : KOK P t (.agg ys))
    (hK : ∀ b : Bool, (b = true ↔ xs ≠ ys) → K (upd f d (.bool b)) H) : AOp P n ⟨some d, .binOp .neq t x y t', ty, pos, after, guard⟩ K f H := by
  intro μ a w hs Q
  have h1 := hs.ev x; rw [hx] at h1
  have h2 := hs.ev y; rw [hy] at h2
  obtain ⟨r, r1, r2⟩ := run_eqAgg ht h1 h2 hkx hky
  have : (execOp a.eval ⟨some d, .binOp .neq t x y t', ty, pos, after, guard⟩).run P w = .ok (.value (.bool !r)) w := by
    generalize hzx : a.eval x = zx at *
    generalize hzy : a.eval y = zy at *
    cases h1
    cases h2
    simp only [execOp, hzx, hzy, Sem.run_bind, run_eqGuard_agg w _ t x y _ _ ht.2.1, Result.andThen_ok, binOp, r1, Sem.run_pure]
  unfold Oper.wp
  rw [this]
  refine ⟨μ, _, H, hs.put (.refl _ _ _) hs.hr hn (.bool !r), .refl _ _ _, hK (!r) ?_⟩
  cases r with
  | true => simp [r2.1 rfl]
  | false => simpa using fun e => by have := r2.2 e; cases this
end
theorem freeze {w : World} {μ : Nat → Nat} {H : Heap} (hr : HR w μ H) {id ver : Nat} {cells : List AV} (hid : H id = some (.row ver cells)) :
    Ext w μ H w μ (updH H id (.dead ver)) ∧ HR w μ (updH H id (.dead ver)) ∧ Frz w μ (updH H id (.dead ver)) (μ id) := by
  have hno : ∀ b, Owned μ (updH H id (.dead ver)) b → Owned μ H b := by
    rintro b ⟨i, B, h1, h2, h3⟩
    rw [updH_eq] at h1
    by_cases g : i = id
    · rw [if_pos g] at h1; cases h1; cases h2
    · rw [if_neg g] at h1; exact ⟨i, B, h1, h2, h3⟩
  have he : Ext w μ H w μ (updH H id (.dead ver)) := by
    refine ⟨Nat.le_refl _, fun b h => ⟨rfl, fun h' => h.2 (hno b h')⟩, fun i v hk => ?_, fun i v hk ha => ?_, fun i hm => ?_, fun i hm => ?_, ⟨rfl, rfl, rfl, fun _ => Nat.le_refl _⟩⟩
    · obtain ⟨B, v', h1, h2, h3⟩ := hk
      by_cases g : i = id
      · subst g
        rw [hid] at h1; cases h1
        cases h2
        exact ⟨_, ver, by rw [updH_eq, if_pos rfl], rfl, h3⟩
      · exact ⟨B, v', by rw [updH_eq, if_neg g]; exact h1, h2, h3⟩
    · obtain ⟨c, ha⟩ := ha
      rw [updH_eq] at ha
      by_cases g : i = id
      · rw [if_pos g] at ha; cases ha
      · rw [if_neg g] at ha; exact ⟨⟨c, ha⟩, rfl, rfl⟩
    · obtain ⟨es, hm⟩ := hm
      have g : i ≠ id := by rintro rfl; rw [hid] at hm; cases hm
      exact ⟨⟨es, by rw [updH_eq, if_neg g]; exact hm⟩, rfl⟩
    · obtain ⟨it, hm⟩ := hm
      have g : i ≠ id := by rintro rfl; rw [hid] at hm; cases hm
      exact ⟨⟨it, by rw [updH_eq, if_neg g]; exact hm⟩, rfl⟩
  refine ⟨he, hr.change he (fun i => updH_eq _ _ _ _) (fun _ _ => rfl) (fun h => by cases h) (fun _ _ _ _ _ => rfl) (fun _ _ h => by cases h) (fun _ h => by cases h) (fun _ _ _ h => by cases h) (fun _ h => by cases h), hr.lt hid rfl, ?_⟩
  rintro ⟨i, B, h1, h2, h3⟩
  rw [updH_eq] at h1
  by_cases g : i = id
  · rw [if_pos g] at h1; cases h1; cases h2
  · rw [if_neg g] at h1
    exact g (hr.inj i id _ _ h1 hid h2 rfl h3)
theorem freeze_VR {w : World} {μ : Nat → Nat} {H : Heap} (hr : HR w μ H) {id ver : Nat} {cells : List AV} (hid : H id = some (.row ver cells)) {es off len : Nat} (hle : off + len * es ≤ cells.length) {v : Value} (hv : VR w μ H (.slm id ver es off len) v) :
    VR w μ (updH H id (.dead ver)) (.sl len ((cells.drop off).take (len * es))) v := by
  obtain ⟨he, _, hf⟩ := freeze hr hid
  obtain ⟨cap, rfl, hl, _, _⟩ := hv.slm_inv ⟨cells, hid⟩
  have hh := hr.holds hid
  have hex : ∀ j, j < len * es → ∃ y, w.cell? ⟨μ id, off + j, none⟩ = some y ∧ ∀ x, cells[off + j]? = some x → VR w μ H x y := by
    intro j hj
    have hlt : off + j < cells.length := by omega
    obtain ⟨y, h1, h2⟩ := hh (off + j) _ (List.getElem?_eq_getElem hlt)
    refine ⟨y, by simpa using h1, fun x hx => ?_⟩
    rw [List.getElem?_eq_getElem hlt] at hx; cases hx; exact h2
  let ys : Nat → Value := fun j => if h : j < len * es then Classical.choose (hex j h) else undef
  have hj : ∀ (j : Nat) (x : AV), ((cells.drop off).take (len * es))[j]? = some x → j < len * es ∧ cells[off + j]? = some x := by
    intro j x hx
    have hj : j < len * es := by
      rcases Nat.lt_or_ge j (len * es) with h' | h'
      · exact h'
      · rw [List.getElem?_eq_none (by simp; omega)] at hx; cases hx
    simp only [List.getElem?_take, hj, if_true, List.getElem?_drop] at hx
    exact ⟨hj, hx⟩
  refine .sl (ys := ys) hl hf (fun j x hx => ?_) (fun j x hx => ?_)
  · obtain ⟨h1, _⟩ := hj j x hx
    simp only [ys, dif_pos h1]; exact (Classical.choose_spec (hex j h1)).1
  · obtain ⟨h1, h2⟩ := hj j x hx
    simp only [ys, dif_pos h1]; exact ((Classical.choose_spec (hex j h1)).2 x h2).ext he
end Go.AH
namespace Go.AH
variable [Globs]
set_option linter.unusedSectionVars false
open Go Go.Maps
def Mono (H H' : Heap) : Prop := ∀ id B, H id = some B → H' id = some B
theorem Mono.refl (H : Heap) : Mono H H := fun _ _ h => h
theorem Mono.trans {H H1 H2 : Heap} (a : Mono H H1) (b : Mono H1 H2) : Mono H H2 := fun id B h => b id B (a id B h)
theorem Mono.free {H H1 : Heap} (m : Mono H H1) {id : Nat} (h : H1 id = none) : H id = none := by
  cases hh : H id with
  | none => rfl
  | some B => rw [m id B hh] at h; cases h
theorem Mono.new {H H1 H2 : Heap} (m : Mono H H1) {id : Nat} (h : H1 id = none) (ho : ∀ i, i ≠ id → H2 i = H1 i) : Mono H H2 := fun i B hi => by
  have : i ≠ id := by rintro rfl; rw [m.free h] at hi; cases hi
  rw [ho i this]; exact m i B hi
theorem Mono.set {H H1 H2 : Heap} (m : Mono H H1) {id : Nat} (h : H id = none) (ho : ∀ i, i ≠ id → H2 i = H1 i) : Mono H H2 := fun i B hi => by
  have : i ≠ id := by rintro rfl; rw [h] at hi; cases hi
  rw [ho i this]; exact m i B hi
theorem ne_new {H : Heap} {i id : Nat} {B : AB} (hi : H i = some B) (h : H id = none) : i ≠ id := by rintro rfl; rw [h] at hi; cases hi
theorem keep {H1 H2 : Heap} {id i : Nat} {B : AB} (ho : ∀ j, j ≠ id → H2 j = H1 j) (hne : i ≠ id) (hi : H1 i = some B) : H2 i = some B := (ho i hne).trans hi
def PC (P : Program) (g : FuncId) (args : List AV) (r : AV) : Prop := ∀ H, ACalls P g args H fun r' H' => r' = r ∧ Mono H H'
section
variable {P : Program} {n : Nat} {Q : Exit → (Nat → AV) → Heap → Prop} {f : Nat → AV} {H : Heap} {K : (Nat → AV) → Heap → Prop} {ty : TypeId} {pos : String} {after : Array Edge} {guard : Option (Nat × Bool)} {d : Nat}
theorem AOps.yes {ops : Array Oper} {i : Nat} {l : List Nat} {o oj : Oper} {j d d' : Nat} {b want : Bool} (ho : ops[i]? = some o) (hg : o.guard = some (j, want))
    (hj : ops[j]? = some oj) (hd : oj.dst = some d) (hd' : o.dst = some d') (hn : Nat.ble (d' + 1) n = true) (hf : f d = .bool b) (hb : b = want)
    (h : AOp P n o (AOps P n ops K l) f H) : AOps P n ops K (i :: l) f H :=
  .consg (b := some b) ho hg hj hd hd' hn hf (fun _ => h) (fun e => absurd (congrArg some hb) e)
theorem AOps.no {ops : Array Oper} {i : Nat} {l : List Nat} {o oj : Oper} {j d d' : Nat} {b want : Bool} (ho : ops[i]? = some o) (hg : o.guard = some (j, want))
    (hj : ops[j]? = some oj) (hd : oj.dst = some d) (hd' : o.dst = some d') (hn : Nat.ble (d' + 1) n = true) (hf : f d = .bool b) (hb : b ≠ want)
    (h : AOps P n ops K l (upd f d' (.tup [])) H) : AOps P n ops K (i :: l) f H :=
  .consg (b := some b) ho hg hj hd hd' hn hf (fun e => absurd (Option.some.inj e) hb) (fun _ => h)
theorem AOps.un {ops : Array Oper} {i : Nat} {l : List Nat} {o oj : Oper} {j d d' : Nat} {want : Bool} (ho : ops[i]? = some o) (hg : o.guard = some (j, want))
    (hj : ops[j]? = some oj) (hd : oj.dst = some d) (hd' : o.dst = some d') (hn : Nat.ble (d' + 1) n = true) (hf : f d = .tup [])
    (h : AOps P n ops K l (upd f d' (.tup [])) H) : AOps P n ops K (i :: l) f H :=
  .consg (b := none) ho hg hj hd hd' hn hf (fun e => by cases e) (fun _ => h)
theorem iadd {p q : Int} (h : -9223372036854775808 ≤ p + q ∧ p + q ≤ 9223372036854775807) : intBin .add .i64 p q = some (.int .i64 (p + q)) := by simp [intBin, IntWalk.i64_in _ h]
theorem isub {p q : Int} (h : -9223372036854775808 ≤ p - q ∧ p - q ≤ 9223372036854775807) : intBin .sub .i64 p q = some (.int .i64 (p - q)) := by simp [intBin, IntWalk.i64_in _ h]
theorem imul {p q : Int} (h : -9223372036854775808 ≤ p * q ∧ p * q ≤ 9223372036854775807) : intBin .mul .i64 p q = some (.int .i64 (p * q)) := by simp [intBin, IntWalk.i64_in _ h]
theorem AOp.store' {t : TypeId} {x y : Operand} {size id ver off : Nat} {cells cells' : List AV} (v : AV) (hx : ev f x = .ptr id ver off) (hy : ev f y = v) (ht : TSize P t size) (hid : H id = some (.row ver cells))
    (hone : v.cells.all AV.one = true) (hsz : v.cells.length = size) (hle : Nat.ble (off + size) cells.length = true) (hw : writeL cells off v.cells = cells')
    (hK : ∀ H', H' id = some (.row ver cells') → (∀ i, i ≠ id → H' i = H i) → K f H') :
    AOp P n ⟨none, .store t x y, ty, pos, after, guard⟩ K f H :=
  .store v hx hy ht hid hone hsz hle (hK _ (by rw [updH_same, hw]) fun _ h => updH_ne _ _ h)
theorem AOp.pcall {g : FuncId} {c : Operand} {args : Array Operand} {at_ : Array TypeId} {caps «as» : List AV} {r : AV} (hn : Nat.ble (d + 1) n = true) (hc : ev f c = .fn g caps) (has : args.toList.map (ev f) ++ caps = «as») (ht : TFun P g)
    (hC : PC P g «as» r) (hK : ∀ H', Mono H H' → K (upd f d r) H') : AOp P n ⟨some d, .call { callee := .value c, args, argTypes := at_ }, ty, pos, after, guard⟩ K f H :=
  .call (R := fun r' H' => r' = r ∧ Mono H H') hn hc rfl ht (by rw [has]; exact hC H) fun _ _ ⟨e, m⟩ => e ▸ hK _ m
def Ghost (n : Nat) (f : Nat → AV) (H : Heap) (f' : Nat → AV) (H' : Heap) : Prop := ∀ μ a w, SR n w μ f H a → SR n w μ f' H' a ∧ Ext w μ H w μ H'
theorem AWP.ghost {c : Code} {f' : Nat → AV} {H' : Heap} (hg : Ghost n f H f' H') (h : AWP P n c Q f' H') : AWP P n c Q f H := by
  intro μ a w hs
  obtain ⟨h1, h2⟩ := hg μ a w hs
  refine wp_mono (h μ a w h1) ?_
  rintro e a' w' ⟨μ', f2, H2, g1, g2, g3⟩
  exact ⟨μ', f2, H2, g1, h2.trans g2, g3⟩
theorem Ghost.freeze {t id ver es len : Nat} {cells : List AV} (hid : H id = some (.row ver cells)) (ht : f t = .slm id ver es 0 len) (hle : len * es ≤ cells.length) :
    Ghost n f H (upd f t (.sl len (cells.take (len * es)))) (updH H id (.dead ver)) := by
  intro μ a w hs
  obtain ⟨h1, h2, h3⟩ := AH.freeze hs.hr hid
  refine ⟨⟨h2, hs.size, fun u => ?_, hs.defers⟩, h1⟩
  rw [upd_eq]
  split
  · rename_i hu; subst hu
    have := freeze_VR hs.hr hid (es := es) (off := 0) (len := len) (by omega) (ht ▸ hs.slots u)
    simpa using this
  · exact (hs.slots u).ext h1
theorem VR.nil_sl {w : World} {μ : Nat → Nat} {v : Value} (h : VR w μ H .snil v) : VR w μ H (.sl 0 []) v := by cases h; exact .sl0 _ _
theorem Ghost.nil {t : Nat} (ht : f t = .snil) : Ghost n f H (upd f t (.sl 0 [])) H := by
  intro μ a w hs
  refine ⟨⟨hs.hr, hs.size, fun u => ?_, hs.defers⟩, .refl _ _ _⟩
  rw [upd_eq]
  split
  · rename_i hu; subst hu
    exact VR.nil_sl (ht ▸ hs.slots u)
  · exact hs.slots u
theorem recell {w : World} {μ : Nat → Nat} (hr : HR w μ H) {id ver : Nat} {cells cells' : List AV} (hid : H id = some (.row ver cells)) (hl : cells'.length = cells.length)
    (hc : ∀ (j : Nat) (x x' : AV) (y : Value), cells[j]? = some x → cells'[j]? = some x' → VR w μ H x y → VR w μ H x' y) :
    Ext w μ H w μ (updH H id (.row ver cells')) ∧ HR w μ (updH H id (.row ver cells')) := by
  obtain ⟨cs, T, b1, b2, b3⟩ := hr.rows id ver cells hid
  refine setrow (.refl _) hr (Nat.le_refl _) hid b1 b1 rfl (fun _ _ => rfl) rfl (by omega) fun j x' hx => ?_
  have hj : j < cells.length := by
    rcases Nat.lt_or_ge j cells'.length with h | h
    · omega
    · rw [List.getElem?_eq_none h] at hx; cases hx
  obtain ⟨y, g1, g2⟩ := b3 j _ (List.getElem?_eq_getElem hj)
  exact ⟨y, g1, hc j _ x' y (List.getElem?_eq_getElem hj) hx g2⟩
end
theorem Res.mono {P : Program} {n : Nat} {fn : Func} {f : Nat → AV} {H : Heap} {r r' : AV} (h : Res P n fn f H r) (hr : ∀ w μ v, VR w μ H r v → VR w μ H r' v) : Res P n fn f H r' :=
  fun μ a w hs => let ⟨v, h1, h2⟩ := h μ a w hs; ⟨v, h1, hr _ _ _ h2⟩
end Go.AH
namespace Go.AH
variable [Globs]
set_option linter.unusedSectionVars false
open Go
def maskOf (o : Oper) (acc : List Nat) : Nat := o.after.toList.foldl (fun s e => if Region.binds .any e then s ||| 2 ^ e.on ||| acc.getD e.on 0 else s) 0
def befL : List Oper → List Nat → List Nat
  | [], acc => acc
  | o :: l, acc => befL l (acc ++ [maskOf o acc])
def Dn (ops : Array Oper) (S : Nat → Bool) : Prop := ∀ j o, ops[j]? = some o → S j = true → ∀ e ∈ o.after, Region.binds .any e = true → S e.on = true
theorem mask_spec {o : Oper} {acc : List Nat} {S : Nat → Bool} (hacc : ∀ i m j, acc[i]? = some m → m.testBit j = true → S i = true → S j = true) (hr : ∀ e ∈ o.after, Region.binds .any e = true → S e.on = true) :
    ∀ j, (maskOf o acc).testBit j = true → S j = true := by
  have key : ∀ (l : List Edge) (s : Nat), (∀ e ∈ l, Region.binds .any e = true → S e.on = true) → (∀ j, s.testBit j = true → S j = true) →
      ∀ j, (l.foldl (fun s e => if Region.binds .any e then s ||| 2 ^ e.on ||| acc.getD e.on 0 else s) s).testBit j = true → S j = true := by
    intro l
    induction l with
    | nil => intro s _ hs j h; exact hs j h
    | cons e l ih =>
      intro s hl hs
      rw [List.foldl_cons]
      refine ih _ (fun e' he' => hl e' (List.mem_cons_of_mem _ he')) fun j hj => ?_
      split at hj
      · rename_i hb
        have hSe := hl e List.mem_cons_self hb
        simp only [Nat.testBit_or, Bool.or_eq_true] at hj
        rcases hj with (hj | hj) | hj
        · exact hs j hj
        · rw [Nat.testBit_two_pow] at hj
          have : e.on = j := by simpa using hj
          rw [← this]; exact hSe
        · rcases Nat.lt_or_ge e.on acc.length with h | h
          · rw [List.getD_eq_getElem?_getD, List.getElem?_eq_getElem h, Option.getD_some] at hj
            exact hacc _ _ _ (List.getElem?_eq_getElem h) hj hSe
          · rw [List.getD_eq_getElem?_getD, List.getElem?_eq_none h, Option.getD_none] at hj
            simp at hj
      · exact hs j hj
  exact key _ 0 (fun e he => hr e (Array.mem_toList_iff.1 he)) (fun j h => by simp at h)
theorem bef_spec {ops : Array Oper} {S : Nat → Bool} (hS : Dn ops S) : ∀ (l : List Oper) (acc : List Nat), (∀ j, l[j]? = ops[acc.length + j]?) →
    (∀ i m j, acc[i]? = some m → m.testBit j = true → S i = true → S j = true) → ∀ i m j, (befL l acc)[i]? = some m → m.testBit j = true → S i = true → S j = true
  | [], acc, _, h => h
  | o :: l, acc, hl, h => by
    rw [befL]
    refine bef_spec hS l _ (fun j => by have := hl (j + 1); simp only [List.getElem?_cons_succ] at this; rw [this]; simp only [List.length_append, List.length_cons, List.length_nil]; congr 1; omega) ?_
    intro i m j hi hj hSi
    rcases Nat.lt_or_ge i acc.length with h' | h'
    · rw [List.getElem?_append_left h'] at hi; exact h i m j hi hj hSi
    · rw [List.getElem?_append_right h'] at hi
      have h0 : i = acc.length := by
        rcases Nat.lt_or_ge (i - acc.length) 1 with h2 | h2
        · omega
        · rw [List.getElem?_eq_none (by simpa using h2)] at hi; cases hi
      subst h0
      simp only [Nat.sub_self, List.getElem?_cons_zero, Option.some.injEq] at hi
      subst hi
      have ho : ops[acc.length]? = some o := by have := hl 0; simpa using this.symm
      exact mask_spec h (fun e he hb => hS _ o ho hSi e he hb) j hj
def tmpsOf (o : Oper) : List Nat := o.op.operands.toList.filterMap fun | .tmp t => some t | _ => none
def guardSlot (ops : Array Oper) (o : Oper) : List Nat := match o.guard with | some (j, _) => ((ops[j]?).bind (·.dst)).toList | none => []
def quietB (ops : Array Oper) (k : Nat) : Bool :=
  let b := befL ops.toList []
  let ds := ops.toList.map (·.dst)
  Nat.ble k ops.size &&
  ((List.range k).all fun i =>
    match ops[i]? with
    | none => false
    | some o =>
      (match o.dst with | some _ => true | none => false) &&
      ((tmpsOf o ++ guardSlot ops o ++ o.dst.toList).all fun t => (List.range k).all fun j =>
        Nat.beq i j || (match ds[j]? with | some (some d) => !Nat.beq d t || (if j < i then (b.getD i 0).testBit j else (b.getD j 0).testBit i) | _ => true))) &&
  ((List.range ops.size).all fun i => i < k || (List.range i).all fun j => (b.getD i 0).testBit j)
def cur : List (Nat × AV) → Nat → (Nat → Bool) → (Nat → AV) → Nat → AV
  | [], _, _, f => f
  | (d, v) :: l, i, S, f => cur l (i + 1) S (if S i = true then upd f d v else f)
theorem cur_other {S : Nat → Bool} {t : Nat} : ∀ (l : List (Nat × AV)) (i : Nat) (f : Nat → AV), (∀ j p, l[j]? = some p → p.1 = t → S (i + j) = false) → cur l i S f t = f t
  | [], _, _, _ => rfl
  | (d, v) :: l, i, f, h => by
    rw [cur, cur_other l (i + 1) _ fun j p hj hp => by have := h (j + 1) p (by simpa using hj) hp; rw [show i + 1 + j = i + (j + 1) by omega]; exact this]
    split
    · rename_i hs
      have : t ≠ d := fun e => by have := h 0 (d, v) rfl e.symm; rw [Nat.add_zero, hs] at this; cases this
      exact upd_ne _ _ this
    · rfl
theorem cur_congr {S S' : Nat → Bool} {t : Nat} : ∀ (l : List (Nat × AV)) (i : Nat) (f g : Nat → AV), f t = g t → (∀ j p, l[j]? = some p → p.1 = t → S (i + j) = S' (i + j)) → cur l i S f t = cur l i S' g t
  | [], _, _, _, h, _ => h
  | (d, v) :: l, i, f, g, h, hs => by
    rw [cur, cur]
    refine cur_congr l (i + 1) _ _ ?_ fun j p hj hp => by have := hs (j + 1) p (by simpa using hj) hp; rw [show i + 1 + j = i + (j + 1) by omega]; exact this
    by_cases ht : t = d
    · have := hs 0 (d, v) rfl ht.symm
      rw [Nat.add_zero] at this
      rw [this]
      split
      · subst ht; simp
      · exact h
    · split <;> split <;> simp [upd_ne _ _ ht, h]
theorem cur_set {S : Nat → Bool} {i : Nat} : ∀ (l : List (Nat × AV)) (b : Nat) (f : Nat → AV) (d : Nat) (v : AV) (m : Nat), i = b + m → l[m]? = some (d, v) → S i = false → (∀ j p, l[j]? = some p → p.1 = d → m < j → S (b + j) = false) →
    ∀ t, cur l b (fun k => Nat.beq k i || S k) f t = upd (cur l b S f) d v t := by
  have beqf : ∀ x y : Nat, x ≠ y → Nat.beq x y = false := fun x y h => by
    cases hb : Nat.beq x y with
    | false => rfl
    | true => exact absurd (Nat.eq_of_beq_eq_true hb) h
  intro l b f d v m him hm hS hlater t
  rw [upd_eq]
  split
  · rename_i ht
    subst ht
    -- split at m
    have key : ∀ (l : List (Nat × AV)) (b m : Nat) (f : Nat → AV), l[m]? = some (t, v) → i = b + m → (∀ j p, l[j]? = some p → p.1 = t → m < j → S (b + j) = false) → cur l b (fun k => Nat.beq k i || S k) f t = v := by
      intro l
      induction l with
      | nil => intro b m f h; simp at h
      | cons p l ih =>
        intro b m f h hi hl
        obtain ⟨d', v'⟩ := p
        rw [cur]
        cases m with
        | zero =>
          simp only [List.getElem?_cons_zero, Option.some.injEq, Prod.mk.injEq] at h
          obtain ⟨rfl, rfl⟩ := h
          rw [cur_other]
          · rw [if_pos (by rw [hi, Nat.add_zero]; simp)]; simp
          · intro j p hj hp
            have := hl (j + 1) p (by simpa using hj) hp (by omega)
            rw [show b + 1 + j = b + (j + 1) by omega, this, Bool.or_false]
            exact beqf _ _ (by omega)
        | succ m =>
          exact ih (b + 1) m _ (by simpa using h) (by omega) fun j p hj hp hlt => by
            have := hl (j + 1) p (by simpa using hj) hp (by omega)
            rw [show b + 1 + j = b + (j + 1) by omega]; exact this
    exact key l b m f hm him hlater
  · rename_i ht
    refine cur_congr l b f f rfl fun j p hj hp => ?_
    have : b + j ≠ i := by
      intro e
      have : j = m := by omega
      subst this
      rw [hm] at hj; cases hj
      exact ht hp.symm
    rw [beqf _ _ this, Bool.false_or]
section
variable {P : Program} {n : Nat} {Q : Exit → (Nat → AV) → Heap → Prop} {f : Nat → AV} {H : Heap}
def QOp (P : Program) (n : Nat) (ops : Array Oper) (o : Oper) (d : Nat) (v : AV) (M : Heap → Prop) (f : Nat → AV) : Prop :=
  (o.guard = none ∧ ∀ f' H', (∀ t, (tmpsOf o).elem t = true → f' t = f t) → M H' → AOp P n o (fun f2 H2 => f2 = upd f' d v ∧ M H2) f' H') ∨
  (∃ j want oj dj b, o.guard = some (j, want) ∧ ops[j]? = some oj ∧ oj.dst = some dj ∧ f dj = gAV b ∧
    (b = some want → ∀ f' H', (∀ t, (tmpsOf o).elem t = true → f' t = f t) → M H' → AOp P n o (fun f2 H2 => f2 = upd f' d v ∧ M H2) f' H') ∧
    (b ≠ some want → v = .tup [] ∧ Nat.ble (d + 1) n = true))
theorem QOp.yes {ops : Array Oper} {o oj : Oper} {d j dj : Nat} {v : AV} {M : Heap → Prop} {b want : Bool} (hg : o.guard = some (j, want)) (hj : ops[j]? = some oj) (hd : oj.dst = some dj) (hf : f dj = .bool b) (hb : b = want)
    (h : ∀ f' H', (∀ t, (tmpsOf o).elem t = true → f' t = f t) → M H' → AOp P n o (fun f2 H2 => f2 = upd f' d v ∧ M H2) f' H') : QOp P n ops o d v M f :=
  .inr ⟨j, want, oj, dj, some b, hg, hj, hd, hf, fun _ => h, fun e => absurd (congrArg some hb) e⟩
theorem QOp.no {ops : Array Oper} {o oj : Oper} {d j dj : Nat} {M : Heap → Prop} {b want : Bool} (hg : o.guard = some (j, want)) (hj : ops[j]? = some oj) (hd : oj.dst = some dj) (hf : f dj = .bool b) (hb : b ≠ want) (hn : Nat.ble (d + 1) n = true) : QOp P n ops o d (.tup []) M f :=
  .inr ⟨j, want, oj, dj, some b, hg, hj, hd, hf, fun e => absurd (Option.some.inj e) hb, fun _ => ⟨rfl, hn⟩⟩
theorem QOp.un {ops : Array Oper} {o oj : Oper} {d j dj : Nat} {M : Heap → Prop} {want : Bool} (hg : o.guard = some (j, want)) (hj : ops[j]? = some oj) (hd : oj.dst = some dj) (hf : f dj = .tup []) (hn : Nat.ble (d + 1) n = true) : QOp P n ops o d (.tup []) M f :=
  .inr ⟨j, want, oj, dj, none, hg, hj, hd, hf, fun e => (by cases e), fun _ => ⟨rfl, hn⟩⟩
inductive QP (P : Program) (n : Nat) (ops : Array Oper) (M : Heap → Prop) (T : (Nat → AV) → Prop) (k : Nat) : Nat → (Nat → AV) → List (Nat × AV) → Prop
  | done {f : Nat → AV} (h : T f) : QP P n ops M T k k f []
  | op {i d : Nat} {f : Nat → AV} {v : AV} {L : List (Nat × AV)} {o : Oper} (ho : ops[i]? = some o) (hd : o.dst = some d) (h : QOp P n ops o d v M f) (rest : QP P n ops M T k (i + 1) (upd f d v) L) : QP P n ops M T k i f ((d, v) :: L)
theorem QP.len {ops : Array Oper} {M : Heap → Prop} {T : (Nat → AV) → Prop} {k b : Nat} {L : List (Nat × AV)} (h : QP P n ops M T k b f L) : b + L.length = k := by
  induction h with
  | done h => rfl
  | op ho hd h rest ih => simp only [List.length_cons]; omega
def QE (P : Program) (n : Nat) (ops : Array Oper) (M : Heap → Prop) (T : (Nat → AV) → Prop) (k i : Nat) (f : Nat → AV) : Prop := ∃ L, QP P n ops M T k i f L
theorem QE.done {ops : Array Oper} {M : Heap → Prop} {T : (Nat → AV) → Prop} {k : Nat} (h : T f) : QE P n ops M T k k f := ⟨_, .done h⟩
theorem QE.op {ops : Array Oper} {M : Heap → Prop} {T : (Nat → AV) → Prop} {k i d : Nat} {v : AV} {o : Oper} (ho : ops[i]? = some o) (hd : o.dst = some d) (h : QOp P n ops o d v M f) (rest : QE P n ops M T k (i + 1) (upd f d v)) : QE P n ops M T k i f :=
  let ⟨_, r⟩ := rest; ⟨_, .op ho hd h r⟩
theorem QP.get {ops : Array Oper} {M : Heap → Prop} {T : (Nat → AV) → Prop} {k b : Nat} {L : List (Nat × AV)} (h : QP P n ops M T k b f L) : T (cur L b (fun _ => true) f) ∧
    ∀ m d v, L[m]? = some (d, v) → ∃ o, ops[b + m]? = some o ∧ o.dst = some d ∧ QOp P n ops o d v M (cur (L.take m) b (fun _ => true) f) := by
  induction h with
  | done h => exact ⟨h, fun m d v hm => by simp at hm⟩
  | op ho hd h rest ih =>
    rename_i i d0 f v0 L o
    refine ⟨by rw [cur, if_pos rfl]; exact ih.1, fun m d v hm => ?_⟩
    cases m with
    | zero =>
      simp only [List.getElem?_cons_zero, Option.some.injEq, Prod.mk.injEq] at hm
      obtain ⟨rfl, rfl⟩ := hm
      exact ⟨o, ho, hd, h⟩
    | succ m =>
      obtain ⟨o', h1, h2, h3⟩ := ih.2 m d v (by simpa using hm)
      refine ⟨o', by rw [← h1]; congr 1; omega, h2, ?_⟩
      rw [List.take_succ_cons, cur, if_pos rfl]; exact h3
theorem cur_take {S : Nat → Bool} {t : Nat} : ∀ (l : List (Nat × AV)) (b : Nat) (f : Nat → AV) (m : Nat), (∀ j p, l[j]? = some p → p.1 = t → j < m → S (b + j) = true) → (∀ j p, l[j]? = some p → p.1 = t → m ≤ j → S (b + j) = false) →
    cur l b S f t = cur (l.take m) b (fun _ => true) f t
  | [], _, _, _, _, _ => by simp [cur]
  | (d, v) :: l, b, f, 0, _, h2 => by
    rw [List.take_zero, cur_other _ _ _ fun j p hj hp => h2 j p hj hp (Nat.zero_le _)]; rfl
  | (d, v) :: l, b, f, m + 1, h1, h2 => by
    rw [List.take_succ_cons, cur, cur, if_pos rfl]
    have h1' : ∀ j p, l[j]? = some p → p.1 = t → j < m → S (b + 1 + j) = true := fun j p hj hp hlt => by
      have := h1 (j + 1) p (by simpa using hj) hp (by omega)
      rw [show b + 1 + j = b + (j + 1) by omega]; exact this
    have h2' : ∀ j p, l[j]? = some p → p.1 = t → m ≤ j → S (b + 1 + j) = false := fun j p hj hp hlt => by
      have := h2 (j + 1) p (by simpa using hj) hp (by omega)
      rw [show b + 1 + j = b + (j + 1) by omega]; exact this
    by_cases ht : d = t
    · have := h1 0 (d, v) rfl ht (by omega)
      rw [Nat.add_zero] at this
      rw [if_pos this]
      exact cur_take (t := t) l (b + 1) _ m h1' h2'
    · rw [cur_take (t := t) l (b + 1) _ m h1' h2']
      refine cur_congr _ _ _ _ ?_ fun _ _ _ _ => rfl
      split
      · rw [upd_ne _ _ (Ne.symm ht)]
      · rw [upd_ne _ _ (Ne.symm ht)]
theorem AWP.region_quiet {id : Nat} {ops : Array Oper} (hm : P.follows .mixedOrders = true) (hback : backB ops = true) (k : Nat) (tail : List Nat) (htl : (List.range ops.size).drop k = tail) (hq : quietB ops k = true) (M : Heap → Prop) (hM : M H)
    (h : QE P n ops M (fun f => ∀ H', M H' → AOps P n ops (Q .normal) tail f H') k 0 f) : AWP P n (.region id ops true) Q f H := by
  obtain ⟨L, h⟩ := h
  have hL : L.length = k := by have := h.len; omega
  obtain ⟨hT, hops⟩ := h.get
  simp only [quietB, Bool.and_eq_true] at hq
  obtain ⟨⟨hk, hq1⟩, hq2⟩ := hq
  have hk := Nat.le_of_ble_eq_true hk
  rw [List.all_eq_true] at hq1 hq2
  subst htl
  -- what holds at each set: the frame is the sequential one; once the head is through, the tail's own condition
  let I : (Nat → Bool) → (Nat → AV) → Heap → Prop := fun S f' H' => Dn ops S ∧
    ((∀ i, k ≤ i → i < ops.size → S i = false) ∧ (∀ t, f' t = cur L 0 S f t) ∧ M H' ∨
     ∃ i, k < i ∧ i ≤ ops.size ∧ (∀ j, j < i → S j = true) ∧ (∀ j, i ≤ j → j < ops.size → S j = false) ∧ AOps P n ops (Q .normal) ((List.range ops.size).drop i) f' H')
  have beqf : ∀ x y : Nat, x ≠ y → Nat.beq x y = false := fun x y h => by
    cases hb : Nat.beq x y with
    | false => rfl
    | true => exact absurd (Nat.eq_of_beq_eq_true hb) h
  have hdn : ∀ (S : Nat → Bool) i o, Dn ops S → ops[i]? = some o → (∀ e ∈ o.after, Region.binds .any e = true → S e.on = true) → Dn ops (fun k => Nat.beq k i || S k) := by
    intro S i o hD ho hr j oj hj hS e he hb
    by_cases hji : j = i
    · subst hji
      rw [ho] at hj; cases hj
      simp [hr e he hb]
    · have hS : (Nat.beq j i || S j) = true := hS
      rw [beqf _ _ hji, Bool.false_or] at hS
      simp [hD j oj hj hS e he hb]
  have bef : ∀ (S : Nat → Bool), Dn ops S → ∀ i m j, (befL ops.toList [])[i]? = some m → m.testBit j = true → S i = true → S j = true := fun S hD => bef_spec hD ops.toList [] (fun j => by simp) (fun i m j hi => by simp at hi)
  have befD : ∀ (S : Nat → Bool), Dn ops S → ∀ i j, ((befL ops.toList []).getD i 0).testBit j = true → S i = true → S j = true := by
    intro S hD i j hb hS
    rcases Nat.lt_or_ge i (befL ops.toList []).length with h | h
    · rw [List.getD_eq_getElem?_getD, List.getElem?_eq_getElem h, Option.getD_some] at hb
      exact bef S hD i _ j (List.getElem?_eq_getElem h) hb hS
    · rw [List.getD_eq_getElem?_getD, List.getElem?_eq_none h, Option.getD_none] at hb
      simp at hb
  refine AWP.region_any hm hback I ⟨fun _ _ _ h => (by cases h), .inl ⟨fun _ _ _ => rfl, fun t => (cur_other L 0 f fun _ _ _ _ => rfl).symm, hM⟩⟩ ?_ ?_
  · -- a step
    intro S i o ho hSi hr f' H' ⟨hD, hcase⟩
    have hi : i < ops.size := by
      rcases Nat.lt_or_ge i ops.size with h' | h'
      · exact h'
      · rw [Array.getElem?_eq_none h'] at ho; cases ho
    have hD' := hdn S i o hD ho hr
    have hSi' : (fun k => Nat.beq k i || S k) i = true := by simp
    -- the tail's operations, from a state at which all before i are through
    have tailstep : k ≤ i → (∀ j, j < i → S j = true) → (∀ j, i ≤ j → j < ops.size → S j = false) → AOps P n ops (Q .normal) ((List.range ops.size).drop i) f' H' →
        (o.guard = none ∧ AOp P n o (I (fun k => Nat.beq k i || S k)) f' H') ∨
        (∃ j want oj d b, o.guard = some (j, want) ∧ ops[j]? = some oj ∧ oj.dst = some d ∧ f' d = gAV b ∧ (b = some want → AOp P n o (I (fun k => Nat.beq k i || S k)) f' H') ∧ (b ≠ some want → ∃ d', o.dst = some d' ∧ Nat.ble (d' + 1) n = true ∧ I (fun k => Nat.beq k i || S k) (upd f' d' (.tup [])) H')) := by
      intro hki hbef hlow hA
      have hdrop : (List.range ops.size).drop i = i :: (List.range ops.size).drop (i + 1) := by
        rw [List.drop_eq_getElem_cons (by simpa using hi)]; simp
      rw [hdrop] at hA
      obtain ⟨o', ho', hA⟩ := hA
      rw [ho] at ho'; cases ho'
      have hI : ∀ f2 H2, AOps P n ops (Q .normal) ((List.range ops.size).drop (i + 1)) f2 H2 → I (fun k => Nat.beq k i || S k) f2 H2 := fun f2 H2 h =>
        ⟨hD', .inr ⟨i + 1, by omega, by omega, fun j hj => by
          by_cases hji : j = i
          · subst hji; simp
          · simp [hbef j (by omega)], fun j hj1 hj2 => by show (Nat.beq j i || S j) = false; rw [beqf _ _ (by omega), Bool.false_or]; exact hlow j (by omega) hj2, h⟩⟩
      have mono : AOp P n o (AOps P n ops (Q .normal) ((List.range ops.size).drop (i + 1))) f' H' → AOp P n o (I (fun k => Nat.beq k i || S k)) f' H' := fun h μ a w hs E =>
        Oper.wp_mono (fun a' w' ⟨μ', f2, H2, g1, g2, g3⟩ => ⟨μ', f2, H2, g1, g2, hI _ _ g3⟩) (fun _ _ _ _ h => h) (h μ a w hs E)
      rcases hA with ⟨hg, hA⟩ | ⟨j, want, oj, d, b, hg, hj, hd, hfb, h1, h2⟩
      · exact .inl ⟨hg, mono hA⟩
      · refine .inr ⟨j, want, oj, d, b, hg, hj, hd, hfb, fun e => mono (h1 e), fun e => ?_⟩
        obtain ⟨d', hd', hn', h3⟩ := h2 e
        exact ⟨d', hd', hn', hI _ _ h3⟩
    rcases hcase with ⟨hlow, hf, hM'⟩ | ⟨i0, h1, h2, h3, h4, h5⟩
    · by_cases hik : i < k
      · -- in the head
        have hLi : i < L.length := by omega
        obtain ⟨o', ho', hd, hop⟩ := hops i L[i].1 L[i].2 (List.getElem?_eq_getElem hLi)
        rw [Nat.zero_add, ho] at ho'
        cases ho'
        have hq := hq1 i (List.mem_range.2 hik)
        rw [ho] at hq
        simp only [hd, Bool.true_and, List.all_eq_true, List.mem_range] at hq
        -- who writes a slot that i looks at, or writes
        have hw : ∀ t, t ∈ tmpsOf o ++ guardSlot ops o ++ [L[i].1] → ∀ j p, L[j]? = some p → p.1 = t → j ≠ i → (j < i → S j = true) ∧ (i < j → S j = false) := by
          intro t ht j p hj hp hne
          have hjk : j < k := by
            have := (List.getElem?_eq_some_iff.1 hj).1; omega
          have h1 := hq t (by simpa using ht) j hjk
          obtain ⟨oj, hoj, hdj, _⟩ := hops j p.1 p.2 hj
          rw [Nat.zero_add] at hoj
          have hds : (ops.toList.map (·.dst))[j]? = some (some p.1) := by simp [hoj, hdj]
          rw [hds] at h1
          simp only [beqf _ _ (Ne.symm hne), Bool.false_or, hp] at h1
          have htt : Nat.beq t t = true := by simp
          rw [htt] at h1
          simp only [Bool.not_true, Bool.false_or] at h1
          refine ⟨fun hlt => ?_, fun hlt => ?_⟩
          · rw [if_pos hlt] at h1
            have := befD _ hD' i j h1 hSi'
            have this : (Nat.beq j i || S j) = true := this
            rw [beqf _ _ hne, Bool.false_or] at this
            exact this
          · rw [if_neg (by omega)] at h1
            cases hSj : S j with
            | false => rfl
            | true =>
              have := befD S hD j i h1 hSj
              rw [hSi] at this; cases this
        have hval : ∀ t, t ∈ tmpsOf o ++ guardSlot ops o ++ [L[i].1] → f' t = cur (L.take i) 0 (fun _ => true) f t := by
          intro t ht
          rw [hf t]
          refine cur_take L 0 f i (fun j p hj hp hlt => ?_) (fun j p hj hp hge => ?_)
          · rw [Nat.zero_add]; exact (hw t ht j p hj hp (by omega)).1 hlt
          · rw [Nat.zero_add]
            by_cases hji : j = i
            · rw [hji]; exact hSi
            · exact (hw t ht j p hj hp hji).2 (by omega)
        have hnew : ∀ f2, f2 = upd f' L[i].1 L[i].2 → ∀ t, f2 t = cur L 0 (fun k => Nat.beq k i || S k) f t := by
          intro f2 h2 t
          rw [h2, cur_set L 0 f L[i].1 L[i].2 i (by omega) (List.getElem?_eq_getElem hLi) hSi (fun j p hj hp hlt => by
            rw [Nat.zero_add]; exact (hw L[i].1 (by simp) j p hj hp (by omega)).2 hlt) t, upd_eq, upd_eq, hf t]
        have hI : ∀ f2 H2, f2 = upd f' L[i].1 L[i].2 ∧ M H2 → I (fun k => Nat.beq k i || S k) f2 H2 := fun f2 H2 ⟨e, m⟩ =>
          ⟨hD', .inl ⟨fun j hj hj2 => by show (Nat.beq j i || S j) = false; rw [beqf _ _ (by omega), Bool.false_or]; exact hlow j hj hj2, hnew f2 e, m⟩⟩
        have mono : ∀ {K K' : (Nat → AV) → Heap → Prop}, (∀ f H, K f H → K' f H) → AOp P n o K f' H' → AOp P n o K' f' H' := fun hk h μ a w hs E =>
          Oper.wp_mono (fun a' w' ⟨μ', f2, H2, g1, g2, g3⟩ => ⟨μ', f2, H2, g1, g2, hk _ _ g3⟩) (fun _ _ _ _ h => h) (h μ a w hs E)
        rcases hop with ⟨hg, hop⟩ | ⟨j, want, oj, dj, b, hg, hj, hdj, hfb, hyes, hno⟩
        · exact .inl ⟨hg, mono hI (hop f' H' (fun t ht => hval t (by have := List.elem_iff.1 ht; simp [this])) hM')⟩
        · refine .inr ⟨j, want, oj, dj, b, hg, hj, hdj, ?_, fun hb => mono hI (hyes hb f' H' (fun t ht => hval t (by have := List.elem_iff.1 ht; simp [this])) hM'), fun hb => ?_⟩
          · rw [hval dj (by simp [guardSlot, hg, hj, hdj])]; exact hfb
          · obtain ⟨hv, hn⟩ := hno hb
            exact ⟨L[i].1, hd, hn, hI _ _ ⟨by rw [hv], hM'⟩⟩
      · -- the tail begins
        have hki : k ≤ i := by omega
        have hbef : ∀ j, j < i → S j = true := by
          intro j hj
          have h1 := hq2 i (List.mem_range.2 hi)
          simp only [Bool.or_eq_true, decide_eq_true_eq, List.all_eq_true, List.mem_range] at h1
          rcases h1 with h1 | h1
          · omega
          · have : (Nat.beq j i || S j) = true := befD _ hD' i j (h1 j hj) hSi'
            rw [beqf _ _ (by omega), Bool.false_or] at this
            exact this
        have hik' : i = k := by
          rcases Nat.lt_or_ge k i with h | h
          · have := hbef k h; rw [hlow k (Nat.le_refl _) (by omega)] at this; cases this
          · omega
        subst hik'
        refine tailstep (Nat.le_refl _) hbef hlow ?_
        have hfall : f' = cur L 0 (fun _ => true) f := by
          funext t
          rw [hf t]
          exact cur_congr L 0 f f rfl fun j p hj _ => by
            have := (List.getElem?_eq_some_iff.1 hj).1
            rw [Nat.zero_add]; exact hbef j (by omega)
        rw [hfall]
        exact hT H' hM'
    · have hii : i = i0 := by
        have hge : i0 ≤ i := by
          rcases Nat.lt_or_ge i i0 with h | h
          · rw [h3 i h] at hSi; cases hSi
          · exact h
        rcases Nat.lt_or_ge i0 i with h | h
        · have h1' := hq2 i (List.mem_range.2 hi)
          simp only [Bool.or_eq_true, decide_eq_true_eq, List.all_eq_true, List.mem_range] at h1'
          rcases h1' with h1' | h1'
          · omega
          · have : (Nat.beq i0 i || S i0) = true := befD _ hD' i i0 (h1' i0 h) hSi'
            rw [beqf _ _ (by omega), Bool.false_or, h4 i0 (Nat.le_refl _) (by omega)] at this
            cases this
        · omega
      subst hii
      exact tailstep (by omega) h3 h4 h5
  · -- the end
    intro S f' H' hall ⟨hD, hcase⟩
    rcases hcase with ⟨hlow, hf, hM'⟩ | ⟨i0, h1, h2, h3, h4, h5⟩
    · have hkn : k = ops.size := by
        rcases Nat.lt_or_ge k ops.size with h | h
        · have := hlow k (Nat.le_refl _) h; rw [hall k h] at this; cases this
        · omega
      have hfall : f' = cur L 0 (fun _ => true) f := by
        funext t
        rw [hf t]
        exact cur_congr L 0 f f rfl fun j p hj _ => by
          have := (List.getElem?_eq_some_iff.1 hj).1
          rw [Nat.zero_add]; exact hall j (by omega)
      have h5 := hT H' hM'
      rw [← hfall, hkn, List.drop_of_length_le (by simp)] at h5
      exact h5
    · have hi0 : i0 = ops.size := by
        rcases Nat.lt_or_ge i0 ops.size with h | h
        · have := h4 i0 (Nat.le_refl _) h; rw [hall i0 h] at this; cases this
        · omega
      rw [hi0, List.drop_of_length_le (by simp)] at h5
      exact h5
end
end Go.AH
namespace Go.AH
variable [Globs]
set_option linter.unusedSectionVars false
open Go Go.Maps
def Own (H0 H : Heap) (es : Nat) (v : AV) (len : Nat) (cells : List AV) : Prop :=
  (v = .snil ∧ len = 0 ∧ cells = []) ∨ ∃ id ver, v = .slm id ver es 0 len ∧ H id = some (.row ver cells) ∧ H0 id = none ∧ cells.length = len * es
def NotId (v : AV) (i : Nat) : Prop := ∀ id ver es off len, v = .slm id ver es off len → i ≠ id
theorem Own.nil (H0 H : Heap) (es : Nat) : Own H0 H es .snil 0 [] := .inl ⟨rfl, rfl, rfl⟩
theorem NotId.nil (i : Nat) : NotId .snil i := fun _ _ _ _ _ h => by cases h
theorem Own.mono {H0 H H' : Heap} {es : Nat} {v : AV} {len : Nat} {cells : List AV} (h : Own H0 H es v len cells) (m : Mono H H') : Own H0 H' es v len cells := by
  rcases h with h | ⟨id, ver, h1, h2, h3⟩
  · exact .inl h
  · exact .inr ⟨id, ver, h1, m id _ h2, h3⟩
theorem Own.keep {H0 H H' : Heap} {es : Nat} {v : AV} {len : Nat} {cells : List AV} (h : Own H0 H es v len cells) {i : Nat} (ho : ∀ j, j ≠ i → H' j = H j) (hn : NotId v i) : Own H0 H' es v len cells := by
  rcases h with h | ⟨id, ver, h1, h2, h3⟩
  · exact .inl h
  · exact .inr ⟨id, ver, h1, (ho id fun e => hn id ver es 0 len h1 e.symm).trans h2, h3⟩
theorem Own.notnew {H0 H : Heap} {es : Nat} {v : AV} {len : Nat} {cells : List AV} (h : Own H0 H es v len cells) {i : Nat} (hi : H i = none) : NotId v i := by
  rcases h with ⟨h, _⟩ | ⟨id, ver, h1, h2, h3⟩
  · subst h; exact .nil i
  · intro id' ver' es' off' len' e
    rw [h1] at e
    cases e
    rintro rfl
    rw [hi] at h2; cases h2
def at_ {α : Type} [Inhabited α] (xs : List α) (i : Int) : α := xs.getD i.toNat default
theorem ld1 {α : Type} [Inhabited α] {xs : List α} {e : α → AV} {i : Int} (h0 : 0 ≤ i) (h1 : i < xs.length) : loadv false 1 (i.toNat * 1) (xs.map e) = some (e (at_ xs i)) := by
  have h : i.toNat < xs.length := by omega
  simp [loadv, at_, h]
theorem flatMap_drop {α : Type} {e : α → List AV} {m : Nat} (he : ∀ x, (e x).length = m) : ∀ (xs : List α) (k : Nat), (xs.flatMap e).drop (k * m) = (xs.drop k).flatMap e
  | [], k => by simp
  | x :: xs, 0 => by simp
  | x :: xs, k + 1 => by
    rw [List.flatMap_cons, List.drop_succ_cons, ← flatMap_drop he xs k, Nat.add_mul, Nat.one_mul, Nat.add_comm, ← List.drop_drop]
    rw [List.drop_append_of_le_length (by rw [he x]; omega), ← he x, List.drop_length, List.nil_append]
theorem flatMap_length {α : Type} {e : α → List AV} {m : Nat} (he : ∀ x, (e x).length = m) : ∀ (xs : List α), (xs.flatMap e).length = xs.length * m
  | [] => by simp
  | x :: xs => by rw [List.flatMap_cons, List.length_append, flatMap_length he xs, he x, List.length_cons, Nat.add_mul]; omega
theorem ldM {α : Type} [Inhabited α] {xs : List α} {e : α → List AV} {m : Nat} (he : ∀ x, (e x).length = m) {i : Int} (h0 : 0 ≤ i) (h1 : i < xs.length) :
    loadv true m (i.toNat * m) (xs.flatMap e) = some (.agg (e (at_ xs i))) := by
  have h : i.toNat < xs.length := by omega
  have hl : i.toNat * m + m ≤ (xs.flatMap e).length := by
    rw [flatMap_length he]
    have : (i.toNat + 1) * m ≤ xs.length * m := Nat.mul_le_mul_right _ h
    rw [Nat.add_mul] at this; omega
  simp only [loadv, Nat.ble_eq_true_of_le hl]
  rw [flatMap_drop he, List.drop_eq_getElem_cons h, List.flatMap_cons, List.take_append_of_le_length (by rw [he]; exact Nat.le_refl _), List.take_of_length_le (by rw [he]; exact Nat.le_refl _)]
  simp [at_, h]
theorem ldF {α : Type} [Inhabited α] {xs : List α} {e : α → List AV} {m o : Nat} {v : AV} (he : ∀ x, (e x).length = m) {i : Int} (h0 : 0 ≤ i) (h1 : i < xs.length) (ho : (e (at_ xs i))[o]? = some v) (hom : o < m) :
    loadv false 1 (i.toNat * m + o) (xs.flatMap e) = some v := by
  have h : i.toNat < xs.length := by omega
  simp only [loadv]
  rw [← List.getElem?_drop, flatMap_drop he, List.drop_eq_getElem_cons h, List.flatMap_cons, List.getElem?_append_left (by rw [he]; exact hom)]
  simpa [at_, h] using ho
section
variable {P : Program} {n : Nat} {Q : Exit → (Nat → AV) → Heap → Prop} {f : Nat → AV} {H : Heap} {K : (Nat → AV) → Heap → Prop} {ty : TypeId} {pos : String} {after : Array Edge} {guard : Option (Nat × Bool)} {d : Nat}
theorem AWP.condT {c : Operand} {x y : Code} {b : Bool} (hc : ev f c = .bool b) (hb : b = true) (h : AWP P n x Q f H) : AWP P n (.cond c x y) Q f H :=
  .cond hc (fun _ => h) (fun e => by rw [hb] at e; cases e)
theorem AWP.condF {c : Operand} {x y : Code} {b : Bool} (hc : ev f c = .bool b) (hb : b = false) (h : AWP P n y Q f H) : AWP P n (.cond c x y) Q f H :=
  .cond hc (fun e => by rw [hb] at e; cases e) (fun _ => h)
theorem AOp.pickT {c x y : Operand} {b : Bool} (v : AV) (hn : Nat.ble (d + 1) n = true) (hc : ev f c = .bool b) (hb : b = true) (hx : ev f x = v)
    (hK : K (upd f d v) H) : AOp P n ⟨some d, .pick c x y, ty, pos, after, guard⟩ K f H :=
  .pick v hn hc (fun _ => hx) (fun e => by rw [hb] at e; cases e) hK
theorem AOp.pickF {c x y : Operand} {b : Bool} (v : AV) (hn : Nat.ble (d + 1) n = true) (hc : ev f c = .bool b) (hb : b = false) (hy : ev f y = v)
    (hK : K (upd f d v) H) : AOp P n ⟨some d, .pick c x y, ty, pos, after, guard⟩ K f H :=
  .pick v hn hc (fun e => by rw [hb] at e; cases e) (fun _ => hy) hK
theorem nb {b x : Bool} (h : b = x) : (!b) = !x := congrArg _ h
theorem ieq {k : IntKind} {p q : Int} : intBin .eql k p q = some (.bool (decide (p = q))) := rfl
theorem ine {k : IntKind} {p q : Int} : intBin .neq k p q = some (.bool (!decide (p = q))) := rfl
theorem AOp.len_own {t e : TypeId} {x : Operand} {m es : Nat} {v : AV} {H0 H1 : Heap} {cells : List AV} (hn : Nat.ble (d + 1) n = true) (hx : ev f x = v) (hv : Own H0 H1 es v m cells)
    (ht : P.underlying t = some (.slice e)) (hK : K (upd f d (.int .i64 m)) H) : AOp P n ⟨some d, .call { callee := .builtin .len, args := #[x], argTypes := #[t] }, ty, pos, after, guard⟩ K f H :=
  .len hn hx (by
    rcases hv with ⟨h1, h2, _⟩ | ⟨id, ver, h1, _⟩
    · exact .inl ⟨h1, h2⟩
    · exact .inr (.inr ⟨id, ver, es, 0, h1⟩)) ht hK
theorem AOp.append_own {st xt e es m bm len : Nat} {x y : Operand} {src v : AV} {cells old : List AV} {H0 : Heap} (hn : Nat.ble (d + 1) n = true) (ht : P.underlying st = some (.slice e)) (hs' : TSize P e es) (hz : TZn P e es) (hb : TBytes P e bm) (hbm : bm ≤ 1024) (hxt : NotInt P xt)
    (hx : ev f x = v) (ho : Own H0 H es v len old) (hm0 : Mono H0 H) (hy : ev f y = src) (hsrc : Src H es src m cells) (hone : ∀ c ∈ cells, c.one = true) (hm : 0 < m) (hbig : len + m ≤ 4294967296)
    (hK : ∀ v' H', Own H0 H' es v' (len + m) (old ++ cells) → Mono H0 H' → (∀ i, NotId v i → H i ≠ none → H' i = H i) → (∀ i, NotId v i → H i ≠ none → NotId v' i) → K (upd f d v') H') :
    AOp P n ⟨some d, .call { callee := .builtin .append, args := #[x, y], argTypes := #[st, xt] }, ty, pos, after, guard⟩ K f H := by
  have hlen : cells.length = m * es := by
    cases hsrc with
    | nil => simp
    | sl h => exact h
    | slm _ h => have := Nat.le_of_ble_eq_true h; simp; omega
  rcases ho with ⟨rfl, rfl, rfl⟩ | ⟨id, ver, rfl, h2, h3, h4⟩
  · refine .append_nil hn ht hs' hz hb hbm hxt hx hy hsrc hm (by omega) fun id H' g1 g2 g3 => ?_
    refine hK _ H' (.inr ⟨id, 0, by rw [Nat.zero_add], g2, hm0.free g1, by rw [Nat.zero_add]; exact hlen⟩) (hm0.new g1 g3) (fun i _ hi => g3 i fun e => hi (e ▸ g1)) (fun i _ hi id' ver' es' off' len' e => ?_) |> fun h => by simpa using h
    cases e
    rintro rfl
    exact hi g1
  · refine .append hn ht hs' hz hb hbm hxt hx h2 (by omega) hy hsrc hone hbig fun H' g1 g2 => ?_
    rw [List.take_of_length_le (by omega)] at g1
    refine hK _ H' (.inr ⟨id, ver + 1, rfl, g1, h3, by rw [List.length_append, hlen, h4, Nat.add_mul]⟩) (hm0.set h3 g2) (fun i hi _ => g2 i (hi id ver es 0 len rfl)) (fun i hi _ id' ver' es' off' len' e => ?_)
    cases e
    exact hi id ver es 0 len rfl
theorem AOp.pcallH {g : FuncId} {c : Operand} {args : Array Operand} {at_ : Array TypeId} {caps «as» : List AV} {r : AV} (hn : Nat.ble (d + 1) n = true) (hc : ev f c = .fn g caps) (has : args.toList.map (ev f) ++ caps = «as») (ht : TFun P g)
    (hC : ACalls P g «as» H fun r' H' => r' = r ∧ Mono H H') (hK : ∀ H', Mono H H' → K (upd f d r) H') : AOp P n ⟨some d, .call { callee := .value c, args, argTypes := at_ }, ty, pos, after, guard⟩ K f H :=
  .call (R := fun r' H' => r' = r ∧ Mono H H') hn hc rfl ht (by rw [has]; exact hC) fun _ _ ⟨e, m⟩ => e ▸ hK _ m
theorem AOp.ghost {o : Oper} {f' : Nat → AV} {H' : Heap} (hg : Ghost n f H f' H') (h : AOp P n o K f' H') : AOp P n o K f H := by
  intro μ a w hs Q
  obtain ⟨h1, h2⟩ := hg μ a w hs
  refine Oper.wp_mono ?_ (fun _ _ _ _ h => h) (h μ a w h1 Q)
  rintro a' w' ⟨μ', f2, H2, g1, g2, g3⟩
  exact ⟨μ', f2, H2, g1, h2.trans g2, g3⟩
end
theorem Own.snoc1 {α : Type} {H0 H : Heap} {es k : Nat} {v : AV} {xs : List α} {y : α} {e : α → AV} (hk : k = xs.length + 1) (h : Own H0 H es v k (xs.map e ++ [e y])) : Own H0 H es v (xs ++ [y]).length ((xs ++ [y]).map e) := by subst hk; simpa using h
theorem Own.snocM {α : Type} {H0 H : Heap} {es k : Nat} {v : AV} {xs : List α} {y : α} {e : α → List AV} (hk : k = xs.length + 1) (h : Own H0 H es v k (xs.flatMap e ++ e y)) : Own H0 H es v (xs ++ [y]).length ((xs ++ [y]).flatMap e) := by subst hk; simpa using h
theorem one_of {cells : List AV} (h : cells.all AV.one = true) : ∀ c ∈ cells, c.one = true := List.all_eq_true.1 h
theorem lcons {f : Nat → AV} {x : Operand} {v : AV} {xs : List Operand} {vs : List AV} (h : ev f x = v) (t : xs.map (ev f) = vs) : (x :: xs).map (ev f) = v :: vs := by rw [List.map_cons, h, t]
theorem lconsP {f : Nat → AV} {i : Nat} {x : Operand} {v : AV} {xs : List (Nat × Operand)} {vs : List (Nat × AV)} (h : ev f x = v) (t : xs.map (fun p => (p.1, ev f p.2)) = vs) : ((i, x) :: xs).map (fun p => (p.1, ev f p.2)) = (i, v) :: vs := by rw [List.map_cons, h, t]
theorem lo_of {f : Nat → AV} {x : Operand} {k : IntKind} {v : Int} (h : ev f x = .int k v) : loOf f (some x) = some v := by simp [loOf, h]
theorem hi_of {f : Nat → AV} {x : Operand} {k : IntKind} {v : Int} {len : Nat} (h : ev f x = .int k v) : hiOf f len (some x) = some v := by simp [hiOf, h]
theorem ble_of {a b : Bool} {x : Bool} (h : a = x) (hne : x ≠ b) : a ≠ b := h ▸ hne
section
variable {P : Program} {n : Nat} {f : Nat → AV} {H : Heap} {K : (Nat → AV) → Heap → Prop} {ty : TypeId} {pos : String} {after : Array Edge} {guard : Option (Nat × Bool)} {d : Nat}
theorem AOp.sliceST1 {α : Type} {xs : List α} {e : α → AV} {t : TypeId} {x : Operand} {lo hi : Option Operand} {l h : Int} (hn : Nat.ble (d + 1) n = true) (hx : ev f x = .sl xs.length (xs.map e)) (ht : TSlice P t 1)
    (hl : loOf f lo = some l) (hh : hiOf f xs.length hi = some h) (h0 : l = 0) (h1 : l ≤ h) (h2 : h ≤ xs.length)
    (hK : K (upd f d (.sl (xs.take h.toNat).length ((xs.take h.toNat).map e))) H) : AOp P n ⟨some d, .slice t x lo hi none, ty, pos, after, guard⟩ K f H := by
  subst h0
  refine .sliceS (es := 1) hn hx (by simp) ht hl hh (by omega) h1 h2 ?_
  have e1 : h.toNat - (0 : Int).toNat = (xs.take h.toNat).length := by simp; omega
  simp only [Int.toNat_zero, Nat.zero_mul, List.drop_zero, Nat.mul_one, Nat.sub_zero, ← List.map_take] at e1 ⊢
  rw [e1]
  rw [show xs.take (xs.take h.toNat).length = xs.take h.toNat by rw [← e1]]
  exact hK
theorem AOp.sliceSD1 {α : Type} {xs : List α} {e : α → AV} {t : TypeId} {x : Operand} {lo hi : Option Operand} {l h : Int} (hn : Nat.ble (d + 1) n = true) (hx : ev f x = .sl xs.length (xs.map e)) (ht : TSlice P t 1)
    (hl : loOf f lo = some l) (hh : hiOf f xs.length hi = some h) (h0 : 0 ≤ l) (h1 : l ≤ h) (h2 : h ≤ xs.length) (h3 : h = xs.length)
    (hK : K (upd f d (.sl (xs.drop l.toNat).length ((xs.drop l.toNat).map e))) H) : AOp P n ⟨some d, .slice t x lo hi none, ty, pos, after, guard⟩ K f H := by
  subst h3
  refine .sliceS (es := 1) hn hx (by simp) ht hl hh h0 h1 h2 ?_
  have e1 : (xs.length : Int).toNat - l.toNat = (xs.drop l.toNat).length := by simp
  simp only [Nat.mul_one, ← List.map_drop]
  rw [e1, List.take_of_length_le (by simp)]
  exact hK
theorem AOp.neAggD {t t' : TypeId} {x y : Operand} {xs ys : List AV} {p : Prop} [Decidable p] (hn : Nat.ble (d + 1) n = true) (hx : ev f x = .agg xs) (hy : ev f y = .agg ys) (ht : TEq P t) (hkx : KOK P t (.agg xs)) (hky : KOK P t (.agg ys)) (hp : p ↔ xs = ys)
    (hK : K (upd f d (.bool (!decide p))) H) : AOp P n ⟨some d, .binOp .neq t x y t', ty, pos, after, guard⟩ K f H :=
  .neAgg hn hx hy ht hkx hky fun b hb => by
    have : b = !decide p := by
      cases b with
      | true => rw [decide_eq_false (fun h => hb.1 rfl (hp.1 h))]; rfl
      | false =>
        have : p := Classical.byContradiction fun h => by have := hb.2 (fun e => h (hp.2 e)); cases this
        rw [decide_eq_true this]; rfl
    rw [this]; exact hK
end
theorem Res.zero {P : Program} {n : Nat} {fn : Func} {f : Nat → AV} {H : Heap} (hr : fn.results = #[]) : Res P n fn f H (.tup []) := by
  intro μ a w _
  exact ⟨.tuple #[], by simp [results, hr], .tup rfl (by simp)⟩
inductive RL (P : Program) (f : Nat → AV) (H : Heap) : List ResultVar → List AV → Prop
  | nil : RL P f H [] []
  | tmp {t : Nat} {v : AV} {rs : List ResultVar} {vs : List AV} (h : f t = v) (r : RL P f H rs vs) : RL P f H (.tmp t :: rs) (v :: vs)
  | cell {a t id ver off size : Nat} {agg : Bool} {cells : List AV} {v : AV} {rs : List ResultVar} {vs : List AV} (h : f a = .ptr id ver off) (ht : TY P t agg size) (hid : H id = some (.row ver cells)) (hv : loadv agg size off cells = some v) (r : RL P f H rs vs) : RL P f H (.cell a t :: rs) (v :: vs)
def rdRes (tmps : Array Value) : ResultVar → Sem Value
  | .tmp t => pure (tmps.getD t undef)
  | .cell x t => do loadVar t (← asAddr (tmps.getD x undef))
theorem results_rd (fn : Func) (tmps : Array Value) : results fn tmps = (do let vs ← fn.results.mapM (rdRes tmps); pure (if h : vs.size = 1 then vs[0] else .tuple vs)) := by
  unfold results
  refine congrArg (fun g => (do let vs ← fn.results.mapM g; pure (if h : vs.size = 1 then vs[0] else .tuple vs) : Sem Value)) ?_
  funext x
  cases x <;> rfl
theorem RL.run {P : Program} {n : Nat} {f : Nat → AV} {H : Heap} {w : World} {μ : Nat → Nat} {a : Act} (hs : SR n w μ f H a) {rs : List ResultVar} {vs : List AV} (h : RL P f H rs vs) :
    ∃ us : List Value, (rs.mapM (rdRes a.tmps)).run P w = .ok us w ∧ VRs w μ H vs us := by
  induction h with
  | nil => exact ⟨[], rfl, rfl, fun j x y h => by simp at h⟩
  | tmp h r ih =>
    obtain ⟨us, h1, h2, h3⟩ := ih
    rename_i t v rs vs
    refine ⟨a.tmps.getD t undef :: us, ?_, by simp [h2], fun j x y hx hy => ?_⟩
    · rw [List.mapM_cons]
      simp only [rdRes, Sem.run_bind, Sem.run_pure, Result.andThen_ok, h1]
    · cases j with
      | zero => simp only [List.getElem?_cons_zero, Option.some.injEq] at hx hy; subst hx hy; exact h ▸ hs.slots t
      | succ j => exact h3 j x y (by simpa using hx) (by simpa using hy)
  | cell h ht hid hv r ih =>
    obtain ⟨us, h1, h2, h3⟩ := ih
    rename_i x t id ver off size agg cells v rs vs
    have hx := hs.slots x
    rw [h] at hx
    generalize hz : a.tmps.getD x undef = z at hx
    cases hx with
    | ptr hk ha =>
      have := ha ⟨cells, hid⟩
      subst this
      obtain ⟨u, g1, g2⟩ := run_loadVar (P := P) (off := off) ht (hs.hr.holds hid) hv
      rw [Nat.zero_add] at g1
      refine ⟨u :: us, ?_, by simp [h2], fun j x y hx hy => ?_⟩
      · have g0 : ∀ (q : Addr), (asAddr (.pointer (some q))).run P w = .ok q w := fun _ => rfl
        rw [List.mapM_cons]
        simp only [rdRes, Sem.run_bind, hz, g0, Sem.run_pure, Result.andThen_ok, g1, h1]
      · cases j with
        | zero => simp only [List.getElem?_cons_zero, Option.some.injEq] at hx hy; subst hx hy; exact g2
        | succ j => exact h3 j x y (by simpa using hx) (by simpa using hy)
theorem Res.list {P : Program} {n : Nat} {fn : Func} {f : Nat → AV} {H : Heap} {rs : List ResultVar} {vs : List AV} (hr : fn.results = rs.toArray) (hl : (vs.length == 1) = false) (h : RL P f H rs vs) : Res P n fn f H (.tup vs) := by
  intro μ a w hs
  obtain ⟨us, h1, h2, h3⟩ := h.run hs
  refine ⟨.tuple us.toArray, ?_, .tup (by simpa using h2) fun j x y hx hy => h3 j x y hx (by simpa using hy)⟩
  have hne : us.length ≠ 1 := by
    intro e; rw [← h2] at e; rw [e] at hl; cases hl
  rw [results_rd, hr, Array.mapM_eq_mapM_toList]
  simp only [Sem.run_bind, Sem.run_map]
  rw [h1]
  simp only [Result.andThen_ok, List.size_toArray, hne, dif_neg, not_false_eq_true, Sem.run_pure]
theorem Res.list1 {P : Program} {n : Nat} {fn : Func} {f : Nat → AV} {H : Heap} {rs : List ResultVar} {v : AV} (hr : fn.results = rs.toArray) (h : RL P f H rs [v]) : Res P n fn f H v := by
  intro μ a w hs
  obtain ⟨us, h1, h2, h3⟩ := h.run hs
  match us, h2 with
  | [u], _ =>
    refine ⟨u, ?_, h3 0 v u rfl rfl⟩
    rw [results_rd, hr, Array.mapM_eq_mapM_toList]
    simp only [Sem.run_bind, Sem.run_map]
    rw [h1]
    simp [Sem.run_pure]
theorem Res.three {P : Program} {n : Nat} {fn : Func} {f : Nat → AV} {H : Heap} {t u v : Nat} {x y z : AV} (hr : fn.results = #[.tmp t, .tmp u, .tmp v]) (hx : f t = x) (hy : f u = y) (hz : f v = z) : Res P n fn f H (.tup [x, y, z]) :=
  .list (rs := [.tmp t, .tmp u, .tmp v]) hr rfl (.tmp hx (.tmp hy (.tmp hz .nil)))
end Go.AH
namespace Go.AH
variable [Globs]
set_option linter.unusedSectionVars false
open Go Go.Maps
def Sep (v w : AV) : Prop := ∀ i a b c d i' a' b' c' d', v = .slm i a b c d → w = .slm i' a' b' c' d' → i ≠ i'
theorem Sep.symm {v w : AV} (h : Sep v w) : Sep w v := fun _ _ _ _ _ _ _ _ _ _ h1 h2 e => h _ _ _ _ _ _ _ _ _ _ h2 h1 e.symm
theorem Sep.nilL (w : AV) : Sep .snil w := fun _ _ _ _ _ _ _ _ _ _ h => by cases h
theorem Sep.nilR (w : AV) : Sep w .snil := fun _ _ _ _ _ _ _ _ _ _ _ h => by cases h
theorem Sep.notId {v w : AV} (h : Sep w v) {i a b c d : Nat} (e : w = .slm i a b c d) : NotId v i := fun _ _ _ _ _ hv => h _ _ _ _ _ _ _ _ _ _ e hv
theorem Sep.ofNotId {v : AV} {i a b c d : Nat} (h : NotId v i) : Sep (.slm i a b c d) v := fun _ _ _ _ _ _ _ _ _ _ e1 e2 => by
  cases e1
  exact h _ _ _ _ _ e2
theorem Sep.ofNotId' {v : AV} {i a b c d : Nat} (h : NotId v i) : Sep v (.slm i a b c d) := (Sep.ofNotId h).symm
theorem NotId.slm {i j a b c d : Nat} (h : j ≠ i) : NotId (.slm i a b c d) j := fun _ _ _ _ _ e => by cases e; exact h
section
variable {H0 H H' : Heap} {es len : Nat} {v v' w : AV} {cells : List AV}
theorem Own.stay (h : Own H0 H es w len cells) (hs : Sep w v) (hk : ∀ i, NotId v i → H i ≠ none → H' i = H i) : Own H0 H' es w len cells := by
  rcases h with h | ⟨id, ver, h1, h2, h3⟩
  · exact .inl h
  · exact .inr ⟨id, ver, h1, (hk id (hs.notId h1) (by rw [h2]; simp)).trans h2, h3⟩
theorem Own.sep (h : Own H0 H es w len cells) (hs : Sep w v) (hk : ∀ i, NotId v i → H i ≠ none → NotId v' i) : Sep w v' := by
  rcases h with ⟨h, _⟩ | ⟨id, ver, h1, h2, h3⟩
  · subst h; exact .nilL _
  · subst h1; exact .ofNotId (hk id (hs.notId rfl) (by rw [h2]; simp))
theorem Own.free (h : Own H0 H es w len cells) {B : AB} {i : Nat} (hi : H0 i = some B) : NotId w i := by
  rcases h with ⟨h, _⟩ | ⟨id, ver, h1, h2, h3, _⟩
  · subst h; exact .nil i
  · subst h1; exact .slm fun e => by subst e; rw [hi] at h3; cases h3
theorem Own.pos (h : Own H0 H es v len cells) (hl : 0 < len) : ∃ id ver, v = .slm id ver es 0 len ∧ H id = some (.row ver cells) ∧ H0 id = none ∧ cells.length = len * es := by
  rcases h with ⟨_, h, _⟩ | h
  · omega
  · exact h
theorem Own.re {k : Nat} {cs : List AV} (h : Own H0 H es v len cells) (hk : len = k) (hc : cells = cs) : Own H0 H es v k cs := hk ▸ hc ▸ h
theorem Ghost.own {n t : Nat} {f : Nat → AV} (h : Own H0 H es v len cells) (ht : f t = v) (hm : Mono H0 H) :
    ∃ H', Ghost n f H (upd f t (.sl len cells)) H' ∧ Mono H0 H' ∧ (∀ i, NotId v i → H' i = H i) := by
  rcases h with ⟨h1, h2, h3⟩ | ⟨id, ver, h1, h2, h3, h4⟩
  · subst h1 h2 h3; exact ⟨H, .nil ht, hm, fun _ _ => rfl⟩
  · subst h1
    refine ⟨updH H id (.dead ver), ?_, hm.set h3 fun _ h => updH_ne _ _ h, fun i hi => updH_ne _ _ (hi _ _ _ _ _ rfl)⟩
    have := Ghost.freeze (n := n) h2 ht (by omega)
    rwa [List.take_of_length_le (by omega)] at this
theorem Ghost.trans {n : Nat} {f f1 f2 : Nat → AV} {H1 H2 : Heap} (a : Ghost n f H f1 H1) (b : Ghost n f1 H1 f2 H2) : Ghost n f H f2 H2 := fun μ s w hs =>
  let ⟨h1, h2⟩ := a μ s w hs
  let ⟨g1, g2⟩ := b μ s w h1
  ⟨g1, h2.trans g2⟩
theorem Ghost.refl {n : Nat} {f : Nat → AV} : Ghost n f H f H := fun _ _ _ hs => ⟨hs, .refl _ _ _⟩
theorem Ghost.ownCell {n k rid ver : Nat} {f : Nat → AV} {rc : List AV} (h : Own H0 H es v len cells) (hr : H rid = some (.row ver rc)) (h0 : H0 rid = none) (hk : rc[k]? = some v) (hne : NotId v rid) (hm : Mono H0 H) :
    ∃ H', Ghost n f H f H' ∧ H' rid = some (.row ver (rc.set k (.sl len cells))) ∧ Mono H0 H' ∧ (∀ i, i ≠ rid → NotId v i → H' i = H i) := by
  have hkl : k < rc.length := by
    rcases Nat.lt_or_ge k rc.length with h | h
    · exact h
    · rw [List.getElem?_eq_none h] at hk; cases hk
  rcases h with ⟨h1, h2, h3⟩ | ⟨id, fver, h1, h2, h3, h4⟩
  · subst h1 h2 h3
    refine ⟨updH H rid (.row ver (rc.set k (.sl 0 []))), ?_, updH_same _ _ _, hm.set h0 fun _ h => updH_ne _ _ h, fun i hi _ => updH_ne _ _ hi⟩
    intro μ a w hs
    obtain ⟨g1, g2⟩ := recell (cells' := rc.set k (.sl 0 [])) hs.hr hr (by simp) fun j x x' y hx hx' hv => by
      rw [List.getElem?_set] at hx'
      split at hx'
      · rename_i e; subst e
        simp only [hkl, if_true, Option.some.injEq] at hx'
        subst hx'
        rw [hk] at hx; cases hx
        exact VR.nil_sl hv
      · rw [hx] at hx'; cases hx'; exact hv
    exact ⟨⟨g2, hs.size, fun u => (hs.slots u).ext g1, hs.defers⟩, g1⟩
  · subst h1
    have hid : rid ≠ id := hne _ _ _ _ _ rfl
    have hr1 : updH H id (.dead fver) rid = some (.row ver rc) := (updH_ne _ _ hid).trans hr
    refine ⟨updH (updH H id (.dead fver)) rid (.row ver (rc.set k (.sl len cells))), ?_, updH_same _ _ _, (hm.set h3 fun _ h => updH_ne _ _ h).set h0 fun _ h => updH_ne _ _ h, fun i hi hn => (updH_ne _ _ hi).trans (updH_ne _ _ (hn _ _ _ _ _ rfl))⟩
    intro μ a w hs
    obtain ⟨f1, f2, f3⟩ := AH.freeze hs.hr h2
    obtain ⟨cs, T, b1, b2, b3⟩ := hs.hr.rows rid ver rc hr
    obtain ⟨g1, g2⟩ := setrow (.refl _) f2 (cells' := rc.set k (.sl len cells)) (Nat.le_refl ver) hr1 b1 b1 rfl (fun _ _ => rfl) rfl (by simpa using b2) fun j x' hx => by
      rw [List.getElem?_set] at hx
      split at hx
      · rename_i e; subst e
        simp only [hkl, if_true, Option.some.injEq] at hx
        subst hx
        obtain ⟨y, k1, k2⟩ := b3 k _ hk
        have := freeze_VR hs.hr h2 (es := es) (off := 0) (len := len) (by omega) k2
        rw [List.drop_zero, List.take_of_length_le (by omega)] at this
        exact ⟨y, k1, this⟩
      · obtain ⟨y, k1, k2⟩ := b3 j x' hx
        exact ⟨y, k1, k2.ext f1⟩
    exact ⟨⟨g2, hs.size, fun u => (hs.slots u).ext (f1.trans g1), hs.defers⟩, f1.trans g1⟩
end
theorem Own.stay2 {H0 H H' : Heap} {es len rid : Nat} {v w : AV} {cells : List AV} (h : Own H0 H es w len cells) (hs : Sep w v) (hr : NotId w rid) (hk : ∀ i, i ≠ rid → NotId v i → H' i = H i) : Own H0 H' es w len cells := by
  rcases h with h | ⟨id, ver, h1, h2, h3⟩
  · exact .inl h
  · exact .inr ⟨id, ver, h1, (hk id (fun e => hr _ _ _ _ _ h1 e.symm) (hs.notId h1)).trans h2, h3⟩
theorem AWP.unghost {P : Program} {n : Nat} {c : Code} {Q : Exit → (Nat → AV) → Heap → Prop} {f : Nat → AV} {H : Heap} (h : AWP P n c (fun e f H => ∃ f' H', Ghost n f H f' H' ∧ Q e f' H') f H) : AWP P n c Q f H := by
  intro μ a w hs
  refine wp_mono (h μ a w hs) ?_
  rintro e a' w' ⟨μ', f2, H2, g1, g2, f3, H3, g, q⟩
  obtain ⟨k1, k2⟩ := g _ _ _ g1
  exact ⟨μ', f3, H3, k1, g2.trans k2, q⟩
theorem ACalls.of_body' {P : Program} {g : FuncId} {fn : Func} {c : Code} {args : List AV} {H : Heap} {R : AV → Heap → Prop} {n : Nat}
    (hf : P.funcs[g]? = some fn) (hb : fn.body = some c) (hn : fn.ntmps = n) (hle : Nat.ble args.length n = true)
    (h : AWP P n c (fun e f H => ∃ f' H', Ghost n f H f' H' ∧ (e = .normal ∨ e = .ret) ∧ ∃ r, Res P n fn f' H' r ∧ R r H') (entry args) H) (hd : Globs.dfr = [] := by rfl) : ACalls P g args H R :=
  .of_body hf hb hn hle (.unghost h) hd
end Go.AH
namespace Go.AH
variable [Globs]
set_option linter.unusedSectionVars false
open Go
section
variable {P : Program} {n : Nat} {f : Nat → AV} {H : Heap} {K : (Nat → AV) → Heap → Prop} {ty : TypeId} {pos : String} {after : Array Edge} {guard : Option (Nat × Bool)} {d : Nat}
theorem AOp.indexAddrO {t : TypeId} {x ix : Operand} {k : IntKind} {i : Int} {len es id ver : Nat} {cells : List AV} (hn : Nat.ble (d + 1) n = true) (hx : ev f x = .slm id ver es 0 len) (hi : ev f ix = .int k i)
    (ht : TSlice P t es) (h0 : 0 ≤ i) (h1 : i < len) (hid : H id = some (.row ver cells)) (hK : K (upd f d (.ptr id ver (i.toNat * es))) H) : AOp P n ⟨some d, .indexAddr t x ix, ty, pos, after, guard⟩ K f H :=
  .indexAddrM hn hx hi ht h0 h1 ⟨_, hid⟩ (by rw [Nat.zero_add]; exact hK)
end
section
variable {P : Program} {n : Nat} {f : Nat → AV} {H H0 : Heap} {K : (Nat → AV) → Heap → Prop} {o : Oper} {c : Code} {Q : Exit → (Nat → AV) → Heap → Prop} {F : (Nat → AV) → Heap → Prop} {es len : Nat} {v : AV} {cells : List AV}
theorem AOp.frz (t : Nat) (h : Own H0 H es v len cells) (ht : f t = v) (hm : Mono H0 H) (hK : ∀ H', Mono H0 H' → (∀ i, NotId v i → H' i = H i) → AOp P n o K (upd f t (.sl len cells)) H') : AOp P n o K f H :=
  let ⟨H', g, m, k⟩ := Ghost.own (n := n) h ht hm
  .ghost g (hK H' m k)
theorem AWP.frz (t : Nat) (h : Own H0 H es v len cells) (ht : f t = v) (hm : Mono H0 H) (hK : ∀ H', Mono H0 H' → (∀ i, NotId v i → H' i = H i) → AWP P n c Q (upd f t (.sl len cells)) H') : AWP P n c Q f H :=
  let ⟨H', g, m, k⟩ := Ghost.own (n := n) h ht hm
  .ghost g (hK H' m k)
theorem Fin.frz (t : Nat) (h : Own H0 H es v len cells) (ht : f t = v) (hm : Mono H0 H) (hK : ∀ H', Mono H0 H' → (∀ i, NotId v i → H' i = H i) → ∃ f2 H2, Ghost n (upd f t (.sl len cells)) H' f2 H2 ∧ F f2 H2) : ∃ f2 H2, Ghost n f H f2 H2 ∧ F f2 H2 :=
  let ⟨H', g, m, k⟩ := Ghost.own (n := n) h ht hm
  let ⟨f2, H2, g2, q⟩ := hK H' m k
  ⟨f2, H2, g.trans g2, q⟩
variable {rid ver : Nat} {rc : List AV}
theorem AOp.frzCell (k : Nat) (h : Own H0 H es v len cells) (hr : H rid = some (.row ver rc)) (h0 : H0 rid = none) (hk : rc[k]? = some v) (hne : NotId v rid) (hm : Mono H0 H)
    (hK : ∀ H', H' rid = some (.row ver (rc.set k (.sl len cells))) → Mono H0 H' → (∀ i, i ≠ rid → NotId v i → H' i = H i) → AOp P n o K f H') : AOp P n o K f H :=
  let ⟨H', g, r, m, k⟩ := Ghost.ownCell (n := n) (f := f) h hr h0 hk hne hm
  .ghost g (hK H' r m k)
theorem AWP.frzCell (k : Nat) (h : Own H0 H es v len cells) (hr : H rid = some (.row ver rc)) (h0 : H0 rid = none) (hk : rc[k]? = some v) (hne : NotId v rid) (hm : Mono H0 H)
    (hK : ∀ H', H' rid = some (.row ver (rc.set k (.sl len cells))) → Mono H0 H' → (∀ i, i ≠ rid → NotId v i → H' i = H i) → AWP P n c Q f H') : AWP P n c Q f H :=
  let ⟨H', g, r, m, k⟩ := Ghost.ownCell (n := n) (f := f) h hr h0 hk hne hm
  .ghost g (hK H' r m k)
theorem Fin.frzCell (k : Nat) (h : Own H0 H es v len cells) (hr : H rid = some (.row ver rc)) (h0 : H0 rid = none) (hk : rc[k]? = some v) (hne : NotId v rid) (hm : Mono H0 H)
    (hK : ∀ H', H' rid = some (.row ver (rc.set k (.sl len cells))) → Mono H0 H' → (∀ i, i ≠ rid → NotId v i → H' i = H i) → ∃ f2 H2, Ghost n f H' f2 H2 ∧ F f2 H2) : ∃ f2 H2, Ghost n f H f2 H2 ∧ F f2 H2 :=
  let ⟨H', g, r, m, k⟩ := Ghost.ownCell (n := n) (f := f) h hr h0 hk hne hm
  let ⟨f2, H2, g2, q⟩ := hK H' r m k
  ⟨f2, H2, g.trans g2, q⟩
end
theorem lapp {α : Type} {l l1 caps r : List α} (h : l = l1) (h2 : l1 ++ caps = r) : l ++ caps = r := by rw [h, h2]
theorem lc {α : Type} {x y : α} {xs ys : List α} (h : x = y) (t : xs = ys) : x :: xs = y :: ys := by rw [h, t]
end Go.AH
namespace Go.AH
variable [Globs]
set_option linter.unusedSectionVars false
open Go Go.Maps
def inR (a : Int) : Prop := -9223372036854775808 ≤ a ∧ a ≤ 9223372036854775807
theorem wf_of {a : Int} (h : inR a) : (Lit.int .i64 a).wf = true := by
  unfold inR at h
  simp only [Lit.wf, Bool.and_eq_true, decide_eq_true_eq]
  exact ⟨h.1, h.2⟩
theorem concs {xs : List Int} : (xs.map fun x => AV.int .i64 x).mapM concA = some (xs.map fun x => Value.int .i64 x) := by
  induction xs with
  | nil => rfl
  | cons x xs ih => simp [List.mapM_cons, ih, concA]
theorem KOK.int {P : Program} {t : TypeId} {a : Int} (hu : P.underlying t = some (.int .i64)) (h : inR a) : KOK P t (.int .i64 a) := ⟨_, _, rfl, by
  unfold keyOf; rw [hu]; simp only [mapKey, hu, wf_of h]; rfl⟩
theorem Own.one_ {H0 H : Heap} {es len : Nat} {v : AV} {cells : List AV} (h : Own H0 H es v len cells) : v.one = true := by
  rcases h with ⟨h, _⟩ | ⟨id, ver, h, _⟩ <;> subst h <;> rfl
theorem Own.cells_ {H0 H : Heap} {es len : Nat} {v : AV} {cells : List AV} (h : Own H0 H es v len cells) : v.cells = [v] := by
  rcases h with ⟨h, _⟩ | ⟨id, ver, h, _⟩ <;> subst h <;> rfl
section
variable {P : Program} {n : Nat} {f : Nat → AV} {H : Heap} {K : (Nat → AV) → Heap → Prop} {ty : TypeId} {pos : String} {after : Array Edge} {guard : Option (Nat × Bool)} {d : Nat}
theorem AOp.storeO {t : TypeId} {x y : Operand} {id ver off es len : Nat} {cells cells' cs : List AV} {v : AV} {H0 H1 : Heap} (hx : ev f x = .ptr id ver off) (hy : ev f y = v) (ho : Own H0 H1 es v len cs) (ht : TSize P t 1) (hid : H id = some (.row ver cells))
    (hle : Nat.ble (off + 1) cells.length = true) (hw : writeL cells off [v] = cells')
    (hK : ∀ H', H' id = some (.row ver cells') → (∀ i, i ≠ id → H' i = H i) → K f H') :
    AOp P n ⟨none, .store t x y, ty, pos, after, guard⟩ K f H :=
  .store' v hx hy ht hid (by rw [ho.cells_]; simp [ho.one_]) (by rw [ho.cells_]; rfl) hle (by rw [ho.cells_]; exact hw) hK
end
end Go.AH
namespace Go.AH
variable [Globs]
set_option linter.unusedSectionVars false
open Go Go.Maps Go.ChangeMaps
section
variable {P : Program} {n : Nat} {f : Nat → AV} {H : Heap} {K : (Nat → AV) → Heap → Prop} {ty : TypeId} {pos : String} {after : Array Edge} {guard : Option (Nat × Bool)} {d : Nat}
theorem AOp.values {op : Op} (hn : Nat.ble (d + 1) n = true)
    (h : ∀ μ a w, SR n w μ f H a → ∃ x H' v w' μ', (execOp a.eval ⟨some d, op, ty, pos, after, guard⟩).run P w = .ok (.value v) w' ∧ Ext w μ H w' μ' H' ∧ HR w' μ' H' ∧ VR w' μ' H' x v ∧ K (upd f d x) H') :
    AOp P n ⟨some d, op, ty, pos, after, guard⟩ K f H := by
  intro μ a w hs Q
  obtain ⟨x, H', v, w', μ', h1, h2, h3, h4, hK⟩ := h μ a w hs
  unfold Oper.wp
  rw [h1]
  exact ⟨μ', _, H', hs.put h2 h3 hn h4, h2, hK⟩
theorem newiter {w : World} {μ : Nat → Nat} (hr : HR w μ H) {id m k : Nat} {es : List (AV × AV)} (hid : H id = none ∨ H id = some .res) (hm : H m = some (.map es)) :
    HR { w with heap := w.heap.push (.mapIter (some (μ m)) k #[] k) } (updN μ id w.heap.size) (updH H id (.iter (.map m k []))) := by
  have he := newblock hr hid (o := .mapIter (some (μ m)) k #[] k) (B := .iter (.map m k []))
  have hmi : m ≠ id := by rintro rfl; rcases hid with h | h <;> rw [h] at hm <;> cases hm
  refine hr.change he (fun i => updH_eq _ _ _ _) (fun i hi => by simp [updN, hi]) ?_ ?_ ?_ ?_ ?_ ?_
  · intro _ i C _ hi hC
    have := hr.lt hi hC
    simp only [updN, if_true]; omega
  · intro i C _ hi hC
    have := hr.lt hi hC
    rw [Array.getElem?_push, if_neg (Nat.ne_of_lt this)]
  · intro ver c hB; cases hB
  · intro es h; cases h
  · intro es _ _ h; cases h
  · intro it h
    cases h
    refine ⟨by simp [updN, It.obj, hmi], fun m' n' seen' e => ?_⟩
    cases e
    exact ⟨es, by rw [updH_eq, if_neg hmi]; exact hm⟩
theorem AOp.range {t kt et : TypeId} {x : Operand} {m : Nat} {es : List (AV × AV)} (hn : Nat.ble (d + 1) n = true) (hx : ev f x = .map m) (hm : H m = some (.map es)) (ht : P.underlying t = some (.map kt et))
    (hK : ∀ id H', H id = none → H' id = some (.iter (.map m es.length [])) → (∀ i, i ≠ id → H' i = H i) → K (upd f d (.it id)) H') : AOp P n ⟨some d, .range t x, ty, pos, after, guard⟩ K f H :=
  .fresh fun id hid => .value _ _ hn (fun μ a w hs => by
    have h1 := hs.ev x
    rw [hx] at h1
    generalize hzz : a.eval x = zz at h1
    cases h1
    obtain ⟨hd, ents, clock, g1, g2, g3⟩ := hs.hr.maps m es hm
    have hb := hs.hr.born m es ents clock hm g1
    have hc : clock = es.length := by rw [hb.1, g2]
    subst hc
    refine ⟨.pointer (some ⟨w.heap.size, 0, none⟩), { w with heap := w.heap.push (.mapIter (some (μ m)) es.length #[] es.length) }, updN μ id w.heap.size, ?_, newblock hs.hr (.inl hid), newiter hs.hr (.inl hid) hm, ?_⟩
    · simp [execOp, hzz, Instr.range, run_under ht, getObj, Sem.run, g1, newObj]
    · have := VR.iter (w := { w with heap := w.heap.push (.mapIter (some (μ m)) es.length #[] es.length) }) (μ := updN μ id w.heap.size) (H := updH H id (.iter (.map m es.length []))) (id := id) ⟨_, by rw [updH_eq, if_pos rfl]⟩
      simpa [updN] using this) (hK id _ hid (updH_same _ _ _) fun _ h => updH_ne _ _ h)
theorem setiter {w : World} {μ : Nat → Nat} (hr : HR w μ H) {id m k : Nat} {seen seen' : List Nat} (hid : H id = some (.iter (.map m k seen))) :
    Ext w μ H (setBlock w (μ id) (.mapIter (some (μ m)) k seen'.toArray k)) μ (updH H id (.iter (.map m k seen'))) ∧ HR (setBlock w (μ id) (.mapIter (some (μ m)) k seen'.toArray k)) μ (updH H id (.iter (.map m k seen'))) := by
  have hoth : ∀ b, b ≠ μ id → (setBlock w (μ id) (.mapIter (some (μ m)) k seen'.toArray k)).heap[b]? = w.heap[b]? := fun b h => by simp [setBlock, Ne.symm h]
  have hlt := hr.lt hid rfl
  have he : Ext w μ H (setBlock w (μ id) (.mapIter (some (μ m)) k seen'.toArray k)) μ (updH H id (.iter (.map m k seen'))) := by
    refine ⟨by simp [setBlock], fun b h => ⟨?_, ?_⟩, fun i v hk => ?_, fun i v hk ha => ?_, fun i hm => ?_, fun i hm => ?_, ⟨rfl, rfl, rfl, fun _ => Nat.le_refl _⟩⟩
    · exact hoth b fun e => h.2 ⟨id, _, hid, rfl, e.symm⟩
    · rintro ⟨i, B, h1, h2, h3⟩
      rw [updH_eq] at h1
      by_cases g : i = id
      · subst g; exact h.2 ⟨i, _, hid, rfl, h3⟩
      · rw [if_neg g] at h1; exact h.2 ⟨i, B, h1, h2, h3⟩
    · obtain ⟨B, v', h1, h2, h3⟩ := hk
      by_cases g : i = id
      · subst g
        rw [hid] at h1; cases h1
        cases h2
        exact ⟨_, 0, by rw [updH_eq, if_pos rfl], rfl, h3⟩
      · exact ⟨B, v', by rw [updH_eq, if_neg g]; exact h1, h2, h3⟩
    · obtain ⟨c, ha⟩ := ha
      rw [updH_eq] at ha
      by_cases g : i = id
      · rw [if_pos g] at ha; cases ha
      · rw [if_neg g] at ha
        refine ⟨⟨c, ha⟩, rfl, ?_⟩
        have hne : μ i ≠ μ id := fun e => g (hr.inj i id _ _ ha hid rfl rfl e)
        simp [bsize, setBlock, Ne.symm hne]
    · obtain ⟨es0, hm⟩ := hm
      have g : i ≠ id := by rintro rfl; rw [hid] at hm; cases hm
      exact ⟨⟨es0, by rw [updH_eq, if_neg g]; exact hm⟩, rfl⟩
    · obtain ⟨it, hm⟩ := hm
      by_cases g : i = id
      · exact ⟨⟨_, by rw [updH_eq, if_pos g]⟩, rfl⟩
      · exact ⟨⟨it, by rw [updH_eq, if_neg g]; exact hm⟩, rfl⟩
  refine ⟨he, hr.change he (fun i => updH_eq _ _ _ _) (fun _ _ => rfl) ?_ ?_ ?_ ?_ ?_ ?_⟩
  · intro _ i C g hi hC e
    exact g (hr.inj i id C _ hi hid hC rfl e.symm)
  · intro i C g hi hC
    exact hoth _ fun e => g (hr.inj i id C _ hi hid hC rfl e)
  · intro v c hB; cases hB
  · intro e hB; cases hB
  · intro es _ _ h; cases h
  · intro it h
    cases h
    refine ⟨by simp [setBlock, hlt, It.obj], fun m' n' seen2 e => ?_⟩
    cases e
    obtain ⟨es, h⟩ := (hr.iters id _ hid).2 m k seen rfl
    have g : m ≠ id := by rintro rfl; rw [hid] at h; cases h
    exact ⟨es, by rw [updH_eq, if_neg g]; exact h⟩
theorem AOp.next {x : Operand} {id m : Nat} {seen : List Nat} {es : List (AV × AV)} (hn : Nat.ble (d + 1) n = true) (hx : ev f x = .it id) (hid : H id = some (.iter (.map m es.length seen))) (hm : H m = some (.map es))
    (hno : (∀ j, j < es.length → j ∈ seen) → K (upd f d (.tup [.bool false])) H)
    (hyes : ∀ j e H', es[j]? = some e → j ∉ seen → H' id = some (.iter (.map m es.length (seen ++ [j]))) → (∀ i, i ≠ id → H' i = H i) → K (upd f d (.tup [.bool true, e.1, e.2])) H') : AOp P n ⟨some d, .next x false, ty, pos, after, guard⟩ K f H :=
  .values hn (fun μ a w hs => by
    have h1 := hs.ev x
    rw [hx] at h1
    have hp : a.eval x = .pointer (some ⟨μ id, 0, none⟩) := by
      generalize a.eval x = zz at h1
      cases h1
      rfl
    obtain ⟨hd, ents, clock, g1, g2, g3⟩ := hs.hr.maps m es hm
    have hb := hs.hr.born m es ents clock hm g1
    have hc : clock = es.length := by rw [hb.1, g2]
    subst hc
    obtain ⟨i1, _⟩ := hs.hr.iters id _ hid
    rcases run_next_at (P := P) w ty (μ id) (μ m) es.length es.length seen.toArray ents es.length i1 g1 (fun y hy => by
        obtain ⟨j, hj, rfl⟩ := List.mem_iff_getElem.1 hy
        have hj' : j < ents.size := by simpa using hj
        have := hb.2 j ents[j] (Array.getElem?_eq_getElem hj')
        simp only [Array.getElem_toList]; omega) (Nat.le_refl _) with ⟨r1, r2⟩ | ⟨e, r1, w1, r2, r3⟩
    · refine ⟨_, H, .tuple #[.bool false], w, μ, by simp [execOp, hp, r2], .refl _ _ _, hs.hr, .tup (cells := [.bool false]) rfl ?_, hno fun j hj => ?_⟩
      · intro j x y hx hy
        cases j with
        | zero => simp at hx hy; subst hx hy; exact .bool _
        | succ j => simp at hx
      · have hj' : j < ents.size := by omega
        have := hb.2 j ents[j] (Array.getElem?_eq_getElem hj')
        have hz := Array.eq_empty_of_size_eq_zero r1
        unfold leftOf at hz
        rw [Array.filter_eq_empty_iff] at hz
        have h2 := hz (ents[j]) (by simp)
        simpa [this] using h2
    · -- an entry
      unfold leftOf at r1
      simp only [Array.toList_filter, List.mem_filter, Array.mem_toList_iff] at r1
      obtain ⟨r0, r1⟩ := r1
      obtain ⟨j, hj, rfl⟩ := Array.mem_iff_getElem.1 r0
      have hjb := hb.2 j ents[j] (Array.getElem?_eq_getElem hj)
      have hje : j < es.length := by omega
      have hnot : j ∉ seen := by simpa [hjb] using r1
      obtain ⟨v1, v2⟩ := g3 j _ _ (List.getElem?_eq_getElem hje) (Array.getElem?_eq_getElem hj)
      have hw1 : w1.heap = w.heap := by rcases r2 with rfl | rfl <;> rfl
      obtain ⟨s1, s2⟩ := setiter (w := w1) (seen' := seen ++ [j]) (hs.hr.heap hw1) hid
      have hE : Ext w μ H (setBlock w1 (μ id) (.mapIter (some (μ m)) es.length (seen ++ [j]).toArray es.length)) μ (updH H id (.iter (.map m es.length (seen ++ [j])))) := (Ext.heap hw1 (by rcases r2 with rfl | rfl; exact .refl _; exact ⟨rfl, rfl, rfl, fun _ => Nat.le_succ _⟩)).trans s1
      have hp2 : seen.toArray.push ents[j].born = (seen ++ [j]).toArray := by rw [hjb]; simp
      rw [hp2] at r3
      refine ⟨_, _, _, _, μ, by simp only [execOp, hp, r3, Sem.run_map, Sem.run_bind, Result.andThen_ok]; rfl, hE, s2, .tup (cells := [.bool true, es[j].1, es[j].2]) rfl ?_, hyes j es[j] _ (List.getElem?_eq_getElem hje) hnot (updH_same _ _ _) fun _ h => updH_ne _ _ h⟩
      intro k x y hx hy
      match k, hx, hy with
      | 0, hx, hy => simp at hx hy; subst hx hy; exact .bool _
      | 1, hx, hy => simp at hx hy; subst hx hy; exact v1.ext hE
      | 2, hx, hy => simp at hx hy; subst hx hy; exact v2.ext hE
      | k + 3, hx, _ => simp at hx)
theorem AOp.entry {x : Operand} {id m j : Nat} {seen : List Nat} {es : List (AV × AV)} {e : AV × AV} (hn : Nat.ble (d + 1) n = true) (hx : ev f x = .it id) (hid : H id = some (.iter (.map m es.length (seen ++ [j])))) (hm : H m = some (.map es)) (he : es[j]? = some e)
    (hK : K (upd f d (.tup [e.1, e.2])) H) : AOp P n ⟨some d, .entry x, ty, pos, after, guard⟩ K f H :=
  .pureV _ hn (fun μ a w hs => by
    have h1 := hs.ev x
    rw [hx] at h1
    have hp : a.eval x = .pointer (some ⟨μ id, 0, none⟩) := by
      generalize a.eval x = zz at h1
      cases h1
      rfl
    obtain ⟨hd, ents, clock, g1, g2, g3⟩ := hs.hr.maps m es hm
    have hb := hs.hr.born m es ents clock hm g1
    have hc : clock = es.length := by rw [hb.1, g2]
    subst hc
    obtain ⟨i1, _⟩ := hs.hr.iters id _ hid
    have hje : j < es.length := (List.getElem?_eq_some_iff.1 he).1
    have hj : j < ents.size := by omega
    have hjb := hb.2 j ents[j] (Array.getElem?_eq_getElem hj)
    obtain ⟨v1, v2⟩ := g3 j _ _ he (Array.getElem?_eq_getElem hj)
    have hnd : (ents.toList.map (·.born)).Nodup := by
      rw [List.nodup_iff_pairwise_ne, List.pairwise_map, List.pairwise_iff_getElem]
      intro a b ha hb' hab e
      have h1 := hb.2 a ents[a] (Array.getElem?_eq_getElem (by simpa using ha))
      have h2 := hb.2 b ents[b] (Array.getElem?_eq_getElem (by simpa using hb'))
      simp only [Array.getElem_toList] at e
      omega
    have hr : w.heap[μ id]? = some (.mapIter (some (μ m)) es.length (seen.toArray.push ents[j].born) es.length) := by
      rw [i1, hjb]; simp [It.obj]
    have := run_entry_at (P := P) w (μ id) (μ m) es.length seen.toArray ents es.length ents[j] hr g1 (by simp) hnd
    refine ⟨_, by simp only [execOp, hp, this, Sem.run_map, Sem.run_bind, Result.andThen_ok]; rfl, .tup (cells := [e.1, e.2]) rfl ?_⟩
    intro k x y hx hy
    match k, hx, hy with
    | 0, hx, hy => simp at hx hy; subst hx hy; exact v1
    | 1, hx, hy => simp at hx hy; subst hx hy; exact v2
    | k + 2, hx, _ => simp at hx) hK
end
end Go.AH
namespace Go.AH
variable [Globs]
set_option linter.unusedSectionVars false
open Go Go.Maps
section
variable {P : Program} {n : Nat} {f : Nat → AV} {H : Heap} {K : (Nat → AV) → Heap → Prop} {ty : TypeId} {pos : String} {after : Array Edge} {guard : Option (Nat × Bool)} {d : Nat}
end
end Go.AH
namespace Go.AH
variable [Globs]
set_option linter.unusedSectionVars false
open Go
theorem AOp.xcall {P : Program} {n : Nat} {f : Nat → AV} {H : Heap} {K : (Nat → AV) → Heap → Prop} {ty : TypeId} {pos : String} {after : Array Edge} {guard : Option (Nat × Bool)} {d : Nat} {g : FuncId} {c : Operand} {args : Array Operand} {at_ : Array TypeId} {caps «as» : List AV} {R : AV → Heap → Prop} (hn : Nat.ble (d + 1) n = true) (hc : ev f c = .fn g caps) (has : args.toList.map (ev f) ++ caps = «as») (ht : TFun P g)
    (hC : ACalls P g «as» H R) (hK : ∀ r H', R r H' → K (upd f d r) H') : AOp P n ⟨some d, .call { callee := .value c, args, argTypes := at_ }, ty, pos, after, guard⟩ K f H :=
  .call hn hc rfl ht (by rw [has]; exact hC) hK
end Go.AH
namespace Go.AH
variable [Globs]
set_option linter.unusedSectionVars false
open Go
theorem Own.base {H0 H H' : Heap} {es len : Nat} {v : AV} {cells : List AV} (h : Own H H' es v len cells) (hm : Mono H0 H) : Own H0 H' es v len cells := by
  rcases h with h | ⟨id, ver, h1, h2, h3, h4⟩
  · exact .inl h
  · exact .inr ⟨id, ver, h1, h2, hm.free h3, h4⟩
theorem Sep.fresh {H0 H H' : Heap} {es es' len len' : Nat} {v w : AV} {cells cells' : List AV} (hw : Own H0 H es w len cells) (hv : Own H H' es' v len' cells') : Sep w v := by
  rcases hw with ⟨rfl, _, _⟩ | ⟨id, ver, rfl, h2, h3, h4⟩
  · exact Sep.nilL _
  · rcases hv with ⟨rfl, _, _⟩ | ⟨id', ver', rfl, g2, g3, g4⟩
    · exact Sep.nilR _
    · intro i a b c d i' a' b' c' d' e1 e2 e
      cases e1; cases e2; subst e
      rw [h2] at g3; cases g3
end Go.AH
namespace Go.AH
variable [Globs]
set_option linter.unusedSectionVars false
open Go
def SubAt (cells : List AV) (off : Nat) (sub : List AV) : Prop := ∀ (j : Nat) (x : AV), sub[j]? = some x → cells[off + j]? = some x
theorem SubAt.all {A : List AV} : SubAt A 0 A := fun j x h => by rw [Nat.zero_add]; exact h
theorem SubAt.skip {A B S : List AV} {n off off' : Nat} (hA : A.length = n) (ho : off = n + off') (h : SubAt B off' S) : SubAt (A ++ B) off S := fun j x hx => by
  subst ho hA
  rw [List.getElem?_append_right (by omega), show A.length + off' + j - A.length = off' + j by omega]
  exact h j x hx
section
variable {P : Program} {n : Nat} {f : Nat → AV} {H : Heap} {K : (Nat → AV) → Heap → Prop} {ty : TypeId} {pos : String} {after : Array Edge} {guard : Option (Nat × Bool)} {d : Nat}
end
theorem freeze_ptr {w : World} {μ : Nat → Nat} {H : Heap} (hr : HR w μ H) {id ver off : Nat} {cells : List AV} (hid : H id = some (.row ver cells)) {v : Value} (hv : VR w μ H (.ptr id ver off) v) : VR w μ (updH H id (.dead ver)) (.fptr cells off) v := by
  obtain ⟨he, _, hf⟩ := freeze hr hid
  have hh := hr.holds hid
  cases hv with
  | ptr hk ha =>
    have := ha ⟨cells, hid⟩
    subst this
    have hex : ∀ j, j < cells.length → ∃ y, w.cell? ⟨μ id, 0 + j, none⟩ = some y ∧ ∀ x, cells[j]? = some x → VR w μ H x y := by
      intro j hj
      obtain ⟨y, h1, h2⟩ := hh j _ (List.getElem?_eq_getElem hj)
      refine ⟨y, h1, fun x hx => ?_⟩
      rw [List.getElem?_eq_getElem hj] at hx; cases hx; exact h2
    let ys : Nat → Value := fun j => if h : j < cells.length then Classical.choose (hex j h) else undef
    have e : (⟨μ id, off, none⟩ : Addr) = ⟨μ id, 0 + off, none⟩ := by rw [Nat.zero_add]
    rw [e]
    refine .fptr (ys := ys) hf (fun j x hx => ?_) (fun j x hx => ?_)
    · have hj := (List.getElem?_eq_some_iff.1 hx).1
      simp only [ys, dif_pos hj]; exact (Classical.choose_spec (hex j hj)).1
    · have hj := (List.getElem?_eq_some_iff.1 hx).1
      simp only [ys, dif_pos hj]; exact ((Classical.choose_spec (hex j hj)).2 x hx).ext he
theorem Ghost.freezeP {n t id ver off : Nat} {f : Nat → AV} {H : Heap} {cells : List AV} (hid : H id = some (.row ver cells)) (ht : f t = .ptr id ver off) : Ghost n f H (upd f t (.fptr cells off)) (updH H id (.dead ver)) := by
  intro μ a w hs
  obtain ⟨h1, h2, h3⟩ := AH.freeze hs.hr hid
  refine ⟨⟨h2, hs.size, fun u => ?_, hs.defers⟩, h1⟩
  rw [upd_eq]
  split
  · rename_i hu; subst hu
    exact freeze_ptr hs.hr hid (ht ▸ hs.slots u)
  · exact (hs.slots u).ext h1
section
variable {P : Program} {n : Nat} {f : Nat → AV} {H H0 : Heap} {K : (Nat → AV) → Heap → Prop} {o : Oper} {c : Code} {Q : Exit → (Nat → AV) → Heap → Prop} {F : (Nat → AV) → Heap → Prop} {id ver off : Nat} {cells : List AV}
theorem AOp.frzP (t : Nat) (hid : H id = some (.row ver cells)) (h0 : H0 id = none) (ht : f t = .ptr id ver off) (hm : Mono H0 H) (hK : ∀ H', Mono H0 H' → (∀ i, i ≠ id → H' i = H i) → AOp P n o K (upd f t (.fptr cells off)) H') : AOp P n o K f H :=
  .ghost (Ghost.freezeP hid ht) (hK _ (hm.set h0 fun _ h => updH_ne _ _ h) fun _ h => updH_ne _ _ h)
theorem AWP.frzP (t : Nat) (hid : H id = some (.row ver cells)) (h0 : H0 id = none) (ht : f t = .ptr id ver off) (hm : Mono H0 H) (hK : ∀ H', Mono H0 H' → (∀ i, i ≠ id → H' i = H i) → AWP P n c Q (upd f t (.fptr cells off)) H') : AWP P n c Q f H :=
  .ghost (Ghost.freezeP hid ht) (hK _ (hm.set h0 fun _ h => updH_ne _ _ h) fun _ h => updH_ne _ _ h)
theorem Fin.frzP (t : Nat) (hid : H id = some (.row ver cells)) (h0 : H0 id = none) (ht : f t = .ptr id ver off) (hm : Mono H0 H) (hK : ∀ H', Mono H0 H' → (∀ i, i ≠ id → H' i = H i) → ∃ f2 H2, Ghost n (upd f t (.fptr cells off)) H' f2 H2 ∧ F f2 H2) : ∃ f2 H2, Ghost n f H f2 H2 ∧ F f2 H2 :=
  let ⟨f2, H2, g2, q⟩ := hK _ (hm.set h0 fun _ h => updH_ne _ _ h) fun _ h => updH_ne _ _ h
  ⟨f2, H2, Ghost.trans (Ghost.freezeP hid ht) g2, q⟩
def UN (P : Program) (n : Nat) (b : Code) (Q : Exit → (Nat → AV) → Heap → Prop) : Nat → (Nat → AV) → Heap → Prop
  | 0, _, _ => False
  | N + 1, f, H => AWP P n b (Then (UN P n b Q N) Q) f H
theorem UN.step {b : Code} {N : Nat} (h : AWP P n b (Then (UN P n b Q N) Q) f H) : UN P n b Q (N + 1) f H := h
end
theorem wr_skip {A B C vs : List AV} {n off off' : Nat} (hA : A.length = n) (ho : off = n + off') (hw : writeL B off' vs = C) : writeL (A ++ B) off vs = A ++ C := by
  subst hw ho hA
  unfold writeL
  rw [List.take_append, List.take_of_length_le (by omega), List.drop_append, List.drop_of_length_le (show A.length ≤ A.length + off' + vs.length by omega)]
  simp only [Nat.add_sub_cancel_left, List.nil_append, List.append_assoc]
  congr 3
  congr 1
  omega
section
variable {P : Program} {n : Nat} {f : Nat → AV} {H : Heap} {K : (Nat → AV) → Heap → Prop} {ty : TypeId} {pos : String} {after : Array Edge} {guard : Option (Nat × Bool)} {d : Nat}
end
end Go.AH
namespace Go.AH
variable [Globs]
set_option linter.unusedSectionVars false
open Go Go.Maps
def flatI (P : Program) : Nat → TypeId → Bool
  | 0, _ => false
  | d + 1, t =>
    match P.underlying t with
    | some (.int .i64) => P.cellsOf t == 1
    | some (.array n e) => flatI P d e && P.cellsOf t == n * P.cellsOf e
    | some (.struct fs) => fs.all (·.name != "_") && fs.toList.all fun f => flatI P d f.type && Nat.ble (f.offset + P.cellsOf f.type) (P.cellsOf t)
    | _ => false
theorem mapM_ex {α β : Type} {f : α → Option β} : ∀ {l : List α}, (∀ x ∈ l, ∃ y, f x = some y) → ∃ ys, l.mapM f = some ys
  | [], _ => ⟨[], rfl⟩
  | x :: l, h => by
    obtain ⟨y, hy⟩ := h x (.head _)
    obtain ⟨ys, hys⟩ := mapM_ex fun z hz => h z (.tail _ hz)
    exact ⟨y :: ys, by rw [List.mapM_cons, hy, hys]; rfl⟩
theorem flat_lits {P : Program} : ∀ (k d : Nat) (t : TypeId), k ≤ d → flatI P k t = true → ∀ xs : List Int, xs.length = P.cellsOf t → (∀ x ∈ xs, inR x) → ∃ ls, P.keyLits d t (xs.map fun x => .int .i64 x) = some ls
  | 0, _, _, _, h, _, _, _ => by cases h
  | k + 1, d, t, hd, h, xs, hl, hx => by
    obtain ⟨d, rfl⟩ : ∃ e, d = e + 1 := ⟨d - 1, by omega⟩
    have cut : ∀ o c, o + c ≤ xs.length → ((xs.map fun x => Value.int .i64 x).drop o).take c = ((xs.drop o).take c).map fun x => Value.int .i64 x := fun o c _ => by rw [← List.map_drop, ← List.map_take]
    have cl : ∀ o c, o + c ≤ xs.length → ((xs.drop o).take c).length = c := fun o c h => by rw [List.length_take, List.length_drop]; omega
    have ci : ∀ o c, ∀ x ∈ (xs.drop o).take c, inR x := fun o c x hxx => hx x (List.mem_of_mem_drop (List.mem_of_mem_take hxx))
    unfold flatI at h
    rw [Program.keyLits.eq_def]
    cases hu : P.underlying t with
    | none => rw [hu] at h; cases h
    | some u =>
      rw [hu] at h
      cases u <;> try (cases h; done)
      · rename_i q
        cases q <;> try (cases h; done)
        simp only at h
        rw [beq_iff_eq] at h
        match xs, hl, hx with
        | [], hl, _ => simp at hl; omega
        | [x], _, hx => exact ⟨[.int .i64 x], by simp [hu, wf_of (hx x (.head _))]⟩
        | _ :: _ :: _, hl, _ => simp at hl; omega
      · rename_i n e
        simp only [Bool.and_eq_true, beq_iff_eq] at h
        obtain ⟨ys, hys⟩ := mapM_ex (f := fun i => P.keyLits d e (((xs.map fun x => Value.int .i64 x).drop (i * P.cellsOf e)).take (P.cellsOf e))) (l := List.range n) fun i hi => by
          rw [List.mem_range] at hi
          have hle : i * P.cellsOf e + P.cellsOf e ≤ xs.length := by
            rw [hl, h.2]
            have := Nat.mul_le_mul_right (P.cellsOf e) (show i + 1 ≤ n from hi)
            rw [Nat.add_mul] at this; omega
          simp only [cut _ _ hle]
          exact flat_lits k d e (by omega) h.1 _ (cl _ _ hle) (ci _ _)
        refine ⟨ys.flatten, ?_⟩
        simp only [hu, List.length_map, hl, if_true]
        rw [hys]; rfl
      · rename_i fs
        simp only [Bool.and_eq_true] at h
        obtain ⟨ys, hys⟩ := mapM_ex (f := fun f : Field => P.keyLits d f.type (((xs.map fun x => Value.int .i64 x).drop f.offset).take (P.cellsOf f.type))) (l := fs.toList) fun f hf => by
          have g := List.all_eq_true.1 h.2 f hf
          simp only [Bool.and_eq_true] at g
          have hle : f.offset + P.cellsOf f.type ≤ xs.length := by rw [hl]; exact Nat.le_of_ble_eq_true g.2
          simp only [cut _ _ hle]
          exact flat_lits k d f.type (by omega) g.1 _ (cl _ _ hle) (ci _ _)
        refine ⟨ys.flatten, ?_⟩
        simp only [hu, List.length_map, hl, h.1, and_self, if_true]
        rw [hys]; rfl
theorem KOK.flat {P : Program} {t : TypeId} {xs : List Int} (k : Nat) (hw : (match P.underlying t with | some (.array _ _) | some (.struct _) => true | _ => false) = true) (hk : P.keyType t = true) (hs : Nat.ble k P.types.size = true) (hf : flatI P k t = true) (hc : P.cellsOf t = xs.length) (h : ∀ x ∈ xs, inR x) : KOK P t (.agg (xs.map fun x => .int .i64 x)) := by
  obtain ⟨ls, hl⟩ := flat_lits k (P.types.size + 1) t (by have := Nat.le_of_ble_eq_true hs; omega) hf xs hc.symm h
  refine ⟨.agg (xs.map fun x => Value.int .i64 x).toArray, .string (keyBytes ls), by simp only [conc, concs, Option.map_some], ?_⟩
  unfold keyOf
  cases hu : P.underlying t with
  | none => rw [hu] at hw; cases hw
  | some u =>
    rw [hu] at hw
    have h1 : Value.formed P t (.agg (xs.map fun x => Value.int .i64 x).toArray) = true := by
      cases u <;> first | (cases hw; done) | simp [Value.formed, hu, hc]
    cases u <;> first | (cases hw; done) | (simp only [h1, hk, Bool.and_self, if_true, Value.cells, hl, Option.map_some])
section
variable {P : Program} {n : Nat} {f : Nat → AV} {H : Heap} {K : (Nat → AV) → Heap → Prop} {ty : TypeId} {pos : String} {after : Array Edge} {guard : Option (Nat × Bool)} {d : Nat}
end
end Go.AH
