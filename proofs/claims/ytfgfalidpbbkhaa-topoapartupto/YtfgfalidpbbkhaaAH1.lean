/- A part of the proof that a law of the edges and fans of faces answers true for every input of its bulk: own work, by an AI agent. -/
import Derived.Test.YtfgfalidpbbkhaaAH0
import Derived.LoopN
set_option linter.unusedVariables false
set_option linter.unusedSimpArgs false
namespace Go.AH
open Go

/-- What a piece of code comes to: a state that is told, in a world that goes on from this one. -/
def Post (n : Nat) (μ : Nat → Nat) (H : Heap) (w : World) (Q : Exit → (Nat → AV) → Heap → Prop) : Exit → Act → World → Prop :=
  fun e a' w' => ∃ μ' f' H', SR n w' μ' f' H' a' ∧ Ext w μ H w' μ' H' ∧ Q e f' H'

def AWP (P : Program) (n : Nat) (c : Code) (Q : Exit → (Nat → AV) → Heap → Prop) (f : Nat → AV) (H : Heap) : Prop :=
  ∀ μ a w, SR n w μ f H a → c.wp P (Post n μ H w Q) a w

/-- What an operation's condition reads: a bool, or nothing (its own condition was not met). -/
def gAV : Option Bool → AV
  | some b => .bool b
  | none => .tup []
/-- One operation. -/
def AOp (P : Program) (n : Nat) (o : Oper) (K : (Nat → AV) → Heap → Prop) (f : Nat → AV) (H : Heap) : Prop :=
  ∀ μ a w, SR n w μ f H a → ∀ Q, o.wp P a w (fun a' w' => ∃ μ' f' H', SR n w' μ' f' H' a' ∧ Ext w μ H w' μ' H' ∧ K f' H') Q

/-- Operations one behind the other. -/
def AOps (P : Program) (n : Nat) (ops : Array Oper) (Q : (Nat → AV) → Heap → Prop) : List Nat → (Nat → AV) → Heap → Prop
  | [], f, H => Q f H
  | i :: l, f, H => ∃ o, ops[i]? = some o ∧ ((o.guard = none ∧ AOp P n o (AOps P n ops Q l) f H) ∨
      (∃ j want oj d b, o.guard = some (j, want) ∧ ops[j]? = some oj ∧ oj.dst = some d ∧ f d = gAV b ∧
        (b = some want → AOp P n o (AOps P n ops Q l) f H) ∧ (b ≠ some want → ∃ d', o.dst = some d' ∧ Nat.ble (d' + 1) n = true ∧ AOps P n ops Q l (upd f d' (.tup [])) H)))

theorem Oper.upon_mono {P : Program} {o : Oper} {a : Act} {K K' : Act → World → Prop} {Q Q' : Exit → Act → World → Prop} {r : Result Next}
    (hk : ∀ a w, K a w → K' a w) (hq : ∀ e a w, e ≠ .normal → Q e a w → Q' e a w) (h : o.upon P a K Q r) : o.upon P a K' Q' r := by
  cases r with
  | ok x w' =>
    cases x <;> simp only [Oper.upon] at h ⊢ <;> try exact hk _ _ h
    case enter g args =>
      refine h.mono fun e w'' he => ?_
      cases e with
      | returned v => exact hk _ _ he
      | panicked c => exact hq _ _ _ (by simp) he
      | outgrown => obtain ⟨a1, w1, h1⟩ := he; exact ⟨a1, w1, hq _ _ _ (by simp) h1⟩
    case row row args => exact h.mono fun v w'' he => hk _ _ he
  | halt x w' =>
    cases x <;> simp only [Oper.upon] at h ⊢
    case panic v => exact hq _ _ _ (by simp) h

theorem Oper.wp_mono {P : Program} {o : Oper} {a : Act} {w : World} {K K' : Act → World → Prop} {Q Q' : Exit → Act → World → Prop}
    (hk : ∀ a w, K a w → K' a w) (hq : ∀ e a w, e ≠ .normal → Q e a w → Q' e a w) (h : o.wp P a w K Q) : o.wp P a w K' Q' :=
  Oper.upon_mono hk hq h

theorem wpOps_mono {P : Program} {ops : Array Oper} {Q Q' : Exit → Act → World → Prop} (hq : ∀ e a w, Q e a w → Q' e a w) :
    ∀ (l : List Nat) (a : Act) (w : World), wpOps P ops Q l a w → wpOps P ops Q' l a w
  | [], _, _, h => hq _ _ _ h
  | i :: l, a, w, h => by
    unfold wpOps at h ⊢
    split
    · rename_i hn; simp only [hn] at h; exact wpOps_mono hq l _ _ h
    · rename_i o ho
      simp only [ho] at h
      split
      · rename_i hw
        simp only [hw, if_true] at h
        rcases h with h | ⟨h1, a1, w1, h2⟩
        · exact .inl (Oper.wp_mono (fun a w h => wpOps_mono hq l a w h) (fun e a w _ h => hq e a w h) h)
        · exact .inr ⟨h1, a1, w1, hq _ _ _ h2⟩
      · rename_i hw
        simp only [hw] at h
        exact wpOps_mono hq l _ _ h

section code
variable {P : Program} {n : Nat} {Q : Exit → (Nat → AV) → Heap → Prop} {f : Nat → AV} {H : Heap}

theorem AWP.mono {c : Code} {Q' : Exit → (Nat → AV) → Heap → Prop} (h : AWP P n c Q f H) (hq : ∀ e f H, Q e f H → Q' e f H) : AWP P n c Q' f H :=
  fun μ a w hs => wp_mono (h μ a w hs) fun _ _ _ ⟨μ', f', H', h1, h2, h3⟩ => ⟨μ', f', H', h1, h2, hq _ _ _ h3⟩

theorem AWP.skip (h : Q .normal f H) : AWP P n .skip Q f H :=
  fun μ _ _ hs => wp_skip ⟨μ, f, H, hs, .refl _ _ _, h⟩

theorem AWP.exit {id : Nat} (h : Q (.exit id) f H) : AWP P n (.exit id) Q f H :=
  fun μ _ _ hs => wp_exit ⟨μ, f, H, hs, .refl _ _ _, h⟩

theorem AWP.ret (h : Q .ret f H) : AWP P n .ret Q f H :=
  fun μ _ _ hs => wp_ret ⟨μ, f, H, hs, .refl _ _ _, h⟩

/-- What is asked behind the first of two pieces. -/
def Then (K : (Nat → AV) → Heap → Prop) (Q : Exit → (Nat → AV) → Heap → Prop) : Exit → (Nat → AV) → Heap → Prop
  | .normal, f, H => K f H
  | e, f, H => Q e f H

theorem AWP.seq {x y : Code} (h : AWP P n x (Then (AWP P n y Q) Q) f H) : AWP P n (.seq x y) Q f H := by
  intro μ a w hs
  refine wp_seq (wp_mono (h μ a w hs) ?_)
  rintro e a' w' ⟨μ', f', H', h1, h2, h3⟩
  cases e with
  | normal =>
    refine wp_mono (h3 μ' a' w' h1) ?_
    rintro e2 a2 w2 ⟨μ2, f2, H2, g1, g2, g3⟩
    exact ⟨μ2, f2, H2, g1, h2.trans g2, g3⟩
  | exit id => exact ⟨μ', f', H', h1, h2, h3⟩
  | goto l => exact ⟨μ', f', H', h1, h2, h3⟩
  | ret => exact ⟨μ', f', H', h1, h2, h3⟩
  | panic c => exact ⟨μ', f', H', h1, h2, h3⟩
  | outgrown => exact ⟨μ', f', H', h1, h2, h3⟩

/-- The same, with a condition between. -/
theorem AWP.seqc {x y : Code} (K : (Nat → AV) → Heap → Prop) (h : AWP P n x (Then K Q) f H) (h2 : ∀ f H, K f H → AWP P n y Q f H) : AWP P n (.seq x y) Q f H :=
  .seq (h.mono fun e f H hq => by cases e <;> first | exact h2 _ _ hq | exact hq)

theorem AWP.cond {c : Operand} {x y : Code} {b : Bool} (hc : ev f c = .bool b) (h1 : b = true → AWP P n x Q f H) (h2 : b = false → AWP P n y Q f H) :
    AWP P n (.cond c x y) Q f H := by
  intro μ a w hs
  have hv := hs.ev c
  rw [hc] at hv
  generalize hz : a.eval c = v at hv
  cases hv
  exact wp_cond_split hz (fun e => h1 e μ a w hs) (fun e => h2 e μ a w hs)

theorem AWP.cond_true {c : Operand} {x y : Code} (hc : ev f c = .bool true) (h1 : AWP P n x Q f H) : AWP P n (.cond c x y) Q f H :=
  .cond hc (fun _ => h1) (fun h => by cases h)
theorem AWP.cond_false {c : Operand} {x y : Code} (hc : ev f c = .bool false) (h1 : AWP P n y Q f H) : AWP P n (.cond c x y) Q f H :=
  .cond hc (fun h => by cases h) (fun _ => h1)

/-- What is asked inside a block. -/
def InBlock (id : Nat) (Q : Exit → (Nat → AV) → Heap → Prop) : Exit → (Nat → AV) → Heap → Prop
  | .exit id', f, H => if id' = id then Q .normal f H else Q (.exit id') f H
  | e, f, H => Q e f H

theorem AWP.block {id : Nat} {c : Code} (h : AWP P n c (InBlock id Q) f H) : AWP P n (.block id c) Q f H := by
  intro μ a w hs
  refine wp_block (wp_mono (h μ a w hs) ?_)
  rintro e a' w' ⟨μ', f', H', h1, h2, h3⟩
  cases e with
  | exit id' =>
    simp only [InBlock] at h3
    simp only [Exit.inBlock]
    split
    · rename_i hi; rw [if_pos hi] at h3; exact ⟨μ', f', H', h1, h2, h3⟩
    · rename_i hi; rw [if_neg hi] at h3; exact ⟨μ', f', H', h1, h2, h3⟩
  | normal => exact ⟨μ', f', H', h1, h2, h3⟩
  | goto l => exact ⟨μ', f', H', h1, h2, h3⟩
  | ret => exact ⟨μ', f', H', h1, h2, h3⟩
  | panic c => exact ⟨μ', f', H', h1, h2, h3⟩
  | outgrown => exact ⟨μ', f', H', h1, h2, h3⟩

theorem rounds_mono {P : Program} {c : Code} {Q : Exit → Act → World → Prop} : ∀ (k : Nat) (a : Act) (w : World), Code.rounds P c Q k a w → Code.rounds P c Q (k + 1) a w
  | 0, _, _, h => h.elim
  | k + 1, a, w, h => by
    rw [rounds_succ] at h ⊢
    refine wp_mono h fun e a w h => ?_
    cases e <;> first | exact rounds_mono k a w h | exact h

theorem rounds_le {P : Program} {c : Code} {Q : Exit → Act → World → Prop} {k k' : Nat} (hk : k ≤ k') {a : Act} {w : World} (h : Code.rounds P c Q k a w) : Code.rounds P c Q k' a w := by
  induction hk with
  | refl => exact h
  | step _ ih => exact rounds_mono _ _ _ ih

theorem rounds_post {P : Program} {c : Code} {Q Q' : Exit → Act → World → Prop} (hq : ∀ e a w, Q e a w → Q' e a w) : ∀ (k : Nat) (a : Act) (w : World), Code.rounds P c Q k a w → Code.rounds P c Q' k a w
  | 0, _, _, h => h.elim
  | k + 1, a, w, h => by
    rw [rounds_succ] at h ⊢
    refine wp_mono h fun e a w h => ?_
    cases e <;> first | exact rounds_post hq k a w h | exact hq _ _ _ h

/-- A loop: a condition at the head with a number that each round lowers. -/
theorem AWP.loop {c : Code} (I : Nat → (Nat → AV) → Heap → Prop) {k : Nat} (h0 : I k f H)
    (round : ∀ k f H, I k f H → AWP P n c (Then (fun f' H' => ∃ k', k' < k ∧ I k' f' H') Q) f H) : AWP P n (.loop c) Q f H := by
  have key : ∀ k f H, I k f H → ∀ μ a w, SR n w μ f H a → Code.rounds P c (Post n μ H w Q) (k + 1) a w := by
    intro k
    induction k using Nat.strongRecOn with
    | _ k ih =>
      intro f H hI μ a w hs
      rw [rounds_succ]
      refine wp_mono (round k f H hI μ a w hs) ?_
      rintro e a' w' ⟨μ', f', H', h1, h2, h3⟩
      cases e with
      | normal =>
        obtain ⟨k', hk', hI'⟩ := h3
        refine rounds_le hk' (rounds_post ?_ _ _ _ (ih k' hk' f' H' hI' μ' a' w' h1))
        rintro e2 a2 w2 ⟨μ2, f2, H2, g1, g2, g3⟩
        exact ⟨μ2, f2, H2, g1, h2.trans g2, g3⟩
      | exit id => exact ⟨μ', f', H', h1, h2, h3⟩
      | goto l => exact ⟨μ', f', H', h1, h2, h3⟩
      | ret => exact ⟨μ', f', H', h1, h2, h3⟩
      | panic c => exact ⟨μ', f', H', h1, h2, h3⟩
      | outgrown => exact ⟨μ', f', H', h1, h2, h3⟩
  exact fun μ a w hs => wp_loop_rounds (k + 1) (key k f H h0 μ a w hs)

/-! ### Regions in the order of the text -/
theorem AOps.nil {ops : Array Oper} {K : (Nat → AV) → Heap → Prop} (h : K f H) : AOps P n ops K [] f H := h

theorem AOps.cons {ops : Array Oper} {K : (Nat → AV) → Heap → Prop} {i : Nat} {l : List Nat} {o : Oper} (ho : ops[i]? = some o) (hg : o.guard = none)
    (h : AOp P n o (AOps P n ops K l) f H) : AOps P n ops K (i :: l) f H := ⟨o, ho, .inl ⟨hg, h⟩⟩

theorem AOps.consg {ops : Array Oper} {K : (Nat → AV) → Heap → Prop} {i : Nat} {l : List Nat} {o oj : Oper} {j d d' : Nat} {b : Option Bool} {want : Bool} (ho : ops[i]? = some o) (hg : o.guard = some (j, want))
    (hj : ops[j]? = some oj) (hd : oj.dst = some d) (hd' : o.dst = some d') (hn : Nat.ble (d' + 1) n = true) (hf : f d = gAV b)
    (h1 : b = some want → AOp P n o (AOps P n ops K l) f H) (h2 : b ≠ some want → AOps P n ops K l (upd f d' (.tup [])) H) : AOps P n ops K (i :: l) f H :=
  ⟨o, ho, .inr ⟨j, want, oj, d, b, hg, hj, hd, hf, h1, fun h => ⟨d', hd', hn, h2 h⟩⟩⟩

theorem yielded_of {ops : Array Oper} {j : Nat} {oj : Oper} {d : Nat} {b : Option Bool} {w : World} {μ : Nat → Nat} {a : Act} (hs : SR n w μ f H a)
    (hj : ops[j]? = some oj) (hd : oj.dst = some d) (hf : f d = gAV b) : yielded ops a.tmps j = b := by
  have hv := hs.slots d
  rw [hf] at hv
  unfold yielded
  simp only [hj, Option.bind_some, hd]
  rcases Nat.lt_or_ge d a.tmps.size with h | h
  · simp only [Array.getD_eq_getD_getElem?, Array.getElem?_eq_getElem h, Option.getD_some] at hv
    simp only [Array.getElem?_eq_getElem h]
    generalize a.tmps[d] = v at hv
    cases b with
    | some b => cases hv; rfl
    | none => cases hv; rfl
  · simp only [Array.getElem?_eq_none h]
    simp only [Array.getD_eq_getD_getElem?, Array.getElem?_eq_none h, Option.getD_none, undef] at hv
    cases b with
    | some b => cases hv
    | none => rfl

theorem AOps.sound {ops : Array Oper} {K : (Nat → AV) → Heap → Prop} : ∀ (l : List Nat) (f : Nat → AV) (H : Heap), AOps P n ops K l f H → ∀ μ a w, SR n w μ f H a → ∀ E : Exit → Act → World → Prop,
    wpOps P ops (fun e a' w' => (e = .normal ∧ ∃ μ' f' H', SR n w' μ' f' H' a' ∧ Ext w μ H w' μ' H' ∧ K f' H') ∨ (e ≠ .normal ∧ E e a' w')) l a w
  | [], f, H, h, μ, _, _, hs, _ => .inl ⟨rfl, μ, f, H, hs, .refl _ _ _, h⟩
  | i :: l, f, H, h, μ, a, w, hs, E => by
    obtain ⟨o, ho, h⟩ := h
    have go : AOp P n o (AOps P n ops K l) f H → o.wp P a w (wpOps P ops (fun e a' w' => (e = .normal ∧ ∃ μ' f' H', SR n w' μ' f' H' a' ∧ Ext w μ H w' μ' H' ∧ K f' H') ∨ (e ≠ .normal ∧ E e a' w')) l)
        (fun e a' w' => (e = .normal ∧ ∃ μ' f' H', SR n w' μ' f' H' a' ∧ Ext w μ H w' μ' H' ∧ K f' H') ∨ (e ≠ .normal ∧ E e a' w')) := by
      intro h
      refine Oper.wp_mono ?_ ?_ (h μ a w hs (fun e a w => E e a w))
      · rintro a' w' ⟨μ', f', H', h1, h2, h3⟩
        refine wpOps_mono ?_ l _ _ (AOps.sound l f' H' h3 μ' a' w' h1 E)
        rintro e2 a2 w2 (⟨he, μ2, f2, H2, g1, g2, g3⟩ | h)
        · exact .inl ⟨he, μ2, f2, H2, g1, h2.trans g2, g3⟩
        · exact .inr h
      · intro e a w hne h
        exact .inr ⟨hne, h⟩
    unfold wpOps
    simp only [ho]
    rcases h with ⟨hg, h⟩ | ⟨j, want, oj, d, b, hg, hj, hd, hf, h1, h2⟩
    · simp only [Region.wanted, hg, if_true]
      exact .inl (go h)
    · simp only [Region.wanted, hg, yielded_of hs hj hd hf]
      by_cases hb : b = some want
      · subst hb
        simp only [BEq.rfl, if_true]
        exact .inl (go (h1 rfl))
      · have hbe : (b == some want) = false := by simpa using hb
        obtain ⟨d', hd', hn, h3⟩ := h2 hb
        simp only [hbe, Bool.false_eq_true, if_false, hd']
        exact AOps.sound l _ H h3 μ _ w (hs.put (.refl _ _ _) hs.hr hn (.tup rfl (by simp))) E

theorem AWP.region {id : Nat} {ops : Array Oper} {l : List Nat} (hl : List.range ops.size = l) (h : AOps P n ops (Q .normal) l f H) : AWP P n (.region id ops false) Q f H := by
  intro μ a w hs
  refine wp_region (wpOps_mono ?_ _ _ _ (hl ▸ AOps.sound l f H h μ a w hs (fun _ _ _ => False)))
  rintro e a' w' (⟨rfl, h⟩ | ⟨_, h⟩)
  · exact h
  · exact h.elim

/-! ### Regions whose order is drawn: a condition for each set of operations that have come up -/
theorem VR.heap {w w' : World} {μ : Nat → Nat} (h : w'.heap = w.heap) {x : AV} {v : Value} (hv : VR w μ H x v) : VR w' μ H x v := by
  have hc' : ∀ b o, w'.cell? ⟨b, o, none⟩ = w.cell? ⟨b, o, none⟩ := fun b o => cell_of_heap (by rw [h])
  induction hv with
  | undef v => exact .undef v
  | int k n => exact .int k n
  | bool b => exact .bool b
  | str s => exact .str s
  | nilptr => exact .nilptr
  | ptr hk ha => exact .ptr hk ha
  | iter hi => exact .iter hi
  | fptr hb hc _ ih => exact .fptr ⟨by rw [h]; exact hb.1, hb.2⟩ (fun j x hj => (hc' _ _).trans (hc j x hj)) ih
  | snil => exact .snil
  | sl0 a cap => exact .sl0 a cap
  | sl hl hb hc _ ih => exact .sl hl ⟨by rw [h]; exact hb.1, hb.2⟩ (fun j x hj => (hc' _ _).trans (hc j x hj)) ih
  | slm hk hl ha => exact .slm hk hl fun hal => ⟨(ha hal).1, by simp only [bsize, h]; exact (ha hal).2⟩
  | mapnil => exact .mapnil
  | map hm => exact .map hm
  | nilfn => exact .nilfn
  | fn hl _ ih => exact .fn hl ih
  | nilIface => exact .nilIface
  | iface _ ih => exact .iface ih
  | agg hl _ ih => exact .agg hl ih
  | tup hl _ ih => exact .tup hl ih

theorem Ext.heap {w w' : World} {μ : Nat → Nat} (h : w'.heap = w.heap) (hr : Rest w w') : Ext w μ H w' μ H :=
  ⟨by rw [h]; exact Nat.le_refl _, fun b hb => ⟨by rw [h], hb.2⟩, fun _ _ h => h, fun _ _ _ ha => ⟨ha, rfl, by simp only [bsize, h]⟩, fun _ h => ⟨h, rfl⟩, fun _ h => ⟨h, rfl⟩, hr⟩

theorem HR.heap {w w' : World} {μ : Nat → Nat} (h : w'.heap = w.heap) (hr : HR w μ H) : HR w' μ H where
  rows := fun id ver cells hi => by
    obtain ⟨cs, T, h1, h2, h3⟩ := hr.rows id ver cells hi
    exact ⟨cs, T, by rw [h]; exact h1, h2, fun j x hx => let ⟨y, g1, g2⟩ := h3 j x hx; ⟨y, g1, g2.heap h⟩⟩
  maps := fun id es hi => by
    obtain ⟨h0, en, c, h1, h2, h3⟩ := hr.maps id es hi
    exact ⟨h0, en, c, by rw [h]; exact h1, h2, fun j x e hx he => ⟨(h3 j x e hx he).1.heap h, (h3 j x e hx he).2.heap h⟩⟩
  born := fun id es ents clock hi hw => hr.born id es ents clock hi (by rw [← h]; exact hw)
  iters := fun id it hi => by rw [h]; exact hr.iters id it hi
  inj := hr.inj
  fin := hr.fin

/-- Each edge that binds leads back. -/
def backB (ops : Array Oper) : Bool := (List.range ops.size).all fun i => (ops[i]?).all fun o => o.after.all fun e => !Region.binds .any e || Nat.blt e.on i

theorem backB_spec {ops : Array Oper} (h : backB ops = true) {i : Nat} {o : Oper} (ho : ops[i]? = some o) {e : Edge} (he : e ∈ o.after) (hb : Region.binds .any e = true) : e.on < i := by
  unfold backB at h
  rw [List.all_eq_true] at h
  have hi : i < ops.size := by
    rcases Nat.lt_or_ge i ops.size with h' | h'
    · exact h'
    · rw [Array.getElem?_eq_none h'] at ho; cases ho
  have h1 := h i (List.mem_range.2 hi)
  rw [ho] at h1
  simp only [Option.all_some] at h1
  rw [Array.all_eq_true] at h1
  obtain ⟨k, hk, rfl⟩ := Array.mem_iff_getElem.1 he
  have h2 := h1 k hk
  simp only [hb, Bool.not_true, Bool.false_or] at h2
  exact Nat.le_of_ble_eq_true h2

/-- How many have not come up yet. -/
def left (m : Nat) (S : Nat → Bool) : Nat := ((List.range m).filter fun i => !S i).length

theorem left_set {m i : Nat} {S : Nat → Bool} (hi : i < m) (hS : S i = false) : left m (fun k => Nat.beq k i || S k) + 1 = left m S := by
  unfold left
  have key : ∀ (l : List Nat), l.Nodup → i ∈ l → ((l.filter fun k => !(Nat.beq k i || S k)).length) + 1 = (l.filter fun k => !S k).length := by
    intro l
    induction l with
    | nil => intro _ h; cases h
    | cons x l ih =>
      intro hn hm
      rw [List.nodup_cons] at hn
      by_cases hx : x = i
      · subst hx
        have h1 : ∀ k ∈ l, (!(Nat.beq k x || S k)) = !S k := fun k hk => by
          have hkx : k ≠ x := fun e => hn.1 (e ▸ hk)
          have : Nat.beq k x = false := by
            cases hb : Nat.beq k x with
            | false => rfl
            | true => exact absurd (Nat.eq_of_beq_eq_true hb) hkx
          rw [this, Bool.false_or]
        rw [List.filter_cons_of_neg (by simp), List.filter_cons_of_pos (by simp [hS]), List.filter_congr h1]
        rfl
      · have hb : Nat.beq x i = false := by
          cases hb : Nat.beq x i with
          | false => rfl
          | true => exact absurd (Nat.eq_of_beq_eq_true hb) hx
        have hm' : i ∈ l := by
          rcases List.mem_cons.1 hm with h | h
          · exact absurd h.symm hx
          · exact h
        have := ih hn.2 hm'
        by_cases hs : S x = true
        · rw [List.filter_cons_of_neg (by simp [hs]), List.filter_cons_of_neg (by simp [hs])]; exact this
        · rw [List.filter_cons_of_pos (by simp [hs, hb]), List.filter_cons_of_pos (by simp [hs])]
          simp only [List.length_cons]; omega
  exact key _ List.nodup_range (List.mem_range.2 hi)

theorem left_zero {m : Nat} {S : Nat → Bool} (h : left m S = 0) : ∀ i, i < m → S i = true := fun i hi => by
  unfold left at h
  have h1 := List.eq_nil_of_length_eq_zero h
  cases hS : S i with
  | true => rfl
  | false =>
    have : i ∈ (List.range m).filter fun i => !S i := List.mem_filter.2 ⟨List.mem_range.2 hi, by simp [hS]⟩
    rw [h1] at this; cases this

theorem left_pos {m : Nat} {S : Nat → Bool} (h : left m S ≠ 0) : ∃ i, i < m ∧ S i = false ∧ ∀ k, k < i → S k = true := by
  have : ∃ i, i < m ∧ S i = false := by
    apply Classical.byContradiction
    intro hn
    apply h
    unfold left
    have : ((List.range m).filter fun i => !S i) = [] := by
      rw [List.filter_eq_nil_iff]
      intro i hi
      have := List.mem_range.1 hi
      cases hS : S i with
      | true => simp
      | false => exact absurd ⟨i, this, hS⟩ hn
    rw [this]; rfl
  obtain ⟨i, hi⟩ := this
  induction i using Nat.strongRecOn with
  | _ i ih =>
    by_cases hk : ∃ k, k < i ∧ S k = false
    · obtain ⟨k, hk1, hk2⟩ := hk
      exact ih k hk1 ⟨by omega, hk2⟩
    · refine ⟨i, hi.1, hi.2, fun k hk' => ?_⟩
      cases hS : S k with
      | true => rfl
      | false => exact absurd ⟨k, hk', hS⟩ hk

abbrev listedOf (l : Array Bool) : Nat → Bool := fun i => l.getD i false

theorem listedOf_set {l : Array Bool} {i : Nat} (hi : i < l.size) : listedOf (l.setIfInBounds i true) = fun k => Nat.beq k i || listedOf l k := by
  funext k
  unfold listedOf
  by_cases h : k = i
  · subst h; simp [Array.getD_eq_getD_getElem?, hi]
  · have hb : Nat.beq k i = false := by
      cases hb : Nat.beq k i with
      | false => rfl
      | true => exact absurd (Nat.eq_of_beq_eq_true hb) h
    rw [hb, Bool.false_or]
    simp [Array.getD_eq_getD_getElem?, Ne.symm h]

theorem AWP.region_any {id : Nat} {ops : Array Oper} (hm : P.follows .mixedOrders = true) (hback : backB ops = true) (I : (Nat → Bool) → (Nat → AV) → Heap → Prop)
    (h0 : I (fun _ => false) f H)
    (step : ∀ S i o, ops[i]? = some o → S i = false → (∀ e ∈ o.after, Region.binds .any e = true → S e.on = true) → ∀ f H, I S f H →
      (o.guard = none ∧ AOp P n o (I (fun k => Nat.beq k i || S k)) f H) ∨
      (∃ j want oj d b, o.guard = some (j, want) ∧ ops[j]? = some oj ∧ oj.dst = some d ∧ f d = gAV b ∧
        (b = some want → AOp P n o (I (fun k => Nat.beq k i || S k)) f H) ∧
        (b ≠ some want → ∃ d', o.dst = some d' ∧ Nat.ble (d' + 1) n = true ∧ I (fun k => Nat.beq k i || S k) (upd f d' (.tup [])) H)))
    (fin : ∀ S f H, (∀ i, i < ops.size → S i = true) → I S f H → Q .normal f H) : AWP P n (.region id ops true) Q f H := by
  have key : ∀ (fuel : Nat) (listed : Array Bool), listed.size = ops.size → left ops.size (listedOf listed) = fuel → ∀ μ f H a w, SR n w μ f H a → I (listedOf listed) f H →
      wpAny P .any ops (Post n μ H w Q) fuel listed a w := by
    intro fuel
    induction fuel with
    | zero =>
      intro listed hsz hl μ f H a w hs hI
      have hall := left_zero hl
      refine ⟨?_, μ, f, H, hs, .refl _ _ _, fin _ f H hall hI⟩
      cases hr : Region.ready .any ops listed with
      | nil => rfl
      | cons i l =>
        have hi : i ∈ Region.ready .any ops listed := by rw [hr]; exact List.mem_cons_self
        obtain ⟨h1, o, ho, _⟩ := mem_ready.1 hi
        have hlt : i < ops.size := by
          rcases Nat.lt_or_ge i ops.size with h' | h'
          · exact h'
          · rw [Array.getElem?_eq_none h'] at ho; cases ho
        have h2 := hall i hlt
        simp only [listedOf, Array.getD_eq_getD_getElem?] at h1 h2
        rw [Array.getElem?_eq_getElem (hsz ▸ hlt)] at h1 h2
        simp only [Option.getD_some] at h1 h2
        rw [h1] at h2; cases h2
    | succ fuel ih =>
      intro listed hsz hl μ f H a w hs hI
      refine ⟨fun hr => ?_, fun i hi => ?_⟩
      · exfalso
        obtain ⟨i, hi1, hi2, hi3⟩ := left_pos (m := ops.size) (S := listedOf listed) (by omega)
        have : i ∈ Region.ready .any ops listed := by
          refine mem_ready.2 ⟨?_, ops[i], Array.getElem?_eq_getElem hi1, fun e he hb => ?_⟩
          · simp only [listedOf, Array.getD_eq_getD_getElem?] at hi2 ⊢
            rw [Array.getElem?_eq_getElem (hsz ▸ hi1)] at hi2 ⊢
            exact hi2
          · exact hi3 _ (backB_spec hback (Array.getElem?_eq_getElem hi1) he hb)
        rw [hr] at this; cases this
      · obtain ⟨h1, o, ho, h2⟩ := mem_ready.1 hi
        have hlt : i < ops.size := by
          rcases Nat.lt_or_ge i ops.size with h' | h'
          · exact h'
          · rw [Array.getElem?_eq_none h'] at ho; cases ho
        have hSi : listedOf listed i = false := by
          simp only [listedOf, Array.getD_eq_getD_getElem?] at h1 ⊢
          rw [Array.getElem?_eq_getElem (hsz ▸ hlt)] at h1 ⊢
          exact h1
        have hset := listedOf_set (l := listed) (i := i) (by omega)
        have hleft : left ops.size (listedOf (listed.setIfInBounds i true)) = fuel := by
          rw [hset]
          have := left_set (m := ops.size) (S := listedOf listed) hlt hSi
          omega
        have go : ∀ μ' f' H' a' w', SR n w' μ' f' H' a' → Ext w μ H w' μ' H' → I (fun k => Nat.beq k i || listedOf listed k) f' H' →
            wpAny P .any ops (Post n μ H w Q) fuel (listed.setIfInBounds i true) a' w' := by
          intro μ' f' H' a' w' hs' he' hI'
          rw [← hset] at hI'
          have h3 := ih (listed.setIfInBounds i true) (by simp [hsz]) hleft μ' f' H' a' w' hs' hI'
          have mono : ∀ (fuel : Nat) (l : Array Bool) (a : Act) (w1 : World), wpAny P .any ops (Post n μ' H' w' Q) fuel l a w1 → wpAny P .any ops (Post n μ H w Q) fuel l a w1 := by
            have hq : ∀ e a w1, Post n μ' H' w' Q e a w1 → Post n μ H w Q e a w1 := by
              rintro e a w1 ⟨μ2, f2, H2, g1, g2, g3⟩
              exact ⟨μ2, f2, H2, g1, he'.trans g2, g3⟩
            intro fuel
            induction fuel with
            | zero => intro l a w1 h; exact ⟨h.1, hq _ _ _ h.2⟩
            | succ fuel ih2 =>
              intro l a w1 h
              refine ⟨fun h0 => hq _ _ _ (h.1 h0), fun j hj => ?_⟩
              have h4 := h.2 j hj
              unfold wpOp at h4 ⊢
              split
              · rename_i hn; simp only [hn] at h4; exact ih2 _ _ _ h4
              · rename_i oj hoj
                simp only [hoj] at h4
                split
                · rename_i hw
                  simp only [hw, if_true] at h4
                  rcases h4 with h4 | ⟨h5, a1, w2, h6⟩
                  · exact .inl (Oper.wp_mono (fun a w h => ih2 _ a w h) (fun e a w _ h => hq e a w h) h4)
                  · exact .inr ⟨h5, a1, w2, hq _ _ _ h6⟩
                · rename_i hw
                  simp only [hw] at h4
                  exact ih2 _ _ _ h4
          exact mono _ _ _ _ h3
        have opgo : AOp P n o (I (fun k => Nat.beq k i || listedOf listed k)) f H → o.wp P a w (wpAny P .any ops (Post n μ H w Q) fuel (listed.setIfInBounds i true)) (Post n μ H w Q) := by
          intro hop
          refine Oper.wp_mono ?_ ?_ (hop μ a w hs (Post n μ H w Q))
          · rintro a' w' ⟨μ', f', H', g1, g2, g3⟩
            exact go μ' f' H' a' w' g1 g2 g3
          · intro e a w _ h; exact h
        unfold wpOp
        simp only [ho]
        rcases step (listedOf listed) i o ho hSi h2 f H hI with ⟨hg, hop⟩ | ⟨j, want, oj, d, b, hg, hj, hd, hf, hyes, hno⟩
        · simp only [Region.wanted, hg, if_true]
          exact .inl (opgo hop)
        · simp only [Region.wanted, hg, yielded_of hs hj hd hf]
          by_cases hb : b = some want
          · subst hb
            simp only [BEq.rfl, if_true]
            exact .inl (opgo (hyes rfl))
          · have hbe : (b == some want) = false := by simpa using hb
            simp only [hbe, Bool.false_eq_true, if_false]
            obtain ⟨d', hd', hn', hI'⟩ := hno hb
            rw [hd']
            exact go μ _ H _ w (hs.put (.refl _ _ _) hs.hr hn' (.tup rfl (by simp))) (.refl _ _ _) hI'
  intro μ a w hs
  have hh : ({ w with drawn := w.drawn + 1 } : World).heap = w.heap := rfl
  have hs' : SR n { w with drawn := w.drawn + 1 } μ f H a := hs.stay (.heap hh ⟨rfl, rfl, rfl, Nat.le_succ _⟩) (hs.hr.heap hh)
  refine wp_region_any hm ?_
  have hS0 : listedOf (Array.replicate ops.size false) = fun _ => false := by
    funext k
    simp only [listedOf, Array.getD_eq_getD_getElem?, Array.getElem?_replicate]
    split <;> rfl
  have hl0 : left ops.size (listedOf (Array.replicate ops.size false)) = ops.size := by
    rw [hS0]; unfold left; rw [List.filter_eq_self.2 (by simp)]; simp
  have := key ops.size (Array.replicate ops.size false) (by simp) hl0 μ f H a _ hs' (by rw [hS0]; exact h0)
  have mono : ∀ (fuel : Nat) (l : Array Bool) (a : Act) (w1 : World), wpAny P .any ops (Post n μ H { w with drawn := w.drawn + 1 } Q) fuel l a w1 → wpAny P .any ops (Post n μ H w Q) fuel l a w1 := by
    have hq : ∀ e a w1, Post n μ H { w with drawn := w.drawn + 1 } Q e a w1 → Post n μ H w Q e a w1 := by
      rintro e a w1 ⟨μ2, f2, H2, g1, g2, g3⟩
      exact ⟨μ2, f2, H2, g1, (Ext.heap hh ⟨rfl, rfl, rfl, Nat.le_succ _⟩).trans g2, g3⟩
    intro fuel
    induction fuel with
    | zero => intro l a w1 h; exact ⟨h.1, hq _ _ _ h.2⟩
    | succ fuel ih2 =>
      intro l a w1 h
      refine ⟨fun h0 => hq _ _ _ (h.1 h0), fun j hj => ?_⟩
      have h4 := h.2 j hj
      unfold wpOp at h4 ⊢
      split
      · rename_i hn; simp only [hn] at h4; exact ih2 _ _ _ h4
      · rename_i oj hoj
        simp only [hoj] at h4
        split
        · rename_i hw
          simp only [hw, if_true] at h4
          rcases h4 with h4 | ⟨h5, a1, w2, h6⟩
          · exact .inl (Oper.wp_mono (fun a w h => ih2 _ a w h) (fun e a w _ h => hq e a w h) h4)
          · exact .inr ⟨h5, a1, w2, hq _ _ _ h6⟩
        · rename_i hw
          simp only [hw] at h4
          exact ih2 _ _ _ h4
  exact mono _ _ _ _ this

end code

/-! ### Calls -/
/-- A call of a function: it returns a value that is told. -/
def ACalls (P : Program) (g : FuncId) (args : List AV) (H : Heap) (R : AV → Heap → Prop) : Prop :=
  ∀ μ w (vs : Array Value), HR w μ H → VRs w μ H args vs.toList →
    Calls P g vs w fun e w' => ∃ v, e = .returned v ∧ ∃ μ' H' r, HR w' μ' H' ∧ VR w' μ' H' r v ∧ Ext w μ H w' μ' H' ∧ R r H'

theorem ACalls.mono {P : Program} {g : FuncId} {args : List AV} {H : Heap} {R R' : AV → Heap → Prop} (h : ACalls P g args H R) (hr : ∀ r H', R r H' → R' r H') : ACalls P g args H R' :=
  fun μ w vs h1 h2 => (h μ w vs h1 h2).mono fun _ _ ⟨v, e, μ', H', r, a, b, c, d⟩ => ⟨v, e, μ', H', r, a, b, c, hr _ _ d⟩

/-- The frame that a call begins with. -/
def entry (args : List AV) : Nat → AV := fun t => args.getD t .undef

/-- What a function hands back. -/
def Res (P : Program) (n : Nat) (fn : Func) (f : Nat → AV) (H : Heap) (r : AV) : Prop :=
  ∀ μ a w, SR n w μ f H a → ∃ v, (results fn a.tmps).run P w = .ok v w ∧ VR w μ H r v

theorem ACalls.of_body {P : Program} {g : FuncId} {fn : Func} {c : Code} {args : List AV} {H : Heap} {R : AV → Heap → Prop} {n : Nat}
    (hf : P.funcs[g]? = some fn) (hb : fn.body = some c) (hn : fn.ntmps = n) (hle : Nat.ble args.length n = true)
    (h : AWP P n c (fun e f' H' => (e = .normal ∨ e = .ret) ∧ ∃ r, Res P n fn f' H' r ∧ R r H') (entry args) H) : ACalls P g args H R := by
  intro μ w vs hr hv
  have hlen : args.length = vs.size := by simpa using hv.1
  have hle' : args.length ≤ n := Nat.le_of_ble_eq_true hle
  refine calls_of_wp hf hb ?_
  have hs : SR n w μ (entry args) H { tmps := vs ++ Array.replicate (fn.ntmps - vs.size) undef, defers := [] } := by
    refine ⟨hr, by simp [hn]; omega, fun t => ?_, rfl⟩
    unfold entry
    rcases Nat.lt_or_ge t args.length with ht | ht
    · have h1 : args[t]? = some args[t] := List.getElem?_eq_getElem ht
      have h2 : vs.toList[t]? = some vs[t] := by simp [hlen ▸ ht]
      have := hv.2 t _ _ h1 h2
      have e1 : args.getD t .undef = args[t] := by simp [ht]
      have e2 : (vs ++ Array.replicate (fn.ntmps - vs.size) undef).getD t undef = vs[t] := by
        simp [Array.getD_eq_getD_getElem?, Array.getElem?_append, hlen ▸ ht]
      rw [e1, e2]; exact this
    · have e1 : args.getD t .undef = .undef := by simp [ht]
      rw [e1]; exact .undef _
  refine wp_mono (h μ _ w hs) ?_
  rintro e a' w' ⟨μ', f', H', h1, h2, h3, r, h4, h5⟩
  obtain ⟨v, hv1, hv2⟩ := h4 μ' a' w' h1
  rcases h3 with rfl | rfl
  · exact ⟨h1.defers, v, hv1, v, rfl, μ', H', r, h1.hr, hv2, h2, h5⟩
  · exact ⟨h1.defers, v, hv1, v, rfl, μ', H', r, h1.hr, hv2, h2, h5⟩

theorem Res.one {P : Program} {n : Nat} {fn : Func} {f : Nat → AV} {H : Heap} {t : Nat} {x : AV} (hr : fn.results = #[.tmp t]) (hx : f t = x) : Res P n fn f H x := by
  intro μ a w hs
  refine ⟨a.tmps.getD t undef, ?_, hx ▸ hs.slots t⟩
  simp [results, hr]

theorem Res.two {P : Program} {n : Nat} {fn : Func} {f : Nat → AV} {H : Heap} {t u : Nat} {x y : AV} (hr : fn.results = #[.tmp t, .tmp u]) (hx : f t = x) (hy : f u = y) : Res P n fn f H (.tup [x, y]) := by
  intro μ a w hs
  refine ⟨.tuple #[a.tmps.getD t undef, a.tmps.getD u undef], ?_, .tup rfl ?_⟩
  · simp [results, hr]
  · intro j p q h1 h2
    match j with
    | 0 => simp at h1 h2; subst h1 h2; have := hs.slots t; rw [hx, Array.getD_eq_getD_getElem?] at this; exact this
    | 1 => simp at h1 h2; subst h1 h2; have := hs.slots u; rw [hy, Array.getD_eq_getD_getElem?] at this; exact this
    | j + 2 => simp at h1

end Go.AH
