/- A part of the proof that a law of the edges and fans of faces answers true for every input of its bulk: own work, by an AI agent. -/
import Derived.Test.YtfgfalidpbbkhaaAH7
set_option linter.unusedVariables false
set_option linter.unusedSimpArgs false
namespace Go.AH
open Go

/-! ### Who waits for whom -/
def maskOf (o : Oper) (acc : List Nat) : Nat := o.after.toList.foldl (fun s e => if Region.binds .any e then s ||| 2 ^ e.on ||| acc.getD e.on 0 else s) 0
def befL : List Oper → List Nat → List Nat
  | [], acc => acc
  | o :: l, acc => befL l (acc ++ [maskOf o acc])

/-- Closed downwards. -/
def Dn (ops : Array Oper) (S : Nat → Bool) : Prop := ∀ j o, ops[j]? = some o → S j = true → ∀ e ∈ o.after, Region.binds .any e = true → S e.on = true

theorem mask_spec {o : Oper} {acc : List Nat} {S : Nat → Bool} (hacc : ∀ i m j, acc[i]? = some m → m.testBit j = true → S i = true → S j = true) (hr : ∀ e ∈ o.after, Region.binds .any e = true → S e.on = true) :
    ∀ j, (maskOf o acc).testBit j = true → S j = true := by
  have key : ∀ (l : List Edge) (s : Nat), (∀ e ∈ l, Region.binds .any e = true → S e.on = true) → (∀ j, s.testBit j = true → S j = true) →
      ∀ j, (l.foldl (fun s e => if Region.binds .any e then s ||| 2 ^ e.on ||| acc.getD e.on 0 else s) s).testBit j = true → S j = true := by
    intro l
    induction l with
    | nil => intro s _ hs j h; exact hs j h
    | cons e l ih =>
      intro s hl hs
      rw [List.foldl_cons]
      refine ih _ (fun e' he' => hl e' (List.mem_cons_of_mem _ he')) fun j hj => ?_
      split at hj
      · rename_i hb
        have hSe := hl e List.mem_cons_self hb
        simp only [Nat.testBit_or, Bool.or_eq_true] at hj
        rcases hj with (hj | hj) | hj
        · exact hs j hj
        · rw [Nat.testBit_two_pow] at hj
          have : e.on = j := by simpa using hj
          rw [← this]; exact hSe
        · rcases Nat.lt_or_ge e.on acc.length with h | h
          · rw [List.getD_eq_getElem?_getD, List.getElem?_eq_getElem h, Option.getD_some] at hj
            exact hacc _ _ _ (List.getElem?_eq_getElem h) hj hSe
          · rw [List.getD_eq_getElem?_getD, List.getElem?_eq_none h, Option.getD_none] at hj
            simp at hj
      · exact hs j hj
  exact key _ 0 (fun e he => hr e (Array.mem_toList_iff.1 he)) (fun j h => by simp at h)

theorem bef_spec {ops : Array Oper} {S : Nat → Bool} (hS : Dn ops S) : ∀ (l : List Oper) (acc : List Nat), (∀ j, l[j]? = ops[acc.length + j]?) →
    (∀ i m j, acc[i]? = some m → m.testBit j = true → S i = true → S j = true) → ∀ i m j, (befL l acc)[i]? = some m → m.testBit j = true → S i = true → S j = true
  | [], acc, _, h => h
  | o :: l, acc, hl, h => by
    rw [befL]
    refine bef_spec hS l _ (fun j => by have := hl (j + 1); simp only [List.getElem?_cons_succ] at this; rw [this]; simp only [List.length_append, List.length_cons, List.length_nil]; congr 1; omega) ?_
    intro i m j hi hj hSi
    rcases Nat.lt_or_ge i acc.length with h' | h'
    · rw [List.getElem?_append_left h'] at hi; exact h i m j hi hj hSi
    · rw [List.getElem?_append_right h'] at hi
      have h0 : i = acc.length := by
        rcases Nat.lt_or_ge (i - acc.length) 1 with h2 | h2
        · omega
        · rw [List.getElem?_eq_none (by simpa using h2)] at hi; cases hi
      subst h0
      simp only [Nat.sub_self, List.getElem?_cons_zero, Option.some.injEq] at hi
      subst hi
      have ho : ops[acc.length]? = some o := by have := hl 0; simpa using this.symm
      exact mask_spec h (fun e he hb => hS _ o ho hSi e he hb) j hj

/-- The slots that an operation looks at. -/
def tmpsOf (o : Oper) : List Nat := o.op.operands.toList.filterMap fun | .tmp t => some t | _ => none
def guardSlot (ops : Array Oper) (o : Oper) : List Nat := match o.guard with | some (j, _) => ((ops[j]?).bind (·.dst)).toList | none => []

/-- May the first k operations be carried out in whatever order, each yielding what it yields in the text's order, and do the others wait for all before them? -/
def quietB (ops : Array Oper) (k : Nat) : Bool :=
  let b := befL ops.toList []
  let ds := ops.toList.map (·.dst)
  Nat.ble k ops.size &&
  ((List.range k).all fun i =>
    match ops[i]? with
    | none => false
    | some o =>
      (match o.dst with | some _ => true | none => false) &&
      ((tmpsOf o ++ guardSlot ops o ++ o.dst.toList).all fun t => (List.range k).all fun j =>
        Nat.beq i j || (match ds[j]? with | some (some d) => !Nat.beq d t || (if j < i then (b.getD i 0).testBit j else (b.getD j 0).testBit i) | _ => true))) &&
  ((List.range ops.size).all fun i => i < k || (List.range i).all fun j => (b.getD i 0).testBit j)

/-- The frame once the operations of S have been carried out. -/
def cur : List (Nat × AV) → Nat → (Nat → Bool) → (Nat → AV) → Nat → AV
  | [], _, _, f => f
  | (d, v) :: l, i, S, f => cur l (i + 1) S (if S i = true then upd f d v else f)

theorem cur_other {S : Nat → Bool} {t : Nat} : ∀ (l : List (Nat × AV)) (i : Nat) (f : Nat → AV), (∀ j p, l[j]? = some p → p.1 = t → S (i + j) = false) → cur l i S f t = f t
  | [], _, _, _ => rfl
  | (d, v) :: l, i, f, h => by
    rw [cur, cur_other l (i + 1) _ fun j p hj hp => by have := h (j + 1) p (by simpa using hj) hp; rw [show i + 1 + j = i + (j + 1) by omega]; exact this]
    split
    · rename_i hs
      have : t ≠ d := fun e => by have := h 0 (d, v) rfl e.symm; rw [Nat.add_zero, hs] at this; cases this
      exact upd_ne _ _ this
    · rfl

theorem cur_congr {S S' : Nat → Bool} {t : Nat} : ∀ (l : List (Nat × AV)) (i : Nat) (f g : Nat → AV), f t = g t → (∀ j p, l[j]? = some p → p.1 = t → S (i + j) = S' (i + j)) → cur l i S f t = cur l i S' g t
  | [], _, _, _, h, _ => h
  | (d, v) :: l, i, f, g, h, hs => by
    rw [cur, cur]
    refine cur_congr l (i + 1) _ _ ?_ fun j p hj hp => by have := hs (j + 1) p (by simpa using hj) hp; rw [show i + 1 + j = i + (j + 1) by omega]; exact this
    by_cases ht : t = d
    · have := hs 0 (d, v) rfl ht.symm
      rw [Nat.add_zero] at this
      rw [this]
      split
      · subst ht; simp
      · exact h
    · split <;> split <;> simp [upd_ne _ _ ht, h]

/-- One more has been carried out, nobody behind it has written its slot. -/
theorem cur_set {S : Nat → Bool} {i : Nat} : ∀ (l : List (Nat × AV)) (b : Nat) (f : Nat → AV) (d : Nat) (v : AV) (m : Nat), i = b + m → l[m]? = some (d, v) → S i = false → (∀ j p, l[j]? = some p → p.1 = d → m < j → S (b + j) = false) →
    ∀ t, cur l b (fun k => Nat.beq k i || S k) f t = upd (cur l b S f) d v t := by
  have beqf : ∀ x y : Nat, x ≠ y → Nat.beq x y = false := fun x y h => by
    cases hb : Nat.beq x y with
    | false => rfl
    | true => exact absurd (Nat.eq_of_beq_eq_true hb) h
  intro l b f d v m him hm hS hlater t
  rw [upd_eq]
  split
  · rename_i ht
    subst ht
    -- split at m
    have key : ∀ (l : List (Nat × AV)) (b m : Nat) (f : Nat → AV), l[m]? = some (t, v) → i = b + m → (∀ j p, l[j]? = some p → p.1 = t → m < j → S (b + j) = false) → cur l b (fun k => Nat.beq k i || S k) f t = v := by
      intro l
      induction l with
      | nil => intro b m f h; simp at h
      | cons p l ih =>
        intro b m f h hi hl
        obtain ⟨d', v'⟩ := p
        rw [cur]
        cases m with
        | zero =>
          simp only [List.getElem?_cons_zero, Option.some.injEq, Prod.mk.injEq] at h
          obtain ⟨rfl, rfl⟩ := h
          rw [cur_other]
          · rw [if_pos (by rw [hi, Nat.add_zero]; simp)]; simp
          · intro j p hj hp
            have := hl (j + 1) p (by simpa using hj) hp (by omega)
            rw [show b + 1 + j = b + (j + 1) by omega, this, Bool.or_false]
            exact beqf _ _ (by omega)
        | succ m =>
          exact ih (b + 1) m _ (by simpa using h) (by omega) fun j p hj hp hlt => by
            have := hl (j + 1) p (by simpa using hj) hp (by omega)
            rw [show b + 1 + j = b + (j + 1) by omega]; exact this
    exact key l b m f hm him hlater
  · rename_i ht
    refine cur_congr l b f f rfl fun j p hj hp => ?_
    have : b + j ≠ i := by
      intro e
      have : j = m := by omega
      subst this
      rw [hm] at hj; cases hj
      exact ht hp.symm
    rw [beqf _ _ this, Bool.false_or]

section
variable {P : Program} {n : Nat} {Q : Exit → (Nat → AV) → Heap → Prop} {f : Nat → AV} {H : Heap}

/-- An operation yields v, whatever else has been carried out, as long as its operands are as they are here. -/
def QOp (P : Program) (n : Nat) (ops : Array Oper) (o : Oper) (d : Nat) (v : AV) (M : Heap → Prop) (f : Nat → AV) : Prop :=
  (o.guard = none ∧ ∀ f' H', (∀ t, (tmpsOf o).elem t = true → f' t = f t) → M H' → AOp P n o (fun f2 H2 => f2 = upd f' d v ∧ M H2) f' H') ∨
  (∃ j want oj dj b, o.guard = some (j, want) ∧ ops[j]? = some oj ∧ oj.dst = some dj ∧ f dj = gAV b ∧
    (b = some want → ∀ f' H', (∀ t, (tmpsOf o).elem t = true → f' t = f t) → M H' → AOp P n o (fun f2 H2 => f2 = upd f' d v ∧ M H2) f' H') ∧
    (b ≠ some want → v = .tup [] ∧ Nat.ble (d + 1) n = true))

theorem QOp.yes {ops : Array Oper} {o oj : Oper} {d j dj : Nat} {v : AV} {M : Heap → Prop} {b want : Bool} (hg : o.guard = some (j, want)) (hj : ops[j]? = some oj) (hd : oj.dst = some dj) (hf : f dj = .bool b) (hb : b = want)
    (h : ∀ f' H', (∀ t, (tmpsOf o).elem t = true → f' t = f t) → M H' → AOp P n o (fun f2 H2 => f2 = upd f' d v ∧ M H2) f' H') : QOp P n ops o d v M f :=
  .inr ⟨j, want, oj, dj, some b, hg, hj, hd, hf, fun _ => h, fun e => absurd (congrArg some hb) e⟩
theorem QOp.no {ops : Array Oper} {o oj : Oper} {d j dj : Nat} {M : Heap → Prop} {b want : Bool} (hg : o.guard = some (j, want)) (hj : ops[j]? = some oj) (hd : oj.dst = some dj) (hf : f dj = .bool b) (hb : b ≠ want) (hn : Nat.ble (d + 1) n = true) : QOp P n ops o d (.tup []) M f :=
  .inr ⟨j, want, oj, dj, some b, hg, hj, hd, hf, fun e => absurd (Option.some.inj e) hb, fun _ => ⟨rfl, hn⟩⟩
theorem QOp.un {ops : Array Oper} {o oj : Oper} {d j dj : Nat} {M : Heap → Prop} {want : Bool} (hg : o.guard = some (j, want)) (hj : ops[j]? = some oj) (hd : oj.dst = some dj) (hf : f dj = .tup []) (hn : Nat.ble (d + 1) n = true) : QOp P n ops o d (.tup []) M f :=
  .inr ⟨j, want, oj, dj, none, hg, hj, hd, hf, fun e => (by cases e), fun _ => ⟨rfl, hn⟩⟩

inductive QP (P : Program) (n : Nat) (ops : Array Oper) (M : Heap → Prop) (T : (Nat → AV) → Prop) (k : Nat) : Nat → (Nat → AV) → List (Nat × AV) → Prop
  | done {f : Nat → AV} (h : T f) : QP P n ops M T k k f []
  | op {i d : Nat} {f : Nat → AV} {v : AV} {L : List (Nat × AV)} {o : Oper} (ho : ops[i]? = some o) (hd : o.dst = some d) (h : QOp P n ops o d v M f) (rest : QP P n ops M T k (i + 1) (upd f d v) L) : QP P n ops M T k i f ((d, v) :: L)

theorem QP.len {ops : Array Oper} {M : Heap → Prop} {T : (Nat → AV) → Prop} {k b : Nat} {L : List (Nat × AV)} (h : QP P n ops M T k b f L) : b + L.length = k := by
  induction h with
  | done h => rfl
  | op ho hd h rest ih => simp only [List.length_cons]; omega

/-- The same, without the list. -/
def QE (P : Program) (n : Nat) (ops : Array Oper) (M : Heap → Prop) (T : (Nat → AV) → Prop) (k i : Nat) (f : Nat → AV) : Prop := ∃ L, QP P n ops M T k i f L
theorem QE.done {ops : Array Oper} {M : Heap → Prop} {T : (Nat → AV) → Prop} {k : Nat} (h : T f) : QE P n ops M T k k f := ⟨_, .done h⟩
theorem QE.op {ops : Array Oper} {M : Heap → Prop} {T : (Nat → AV) → Prop} {k i d : Nat} {v : AV} {o : Oper} (ho : ops[i]? = some o) (hd : o.dst = some d) (h : QOp P n ops o d v M f) (rest : QE P n ops M T k (i + 1) (upd f d v)) : QE P n ops M T k i f :=
  let ⟨_, r⟩ := rest; ⟨_, .op ho hd h r⟩

theorem QP.get {ops : Array Oper} {M : Heap → Prop} {T : (Nat → AV) → Prop} {k b : Nat} {L : List (Nat × AV)} (h : QP P n ops M T k b f L) : T (cur L b (fun _ => true) f) ∧
    ∀ m d v, L[m]? = some (d, v) → ∃ o, ops[b + m]? = some o ∧ o.dst = some d ∧ QOp P n ops o d v M (cur (L.take m) b (fun _ => true) f) := by
  induction h with
  | done h => exact ⟨h, fun m d v hm => by simp at hm⟩
  | op ho hd h rest ih =>
    rename_i i d0 f v0 L o
    refine ⟨by rw [cur, if_pos rfl]; exact ih.1, fun m d v hm => ?_⟩
    cases m with
    | zero =>
      simp only [List.getElem?_cons_zero, Option.some.injEq, Prod.mk.injEq] at hm
      obtain ⟨rfl, rfl⟩ := hm
      exact ⟨o, ho, hd, h⟩
    | succ m =>
      obtain ⟨o', h1, h2, h3⟩ := ih.2 m d v (by simpa using hm)
      refine ⟨o', by rw [← h1]; congr 1; omega, h2, ?_⟩
      rw [List.take_succ_cons, cur, if_pos rfl]; exact h3

theorem cur_take {S : Nat → Bool} {t : Nat} : ∀ (l : List (Nat × AV)) (b : Nat) (f : Nat → AV) (m : Nat), (∀ j p, l[j]? = some p → p.1 = t → j < m → S (b + j) = true) → (∀ j p, l[j]? = some p → p.1 = t → m ≤ j → S (b + j) = false) →
    cur l b S f t = cur (l.take m) b (fun _ => true) f t
  | [], _, _, _, _, _ => by simp [cur]
  | (d, v) :: l, b, f, 0, _, h2 => by
    rw [List.take_zero, cur_other _ _ _ fun j p hj hp => h2 j p hj hp (Nat.zero_le _)]; rfl
  | (d, v) :: l, b, f, m + 1, h1, h2 => by
    rw [List.take_succ_cons, cur, cur, if_pos rfl]
    have h1' : ∀ j p, l[j]? = some p → p.1 = t → j < m → S (b + 1 + j) = true := fun j p hj hp hlt => by
      have := h1 (j + 1) p (by simpa using hj) hp (by omega)
      rw [show b + 1 + j = b + (j + 1) by omega]; exact this
    have h2' : ∀ j p, l[j]? = some p → p.1 = t → m ≤ j → S (b + 1 + j) = false := fun j p hj hp hlt => by
      have := h2 (j + 1) p (by simpa using hj) hp (by omega)
      rw [show b + 1 + j = b + (j + 1) by omega]; exact this
    by_cases ht : d = t
    · have := h1 0 (d, v) rfl ht (by omega)
      rw [Nat.add_zero] at this
      rw [if_pos this]
      exact cur_take (t := t) l (b + 1) _ m h1' h2'
    · rw [cur_take (t := t) l (b + 1) _ m h1' h2']
      refine cur_congr _ _ _ _ ?_ fun _ _ _ _ => rfl
      split
      · rw [upd_ne _ _ (Ne.symm ht)]
      · rw [upd_ne _ _ (Ne.symm ht)]

theorem AWP.region_quiet {id : Nat} {ops : Array Oper} (hm : P.follows .mixedOrders = true) (hback : backB ops = true) (k : Nat) (tail : List Nat) (htl : (List.range ops.size).drop k = tail) (hq : quietB ops k = true) (M : Heap → Prop) (hM : M H)
    (h : QE P n ops M (fun f => ∀ H', M H' → AOps P n ops (Q .normal) tail f H') k 0 f) : AWP P n (.region id ops true) Q f H := by
  obtain ⟨L, h⟩ := h
  have hL : L.length = k := by have := h.len; omega
  obtain ⟨hT, hops⟩ := h.get
  simp only [quietB, Bool.and_eq_true] at hq
  obtain ⟨⟨hk, hq1⟩, hq2⟩ := hq
  have hk := Nat.le_of_ble_eq_true hk
  rw [List.all_eq_true] at hq1 hq2
  subst htl
  -- what holds at each set: the frame is the sequential one; once the head is through, the tail's own condition
  let I : (Nat → Bool) → (Nat → AV) → Heap → Prop := fun S f' H' => Dn ops S ∧
    ((∀ i, k ≤ i → i < ops.size → S i = false) ∧ (∀ t, f' t = cur L 0 S f t) ∧ M H' ∨
     ∃ i, k < i ∧ i ≤ ops.size ∧ (∀ j, j < i → S j = true) ∧ (∀ j, i ≤ j → j < ops.size → S j = false) ∧ AOps P n ops (Q .normal) ((List.range ops.size).drop i) f' H')
  have beqf : ∀ x y : Nat, x ≠ y → Nat.beq x y = false := fun x y h => by
    cases hb : Nat.beq x y with
    | false => rfl
    | true => exact absurd (Nat.eq_of_beq_eq_true hb) h
  have hdn : ∀ (S : Nat → Bool) i o, Dn ops S → ops[i]? = some o → (∀ e ∈ o.after, Region.binds .any e = true → S e.on = true) → Dn ops (fun k => Nat.beq k i || S k) := by
    intro S i o hD ho hr j oj hj hS e he hb
    by_cases hji : j = i
    · subst hji
      rw [ho] at hj; cases hj
      simp [hr e he hb]
    · have hS : (Nat.beq j i || S j) = true := hS
      rw [beqf _ _ hji, Bool.false_or] at hS
      simp [hD j oj hj hS e he hb]
  have bef : ∀ (S : Nat → Bool), Dn ops S → ∀ i m j, (befL ops.toList [])[i]? = some m → m.testBit j = true → S i = true → S j = true := fun S hD => bef_spec hD ops.toList [] (fun j => by simp) (fun i m j hi => by simp at hi)
  have befD : ∀ (S : Nat → Bool), Dn ops S → ∀ i j, ((befL ops.toList []).getD i 0).testBit j = true → S i = true → S j = true := by
    intro S hD i j hb hS
    rcases Nat.lt_or_ge i (befL ops.toList []).length with h | h
    · rw [List.getD_eq_getElem?_getD, List.getElem?_eq_getElem h, Option.getD_some] at hb
      exact bef S hD i _ j (List.getElem?_eq_getElem h) hb hS
    · rw [List.getD_eq_getElem?_getD, List.getElem?_eq_none h, Option.getD_none] at hb
      simp at hb
  refine AWP.region_any hm hback I ⟨fun _ _ _ h => (by cases h), .inl ⟨fun _ _ _ => rfl, fun t => (cur_other L 0 f fun _ _ _ _ => rfl).symm, hM⟩⟩ ?_ ?_
  · -- a step
    intro S i o ho hSi hr f' H' ⟨hD, hcase⟩
    have hi : i < ops.size := by
      rcases Nat.lt_or_ge i ops.size with h' | h'
      · exact h'
      · rw [Array.getElem?_eq_none h'] at ho; cases ho
    have hD' := hdn S i o hD ho hr
    have hSi' : (fun k => Nat.beq k i || S k) i = true := by simp
    -- the tail's operations, from a state at which all before i are through
    have tailstep : k ≤ i → (∀ j, j < i → S j = true) → (∀ j, i ≤ j → j < ops.size → S j = false) → AOps P n ops (Q .normal) ((List.range ops.size).drop i) f' H' →
        (o.guard = none ∧ AOp P n o (I (fun k => Nat.beq k i || S k)) f' H') ∨
        (∃ j want oj d b, o.guard = some (j, want) ∧ ops[j]? = some oj ∧ oj.dst = some d ∧ f' d = gAV b ∧ (b = some want → AOp P n o (I (fun k => Nat.beq k i || S k)) f' H') ∧ (b ≠ some want → ∃ d', o.dst = some d' ∧ Nat.ble (d' + 1) n = true ∧ I (fun k => Nat.beq k i || S k) (upd f' d' (.tup [])) H')) := by
      intro hki hbef hlow hA
      have hdrop : (List.range ops.size).drop i = i :: (List.range ops.size).drop (i + 1) := by
        rw [List.drop_eq_getElem_cons (by simpa using hi)]; simp
      rw [hdrop] at hA
      obtain ⟨o', ho', hA⟩ := hA
      rw [ho] at ho'; cases ho'
      have hI : ∀ f2 H2, AOps P n ops (Q .normal) ((List.range ops.size).drop (i + 1)) f2 H2 → I (fun k => Nat.beq k i || S k) f2 H2 := fun f2 H2 h =>
        ⟨hD', .inr ⟨i + 1, by omega, by omega, fun j hj => by
          by_cases hji : j = i
          · subst hji; simp
          · simp [hbef j (by omega)], fun j hj1 hj2 => by show (Nat.beq j i || S j) = false; rw [beqf _ _ (by omega), Bool.false_or]; exact hlow j (by omega) hj2, h⟩⟩
      have mono : AOp P n o (AOps P n ops (Q .normal) ((List.range ops.size).drop (i + 1))) f' H' → AOp P n o (I (fun k => Nat.beq k i || S k)) f' H' := fun h μ a w hs E =>
        Oper.wp_mono (fun a' w' ⟨μ', f2, H2, g1, g2, g3⟩ => ⟨μ', f2, H2, g1, g2, hI _ _ g3⟩) (fun _ _ _ _ h => h) (h μ a w hs E)
      rcases hA with ⟨hg, hA⟩ | ⟨j, want, oj, d, b, hg, hj, hd, hfb, h1, h2⟩
      · exact .inl ⟨hg, mono hA⟩
      · refine .inr ⟨j, want, oj, d, b, hg, hj, hd, hfb, fun e => mono (h1 e), fun e => ?_⟩
        obtain ⟨d', hd', hn', h3⟩ := h2 e
        exact ⟨d', hd', hn', hI _ _ h3⟩
    rcases hcase with ⟨hlow, hf, hM'⟩ | ⟨i0, h1, h2, h3, h4, h5⟩
    · by_cases hik : i < k
      · -- in the head
        have hLi : i < L.length := by omega
        obtain ⟨o', ho', hd, hop⟩ := hops i L[i].1 L[i].2 (List.getElem?_eq_getElem hLi)
        rw [Nat.zero_add, ho] at ho'
        cases ho'
        have hq := hq1 i (List.mem_range.2 hik)
        rw [ho] at hq
        simp only [hd, Bool.true_and, List.all_eq_true, List.mem_range] at hq
        -- who writes a slot that i looks at, or writes
        have hw : ∀ t, t ∈ tmpsOf o ++ guardSlot ops o ++ [L[i].1] → ∀ j p, L[j]? = some p → p.1 = t → j ≠ i → (j < i → S j = true) ∧ (i < j → S j = false) := by
          intro t ht j p hj hp hne
          have hjk : j < k := by
            have := (List.getElem?_eq_some_iff.1 hj).1; omega
          have h1 := hq t (by simpa using ht) j hjk
          obtain ⟨oj, hoj, hdj, _⟩ := hops j p.1 p.2 hj
          rw [Nat.zero_add] at hoj
          have hds : (ops.toList.map (·.dst))[j]? = some (some p.1) := by simp [hoj, hdj]
          rw [hds] at h1
          simp only [beqf _ _ (Ne.symm hne), Bool.false_or, hp] at h1
          have htt : Nat.beq t t = true := by simp
          rw [htt] at h1
          simp only [Bool.not_true, Bool.false_or] at h1
          refine ⟨fun hlt => ?_, fun hlt => ?_⟩
          · rw [if_pos hlt] at h1
            have := befD _ hD' i j h1 hSi'
            have this : (Nat.beq j i || S j) = true := this
            rw [beqf _ _ hne, Bool.false_or] at this
            exact this
          · rw [if_neg (by omega)] at h1
            cases hSj : S j with
            | false => rfl
            | true =>
              have := befD S hD j i h1 hSj
              rw [hSi] at this; cases this
        have hval : ∀ t, t ∈ tmpsOf o ++ guardSlot ops o ++ [L[i].1] → f' t = cur (L.take i) 0 (fun _ => true) f t := by
          intro t ht
          rw [hf t]
          refine cur_take L 0 f i (fun j p hj hp hlt => ?_) (fun j p hj hp hge => ?_)
          · rw [Nat.zero_add]; exact (hw t ht j p hj hp (by omega)).1 hlt
          · rw [Nat.zero_add]
            by_cases hji : j = i
            · rw [hji]; exact hSi
            · exact (hw t ht j p hj hp hji).2 (by omega)
        have hnew : ∀ f2, f2 = upd f' L[i].1 L[i].2 → ∀ t, f2 t = cur L 0 (fun k => Nat.beq k i || S k) f t := by
          intro f2 h2 t
          rw [h2, cur_set L 0 f L[i].1 L[i].2 i (by omega) (List.getElem?_eq_getElem hLi) hSi (fun j p hj hp hlt => by
            rw [Nat.zero_add]; exact (hw L[i].1 (by simp) j p hj hp (by omega)).2 hlt) t, upd_eq, upd_eq, hf t]
        have hI : ∀ f2 H2, f2 = upd f' L[i].1 L[i].2 ∧ M H2 → I (fun k => Nat.beq k i || S k) f2 H2 := fun f2 H2 ⟨e, m⟩ =>
          ⟨hD', .inl ⟨fun j hj hj2 => by show (Nat.beq j i || S j) = false; rw [beqf _ _ (by omega), Bool.false_or]; exact hlow j hj hj2, hnew f2 e, m⟩⟩
        have mono : ∀ {K K' : (Nat → AV) → Heap → Prop}, (∀ f H, K f H → K' f H) → AOp P n o K f' H' → AOp P n o K' f' H' := fun hk h μ a w hs E =>
          Oper.wp_mono (fun a' w' ⟨μ', f2, H2, g1, g2, g3⟩ => ⟨μ', f2, H2, g1, g2, hk _ _ g3⟩) (fun _ _ _ _ h => h) (h μ a w hs E)
        rcases hop with ⟨hg, hop⟩ | ⟨j, want, oj, dj, b, hg, hj, hdj, hfb, hyes, hno⟩
        · exact .inl ⟨hg, mono hI (hop f' H' (fun t ht => hval t (by have := List.elem_iff.1 ht; simp [this])) hM')⟩
        · refine .inr ⟨j, want, oj, dj, b, hg, hj, hdj, ?_, fun hb => mono hI (hyes hb f' H' (fun t ht => hval t (by have := List.elem_iff.1 ht; simp [this])) hM'), fun hb => ?_⟩
          · rw [hval dj (by simp [guardSlot, hg, hj, hdj])]; exact hfb
          · obtain ⟨hv, hn⟩ := hno hb
            exact ⟨L[i].1, hd, hn, hI _ _ ⟨by rw [hv], hM'⟩⟩
      · -- the tail begins
        have hki : k ≤ i := by omega
        have hbef : ∀ j, j < i → S j = true := by
          intro j hj
          have h1 := hq2 i (List.mem_range.2 hi)
          simp only [Bool.or_eq_true, decide_eq_true_eq, List.all_eq_true, List.mem_range] at h1
          rcases h1 with h1 | h1
          · omega
          · have : (Nat.beq j i || S j) = true := befD _ hD' i j (h1 j hj) hSi'
            rw [beqf _ _ (by omega), Bool.false_or] at this
            exact this
        have hik' : i = k := by
          rcases Nat.lt_or_ge k i with h | h
          · have := hbef k h; rw [hlow k (Nat.le_refl _) (by omega)] at this; cases this
          · omega
        subst hik'
        refine tailstep (Nat.le_refl _) hbef hlow ?_
        have hfall : f' = cur L 0 (fun _ => true) f := by
          funext t
          rw [hf t]
          exact cur_congr L 0 f f rfl fun j p hj _ => by
            have := (List.getElem?_eq_some_iff.1 hj).1
            rw [Nat.zero_add]; exact hbef j (by omega)
        rw [hfall]
        exact hT H' hM'
    · have hii : i = i0 := by
        have hge : i0 ≤ i := by
          rcases Nat.lt_or_ge i i0 with h | h
          · rw [h3 i h] at hSi; cases hSi
          · exact h
        rcases Nat.lt_or_ge i0 i with h | h
        · have h1' := hq2 i (List.mem_range.2 hi)
          simp only [Bool.or_eq_true, decide_eq_true_eq, List.all_eq_true, List.mem_range] at h1'
          rcases h1' with h1' | h1'
          · omega
          · have : (Nat.beq i0 i || S i0) = true := befD _ hD' i i0 (h1' i0 h) hSi'
            rw [beqf _ _ (by omega), Bool.false_or, h4 i0 (Nat.le_refl _) (by omega)] at this
            cases this
        · omega
      subst hii
      exact tailstep (by omega) h3 h4 h5
  · -- the end
    intro S f' H' hall ⟨hD, hcase⟩
    rcases hcase with ⟨hlow, hf, hM'⟩ | ⟨i0, h1, h2, h3, h4, h5⟩
    · have hkn : k = ops.size := by
        rcases Nat.lt_or_ge k ops.size with h | h
        · have := hlow k (Nat.le_refl _) h; rw [hall k h] at this; cases this
        · omega
      have hfall : f' = cur L 0 (fun _ => true) f := by
        funext t
        rw [hf t]
        exact cur_congr L 0 f f rfl fun j p hj _ => by
          have := (List.getElem?_eq_some_iff.1 hj).1
          rw [Nat.zero_add]; exact hall j (by omega)
      have h5 := hT H' hM'
      rw [← hfall, hkn, List.drop_of_length_le (by simp)] at h5
      exact h5
    · have hi0 : i0 = ops.size := by
        rcases Nat.lt_or_ge i0 ops.size with h | h
        · have := h4 i0 (Nat.le_refl _) h; rw [hall i0 h] at this; cases this
        · omega
      rw [hi0, List.drop_of_length_le (by simp)] at h5
      exact h5

end
end Go.AH
