/- A part of the proof that a law answers true for every input of its row: own work, by an AI agent. -/
import Derived.Test.YtfgfalidpbbkhaaDoorB03
import Derived.Test.YtfgfalidpbbkhaaDoorB01
import Derived.KernelRfl
import Derived.Test.YtfgfalidpbbkhaaDoorCards
import Derived.Test.YtfgfalidpbbkhaaDoorTie
import Derived.WalkKit
import Derived.ProofKit
import Derived.OpenShut
import Derived.Deep.DeepHandedRow
import Derived.Lib.LaidTab
import Derived.WideKeyArgs
set_option linter.unusedSimpArgs false
set_option linter.unusedVariables false
namespace Go.AH
variable [Globs]
set_option linter.unusedSectionVars false
set_option linter.unusedVariables false
set_option linter.unusedSimpArgs false
open Go
section
variable {P : Program} {n : Nat} {Q : Exit → (Nat → AV) → Heap → Prop} {f : Nat → AV} {H : Heap}
/-- The first phase: plain operations, and those that lay blocks, in any order. -/
def STRN (P : Program) (n : Nat) (ops : Array Oper) (A : List New) (H : Heap) (K : List Ent → (Nat → AV) → Prop) : List Nat → List Ent → (Nat → AV) → Prop
  | [], L, g => K L g
  | i :: r, L, g => ∃ o d v, ops[i]? = some o ∧ o.dst = some d ∧ EntAs P n ops A H i o d v g ∧ STRN P n ops A H K r ((i, some d, v) :: L) (upd g d v)
theorem STRN.done {ops : Array Oper} {A : List New} {K : List Ent → (Nat → AV) → Prop} {L : List Ent} {g : Nat → AV} (h : K L g) : STRN P n ops A H K [] L g := h
theorem STRN.op {ops : Array Oper} {A : List New} {K : List Ent → (Nat → AV) → Prop} {r : List Nat} {L : List Ent} {g : Nat → AV} {i d : Nat} {v : AV} {o : Oper} (hi : notinB A i = true) (ho : ops[i]? = some o) (hd : o.dst = some d) (h : QOpA P n ops o d v H g) (rest : STRN P n ops A H K r ((i, some d, v) :: L) (upd g d v)) : STRN P n ops A H K (i :: r) L g :=
  ⟨o, d, v, ho, hd, .inl ⟨fun e he g => by
    have := List.all_eq_true.1 hi e he
    rw [g] at this; simp at this, h⟩, rest⟩
theorem STRN.alloc {ops : Array Oper} {A : List New} {K : List Ent → (Nat → AV) → Prop} {r : List Nat} {L : List Ent} {g : Nat → AV} {i d id : Nat} {Z : List AV} {o : Oper} {t : TypeId} (hi : (i, id, .row 0 Z) ∈ A) (ho : ops[i]? = some o) (hd : o.dst = some d) (hg : o.guard = none) (hop : o.op = .alloc t) (hn : Nat.ble (d + 1) n = true) (hz : TZero P t Z) (rest : STRN P n ops A H K r ((i, some d, .ptr id 0 0) :: L) (upd g d (.ptr id 0 0))) : STRN P n ops A H K (i :: r) L g :=
  ⟨o, d, _, ho, hd, .inr ⟨id, _, hi, (fun f' H' _ hr => by
      obtain ⟨dst, op, ty, pos, after, guard⟩ := o
      simp only at hd hop
      subst hd hop
      exact AOp.alloc_at id (.inr hr) hn hz ⟨rfl, rfl⟩), hg⟩, rest⟩
def VldN (P : Program) (n : Nat) (ops : Array Oper) (A : List New) (H : Heap) (f : Nat → AV) (L : List Ent) : Prop :=
  ∀ A' e B, L = A' ++ e :: B → ∃ o d, ops[e.1]? = some o ∧ o.dst = some d ∧ e.2.1 = some d ∧ EntAs P n ops A H e.1 o d e.2.2 (ov top A' f)
theorem STRN.get {ops : Array Oper} {A : List New} {K : List Ent → (Nat → AV) → Prop} : ∀ {r : List Nat} {L : List Ent}, VldN P n ops A H f L.reverse → Dst ops L.reverse → STRN P n ops A H K r L (ovR L f) →
    ∃ M, M.reverse.map (·.1) = L.reverse.map (·.1) ++ r ∧ VldN P n ops A H f M.reverse ∧ Dst ops M.reverse ∧ K M (ovR M f)
  | [], L, hv, hd, h => ⟨L, by simp, hv, hd, h⟩
  | i :: r, L, hv, hd, ⟨o, d, v, h1, h2, h3, h4⟩ => by
    have hv' : VldN P n ops A H f ((i, some d, v) :: L).reverse := by
      intro A' e B hL
      rw [List.reverse_cons] at hL
      rcases List.append_eq_append_iff.1 hL with ⟨C, g1, g2⟩ | ⟨C, g1, g2⟩
      · cases C with
        | nil =>
          simp only [List.nil_append, List.cons.injEq] at g2
          obtain ⟨rfl, _⟩ := g2
          rw [List.append_nil] at g1; subst g1
          refine ⟨o, d, h1, h2, rfl, ?_⟩
          rw [← ovR_eq]; exact h3
        | cons c C => simp at g2
      · cases C with
        | nil =>
          simp only [List.nil_append, List.cons.injEq] at g2
          obtain ⟨rfl, _⟩ := g2
          rw [List.append_nil] at g1; subst g1
          refine ⟨o, d, h1, h2, rfl, ?_⟩
          rw [← ovR_eq]; exact h3
        | cons c C =>
          simp only [List.cons_append, List.cons.injEq] at g2
          obtain ⟨rfl, g2⟩ := g2
          exact hv A' e C g1
    have hd' : Dst ops ((i, some d, v) :: L).reverse := by
      intro e he
      rw [List.reverse_cons] at he
      rcases List.mem_append.1 he with he | he
      · exact hd e he
      · simp at he; subst he; simp [dstOf, h1, h2]
    obtain ⟨M, m1, m2, m3, m4⟩ := STRN.get hv' hd' h4
    exact ⟨M, by rw [m1]; simp, m2, m3, m4⟩
def headB (ops : Array Oper) (A : List New) (ord1 : List Nat) (ord2 : List Item) : Bool :=
  (A.all fun e => ord1.elem e.1) && (ord2.all fun x => A.all fun e => bfB ops x.1 e.1) && (match ord2.head? with | some x => x.2.isSome | none => true)
theorem AWP.region_strA {rid : Nat} {ops : Array Oper} (hm : P.follows .mixedOrders = true) (hback : backB ops = true) (A : List New) (ord1 : List Nat) (ord2 : List Item) (tail : List Nat) (hq : stgB ops ((ord1.map fun i => ((i, none) : Item)) ++ ord2) tail = true) (hh : headB ops A ord1 ord2 = true) (hA : FrA H A)
    (h : STRN P n ops A H (fun L g => ∀ H1, Mono H H1 → (∀ e ∈ A, H1 e.2.1 = some e.2.2) → STR P n ops f (fun g H' => AOps P n ops (Q .normal) tail g H') ord2 L H1 g) ord1 [] f) : AWP P n (.region rid ops true) Q f H := by
  have hall := stg_all (P := P) (n := n) (Q := Q) (f := f) ((ord1.map fun i => ((i, none) : Item)) ++ ord2) tail hq
  simp only [headB, Bool.and_eq_true, List.all_eq_true] at hh
  obtain ⟨⟨hh1, hh2⟩, hh3⟩ := hh
  obtain ⟨M, e3, e6, e7, hK⟩ := STRN.get (f := f) (L := []) (fun A' e B h => by simp at h) (fun _ h => by simp at h) h
  simp only [List.reverse_nil, List.map_nil, List.nil_append] at e3
  have hK' : ∀ H1, Mono H H1 → (∀ e ∈ A, H1 e.2.1 = some e.2.2) → STQ P n ops f (fun g H' => AOps P n ops (Q .normal) tail g H') ord2 M.reverse H1 (ov top M.reverse f) := fun H1 m1 m2 => by
    have := (hK H1 m1 m2).to
    rw [ovR_eq] at this; exact this
  clear hK h
  generalize M.reverse = L at *
  let ord : List Item := (ord1.map fun i => ((i, none) : Item)) ++ ord2
  simp only [stgB, Bool.and_eq_true, List.all_eq_true, List.mem_range] at hq
  obtain ⟨⟨⟨⟨⟨q1, q2⟩, q3⟩, q4⟩, q5⟩, q6⟩ := hq
  have beqf : ∀ x y : Nat, x ≠ y → Nat.beq x y = false := fun x y h => by
    cases hb : Nat.beq x y with
    | false => rfl
    | true => exact absurd (Nat.eq_of_beq_eq_true hb) h
  have hdn : ∀ (S : Nat → Bool) i o, Dn ops S → ops[i]? = some o → (∀ e ∈ o.after, Region.binds .any e = true → S e.on = true) → Dn ops (fun k => Nat.beq k i || S k) := by
    intro S i o hD ho hr j oj hj hS e he hb
    by_cases hji : j = i
    · subst hji
      rw [ho] at hj; cases hj
      simp [hr e he hb]
    · have hS : (Nat.beq j i || S j) = true := hS
      rw [beqf _ _ hji, Bool.false_or] at hS
      simp [hD j oj hj hS e he hb]
  have befD : ∀ (S : Nat → Bool), Dn ops S → ∀ i j, bfB ops i j = true → S i = true → S j = true := by
    intro S hD i j hb hS
    unfold bfB at hb
    rcases Nat.lt_or_ge i (befL ops.toList []).length with h | h
    · rw [List.getD_eq_getElem?_getD, List.getElem?_eq_getElem h, Option.getD_some] at hb
      exact bef_spec hD ops.toList [] (fun j => by simp) (fun i m j hi => by simp at hi) i _ j (List.getElem?_eq_getElem h) hb hS
    · rw [List.getD_eq_getElem?_getD, List.getElem?_eq_none h, Option.getD_none] at hb
      simp at hb
  have nb : ∀ {x y : Nat}, (!Nat.beq x y) = true → x ≠ y := fun h e => by subst e; simp at h
  have e3' : L.map (·.1) = (ord1.map fun i => ((i, none) : Item)).map (·.1) := by rw [e3, List.map_map]; exact (List.map_id ord1).symm
  let Ph : (Nat → Bool) → (Nat → AV) → Heap → Prop := fun S f' H' => Dn ops S ∧ (∀ x ∈ ord2, S x.1 = false) ∧ (∀ c ∈ tail, S c = false) ∧ (∀ t, f' t = ov S L f t) ∧ Mono (HSf A H S) H'
  have conv : ∀ S f' H', Ph S f' H' → (∀ e ∈ A, S e.1 = true) → StgI P n ops ((ord1.map fun i => ((i, none) : Item)) ++ ord2) tail Q f S f' H' := by
    intro S f' H' ⟨hD, p1, p2, p3, p4⟩ hS
    have hs : HSf A H S = HSf A H top := HSf_same fun e he => by rw [hS e he]
    rw [hs] at p4
    have hHm : Mono H (HSf A H top) := HSf_mono hA (Mono.refl _)
    refine ⟨hD, .inl ⟨ord1.map fun i => ((i, none) : Item), ord2, L, HSf A H top, rfl, ?_, e3', p1, p2, ?_, e7, p3, p4, hK' _ hHm fun e he => HSf_mem hA he⟩⟩
    · intro x hx
      have hx : ord2.head? = some x := hx
      rw [hx] at hh3
      intro e
      have hh3 : x.2.isSome = true := hh3
      rw [e] at hh3; cases hh3
    · intro A' e B hL hSe
      obtain ⟨o, d, k1, k2, k3, k4⟩ := e6 A' e B hL
      rcases k4 with ⟨_, k4⟩ | ⟨id, B', k4, _⟩
      · exact ⟨o, d, k1, k2, k3, k4.mono hHm⟩
      · rw [hS _ k4] at hSe; cases hSe
  refine AWP.reserveA hA ?_
  refine AWP.region_any hm hback (fun S f' H' => Ph S f' H' ∨ StgI P n ops ((ord1.map fun i => ((i, none) : Item)) ++ ord2) tail Q f S f' H') (.inl ⟨fun _ _ _ h => (by cases h), fun _ _ => rfl, fun _ _ => rfl, fun t => by rw [ov_none L f fun _ _ => rfl], Mono.refl _⟩) ?_ ?_
  · intro S i o ho hSi hr f' H' hcase
    have mono : ∀ {K K' : (Nat → AV) → Heap → Prop}, (∀ f H, K f H → K' f H) → AOp P n o K f' H' → AOp P n o K' f' H' := fun hk h μ a w hs E =>
      Oper.wp_mono (fun a' w' ⟨μ', f2, H2, g1, g2, g3⟩ => ⟨μ', f2, H2, g1, g2, hk _ _ g3⟩) (fun _ _ _ _ h => h) (h μ a w hs E)
    have viaI : StgI P n ops ((ord1.map fun i => ((i, none) : Item)) ++ ord2) tail Q f S f' H' → _ := fun hI => hall.1 S i o ho hSi hr f' H' hI
    have up : ∀ {f2 H2}, StgI P n ops ((ord1.map fun i => ((i, none) : Item)) ++ ord2) tail Q f (fun k => Nat.beq k i || S k) f2 H2 → (Ph (fun k => Nat.beq k i || S k) f2 H2 ∨ StgI P n ops ((ord1.map fun i => ((i, none) : Item)) ++ ord2) tail Q f (fun k => Nat.beq k i || S k) f2 H2) := .inr
    have fin2 : StgI P n ops ((ord1.map fun i => ((i, none) : Item)) ++ ord2) tail Q f S f' H' → (o.guard = none ∧ AOp P n o (fun f2 H2 => Ph (fun k => Nat.beq k i || S k) f2 H2 ∨ StgI P n ops ((ord1.map fun i => ((i, none) : Item)) ++ ord2) tail Q f (fun k => Nat.beq k i || S k) f2 H2) f' H') ∨
      (∃ j want oj d b, o.guard = some (j, want) ∧ ops[j]? = some oj ∧ oj.dst = some d ∧ f' d = gAV b ∧
        (b = some want → AOp P n o (fun f2 H2 => Ph (fun k => Nat.beq k i || S k) f2 H2 ∨ StgI P n ops ((ord1.map fun i => ((i, none) : Item)) ++ ord2) tail Q f (fun k => Nat.beq k i || S k) f2 H2) f' H') ∧
        (b ≠ some want → ∃ d', o.dst = some d' ∧ Nat.ble (d' + 1) n = true ∧ (Ph (fun k => Nat.beq k i || S k) (upd f' d' (.tup [])) H' ∨ StgI P n ops ((ord1.map fun i => ((i, none) : Item)) ++ ord2) tail Q f (fun k => Nat.beq k i || S k) (upd f' d' (.tup [])) H'))) := fun hI => by
      rcases viaI hI with ⟨g1, g2⟩ | ⟨j, want, oj, d, b, g1, g2, g3, g4, g5, g6⟩
      · exact .inl ⟨g1, mono (fun _ _ h => up h) g2⟩
      · refine .inr ⟨j, want, oj, d, b, g1, g2, g3, g4, fun e => mono (fun _ _ h => up h) (g5 e), fun e => ?_⟩
        obtain ⟨d', k1, k2, k3⟩ := g6 e
        exact ⟨d', k1, k2, up k3⟩
    rcases hcase with hP | hI
    · by_cases hdone : ∀ e ∈ A, S e.1 = true
      · exact fin2 (conv S f' H' hP hdone)
      · obtain ⟨hD, p1, p2, e8, e9⟩ := hP
        have hi : i < ops.size := by
          rcases Nat.lt_or_ge i ops.size with h' | h'
          · exact h'
          · rw [Array.getElem?_eq_none h'] at ho; cases ho
        have hD' := hdn S i o hD ho hr
        have hSi' : (fun k => Nat.beq k i || S k) i = true := by simp
        have hbef : ∀ j, j ≠ i → bfB ops i j = true → S j = true := fun j hj hb => by
          have : (Nat.beq j i || S j) = true := befD _ hD' i j hb hSi'
          rwa [beqf _ _ hj, Bool.false_or] at this
        have hoth : ∀ x, x ≠ i → (fun k => Nat.beq k i || S k) x = S x := fun x hx => by show (Nat.beq x i || S x) = S x; rw [beqf _ _ hx, Bool.false_or]
        have mono2 : ∀ {K K' : (Nat → AV) → Heap → Prop}, (∀ f H, K f H → K' f H) → AOp P n o K f' H' → AOp P n o K' f' H' := fun hk h μ a w hs E =>
          Oper.wp_mono (fun a' w' ⟨μ', f2, H2, g1, g2, g3⟩ => ⟨μ', f2, H2, g1, g2, hk _ _ g3⟩) (fun _ _ _ _ h => h) (h μ a w hs E)
        have hi1 : i ∈ ord1 := by
          apply Classical.byContradiction
          intro hni
          apply hdone
          intro e he
          have he1 : e.1 ∈ ord1 := List.elem_iff.1 (hh1 e he)
          have hne : e.1 ≠ i := fun g => hni (g ▸ he1)
          refine hbef e.1 hne ?_
          rcases Bool.or_eq_true _ _ ▸ q1 i hi with hio | hit
          · obtain ⟨x, hx, hxi⟩ := List.mem_map.1 (List.elem_iff.1 hio)
            rcases List.mem_append.1 hx with hx | hx
            · obtain ⟨y, hy, rfl⟩ := List.mem_map.1 hx
              simp only at hxi; subst hxi; exact absurd hy hni
            · rw [← hxi]; exact hh2 x hx e he
          · have := q6 i (List.elem_iff.1 hit) (e.1, none) (by simp [he1])
            exact this.2
        have hLi : ∃ e ∈ L, e.1 = i := by
          have : i ∈ L.map (·.1) := by rw [e3]; exact hi1
          obtain ⟨e, h1, h2⟩ := List.mem_map.1 this
          exact ⟨e, h1, h2⟩
        have e3 := e3'
        obtain ⟨⟨i', dd, v⟩, hmem, rfl⟩ := hLi
        obtain ⟨AL, BL, hL⟩ := mem_split hmem
        obtain ⟨o', d, ho', hd, hdd, hop⟩ := e6 AL (i', dd, v) BL hL
        simp only at hdd
        subst hdd
        simp only at ho hSi hr hi hD' hSi' hbef hoth ho' hd hop fin2 ⊢
        rw [ho] at ho'; cases ho'
        -- the items of the order
        obtain ⟨PA, x, PB, hp, hPA, hx, hPB⟩ : ∃ PA x PB, (ord1.map fun i => ((i, none) : Item)) = PA ++ x :: PB ∧ PA.map (·.1) = AL.map (·.1) ∧ x.1 = i' ∧ PB.map (·.1) = BL.map (·.1) := by
          rw [hL, List.map_append, List.map_cons] at e3
          obtain ⟨P1, P2, k1, k2, k3⟩ := List.map_eq_append_iff.1 e3.symm
          obtain ⟨x, P3, k4, k5, k6⟩ := List.map_eq_cons_iff.1 k3
          exact ⟨P1, x, P3, by rw [k1, k4], k2, k5, k6⟩
        have hpair := prs_spec (p := pairB ops) (A := PA) (a := x) (B := PB ++ ord2) (by rw [hp] at q4; simpa using q4)
        have hAe : ∀ e ∈ AL, e.1 ≠ i' ∧ ∀ t ∈ touch ops i', e.2.1 = some t → S e.1 = true := fun e he => by
          have : e.1 ∈ AL.map (·.1) := List.mem_map_of_mem he
          rw [← hPA] at this
          obtain ⟨y, hy, hy1⟩ := List.mem_map.1 this
          have hb := hpair.2 y hy
          simp only [pairB, Bool.and_eq_true, List.all_eq_true] at hb
          obtain ⟨⟨⟨⟨b1, b2⟩, b3⟩, b4⟩, b5⟩ := hb
          rw [hy1, hx] at b1 b2 b3
          have hne := nb b1
          refine ⟨hne, fun t ht hd => ?_⟩
          have h3 := b3 t ht
          have hds : dstOf ops e.1 = e.2.1 := e7 e (by rw [hL]; simp [he])
          rw [hds] at h3
          simp only [hd, Nat.beq_refl, Bool.not_true, Bool.false_or] at h3
          exact hbef e.1 hne h3
        have hBe : ∀ e ∈ BL, e.1 ≠ i' ∧ ∀ t ∈ touch ops i', e.2.1 = some t → S e.1 = false := fun e he => by
          have : e.1 ∈ BL.map (·.1) := List.mem_map_of_mem he
          rw [← hPB] at this
          obtain ⟨y, hy, hy1⟩ := List.mem_map.1 this
          have hb := hpair.1 y (by simp [hy])
          simp only [pairB, Bool.and_eq_true, List.all_eq_true] at hb
          obtain ⟨⟨⟨⟨b1, b2⟩, b3⟩, b4⟩, b5⟩ := hb
          rw [hy1, hx] at b1 b2 b3
          have hne := nb b1
          refine ⟨hne.symm, fun t ht hd => ?_⟩
          have h2 := b2 t ht
          have hds : dstOf ops e.1 = e.2.1 := e7 e (by rw [hL]; simp [he])
          rw [hds] at h2
          simp only [hd, Nat.beq_refl, Bool.not_true, Bool.false_or] at h2
          cases hSe : S e.1 with
          | false => rfl
          | true => have := befD S hD e.1 i' h2 hSe; rw [hSi] at this; cases this
        have htouch : ∀ t, t ∈ tmpsOf o ++ guardSlot ops o ++ [d] → t ∈ touch ops i' := fun t ht => by
          simp only [touch, ho, hd, Option.toList]; exact ht
        have hval : ∀ t, t ∈ tmpsOf o ++ guardSlot ops o ++ [d] → f' t = ov top AL f t := by
          intro t ht
          rw [e8 t, hL, ov_app]
          rw [ov_slot (S := S) (S' := fun _ => false) ((i', some d, v) :: BL) _ (ov top AL f) (ov_slot AL f f rfl fun e he hd => (hAe e he).2 t (htouch t ht) hd) fun e he hd => ?_]
          · exact congrFun (ov_none _ _ fun _ _ => rfl) t
          · rcases List.mem_cons.1 he with rfl | he
            · exact hSi
            · exact (hBe e he).2 t (htouch t ht) hd
        have hnew : ∀ t, upd f' d v t = ov (fun k => Nat.beq k i' || S k) L f t := by
          intro t
          have hAc : ov (fun k => Nat.beq k i' || S k) AL f = ov S AL f := ov_congr AL f fun e he => hoth e.1 (hAe e he).1
          rw [hL, ov_app, hAc, ov, if_pos hSi']
          by_cases htd : t = d
          · subst htd
            rw [upd_eq, if_pos rfl]
            rw [ov_slot (S' := fun _ => false) BL _ _ rfl fun e he hd => by
              exact (hoth e.1 (hBe e he).1).trans ((hBe e he).2 t (htouch t (by simp)) hd)]
            rw [ov_none BL _ fun _ _ => rfl]; simp [updO, upd_eq]
          · rw [upd_eq, if_neg htd, e8 t, hL, ov_app, ov, if_neg (by rw [hSi]; decide)]
            exact (ov_slot BL _ _ (by simp only [updO]; rw [upd_eq, if_neg htd]) fun e he _ => hoth e.1 (hBe e he).1).symm
        have hneO : ∀ x ∈ ord2, x.1 ≠ i' := fun y hy he => by
          have hb := hpair.1 y (by simp [hy])
          simp only [pairB, Bool.and_eq_true] at hb
          exact nb hb.1.1.1.1 (by rw [hx, he])
        have hneT : ∀ c ∈ tail, c ≠ i' := fun c hc he => by
          have := q6 c hc x (by rw [hp]; simp)
          exact nb this.1 (by rw [he, hx])
        have hI : ∀ f2 H2, f2 = upd f' d v ∧ Mono (HSf A H fun k => Nat.beq k i' || S k) H2 → (Ph (fun k => Nat.beq k i' || S k) f2 H2 ∨ StgI P n ops ((ord1.map fun i => ((i, none) : Item)) ++ ord2) tail Q f (fun k => Nat.beq k i' || S k) f2 H2) := fun f2 H2 ⟨e, m⟩ =>
          .inl ⟨hD', fun y hy => (hoth _ (hneO y hy)).trans (p1 y hy), fun c hc => (hoth _ (hneT c hc)).trans (p2 c hc), by rw [e]; exact hnew, m⟩
        rcases hop with ⟨hia, hop⟩ | ⟨id, B, hiA, hov, hg⟩
        · have hSame : HSf A H (fun k => Nat.beq k i' || S k) = HSf A H S := HSf_same fun e he => by rw [beqf _ _ (hia e he), Bool.false_or]
          rw [hSame] at hI
          have hMH := HSf_mono hA e9
          rcases hop with ⟨hg, hop⟩ | ⟨j, want, oj, dj, b, hg, hj, hdj, hfb, hyes, hno⟩
          · exact .inl ⟨hg, mono (fun f2 H2 h => hI f2 H2 ⟨h.1, e9.trans h.2⟩) (hop H' f' H' (fun t ht => hval t (by have := List.elem_iff.1 ht; simp [this])) (Mono.refl _) hMH)⟩
          · refine .inr ⟨j, want, oj, dj, b, hg, hj, hdj, ?_, fun hb => mono (fun f2 H2 h => hI f2 H2 ⟨h.1, e9.trans h.2⟩) (hyes hb H' f' H' (fun t ht => hval t (by have := List.elem_iff.1 ht; simp [this])) (Mono.refl _) hMH), fun hb => ?_⟩
            · rw [hval dj (by simp [guardSlot, hg, hj, hdj])]; exact hfb
            · obtain ⟨hv, hn⟩ := hno hb
              exact ⟨d, hd, hn, hI _ _ ⟨by rw [hv], e9⟩⟩
        · refine .inl ⟨hg, ?_⟩
          have hres : H' id = some .res := e9 id .res (by have := HSf_mem hA (S := S) hiA; simp only [hSi] at this; exact this)
          refine mono (fun f2 H2 h => hI f2 H2 ?_) (hov f' H' (fun t ht => hval t (by have := List.elem_iff.1 ht; simp [this])) hres)
          obtain ⟨e, e2⟩ := h
          refine ⟨e, ?_⟩
          intro j C hj
          rw [e2, updH_eq]
          by_cases c : j = id
          · rw [if_pos c]
            have h1 := HSf_mem hA (S := fun k => Nat.beq k i' || S k) hiA
            simp only [hSi', if_true] at h1
            rw [c, h1] at hj
            exact hj
          · rw [if_neg c]
            refine e9 j C ?_
            by_cases g : ∃ e ∈ A, e.2.1 = j
            · obtain ⟨e, he, rfl⟩ := g
              have h1 := HSf_mem hA (S := fun k => Nat.beq k i' || S k) he
              have h2 := HSf_mem hA (S := S) he
              have hne : e.1 ≠ i' := fun g => c (congrArg (fun x : New => x.2.1) (hA.inj he hiA (.inr g)))
              rw [beqf _ _ hne, Bool.false_or] at h1
              rw [h1, ← h2] at hj
              exact hj
            · have h1 : ∀ e ∈ A, e.2.1 ≠ j := fun e he h => g ⟨e, he, h⟩
              rw [HSf_not h1] at hj
              rw [HSf_not h1]; exact hj
    · exact fin2 hI
  · intro S f' H' hS hcase
    rcases hcase with hP | hI
    · refine hall.2 S f' H' hS (conv S f' H' hP fun e he => ?_)
      have := q2 (e.1, none) (by simp [List.elem_iff.1 (hh1 e he)])
      exact hS _ (Nat.blt_eq ▸ this)
    · exact hall.2 S f' H' hS hI

end
end Go.AH
namespace Go.Proofs.M
open Go Go.AH
set_option maxRecDepth 4000
set_option linter.unusedSimpArgs false
set_option linter.unusedVariables false
set_option maxHeartbeats 4000000
def R_mesh_corner (p : PatchT) (cage id : Int) (rs : List Int) (m : Int) (k : Int) : VertexT :=
  (VertexT.mk (at_ p.aP (at_ ([0, 3, 15, 12] : List Int) k)) (at_ p.aNormals k) (KeyT.mk 1 cage (at_ p.aCorners k) 0 0))
theorem c_mesh_corner (p : PatchT) (cage id : Int) (rs : List Int) (h : rs.length = 4) (m : Int) (k : Int) (hk : 0 ≤ k ∧ k < 4) : PC Tryd.prog 52 [.fptr ((p.aP.flatMap eV) ++ ((p.aCorners.map eI) ++ ((p.aNormals.flatMap eV) ++ (([J p.Skin, J cage, J id] : List AV) ++ ((rs.map eI) ++ ([J m] : List AV)))))) 0, J k] (.agg [J (((R_mesh_corner p cage id rs m k).atF).X), J (((R_mesh_corner p cage id rs m k).atF).Y), J (((R_mesh_corner p cage id rs m k).atF).Z), J (((R_mesh_corner p cage id rs m k).up).X), J (((R_mesh_corner p cage id rs m k).up).Y), J (((R_mesh_corner p cage id rs m k).up).Z), J (((R_mesh_corner p cage id rs m k).key).Kind), J (((R_mesh_corner p cage id rs m k).key).Of), J (((R_mesh_corner p cage id rs m k).key).A), J (((R_mesh_corner p cage id rs m k).key).B), J (((R_mesh_corner p cage id rs m k).key).N)]) := by
 intro H0
 refine ACalls.of_body' (n := 34) rfl rfl rfl rfl ?_
 have m0 := Mono.refl H0
 refine AWP.seq (AWP.region rfl ?_)
 refine AOps.cons rfl rfl (AOp.alloc rfl tz_78 ?_)
 intro i1 H2 n3 h4 k5
 have z6 := Mono.free m0 n3
 have m7 := Mono.new m0 n3 k5
 refine AWP.seq ?_
 have hg := crn_rng hk.1 hk.2
 refine AWP.region_quiet mixed (by kernel_rfl) 29 [29] rfl (by kernel_rfl) (Mono H2) (Mono.refl _) ?_
 refine QE.op rfl rfl (.inl ⟨rfl, fun f' H' hf hM => AOp.move _ rfl ((hf 0 rfl).trans rfl) ⟨rfl, hM⟩⟩) ?_
 refine QE.op rfl rfl (.inl ⟨rfl, fun f' H' hf hM => AOp.move _ rfl ((hf 1 rfl).trans rfl) ⟨rfl, hM⟩⟩) ?_
 refine QE.op rfl rfl (.inl ⟨rfl, fun f' H' hf hM => AOp.indexAddrFA rfl rfl ((hf 6 rfl).trans rfl) ar_25 (by omega) (by omega) ⟨rfl, hM⟩⟩) ?_
 refine QE.op rfl rfl (.inl ⟨rfl, fun f' H' hf hM => AOp.loadF _ rfl ((hf 7 rfl).trans rfl) ty_3 (ld_off (o := 0 + k.toNat * 1) (by omega) (ld1 (i := k) (xs := ([0, 3, 15, 12] : List Int)) (by omega) (by first | (have := (rfl : ([0, 3, 15, 12] : List Int).length = 4); omega) | (simp; omega)))) ⟨rfl, hM⟩⟩) ?_
 refine QE.op rfl rfl (.inl ⟨rfl, fun f' H' hf hM => AOp.nilCheck (.fptr ((p.aP.flatMap eV) ++ ((p.aCorners.map eI) ++ ((p.aNormals.flatMap eV) ++ (([J p.Skin, J cage, J id] : List AV) ++ ((rs.map eI) ++ ([J m] : List AV)))))) 0) rfl ((hf 5 rfl).trans rfl) rfl ⟨rfl, hM⟩⟩) ?_
 refine QE.op rfl rfl (.inl ⟨rfl, fun f' H' hf hM => AOp.fieldAddrF rfl ((hf 9 rfl).trans rfl) fl_74_0 ⟨rfl, hM⟩⟩) ?_
 refine QE.op rfl rfl (.inl ⟨rfl, fun f' H' hf hM => AOp.fieldAddrF rfl ((hf 10 rfl).trans rfl) fl_28_0 ⟨rfl, hM⟩⟩) ?_
 refine QE.op rfl rfl (.inl ⟨rfl, fun f' H' hf hM => AOp.indexAddrFA rfl ((hf 11 rfl).trans rfl) ((hf 8 rfl).trans rfl) ar_24 (by omega) (by omega) ⟨rfl, hM⟩⟩) ?_
 refine QE.op rfl rfl (.inl ⟨rfl, fun f' H' hf hM => AOp.loadF _ rfl ((hf 12 rfl).trans rfl) ty_23 (ld_off (o := 0 + (at_ ([0, 3, 15, 12] : List Int) k).toNat * 3) (by omega) (ld_fst (fun h => by first | rfl | cases h) (ldM eV_len (i := at_ ([0, 3, 15, 12] : List Int) k) (by omega) (by first | (have := p.lP; omega) | (simp; omega))))) ⟨rfl, hM⟩⟩) ?_
 refine QE.op rfl rfl (.inl ⟨rfl, fun f' H' hf hM => AOp.move _ rfl ((hf 0 rfl).trans rfl) ⟨rfl, hM⟩⟩) ?_
 refine QE.op rfl rfl (.inl ⟨rfl, fun f' H' hf hM => AOp.move _ rfl ((hf 1 rfl).trans rfl) ⟨rfl, hM⟩⟩) ?_
 refine QE.op rfl rfl (.inl ⟨rfl, fun f' H' hf hM => AOp.nilCheck (.fptr ((p.aP.flatMap eV) ++ ((p.aCorners.map eI) ++ ((p.aNormals.flatMap eV) ++ (([J p.Skin, J cage, J id] : List AV) ++ ((rs.map eI) ++ ([J m] : List AV)))))) 0) rfl ((hf 14 rfl).trans rfl) rfl ⟨rfl, hM⟩⟩) ?_
 refine QE.op rfl rfl (.inl ⟨rfl, fun f' H' hf hM => AOp.fieldAddrF rfl ((hf 16 rfl).trans rfl) fl_74_0 ⟨rfl, hM⟩⟩) ?_
 refine QE.op rfl rfl (.inl ⟨rfl, fun f' H' hf hM => AOp.fieldAddrF rfl ((hf 17 rfl).trans rfl) fl_28_2 ⟨rfl, hM⟩⟩) ?_
 refine QE.op rfl rfl (.inl ⟨rfl, fun f' H' hf hM => AOp.indexAddrFA rfl ((hf 18 rfl).trans rfl) ((hf 15 rfl).trans rfl) ar_26 (by omega) (by omega) ⟨rfl, hM⟩⟩) ?_
 refine QE.op rfl rfl (.inl ⟨rfl, fun f' H' hf hM => AOp.loadF _ rfl ((hf 19 rfl).trans rfl) ty_23 (ld_skip (off' := 4 + ((k).toNat * 3)) (lenM eV_len p.lP rfl) (by omega) (ld_skip (off' := (k).toNat * 3) (len1 p.lCorners) (by omega) (ld_fst (fun h => by first | rfl | cases h) (ldM eV_len (i := k) (by omega) (by first | (have := p.lNormals; omega) | (simp; omega)))))) ⟨rfl, hM⟩⟩) ?_
 refine QE.op rfl rfl (.inl ⟨rfl, fun f' H' hf hM => AOp.move _ rfl ((hf 0 rfl).trans rfl) ⟨rfl, hM⟩⟩) ?_
 refine QE.op rfl rfl (.inl ⟨rfl, fun f' H' hf hM => AOp.nilCheck (.fptr ((p.aP.flatMap eV) ++ ((p.aCorners.map eI) ++ ((p.aNormals.flatMap eV) ++ (([J p.Skin, J cage, J id] : List AV) ++ ((rs.map eI) ++ ([J m] : List AV)))))) 0) rfl ((hf 21 rfl).trans rfl) rfl ⟨rfl, hM⟩⟩) ?_
 refine QE.op rfl rfl (.inl ⟨rfl, fun f' H' hf hM => AOp.fieldAddrF rfl ((hf 22 rfl).trans rfl) fl_74_1 ⟨rfl, hM⟩⟩) ?_
 refine QE.op rfl rfl (.inl ⟨rfl, fun f' H' hf hM => AOp.loadF _ rfl ((hf 23 rfl).trans rfl) ty_3 (ld_skip (off' := 17) (lenM eV_len p.lP rfl) (by omega) (ld_skip (off' := 13) (len1 p.lCorners) (by omega) (ld_skip (off' := 1) (lenM eV_len p.lNormals rfl) (by omega) (ld_fst (fun h => by first | rfl | cases h) rfl)))) ⟨rfl, hM⟩⟩) ?_
 refine QE.op rfl rfl (.inl ⟨rfl, fun f' H' hf hM => AOp.move _ rfl ((hf 0 rfl).trans rfl) ⟨rfl, hM⟩⟩) ?_
 refine QE.op rfl rfl (.inl ⟨rfl, fun f' H' hf hM => AOp.move _ rfl ((hf 1 rfl).trans rfl) ⟨rfl, hM⟩⟩) ?_
 refine QE.op rfl rfl (.inl ⟨rfl, fun f' H' hf hM => AOp.nilCheck (.fptr ((p.aP.flatMap eV) ++ ((p.aCorners.map eI) ++ ((p.aNormals.flatMap eV) ++ (([J p.Skin, J cage, J id] : List AV) ++ ((rs.map eI) ++ ([J m] : List AV)))))) 0) rfl ((hf 25 rfl).trans rfl) rfl ⟨rfl, hM⟩⟩) ?_
 refine QE.op rfl rfl (.inl ⟨rfl, fun f' H' hf hM => AOp.fieldAddrF rfl ((hf 27 rfl).trans rfl) fl_74_0 ⟨rfl, hM⟩⟩) ?_
 refine QE.op rfl rfl (.inl ⟨rfl, fun f' H' hf hM => AOp.fieldAddrF rfl ((hf 28 rfl).trans rfl) fl_28_1 ⟨rfl, hM⟩⟩) ?_
 refine QE.op rfl rfl (.inl ⟨rfl, fun f' H' hf hM => AOp.indexAddrFA rfl ((hf 29 rfl).trans rfl) ((hf 26 rfl).trans rfl) ar_25 (by omega) (by omega) ⟨rfl, hM⟩⟩) ?_
 refine QE.op rfl rfl (.inl ⟨rfl, fun f' H' hf hM => AOp.loadF _ rfl ((hf 30 rfl).trans rfl) ty_3 (ld_skip (off' := (k).toNat * 1) (lenM eV_len p.lP rfl) (by omega) (ld_fst (fun h => by first | rfl | cases h) (ld1 (i := k) (by omega) (by first | (have := p.lCorners; omega) | (simp; omega))))) ⟨rfl, hM⟩⟩) ?_
 refine QE.op rfl rfl (.inl ⟨rfl, fun f' H' hf hM => AOp.build (cells := [J 1, J cage, J (at_ p.aCorners k), J 0, J 0]) rfl tz_58 pl_58 (lconsP rfl (lconsP ((hf 24 rfl).trans rfl) (lconsP ((hf 31 rfl).trans rfl) rfl))) rfl ⟨rfl, hM⟩⟩) ?_
 refine QE.op rfl rfl (.inl ⟨rfl, fun f' H' hf hM => AOp.build (cells := [J ((at_ p.aP (at_ ([0, 3, 15, 12] : List Int) k)).X), J ((at_ p.aP (at_ ([0, 3, 15, 12] : List Int) k)).Y), J ((at_ p.aP (at_ ([0, 3, 15, 12] : List Int) k)).Z), J ((at_ p.aNormals k).X), J ((at_ p.aNormals k).Y), J ((at_ p.aNormals k).Z), J 1, J cage, J (at_ p.aCorners k), J 0, J 0]) rfl tz_78 pl_78 (lconsP ((hf 13 rfl).trans rfl) (lconsP ((hf 20 rfl).trans rfl) (lconsP ((hf 32 rfl).trans rfl) rfl))) rfl ⟨rfl, hM⟩⟩) ?_
 refine QE.done fun H8 m9 => ?_
 have h10 := m9 _ _ h4
 have m11 := m7.trans m9
 refine AOps.cons rfl rfl (AOp.store' (cells' := [J ((at_ p.aP (at_ ([0, 3, 15, 12] : List Int) k)).X), J ((at_ p.aP (at_ ([0, 3, 15, 12] : List Int) k)).Y), J ((at_ p.aP (at_ ([0, 3, 15, 12] : List Int) k)).Z), J ((at_ p.aNormals k).X), J ((at_ p.aNormals k).Y), J ((at_ p.aNormals k).Z), J 1, J cage, J (at_ p.aCorners k), J 0, J 0]) (.agg [J ((at_ p.aP (at_ ([0, 3, 15, 12] : List Int) k)).X), J ((at_ p.aP (at_ ([0, 3, 15, 12] : List Int) k)).Y), J ((at_ p.aP (at_ ([0, 3, 15, 12] : List Int) k)).Z), J ((at_ p.aNormals k).X), J ((at_ p.aNormals k).Y), J ((at_ p.aNormals k).Z), J 1, J cage, J (at_ p.aCorners k), J 0, J 0]) rfl rfl ts_78 h10 rfl rfl rfl rfl ?_)
 intro H12 h13 k14
 have m16 := Mono.set m11 z6 k14
 refine AWP.ret ?_
 refine ⟨_, _, Ghost.refl, .inr rfl, _, Res.list1 rfl (.cell (v := .agg [J ((at_ p.aP (at_ ([0, 3, 15, 12] : List Int) k)).X), J ((at_ p.aP (at_ ([0, 3, 15, 12] : List Int) k)).Y), J ((at_ p.aP (at_ ([0, 3, 15, 12] : List Int) k)).Z), J ((at_ p.aNormals k).X), J ((at_ p.aNormals k).Y), J ((at_ p.aNormals k).Z), J 1, J cage, J (at_ p.aCorners k), J 0, J 0]) rfl ty_78 h13 rfl (.nil)), ?_, m16⟩
 have hR : R_mesh_corner p cage id rs m k = (VertexT.mk (at_ p.aP (at_ ([0, 3, 15, 12] : List Int) k)) (at_ p.aNormals k) (KeyT.mk 1 cage (at_ p.aCorners k) 0 0)) := rfl
 exact (congrArg (fun r : VertexT => (.agg [J r.atF.X, J r.atF.Y, J r.atF.Z, J r.up.X, J r.up.Y, J r.up.Z, J r.key.Kind, J r.key.Of, J r.key.A, J r.key.B, J r.key.N] : AV)) hR).symm
def R_mesh_side (p : PatchT) (cage id : Int) (rs : List Int) (m : Int) (k : Int) (i : Int) : VertexT :=
  if at_ p.aCorners ((k + 1) % 4) < at_ p.aCorners k then (VertexT.mk ((R_curve_Cubic (R_curve_Row p.aP k) i (at_ rs k)).1) ((R_relief_Blend (at_ p.aNormals k) (at_ p.aNormals ((k + 1) % 4)) i (at_ rs k)).1) (KeyT.mk 2 cage (at_ p.aCorners ((k + 1) % 4)) (at_ p.aCorners k) (at_ rs k - i))) else (VertexT.mk ((R_curve_Cubic (R_curve_Row p.aP k) i (at_ rs k)).1) ((R_relief_Blend (at_ p.aNormals k) (at_ p.aNormals ((k + 1) % 4)) i (at_ rs k)).1) (KeyT.mk 2 cage (at_ p.aCorners k) (at_ p.aCorners ((k + 1) % 4)) i))
abbrev Zmesh_side_0 (p : PatchT) (rs : List Int) (k : Int) (i : Int) := (R_relief_Blend (at_ p.aNormals k) (at_ p.aNormals ((k + 1) % 4)) i (at_ rs k)).1
abbrev Zmesh_side_1 (p : PatchT) (rs : List Int) (k : Int) (i : Int) := (R_curve_Cubic (R_curve_Row p.aP k) i (at_ rs k)).1
theorem c_mesh_side (p : PatchT) (cage id : Int) (rs : List Int) (h : rs.length = 4) (m : Int) (k : Int) (i : Int) (hk : 0 ≤ k ∧ k < 4) (hi : -1000 ≤ i ∧ i ≤ 1000) (hrk : -1000 ≤ at_ rs k ∧ at_ rs k ≤ 1000) : PC Tryd.prog 53 [.fptr ((p.aP.flatMap eV) ++ ((p.aCorners.map eI) ++ ((p.aNormals.flatMap eV) ++ (([J p.Skin, J cage, J id] : List AV) ++ ((rs.map eI) ++ ([J m] : List AV)))))) 0, J k, J i] (.agg [J (((R_mesh_side p cage id rs m k i).atF).X), J (((R_mesh_side p cage id rs m k i).atF).Y), J (((R_mesh_side p cage id rs m k i).atF).Z), J (((R_mesh_side p cage id rs m k i).up).X), J (((R_mesh_side p cage id rs m k i).up).Y), J (((R_mesh_side p cage id rs m k i).up).Z), J (((R_mesh_side p cage id rs m k i).key).Kind), J (((R_mesh_side p cage id rs m k i).key).Of), J (((R_mesh_side p cage id rs m k i).key).A), J (((R_mesh_side p cage id rs m k i).key).B), J (((R_mesh_side p cage id rs m k i).key).N)]) := by
 intro H0
 refine ACalls.of_body' (n := 90) rfl rfl rfl rfl ?_
 have m0 := Mono.refl H0
 refine AWP.seq (AWP.region rfl ?_)
 refine AOps.cons rfl rfl (AOp.alloc rfl tz_78 ?_)
 intro i1 H2 n3 h4 k5
 have z6 := Mono.free m0 n3
 have m7 := Mono.new m0 n3 k5
 refine AWP.seq (AWP.region rfl ?_)
 refine AOps.cons rfl rfl (AOp.move _ rfl rfl (AOps.cons rfl rfl (AOp.move _ rfl rfl (AOps.cons rfl rfl (AOp.nilCheck (.fptr ((p.aP.flatMap eV) ++ ((p.aCorners.map eI) ++ ((p.aNormals.flatMap eV) ++ (([J p.Skin, J cage, J id] : List AV) ++ ((rs.map eI) ++ ([J m] : List AV)))))) 0) rfl rfl rfl (AOps.cons rfl rfl (AOp.fieldAddrF rfl rfl fl_74_3 (AOps.cons rfl rfl (AOp.indexAddrFA rfl rfl rfl ar_25 (by omega) (by omega) (AOps.cons rfl rfl (AOp.loadF _ rfl rfl ty_3 (ld_skip (off' := 19 + ((k).toNat * 1)) (lenM eV_len p.lP rfl) (by omega) (ld_skip (off' := 15 + ((k).toNat * 1)) (len1 p.lCorners) (by omega) (ld_skip (off' := 3 + ((k).toNat * 1)) (lenM eV_len p.lNormals rfl) (by omega) (ld_skip (off' := (k).toNat * 1) (n := 3) rfl (by omega) (ld_fst (fun h => by first | rfl | cases h) (ld1 (i := k) (by omega) (by first | (have := h; omega) | (simp; omega)))))))) ?_)))))))))))
 refine AOps.cons rfl rfl (AOp.move _ rfl rfl (AOps.cons rfl rfl (AOp.bin _ rfl rfl rfl (iadd (by omega)) (AOps.cons rfl rfl (AOp.remP rfl rfl rfl (by omega) (by omega) (AOps.cons rfl rfl (AOp.assign _ rfl rfl (AOps.cons rfl rfl (AOp.assign _ rfl rfl ?_)))))))))
 refine AWP.seq (AWP.region rfl ?_)
 refine AOps.cons rfl rfl (AOp.move _ rfl rfl (AOps.cons rfl rfl (AOp.nilCheck (.fptr ((p.aP.flatMap eV) ++ ((p.aCorners.map eI) ++ ((p.aNormals.flatMap eV) ++ (([J p.Skin, J cage, J id] : List AV) ++ ((rs.map eI) ++ ([J m] : List AV)))))) 0) rfl rfl rfl (AOps.cons rfl rfl (AOp.fieldAddrF rfl rfl fl_74_0 (AOps.cons rfl rfl (AOp.fieldAddrF rfl rfl fl_28_0 (AOps.cons rfl rfl (AOp.loadF _ rfl rfl ty_24 (ld_fst (fun h => by first | rfl | cases h) (ld_all (lenM eV_len p.lP rfl))) (AOps.cons rfl rfl (AOp.move _ rfl rfl ?_)))))))))))
 refine AOps.cons rfl rfl (AOp.pcall («as» := [.agg (p.aP.flatMap eV), J k]) rfl rfl (rfl) tf_47 (c_curve_Row p.aP p.lP k) ?_)
 intro H8 m9
 have h10 := m9 _ _ h4
 have m11 := m7.trans m9
 refine AOps.cons rfl rfl (AOp.move _ rfl rfl (AOps.cons rfl rfl (AOp.move _ rfl rfl (AOps.cons rfl rfl (AOp.pcall («as» := [.agg ((R_curve_Row p.aP k).flatMap eV), J i, J (at_ rs k)]) rfl rfl (rfl) tf_84 (c_curve_Cubic (R_curve_Row p.aP k) (R_curve_Row_len p.aP k) i (at_ rs k)) ?_)))))
 intro H12 m13
 have h14 := m13 _ _ h10
 have m15 := m11.trans m13
 refine AOps.cons rfl rfl (AOp.move _ rfl rfl (AOps.cons rfl rfl (AOp.extract _ rfl rfl rfl (AOps.cons rfl rfl (AOp.extract _ rfl rfl rfl (AOps.cons rfl rfl (AOp.alloc rfl tz_23 ?_)))))))
 intro i16 H17 n18 h19 k20
 have e21 := ne_new h14 n18
 have z22 := Mono.free m15 n18
 have h23 := keep k20 (ne_new h14 n18) h14
 have m24 := Mono.new m15 n18 k20
 refine AOps.cons rfl rfl (AOp.store' (cells' := [J ((Zmesh_side_1 p rs k i).X), J ((Zmesh_side_1 p rs k i).Y), J ((Zmesh_side_1 p rs k i).Z)]) (.agg [J ((Zmesh_side_1 p rs k i).X), J ((Zmesh_side_1 p rs k i).Y), J ((Zmesh_side_1 p rs k i).Z)]) rfl rfl ts_23 h19 rfl rfl rfl rfl ?_)
 intro H25 h26 k27
 have h28 := keep k27 e21 h23
 have m30 := Mono.set m24 z22 k27
 refine AOps.cons rfl rfl (AOp.assign _ rfl rfl ?_)
 refine AWP.seq ?_
 refine AWP.frzP 9 h26 z22 rfl m30 fun H31 m32 k33 => ?_
 have h34 := (k33 _ e21).trans h28
 refine AWP.freshN fun b35 hb36 => ?_
 obtain ⟨i37, e38⟩ : ∃ x, x = b35 + 0 := ⟨_, rfl⟩
 have n39 := hb36 0; rw [← e38] at n39
 refine AWP.region_strA mixed (by kernel_rfl) [(20, i37, .row 0 ([J 0, J 0, J 0]))] [0, 1, 2, 3, 4, 5, 6, 7, 8, 9, 10, 11, 12, 13, 14, 15, 16, 17, 18, 19, 20] [(21, some [19])] [22] (by kernel_rfl) (by kernel_rfl) ⟨n39, trivial, trivial⟩ ?_
 have e40 := ne_new h34 n39
 have z41 := Mono.free m32 n39
 refine STRN.op rfl rfl rfl (.inl ⟨rfl, fun H1 f' H' hf hN hM => AOp.move _ rfl ((hf 0 rfl).trans rfl) ⟨rfl, hN⟩⟩) ?_
 refine STRN.op rfl rfl rfl (.inl ⟨rfl, fun H1 f' H' hf hN hM => AOp.move _ rfl ((hf 1 rfl).trans rfl) ⟨rfl, hN⟩⟩) ?_
 refine STRN.op rfl rfl rfl (.inl ⟨rfl, fun H1 f' H' hf hN hM => AOp.nilCheck (.fptr ((p.aP.flatMap eV) ++ ((p.aCorners.map eI) ++ ((p.aNormals.flatMap eV) ++ (([J p.Skin, J cage, J id] : List AV) ++ ((rs.map eI) ++ ([J m] : List AV)))))) 0) rfl ((hf 38 rfl).trans rfl) rfl ⟨rfl, hN⟩⟩) ?_
 refine STRN.op rfl rfl rfl (.inl ⟨rfl, fun H1 f' H' hf hN hM => AOp.fieldAddrF rfl ((hf 40 rfl).trans rfl) fl_74_0 ⟨rfl, hN⟩⟩) ?_
 refine STRN.op rfl rfl rfl (.inl ⟨rfl, fun H1 f' H' hf hN hM => AOp.fieldAddrF rfl ((hf 41 rfl).trans rfl) fl_28_2 ⟨rfl, hN⟩⟩) ?_
 refine STRN.op rfl rfl rfl (.inl ⟨rfl, fun H1 f' H' hf hN hM => AOp.indexAddrFA rfl ((hf 42 rfl).trans rfl) ((hf 39 rfl).trans rfl) ar_26 (by omega) (by omega) ⟨rfl, hN⟩⟩) ?_
 refine STRN.op rfl rfl rfl (.inl ⟨rfl, fun H1 f' H' hf hN hM => AOp.loadF _ rfl ((hf 43 rfl).trans rfl) ty_23 (ld_skip (off' := 4 + ((k).toNat * 3)) (lenM eV_len p.lP rfl) (by omega) (ld_skip (off' := (k).toNat * 3) (len1 p.lCorners) (by omega) (ld_fst (fun h => by first | rfl | cases h) (ldM eV_len (i := k) (by omega) (by first | (have := p.lNormals; omega) | (simp; omega)))))) ⟨rfl, hN⟩⟩) ?_
 refine STRN.op rfl rfl rfl (.inl ⟨rfl, fun H1 f' H' hf hN hM => AOp.move _ rfl ((hf 0 rfl).trans rfl) ⟨rfl, hN⟩⟩) ?_
 refine STRN.op rfl rfl rfl (.inl ⟨rfl, fun H1 f' H' hf hN hM => AOp.move _ rfl ((hf 8 rfl).trans rfl) ⟨rfl, hN⟩⟩) ?_
 refine STRN.op rfl rfl rfl (.inl ⟨rfl, fun H1 f' H' hf hN hM => AOp.nilCheck (.fptr ((p.aP.flatMap eV) ++ ((p.aCorners.map eI) ++ ((p.aNormals.flatMap eV) ++ (([J p.Skin, J cage, J id] : List AV) ++ ((rs.map eI) ++ ([J m] : List AV)))))) 0) rfl ((hf 45 rfl).trans rfl) rfl ⟨rfl, hN⟩⟩) ?_
 refine STRN.op rfl rfl rfl (.inl ⟨rfl, fun H1 f' H' hf hN hM => AOp.fieldAddrF rfl ((hf 47 rfl).trans rfl) fl_74_0 ⟨rfl, hN⟩⟩) ?_
 refine STRN.op rfl rfl rfl (.inl ⟨rfl, fun H1 f' H' hf hN hM => AOp.fieldAddrF rfl ((hf 48 rfl).trans rfl) fl_28_2 ⟨rfl, hN⟩⟩) ?_
 refine STRN.op rfl rfl rfl (.inl ⟨rfl, fun H1 f' H' hf hN hM => AOp.indexAddrFA rfl ((hf 49 rfl).trans rfl) ((hf 46 rfl).trans rfl) ar_26 (by omega) (by omega) ⟨rfl, hN⟩⟩) ?_
 refine STRN.op rfl rfl rfl (.inl ⟨rfl, fun H1 f' H' hf hN hM => AOp.loadF _ rfl ((hf 50 rfl).trans rfl) ty_23 (ld_skip (off' := 4 + (((k + 1) % 4).toNat * 3)) (lenM eV_len p.lP rfl) (by omega) (ld_skip (off' := ((k + 1) % 4).toNat * 3) (len1 p.lCorners) (by omega) (ld_fst (fun h => by first | rfl | cases h) (ldM eV_len (i := (k + 1) % 4) (by omega) (by first | (have := p.lNormals; omega) | (simp; omega)))))) ⟨rfl, hN⟩⟩) ?_
 refine STRN.op rfl rfl rfl (.inl ⟨rfl, fun H1 f' H' hf hN hM => AOp.move _ rfl ((hf 2 rfl).trans rfl) ⟨rfl, hN⟩⟩) ?_
 refine STRN.op rfl rfl rfl (.inl ⟨rfl, fun H1 f' H' hf hN hM => AOp.move _ rfl ((hf 7 rfl).trans rfl) ⟨rfl, hN⟩⟩) ?_
 refine STRN.op rfl rfl rfl (.inl ⟨rfl, fun H1 f' H' hf hN hM => AOp.pcall («as» := [.agg [J ((at_ p.aNormals k).X), J ((at_ p.aNormals k).Y), J ((at_ p.aNormals k).Z)], .agg [J ((at_ p.aNormals ((k + 1) % 4)).X), J ((at_ p.aNormals ((k + 1) % 4)).Y), J ((at_ p.aNormals ((k + 1) % 4)).Z)], J i, J (at_ rs k)]) rfl rfl (lapp (lcons ((hf 44 rfl).trans rfl) (lcons ((hf 51 rfl).trans rfl) (lcons ((hf 52 rfl).trans rfl) (lcons ((hf 53 rfl).trans rfl) rfl)))) rfl) tf_85 (c_relief_Blend (at_ p.aNormals k) (at_ p.aNormals ((k + 1) % 4)) i (at_ rs k)) fun H2 m2 => ⟨rfl, hN.trans m2⟩⟩) ?_
 refine STRN.op rfl rfl rfl (.inl ⟨rfl, fun H1 f' H' hf hN hM => AOp.move _ rfl ((hf 54 rfl).trans rfl) ⟨rfl, hN⟩⟩) ?_
 refine STRN.op rfl rfl rfl (.inl ⟨rfl, fun H1 f' H' hf hN hM => AOp.extract _ rfl ((hf 37 rfl).trans rfl) rfl ⟨rfl, hN⟩⟩) ?_
 refine STRN.op rfl rfl rfl (.inl ⟨rfl, fun H1 f' H' hf hN hM => AOp.extract _ rfl ((hf 37 rfl).trans rfl) rfl ⟨rfl, hN⟩⟩) ?_
 refine STRN.alloc (id := i37) (Z := [J 0, J 0, J 0]) (.head _) rfl rfl rfl rfl rfl tz_23 ?_
 refine STRN.done fun H42 m43 hu44 => ?_
 have h45 := m43 _ _ h34
 have m46 := m32.trans m43
 have h47 : H42 i37 = some (.row 0 ([J 0, J 0, J 0])) := hu44 _ (.head _)
 refine STR.st rfl rfl rfl fun f48 H49 hf50 m51 => ?_
 have h52 := m51 _ _ h45
 have h53 := m51 _ _ h47
 have m54 := m46.trans m51
 refine AOp.store' (cells' := [J ((Zmesh_side_0 p rs k i).X), J ((Zmesh_side_0 p rs k i).Y), J ((Zmesh_side_0 p rs k i).Z)]) (.agg [J ((Zmesh_side_0 p rs k i).X), J ((Zmesh_side_0 p rs k i).Y), J ((Zmesh_side_0 p rs k i).Z)]) ((hf50 11 rfl).trans rfl) ((hf50 55 rfl).trans rfl) ts_23 h53 rfl rfl rfl rfl ?_
 intro H55 h56 k57
 have h58 := keep k57 e40 h52
 have m60 := Mono.set m54 z41 k57
 refine ⟨rfl, .inr (RevR.skip rfl (RevR.cons rfl (.inl ⟨rfl, fun H1 f' H' hf hN hM => AOp.extract _ rfl ((hf 37 rfl).trans rfl) rfl ⟨rfl, hN⟩⟩) (RevR.skip rfl (RevR.skip rfl (RevR.skip rfl (RevR.skip rfl (RevR.skip rfl (RevR.skip rfl (RevR.skip rfl (RevR.skip rfl (RevR.skip rfl (RevR.skip rfl (RevR.skip rfl (RevR.skip rfl (RevR.skip rfl (RevR.skip rfl (RevR.skip rfl (RevR.skip rfl (RevR.skip rfl (RevR.skip rfl (RevR.skip rfl RevR.nil))))))))))))))))))))), ?_⟩
 refine STR.done fun H61 m62 => ?_
 have h63 := m62 _ _ h58
 have h64 := m62 _ _ h56
 have m65 := m60.trans m62
 refine AOps.cons rfl rfl (AOp.assign _ rfl rfl ?_)
 refine AWP.seq ?_
 refine AWP.frzP 11 h64 z41 rfl m65 fun H66 m67 k68 => ?_
 have h69 := (k68 _ e40).trans h63
 refine AWP.region_quiet mixed (by kernel_rfl) 16 [] rfl (by kernel_rfl) (Mono H66) (Mono.refl _) ?_
 refine QE.op rfl rfl (.inl ⟨rfl, fun f' H' hf hM => AOp.move _ rfl ((hf 0 rfl).trans rfl) ⟨rfl, hM⟩⟩) ?_
 refine QE.op rfl rfl (.inl ⟨rfl, fun f' H' hf hM => AOp.move _ rfl ((hf 1 rfl).trans rfl) ⟨rfl, hM⟩⟩) ?_
 refine QE.op rfl rfl (.inl ⟨rfl, fun f' H' hf hM => AOp.nilCheck (.fptr ((p.aP.flatMap eV) ++ ((p.aCorners.map eI) ++ ((p.aNormals.flatMap eV) ++ (([J p.Skin, J cage, J id] : List AV) ++ ((rs.map eI) ++ ([J m] : List AV)))))) 0) rfl ((hf 57 rfl).trans rfl) rfl ⟨rfl, hM⟩⟩) ?_
 refine QE.op rfl rfl (.inl ⟨rfl, fun f' H' hf hM => AOp.fieldAddrF rfl ((hf 59 rfl).trans rfl) fl_74_0 ⟨rfl, hM⟩⟩) ?_
 refine QE.op rfl rfl (.inl ⟨rfl, fun f' H' hf hM => AOp.fieldAddrF rfl ((hf 60 rfl).trans rfl) fl_28_1 ⟨rfl, hM⟩⟩) ?_
 refine QE.op rfl rfl (.inl ⟨rfl, fun f' H' hf hM => AOp.indexAddrFA rfl ((hf 61 rfl).trans rfl) ((hf 58 rfl).trans rfl) ar_25 (by omega) (by omega) ⟨rfl, hM⟩⟩) ?_
 refine QE.op rfl rfl (.inl ⟨rfl, fun f' H' hf hM => AOp.loadF _ rfl ((hf 62 rfl).trans rfl) ty_3 (ld_skip (off' := (k).toNat * 1) (lenM eV_len p.lP rfl) (by omega) (ld_fst (fun h => by first | rfl | cases h) (ld1 (i := k) (by omega) (by first | (have := p.lCorners; omega) | (simp; omega))))) ⟨rfl, hM⟩⟩) ?_
 refine QE.op rfl rfl (.inl ⟨rfl, fun f' H' hf hM => AOp.move _ rfl ((hf 0 rfl).trans rfl) ⟨rfl, hM⟩⟩) ?_
 refine QE.op rfl rfl (.inl ⟨rfl, fun f' H' hf hM => AOp.move _ rfl ((hf 8 rfl).trans rfl) ⟨rfl, hM⟩⟩) ?_
 refine QE.op rfl rfl (.inl ⟨rfl, fun f' H' hf hM => AOp.nilCheck (.fptr ((p.aP.flatMap eV) ++ ((p.aCorners.map eI) ++ ((p.aNormals.flatMap eV) ++ (([J p.Skin, J cage, J id] : List AV) ++ ((rs.map eI) ++ ([J m] : List AV)))))) 0) rfl ((hf 64 rfl).trans rfl) rfl ⟨rfl, hM⟩⟩) ?_
 refine QE.op rfl rfl (.inl ⟨rfl, fun f' H' hf hM => AOp.fieldAddrF rfl ((hf 66 rfl).trans rfl) fl_74_0 ⟨rfl, hM⟩⟩) ?_
 refine QE.op rfl rfl (.inl ⟨rfl, fun f' H' hf hM => AOp.fieldAddrF rfl ((hf 67 rfl).trans rfl) fl_28_1 ⟨rfl, hM⟩⟩) ?_
 refine QE.op rfl rfl (.inl ⟨rfl, fun f' H' hf hM => AOp.indexAddrFA rfl ((hf 68 rfl).trans rfl) ((hf 65 rfl).trans rfl) ar_25 (by omega) (by omega) ⟨rfl, hM⟩⟩) ?_
 refine QE.op rfl rfl (.inl ⟨rfl, fun f' H' hf hM => AOp.loadF _ rfl ((hf 69 rfl).trans rfl) ty_3 (ld_skip (off' := ((k + 1) % 4).toNat * 1) (lenM eV_len p.lP rfl) (by omega) (ld_fst (fun h => by first | rfl | cases h) (ld1 (i := (k + 1) % 4) (by omega) (by first | (have := p.lCorners; omega) | (simp; omega))))) ⟨rfl, hM⟩⟩) ?_
 refine QE.op rfl rfl (.inl ⟨rfl, fun f' H' hf hM => AOp.assign _ rfl ((hf 63 rfl).trans rfl) ⟨rfl, hM⟩⟩) ?_
 refine QE.op rfl rfl (.inl ⟨rfl, fun f' H' hf hM => AOp.assign _ rfl ((hf 70 rfl).trans rfl) ⟨rfl, hM⟩⟩) ?_
 refine QE.done fun H70 m71 => ?_
 have h72 := m71 _ _ h69
 have m73 := m67.trans m71
 refine AWP.seq ?_
 refine AWP.seq (AWP.region rfl ?_)
 refine AOps.cons rfl rfl (AOp.move _ rfl rfl (AOps.cons rfl rfl (AOp.move _ rfl rfl (AOps.cons rfl rfl (AOp.bin _ rfl rfl rfl rfl ?_)))))
 refine AOps.nil ?_
 change AWP _ _ _ _ _ _
 by_cases b74 : at_ p.aCorners ((k + 1) % 4) < at_ p.aCorners k
 refine AWP.condT rfl (decide_eq_true b74) ?_
 refine AWP.region rfl ?_
 refine AOps.cons rfl rfl (AOp.move _ rfl rfl (AOps.cons rfl rfl (AOp.move _ rfl rfl (AOps.cons rfl rfl (AOp.move _ rfl rfl (AOps.cons rfl rfl (AOp.move _ rfl rfl (AOps.cons rfl rfl (AOp.bin _ rfl rfl rfl (isub (by omega)) (AOps.cons rfl rfl (AOp.assign _ rfl rfl ?_)))))))))))
 refine AOps.cons rfl rfl (AOp.assign _ rfl rfl (AOps.cons rfl rfl (AOp.assign _ rfl rfl ?_)))
 refine AWP.seq ?_
 refine AWP.region_quiet mixed (by kernel_rfl) 11 [11] rfl (by kernel_rfl) (Mono H70) (Mono.refl _) ?_
 refine QE.op rfl rfl (.inl ⟨rfl, fun f' H' hf hM => AOp.loadF _ rfl ((hf 9 rfl).trans rfl) ty_23 rfl ⟨rfl, hM⟩⟩) ?_
 refine QE.op rfl rfl (.inl ⟨rfl, fun f' H' hf hM => AOp.loadF _ rfl ((hf 11 rfl).trans rfl) ty_23 rfl ⟨rfl, hM⟩⟩) ?_
 refine QE.op rfl rfl (.inl ⟨rfl, fun f' H' hf hM => AOp.move _ rfl ((hf 0 rfl).trans rfl) ⟨rfl, hM⟩⟩) ?_
 refine QE.op rfl rfl (.inl ⟨rfl, fun f' H' hf hM => AOp.nilCheck (.fptr ((p.aP.flatMap eV) ++ ((p.aCorners.map eI) ++ ((p.aNormals.flatMap eV) ++ (([J p.Skin, J cage, J id] : List AV) ++ ((rs.map eI) ++ ([J m] : List AV)))))) 0) rfl ((hf 81 rfl).trans rfl) rfl ⟨rfl, hM⟩⟩) ?_
 refine QE.op rfl rfl (.inl ⟨rfl, fun f' H' hf hM => AOp.fieldAddrF rfl ((hf 82 rfl).trans rfl) fl_74_1 ⟨rfl, hM⟩⟩) ?_
 refine QE.op rfl rfl (.inl ⟨rfl, fun f' H' hf hM => AOp.loadF _ rfl ((hf 83 rfl).trans rfl) ty_3 (ld_skip (off' := 17) (lenM eV_len p.lP rfl) (by omega) (ld_skip (off' := 13) (len1 p.lCorners) (by omega) (ld_skip (off' := 1) (lenM eV_len p.lNormals rfl) (by omega) (ld_fst (fun h => by first | rfl | cases h) rfl)))) ⟨rfl, hM⟩⟩) ?_
 refine QE.op rfl rfl (.inl ⟨rfl, fun f' H' hf hM => AOp.move _ rfl ((hf 13 rfl).trans rfl) ⟨rfl, hM⟩⟩) ?_
 refine QE.op rfl rfl (.inl ⟨rfl, fun f' H' hf hM => AOp.move _ rfl ((hf 14 rfl).trans rfl) ⟨rfl, hM⟩⟩) ?_
 refine QE.op rfl rfl (.inl ⟨rfl, fun f' H' hf hM => AOp.move _ rfl ((hf 2 rfl).trans rfl) ⟨rfl, hM⟩⟩) ?_
 refine QE.op rfl rfl (.inl ⟨rfl, fun f' H' hf hM => AOp.build (cells := [J 2, J cage, J (at_ p.aCorners ((k + 1) % 4)), J (at_ p.aCorners k), J (at_ rs k - i)]) rfl tz_58 pl_58 (lconsP rfl (lconsP ((hf 84 rfl).trans rfl) (lconsP ((hf 85 rfl).trans rfl) (lconsP ((hf 86 rfl).trans rfl) (lconsP ((hf 87 rfl).trans rfl) rfl))))) rfl ⟨rfl, hM⟩⟩) ?_
 refine QE.op rfl rfl (.inl ⟨rfl, fun f' H' hf hM => AOp.build (cells := [J ((Zmesh_side_1 p rs k i).X), J ((Zmesh_side_1 p rs k i).Y), J ((Zmesh_side_1 p rs k i).Z), J ((Zmesh_side_0 p rs k i).X), J ((Zmesh_side_0 p rs k i).Y), J ((Zmesh_side_0 p rs k i).Z), J 2, J cage, J (at_ p.aCorners ((k + 1) % 4)), J (at_ p.aCorners k), J (at_ rs k - i)]) rfl tz_78 pl_78 (lconsP ((hf 79 rfl).trans rfl) (lconsP ((hf 80 rfl).trans rfl) (lconsP ((hf 88 rfl).trans rfl) rfl))) rfl ⟨rfl, hM⟩⟩) ?_
 refine QE.done fun H75 m76 => ?_
 have h77 := m76 _ _ h72
 have m78 := m73.trans m76
 refine AOps.cons rfl rfl (AOp.store' (cells' := [J ((Zmesh_side_1 p rs k i).X), J ((Zmesh_side_1 p rs k i).Y), J ((Zmesh_side_1 p rs k i).Z), J ((Zmesh_side_0 p rs k i).X), J ((Zmesh_side_0 p rs k i).Y), J ((Zmesh_side_0 p rs k i).Z), J 2, J cage, J (at_ p.aCorners ((k + 1) % 4)), J (at_ p.aCorners k), J (at_ rs k - i)]) (.agg [J ((Zmesh_side_1 p rs k i).X), J ((Zmesh_side_1 p rs k i).Y), J ((Zmesh_side_1 p rs k i).Z), J ((Zmesh_side_0 p rs k i).X), J ((Zmesh_side_0 p rs k i).Y), J ((Zmesh_side_0 p rs k i).Z), J 2, J cage, J (at_ p.aCorners ((k + 1) % 4)), J (at_ p.aCorners k), J (at_ rs k - i)]) rfl rfl ts_78 h77 rfl rfl rfl rfl ?_)
 intro H79 h80 k81
 have m83 := Mono.set m78 z6 k81
 refine AWP.ret ?_
 refine ⟨_, _, Ghost.refl, .inr rfl, _, Res.list1 rfl (.cell (v := .agg [J ((Zmesh_side_1 p rs k i).X), J ((Zmesh_side_1 p rs k i).Y), J ((Zmesh_side_1 p rs k i).Z), J ((Zmesh_side_0 p rs k i).X), J ((Zmesh_side_0 p rs k i).Y), J ((Zmesh_side_0 p rs k i).Z), J 2, J cage, J (at_ p.aCorners ((k + 1) % 4)), J (at_ p.aCorners k), J (at_ rs k - i)]) rfl ty_78 h80 rfl (.nil)), ?_, m83⟩
 have hR : R_mesh_side p cage id rs m k i = (VertexT.mk (Zmesh_side_1 p rs k i) (Zmesh_side_0 p rs k i) (KeyT.mk 2 cage (at_ p.aCorners ((k + 1) % 4)) (at_ p.aCorners k) (at_ rs k - i))) := by unfold R_mesh_side; rw [if_pos b74]
 exact (congrArg (fun r : VertexT => (.agg [J r.atF.X, J r.atF.Y, J r.atF.Z, J r.up.X, J r.up.Y, J r.up.Z, J r.key.Kind, J r.key.Of, J r.key.A, J r.key.B, J r.key.N] : AV)) hR).symm
 refine AWP.condF rfl (decide_eq_false b74) ?_
 refine AWP.skip ?_
 refine AWP.seq ?_
 refine AWP.region_quiet mixed (by kernel_rfl) 11 [11] rfl (by kernel_rfl) (Mono H70) (Mono.refl _) ?_
 refine QE.op rfl rfl (.inl ⟨rfl, fun f' H' hf hM => AOp.loadF _ rfl ((hf 9 rfl).trans rfl) ty_23 rfl ⟨rfl, hM⟩⟩) ?_
 refine QE.op rfl rfl (.inl ⟨rfl, fun f' H' hf hM => AOp.loadF _ rfl ((hf 11 rfl).trans rfl) ty_23 rfl ⟨rfl, hM⟩⟩) ?_
 refine QE.op rfl rfl (.inl ⟨rfl, fun f' H' hf hM => AOp.move _ rfl ((hf 0 rfl).trans rfl) ⟨rfl, hM⟩⟩) ?_
 refine QE.op rfl rfl (.inl ⟨rfl, fun f' H' hf hM => AOp.nilCheck (.fptr ((p.aP.flatMap eV) ++ ((p.aCorners.map eI) ++ ((p.aNormals.flatMap eV) ++ (([J p.Skin, J cage, J id] : List AV) ++ ((rs.map eI) ++ ([J m] : List AV)))))) 0) rfl ((hf 81 rfl).trans rfl) rfl ⟨rfl, hM⟩⟩) ?_
 refine QE.op rfl rfl (.inl ⟨rfl, fun f' H' hf hM => AOp.fieldAddrF rfl ((hf 82 rfl).trans rfl) fl_74_1 ⟨rfl, hM⟩⟩) ?_
 refine QE.op rfl rfl (.inl ⟨rfl, fun f' H' hf hM => AOp.loadF _ rfl ((hf 83 rfl).trans rfl) ty_3 (ld_skip (off' := 17) (lenM eV_len p.lP rfl) (by omega) (ld_skip (off' := 13) (len1 p.lCorners) (by omega) (ld_skip (off' := 1) (lenM eV_len p.lNormals rfl) (by omega) (ld_fst (fun h => by first | rfl | cases h) rfl)))) ⟨rfl, hM⟩⟩) ?_
 refine QE.op rfl rfl (.inl ⟨rfl, fun f' H' hf hM => AOp.move _ rfl ((hf 13 rfl).trans rfl) ⟨rfl, hM⟩⟩) ?_
 refine QE.op rfl rfl (.inl ⟨rfl, fun f' H' hf hM => AOp.move _ rfl ((hf 14 rfl).trans rfl) ⟨rfl, hM⟩⟩) ?_
 refine QE.op rfl rfl (.inl ⟨rfl, fun f' H' hf hM => AOp.move _ rfl ((hf 2 rfl).trans rfl) ⟨rfl, hM⟩⟩) ?_
 refine QE.op rfl rfl (.inl ⟨rfl, fun f' H' hf hM => AOp.build (cells := [J 2, J cage, J (at_ p.aCorners k), J (at_ p.aCorners ((k + 1) % 4)), J i]) rfl tz_58 pl_58 (lconsP rfl (lconsP ((hf 84 rfl).trans rfl) (lconsP ((hf 85 rfl).trans rfl) (lconsP ((hf 86 rfl).trans rfl) (lconsP ((hf 87 rfl).trans rfl) rfl))))) rfl ⟨rfl, hM⟩⟩) ?_
 refine QE.op rfl rfl (.inl ⟨rfl, fun f' H' hf hM => AOp.build (cells := [J ((Zmesh_side_1 p rs k i).X), J ((Zmesh_side_1 p rs k i).Y), J ((Zmesh_side_1 p rs k i).Z), J ((Zmesh_side_0 p rs k i).X), J ((Zmesh_side_0 p rs k i).Y), J ((Zmesh_side_0 p rs k i).Z), J 2, J cage, J (at_ p.aCorners k), J (at_ p.aCorners ((k + 1) % 4)), J i]) rfl tz_78 pl_78 (lconsP ((hf 79 rfl).trans rfl) (lconsP ((hf 80 rfl).trans rfl) (lconsP ((hf 88 rfl).trans rfl) rfl))) rfl ⟨rfl, hM⟩⟩) ?_
 refine QE.done fun H84 m85 => ?_
 have h86 := m85 _ _ h72
 have m87 := m73.trans m85
 refine AOps.cons rfl rfl (AOp.store' (cells' := [J ((Zmesh_side_1 p rs k i).X), J ((Zmesh_side_1 p rs k i).Y), J ((Zmesh_side_1 p rs k i).Z), J ((Zmesh_side_0 p rs k i).X), J ((Zmesh_side_0 p rs k i).Y), J ((Zmesh_side_0 p rs k i).Z), J 2, J cage, J (at_ p.aCorners k), J (at_ p.aCorners ((k + 1) % 4)), J i]) (.agg [J ((Zmesh_side_1 p rs k i).X), J ((Zmesh_side_1 p rs k i).Y), J ((Zmesh_side_1 p rs k i).Z), J ((Zmesh_side_0 p rs k i).X), J ((Zmesh_side_0 p rs k i).Y), J ((Zmesh_side_0 p rs k i).Z), J 2, J cage, J (at_ p.aCorners k), J (at_ p.aCorners ((k + 1) % 4)), J i]) rfl rfl ts_78 h86 rfl rfl rfl rfl ?_)
 intro H88 h89 k90
 have m92 := Mono.set m87 z6 k90
 refine AWP.ret ?_
 refine ⟨_, _, Ghost.refl, .inr rfl, _, Res.list1 rfl (.cell (v := .agg [J ((Zmesh_side_1 p rs k i).X), J ((Zmesh_side_1 p rs k i).Y), J ((Zmesh_side_1 p rs k i).Z), J ((Zmesh_side_0 p rs k i).X), J ((Zmesh_side_0 p rs k i).Y), J ((Zmesh_side_0 p rs k i).Z), J 2, J cage, J (at_ p.aCorners k), J (at_ p.aCorners ((k + 1) % 4)), J i]) rfl ty_78 h89 rfl (.nil)), ?_, m92⟩
 have hR : R_mesh_side p cage id rs m k i = (VertexT.mk (Zmesh_side_1 p rs k i) (Zmesh_side_0 p rs k i) (KeyT.mk 2 cage (at_ p.aCorners k) (at_ p.aCorners ((k + 1) % 4)) i)) := by unfold R_mesh_side; rw [if_neg b74]
 exact (congrArg (fun r : VertexT => (.agg [J r.atF.X, J r.atF.Y, J r.atF.Z, J r.up.X, J r.up.Y, J r.up.Z, J r.key.Kind, J r.key.Of, J r.key.A, J r.key.B, J r.key.N] : AV)) hR).symm
def R_mesh_inner (p : PatchT) (cage id : Int) (rs : List Int) (m : Int) (a : Int) (b : Int) : VertexT :=
  (VertexT.mk ((R_curve_Point p.aP a m b m).1) ((R_relief_Mix p.aNormals a m b m).1) (KeyT.mk 3 id a b 0))
theorem c_mesh_inner (p : PatchT) (cage id : Int) (rs : List Int) (h : rs.length = 4) (m : Int) (a : Int) (b : Int) : PC Tryd.prog 54 [.fptr ((p.aP.flatMap eV) ++ ((p.aCorners.map eI) ++ ((p.aNormals.flatMap eV) ++ (([J p.Skin, J cage, J id] : List AV) ++ ((rs.map eI) ++ ([J m] : List AV)))))) 0, J a, J b] (.agg [J (((R_mesh_inner p cage id rs m a b).atF).X), J (((R_mesh_inner p cage id rs m a b).atF).Y), J (((R_mesh_inner p cage id rs m a b).atF).Z), J (((R_mesh_inner p cage id rs m a b).up).X), J (((R_mesh_inner p cage id rs m a b).up).Y), J (((R_mesh_inner p cage id rs m a b).up).Z), J (((R_mesh_inner p cage id rs m a b).key).Kind), J (((R_mesh_inner p cage id rs m a b).key).Of), J (((R_mesh_inner p cage id rs m a b).key).A), J (((R_mesh_inner p cage id rs m a b).key).B), J (((R_mesh_inner p cage id rs m a b).key).N)]) := by
 intro H0
 refine ACalls.of_body' (n := 59) rfl rfl rfl rfl ?_
 have m0 := Mono.refl H0
 refine AWP.seq (AWP.region rfl ?_)
 refine AOps.cons rfl rfl (AOp.alloc rfl tz_78 ?_)
 intro i1 H2 n3 h4 k5
 have z6 := Mono.free m0 n3
 have m7 := Mono.new m0 n3 k5
 refine AWP.seq ?_
 refine AWP.freshN fun b8 hb9 => ?_
 obtain ⟨i10, e11⟩ : ∃ x, x = b8 + 0 := ⟨_, rfl⟩
 have n12 := hb9 0; rw [← e11] at n12
 refine AWP.region_strA mixed (by kernel_rfl) [(19, i10, .row 0 ([J 0, J 0, J 0]))] [0, 1, 2, 3, 4, 5, 6, 7, 8, 9, 10, 11, 12, 13, 14, 15, 16, 17, 18, 19] [(20, some [18])] [21] (by kernel_rfl) (by kernel_rfl) ⟨n12, trivial, trivial⟩ ?_
 have e13 := ne_new h4 n12
 have z14 := Mono.free m7 n12
 refine STRN.op rfl rfl rfl (.inl ⟨rfl, fun H1 f' H' hf hN hM => AOp.move _ rfl ((hf 0 rfl).trans rfl) ⟨rfl, hN⟩⟩) ?_
 refine STRN.op rfl rfl rfl (.inl ⟨rfl, fun H1 f' H' hf hN hM => AOp.nilCheck (.fptr ((p.aP.flatMap eV) ++ ((p.aCorners.map eI) ++ ((p.aNormals.flatMap eV) ++ (([J p.Skin, J cage, J id] : List AV) ++ ((rs.map eI) ++ ([J m] : List AV)))))) 0) rfl ((hf 12 rfl).trans rfl) rfl ⟨rfl, hN⟩⟩) ?_
 refine STRN.op rfl rfl rfl (.inl ⟨rfl, fun H1 f' H' hf hN hM => AOp.fieldAddrF rfl ((hf 13 rfl).trans rfl) fl_74_0 ⟨rfl, hN⟩⟩) ?_
 refine STRN.op rfl rfl rfl (.inl ⟨rfl, fun H1 f' H' hf hN hM => AOp.fieldAddrF rfl ((hf 14 rfl).trans rfl) fl_28_0 ⟨rfl, hN⟩⟩) ?_
 refine STRN.op rfl rfl rfl (.inl ⟨rfl, fun H1 f' H' hf hN hM => AOp.loadF _ rfl ((hf 15 rfl).trans rfl) ty_24 (ld_fst (fun h => by first | rfl | cases h) (ld_all (lenM eV_len p.lP rfl))) ⟨rfl, hN⟩⟩) ?_
 refine STRN.op rfl rfl rfl (.inl ⟨rfl, fun H1 f' H' hf hN hM => AOp.move _ rfl ((hf 1 rfl).trans rfl) ⟨rfl, hN⟩⟩) ?_
 refine STRN.op rfl rfl rfl (.inl ⟨rfl, fun H1 f' H' hf hN hM => AOp.move _ rfl ((hf 0 rfl).trans rfl) ⟨rfl, hN⟩⟩) ?_
 refine STRN.op rfl rfl rfl (.inl ⟨rfl, fun H1 f' H' hf hN hM => AOp.nilCheck (.fptr ((p.aP.flatMap eV) ++ ((p.aCorners.map eI) ++ ((p.aNormals.flatMap eV) ++ (([J p.Skin, J cage, J id] : List AV) ++ ((rs.map eI) ++ ([J m] : List AV)))))) 0) rfl ((hf 18 rfl).trans rfl) rfl ⟨rfl, hN⟩⟩) ?_
 refine STRN.op rfl rfl rfl (.inl ⟨rfl, fun H1 f' H' hf hN hM => AOp.fieldAddrF rfl ((hf 19 rfl).trans rfl) fl_74_4 ⟨rfl, hN⟩⟩) ?_
 refine STRN.op rfl rfl rfl (.inl ⟨rfl, fun H1 f' H' hf hN hM => AOp.loadF _ rfl ((hf 20 rfl).trans rfl) ty_3 (ld_skip (off' := 23) (lenM eV_len p.lP rfl) (by omega) (ld_skip (off' := 19) (len1 p.lCorners) (by omega) (ld_skip (off' := 7) (lenM eV_len p.lNormals rfl) (by omega) (ld_skip (off' := 4) (n := 3) rfl (by omega) (ld_skip (off' := 0) (len1 h) (by omega) rfl))))) ⟨rfl, hN⟩⟩) ?_
 refine STRN.op rfl rfl rfl (.inl ⟨rfl, fun H1 f' H' hf hN hM => AOp.move _ rfl ((hf 2 rfl).trans rfl) ⟨rfl, hN⟩⟩) ?_
 refine STRN.op rfl rfl rfl (.inl ⟨rfl, fun H1 f' H' hf hN hM => AOp.move _ rfl ((hf 0 rfl).trans rfl) ⟨rfl, hN⟩⟩) ?_
 refine STRN.op rfl rfl rfl (.inl ⟨rfl, fun H1 f' H' hf hN hM => AOp.nilCheck (.fptr ((p.aP.flatMap eV) ++ ((p.aCorners.map eI) ++ ((p.aNormals.flatMap eV) ++ (([J p.Skin, J cage, J id] : List AV) ++ ((rs.map eI) ++ ([J m] : List AV)))))) 0) rfl ((hf 23 rfl).trans rfl) rfl ⟨rfl, hN⟩⟩) ?_
 refine STRN.op rfl rfl rfl (.inl ⟨rfl, fun H1 f' H' hf hN hM => AOp.fieldAddrF rfl ((hf 24 rfl).trans rfl) fl_74_4 ⟨rfl, hN⟩⟩) ?_
 refine STRN.op rfl rfl rfl (.inl ⟨rfl, fun H1 f' H' hf hN hM => AOp.loadF _ rfl ((hf 25 rfl).trans rfl) ty_3 (ld_skip (off' := 23) (lenM eV_len p.lP rfl) (by omega) (ld_skip (off' := 19) (len1 p.lCorners) (by omega) (ld_skip (off' := 7) (lenM eV_len p.lNormals rfl) (by omega) (ld_skip (off' := 4) (n := 3) rfl (by omega) (ld_skip (off' := 0) (len1 h) (by omega) rfl))))) ⟨rfl, hN⟩⟩) ?_
 refine STRN.op rfl rfl rfl (.inl ⟨rfl, fun H1 f' H' hf hN hM => AOp.pcall («as» := [.agg (p.aP.flatMap eV), J a, J m, J b, J m]) rfl rfl (lapp (lcons ((hf 16 rfl).trans rfl) (lcons ((hf 17 rfl).trans rfl) (lcons ((hf 21 rfl).trans rfl) (lcons ((hf 22 rfl).trans rfl) (lcons ((hf 26 rfl).trans rfl) rfl))))) rfl) tf_86 (c_curve_Point p.aP p.lP a m b m) fun H2 m2 => ⟨rfl, hN.trans m2⟩⟩) ?_
 refine STRN.op rfl rfl rfl (.inl ⟨rfl, fun H1 f' H' hf hN hM => AOp.move _ rfl ((hf 27 rfl).trans rfl) ⟨rfl, hN⟩⟩) ?_
 refine STRN.op rfl rfl rfl (.inl ⟨rfl, fun H1 f' H' hf hN hM => AOp.extract _ rfl ((hf 11 rfl).trans rfl) rfl ⟨rfl, hN⟩⟩) ?_
 refine STRN.op rfl rfl rfl (.inl ⟨rfl, fun H1 f' H' hf hN hM => AOp.extract _ rfl ((hf 11 rfl).trans rfl) rfl ⟨rfl, hN⟩⟩) ?_
 refine STRN.alloc (id := i10) (Z := [J 0, J 0, J 0]) (.head _) rfl rfl rfl rfl rfl tz_23 ?_
 refine STRN.done fun H15 m16 hu17 => ?_
 have h18 := m16 _ _ h4
 have m19 := m7.trans m16
 have h20 : H15 i10 = some (.row 0 ([J 0, J 0, J 0])) := hu17 _ (.head _)
 refine STR.st rfl rfl rfl fun f21 H22 hf23 m24 => ?_
 have h25 := m24 _ _ h18
 have h26 := m24 _ _ h20
 have m27 := m19.trans m24
 refine AOp.store' (cells' := [J (((R_curve_Point p.aP a m b m).1).X), J (((R_curve_Point p.aP a m b m).1).Y), J (((R_curve_Point p.aP a m b m).1).Z)]) (.agg [J (((R_curve_Point p.aP a m b m).1).X), J (((R_curve_Point p.aP a m b m).1).Y), J (((R_curve_Point p.aP a m b m).1).Z)]) ((hf23 7 rfl).trans rfl) ((hf23 28 rfl).trans rfl) ts_23 h26 rfl rfl rfl rfl ?_
 intro H28 h29 k30
 have h31 := keep k30 e13 h25
 have m33 := Mono.set m27 z14 k30
 refine ⟨rfl, .inr (RevR.skip rfl (RevR.cons rfl (.inl ⟨rfl, fun H1 f' H' hf hN hM => AOp.extract _ rfl ((hf 11 rfl).trans rfl) rfl ⟨rfl, hN⟩⟩) (RevR.skip rfl (RevR.skip rfl (RevR.skip rfl (RevR.skip rfl (RevR.skip rfl (RevR.skip rfl (RevR.skip rfl (RevR.skip rfl (RevR.skip rfl (RevR.skip rfl (RevR.skip rfl (RevR.skip rfl (RevR.skip rfl (RevR.skip rfl (RevR.skip rfl (RevR.skip rfl (RevR.skip rfl (RevR.skip rfl RevR.nil)))))))))))))))))))), ?_⟩
 refine STR.done fun H34 m35 => ?_
 have h36 := m35 _ _ h31
 have h37 := m35 _ _ h29
 have m38 := m33.trans m35
 refine AOps.cons rfl rfl (AOp.assign _ rfl rfl ?_)
 refine AWP.seq ?_
 refine AWP.frzP 7 h37 z14 rfl m38 fun H39 m40 k41 => ?_
 have h42 := (k41 _ e13).trans h36
 refine AWP.freshN fun b43 hb44 => ?_
 obtain ⟨i45, e46⟩ : ∃ x, x = b43 + 0 := ⟨_, rfl⟩
 have n47 := hb44 0; rw [← e46] at n47
 refine AWP.region_strA mixed (by kernel_rfl) [(19, i45, .row 0 ([J 0, J 0, J 0]))] [0, 1, 2, 3, 4, 5, 6, 7, 8, 9, 10, 11, 12, 13, 14, 15, 16, 17, 18, 19] [(20, some [18])] [21] (by kernel_rfl) (by kernel_rfl) ⟨n47, trivial, trivial⟩ ?_
 have e48 := ne_new h42 n47
 have z49 := Mono.free m40 n47
 refine STRN.op rfl rfl rfl (.inl ⟨rfl, fun H1 f' H' hf hN hM => AOp.move _ rfl ((hf 0 rfl).trans rfl) ⟨rfl, hN⟩⟩) ?_
 refine STRN.op rfl rfl rfl (.inl ⟨rfl, fun H1 f' H' hf hN hM => AOp.nilCheck (.fptr ((p.aP.flatMap eV) ++ ((p.aCorners.map eI) ++ ((p.aNormals.flatMap eV) ++ (([J p.Skin, J cage, J id] : List AV) ++ ((rs.map eI) ++ ([J m] : List AV)))))) 0) rfl ((hf 31 rfl).trans rfl) rfl ⟨rfl, hN⟩⟩) ?_
 refine STRN.op rfl rfl rfl (.inl ⟨rfl, fun H1 f' H' hf hN hM => AOp.fieldAddrF rfl ((hf 32 rfl).trans rfl) fl_74_0 ⟨rfl, hN⟩⟩) ?_
 refine STRN.op rfl rfl rfl (.inl ⟨rfl, fun H1 f' H' hf hN hM => AOp.fieldAddrF rfl ((hf 33 rfl).trans rfl) fl_28_2 ⟨rfl, hN⟩⟩) ?_
 refine STRN.op rfl rfl rfl (.inl ⟨rfl, fun H1 f' H' hf hN hM => AOp.loadF _ rfl ((hf 34 rfl).trans rfl) ty_26 (ld_skip (off' := 4) (lenM eV_len p.lP rfl) (by omega) (ld_skip (off' := 0) (len1 p.lCorners) (by omega) (ld_fst (fun h => by first | rfl | cases h) (ld_all (lenM eV_len p.lNormals rfl))))) ⟨rfl, hN⟩⟩) ?_
 refine STRN.op rfl rfl rfl (.inl ⟨rfl, fun H1 f' H' hf hN hM => AOp.move _ rfl ((hf 1 rfl).trans rfl) ⟨rfl, hN⟩⟩) ?_
 refine STRN.op rfl rfl rfl (.inl ⟨rfl, fun H1 f' H' hf hN hM => AOp.move _ rfl ((hf 0 rfl).trans rfl) ⟨rfl, hN⟩⟩) ?_
 refine STRN.op rfl rfl rfl (.inl ⟨rfl, fun H1 f' H' hf hN hM => AOp.nilCheck (.fptr ((p.aP.flatMap eV) ++ ((p.aCorners.map eI) ++ ((p.aNormals.flatMap eV) ++ (([J p.Skin, J cage, J id] : List AV) ++ ((rs.map eI) ++ ([J m] : List AV)))))) 0) rfl ((hf 37 rfl).trans rfl) rfl ⟨rfl, hN⟩⟩) ?_
 refine STRN.op rfl rfl rfl (.inl ⟨rfl, fun H1 f' H' hf hN hM => AOp.fieldAddrF rfl ((hf 38 rfl).trans rfl) fl_74_4 ⟨rfl, hN⟩⟩) ?_
 refine STRN.op rfl rfl rfl (.inl ⟨rfl, fun H1 f' H' hf hN hM => AOp.loadF _ rfl ((hf 39 rfl).trans rfl) ty_3 (ld_skip (off' := 23) (lenM eV_len p.lP rfl) (by omega) (ld_skip (off' := 19) (len1 p.lCorners) (by omega) (ld_skip (off' := 7) (lenM eV_len p.lNormals rfl) (by omega) (ld_skip (off' := 4) (n := 3) rfl (by omega) (ld_skip (off' := 0) (len1 h) (by omega) rfl))))) ⟨rfl, hN⟩⟩) ?_
 refine STRN.op rfl rfl rfl (.inl ⟨rfl, fun H1 f' H' hf hN hM => AOp.move _ rfl ((hf 2 rfl).trans rfl) ⟨rfl, hN⟩⟩) ?_
 refine STRN.op rfl rfl rfl (.inl ⟨rfl, fun H1 f' H' hf hN hM => AOp.move _ rfl ((hf 0 rfl).trans rfl) ⟨rfl, hN⟩⟩) ?_
 refine STRN.op rfl rfl rfl (.inl ⟨rfl, fun H1 f' H' hf hN hM => AOp.nilCheck (.fptr ((p.aP.flatMap eV) ++ ((p.aCorners.map eI) ++ ((p.aNormals.flatMap eV) ++ (([J p.Skin, J cage, J id] : List AV) ++ ((rs.map eI) ++ ([J m] : List AV)))))) 0) rfl ((hf 42 rfl).trans rfl) rfl ⟨rfl, hN⟩⟩) ?_
 refine STRN.op rfl rfl rfl (.inl ⟨rfl, fun H1 f' H' hf hN hM => AOp.fieldAddrF rfl ((hf 43 rfl).trans rfl) fl_74_4 ⟨rfl, hN⟩⟩) ?_
 refine STRN.op rfl rfl rfl (.inl ⟨rfl, fun H1 f' H' hf hN hM => AOp.loadF _ rfl ((hf 44 rfl).trans rfl) ty_3 (ld_skip (off' := 23) (lenM eV_len p.lP rfl) (by omega) (ld_skip (off' := 19) (len1 p.lCorners) (by omega) (ld_skip (off' := 7) (lenM eV_len p.lNormals rfl) (by omega) (ld_skip (off' := 4) (n := 3) rfl (by omega) (ld_skip (off' := 0) (len1 h) (by omega) rfl))))) ⟨rfl, hN⟩⟩) ?_
 refine STRN.op rfl rfl rfl (.inl ⟨rfl, fun H1 f' H' hf hN hM => AOp.pcall («as» := [.agg (p.aNormals.flatMap eV), J a, J m, J b, J m]) rfl rfl (lapp (lcons ((hf 35 rfl).trans rfl) (lcons ((hf 36 rfl).trans rfl) (lcons ((hf 40 rfl).trans rfl) (lcons ((hf 41 rfl).trans rfl) (lcons ((hf 45 rfl).trans rfl) rfl))))) rfl) tf_87 (c_relief_Mix p.aNormals p.lNormals a m b m) fun H2 m2 => ⟨rfl, hN.trans m2⟩⟩) ?_
 refine STRN.op rfl rfl rfl (.inl ⟨rfl, fun H1 f' H' hf hN hM => AOp.move _ rfl ((hf 46 rfl).trans rfl) ⟨rfl, hN⟩⟩) ?_
 refine STRN.op rfl rfl rfl (.inl ⟨rfl, fun H1 f' H' hf hN hM => AOp.extract _ rfl ((hf 30 rfl).trans rfl) rfl ⟨rfl, hN⟩⟩) ?_
 refine STRN.op rfl rfl rfl (.inl ⟨rfl, fun H1 f' H' hf hN hM => AOp.extract _ rfl ((hf 30 rfl).trans rfl) rfl ⟨rfl, hN⟩⟩) ?_
 refine STRN.alloc (id := i45) (Z := [J 0, J 0, J 0]) (.head _) rfl rfl rfl rfl rfl tz_23 ?_
 refine STRN.done fun H50 m51 hu52 => ?_
 have h53 := m51 _ _ h42
 have m54 := m40.trans m51
 have h55 : H50 i45 = some (.row 0 ([J 0, J 0, J 0])) := hu52 _ (.head _)
 refine STR.st rfl rfl rfl fun f56 H57 hf58 m59 => ?_
 have h60 := m59 _ _ h53
 have h61 := m59 _ _ h55
 have m62 := m54.trans m59
 refine AOp.store' (cells' := [J (((R_relief_Mix p.aNormals a m b m).1).X), J (((R_relief_Mix p.aNormals a m b m).1).Y), J (((R_relief_Mix p.aNormals a m b m).1).Z)]) (.agg [J (((R_relief_Mix p.aNormals a m b m).1).X), J (((R_relief_Mix p.aNormals a m b m).1).Y), J (((R_relief_Mix p.aNormals a m b m).1).Z)]) ((hf58 9 rfl).trans rfl) ((hf58 47 rfl).trans rfl) ts_23 h61 rfl rfl rfl rfl ?_
 intro H63 h64 k65
 have h66 := keep k65 e48 h60
 have m68 := Mono.set m62 z49 k65
 refine ⟨rfl, .inr (RevR.skip rfl (RevR.cons rfl (.inl ⟨rfl, fun H1 f' H' hf hN hM => AOp.extract _ rfl ((hf 30 rfl).trans rfl) rfl ⟨rfl, hN⟩⟩) (RevR.skip rfl (RevR.skip rfl (RevR.skip rfl (RevR.skip rfl (RevR.skip rfl (RevR.skip rfl (RevR.skip rfl (RevR.skip rfl (RevR.skip rfl (RevR.skip rfl (RevR.skip rfl (RevR.skip rfl (RevR.skip rfl (RevR.skip rfl (RevR.skip rfl (RevR.skip rfl (RevR.skip rfl (RevR.skip rfl RevR.nil)))))))))))))))))))), ?_⟩
 refine STR.done fun H69 m70 => ?_
 have h71 := m70 _ _ h66
 have h72 := m70 _ _ h64
 have m73 := m68.trans m70
 refine AOps.cons rfl rfl (AOp.assign _ rfl rfl ?_)
 refine AWP.seq ?_
 refine AWP.frzP 9 h72 z49 rfl m73 fun H74 m75 k76 => ?_
 have h77 := (k76 _ e48).trans h71
 refine AWP.region_quiet mixed (by kernel_rfl) 10 [10] rfl (by kernel_rfl) (Mono H74) (Mono.refl _) ?_
 refine QE.op rfl rfl (.inl ⟨rfl, fun f' H' hf hM => AOp.loadF _ rfl ((hf 7 rfl).trans rfl) ty_23 rfl ⟨rfl, hM⟩⟩) ?_
 refine QE.op rfl rfl (.inl ⟨rfl, fun f' H' hf hM => AOp.loadF _ rfl ((hf 9 rfl).trans rfl) ty_23 rfl ⟨rfl, hM⟩⟩) ?_
 refine QE.op rfl rfl (.inl ⟨rfl, fun f' H' hf hM => AOp.move _ rfl ((hf 0 rfl).trans rfl) ⟨rfl, hM⟩⟩) ?_
 refine QE.op rfl rfl (.inl ⟨rfl, fun f' H' hf hM => AOp.nilCheck (.fptr ((p.aP.flatMap eV) ++ ((p.aCorners.map eI) ++ ((p.aNormals.flatMap eV) ++ (([J p.Skin, J cage, J id] : List AV) ++ ((rs.map eI) ++ ([J m] : List AV)))))) 0) rfl ((hf 51 rfl).trans rfl) rfl ⟨rfl, hM⟩⟩) ?_
 refine QE.op rfl rfl (.inl ⟨rfl, fun f' H' hf hM => AOp.fieldAddrF rfl ((hf 52 rfl).trans rfl) fl_74_2 ⟨rfl, hM⟩⟩) ?_
 refine QE.op rfl rfl (.inl ⟨rfl, fun f' H' hf hM => AOp.loadF _ rfl ((hf 53 rfl).trans rfl) ty_3 (ld_skip (off' := 18) (lenM eV_len p.lP rfl) (by omega) (ld_skip (off' := 14) (len1 p.lCorners) (by omega) (ld_skip (off' := 2) (lenM eV_len p.lNormals rfl) (by omega) (ld_fst (fun h => by first | rfl | cases h) rfl)))) ⟨rfl, hM⟩⟩) ?_
 refine QE.op rfl rfl (.inl ⟨rfl, fun f' H' hf hM => AOp.move _ rfl ((hf 1 rfl).trans rfl) ⟨rfl, hM⟩⟩) ?_
 refine QE.op rfl rfl (.inl ⟨rfl, fun f' H' hf hM => AOp.move _ rfl ((hf 2 rfl).trans rfl) ⟨rfl, hM⟩⟩) ?_
 refine QE.op rfl rfl (.inl ⟨rfl, fun f' H' hf hM => AOp.build (cells := [J 3, J id, J a, J b, J 0]) rfl tz_58 pl_58 (lconsP rfl (lconsP ((hf 54 rfl).trans rfl) (lconsP ((hf 55 rfl).trans rfl) (lconsP ((hf 56 rfl).trans rfl) rfl)))) rfl ⟨rfl, hM⟩⟩) ?_
 refine QE.op rfl rfl (.inl ⟨rfl, fun f' H' hf hM => AOp.build (cells := [J (((R_curve_Point p.aP a m b m).1).X), J (((R_curve_Point p.aP a m b m).1).Y), J (((R_curve_Point p.aP a m b m).1).Z), J (((R_relief_Mix p.aNormals a m b m).1).X), J (((R_relief_Mix p.aNormals a m b m).1).Y), J (((R_relief_Mix p.aNormals a m b m).1).Z), J 3, J id, J a, J b, J 0]) rfl tz_78 pl_78 (lconsP ((hf 49 rfl).trans rfl) (lconsP ((hf 50 rfl).trans rfl) (lconsP ((hf 57 rfl).trans rfl) rfl))) rfl ⟨rfl, hM⟩⟩) ?_
 refine QE.done fun H78 m79 => ?_
 have h80 := m79 _ _ h77
 have m81 := m75.trans m79
 refine AOps.cons rfl rfl (AOp.store' (cells' := [J (((R_curve_Point p.aP a m b m).1).X), J (((R_curve_Point p.aP a m b m).1).Y), J (((R_curve_Point p.aP a m b m).1).Z), J (((R_relief_Mix p.aNormals a m b m).1).X), J (((R_relief_Mix p.aNormals a m b m).1).Y), J (((R_relief_Mix p.aNormals a m b m).1).Z), J 3, J id, J a, J b, J 0]) (.agg [J (((R_curve_Point p.aP a m b m).1).X), J (((R_curve_Point p.aP a m b m).1).Y), J (((R_curve_Point p.aP a m b m).1).Z), J (((R_relief_Mix p.aNormals a m b m).1).X), J (((R_relief_Mix p.aNormals a m b m).1).Y), J (((R_relief_Mix p.aNormals a m b m).1).Z), J 3, J id, J a, J b, J 0]) rfl rfl ts_78 h80 rfl rfl rfl rfl ?_)
 intro H82 h83 k84
 have m86 := Mono.set m81 z6 k84
 refine AWP.ret ?_
 refine ⟨_, _, Ghost.refl, .inr rfl, _, Res.list1 rfl (.cell (v := .agg [J (((R_curve_Point p.aP a m b m).1).X), J (((R_curve_Point p.aP a m b m).1).Y), J (((R_curve_Point p.aP a m b m).1).Z), J (((R_relief_Mix p.aNormals a m b m).1).X), J (((R_relief_Mix p.aNormals a m b m).1).Y), J (((R_relief_Mix p.aNormals a m b m).1).Z), J 3, J id, J a, J b, J 0]) rfl ty_78 h83 rfl (.nil)), ?_, m86⟩
 have hR : R_mesh_inner p cage id rs m a b = (VertexT.mk ((R_curve_Point p.aP a m b m).1) ((R_relief_Mix p.aNormals a m b m).1) (KeyT.mk 3 id a b 0)) := rfl
 exact (congrArg (fun r : VertexT => (.agg [J r.atF.X, J r.atF.Y, J r.atF.Z, J r.up.X, J r.up.Y, J r.up.Z, J r.key.Kind, J r.key.Of, J r.key.A, J r.key.B, J r.key.N] : AV)) hR).symm
def R_mesh_vertex (p : PatchT) (cage id : Int) (rs : List Int) (m : Int) (x : SpotT) : VertexT :=
  if x.Kind = 1 then (R_mesh_corner p cage id rs m x.A) else (if x.Kind = 2 then (R_mesh_side p cage id rs m x.A x.B) else (R_mesh_inner p cage id rs m x.A x.B))
theorem c_mesh_vertex (p : PatchT) (cage id : Int) (rs : List Int) (h : rs.length = 4) (m : Int) (x : SpotT) (hr : rates rs) (hm : m ≤ 16) (hx : x ∈ spotsL rs m) : PC Tryd.prog 27 [.fptr ((p.aP.flatMap eV) ++ ((p.aCorners.map eI) ++ ((p.aNormals.flatMap eV) ++ (([J p.Skin, J cage, J id] : List AV) ++ ((rs.map eI) ++ ([J m] : List AV)))))) 0, .agg [J x.Kind, J x.A, J x.B]] (.agg [J (((R_mesh_vertex p cage id rs m x).atF).X), J (((R_mesh_vertex p cage id rs m x).atF).Y), J (((R_mesh_vertex p cage id rs m x).atF).Z), J (((R_mesh_vertex p cage id rs m x).up).X), J (((R_mesh_vertex p cage id rs m x).up).Y), J (((R_mesh_vertex p cage id rs m x).up).Z), J (((R_mesh_vertex p cage id rs m x).key).Kind), J (((R_mesh_vertex p cage id rs m x).key).Of), J (((R_mesh_vertex p cage id rs m x).key).A), J (((R_mesh_vertex p cage id rs m x).key).B), J (((R_mesh_vertex p cage id rs m x).key).N)]) := by
 intro H0
 refine ACalls.of_body' (n := 27) rfl rfl rfl rfl ?_
 have m0 := Mono.refl H0
 refine AWP.seq (AWP.region rfl ?_)
 refine AOps.cons rfl rfl (AOp.box (.agg [J x.Kind, J x.A, J x.B]) rfl rfl rfl ?_)
 intro i1 H2 n3 h4 k5
 have z6 := Mono.free m0 n3
 have m7 := Mono.new m0 n3 k5
 refine AOps.cons rfl rfl (AOp.alloc rfl tz_78 ?_)
 intro i8 H9 n10 h11 k12
 have e13 := ne_new h4 n10
 have z14 := Mono.free m7 n10
 have h15 := keep k12 (ne_new h4 n10) h4
 have m16 := Mono.new m7 n10 k12
 refine AWP.seq ?_
 refine AWP.seq ?_
 refine AWP.frzP 3 h15 z6 rfl m16 fun H17 m18 k19 => ?_
 have h20 := (k19 _ (Ne.symm e13)).trans h11
 have hxx := mem_spots.1 hx
 refine AWP.region rfl ?_
 refine AOps.cons rfl rfl (AOp.fieldAddrF rfl rfl fl_76_0 (AOps.cons rfl rfl (AOp.loadF _ rfl rfl ty_3 rfl ?_)))
 refine AWP.block ?_
 refine AWP.seq (AWP.region rfl ?_)
 refine AOps.cons rfl rfl (AOp.bin _ rfl rfl rfl ieq (AOps.cons rfl rfl (AOp.assign _ rfl rfl ?_)))
 refine AOps.nil ?_
 change AWP _ _ _ _ _ _
 by_cases b21 : x.Kind = 1
 refine AWP.condT rfl (decide_eq_true b21) ?_
 refine AWP.seq (AWP.region rfl ?_)
 refine AOps.cons rfl rfl (AOp.move _ rfl rfl (AOps.cons rfl rfl (AOp.fieldAddrF rfl rfl fl_76_1 (AOps.cons rfl rfl (AOp.loadF _ rfl rfl ty_3 rfl (AOps.cons rfl rfl (AOp.pcall («as» := [.fptr ((p.aP.flatMap eV) ++ ((p.aCorners.map eI) ++ ((p.aNormals.flatMap eV) ++ (([J p.Skin, J cage, J id] : List AV) ++ ((rs.map eI) ++ ([J m] : List AV)))))) 0, J x.A]) rfl rfl (rfl) tf_52 (c_mesh_corner p cage id rs h m x.A (by first | omega | assumption | (constructor <;> omega))) ?_)))))))
 intro H22 m23
 have h24 := m23 _ _ h20
 have m25 := m18.trans m23
 refine AOps.cons rfl rfl (AOp.store' (cells' := [J (((R_mesh_corner p cage id rs m x.A).atF).X), J (((R_mesh_corner p cage id rs m x.A).atF).Y), J (((R_mesh_corner p cage id rs m x.A).atF).Z), J (((R_mesh_corner p cage id rs m x.A).up).X), J (((R_mesh_corner p cage id rs m x.A).up).Y), J (((R_mesh_corner p cage id rs m x.A).up).Z), J (((R_mesh_corner p cage id rs m x.A).key).Kind), J (((R_mesh_corner p cage id rs m x.A).key).Of), J (((R_mesh_corner p cage id rs m x.A).key).A), J (((R_mesh_corner p cage id rs m x.A).key).B), J (((R_mesh_corner p cage id rs m x.A).key).N)]) (.agg [J (((R_mesh_corner p cage id rs m x.A).atF).X), J (((R_mesh_corner p cage id rs m x.A).atF).Y), J (((R_mesh_corner p cage id rs m x.A).atF).Z), J (((R_mesh_corner p cage id rs m x.A).up).X), J (((R_mesh_corner p cage id rs m x.A).up).Y), J (((R_mesh_corner p cage id rs m x.A).up).Z), J (((R_mesh_corner p cage id rs m x.A).key).Kind), J (((R_mesh_corner p cage id rs m x.A).key).Of), J (((R_mesh_corner p cage id rs m x.A).key).A), J (((R_mesh_corner p cage id rs m x.A).key).B), J (((R_mesh_corner p cage id rs m x.A).key).N)]) rfl rfl ts_78 h24 rfl rfl rfl rfl ?_)
 intro H26 h27 k28
 have m30 := Mono.set m25 z14 k28
 refine AWP.ret ?_
 refine ⟨_, _, Ghost.refl, .inr rfl, _, Res.list1 rfl (.cell (v := .agg [J (((R_mesh_corner p cage id rs m x.A).atF).X), J (((R_mesh_corner p cage id rs m x.A).atF).Y), J (((R_mesh_corner p cage id rs m x.A).atF).Z), J (((R_mesh_corner p cage id rs m x.A).up).X), J (((R_mesh_corner p cage id rs m x.A).up).Y), J (((R_mesh_corner p cage id rs m x.A).up).Z), J (((R_mesh_corner p cage id rs m x.A).key).Kind), J (((R_mesh_corner p cage id rs m x.A).key).Of), J (((R_mesh_corner p cage id rs m x.A).key).A), J (((R_mesh_corner p cage id rs m x.A).key).B), J (((R_mesh_corner p cage id rs m x.A).key).N)]) rfl ty_78 h27 rfl (.nil)), ?_, m30⟩
 have hR : R_mesh_vertex p cage id rs m x = (R_mesh_corner p cage id rs m x.A) := by unfold R_mesh_vertex; rw [if_pos b21]
 exact (congrArg (fun r : VertexT => (.agg [J r.atF.X, J r.atF.Y, J r.atF.Z, J r.up.X, J r.up.Y, J r.up.Z, J r.key.Kind, J r.key.Of, J r.key.A, J r.key.B, J r.key.N] : AV)) hR).symm
 refine AWP.condF rfl (decide_eq_false b21) ?_
 refine AWP.seq (AWP.region rfl ?_)
 refine AOps.cons rfl rfl (AOp.bin _ rfl rfl rfl ieq (AOps.cons rfl rfl (AOp.assign _ rfl rfl ?_)))
 refine AOps.nil ?_
 change AWP _ _ _ _ _ _
 by_cases b31 : x.Kind = 2
 refine AWP.condT rfl (decide_eq_true b31) ?_
 refine AWP.seq ?_
 have hrk := hr x.A (by omega) (by omega)
 refine AWP.region rfl ?_
 refine AOps.cons rfl rfl (AOp.move _ rfl rfl (AOps.cons rfl rfl (AOp.fieldAddrF rfl rfl fl_76_1 (AOps.cons rfl rfl (AOp.loadF _ rfl rfl ty_3 rfl (AOps.cons rfl rfl (AOp.fieldAddrF rfl rfl fl_76_2 (AOps.cons rfl rfl (AOp.loadF _ rfl rfl ty_3 rfl (AOps.cons rfl rfl (AOp.pcall («as» := [.fptr ((p.aP.flatMap eV) ++ ((p.aCorners.map eI) ++ ((p.aNormals.flatMap eV) ++ (([J p.Skin, J cage, J id] : List AV) ++ ((rs.map eI) ++ ([J m] : List AV)))))) 0, J x.A, J x.B]) rfl rfl (rfl) tf_53 (c_mesh_side p cage id rs h m x.A x.B (by first | omega | assumption | (constructor <;> omega)) (by first | omega | assumption | (constructor <;> omega)) (by first | omega | assumption | (constructor <;> omega))) ?_)))))))))))
 intro H32 m33
 have h34 := m33 _ _ h20
 have m35 := m18.trans m33
 refine AOps.cons rfl rfl (AOp.store' (cells' := [J (((R_mesh_side p cage id rs m x.A x.B).atF).X), J (((R_mesh_side p cage id rs m x.A x.B).atF).Y), J (((R_mesh_side p cage id rs m x.A x.B).atF).Z), J (((R_mesh_side p cage id rs m x.A x.B).up).X), J (((R_mesh_side p cage id rs m x.A x.B).up).Y), J (((R_mesh_side p cage id rs m x.A x.B).up).Z), J (((R_mesh_side p cage id rs m x.A x.B).key).Kind), J (((R_mesh_side p cage id rs m x.A x.B).key).Of), J (((R_mesh_side p cage id rs m x.A x.B).key).A), J (((R_mesh_side p cage id rs m x.A x.B).key).B), J (((R_mesh_side p cage id rs m x.A x.B).key).N)]) (.agg [J (((R_mesh_side p cage id rs m x.A x.B).atF).X), J (((R_mesh_side p cage id rs m x.A x.B).atF).Y), J (((R_mesh_side p cage id rs m x.A x.B).atF).Z), J (((R_mesh_side p cage id rs m x.A x.B).up).X), J (((R_mesh_side p cage id rs m x.A x.B).up).Y), J (((R_mesh_side p cage id rs m x.A x.B).up).Z), J (((R_mesh_side p cage id rs m x.A x.B).key).Kind), J (((R_mesh_side p cage id rs m x.A x.B).key).Of), J (((R_mesh_side p cage id rs m x.A x.B).key).A), J (((R_mesh_side p cage id rs m x.A x.B).key).B), J (((R_mesh_side p cage id rs m x.A x.B).key).N)]) rfl rfl ts_78 h34 rfl rfl rfl rfl ?_)
 intro H36 h37 k38
 have m40 := Mono.set m35 z14 k38
 refine AWP.ret ?_
 refine ⟨_, _, Ghost.refl, .inr rfl, _, Res.list1 rfl (.cell (v := .agg [J (((R_mesh_side p cage id rs m x.A x.B).atF).X), J (((R_mesh_side p cage id rs m x.A x.B).atF).Y), J (((R_mesh_side p cage id rs m x.A x.B).atF).Z), J (((R_mesh_side p cage id rs m x.A x.B).up).X), J (((R_mesh_side p cage id rs m x.A x.B).up).Y), J (((R_mesh_side p cage id rs m x.A x.B).up).Z), J (((R_mesh_side p cage id rs m x.A x.B).key).Kind), J (((R_mesh_side p cage id rs m x.A x.B).key).Of), J (((R_mesh_side p cage id rs m x.A x.B).key).A), J (((R_mesh_side p cage id rs m x.A x.B).key).B), J (((R_mesh_side p cage id rs m x.A x.B).key).N)]) rfl ty_78 h37 rfl (.nil)), ?_, m40⟩
 have hR : R_mesh_vertex p cage id rs m x = (R_mesh_side p cage id rs m x.A x.B) := by unfold R_mesh_vertex; rw [if_neg b21, if_pos b31]
 exact (congrArg (fun r : VertexT => (.agg [J r.atF.X, J r.atF.Y, J r.atF.Z, J r.up.X, J r.up.Y, J r.up.Z, J r.key.Kind, J r.key.Of, J r.key.A, J r.key.B, J r.key.N] : AV)) hR).symm
 refine AWP.condF rfl (decide_eq_false b31) ?_
 refine AWP.skip ?_
 refine AWP.seq (AWP.region rfl ?_)
 refine AOps.cons rfl rfl (AOp.move _ rfl rfl (AOps.cons rfl rfl (AOp.fieldAddrF rfl rfl fl_76_1 (AOps.cons rfl rfl (AOp.loadF _ rfl rfl ty_3 rfl (AOps.cons rfl rfl (AOp.fieldAddrF rfl rfl fl_76_2 (AOps.cons rfl rfl (AOp.loadF _ rfl rfl ty_3 rfl (AOps.cons rfl rfl (AOp.pcall («as» := [.fptr ((p.aP.flatMap eV) ++ ((p.aCorners.map eI) ++ ((p.aNormals.flatMap eV) ++ (([J p.Skin, J cage, J id] : List AV) ++ ((rs.map eI) ++ ([J m] : List AV)))))) 0, J x.A, J x.B]) rfl rfl (rfl) tf_54 (c_mesh_inner p cage id rs h m x.A x.B) ?_)))))))))))
 intro H41 m42
 have h43 := m42 _ _ h20
 have m44 := m18.trans m42
 refine AOps.cons rfl rfl (AOp.store' (cells' := [J (((R_mesh_inner p cage id rs m x.A x.B).atF).X), J (((R_mesh_inner p cage id rs m x.A x.B).atF).Y), J (((R_mesh_inner p cage id rs m x.A x.B).atF).Z), J (((R_mesh_inner p cage id rs m x.A x.B).up).X), J (((R_mesh_inner p cage id rs m x.A x.B).up).Y), J (((R_mesh_inner p cage id rs m x.A x.B).up).Z), J (((R_mesh_inner p cage id rs m x.A x.B).key).Kind), J (((R_mesh_inner p cage id rs m x.A x.B).key).Of), J (((R_mesh_inner p cage id rs m x.A x.B).key).A), J (((R_mesh_inner p cage id rs m x.A x.B).key).B), J (((R_mesh_inner p cage id rs m x.A x.B).key).N)]) (.agg [J (((R_mesh_inner p cage id rs m x.A x.B).atF).X), J (((R_mesh_inner p cage id rs m x.A x.B).atF).Y), J (((R_mesh_inner p cage id rs m x.A x.B).atF).Z), J (((R_mesh_inner p cage id rs m x.A x.B).up).X), J (((R_mesh_inner p cage id rs m x.A x.B).up).Y), J (((R_mesh_inner p cage id rs m x.A x.B).up).Z), J (((R_mesh_inner p cage id rs m x.A x.B).key).Kind), J (((R_mesh_inner p cage id rs m x.A x.B).key).Of), J (((R_mesh_inner p cage id rs m x.A x.B).key).A), J (((R_mesh_inner p cage id rs m x.A x.B).key).B), J (((R_mesh_inner p cage id rs m x.A x.B).key).N)]) rfl rfl ts_78 h43 rfl rfl rfl rfl ?_)
 intro H45 h46 k47
 have m49 := Mono.set m44 z14 k47
 refine AWP.ret ?_
 refine ⟨_, _, Ghost.refl, .inr rfl, _, Res.list1 rfl (.cell (v := .agg [J (((R_mesh_inner p cage id rs m x.A x.B).atF).X), J (((R_mesh_inner p cage id rs m x.A x.B).atF).Y), J (((R_mesh_inner p cage id rs m x.A x.B).atF).Z), J (((R_mesh_inner p cage id rs m x.A x.B).up).X), J (((R_mesh_inner p cage id rs m x.A x.B).up).Y), J (((R_mesh_inner p cage id rs m x.A x.B).up).Z), J (((R_mesh_inner p cage id rs m x.A x.B).key).Kind), J (((R_mesh_inner p cage id rs m x.A x.B).key).Of), J (((R_mesh_inner p cage id rs m x.A x.B).key).A), J (((R_mesh_inner p cage id rs m x.A x.B).key).B), J (((R_mesh_inner p cage id rs m x.A x.B).key).N)]) rfl ty_78 h46 rfl (.nil)), ?_, m49⟩
 have hR : R_mesh_vertex p cage id rs m x = (R_mesh_inner p cage id rs m x.A x.B) := by unfold R_mesh_vertex; rw [if_neg b21, if_neg b31]
 exact (congrArg (fun r : VertexT => (.agg [J r.atF.X, J r.atF.Y, J r.atF.Z, J r.up.X, J r.up.Y, J r.up.Z, J r.key.Kind, J r.key.Of, J r.key.A, J r.key.B, J r.key.N] : AV)) hR).symm
end Go.Proofs.M
namespace Go.Proofs.M
open Go Go.AH
set_option maxRecDepth 4000
set_option linter.unusedSimpArgs false
set_option linter.unusedVariables false
set_option maxHeartbeats 4000000
end Go.Proofs.M
namespace Go.Proofs.M
open Go Go.AH
set_option linter.unusedSimpArgs false
theorem sumW4 (i n : Int) : sumW (fun k => at_ (R_ref11_Weights i n) k) 4 = n * n * n := by
  simp only [sumW, R_ref11_Weights, at_]
  simp
  grind
theorem sumW16 (i n j m : Int) : sumW (fun k => at_ (R_ref11_Weights i n) (k % 4) * at_ (R_ref11_Weights j m) (k / 4)) 16 = n * n * n * m * m * m := by
  have a := sumW4 i n
  have b := sumW4 j m
  simp only [sumW] at a b ⊢
  simp at a b ⊢
  grind
end Go.Proofs.M
namespace Go.Proofs.M
open Go Go.AH
theorem weave_mem {rs : List Int} (h : rs.length = 4) {x : SpotT} (hx : x ∈ (weaveR rs).1) : rates rs ∧ maxL rs ≤ 16 ∧ x ∈ spotsL rs (maxL rs) := by
  unfold weaveR at hx
  split at hx
  · cases hx
  · have hr := rates_of h (by omega) (by omega)
    exact ⟨hr, by omega, hx⟩
theorem weave_len {rs : List Int} (h : rs.length = 4) : (weaveR rs).1.length ≤ 400 := by
  unfold weaveR
  split
  · simp
  · exact spots_len (rates_of h (by omega) (by omega)) (by omega)
def vtxD (p : PatchT) (cage id : Int) (s : SkinT) (x : SpotT) : VertexT := R_mesh_vertex p cage id (R_rate_Sides p.aP s.Unit) (maxL (R_rate_Sides p.aP s.Unit)) x
def plT (s : SkinT) (texs : List TexT) (v : VertexT) : Option VT :=
  if s.Tex ≥ 0 ∧ s.Height > 0 then (if (R_relief_Texel (at_ texs s.Tex) v.atF).2 = true then some (R_relief_Lift v.atF v.up (R_relief_Texel (at_ texs s.Tex) v.atF).1 s.Height).1 else none) else some v.atF
def errD (p : PatchT) (s : SkinT) (texs : List TexT) : Int := if R_mesh_fine p s ≠ 11 ∧ (s.Tex < -1 ∨ s.Tex ≥ texs.length) then 11 else R_mesh_fine p s
def fD (p : PatchT) (cage id : Int) (s : SkinT) (texs : List TexT) (x : SpotT) : VT := (plT s texs (vtxD p cage id s x)).getD default
def kD (p : PatchT) (cage id : Int) (s : SkinT) (x : SpotT) : KeyT := (vtxD p cage id s x).key
def diceR (p : PatchT) (cage id : Int) (s : SkinT) (texs : List TexT) : MeshT × Int :=
  if errD p s texs ≠ 0 then (⟨[], [], []⟩, errD p s texs) else
  if (weaveR (R_rate_Sides p.aP s.Unit)).1.all (fun x => (plT s texs (vtxD p cage id s x)).isSome) = true then
    (⟨(weaveR (R_rate_Sides p.aP s.Unit)).1.map (fD p cage id s texs), (weaveR (R_rate_Sides p.aP s.Unit)).1.map (kD p cage id s), (weaveR (R_rate_Sides p.aP s.Unit)).2.1⟩, 0)
  else (⟨[], [], []⟩, 11)
theorem dice_err {p : PatchT} {cage id : Int} {s : SkinT} {texs : List TexT} {e : Int} (h : errD p s texs = e) (he : e ≠ 0) : diceR p cage id s texs = (⟨[], [], []⟩, e) := by
  unfold diceR; rw [h, if_pos he]
theorem dice_bad {p : PatchT} {cage id : Int} {s : SkinT} {texs : List TexT} {i : Int} (h : errD p s texs = 0) (h0 : 0 ≤ i) (h1 : i < (weaveR (R_rate_Sides p.aP s.Unit)).1.length) (hb : plT s texs (vtxD p cage id s (at_ (weaveR (R_rate_Sides p.aP s.Unit)).1 i)) = none) : diceR p cage id s texs = (⟨[], [], []⟩, 11) := by
  unfold diceR
  rw [h, if_neg (by decide), if_neg]
  rw [List.all_eq_true]
  intro g
  have := g _ (at_mem h0 h1)
  rw [hb] at this; cases this
theorem dice_ok {p : PatchT} {cage id : Int} {s : SkinT} {texs : List TexT} {i : Int} (h : errD p s texs = 0) (h1 : (weaveR (R_rate_Sides p.aP s.Unit)).1.length ≤ i) (hp : ∀ j : Int, 0 ≤ j → j < i → (plT s texs (vtxD p cage id s (at_ (weaveR (R_rate_Sides p.aP s.Unit)).1 j))).isSome = true) : diceR p cage id s texs = (⟨((weaveR (R_rate_Sides p.aP s.Unit)).1.take i.toNat).map (fD p cage id s texs), ((weaveR (R_rate_Sides p.aP s.Unit)).1.take i.toNat).map (kD p cage id s), (weaveR (R_rate_Sides p.aP s.Unit)).2.1⟩, 0) := by
  unfold diceR
  rw [h, if_neg (by decide), if_pos, take_all (by omega)]
  rw [List.all_eq_true]
  intro x hx
  obtain ⟨j, h0, h1, rfl⟩ := mem_at hx
  exact hp j h0 (by omega)
theorem map_step {α β : Type} [Inhabited α] {l : List α} {f : α → β} {i : Int} {y : β} (h0 : 0 ≤ i) (h1 : i < l.length) (hy : f (at_ l i) = y) : (l.take i.toNat).map f ++ [y] = (l.take (i + 1).toNat).map f := by
  subst hy; rw [take_step h0 h1, List.map_append]; rfl
theorem fD_of {p : PatchT} {cage id : Int} {s : SkinT} {texs : List TexT} {x : SpotT} {v : VT} (h : plT s texs (vtxD p cage id s x) = some v) : fD p cage id s texs x = v := by unfold fD; rw [h]; rfl
end Go.Proofs.M
namespace Go.Proofs.M
open Go Go.AH
end Go.Proofs.M
namespace Go.Proofs.M
open Go Go.AH
set_option maxRecDepth 4000
set_option linter.unusedSimpArgs false
set_option linter.unusedVariables false
set_option maxHeartbeats 4000000
def R_law15_flat  : PatchT :=
  (PatchT.mk ([(VT.mk 0 0 0), (VT.mk 3 0 0), (VT.mk 6 0 0), (VT.mk 9 0 0), (VT.mk 0 3 0), (VT.mk 3 3 0), (VT.mk 6 3 0), (VT.mk 9 3 0), (VT.mk 0 6 0), (VT.mk 3 6 0), (VT.mk 6 6 0), (VT.mk 9 6 0), (VT.mk 0 9 0), (VT.mk 3 9 0), (VT.mk 6 9 0), (VT.mk 9 9 0)]) ([0, 1, 2, 3]) ([(VT.mk 0 0 0), (VT.mk 0 0 0), (VT.mk 0 0 0), (VT.mk 0 0 0)]) 0)
theorem c_law15_flat : PC Tryd.prog 22 [] (.agg (((R_law15_flat).aP).flatMap eV ++ (((R_law15_flat).aCorners).map eI ++ (((R_law15_flat).aNormals).flatMap eV ++ [J ((R_law15_flat).Skin)])))) := by
 intro H0
 refine ACalls.of_body' (n := 20) rfl rfl rfl rfl ?_
 have m0 := Mono.refl H0
 refine AWP.seq (AWP.region rfl ?_)
 refine AOps.cons rfl rfl (AOp.alloc rfl tz_28 ?_)
 intro i1 H2 n3 h4 k5
 have z6 := Mono.free m0 n3
 have m7 := Mono.new m0 n3 k5
 refine AWP.seq (AWP.region rfl ?_)
 refine AOps.cons rfl rfl (AOp.build (cells := [J 0, J 1, J 2, J 3]) rfl tz_25 pl_25 rfl rfl (AOps.cons rfl rfl (AOp.build (cells := [J 0, J 0, J 0, J 0, J 0, J 0, J 0, J 0, J 0, J 0, J 0, J 0, J 0, J 0, J 0, J 0, J 0, J 0, J 0, J 0, J 0, J 0, J 0, J 0, J 0, J 0, J 0, J 0, J 0, J 0, J 0, J 0, J 0, J 0, J 0, J 0, J 0, J 0, J 0, J 0, J 0, J 0, J 0, J 0, J 0, J 0, J 0, J 0, J 0, J 1, J 2, J 3, J 0, J 0, J 0, J 0, J 0, J 0, J 0, J 0, J 0, J 0, J 0, J 0, J 0]) rfl tz_28 pl_28 rfl rfl (AOps.cons rfl rfl (AOp.alloc rfl tz_28 ?_)))))
 intro i8 H9 n10 h11 k12
 have e13 := ne_new h4 n10
 have z14 := Mono.free m7 n10
 have h15 := keep k12 (ne_new h4 n10) h4
 have m16 := Mono.new m7 n10 k12
 refine AOps.cons rfl rfl (AOp.store' (cells' := [J 0, J 0, J 0, J 0, J 0, J 0, J 0, J 0, J 0, J 0, J 0, J 0, J 0, J 0, J 0, J 0, J 0, J 0, J 0, J 0, J 0, J 0, J 0, J 0, J 0, J 0, J 0, J 0, J 0, J 0, J 0, J 0, J 0, J 0, J 0, J 0, J 0, J 0, J 0, J 0, J 0, J 0, J 0, J 0, J 0, J 0, J 0, J 0, J 0, J 1, J 2, J 3, J 0, J 0, J 0, J 0, J 0, J 0, J 0, J 0, J 0, J 0, J 0, J 0, J 0]) (.agg [J 0, J 0, J 0, J 0, J 0, J 0, J 0, J 0, J 0, J 0, J 0, J 0, J 0, J 0, J 0, J 0, J 0, J 0, J 0, J 0, J 0, J 0, J 0, J 0, J 0, J 0, J 0, J 0, J 0, J 0, J 0, J 0, J 0, J 0, J 0, J 0, J 0, J 0, J 0, J 0, J 0, J 0, J 0, J 0, J 0, J 0, J 0, J 0, J 0, J 1, J 2, J 3, J 0, J 0, J 0, J 0, J 0, J 0, J 0, J 0, J 0, J 0, J 0, J 0, J 0]) rfl rfl ts_28 h11 rfl rfl rfl rfl ?_)
 intro H17 h18 k19
 have h20 := keep k19 e13 h15
 have m22 := Mono.set m16 z14 k19
 refine AWP.seq ?_
 refine AWP.seq (AWP.region rfl ?_)
 refine AOps.cons rfl rfl (AOp.assign _ rfl rfl ?_)
 refine AWP.block ?_
 refine AWP.unroll 20 ?_
 refine UN.step ?_
 refine AWP.seq ?_
 refine AWP.seq (AWP.region rfl ?_)
 refine AOps.cons rfl rfl (AOp.move _ rfl rfl (AOps.cons rfl rfl (AOp.bin _ rfl rfl rfl rfl ?_)))
 refine AWP.condT rfl (decide_eq_true (by decide)) ?_
 refine AWP.skip ?_
 refine AWP.seq ?_
 refine AWP.block ?_
 refine AWP.region rfl ?_
 refine AOps.cons rfl rfl (AOp.move _ rfl rfl (AOps.cons rfl rfl (AOp.move _ rfl rfl (AOps.cons rfl rfl (AOp.remP rfl rfl rfl (by omega) (by omega) (AOps.cons rfl rfl (AOp.bin _ rfl rfl rfl (imul (by omega)) (AOps.cons rfl rfl (AOp.move _ rfl rfl (AOps.cons rfl rfl (AOp.quoP rfl rfl rfl (by omega) ?_)))))))))))
 refine AOps.cons rfl rfl (AOp.bin _ rfl rfl rfl (imul (by omega)) (AOps.cons rfl rfl (AOp.build (cells := [J 0, J 0, J 0]) rfl tz_23 pl_23 rfl rfl ?_)))
 refine AOps.cons rfl rfl (AOp.fieldAddr rfl rfl fl_28_0 ?_ (hid := ⟨_, h18⟩))
 refine AOps.cons rfl rfl (AOp.indexAddrA rfl rfl rfl ar_24 (by omega) (by omega) ⟨_, h18⟩ (AOps.cons rfl rfl (AOp.store' (cells' := [J 0, J 0, J 0, J 0, J 0, J 0, J 0, J 0, J 0, J 0, J 0, J 0, J 0, J 0, J 0, J 0, J 0, J 0, J 0, J 0, J 0, J 0, J 0, J 0, J 0, J 0, J 0, J 0, J 0, J 0, J 0, J 0, J 0, J 0, J 0, J 0, J 0, J 0, J 0, J 0, J 0, J 0, J 0, J 0, J 0, J 0, J 0, J 0, J 0, J 1, J 2, J 3, J 0, J 0, J 0, J 0, J 0, J 0, J 0, J 0, J 0, J 0, J 0, J 0, J 0]) (.agg [J 0, J 0, J 0]) rfl rfl ts_23 h18 rfl rfl rfl rfl ?_)))
 intro H23 h24 k25
 have h26 := keep k25 e13 h20
 have m28 := Mono.set m22 z14 k25
 refine AWP.region rfl ?_
 refine AOps.cons rfl rfl (AOp.move _ rfl rfl (AOps.cons rfl rfl (AOp.bin _ rfl rfl rfl (iadd (by omega)) (AOps.cons rfl rfl (AOp.assign _ rfl rfl ?_)))))
 refine AOps.nil ?_
 refine UN.step ?_
 refine AWP.seq ?_
 refine AWP.seq (AWP.region rfl ?_)
 refine AOps.cons rfl rfl (AOp.move _ rfl rfl (AOps.cons rfl rfl (AOp.bin _ rfl rfl rfl rfl ?_)))
 refine AWP.condT rfl (decide_eq_true (by decide)) ?_
 refine AWP.skip ?_
 refine AWP.seq ?_
 refine AWP.block ?_
 refine AWP.region rfl ?_
 refine AOps.cons rfl rfl (AOp.move _ rfl rfl (AOps.cons rfl rfl (AOp.move _ rfl rfl (AOps.cons rfl rfl (AOp.remP rfl rfl rfl (by omega) (by omega) (AOps.cons rfl rfl (AOp.bin _ rfl rfl rfl (imul (by omega)) (AOps.cons rfl rfl (AOp.move _ rfl rfl (AOps.cons rfl rfl (AOp.quoP rfl rfl rfl (by omega) ?_)))))))))))
 refine AOps.cons rfl rfl (AOp.bin _ rfl rfl rfl (imul (by omega)) (AOps.cons rfl rfl (AOp.build (cells := [J 3, J 0, J 0]) rfl tz_23 pl_23 rfl rfl ?_)))
 refine AOps.cons rfl rfl (AOp.fieldAddr rfl rfl fl_28_0 ?_ (hid := ⟨_, h24⟩))
 refine AOps.cons rfl rfl (AOp.indexAddrA rfl rfl rfl ar_24 (by omega) (by omega) ⟨_, h24⟩ (AOps.cons rfl rfl (AOp.store' (cells' := [J 0, J 0, J 0, J 3, J 0, J 0, J 0, J 0, J 0, J 0, J 0, J 0, J 0, J 0, J 0, J 0, J 0, J 0, J 0, J 0, J 0, J 0, J 0, J 0, J 0, J 0, J 0, J 0, J 0, J 0, J 0, J 0, J 0, J 0, J 0, J 0, J 0, J 0, J 0, J 0, J 0, J 0, J 0, J 0, J 0, J 0, J 0, J 0, J 0, J 1, J 2, J 3, J 0, J 0, J 0, J 0, J 0, J 0, J 0, J 0, J 0, J 0, J 0, J 0, J 0]) (.agg [J 3, J 0, J 0]) rfl rfl ts_23 h24 rfl rfl rfl rfl ?_)))
 intro H29 h30 k31
 have h32 := keep k31 e13 h26
 have m34 := Mono.set m28 z14 k31
 refine AWP.region rfl ?_
 refine AOps.cons rfl rfl (AOp.move _ rfl rfl (AOps.cons rfl rfl (AOp.bin _ rfl rfl rfl (iadd (by omega)) (AOps.cons rfl rfl (AOp.assign _ rfl rfl ?_)))))
 refine AOps.nil ?_
 refine UN.step ?_
 refine AWP.seq ?_
 refine AWP.seq (AWP.region rfl ?_)
 refine AOps.cons rfl rfl (AOp.move _ rfl rfl (AOps.cons rfl rfl (AOp.bin _ rfl rfl rfl rfl ?_)))
 refine AWP.condT rfl (decide_eq_true (by decide)) ?_
 refine AWP.skip ?_
 refine AWP.seq ?_
 refine AWP.block ?_
 refine AWP.region rfl ?_
 refine AOps.cons rfl rfl (AOp.move _ rfl rfl (AOps.cons rfl rfl (AOp.move _ rfl rfl (AOps.cons rfl rfl (AOp.remP rfl rfl rfl (by omega) (by omega) (AOps.cons rfl rfl (AOp.bin _ rfl rfl rfl (imul (by omega)) (AOps.cons rfl rfl (AOp.move _ rfl rfl (AOps.cons rfl rfl (AOp.quoP rfl rfl rfl (by omega) ?_)))))))))))
 refine AOps.cons rfl rfl (AOp.bin _ rfl rfl rfl (imul (by omega)) (AOps.cons rfl rfl (AOp.build (cells := [J 6, J 0, J 0]) rfl tz_23 pl_23 rfl rfl ?_)))
 refine AOps.cons rfl rfl (AOp.fieldAddr rfl rfl fl_28_0 ?_ (hid := ⟨_, h30⟩))
 refine AOps.cons rfl rfl (AOp.indexAddrA rfl rfl rfl ar_24 (by omega) (by omega) ⟨_, h30⟩ (AOps.cons rfl rfl (AOp.store' (cells' := [J 0, J 0, J 0, J 3, J 0, J 0, J 6, J 0, J 0, J 0, J 0, J 0, J 0, J 0, J 0, J 0, J 0, J 0, J 0, J 0, J 0, J 0, J 0, J 0, J 0, J 0, J 0, J 0, J 0, J 0, J 0, J 0, J 0, J 0, J 0, J 0, J 0, J 0, J 0, J 0, J 0, J 0, J 0, J 0, J 0, J 0, J 0, J 0, J 0, J 1, J 2, J 3, J 0, J 0, J 0, J 0, J 0, J 0, J 0, J 0, J 0, J 0, J 0, J 0, J 0]) (.agg [J 6, J 0, J 0]) rfl rfl ts_23 h30 rfl rfl rfl rfl ?_)))
 intro H35 h36 k37
 have h38 := keep k37 e13 h32
 have m40 := Mono.set m34 z14 k37
 refine AWP.region rfl ?_
 refine AOps.cons rfl rfl (AOp.move _ rfl rfl (AOps.cons rfl rfl (AOp.bin _ rfl rfl rfl (iadd (by omega)) (AOps.cons rfl rfl (AOp.assign _ rfl rfl ?_)))))
 refine AOps.nil ?_
 refine UN.step ?_
 refine AWP.seq ?_
 refine AWP.seq (AWP.region rfl ?_)
 refine AOps.cons rfl rfl (AOp.move _ rfl rfl (AOps.cons rfl rfl (AOp.bin _ rfl rfl rfl rfl ?_)))
 refine AWP.condT rfl (decide_eq_true (by decide)) ?_
 refine AWP.skip ?_
 refine AWP.seq ?_
 refine AWP.block ?_
 refine AWP.region rfl ?_
 refine AOps.cons rfl rfl (AOp.move _ rfl rfl (AOps.cons rfl rfl (AOp.move _ rfl rfl (AOps.cons rfl rfl (AOp.remP rfl rfl rfl (by omega) (by omega) (AOps.cons rfl rfl (AOp.bin _ rfl rfl rfl (imul (by omega)) (AOps.cons rfl rfl (AOp.move _ rfl rfl (AOps.cons rfl rfl (AOp.quoP rfl rfl rfl (by omega) ?_)))))))))))
 refine AOps.cons rfl rfl (AOp.bin _ rfl rfl rfl (imul (by omega)) (AOps.cons rfl rfl (AOp.build (cells := [J 9, J 0, J 0]) rfl tz_23 pl_23 rfl rfl ?_)))
 refine AOps.cons rfl rfl (AOp.fieldAddr rfl rfl fl_28_0 ?_ (hid := ⟨_, h36⟩))
 refine AOps.cons rfl rfl (AOp.indexAddrA rfl rfl rfl ar_24 (by omega) (by omega) ⟨_, h36⟩ (AOps.cons rfl rfl (AOp.store' (cells' := [J 0, J 0, J 0, J 3, J 0, J 0, J 6, J 0, J 0, J 9, J 0, J 0, J 0, J 0, J 0, J 0, J 0, J 0, J 0, J 0, J 0, J 0, J 0, J 0, J 0, J 0, J 0, J 0, J 0, J 0, J 0, J 0, J 0, J 0, J 0, J 0, J 0, J 0, J 0, J 0, J 0, J 0, J 0, J 0, J 0, J 0, J 0, J 0, J 0, J 1, J 2, J 3, J 0, J 0, J 0, J 0, J 0, J 0, J 0, J 0, J 0, J 0, J 0, J 0, J 0]) (.agg [J 9, J 0, J 0]) rfl rfl ts_23 h36 rfl rfl rfl rfl ?_)))
 intro H41 h42 k43
 have h44 := keep k43 e13 h38
 have m46 := Mono.set m40 z14 k43
 refine AWP.region rfl ?_
 refine AOps.cons rfl rfl (AOp.move _ rfl rfl (AOps.cons rfl rfl (AOp.bin _ rfl rfl rfl (iadd (by omega)) (AOps.cons rfl rfl (AOp.assign _ rfl rfl ?_)))))
 refine AOps.nil ?_
 refine UN.step ?_
 refine AWP.seq ?_
 refine AWP.seq (AWP.region rfl ?_)
 refine AOps.cons rfl rfl (AOp.move _ rfl rfl (AOps.cons rfl rfl (AOp.bin _ rfl rfl rfl rfl ?_)))
 refine AWP.condT rfl (decide_eq_true (by decide)) ?_
 refine AWP.skip ?_
 refine AWP.seq ?_
 refine AWP.block ?_
 refine AWP.region rfl ?_
 refine AOps.cons rfl rfl (AOp.move _ rfl rfl (AOps.cons rfl rfl (AOp.move _ rfl rfl (AOps.cons rfl rfl (AOp.remP rfl rfl rfl (by omega) (by omega) (AOps.cons rfl rfl (AOp.bin _ rfl rfl rfl (imul (by omega)) (AOps.cons rfl rfl (AOp.move _ rfl rfl (AOps.cons rfl rfl (AOp.quoP rfl rfl rfl (by omega) ?_)))))))))))
 refine AOps.cons rfl rfl (AOp.bin _ rfl rfl rfl (imul (by omega)) (AOps.cons rfl rfl (AOp.build (cells := [J 0, J 3, J 0]) rfl tz_23 pl_23 rfl rfl ?_)))
 refine AOps.cons rfl rfl (AOp.fieldAddr rfl rfl fl_28_0 ?_ (hid := ⟨_, h42⟩))
 refine AOps.cons rfl rfl (AOp.indexAddrA rfl rfl rfl ar_24 (by omega) (by omega) ⟨_, h42⟩ (AOps.cons rfl rfl (AOp.store' (cells' := [J 0, J 0, J 0, J 3, J 0, J 0, J 6, J 0, J 0, J 9, J 0, J 0, J 0, J 3, J 0, J 0, J 0, J 0, J 0, J 0, J 0, J 0, J 0, J 0, J 0, J 0, J 0, J 0, J 0, J 0, J 0, J 0, J 0, J 0, J 0, J 0, J 0, J 0, J 0, J 0, J 0, J 0, J 0, J 0, J 0, J 0, J 0, J 0, J 0, J 1, J 2, J 3, J 0, J 0, J 0, J 0, J 0, J 0, J 0, J 0, J 0, J 0, J 0, J 0, J 0]) (.agg [J 0, J 3, J 0]) rfl rfl ts_23 h42 rfl rfl rfl rfl ?_)))
 intro H47 h48 k49
 have h50 := keep k49 e13 h44
 have m52 := Mono.set m46 z14 k49
 refine AWP.region rfl ?_
 refine AOps.cons rfl rfl (AOp.move _ rfl rfl (AOps.cons rfl rfl (AOp.bin _ rfl rfl rfl (iadd (by omega)) (AOps.cons rfl rfl (AOp.assign _ rfl rfl ?_)))))
 refine AOps.nil ?_
 refine UN.step ?_
 refine AWP.seq ?_
 refine AWP.seq (AWP.region rfl ?_)
 refine AOps.cons rfl rfl (AOp.move _ rfl rfl (AOps.cons rfl rfl (AOp.bin _ rfl rfl rfl rfl ?_)))
 refine AWP.condT rfl (decide_eq_true (by decide)) ?_
 refine AWP.skip ?_
 refine AWP.seq ?_
 refine AWP.block ?_
 refine AWP.region rfl ?_
 refine AOps.cons rfl rfl (AOp.move _ rfl rfl (AOps.cons rfl rfl (AOp.move _ rfl rfl (AOps.cons rfl rfl (AOp.remP rfl rfl rfl (by omega) (by omega) (AOps.cons rfl rfl (AOp.bin _ rfl rfl rfl (imul (by omega)) (AOps.cons rfl rfl (AOp.move _ rfl rfl (AOps.cons rfl rfl (AOp.quoP rfl rfl rfl (by omega) ?_)))))))))))
 refine AOps.cons rfl rfl (AOp.bin _ rfl rfl rfl (imul (by omega)) (AOps.cons rfl rfl (AOp.build (cells := [J 3, J 3, J 0]) rfl tz_23 pl_23 rfl rfl ?_)))
 refine AOps.cons rfl rfl (AOp.fieldAddr rfl rfl fl_28_0 ?_ (hid := ⟨_, h48⟩))
 refine AOps.cons rfl rfl (AOp.indexAddrA rfl rfl rfl ar_24 (by omega) (by omega) ⟨_, h48⟩ (AOps.cons rfl rfl (AOp.store' (cells' := [J 0, J 0, J 0, J 3, J 0, J 0, J 6, J 0, J 0, J 9, J 0, J 0, J 0, J 3, J 0, J 3, J 3, J 0, J 0, J 0, J 0, J 0, J 0, J 0, J 0, J 0, J 0, J 0, J 0, J 0, J 0, J 0, J 0, J 0, J 0, J 0, J 0, J 0, J 0, J 0, J 0, J 0, J 0, J 0, J 0, J 0, J 0, J 0, J 0, J 1, J 2, J 3, J 0, J 0, J 0, J 0, J 0, J 0, J 0, J 0, J 0, J 0, J 0, J 0, J 0]) (.agg [J 3, J 3, J 0]) rfl rfl ts_23 h48 rfl rfl rfl rfl ?_)))
 intro H53 h54 k55
 have h56 := keep k55 e13 h50
 have m58 := Mono.set m52 z14 k55
 refine AWP.region rfl ?_
 refine AOps.cons rfl rfl (AOp.move _ rfl rfl (AOps.cons rfl rfl (AOp.bin _ rfl rfl rfl (iadd (by omega)) (AOps.cons rfl rfl (AOp.assign _ rfl rfl ?_)))))
 refine AOps.nil ?_
 refine UN.step ?_
 refine AWP.seq ?_
 refine AWP.seq (AWP.region rfl ?_)
 refine AOps.cons rfl rfl (AOp.move _ rfl rfl (AOps.cons rfl rfl (AOp.bin _ rfl rfl rfl rfl ?_)))
 refine AWP.condT rfl (decide_eq_true (by decide)) ?_
 refine AWP.skip ?_
 refine AWP.seq ?_
 refine AWP.block ?_
 refine AWP.region rfl ?_
 refine AOps.cons rfl rfl (AOp.move _ rfl rfl (AOps.cons rfl rfl (AOp.move _ rfl rfl (AOps.cons rfl rfl (AOp.remP rfl rfl rfl (by omega) (by omega) (AOps.cons rfl rfl (AOp.bin _ rfl rfl rfl (imul (by omega)) (AOps.cons rfl rfl (AOp.move _ rfl rfl (AOps.cons rfl rfl (AOp.quoP rfl rfl rfl (by omega) ?_)))))))))))
 refine AOps.cons rfl rfl (AOp.bin _ rfl rfl rfl (imul (by omega)) (AOps.cons rfl rfl (AOp.build (cells := [J 6, J 3, J 0]) rfl tz_23 pl_23 rfl rfl ?_)))
 refine AOps.cons rfl rfl (AOp.fieldAddr rfl rfl fl_28_0 ?_ (hid := ⟨_, h54⟩))
 refine AOps.cons rfl rfl (AOp.indexAddrA rfl rfl rfl ar_24 (by omega) (by omega) ⟨_, h54⟩ (AOps.cons rfl rfl (AOp.store' (cells' := [J 0, J 0, J 0, J 3, J 0, J 0, J 6, J 0, J 0, J 9, J 0, J 0, J 0, J 3, J 0, J 3, J 3, J 0, J 6, J 3, J 0, J 0, J 0, J 0, J 0, J 0, J 0, J 0, J 0, J 0, J 0, J 0, J 0, J 0, J 0, J 0, J 0, J 0, J 0, J 0, J 0, J 0, J 0, J 0, J 0, J 0, J 0, J 0, J 0, J 1, J 2, J 3, J 0, J 0, J 0, J 0, J 0, J 0, J 0, J 0, J 0, J 0, J 0, J 0, J 0]) (.agg [J 6, J 3, J 0]) rfl rfl ts_23 h54 rfl rfl rfl rfl ?_)))
 intro H59 h60 k61
 have h62 := keep k61 e13 h56
 have m64 := Mono.set m58 z14 k61
 refine AWP.region rfl ?_
 refine AOps.cons rfl rfl (AOp.move _ rfl rfl (AOps.cons rfl rfl (AOp.bin _ rfl rfl rfl (iadd (by omega)) (AOps.cons rfl rfl (AOp.assign _ rfl rfl ?_)))))
 refine AOps.nil ?_
 refine UN.step ?_
 refine AWP.seq ?_
 refine AWP.seq (AWP.region rfl ?_)
 refine AOps.cons rfl rfl (AOp.move _ rfl rfl (AOps.cons rfl rfl (AOp.bin _ rfl rfl rfl rfl ?_)))
 refine AWP.condT rfl (decide_eq_true (by decide)) ?_
 refine AWP.skip ?_
 refine AWP.seq ?_
 refine AWP.block ?_
 refine AWP.region rfl ?_
 refine AOps.cons rfl rfl (AOp.move _ rfl rfl (AOps.cons rfl rfl (AOp.move _ rfl rfl (AOps.cons rfl rfl (AOp.remP rfl rfl rfl (by omega) (by omega) (AOps.cons rfl rfl (AOp.bin _ rfl rfl rfl (imul (by omega)) (AOps.cons rfl rfl (AOp.move _ rfl rfl (AOps.cons rfl rfl (AOp.quoP rfl rfl rfl (by omega) ?_)))))))))))
 refine AOps.cons rfl rfl (AOp.bin _ rfl rfl rfl (imul (by omega)) (AOps.cons rfl rfl (AOp.build (cells := [J 9, J 3, J 0]) rfl tz_23 pl_23 rfl rfl ?_)))
 refine AOps.cons rfl rfl (AOp.fieldAddr rfl rfl fl_28_0 ?_ (hid := ⟨_, h60⟩))
 refine AOps.cons rfl rfl (AOp.indexAddrA rfl rfl rfl ar_24 (by omega) (by omega) ⟨_, h60⟩ (AOps.cons rfl rfl (AOp.store' (cells' := [J 0, J 0, J 0, J 3, J 0, J 0, J 6, J 0, J 0, J 9, J 0, J 0, J 0, J 3, J 0, J 3, J 3, J 0, J 6, J 3, J 0, J 9, J 3, J 0, J 0, J 0, J 0, J 0, J 0, J 0, J 0, J 0, J 0, J 0, J 0, J 0, J 0, J 0, J 0, J 0, J 0, J 0, J 0, J 0, J 0, J 0, J 0, J 0, J 0, J 1, J 2, J 3, J 0, J 0, J 0, J 0, J 0, J 0, J 0, J 0, J 0, J 0, J 0, J 0, J 0]) (.agg [J 9, J 3, J 0]) rfl rfl ts_23 h60 rfl rfl rfl rfl ?_)))
 intro H65 h66 k67
 have h68 := keep k67 e13 h62
 have m70 := Mono.set m64 z14 k67
 refine AWP.region rfl ?_
 refine AOps.cons rfl rfl (AOp.move _ rfl rfl (AOps.cons rfl rfl (AOp.bin _ rfl rfl rfl (iadd (by omega)) (AOps.cons rfl rfl (AOp.assign _ rfl rfl ?_)))))
 refine AOps.nil ?_
 refine UN.step ?_
 refine AWP.seq ?_
 refine AWP.seq (AWP.region rfl ?_)
 refine AOps.cons rfl rfl (AOp.move _ rfl rfl (AOps.cons rfl rfl (AOp.bin _ rfl rfl rfl rfl ?_)))
 refine AWP.condT rfl (decide_eq_true (by decide)) ?_
 refine AWP.skip ?_
 refine AWP.seq ?_
 refine AWP.block ?_
 refine AWP.region rfl ?_
 refine AOps.cons rfl rfl (AOp.move _ rfl rfl (AOps.cons rfl rfl (AOp.move _ rfl rfl (AOps.cons rfl rfl (AOp.remP rfl rfl rfl (by omega) (by omega) (AOps.cons rfl rfl (AOp.bin _ rfl rfl rfl (imul (by omega)) (AOps.cons rfl rfl (AOp.move _ rfl rfl (AOps.cons rfl rfl (AOp.quoP rfl rfl rfl (by omega) ?_)))))))))))
 refine AOps.cons rfl rfl (AOp.bin _ rfl rfl rfl (imul (by omega)) (AOps.cons rfl rfl (AOp.build (cells := [J 0, J 6, J 0]) rfl tz_23 pl_23 rfl rfl ?_)))
 refine AOps.cons rfl rfl (AOp.fieldAddr rfl rfl fl_28_0 ?_ (hid := ⟨_, h66⟩))
 refine AOps.cons rfl rfl (AOp.indexAddrA rfl rfl rfl ar_24 (by omega) (by omega) ⟨_, h66⟩ (AOps.cons rfl rfl (AOp.store' (cells' := [J 0, J 0, J 0, J 3, J 0, J 0, J 6, J 0, J 0, J 9, J 0, J 0, J 0, J 3, J 0, J 3, J 3, J 0, J 6, J 3, J 0, J 9, J 3, J 0, J 0, J 6, J 0, J 0, J 0, J 0, J 0, J 0, J 0, J 0, J 0, J 0, J 0, J 0, J 0, J 0, J 0, J 0, J 0, J 0, J 0, J 0, J 0, J 0, J 0, J 1, J 2, J 3, J 0, J 0, J 0, J 0, J 0, J 0, J 0, J 0, J 0, J 0, J 0, J 0, J 0]) (.agg [J 0, J 6, J 0]) rfl rfl ts_23 h66 rfl rfl rfl rfl ?_)))
 intro H71 h72 k73
 have h74 := keep k73 e13 h68
 have m76 := Mono.set m70 z14 k73
 refine AWP.region rfl ?_
 refine AOps.cons rfl rfl (AOp.move _ rfl rfl (AOps.cons rfl rfl (AOp.bin _ rfl rfl rfl (iadd (by omega)) (AOps.cons rfl rfl (AOp.assign _ rfl rfl ?_)))))
 refine AOps.nil ?_
 refine UN.step ?_
 refine AWP.seq ?_
 refine AWP.seq (AWP.region rfl ?_)
 refine AOps.cons rfl rfl (AOp.move _ rfl rfl (AOps.cons rfl rfl (AOp.bin _ rfl rfl rfl rfl ?_)))
 refine AWP.condT rfl (decide_eq_true (by decide)) ?_
 refine AWP.skip ?_
 refine AWP.seq ?_
 refine AWP.block ?_
 refine AWP.region rfl ?_
 refine AOps.cons rfl rfl (AOp.move _ rfl rfl (AOps.cons rfl rfl (AOp.move _ rfl rfl (AOps.cons rfl rfl (AOp.remP rfl rfl rfl (by omega) (by omega) (AOps.cons rfl rfl (AOp.bin _ rfl rfl rfl (imul (by omega)) (AOps.cons rfl rfl (AOp.move _ rfl rfl (AOps.cons rfl rfl (AOp.quoP rfl rfl rfl (by omega) ?_)))))))))))
 refine AOps.cons rfl rfl (AOp.bin _ rfl rfl rfl (imul (by omega)) (AOps.cons rfl rfl (AOp.build (cells := [J 3, J 6, J 0]) rfl tz_23 pl_23 rfl rfl ?_)))
 refine AOps.cons rfl rfl (AOp.fieldAddr rfl rfl fl_28_0 ?_ (hid := ⟨_, h72⟩))
 refine AOps.cons rfl rfl (AOp.indexAddrA rfl rfl rfl ar_24 (by omega) (by omega) ⟨_, h72⟩ (AOps.cons rfl rfl (AOp.store' (cells' := [J 0, J 0, J 0, J 3, J 0, J 0, J 6, J 0, J 0, J 9, J 0, J 0, J 0, J 3, J 0, J 3, J 3, J 0, J 6, J 3, J 0, J 9, J 3, J 0, J 0, J 6, J 0, J 3, J 6, J 0, J 0, J 0, J 0, J 0, J 0, J 0, J 0, J 0, J 0, J 0, J 0, J 0, J 0, J 0, J 0, J 0, J 0, J 0, J 0, J 1, J 2, J 3, J 0, J 0, J 0, J 0, J 0, J 0, J 0, J 0, J 0, J 0, J 0, J 0, J 0]) (.agg [J 3, J 6, J 0]) rfl rfl ts_23 h72 rfl rfl rfl rfl ?_)))
 intro H77 h78 k79
 have h80 := keep k79 e13 h74
 have m82 := Mono.set m76 z14 k79
 refine AWP.region rfl ?_
 refine AOps.cons rfl rfl (AOp.move _ rfl rfl (AOps.cons rfl rfl (AOp.bin _ rfl rfl rfl (iadd (by omega)) (AOps.cons rfl rfl (AOp.assign _ rfl rfl ?_)))))
 refine AOps.nil ?_
 refine UN.step ?_
 refine AWP.seq ?_
 refine AWP.seq (AWP.region rfl ?_)
 refine AOps.cons rfl rfl (AOp.move _ rfl rfl (AOps.cons rfl rfl (AOp.bin _ rfl rfl rfl rfl ?_)))
 refine AWP.condT rfl (decide_eq_true (by decide)) ?_
 refine AWP.skip ?_
 refine AWP.seq ?_
 refine AWP.block ?_
 refine AWP.region rfl ?_
 refine AOps.cons rfl rfl (AOp.move _ rfl rfl (AOps.cons rfl rfl (AOp.move _ rfl rfl (AOps.cons rfl rfl (AOp.remP rfl rfl rfl (by omega) (by omega) (AOps.cons rfl rfl (AOp.bin _ rfl rfl rfl (imul (by omega)) (AOps.cons rfl rfl (AOp.move _ rfl rfl (AOps.cons rfl rfl (AOp.quoP rfl rfl rfl (by omega) ?_)))))))))))
 refine AOps.cons rfl rfl (AOp.bin _ rfl rfl rfl (imul (by omega)) (AOps.cons rfl rfl (AOp.build (cells := [J 6, J 6, J 0]) rfl tz_23 pl_23 rfl rfl ?_)))
 refine AOps.cons rfl rfl (AOp.fieldAddr rfl rfl fl_28_0 ?_ (hid := ⟨_, h78⟩))
 refine AOps.cons rfl rfl (AOp.indexAddrA rfl rfl rfl ar_24 (by omega) (by omega) ⟨_, h78⟩ (AOps.cons rfl rfl (AOp.store' (cells' := [J 0, J 0, J 0, J 3, J 0, J 0, J 6, J 0, J 0, J 9, J 0, J 0, J 0, J 3, J 0, J 3, J 3, J 0, J 6, J 3, J 0, J 9, J 3, J 0, J 0, J 6, J 0, J 3, J 6, J 0, J 6, J 6, J 0, J 0, J 0, J 0, J 0, J 0, J 0, J 0, J 0, J 0, J 0, J 0, J 0, J 0, J 0, J 0, J 0, J 1, J 2, J 3, J 0, J 0, J 0, J 0, J 0, J 0, J 0, J 0, J 0, J 0, J 0, J 0, J 0]) (.agg [J 6, J 6, J 0]) rfl rfl ts_23 h78 rfl rfl rfl rfl ?_)))
 intro H83 h84 k85
 have h86 := keep k85 e13 h80
 have m88 := Mono.set m82 z14 k85
 refine AWP.region rfl ?_
 refine AOps.cons rfl rfl (AOp.move _ rfl rfl (AOps.cons rfl rfl (AOp.bin _ rfl rfl rfl (iadd (by omega)) (AOps.cons rfl rfl (AOp.assign _ rfl rfl ?_)))))
 refine AOps.nil ?_
 refine UN.step ?_
 refine AWP.seq ?_
 refine AWP.seq (AWP.region rfl ?_)
 refine AOps.cons rfl rfl (AOp.move _ rfl rfl (AOps.cons rfl rfl (AOp.bin _ rfl rfl rfl rfl ?_)))
 refine AWP.condT rfl (decide_eq_true (by decide)) ?_
 refine AWP.skip ?_
 refine AWP.seq ?_
 refine AWP.block ?_
 refine AWP.region rfl ?_
 refine AOps.cons rfl rfl (AOp.move _ rfl rfl (AOps.cons rfl rfl (AOp.move _ rfl rfl (AOps.cons rfl rfl (AOp.remP rfl rfl rfl (by omega) (by omega) (AOps.cons rfl rfl (AOp.bin _ rfl rfl rfl (imul (by omega)) (AOps.cons rfl rfl (AOp.move _ rfl rfl (AOps.cons rfl rfl (AOp.quoP rfl rfl rfl (by omega) ?_)))))))))))
 refine AOps.cons rfl rfl (AOp.bin _ rfl rfl rfl (imul (by omega)) (AOps.cons rfl rfl (AOp.build (cells := [J 9, J 6, J 0]) rfl tz_23 pl_23 rfl rfl ?_)))
 refine AOps.cons rfl rfl (AOp.fieldAddr rfl rfl fl_28_0 ?_ (hid := ⟨_, h84⟩))
 refine AOps.cons rfl rfl (AOp.indexAddrA rfl rfl rfl ar_24 (by omega) (by omega) ⟨_, h84⟩ (AOps.cons rfl rfl (AOp.store' (cells' := [J 0, J 0, J 0, J 3, J 0, J 0, J 6, J 0, J 0, J 9, J 0, J 0, J 0, J 3, J 0, J 3, J 3, J 0, J 6, J 3, J 0, J 9, J 3, J 0, J 0, J 6, J 0, J 3, J 6, J 0, J 6, J 6, J 0, J 9, J 6, J 0, J 0, J 0, J 0, J 0, J 0, J 0, J 0, J 0, J 0, J 0, J 0, J 0, J 0, J 1, J 2, J 3, J 0, J 0, J 0, J 0, J 0, J 0, J 0, J 0, J 0, J 0, J 0, J 0, J 0]) (.agg [J 9, J 6, J 0]) rfl rfl ts_23 h84 rfl rfl rfl rfl ?_)))
 intro H89 h90 k91
 have h92 := keep k91 e13 h86
 have m94 := Mono.set m88 z14 k91
 refine AWP.region rfl ?_
 refine AOps.cons rfl rfl (AOp.move _ rfl rfl (AOps.cons rfl rfl (AOp.bin _ rfl rfl rfl (iadd (by omega)) (AOps.cons rfl rfl (AOp.assign _ rfl rfl ?_)))))
 refine AOps.nil ?_
 refine UN.step ?_
 refine AWP.seq ?_
 refine AWP.seq (AWP.region rfl ?_)
 refine AOps.cons rfl rfl (AOp.move _ rfl rfl (AOps.cons rfl rfl (AOp.bin _ rfl rfl rfl rfl ?_)))
 refine AWP.condT rfl (decide_eq_true (by decide)) ?_
 refine AWP.skip ?_
 refine AWP.seq ?_
 refine AWP.block ?_
 refine AWP.region rfl ?_
 refine AOps.cons rfl rfl (AOp.move _ rfl rfl (AOps.cons rfl rfl (AOp.move _ rfl rfl (AOps.cons rfl rfl (AOp.remP rfl rfl rfl (by omega) (by omega) (AOps.cons rfl rfl (AOp.bin _ rfl rfl rfl (imul (by omega)) (AOps.cons rfl rfl (AOp.move _ rfl rfl (AOps.cons rfl rfl (AOp.quoP rfl rfl rfl (by omega) ?_)))))))))))
 refine AOps.cons rfl rfl (AOp.bin _ rfl rfl rfl (imul (by omega)) (AOps.cons rfl rfl (AOp.build (cells := [J 0, J 9, J 0]) rfl tz_23 pl_23 rfl rfl ?_)))
 refine AOps.cons rfl rfl (AOp.fieldAddr rfl rfl fl_28_0 ?_ (hid := ⟨_, h90⟩))
 refine AOps.cons rfl rfl (AOp.indexAddrA rfl rfl rfl ar_24 (by omega) (by omega) ⟨_, h90⟩ (AOps.cons rfl rfl (AOp.store' (cells' := [J 0, J 0, J 0, J 3, J 0, J 0, J 6, J 0, J 0, J 9, J 0, J 0, J 0, J 3, J 0, J 3, J 3, J 0, J 6, J 3, J 0, J 9, J 3, J 0, J 0, J 6, J 0, J 3, J 6, J 0, J 6, J 6, J 0, J 9, J 6, J 0, J 0, J 9, J 0, J 0, J 0, J 0, J 0, J 0, J 0, J 0, J 0, J 0, J 0, J 1, J 2, J 3, J 0, J 0, J 0, J 0, J 0, J 0, J 0, J 0, J 0, J 0, J 0, J 0, J 0]) (.agg [J 0, J 9, J 0]) rfl rfl ts_23 h90 rfl rfl rfl rfl ?_)))
 intro H95 h96 k97
 have h98 := keep k97 e13 h92
 have m100 := Mono.set m94 z14 k97
 refine AWP.region rfl ?_
 refine AOps.cons rfl rfl (AOp.move _ rfl rfl (AOps.cons rfl rfl (AOp.bin _ rfl rfl rfl (iadd (by omega)) (AOps.cons rfl rfl (AOp.assign _ rfl rfl ?_)))))
 refine AOps.nil ?_
 refine UN.step ?_
 refine AWP.seq ?_
 refine AWP.seq (AWP.region rfl ?_)
 refine AOps.cons rfl rfl (AOp.move _ rfl rfl (AOps.cons rfl rfl (AOp.bin _ rfl rfl rfl rfl ?_)))
 refine AWP.condT rfl (decide_eq_true (by decide)) ?_
 refine AWP.skip ?_
 refine AWP.seq ?_
 refine AWP.block ?_
 refine AWP.region rfl ?_
 refine AOps.cons rfl rfl (AOp.move _ rfl rfl (AOps.cons rfl rfl (AOp.move _ rfl rfl (AOps.cons rfl rfl (AOp.remP rfl rfl rfl (by omega) (by omega) (AOps.cons rfl rfl (AOp.bin _ rfl rfl rfl (imul (by omega)) (AOps.cons rfl rfl (AOp.move _ rfl rfl (AOps.cons rfl rfl (AOp.quoP rfl rfl rfl (by omega) ?_)))))))))))
 refine AOps.cons rfl rfl (AOp.bin _ rfl rfl rfl (imul (by omega)) (AOps.cons rfl rfl (AOp.build (cells := [J 3, J 9, J 0]) rfl tz_23 pl_23 rfl rfl ?_)))
 refine AOps.cons rfl rfl (AOp.fieldAddr rfl rfl fl_28_0 ?_ (hid := ⟨_, h96⟩))
 refine AOps.cons rfl rfl (AOp.indexAddrA rfl rfl rfl ar_24 (by omega) (by omega) ⟨_, h96⟩ (AOps.cons rfl rfl (AOp.store' (cells' := [J 0, J 0, J 0, J 3, J 0, J 0, J 6, J 0, J 0, J 9, J 0, J 0, J 0, J 3, J 0, J 3, J 3, J 0, J 6, J 3, J 0, J 9, J 3, J 0, J 0, J 6, J 0, J 3, J 6, J 0, J 6, J 6, J 0, J 9, J 6, J 0, J 0, J 9, J 0, J 3, J 9, J 0, J 0, J 0, J 0, J 0, J 0, J 0, J 0, J 1, J 2, J 3, J 0, J 0, J 0, J 0, J 0, J 0, J 0, J 0, J 0, J 0, J 0, J 0, J 0]) (.agg [J 3, J 9, J 0]) rfl rfl ts_23 h96 rfl rfl rfl rfl ?_)))
 intro H101 h102 k103
 have h104 := keep k103 e13 h98
 have m106 := Mono.set m100 z14 k103
 refine AWP.region rfl ?_
 refine AOps.cons rfl rfl (AOp.move _ rfl rfl (AOps.cons rfl rfl (AOp.bin _ rfl rfl rfl (iadd (by omega)) (AOps.cons rfl rfl (AOp.assign _ rfl rfl ?_)))))
 refine AOps.nil ?_
 refine UN.step ?_
 refine AWP.seq ?_
 refine AWP.seq (AWP.region rfl ?_)
 refine AOps.cons rfl rfl (AOp.move _ rfl rfl (AOps.cons rfl rfl (AOp.bin _ rfl rfl rfl rfl ?_)))
 refine AWP.condT rfl (decide_eq_true (by decide)) ?_
 refine AWP.skip ?_
 refine AWP.seq ?_
 refine AWP.block ?_
 refine AWP.region rfl ?_
 refine AOps.cons rfl rfl (AOp.move _ rfl rfl (AOps.cons rfl rfl (AOp.move _ rfl rfl (AOps.cons rfl rfl (AOp.remP rfl rfl rfl (by omega) (by omega) (AOps.cons rfl rfl (AOp.bin _ rfl rfl rfl (imul (by omega)) (AOps.cons rfl rfl (AOp.move _ rfl rfl (AOps.cons rfl rfl (AOp.quoP rfl rfl rfl (by omega) ?_)))))))))))
 refine AOps.cons rfl rfl (AOp.bin _ rfl rfl rfl (imul (by omega)) (AOps.cons rfl rfl (AOp.build (cells := [J 6, J 9, J 0]) rfl tz_23 pl_23 rfl rfl ?_)))
 refine AOps.cons rfl rfl (AOp.fieldAddr rfl rfl fl_28_0 ?_ (hid := ⟨_, h102⟩))
 refine AOps.cons rfl rfl (AOp.indexAddrA rfl rfl rfl ar_24 (by omega) (by omega) ⟨_, h102⟩ (AOps.cons rfl rfl (AOp.store' (cells' := [J 0, J 0, J 0, J 3, J 0, J 0, J 6, J 0, J 0, J 9, J 0, J 0, J 0, J 3, J 0, J 3, J 3, J 0, J 6, J 3, J 0, J 9, J 3, J 0, J 0, J 6, J 0, J 3, J 6, J 0, J 6, J 6, J 0, J 9, J 6, J 0, J 0, J 9, J 0, J 3, J 9, J 0, J 6, J 9, J 0, J 0, J 0, J 0, J 0, J 1, J 2, J 3, J 0, J 0, J 0, J 0, J 0, J 0, J 0, J 0, J 0, J 0, J 0, J 0, J 0]) (.agg [J 6, J 9, J 0]) rfl rfl ts_23 h102 rfl rfl rfl rfl ?_)))
 intro H107 h108 k109
 have h110 := keep k109 e13 h104
 have m112 := Mono.set m106 z14 k109
 refine AWP.region rfl ?_
 refine AOps.cons rfl rfl (AOp.move _ rfl rfl (AOps.cons rfl rfl (AOp.bin _ rfl rfl rfl (iadd (by omega)) (AOps.cons rfl rfl (AOp.assign _ rfl rfl ?_)))))
 refine AOps.nil ?_
 refine UN.step ?_
 refine AWP.seq ?_
 refine AWP.seq (AWP.region rfl ?_)
 refine AOps.cons rfl rfl (AOp.move _ rfl rfl (AOps.cons rfl rfl (AOp.bin _ rfl rfl rfl rfl ?_)))
 refine AWP.condT rfl (decide_eq_true (by decide)) ?_
 refine AWP.skip ?_
 refine AWP.seq ?_
 refine AWP.block ?_
 refine AWP.region rfl ?_
 refine AOps.cons rfl rfl (AOp.move _ rfl rfl (AOps.cons rfl rfl (AOp.move _ rfl rfl (AOps.cons rfl rfl (AOp.remP rfl rfl rfl (by omega) (by omega) (AOps.cons rfl rfl (AOp.bin _ rfl rfl rfl (imul (by omega)) (AOps.cons rfl rfl (AOp.move _ rfl rfl (AOps.cons rfl rfl (AOp.quoP rfl rfl rfl (by omega) ?_)))))))))))
 refine AOps.cons rfl rfl (AOp.bin _ rfl rfl rfl (imul (by omega)) (AOps.cons rfl rfl (AOp.build (cells := [J 9, J 9, J 0]) rfl tz_23 pl_23 rfl rfl ?_)))
 refine AOps.cons rfl rfl (AOp.fieldAddr rfl rfl fl_28_0 ?_ (hid := ⟨_, h108⟩))
 refine AOps.cons rfl rfl (AOp.indexAddrA rfl rfl rfl ar_24 (by omega) (by omega) ⟨_, h108⟩ (AOps.cons rfl rfl (AOp.store' (cells' := [J 0, J 0, J 0, J 3, J 0, J 0, J 6, J 0, J 0, J 9, J 0, J 0, J 0, J 3, J 0, J 3, J 3, J 0, J 6, J 3, J 0, J 9, J 3, J 0, J 0, J 6, J 0, J 3, J 6, J 0, J 6, J 6, J 0, J 9, J 6, J 0, J 0, J 9, J 0, J 3, J 9, J 0, J 6, J 9, J 0, J 9, J 9, J 0, J 0, J 1, J 2, J 3, J 0, J 0, J 0, J 0, J 0, J 0, J 0, J 0, J 0, J 0, J 0, J 0, J 0]) (.agg [J 9, J 9, J 0]) rfl rfl ts_23 h108 rfl rfl rfl rfl ?_)))
 intro H113 h114 k115
 have h116 := keep k115 e13 h110
 have m118 := Mono.set m112 z14 k115
 refine AWP.region rfl ?_
 refine AOps.cons rfl rfl (AOp.move _ rfl rfl (AOps.cons rfl rfl (AOp.bin _ rfl rfl rfl (iadd (by omega)) (AOps.cons rfl rfl (AOp.assign _ rfl rfl ?_)))))
 refine AOps.nil ?_
 refine UN.step ?_
 refine AWP.seq ?_
 refine AWP.seq (AWP.region rfl ?_)
 refine AOps.cons rfl rfl (AOp.move _ rfl rfl (AOps.cons rfl rfl (AOp.bin _ rfl rfl rfl rfl ?_)))
 refine AWP.condF rfl (decide_eq_false (by decide)) ?_
 refine AWP.exit ?_
 change AWP _ _ _ _ _ _
 refine AWP.seq (AWP.region rfl ?_)
 refine AOps.cons rfl rfl (AOp.load _ rfl rfl ty_28 h114 rfl (AOps.cons rfl rfl (AOp.store' (cells' := [J 0, J 0, J 0, J 3, J 0, J 0, J 6, J 0, J 0, J 9, J 0, J 0, J 0, J 3, J 0, J 3, J 3, J 0, J 6, J 3, J 0, J 9, J 3, J 0, J 0, J 6, J 0, J 3, J 6, J 0, J 6, J 6, J 0, J 9, J 6, J 0, J 0, J 9, J 0, J 3, J 9, J 0, J 6, J 9, J 0, J 9, J 9, J 0, J 0, J 1, J 2, J 3, J 0, J 0, J 0, J 0, J 0, J 0, J 0, J 0, J 0, J 0, J 0, J 0, J 0]) (.agg [J 0, J 0, J 0, J 3, J 0, J 0, J 6, J 0, J 0, J 9, J 0, J 0, J 0, J 3, J 0, J 3, J 3, J 0, J 6, J 3, J 0, J 9, J 3, J 0, J 0, J 6, J 0, J 3, J 6, J 0, J 6, J 6, J 0, J 9, J 6, J 0, J 0, J 9, J 0, J 3, J 9, J 0, J 6, J 9, J 0, J 9, J 9, J 0, J 0, J 1, J 2, J 3, J 0, J 0, J 0, J 0, J 0, J 0, J 0, J 0, J 0, J 0, J 0, J 0, J 0]) rfl rfl ts_28 h116 rfl rfl rfl rfl ?_)))
 intro H119 h120 k121
 have m124 := Mono.set m118 z6 k121
 refine AWP.ret ?_
 refine ⟨_, _, Ghost.refl, .inr rfl, _, Res.list1 rfl (.cell (v := .agg [J 0, J 0, J 0, J 3, J 0, J 0, J 6, J 0, J 0, J 9, J 0, J 0, J 0, J 3, J 0, J 3, J 3, J 0, J 6, J 3, J 0, J 9, J 3, J 0, J 0, J 6, J 0, J 3, J 6, J 0, J 6, J 6, J 0, J 9, J 6, J 0, J 0, J 9, J 0, J 3, J 9, J 0, J 6, J 9, J 0, J 9, J 9, J 0, J 0, J 1, J 2, J 3, J 0, J 0, J 0, J 0, J 0, J 0, J 0, J 0, J 0, J 0, J 0, J 0, J 0]) rfl ty_28 h120 rfl (.nil)), ?_, m124⟩
 have hR : R_law15_flat = (PatchT.mk ([(VT.mk 0 0 0), (VT.mk 3 0 0), (VT.mk 6 0 0), (VT.mk 9 0 0), (VT.mk 0 3 0), (VT.mk 3 3 0), (VT.mk 6 3 0), (VT.mk 9 3 0), (VT.mk 0 6 0), (VT.mk 3 6 0), (VT.mk 6 6 0), (VT.mk 9 6 0), (VT.mk 0 9 0), (VT.mk 3 9 0), (VT.mk 6 9 0), (VT.mk 9 9 0)]) ([0, 1, 2, 3]) ([(VT.mk 0 0 0), (VT.mk 0 0 0), (VT.mk 0 0 0), (VT.mk 0 0 0)]) 0) := rfl
 exact (congrArg (fun r : PatchT => (.agg (r.aP.flatMap eV ++ (r.aCorners.map eI ++ (r.aNormals.flatMap eV ++ [J r.Skin]))) : AV)) hR).symm
end Go.Proofs.M
namespace Go.Proofs.M
open Go Go.AH
/-! ### The plain laws of a patch's mesh: hulls, rates, lifts -/
abbrev inB (b : BoxT) (v : VT) : Prop := b.Lo.X ≤ v.X ∧ v.X ≤ b.Hi.X ∧ b.Lo.Y ≤ v.Y ∧ v.Y ≤ b.Hi.Y ∧ b.Lo.Z ≤ v.Z ∧ v.Z ≤ b.Hi.Z
theorem fine_pts {p : PatchT} {s : SkinT} (h : R_mesh_fine p s = 0) : 1 ≤ s.Unit ∧ 0 ≤ s.Height ∧ s.Height ≤ 255 ∧ (∀ i : Int, 0 ≤ i → i < 16 → inV 60000 (at_ p.aP i)) ∧ (∀ i : Int, 0 ≤ i → i < 4 → inV 1023 (at_ p.aNormals i)) := by
  obtain ⟨h1, h2, h3, h4, h5⟩ := fine_ok h
  have a := p.lP
  have b := p.lNormals
  exact ⟨h1, h2, h3, fun i i0 i1 => allIn_T.1 h4 i i0 (by omega), fun i i0 i1 => allIn_T.1 h5 i i0 (by omega)⟩
theorem row_all {p : List VT} {Q : VT → Prop} (hp : ∀ i : Int, 0 ≤ i → i < 16 → Q (at_ p i)) {k : Int} (h0 : 0 ≤ k) (h4 : k < 4) : ∀ j : Int, 0 ≤ j → j < 4 → Q (at_ (R_curve_Row p k) j) := by
  rcases (by omega : k = 0 ∨ k = 1 ∨ k = 2 ∨ k = 3) with rfl | rfl | rfl | rfl
  · exact int4 (hp 0 (by omega) (by omega)) (hp 1 (by omega) (by omega)) (hp 2 (by omega) (by omega)) (hp 3 (by omega) (by omega))
  · exact int4 (hp 3 (by omega) (by omega)) (hp 7 (by omega) (by omega)) (hp 11 (by omega) (by omega)) (hp 15 (by omega) (by omega))
  · exact int4 (hp 15 (by omega) (by omega)) (hp 14 (by omega) (by omega)) (hp 13 (by omega) (by omega)) (hp 12 (by omega) (by omega))
  · exact int4 (hp 12 (by omega) (by omega)) (hp 8 (by omega) (by omega)) (hp 4 (by omega) (by omega)) (hp 0 (by omega) (by omega))
theorem len_ok {l : List VT} (hl : ∀ j : Int, 0 ≤ j → j < 4 → inV 65536 (at_ l j)) : (R_rate_Length l).2 = true := by
  unfold R_rate_Length
  rw [if_pos (withinvec_iff.2 (hl 0 (by omega) (by omega))), if_pos (withinvec_iff.2 (hl 1 (by omega) (by omega))), if_pos (withinvec_iff.2 (hl 2 (by omega) (by omega))), if_pos (withinvec_iff.2 (hl 3 (by omega) (by omega)))]
theorem edge_ok {l : List VT} {u : Int} (hl : ∀ j : Int, 0 ≤ j → j < 4 → inV 65536 (at_ l j)) (hu : 1 ≤ u) : R_rate_Edge l u = min (1 + (R_rate_Length l).1 / u) 16 ∧ 1 ≤ R_rate_Edge l u ∧ R_rate_Edge l u ≤ 16 := by
  have h := len_rng_rate l
  have hq := ediv_rng (n := (R_rate_Length l).1) (d := u) h.1 hu
  have e : R_rate_Edge l u = min (1 + (R_rate_Length l).1 / u) 16 := by
    unfold R_rate_Edge; rw [if_pos (len_ok hl), if_neg (by omega)]
  refine ⟨e, ?_, ?_⟩ <;> rw [e] <;> omega
theorem sides_rates {p : List VT} {u : Int} (hp : ∀ i : Int, 0 ≤ i → i < 16 → inV 60000 (at_ p i)) (hu : 1 ≤ u) : rates (R_rate_Sides p u) := by
  have h : ∀ k : Int, 0 ≤ k → k < 4 → 1 ≤ R_rate_Edge (R_curve_Row p k) u ∧ R_rate_Edge (R_curve_Row p k) u ≤ 16 := fun k h0 h4 =>
    (edge_ok (row_all (Q := inV 65536) (fun i i0 i1 => inV_le (hp i i0 i1) (by decide)) h0 h4) hu).2
  exact int4 (h 0 (by omega) (by omega)) (h 1 (by omega) (by omega)) (h 2 (by omega) (by omega)) (h 3 (by omega) (by omega))
/-! ### Rounded sums of weights stay within a box -/
theorem rnd_btw {n d lo hi : Int} (hd : 1 ≤ d) (h1 : lo * d ≤ n) (h2 : n ≤ hi * d) : lo ≤ rnd n d ∧ rnd n d ≤ hi := by
  have g := (rnd_iff (n := n) (q := rnd n d) hd).1 rfl
  have e1 : 2 * d * (rnd n d - hi) < 2 * d * 1 := by
    rw [Int.mul_sub]; have : 2 * d * hi = 2 * (hi * d) := by rw [Int.mul_assoc, Int.mul_comm d hi]
    omega
  have e2 : 2 * d * (-1) < 2 * d * (rnd n d - lo) := by
    rw [Int.mul_sub]; have : 2 * d * lo = 2 * (lo * d) := by rw [Int.mul_assoc, Int.mul_comm d lo]
    omega
  have := Int.lt_of_mul_lt_mul_left e1 (by omega)
  have := Int.lt_of_mul_lt_mul_left e2 (by omega)
  omega
theorem sumV_box {l : List VT} {wt : Int → Int} {b : BoxT} {n : Nat} (hl : ∀ k : Nat, k < n → inB b (at_ l (k : Int))) (hw : ∀ k : Nat, k < n → 0 ≤ wt (k : Int)) :
    b.Lo.X * sumW wt n ≤ (sumV l wt n).X ∧ (sumV l wt n).X ≤ b.Hi.X * sumW wt n ∧ b.Lo.Y * sumW wt n ≤ (sumV l wt n).Y ∧ (sumV l wt n).Y ≤ b.Hi.Y * sumW wt n ∧ b.Lo.Z * sumW wt n ≤ (sumV l wt n).Z ∧ (sumV l wt n).Z ≤ b.Hi.Z * sumW wt n := by
  induction n with
  | zero => simp [sumW, sumV]
  | succ n ih =>
    obtain ⟨a1, a2, a3, a4, a5, a6⟩ := ih (fun k hk => hl k (by omega)) (fun k hk => hw k (by omega))
    obtain ⟨c1, c2, c3, c4, c5, c6⟩ := hl n (by omega)
    have w := hw n (by omega)
    have d1 := Int.mul_le_mul_of_nonneg_right c1 w
    have d2 := Int.mul_le_mul_of_nonneg_right c2 w
    have d3 := Int.mul_le_mul_of_nonneg_right c3 w
    have d4 := Int.mul_le_mul_of_nonneg_right c4 w
    have d5 := Int.mul_le_mul_of_nonneg_right c5 w
    have d6 := Int.mul_le_mul_of_nonneg_right c6 w
    simp only [sumW, sumV, R_vec_Add, R_vec_Scale, Int.mul_add]
    exact ⟨by omega, by omega, by omega, by omega, by omega, by omega⟩
abbrev rndV (v : VT) (d : Int) : VT := VT.mk (rnd v.X d) (rnd v.Y d) (rnd v.Z d)
theorem round_V {v : VT} {d : Int} (h : inV 2305843009213693952 v) (h1 : 1 ≤ d) (hd : d ≤ 2305843009213693952) : VT.mk (R_vec_Round v.X d) (R_vec_Round v.Y d) (R_vec_Round v.Z d) = rndV v d := by
  obtain ⟨a1, a2, a3, a4, a5, a6⟩ := h
  rw [vround_eq ⟨a1, a2⟩ h1 hd, vround_eq ⟨a3, a4⟩ h1 hd, vround_eq ⟨a5, a6⟩ h1 hd]
theorem cube_rng {n : Int} (h1 : 1 ≤ n) (h2 : n ≤ 16) : 1 ≤ n * n * n ∧ n * n * n ≤ 4096 := by
  have a := Int.mul_le_mul h2 h2 (by omega) (by omega)
  have b := Int.mul_le_mul a h2 (by omega) (by omega)
  have c := Int.mul_le_mul h1 h1 (by omega) (by omega)
  have d := Int.mul_le_mul c h1 (by omega) (by omega)
  omega
theorem cubic_eq {p : List VT} (hp : p.length = 4) {i n : Int} (h : 1 ≤ n ∧ n ≤ 16 ∧ 0 ≤ i ∧ i ≤ n) (ha : ∀ j : Int, 0 ≤ j → j < 4 → inV 65536 (at_ p j)) :
    (R_curve_Cubic p i n).1 = rndV (sumV p (fun k => at_ (R_ref11_Weights i n) k) 4) (n * n * n) := by
  have hA : allIn p 65536 = true := allIn_T.2 fun j h0 h1 => ha j h0 (by omega)
  have hw := wts_rng h.2.2.1 h.2.2.2 h.2.1
  have hs := sumV_rng (l := p) (wt := fun k => at_ (R_ref11_Weights i n) k) (B := 12288) (n := 4) (fun k hk => ha k (by omega) (by omega)) (fun k hk => hw k (by omega) (by omega))
  have hc := cube_rng h.1 h.2.1
  unfold R_curve_Cubic
  rw [weights_ok h, if_pos rfl]
  unfold weighR
  rw [if_pos hA, hp, sumW4]
  exact round_V (inV_le hs (by decide)) hc.1 (by omega)
theorem point_eq {p : List VT} (hp : p.length = 16) {i n j m : Int} (h : 1 ≤ n ∧ n ≤ 16 ∧ 0 ≤ i ∧ i ≤ n) (g : 1 ≤ m ∧ m ≤ 16 ∧ 0 ≤ j ∧ j ≤ m) (ha : ∀ j : Int, 0 ≤ j → j < 16 → inV 65536 (at_ p j)) :
    (R_curve_Point p i n j m).1 = rndV (sumV p (fun k => at_ (R_ref11_Weights i n) (k % 4) * at_ (R_ref11_Weights j m) (k / 4)) 16) (n * n * n * m * m * m) ∧ 1 ≤ n * n * n * m * m * m := by
  have hA : allIn p 65536 = true := allIn_T.2 fun j h0 h1 => ha j h0 (by omega)
  have hw := wts_rng h.2.2.1 h.2.2.2 h.2.1
  have hw2 := wts_rng g.2.2.1 g.2.2.2 g.2.1
  have hs := sumV_rng (l := p) (wt := fun k => at_ (R_ref11_Weights i n) (k % 4) * at_ (R_ref11_Weights j m) (k / 4)) (B := 12288 * 12288) (n := 16) (fun k hk => ha k (by omega) (by omega)) (fun k hk => by
          have a := hw ((k : Int) % 4) (by omega) (by omega)
          have b := hw2 ((k : Int) / 4) (by omega) (by omega)
          exact ⟨Int.mul_nonneg a.1 b.1, Int.mul_le_mul a.2 b.2 b.1 (by omega)⟩)
  have hc := cube_rng h.1 h.2.1
  have hd := cube_rng g.1 g.2.1
  have e : n * n * n * m * m * m = n * n * n * (m * m * m) := by grind
  have u := Int.mul_le_mul hc.2 hd.2 (by omega) (by omega)
  have v := Int.mul_le_mul hc.1 hd.1 (by omega) (by omega)
  refine ⟨?_, by rw [e]; omega⟩
  unfold R_curve_Point
  rw [weights_ok h, weights_ok g, if_pos rfl, if_pos rfl]
  unfold weighR
  rw [if_pos hA, hp, sumW16]
  exact round_V (inV_le hs (by decide)) (by rw [e]; omega) (by rw [e]; omega)
theorem cubic_box {p : List VT} (hp : p.length = 4) {i n : Int} {b : BoxT} (h : 1 ≤ n ∧ n ≤ 16 ∧ 0 ≤ i ∧ i ≤ n) (ha : ∀ j : Int, 0 ≤ j → j < 4 → inV 65536 (at_ p j)) (hb : ∀ j : Int, 0 ≤ j → j < 4 → inB b (at_ p j)) : inB b (R_curve_Cubic p i n).1 := by
  have hw := wts_rng h.2.2.1 h.2.2.2 h.2.1
  rw [cubic_eq hp h ha]
  obtain ⟨a1, a2, a3, a4, a5, a6⟩ := sumV_box (l := p) (wt := fun k => at_ (R_ref11_Weights i n) k) (b := b) (n := 4) (fun k hk => hb k (by omega) (by omega)) (fun k hk => (hw k (by omega) (by omega)).1)
  rw [sumW4] at a1 a2 a3 a4 a5 a6
  have hc := cube_rng h.1 h.2.1
  have x := rnd_btw hc.1 a1 a2
  have y := rnd_btw hc.1 a3 a4
  have z := rnd_btw hc.1 a5 a6
  exact ⟨x.1, x.2, y.1, y.2, z.1, z.2⟩
theorem point_box {p : List VT} (hp : p.length = 16) {i n j m : Int} {b : BoxT} (h : 1 ≤ n ∧ n ≤ 16 ∧ 0 ≤ i ∧ i ≤ n) (g : 1 ≤ m ∧ m ≤ 16 ∧ 0 ≤ j ∧ j ≤ m) (ha : ∀ j : Int, 0 ≤ j → j < 16 → inV 65536 (at_ p j)) (hb : ∀ j : Int, 0 ≤ j → j < 16 → inB b (at_ p j)) : inB b (R_curve_Point p i n j m).1 := by
  have hw := wts_rng h.2.2.1 h.2.2.2 h.2.1
  have hw2 := wts_rng g.2.2.1 g.2.2.2 g.2.1
  obtain ⟨e, hc⟩ := point_eq hp h g ha
  rw [e]
  obtain ⟨a1, a2, a3, a4, a5, a6⟩ := sumV_box (l := p) (wt := fun k => at_ (R_ref11_Weights i n) (k % 4) * at_ (R_ref11_Weights j m) (k / 4)) (b := b) (n := 16) (fun k hk => hb k (by omega) (by omega)) (fun k hk => Int.mul_nonneg (hw ((k : Int) % 4) (by omega) (by omega)).1 (hw2 ((k : Int) / 4) (by omega) (by omega)).1)
  rw [sumW16] at a1 a2 a3 a4 a5 a6
  have x := rnd_btw hc a1 a2
  have y := rnd_btw hc a3 a4
  have z := rnd_btw hc a5 a6
  exact ⟨x.1, x.2, y.1, y.2, z.1, z.2⟩
theorem Row_len4 (p : List VT) (k : Int) : (R_curve_Row p k).length = 4 := R_curve_Row_len _ _
/-! ### A spot's vertex -/
theorem vtx_box {p : PatchT} {cage id : Int} {s : SkinT} {b : BoxT} (hf : R_mesh_fine p s = 0) {x : SpotT} (hx : x ∈ spotsL (R_rate_Sides p.aP s.Unit) (maxL (R_rate_Sides p.aP s.Unit))) (hb : ∀ j : Int, 0 ≤ j → j < 16 → inB b (at_ p.aP j)) : inB b (vtxD p cage id s x).atF := by
  obtain ⟨h1, h2, h3, h4, h5⟩ := fine_pts hf
  have hr := sides_rates h4 h1
  obtain ⟨m1, m2, _⟩ := weave_T (R_rate_Sides_len p.aP s.Unit) hr
  have h6 : ∀ i : Int, 0 ≤ i → i < 16 → inV 65536 (at_ p.aP i) := fun i i0 i1 => inV_le (h4 i i0 i1) (by decide)
  unfold vtxD R_mesh_vertex
  rcases mem_spots.1 hx with ⟨k1, k2, k3, k4⟩ | ⟨k1, k2, k3, k4, k5⟩ | ⟨k1, k2, k3, k4, k5⟩
  · rw [if_pos k1]
    have hg := crn_rng k2 k3
    exact hb _ hg.1 hg.2
  · rw [if_neg (by omega), if_pos k1]
    have hk := hr x.A k2 k3
    have := cubic_box (b := b) (Row_len4 p.aP x.A) (i := x.B) (n := at_ (R_rate_Sides p.aP s.Unit) x.A) ⟨hk.1, hk.2, by omega, by omega⟩ (row_all (Q := inV 65536) h6 k2 k3) (row_all (Q := inB b) hb k2 k3)
    unfold R_mesh_side
    split <;> exact this
  · rw [if_neg (by omega), if_neg (by omega)]
    exact point_box p.lP ⟨m2, m1, by omega, by omega⟩ ⟨m2, m1, by omega, by omega⟩ h6 hb
theorem vtx_in {p : PatchT} {cage id : Int} {s : SkinT} (hf : R_mesh_fine p s = 0) {x : SpotT} (hx : x ∈ spotsL (R_rate_Sides p.aP s.Unit) (maxL (R_rate_Sides p.aP s.Unit))) : inV 60000 (vtxD p cage id s x).atF :=
  vtx_box (b := ⟨⟨-60000, -60000, -60000⟩, ⟨60000, 60000, 60000⟩⟩) hf hx fun j h0 h1 => (fine_pts hf).2.2.2.1 j h0 h1
theorem vtx_up {p : PatchT} {cage id : Int} {s : SkinT} (hf : R_mesh_fine p s = 0) {x : SpotT} (hx : x ∈ spotsL (R_rate_Sides p.aP s.Unit) (maxL (R_rate_Sides p.aP s.Unit))) : inV 1023 (vtxD p cage id s x).up := by
  obtain ⟨h1, h2, h3, h4, h5⟩ := fine_pts hf
  unfold vtxD R_mesh_vertex
  rcases mem_spots.1 hx with ⟨k1, k2, k3, k4⟩ | ⟨k1, k2, k3, k4, k5⟩ | ⟨k1, k2, k3, k4, k5⟩
  · rw [if_pos k1]; exact h5 _ k2 k3
  · rw [if_neg (by omega), if_pos k1]
    unfold R_mesh_side
    split <;> exact inV_relief_Blend _ _ _ _
  · rw [if_neg (by omega), if_neg (by omega)]
    exact inV_relief_Mix _ _ _ _ _
/-! ### Lifts -/
theorem lift_near {v n : VT} {t h : Int} (hv : inV 60000 v) (hn : inV 1023 n) (ht : 0 ≤ t ∧ t ≤ 255) (hh : 0 ≤ h ∧ h ≤ 255) : ∃ d, (R_relief_Lift v n t h).1 = R_vec_Add v d ∧ inV h d := by
  unfold R_relief_Lift
  rw [if_pos (withinvec_iff.2 (inV_le hv (by decide))), if_pos (withinvec_iff.2 hn), if_neg (by omega), if_neg (by omega)]
  refine ⟨_, rfl, ?_⟩
  have hm := mul_nn (x := t) (k := h) ht hh
  have hk : 0 ≤ R_vec_Round (t * h) 255 ∧ R_vec_Round (t * h) 255 ≤ h := by
    rw [vround_eq (by omega) (by omega) (by omega)]
    have := Int.mul_le_mul_of_nonneg_right ht.2 hh.1
    exact rnd_btw (by omega) (by omega) (by rw [Int.mul_comm h 255]; exact this)
  obtain ⟨n1, n2, n3, n4, n5, n6⟩ := hn
  have one : ∀ c : Int, -1023 ≤ c → c ≤ 1023 → -h ≤ R_vec_Round (c * R_vec_Round (t * h) 255) 1024 ∧ R_vec_Round (c * R_vec_Round (t * h) 255) 1024 ≤ h := fun c c1 c2 => by
    have g := mul_rng (x := c) (k := R_vec_Round (t * h) 255) (A := 1023) (C := h) ⟨c1, c2⟩ (by omega)
    rw [vround_eq (by omega) (by omega) (by omega)]
    exact rnd_btw (by omega) (by omega) (by omega)
  have x := one n.X n1 n2
  have y := one n.Y n3 n4
  have z := one n.Z n5 n6
  exact ⟨x.1, x.2, y.1, y.2, z.1, z.2⟩
theorem texel_rng {t : TexT} {p : VT} (h : (R_relief_Texel t p).2 = true) : 0 ≤ (R_relief_Texel t p).1 ∧ (R_relief_Texel t p).1 ≤ 255 := by
  unfold R_relief_Texel at h ⊢
  split at h
  · rename_i hr
    split at h
    · rename_i hp
      rw [if_pos hr, if_pos hp]
      obtain ⟨a1, a2, a3, a4, a5, a6⟩ := right_iff.1 hr
      have s1 := step_rng (n := p.Y + p.Z) (m := t.H) a3
      have s2 := step_rng (n := p.X) (m := t.W) a1
      have := idx_lt s1 s2
      exact a6 _ this.1 (by omega)
    · cases h
  · cases h
theorem fD_near {p : PatchT} {cage id : Int} {s : SkinT} {texs : List TexT} (hf : R_mesh_fine p s = 0) {x : SpotT} (hx : x ∈ spotsL (R_rate_Sides p.aP s.Unit) (maxL (R_rate_Sides p.aP s.Unit))) (ho : (plT s texs (vtxD p cage id s x)).isSome = true) :
    ∃ d, fD p cage id s texs x = R_vec_Add (vtxD p cage id s x).atF d ∧ inV s.Height d := by
  obtain ⟨h1, h2, h3, h4, h5⟩ := fine_pts hf
  unfold fD
  unfold plT at ho ⊢
  split at ho
  · rename_i hc
    rw [if_pos hc]
    split at ho
    · rename_i ht
      rw [if_pos ht]
      have := texel_rng ht
      exact lift_near (vtx_in hf hx) (vtx_up hf hx) this ⟨h2, h3⟩
    · cases ho
  · rename_i hc
    rw [if_neg hc]
    refine ⟨⟨0, 0, 0⟩, ?_, inV_zero h2⟩
    simp [R_vec_Add]
/-! ### What is diced -/
theorem err_fine {p : PatchT} {s : SkinT} {texs : List TexT} (h : errD p s texs = 0) : R_mesh_fine p s = 0 := by
  unfold errD at h
  split at h
  · omega
  · exact h
theorem dice_2 {p : PatchT} {cage id : Int} {s : SkinT} {texs : List TexT} (h : (diceR p cage id s texs).2 = 0) : errD p s texs = 0 ∧ ∀ x ∈ (weaveR (R_rate_Sides p.aP s.Unit)).1, (plT s texs (vtxD p cage id s x)).isSome = true := by
  unfold diceR at h
  split at h
  · rename_i he; simp only at h; exact absurd h he
  · rename_i he
    have he : errD p s texs = 0 := by omega
    refine ⟨he, ?_⟩
    split at h
    · rename_i ha; exact List.all_eq_true.1 ha
    · simp at h
theorem dice_all {p : PatchT} {cage id : Int} {s : SkinT} {texs : List TexT} (h : errD p s texs = 0) (ha : ∀ x ∈ (weaveR (R_rate_Sides p.aP s.Unit)).1, (plT s texs (vtxD p cage id s x)).isSome = true) :
    diceR p cage id s texs = (⟨(spotsL (R_rate_Sides p.aP s.Unit) (maxL (R_rate_Sides p.aP s.Unit))).map (fD p cage id s texs), (spotsL (R_rate_Sides p.aP s.Unit) (maxL (R_rate_Sides p.aP s.Unit))).map (kD p cage id s), trisL (numL (spotsL (R_rate_Sides p.aP s.Unit) (maxL (R_rate_Sides p.aP s.Unit)))) (R_rate_Sides p.aP s.Unit) (maxL (R_rate_Sides p.aP s.Unit))⟩, 0) := by
  obtain ⟨h1, h2, h3, h4, h5⟩ := fine_pts (err_fine h)
  obtain ⟨m1, m2, e⟩ := weave_T (R_rate_Sides_len p.aP s.Unit) (sides_rates h4 h1)
  unfold diceR
  rw [if_neg (by omega), if_pos (List.all_eq_true.2 ha), e]
theorem dice_ok0 {p : PatchT} {cage id : Int} {s : SkinT} {texs : List TexT} (h : (diceR p cage id s texs).2 = 0) :
    R_mesh_fine p s = 0 ∧ rates (R_rate_Sides p.aP s.Unit) ∧ maxL (R_rate_Sides p.aP s.Unit) ≤ 16 ∧ 1 ≤ maxL (R_rate_Sides p.aP s.Unit) ∧ (∀ x ∈ spotsL (R_rate_Sides p.aP s.Unit) (maxL (R_rate_Sides p.aP s.Unit)), (plT s texs (vtxD p cage id s x)).isSome = true) ∧
    diceR p cage id s texs = (⟨(spotsL (R_rate_Sides p.aP s.Unit) (maxL (R_rate_Sides p.aP s.Unit))).map (fD p cage id s texs), (spotsL (R_rate_Sides p.aP s.Unit) (maxL (R_rate_Sides p.aP s.Unit))).map (kD p cage id s), trisL (numL (spotsL (R_rate_Sides p.aP s.Unit) (maxL (R_rate_Sides p.aP s.Unit)))) (R_rate_Sides p.aP s.Unit) (maxL (R_rate_Sides p.aP s.Unit))⟩, 0) := by
  obtain ⟨he, ha⟩ := dice_2 h
  have hf := err_fine he
  obtain ⟨h1, h2, h3, h4, h5⟩ := fine_pts hf
  obtain ⟨m1, m2, e⟩ := weave_T (R_rate_Sides_len p.aP s.Unit) (sides_rates h4 h1)
  refine ⟨hf, sides_rates h4 h1, m1, m2, fun x hx => ha x (by rw [e]; exact hx), dice_all he ha⟩
theorem tris_len {N : SpotT → Int} {rs : List Int} {m : Int} (hr : rates rs) (hm : m ≤ 16) : (trisL N rs m).length ≤ 1000 := by
  unfold trisL
  split
  · decide
  · have := midO_len (N := N) hm (b := m - 1) (by omega)
    have := strO_len (N := N) hr hm (k := 4) (by omega)
    rw [List.length_append]; omega
theorem dice_len (p : PatchT) (cage id : Int) (s : SkinT) (texs : List TexT) : (diceR p cage id s texs).1.Verts.length ≤ 400 ∧ (diceR p cage id s texs).1.Keys.length ≤ 400 ∧ (diceR p cage id s texs).1.Tris.length ≤ 1000 := by
  by_cases h : (diceR p cage id s texs).2 = 0
  · obtain ⟨hf, hr, m1, m2, ho, e⟩ := dice_ok0 h
    have a := spots_len hr m1
    rw [e]
    simp only [List.length_map]
    exact ⟨a, a, tris_len hr m1⟩
  · unfold diceR at h ⊢
    split
    · simp
    · split
      · rename_i h1 h2
        rw [if_neg h1, if_pos h2] at h
        exact absurd rfl h
      · simp
theorem dice_no {p : PatchT} {cage id : Int} {s : SkinT} {texs : List TexT} (h : ¬ (diceR p cage id s texs).2 = 0) : (diceR p cage id s texs).1 = ⟨[], [], []⟩ := by
  unfold diceR at h ⊢
  split
  · rfl
  · split
    · rename_i h1 h2
      rw [if_neg h1, if_pos h2] at h
      exact absurd rfl h
    · rfl
theorem at_map {α β : Type} [Inhabited α] [Inhabited β] {l : List α} {f : α → β} {i : Int} (h0 : 0 ≤ i) (h1 : i < l.length) : at_ (l.map f) i = f (at_ l i) := by
  have h : i.toNat < l.length := by omega
  simp [at_, h]
end Go.Proofs.M
namespace Go.Proofs.M
open Go Go.AH
/-! ### The tiny mesh that each law begins with -/
theorem al_d2 : (diceR R_law15_flat 0 0 (SkinT.mk ⟨#[]⟩ 0 0 100 (-1) 0) ([] : List TexT)).2 = 0 := by kernel_rfl
theorem al_b2 : (R_mesh_Bounds R_law15_flat (SkinT.mk ⟨#[]⟩ 0 0 1 0 3)).2 = 0 := by kernel_rfl
theorem al_t2 : (R_mesh_Tri ((diceR R_law15_flat 0 0 (SkinT.mk ⟨#[]⟩ 0 0 100 (-1) 0) ([] : List TexT)).1) 1).2 = true := by kernel_rfl
theorem al_v : (((((diceR R_law15_flat 0 0 (SkinT.mk ⟨#[]⟩ 0 0 100 (-1) 0) ([] : List TexT)).1).Verts).length) : Int) = 4 := by kernel_rfl
theorem al_k : (((((diceR R_law15_flat 0 0 (SkinT.mk ⟨#[]⟩ 0 0 100 (-1) 0) ([] : List TexT)).1).Keys).length) : Int) = 4 := by kernel_rfl
theorem al_t : (((((diceR R_law15_flat 0 0 (SkinT.mk ⟨#[]⟩ 0 0 100 (-1) 0) ([] : List TexT)).1).Tris).length) : Int) = 2 := by kernel_rfl
theorem al_hi : (R_mesh_Bounds R_law15_flat (SkinT.mk ⟨#[]⟩ 0 0 1 0 3)).1.Hi = VT.mk 14 14 5 := by kernel_rfl
theorem al_tb : (R_mesh_Tri ((diceR R_law15_flat 0 0 (SkinT.mk ⟨#[]⟩ 0 0 100 (-1) 0) ([] : List TexT)).1) 1).1.B = VT.mk 9 9 0 := by kernel_rfl
theorem ranV_lit {x y z : Int} (hx : -1000 ≤ x ∧ x ≤ 1000) (hy : -1000 ≤ y ∧ y ≤ 1000) (hz : -1000 ≤ z ∧ z ≤ 1000) : ranV (VT.mk x y z) := ranV_of (B := 1000) ⟨hx.1, hx.2, hy.1, hy.2, hz.1, hz.2⟩ (by decide)
/-! ### How many triangles -/
/-! ### MeshSmooth -/
theorem plT_no {s : SkinT} {texs : List TexT} {v : VertexT} (h : s.Tex = -1) : plT s texs v = some v.atF := by unfold plT; rw [if_neg (by omega)]
theorem fD_no {p : PatchT} {cage id : Int} {s : SkinT} {texs : List TexT} {x : SpotT} (h : s.Tex = -1) : fD p cage id s texs x = (vtxD p cage id s x).atF := by unfold fD; rw [plT_no h]; rfl
theorem dice_plain {p : PatchT} {cage id : Int} {s : SkinT} {texs : List TexT} (ht : s.Tex = -1) : (diceR p cage id s texs).2 = R_mesh_fine p s := by
  have e : errD p s texs = R_mesh_fine p s := by unfold errD; rw [if_neg (by omega)]
  by_cases h : R_mesh_fine p s = 0
  · rw [dice_all (by rw [e]; exact h) (fun x _ => by rw [plT_no ht]; rfl), h]
  · rw [dice_err (e := R_mesh_fine p s) e h]
/-! ### MeshNear -/
/-! ### MeshWithin -/
end Go.Proofs.M
namespace Go.Proofs.M
open Go Go.AH
/-! ### What a mesh's triangles are made of -/
theorem strF_mem {N : SpotT → Int} {k r m : Int} {Q : I3T → Prop} (h1 : ∀ i t, 0 ≤ i → i < r → 1 ≤ t → t ≤ m - 1 → Q ⟨N (outS k i r), N (outS k (i + 1) r), N (besS k t m)⟩) (h2 : ∀ i t, 0 ≤ i → i ≤ r → 1 ≤ t → t < m - 1 → Q ⟨N (outS k i r), N (besS k (t + 1) m), N (besS k t m)⟩) :
    ∀ {n : Nat} {i t : Int}, 0 ≤ i → i ≤ r → 1 ≤ t → t ≤ m - 1 → ∀ x ∈ strF N k r m n i t, Q x
  | 0, _, _, _, _, _, _, x, hx => by cases hx
  | n + 1, i, t, a, b, c, d, x, hx => by
    unfold strF at hx
    split at hx
    · rename_i g
      split at hx
      · rename_i e
        rcases List.mem_cons.1 hx with rfl | hx
        · exact h1 i t a e.1 c d
        · exact strF_mem h1 h2 (by omega) (by omega) c d x hx
      · rename_i e
        have ht : t < m - 1 := by
          rcases Int.lt_or_le t (m - 1) with g' | g'
          · exact g'
          · exact absurd ⟨by omega, .inl (by omega)⟩ e
        rcases List.mem_cons.1 hx with rfl | hx
        · exact h2 i t a b c ht
        · exact strF_mem h1 h2 a b (by omega) (by omega) x hx
    · cases hx
theorem tris_mem {N : SpotT → Int} {rs : List Int} {m : Int} {Q : I3T → Prop} (hr : rates rs) (hm : 1 ≤ m) (h0 : m = 1 → Q ⟨0, 1, 2⟩ ∧ Q ⟨0, 2, 3⟩)
    (hmid : ∀ a b, 1 ≤ a → a < m - 1 → 1 ≤ b → b < m - 1 → Q ⟨N (inn a b), N (inn (a + 1) b), N (inn (a + 1) (b + 1))⟩ ∧ Q ⟨N (inn a b), N (inn (a + 1) (b + 1)), N (inn a (b + 1))⟩)
    (h1 : ∀ k i t, 0 ≤ k → k < 4 → 0 ≤ i → i < at_ rs k → 1 ≤ t → t ≤ m - 1 → Q ⟨N (outS k i (at_ rs k)), N (outS k (i + 1) (at_ rs k)), N (besS k t m)⟩) (h2 : ∀ k i t, 0 ≤ k → k < 4 → 0 ≤ i → i ≤ at_ rs k → 1 ≤ t → t < m - 1 → Q ⟨N (outS k i (at_ rs k)), N (besS k (t + 1) m), N (besS k t m)⟩) : ∀ x ∈ trisL N rs m, Q x := by
  intro x hx
  unfold trisL at hx
  split at hx
  · rename_i e
    obtain ⟨a, b⟩ := h0 e
    rcases List.mem_cons.1 hx with rfl | hx
    · exact a
    · rcases List.mem_cons.1 hx with rfl | hx
      · exact b
      · cases hx
  · rename_i e
    rcases List.mem_append.1 hx with hx | hx
    · simp only [midO, midI, List.mem_flatMap, mem_rg] at hx
      obtain ⟨b, ⟨b1, b2⟩, a, ⟨a1, a2⟩, hx⟩ := hx
      obtain ⟨q1, q2⟩ := hmid a b a1 a2 b1 b2
      simp only [midC, List.mem_cons, List.not_mem_nil, or_false] at hx
      rcases hx with rfl | rfl
      · exact q1
      · exact q2
    · simp only [strO, List.mem_flatMap, mem_rg] at hx
      obtain ⟨k, ⟨k1, k2⟩, hx⟩ := hx
      have := hr k k1 k2
      exact strF_mem (fun i t => h1 k i t k1 k2) (fun i t => h2 k i t k1 k2) (Int.le_refl _) (by omega) (Int.le_refl _) (by omega) x hx
theorem numL_rng (l : List SpotT) (s : SpotT) : -1 ≤ numL l s ∧ numL l s ≤ l.length := by
  by_cases h : s ∈ l
  · have := numL_mem h; omega
  · rw [numL_not h]; omega
theorem ranI3_of {a b c : Int} (ha : -1 ≤ a ∧ a ≤ 400) (hb : -1 ≤ b ∧ b ≤ 400) (hc : -1 ≤ c ∧ c ≤ 400) : ranI3 ⟨a, b, c⟩ := ⟨inR_of (B := 400) (by simp only; omega) (by decide), inR_of (B := 400) (by simp only; omega) (by decide), inR_of (B := 400) (by simp only; omega) (by decide)⟩
theorem ranK_of {a b c d e : Int} (ha : -1000 ≤ a ∧ a ≤ 1000) (hb : inR b) (hc : inR c) (hd : inR d) (he : -1000 ≤ e ∧ e ≤ 1000) : ranK ⟨a, b, c, d, e⟩ := ⟨inR_of ha (by decide), hb, hc, hd, inR_of he (by decide)⟩
theorem inR_small {a : Int} (h : -1000 ≤ a ∧ a ≤ 1000) : inR a := inR_of h (by decide)
theorem kD_ran {p : PatchT} {cage id : Int} {s : SkinT} (hc : inR cage) (hi : inR id) (hp : ∀ c ∈ p.aCorners, inR c) (hr : rates (R_rate_Sides p.aP s.Unit)) (hm : maxL (R_rate_Sides p.aP s.Unit) ≤ 16) {x : SpotT} (hx : x ∈ spotsL (R_rate_Sides p.aP s.Unit) (maxL (R_rate_Sides p.aP s.Unit))) : ranK (kD p cage id s x) := by
  have hco : ∀ k : Int, 0 ≤ k → k < 4 → inR (at_ p.aCorners k) := fun k h0 h4 => hp _ (at_mem h0 (by have := p.lCorners; omega))
  unfold kD vtxD R_mesh_vertex
  rcases mem_spots.1 hx with ⟨k1, k2, k3, k4⟩ | ⟨k1, k2, k3, k4, k5⟩ | ⟨k1, k2, k3, k4, k5⟩
  · rw [if_pos k1]
    exact ranK_of (by omega) hc (hco _ k2 k3) (inR_small (by omega)) (by omega)
  · rw [if_neg (by omega), if_pos k1]
    have := hr x.A k2 k3
    unfold R_mesh_side
    split
    · exact ranK_of (by omega) hc (hco _ (by omega) (by omega)) (hco _ k2 k3) (by omega)
    · exact ranK_of (by omega) hc (hco _ k2 k3) (hco _ (by omega) (by omega)) (by omega)
  · rw [if_neg (by omega), if_neg (by omega)]
    exact ranK_of (by omega) hi (inR_small (by omega)) (inR_small (by omega)) (by omega)
theorem ranM_dice {p : PatchT} {cage id : Int} {s : SkinT} {texs : List TexT} (hc : inR cage) (hi : inR id) (hp : ∀ c ∈ p.aCorners, inR c) : ranM (diceR p cage id s texs).1 := by
  by_cases h : (diceR p cage id s texs).2 = 0
  · obtain ⟨hf, hr, m1, m2, ho, e⟩ := dice_ok0 h
    obtain ⟨f1, f2, f3, f4, f5⟩ := fine_pts hf
    rw [e]
    refine ⟨fun v hv => ?_, fun k hk => ?_, ?_⟩
    · obtain ⟨x, hx, rfl⟩ := List.mem_map.1 hv
      obtain ⟨d, hd, hin⟩ := fD_near (cage := cage) (id := id) hf hx (ho _ hx)
      rw [hd]
      exact ranV_of (inV_vec_Add (vtx_in hf hx) hin) (by omega)
    · obtain ⟨x, hx, rfl⟩ := List.mem_map.1 hk
      exact kD_ran hc hi hp hr m1 hx
    · have hl := spots_len hr m1
      have hn : ∀ x, -1 ≤ numL (spotsL (R_rate_Sides p.aP s.Unit) (maxL (R_rate_Sides p.aP s.Unit))) x ∧ numL (spotsL (R_rate_Sides p.aP s.Unit) (maxL (R_rate_Sides p.aP s.Unit))) x ≤ 400 := fun x => by
        have := numL_rng (spotsL (R_rate_Sides p.aP s.Unit) (maxL (R_rate_Sides p.aP s.Unit))) x
        omega
      refine tris_mem hr m2 (fun _ => ⟨ranI3_of (by omega) (by omega) (by omega), ranI3_of (by omega) (by omega) (by omega)⟩) (fun a b _ _ _ _ => ⟨ranI3_of (hn _) (hn _) (hn _), ranI3_of (hn _) (hn _) (hn _)⟩) (fun k i t _ _ _ _ _ _ => ranI3_of (hn _) (hn _) (hn _)) (fun k i t _ _ _ _ _ _ => ranI3_of (hn _) (hn _) (hn _))
  · rw [dice_no h]
    exact ⟨fun _ h => (by cases h), fun _ h => (by cases h), fun _ h => (by cases h)⟩
/-! ### MeshCounts -/
/-! ### No spot twice, no key twice -/
end Go.Proofs.M
namespace Go.Proofs.M
open Go Go.AH
end Go.Proofs.M
namespace Go.Proofs.M
open Go Go.AH Go.ChangeShapes Go.WideShapes Go.ChangeAt Go.RowKit Go.Deep Go.Proofs.YtfgfalidpbbkhaaDoor
set_option maxRecDepth 8000
set_option linter.unusedSimpArgs false
set_option linter.unusedVariables false
/-! ### How much is read -/
/-! ### The arguments -/
section
variable {H : Type} {enc : TypeId × Value → H} {W : World}
theorem c3 : Tryd.prog.cellsOf 3 = 1 := by kernel_rfl
theorem c23 : Tryd.prog.cellsOf 23 = 3 := by kernel_rfl
theorem c24 : Tryd.prog.cellsOf 24 = 48 := by kernel_rfl
theorem c25 : Tryd.prog.cellsOf 25 = 4 := by kernel_rfl
theorem c26 : Tryd.prog.cellsOf 26 = 12 := by kernel_rfl
theorem c28 : Tryd.prog.cellsOf 28 = 65 := by kernel_rfl
theorem opI : Opn enc Tryd.prog W 3 (fun n : Int => [.int .i64 n]) (fun n _ => inR n) := (Opn.int u_3).imp fun n _ h => bounds_i64 h
theorem opV : Opn enc Tryd.prog W 23 eV (fun v _ => ranV v) := fun sp held fuel cs x h => by
  obtain ⟨xs, n, _, rfl, hl, hxl, hf⟩ := DataW.trod_struct Tryd.underlying23 h
  match xs, hxl with
  | [y0, y1, y2], _ =>
    obtain ⟨a, a1, a2⟩ := opI (enc := enc) (W := W) _ _ _ _ _ (hf 0 _ rfl)
    obtain ⟨b, b1, b2⟩ := opI (enc := enc) (W := W) _ _ _ _ _ (hf 1 _ rfl)
    obtain ⟨c, e1, e2⟩ := opI (enc := enc) (W := W) _ _ _ _ _ (hf 2 _ rfl)
    simp only [c3] at a1 b1 e1
    exact ⟨⟨a, b, c⟩, (a1.glue (b1.glue e1 rfl rfl) rfl (n := 3) rfl).whole (by rw [hl, c23]), a2, b2, e2⟩
theorem opInts {t : TypeId} {n : Nat} (ht : Tryd.prog.underlying t = some (.array n 3)) (hc : Tryd.prog.cellsOf t = n) : Opn enc Tryd.prog W t (fun l : List Int => l.map eI) (fun l _ => l.length = n ∧ ∀ x ∈ l, inR x) := fun sp held fuel cs x h => by
  obtain ⟨l, h1, h2, ds, _, h3⟩ := Opn.arr ht c3 (by rw [hc, Nat.mul_one]) opI sp held fuel cs x h
  refine ⟨l, ?_, h2, fun x hx => (h3 x hx).elim fun _ h => h.2⟩
  have e : l.flatMap (fun n : Int => [AV.int .i64 n]) = l.map eI := by rw [List.map_eq_flatMap]; rfl
  show VRs W idM nH (l.map eI) cs
  rw [← e]; exact h1
theorem opVs {t : TypeId} {n : Nat} (ht : Tryd.prog.underlying t = some (.array n 23)) (hc : Tryd.prog.cellsOf t = n * 3) : Opn enc Tryd.prog W t (fun l : List VT => l.flatMap eV) (fun l _ => l.length = n ∧ ∀ x ∈ l, ranV x) := fun sp held fuel cs x h => by
  obtain ⟨l, h1, h2, ds, _, h3⟩ := Opn.arr ht c23 hc opV sp held fuel cs x h
  exact ⟨l, h1, h2, fun x hx => (h3 x hx).elim fun _ h => h.2⟩
theorem opPatch : Opn enc Tryd.prog W 28 ePatch (fun p _ => ∀ c ∈ p.aCorners, inR c) := fun sp held fuel cs x h => by
  obtain ⟨xs, n, _, rfl, hl, hxl, hf⟩ := DataW.trod_struct Tryd.underlying28 h
  match xs, hxl with
  | [y0, y1, y2, y3], _ =>
    obtain ⟨a, a1, a2⟩ := opVs (enc := enc) (W := W) (n := 16) u_24 c24 _ _ _ _ _ (hf 0 _ rfl)
    obtain ⟨b, b1, b2⟩ := opInts (enc := enc) (W := W) (n := 4) u_25 c25 _ _ _ _ _ (hf 1 _ rfl)
    obtain ⟨c, e1, e2⟩ := opVs (enc := enc) (W := W) (n := 4) u_26 c26 _ _ _ _ _ (hf 2 _ rfl)
    obtain ⟨d, f1, f2⟩ := opI (enc := enc) (W := W) _ _ _ _ _ (hf 3 _ rfl)
    simp only [c3, c24, c25, c26] at a1 b1 e1 f1
    refine ⟨⟨a, b, c, d⟩, ?_, ?_⟩
    · have e : ePatch ⟨a, b, c, d⟩ = a.flatMap eV ++ (b.map eI ++ (c.flatMap eV ++ [.int .i64 d])) := by
        show (arrL 16 a).flatMap eV ++ ((arrL 4 b).map eI ++ ((arrL 4 c).flatMap eV ++ [.int .i64 d])) = _
        rw [arrL_self a2.1, arrL_self b2.1, arrL_self e2.1]
      rw [e]
      exact (a1.glue (b1.glue (e1.glue f1 rfl rfl) rfl rfl) rfl (n := 65) rfl).whole (by rw [hl, c28])
    · show ∀ c ∈ arrL 4 b, inR c
      rw [arrL_self b2.1]; exact b2.2
/-- A structure that is handed in. -/
theorem arg_agg {r : Reach} {b0 : Nat} {t : TypeId} {fs : Array Field} {v : Value} {d : DataW H} {p : List MemPlace} {α : Type} {e : α → List AV} {Q : α → DataW H → Prop} (ht : Tryd.prog.underlying t = some (.struct fs)) (ho : Opn enc Tryd.prog W t e Q) (hv : Value.okWide Tryd.prog W r b0 t v) {sp : Nat → Bool} {held : Bool} (hd : DataW.Trod enc Tryd.prog W 0 sp held t v d p) :
    ∃ a, VR W idM nH (.agg (e a)) v ∧ Q a d := by
  obtain ⟨cs, rfl, _, _⟩ : ∃ cs, v = .agg cs ∧ cs.size = Tryd.prog.cellsOf t ∧ Row.okWide Tryd.prog W r b0 t cs := by simpa [Value.okWide, ht] using hv
  obtain ⟨fuel, hf⟩ := hd
  obtain ⟨a, h1, h2⟩ := ho _ _ _ _ _ hf
  exact ⟨a, VRs.agg h1, h2⟩
/-! ### The variable that is listed -/
theorem gCor : Tryd.prog.globalNamed "relievo/mesh.corners" = some 0 := by kernel_rfl
theorem gCorT : (Tryd.prog.globals[0]?).map (·.type) = some 25 := by kernel_rfl
theorem globs_of {W : World} (h : laidMetH Tryd.prog [("relievo/mesh.corners", Rows.laid_relievo_mesh_corners)] W) : ∀ g cells, Globs.val g = some cells → VR W idM nH (.fptr cells 0) (.pointer (some ⟨g, 0, none⟩)) := by
  have ht : Lib.TabIs Tryd.prog W "relievo/mesh.corners" .i64 [0, 3, 15, 12] := Lib.tabIs_of_head (rest := []) gCor gCorT u_25 u_3 c3 c25 h
  have hk := glob_tab ht gCor (by decide)
  intro g cells hg
  by_cases h0 : g = 0
  · subst h0
    have : cells = [.int .i64 0, .int .i64 3, .int .i64 15, .int .i64 12] := by
      have : some [AV.int .i64 0, .int .i64 3, .int .i64 15, .int .i64 12] = some cells := hg
      cases this; rfl
    subst this; exact hk
  · have : (none : Option (List AV)) = some cells := by
      have e : Globs.val g = none := by show (if g = 0 then _ else none) = none; rw [if_neg h0]
      rw [← e]; exact hg
    cases this
theorem own : ownKnob Tryd.prog.godebug = none := by kernel_rfl
theorem stays {W W' : World} (hs : World.Since W.heap.size W W') {x : MemPlace} (h : x.block < W.heap.size) : W.sameAt W' x := by
  cases x with
  | cell b o => exact hs.cell (a := ⟨b, o, none⟩) h
  | map b => exact hs.block b h
/-- A world for the witness. -/
noncomputable def laidWorld (os : Os) : World :=
  { World.holding Tryd.prog os ⟨#[], #[], []⟩ with heap := (World.holding Tryd.prog os ⟨#[], #[], []⟩).heap.modify 0 fun
      | .cells _ t frozen => .cells #[.int .i64 0, .int .i64 3, .int .i64 15, .int .i64 12] t frozen
      | o => o }
end
end Go.Proofs.M
namespace Go.Proofs.M
open Go Go.AH
/-! ### MeshMoved -/
def mvL (l : List VT) (b : VT) (i : Int) : List VT := (l.take i.toNat).map (fun v => R_ref02_Add v b) ++ l.drop i.toNat
theorem mvL_0 (l : List VT) (b : VT) : mvL l b 0 = l := by simp [mvL]
theorem mvL_len (l : List VT) (b : VT) (i : Int) : (mvL l b i).length = l.length := by
  unfold mvL
  rw [List.length_append, List.length_map, ← List.length_append, List.take_append_drop]
theorem mvL_at {l : List VT} {b : VT} {i : Int} (h0 : 0 ≤ i) (h1 : i < l.length) : at_ (mvL l b i) i = at_ l i := by
  have h : i.toNat < l.length := by omega
  unfold mvL at_
  simp [h, List.getElem?_append_right, Nat.min_eq_left (Nat.le_of_lt h)]
theorem mvL_step {l : List VT} {b : VT} {i : Int} (h0 : 0 ≤ i) (h1 : i < l.length) : (mvL l b i).set i.toNat (R_ref02_Add (at_ l i) b) = mvL l b (i + 1) := by
  have h : i.toNat < l.length := by omega
  have e : (i + 1).toNat = i.toNat + 1 := by omega
  have ea : at_ l i = l[i.toNat] := by simp [at_, h]
  have e1 : l.drop i.toNat = l[i.toNat] :: l.drop (i.toNat + 1) := List.drop_eq_getElem_cons h
  have e2 : l.take (i.toNat + 1) = l.take i.toNat ++ [l[i.toNat]] := by rw [List.take_add_one]; simp [h]
  have e3 : ((l.take i.toNat).map fun v => R_ref02_Add v b).length = i.toNat := by simp; omega
  unfold mvL
  rw [e, e1, e2, ea, List.set_append_right _ _ (by omega), e3, Nat.sub_self, List.set_cons_zero, List.map_append]
  simp
theorem mvL_all {l : List VT} {b : VT} {i : Int} (h : (l.length : Int) ≤ i) : mvL l b i = l.map fun v => R_ref02_Add v b := by
  unfold mvL
  rw [take_all h, List.drop_of_length_le (by omega), List.append_nil]
theorem rnd_add {x b d : Int} (hd : 1 ≤ d) : rnd (x + b * d) d = rnd x d + b := by
  rw [rnd_iff hd]
  have h := (rnd_iff (n := x) (q := rnd x d) hd).1 rfl
  have e : 2 * d * (rnd x d + b) = 2 * d * rnd x d + 2 * (b * d) := by rw [Int.mul_add, Int.mul_assoc 2 d b, Int.mul_comm d b]
  omega
theorem sumV_moved {l l' : List VT} {wt : Int → Int} {b : VT} {n : Nat} (h : ∀ k : Nat, k < n → at_ l' (k : Int) = R_ref02_Add (at_ l (k : Int)) b) :
    sumV l' wt n = VT.mk ((sumV l wt n).X + b.X * sumW wt n) ((sumV l wt n).Y + b.Y * sumW wt n) ((sumV l wt n).Z + b.Z * sumW wt n) := by
  induction n with
  | zero => simp [sumV, sumW]
  | succ n ih =>
    have h1 := ih fun k hk => h k (by omega)
    simp only [sumV, sumW, h1, h n (by omega), R_vec_Add, R_vec_Scale, R_ref02_Add, Int.add_mul, Int.mul_add, VT.mk.injEq]
    omega
theorem rndV_moved {v b : VT} {d : Int} (hd : 1 ≤ d) : rndV (VT.mk (v.X + b.X * d) (v.Y + b.Y * d) (v.Z + b.Z * d)) d = R_ref02_Add (rndV v d) b := by
  simp only [rndV, R_ref02_Add, rnd_add hd]
section
variable {p q : List VT} {b : VT}
theorem moved_in (hb : inV 16384 b) {l l' : List VT} {n : Int} (hl : ∀ j : Int, 0 ≤ j → j < n → inV 40000 (at_ l j)) (h : ∀ j : Int, 0 ≤ j → j < n → at_ l' j = R_ref02_Add (at_ l j) b) : ∀ j : Int, 0 ≤ j → j < n → inV 56384 (at_ l' j) := fun j j0 j1 => by
  rw [h j j0 j1]; exact inV_ref02_Add (hl j j0 j1) hb
theorem row_moved (h : ∀ j : Int, 0 ≤ j → j < 16 → at_ q j = R_ref02_Add (at_ p j) b) {k : Int} (h0 : 0 ≤ k) (h4 : k < 4) : ∀ j : Int, 0 ≤ j → j < 4 → at_ (R_curve_Row q k) j = R_ref02_Add (at_ (R_curve_Row p k) j) b := by
  rcases (by omega : k = 0 ∨ k = 1 ∨ k = 2 ∨ k = 3) with rfl | rfl | rfl | rfl
  · exact int4 (h 0 (by omega) (by omega)) (h 1 (by omega) (by omega)) (h 2 (by omega) (by omega)) (h 3 (by omega) (by omega))
  · exact int4 (h 3 (by omega) (by omega)) (h 7 (by omega) (by omega)) (h 11 (by omega) (by omega)) (h 15 (by omega) (by omega))
  · exact int4 (h 15 (by omega) (by omega)) (h 14 (by omega) (by omega)) (h 13 (by omega) (by omega)) (h 12 (by omega) (by omega))
  · exact int4 (h 12 (by omega) (by omega)) (h 8 (by omega) (by omega)) (h 4 (by omega) (by omega)) (h 0 (by omega) (by omega))
theorem sub_moved (v w : VT) : R_vec_Sub (R_ref02_Add v b) (R_ref02_Add w b) = R_vec_Sub v w := by
  simp only [R_vec_Sub, R_ref02_Add, VT.mk.injEq]; omega
theorem edge_moved {l l' : List VT} {u : Int} (hl : ∀ j : Int, 0 ≤ j → j < 4 → inV 65536 (at_ l j)) (hl' : ∀ j : Int, 0 ≤ j → j < 4 → inV 65536 (at_ l' j)) (h : ∀ j : Int, 0 ≤ j → j < 4 → at_ l' j = R_ref02_Add (at_ l j) b) : R_rate_Edge l' u = R_rate_Edge l u := by
  have e : R_rate_Length l' = R_rate_Length l := by
    unfold R_rate_Length
    have w := fun j h0 h4 => withinvec_iff.2 (hl j h0 h4)
    have w' := fun j h0 h4 => withinvec_iff.2 (hl' j h0 h4)
    rw [if_pos (w 0 (by omega) (by omega)), if_pos (w 1 (by omega) (by omega)), if_pos (w 2 (by omega) (by omega)), if_pos (w 3 (by omega) (by omega)), if_pos (w' 0 (by omega) (by omega)), if_pos (w' 1 (by omega) (by omega)), if_pos (w' 2 (by omega) (by omega)), if_pos (w' 3 (by omega) (by omega))]
    rw [h 0 (by omega) (by omega), h 1 (by omega) (by omega), h 2 (by omega) (by omega), h 3 (by omega) (by omega)]
    simp only [sub_moved]
  unfold R_rate_Edge; rw [e]
theorem sides_moved (hb : inV 16384 b) (hp : ∀ j : Int, 0 ≤ j → j < 16 → inV 40000 (at_ p j)) (h : ∀ j : Int, 0 ≤ j → j < 16 → at_ q j = R_ref02_Add (at_ p j) b) (u : Int) : R_rate_Sides q u = R_rate_Sides p u := by
  have hq := moved_in hb hp h
  have one : ∀ k : Int, 0 ≤ k → k < 4 → R_rate_Edge (R_curve_Row q k) u = R_rate_Edge (R_curve_Row p k) u := fun k h0 h4 =>
    edge_moved (row_all (Q := inV 65536) (fun i i0 i1 => inV_le (hp i i0 i1) (by decide)) h0 h4) (row_all (Q := inV 65536) (fun i i0 i1 => inV_le (hq i i0 i1) (by decide)) h0 h4) (row_moved h h0 h4)
  unfold R_rate_Sides
  rw [one 0 (by omega) (by omega), one 1 (by omega) (by omega), one 2 (by omega) (by omega), one 3 (by omega) (by omega)]
end
theorem cubic_moved {l l' : List VT} (e : l.length = 4) (e' : l'.length = 4) {b : VT} {i n : Int} (hn : 1 ≤ n ∧ n ≤ 16 ∧ 0 ≤ i ∧ i ≤ n) (hl : ∀ j : Int, 0 ≤ j → j < 4 → inV 65536 (at_ l j)) (hl' : ∀ j : Int, 0 ≤ j → j < 4 → inV 65536 (at_ l' j)) (h : ∀ j : Int, 0 ≤ j → j < 4 → at_ l' j = R_ref02_Add (at_ l j) b) :
    (R_curve_Cubic l' i n).1 = R_ref02_Add (R_curve_Cubic l i n).1 b := by
  rw [cubic_eq e' hn hl', cubic_eq e hn hl, sumV_moved (l := l) (b := b) (fun k hk => h k (by omega) (by omega)), sumW4]
  exact rndV_moved (cube_rng hn.1 hn.2.1).1
theorem point_moved {l l' : List VT} (e : l.length = 16) (e' : l'.length = 16) {b : VT} {i n j m : Int} (hn : 1 ≤ n ∧ n ≤ 16 ∧ 0 ≤ i ∧ i ≤ n) (hm : 1 ≤ m ∧ m ≤ 16 ∧ 0 ≤ j ∧ j ≤ m) (hl : ∀ j : Int, 0 ≤ j → j < 16 → inV 65536 (at_ l j)) (hl' : ∀ j : Int, 0 ≤ j → j < 16 → inV 65536 (at_ l' j)) (h : ∀ j : Int, 0 ≤ j → j < 16 → at_ l' j = R_ref02_Add (at_ l j) b) :
    (R_curve_Point l' i n j m).1 = R_ref02_Add (R_curve_Point l i n j m).1 b := by
  obtain ⟨e1, hd⟩ := point_eq e hn hm hl
  rw [(point_eq e' hn hm hl').1, e1, sumV_moved (l := l) (b := b) (fun k hk => h k (by omega) (by omega)), sumW16]
  exact rndV_moved hd
theorem moved_law {p : PatchT} {b : VT} {n : ByteArray} {x y u z cage id : Int} (hb : inV 16384 b) (hp : ∀ j : Int, 0 ≤ j → j < 16 → inV 40000 (at_ p.aP j)) {q : PatchT} (hq : q.aP = p.aP.map fun v => R_ref02_Add v b) (hc : q.aCorners = p.aCorners) (hn : q.aNormals = p.aNormals) :
    (diceR q cage id (SkinT.mk n x y u (-1) z) []).2 = (diceR p cage id (SkinT.mk n x y u (-1) z) []).2 ∧
    (diceR p cage id (SkinT.mk n x y u (-1) z) []).1.Verts.map (fun v => R_ref02_Add v b) = (diceR q cage id (SkinT.mk n x y u (-1) z) []).1.Verts ∧
    (diceR p cage id (SkinT.mk n x y u (-1) z) []).1.Keys = (diceR q cage id (SkinT.mk n x y u (-1) z) []).1.Keys ∧
    (diceR p cage id (SkinT.mk n x y u (-1) z) []).1.Tris = (diceR q cage id (SkinT.mk n x y u (-1) z) []).1.Tris ∧
    (∀ i : Int, 0 ≤ i → i < (diceR p cage id (SkinT.mk n x y u (-1) z) []).1.Verts.length → inV 60000 (at_ (diceR p cage id (SkinT.mk n x y u (-1) z) []).1.Verts i)) := by
  have hat : ∀ j : Int, 0 ≤ j → j < 16 → at_ q.aP j = R_ref02_Add (at_ p.aP j) b := fun j j0 j1 => by rw [hq, at_map j0 (by have := p.lP; omega)]
  have hq1 := moved_in hb hp hat
  have a1 : allIn p.aP 60000 = true := allIn_T.2 fun i i0 i1 => inV_le (hp i i0 (by have := p.lP; omega)) (by decide)
  have a2 : allIn q.aP 60000 = true := allIn_T.2 fun i i0 i1 => inV_le (hq1 i i0 (by have := q.lP; omega)) (by decide)
  have hf : R_mesh_fine q (SkinT.mk n x y u (-1) z) = R_mesh_fine p (SkinT.mk n x y u (-1) z) := by unfold R_mesh_fine; rw [a1, a2, hn]
  have e2 : (diceR q cage id (SkinT.mk n x y u (-1) z) []).2 = (diceR p cage id (SkinT.mk n x y u (-1) z) []).2 := by rw [dice_plain rfl, dice_plain rfl, hf]
  refine ⟨e2, ?_⟩
  by_cases h : (diceR p cage id (SkinT.mk n x y u (-1) z) []).2 = 0
  · obtain ⟨f1, r1, m1, m2, o1, d1⟩ := dice_ok0 h
    obtain ⟨f1', r1', m1', m2', o1', d1'⟩ := dice_ok0 (e2.trans h)
    have hs : R_rate_Sides q.aP u = R_rate_Sides p.aP u := sides_moved hb hp hat u
    have p6 : ∀ j : Int, 0 ≤ j → j < 16 → inV 65536 (at_ p.aP j) := fun j j0 j1 => inV_le (hp j j0 j1) (by decide)
    have q6 : ∀ j : Int, 0 ≤ j → j < 16 → inV 65536 (at_ q.aP j) := fun j j0 j1 => inV_le (hq1 j j0 j1) (by decide)
    rw [d1, d1']
    simp only at hs r1 m1 m2 ⊢
    rw [hs]
    have hco : ∀ j : Int, 0 ≤ j → j < 4 → at_ q.aCorners j = at_ p.aCorners j := fun j _ _ => by rw [hc]
    refine ⟨?_, ?_, rfl, ?_⟩
    · rw [List.map_map]
      refine List.map_congr_left fun w hw => ?_
      show R_ref02_Add (fD p cage id _ [] w) b = fD q cage id _ [] w
      rw [fD_no rfl, fD_no rfl]
      unfold vtxD R_mesh_vertex
      simp only
      rw [hs]
      rcases mem_spots.1 hw with ⟨k1, k2, k3, k4⟩ | ⟨k1, k2, k3, k4, k5⟩ | ⟨k1, k2, k3, k4, k5⟩
      · rw [if_pos k1, if_pos k1]
        have hg := crn_rng k2 k3
        exact (hat _ hg.1 hg.2).symm
      · rw [if_neg (by omega), if_pos k1, if_neg (by omega), if_pos k1]
        have hk := r1 w.A k2 k3
        have := cubic_moved (Row_len4 p.aP w.A) (Row_len4 q.aP w.A) (i := w.B) (n := at_ (R_rate_Sides p.aP u) w.A) ⟨hk.1, hk.2, by omega, by omega⟩ (row_all (Q := inV 65536) p6 k2 k3) (row_all (Q := inV 65536) q6 k2 k3) (row_moved hat k2 k3)
        unfold R_mesh_side
        rw [hc]
        split <;> exact this.symm
      · rw [if_neg (by omega), if_neg (by omega), if_neg (by omega), if_neg (by omega)]
        exact (point_moved p.lP q.lP ⟨m2, m1, by omega, by omega⟩ ⟨m2, m1, by omega, by omega⟩ p6 q6 hat).symm
    · refine List.map_congr_left fun w hw => ?_
      unfold kD vtxD R_mesh_vertex
      simp only
      rw [hs]
      split
      · unfold R_mesh_corner; rw [hc]
      · split
        · unfold R_mesh_side; rw [hc]
          split <;> rfl
        · rfl
    · intro i i0 i1
      simp only [List.length_map] at i1
      rw [at_map i0 i1, fD_no rfl]
      exact vtx_in f1 (at_mem i0 i1)
  · rw [dice_no h, dice_no (by rw [e2]; exact h)]
    exact ⟨rfl, rfl, rfl, fun i i0 i1 => by simp at i1; omega⟩
def mvP (p : PatchT) (b : VT) (i : Int) : PatchT := PatchT.mk (mvL p.aP b i) p.Corners p.Normals p.Skin
theorem mvP_aP (p : PatchT) (b : VT) (i : Int) : (mvP p b i).aP = mvL p.aP b i := by
  show arrL 16 (mvL p.aP b i) = _
  exact arrL_self (by rw [mvL_len]; exact p.lP)
end Go.Proofs.M
namespace Go.Proofs.M
open Go Go.AH
set_option maxRecDepth 4000
set_option linter.unusedSimpArgs false
set_option linter.unusedVariables false
set_option maxHeartbeats 4000000
end Go.Proofs.M
