/- A part of the proof that a law answers true for every input of its row: own work, by an AI agent. -/
import Derived.Test.YtfddnapdeihchaaDoorB01
set_option linter.unusedSimpArgs false
set_option linter.unusedVariables false
set_option linter.defProp false
namespace Go.AH
variable [Globs]
set_option linter.unusedSectionVars false
open Go
def AOpX (P : Program) (n : Nat) (o : Oper) (K : (Nat → AV) → Heap → Prop) (X : Exit → (Nat → AV) → Heap → Prop) (f : Nat → AV) (H : Heap) : Prop :=
  ∀ μ a w, SR n w μ f H a → o.wp P a w (fun a' w' => ∃ μ' f' H', SR n w' μ' f' H' a' ∧ Ext w μ H w' μ' H' ∧ K f' H') (fun e a' w' => ∃ μ' f' H', SR n w' μ' f' H' a' ∧ Ext w μ H w' μ' H' ∧ X e f' H')
def AOpsX (P : Program) (n : Nat) (ops : Array Oper) (Q : Exit → (Nat → AV) → Heap → Prop) : List Nat → (Nat → AV) → Heap → Prop
  | [], f, H => Q .normal f H
  | i :: l, f, H => ∃ o, ops[i]? = some o ∧ ((o.guard = none ∧ AOpX P n o (AOpsX P n ops Q l) Q f H) ∨
      (∃ j want oj d b, o.guard = some (j, want) ∧ ops[j]? = some oj ∧ oj.dst = some d ∧ f d = gAV b ∧
        (b = some want → AOpX P n o (AOpsX P n ops Q l) Q f H) ∧ (b ≠ some want → ∃ d', o.dst = some d' ∧ Nat.ble (d' + 1) n = true ∧ AOpsX P n ops Q l (upd f d' (.tup [])) H)))
section
variable {P : Program} {n : Nat} {Q : Exit → (Nat → AV) → Heap → Prop} {f : Nat → AV} {H : Heap}
theorem AOp.x {o : Oper} {K : (Nat → AV) → Heap → Prop} {X : Exit → (Nat → AV) → Heap → Prop} (h : AOp P n o K f H) : AOpX P n o K X f H := fun μ a w hs => h μ a w hs _
theorem AOpsX.nil {ops : Array Oper} (h : Q .normal f H) : AOpsX P n ops Q [] f H := h
theorem AOpsX.cons {ops : Array Oper} {i : Nat} {l : List Nat} {o : Oper} (ho : ops[i]? = some o) (hg : o.guard = none) (h : AOp P n o (AOpsX P n ops Q l) f H) : AOpsX P n ops Q (i :: l) f H := ⟨o, ho, .inl ⟨hg, h.x⟩⟩
theorem AOpsX.consX {ops : Array Oper} {i : Nat} {l : List Nat} {o : Oper} (ho : ops[i]? = some o) (hg : o.guard = none) (h : AOpX P n o (AOpsX P n ops Q l) Q f H) : AOpsX P n ops Q (i :: l) f H := ⟨o, ho, .inl ⟨hg, h⟩⟩
theorem AOpsX.sound {ops : Array Oper} : ∀ (l : List Nat) (f : Nat → AV) (H : Heap), AOpsX P n ops Q l f H → ∀ μ a w, SR n w μ f H a → wpOps P ops (Post n μ H w Q) l a w
  | [], f, H, h, μ, _, _, hs => ⟨μ, f, H, hs, .refl _ _ _, h⟩
  | i :: l, f, H, h, μ, a, w, hs => by
    obtain ⟨o, ho, h⟩ := h
    have go : AOpX P n o (AOpsX P n ops Q l) Q f H → o.wp P a w (wpOps P ops (Post n μ H w Q) l) (Post n μ H w Q) := by
      intro h
      refine Oper.wp_mono ?_ ?_ (h μ a w hs)
      · rintro a' w' ⟨μ', f', H', h1, h2, h3⟩
        refine wpOps_mono ?_ l _ _ (AOpsX.sound l f' H' h3 μ' a' w' h1)
        rintro e2 a2 w2 ⟨μ2, f2, H2, g1, g2, g3⟩
        exact ⟨μ2, f2, H2, g1, h2.trans g2, g3⟩
      · exact fun e a w _ h => h
    unfold wpOps
    simp only [ho]
    rcases h with ⟨hg, h⟩ | ⟨j, want, oj, d, b, hg, hj, hd, hf, h1, h2⟩
    · simp only [Region.wanted, hg, if_true]
      exact .inl (go h)
    · simp only [Region.wanted, hg, yielded_of hs hj hd hf]
      by_cases hb : b = some want
      · subst hb
        simp only [BEq.rfl, if_true]
        exact .inl (go (h1 rfl))
      · have hbe : (b == some want) = false := by simpa using hb
        obtain ⟨d', hd', hn, h3⟩ := h2 hb
        simp only [hbe, Bool.false_eq_true, if_false, hd']
        exact AOpsX.sound l _ H h3 μ _ w (hs.put (.refl _ _ _) hs.hr hn (.tup rfl (by simp)))
theorem AOp.imp {o : Oper} {K K' : (Nat → AV) → Heap → Prop} (hk : ∀ f H, K f H → K' f H) (h : AOp P n o K f H) : AOp P n o K' f H := fun μ a w hs E =>
  Oper.wp_mono (fun _ _ ⟨μ', f', H', h1, h2, h3⟩ => ⟨μ', f', H', h1, h2, hk _ _ h3⟩) (fun _ _ _ _ h => h) (h μ a w hs E)
theorem AOps.x {ops : Array Oper} {K : (Nat → AV) → Heap → Prop} (hK : ∀ f H, K f H → Q .normal f H) : ∀ (l : List Nat) (f : Nat → AV) (H : Heap), AOps P n ops K l f H → AOpsX P n ops Q l f H
  | [], f, H, h => hK f H h
  | i :: l, f, H, h => by
    obtain ⟨o, ho, h⟩ := h
    refine ⟨o, ho, ?_⟩
    rcases h with ⟨hg, h⟩ | ⟨j, want, oj, d, b, hg, hj, hd, hf, h1, h2⟩
    · exact .inl ⟨hg, (AOp.imp (fun f H h => AOps.x hK l f H h) h).x⟩
    · refine .inr ⟨j, want, oj, d, b, hg, hj, hd, hf, fun e => (AOp.imp (fun f H h => AOps.x hK l f H h) (h1 e)).x, fun e => ?_⟩
      obtain ⟨d', hd', hn, h3⟩ := h2 e
      exact ⟨d', hd', hn, AOps.x hK l _ H h3⟩
theorem AOpsX.yesX {ops : Array Oper} {i : Nat} {l : List Nat} {o oj : Oper} {j d d' : Nat} {b want : Bool} (ho : ops[i]? = some o) (hg : o.guard = some (j, want)) (hj : ops[j]? = some oj) (hd : oj.dst = some d) (hd' : o.dst = some d') (hn : Nat.ble (d' + 1) n = true) (hf : f d = .bool b) (hb : b = want) (h : AOpX P n o (AOpsX P n ops Q l) Q f H) : AOpsX P n ops Q (i :: l) f H :=
  ⟨o, ho, .inr ⟨j, want, oj, d, some b, hg, hj, hd, hf, fun _ => h, fun e => absurd (congrArg some hb) e⟩⟩
theorem AOpsX.yes {ops : Array Oper} {i : Nat} {l : List Nat} {o oj : Oper} {j d d' : Nat} {b want : Bool} (ho : ops[i]? = some o) (hg : o.guard = some (j, want)) (hj : ops[j]? = some oj) (hd : oj.dst = some d) (hd' : o.dst = some d') (hn : Nat.ble (d' + 1) n = true) (hf : f d = .bool b) (hb : b = want) (h : AOp P n o (AOpsX P n ops Q l) f H) : AOpsX P n ops Q (i :: l) f H :=
  .yesX ho hg hj hd hd' hn hf hb h.x
theorem AOpsX.no {ops : Array Oper} {i : Nat} {l : List Nat} {o oj : Oper} {j d d' : Nat} {b want : Bool} (ho : ops[i]? = some o) (hg : o.guard = some (j, want)) (hj : ops[j]? = some oj) (hd : oj.dst = some d) (hd' : o.dst = some d') (hn : Nat.ble (d' + 1) n = true) (hf : f d = .bool b) (hb : b ≠ want) (h : AOpsX P n ops Q l (upd f d' (.tup [])) H) : AOpsX P n ops Q (i :: l) f H :=
  ⟨o, ho, .inr ⟨j, want, oj, d, some b, hg, hj, hd, hf, fun e => absurd (Option.some.inj e) hb, fun _ => ⟨d', hd', hn, h⟩⟩⟩
theorem AOpsX.un {ops : Array Oper} {i : Nat} {l : List Nat} {o oj : Oper} {j d d' : Nat} {want : Bool} (ho : ops[i]? = some o) (hg : o.guard = some (j, want)) (hj : ops[j]? = some oj) (hd : oj.dst = some d) (hd' : o.dst = some d') (hn : Nat.ble (d' + 1) n = true) (hf : f d = .tup []) (h : AOpsX P n ops Q l (upd f d' (.tup [])) H) : AOpsX P n ops Q (i :: l) f H :=
  ⟨o, ho, .inr ⟨j, want, oj, d, none, hg, hj, hd, hf, fun e => (by cases e), fun _ => ⟨d', hd', hn, h⟩⟩⟩
theorem AWP.regionX {id : Nat} {ops : Array Oper} {l : List Nat} (hl : List.range ops.size = l) (h : AOpsX P n ops Q l f H) : AWP P n (.region id ops false) Q f H :=
  fun μ a w hs => wp_region (hl ▸ AOpsX.sound l f H h μ a w hs)
end
def ACallsX (P : Program) (g : FuncId) (args : List AV) (H : Heap) (R : AV → Heap → Prop) (X : List PanicEntry → Heap → Prop) : Prop :=
  ∀ μ w (vs : Array Value), HR w μ H → VRs w μ H args vs.toList →
    Calls P g vs w fun e w' => (∃ v, e = .returned v ∧ ∃ μ' H' r, HR w' μ' H' ∧ VR w' μ' H' r v ∧ Ext w μ H w' μ' H' ∧ R r H') ∨ (∃ ch, e = .panicked ch ∧ ∃ μ' H', HR w' μ' H' ∧ Ext w μ H w' μ' H' ∧ X ch H')
theorem ACalls.x {P : Program} {g : FuncId} {args : List AV} {H : Heap} {R : AV → Heap → Prop} {X : List PanicEntry → Heap → Prop} (h : ACalls P g args H R) : ACallsX P g args H R X :=
  fun μ w vs h1 h2 => (h μ w vs h1 h2).mono fun _ _ h => .inl h
theorem ACallsX.of_body {P : Program} {g : FuncId} {fn : Func} {c : Code} {args : List AV} {H : Heap} {R : AV → Heap → Prop} {X : List PanicEntry → Heap → Prop} {n : Nat}
    (hf : P.funcs[g]? = some fn) (hb : fn.body = some c) (hn : fn.ntmps = n) (hle : Nat.ble args.length n = true)
    (h : AWP P n c (fun e f' H' => ((e = .normal ∨ e = .ret) ∧ ∃ r, Res P n fn f' H' r ∧ R r H') ∨ ∃ ch, e = .panic ch ∧ X ch H') (entry args) H) (hd : Globs.dfr = [] := by rfl) : ACallsX P g args H R X := by
  intro μ w vs hr hv
  have hlen : args.length = vs.size := by simpa using hv.1
  have hle' : args.length ≤ n := Nat.le_of_ble_eq_true hle
  refine calls_of_wp hf hb ?_
  have hs : SR n w μ (entry args) H { tmps := vs ++ Array.replicate (fn.ntmps - vs.size) undef, defers := [] } := by
    refine ⟨hr, by simp [hn]; omega, fun t => ?_, hd.symm⟩
    unfold entry
    rcases Nat.lt_or_ge t args.length with ht | ht
    · have h1 : args[t]? = some args[t] := List.getElem?_eq_getElem ht
      have h2 : vs.toList[t]? = some vs[t] := by simp [hlen ▸ ht]
      have := hv.2 t _ _ h1 h2
      have e1 : args.getD t .undef = args[t] := by simp [ht]
      have e2 : (vs ++ Array.replicate (fn.ntmps - vs.size) undef).getD t undef = vs[t] := by
        simp [Array.getD_eq_getD_getElem?, Array.getElem?_append, hlen ▸ ht]
      rw [e1, e2]; exact this
    · have e1 : args.getD t .undef = .undef := by simp [ht]
      rw [e1]; exact .undef _
  refine wp_mono (h μ _ w hs) ?_
  rintro e a' w' ⟨μ', f', H', h1, h2, ⟨h3, r, h4, h5⟩ | ⟨ch, rfl, h6⟩⟩
  · obtain ⟨v, hv1, hv2⟩ := h4 μ' a' w' h1
    rcases h3 with rfl | rfl
    · exact ⟨h1.defers.trans hd, v, hv1, .inl ⟨v, rfl, μ', H', r, h1.hr, hv2, h2, h5⟩⟩
    · exact ⟨h1.defers.trans hd, v, hv1, .inl ⟨v, rfl, μ', H', r, h1.hr, hv2, h2, h5⟩⟩
  · exact ⟨h1.defers.trans hd, .inr ⟨ch, rfl, μ', H', h1.hr, h2, h6⟩⟩
section
variable {P : Program} {n d : Nat} {f : Nat → AV} {H : Heap} {K : (Nat → AV) → Heap → Prop} {Q : Exit → (Nat → AV) → Heap → Prop} {ty : TypeId} {pos : String} {after : Array Edge} {guard : Option (Nat × Bool)}
theorem AOpX.call {g : FuncId} {c : Operand} {args : Array Operand} {at_ : Array TypeId} {caps as_ : List AV} {R : AV → Heap → Prop} {X : List PanicEntry → Heap → Prop} {dst : Option Nat} (hn : ∀ d, dst = some d → Nat.ble (d + 1) n = true) (hc : ev f c = .fn g caps) (has : args.toList.map (ev f) = as_) (ht : TFun P g)
    (hC : ACallsX P g (as_ ++ caps) H R X) (hK : ∀ r H', R r H' → K (match dst with | some d => upd f d r | none => f) H') (hX : ∀ ch H', X ch H' → Q (.panic ch) f H') : AOpX P n ⟨dst, .call { callee := .value c, args, argTypes := at_ }, ty, pos, after, guard⟩ K Q f H := by
  intro μ a w hs
  have h1 := hs.ev c; rw [hc] at h1
  obtain ⟨fn, t1, t2, t3⟩ := ht
  generalize hz : a.eval c = z at h1
  cases h1 with
  | fn hl hcv =>
    rename_i vs
    have hargs : VRs w μ H (as_ ++ caps) ((args.map a.eval ++ vs : Array Value)).toList := by
      have h2 := VRs_ev hs args.toList
      rw [has] at h2
      refine ⟨by have := h2.1; simp at this ⊢; omega, fun j x y hx hy => ?_⟩
      rcases Nat.lt_or_ge j as_.length with h | h
      · rw [List.getElem?_append_left h] at hx
        have hl2 : j < (args.map a.eval).size := by have := h2.1; simp at this ⊢; omega
        rw [Array.toList_append, List.getElem?_append_left (by simpa using hl2)] at hy
        refine h2.2 j x y hx ?_
        simpa using hy
      · rw [List.getElem?_append_right h] at hx
        have hl2 : (args.map a.eval).toList.length = as_.length := by have := h2.1; simp at this ⊢; omega
        rw [Array.toList_append, List.getElem?_append_right (by omega), hl2] at hy
        exact hcv _ x y hx (by simpa using hy)
    have hrun : (execOp a.eval ⟨dst, .call { callee := .value c, args, argTypes := at_ }, ty, pos, after, guard⟩).run P w = .ok (.enter g (args.map a.eval ++ vs)) w := by
      have t2' : fn.name ≠ "runtime.NumGoroutine" := by simpa using t2
      have t3' : fn.body ≠ none := fun h => by rw [h] at t3; cases t3
      simp [execOp, resolve, hz, Deferred.ofValue, invoke, callFunc, t1, t2', t3']
    unfold Oper.wp
    rw [hrun]
    refine (hC μ w _ hs.hr hargs).mono ?_
    rintro e w' (⟨v, rfl, μ', H', r, g1, g2, g3, g4⟩ | ⟨ch, rfl, μ', H', g1, g3, g4⟩)
    · cases dst with
      | some d => exact ⟨μ', _, H', hs.put g3 g1 (hn d rfl) g2, g3, hK r H' g4⟩
      | none => exact ⟨μ', _, H', hs.stay g3 g1, g3, hK r H' g4⟩
    · exact ⟨μ', f, H', hs.stay g3 g1, g3, hX ch H' g4⟩
theorem AOpX.panic {x : Operand} {t : TypeId} {k : IntKind} {m : Int} {dst : Option Nat} (hx : ev f x = .iface t (.int k m)) (hX : Q (.panic [{ v := .iface t (.int k m), recovered := false }]) f H) : AOpX P n ⟨dst, .panic x, ty, pos, after, guard⟩ K Q f H := by
  intro μ a w hs
  have h1 := hs.ev x; rw [hx] at h1
  generalize hz : a.eval x = z at h1
  cases h1 with
  | iface h =>
    cases h
    unfold Oper.wp
    have hrun : (execOp a.eval ⟨dst, .panic x, ty, pos, after, guard⟩).run P w = .halt (.panic (.iface t (.int k m))) w := by
      simp [execOp, hz]; rfl
    rw [hrun]
    exact ⟨μ, f, H, hs, .refl _ _ _, hX⟩
end
end Go.AH
namespace Go.AH
variable [Globs]
set_option linter.unusedSectionVars false
open Go
abbrev pan (t : TypeId) (k : Int) : List PanicEntry := [{ v := .iface t (.int .i64 k), recovered := false }]
def PX {α : Type} (P : Program) (t : TypeId) (g : FuncId) (args : List AV) (E : Except Int α) (enc : α → AV) : Prop :=
  ∀ H, ACallsX P g args H (fun r H' => ∃ x, E = .ok x ∧ r = enc x ∧ Mono H H') (fun ch H' => ∃ k, E = .error k ∧ ch = pan t k ∧ Mono H H')
theorem ACallsX.of_body' {P : Program} {g : FuncId} {fn : Func} {c : Code} {args : List AV} {H : Heap} {R : AV → Heap → Prop} {X : List PanicEntry → Heap → Prop} {n : Nat}
    (hf : P.funcs[g]? = some fn) (hb : fn.body = some c) (hn : fn.ntmps = n) (hle : Nat.ble args.length n = true)
    (h : AWP P n c (fun e f H => (∃ f' H', Ghost n f H f' H' ∧ (e = .normal ∨ e = .ret) ∧ ∃ r, Res P n fn f' H' r ∧ R r H') ∨ (∃ ch, e = .panic ch ∧ X ch H)) (entry args) H) (hd : Globs.dfr = [] := by rfl) : ACallsX P g args H R X :=
  .of_body hf hb hn hle (fun μ a w hs => by
    refine wp_mono (h μ a w hs) ?_
    rintro e a' w' ⟨μ', f', H', g1, g2, ⟨f3, H3, gh, q⟩ | q⟩
    · obtain ⟨k1, k2⟩ := gh _ _ _ g1
      exact ⟨μ', f3, H3, k1, g2.trans k2, .inl q⟩
    · exact ⟨μ', f', H', g1, g2, .inr q⟩) hd
section
variable {P : Program} {n d : Nat} {f : Nat → AV} {H H0 : Heap} {K : (Nat → AV) → Heap → Prop} {Q : Exit → (Nat → AV) → Heap → Prop} {ty : TypeId} {pos : String} {after : Array Edge} {guard : Option (Nat × Bool)} {t : TypeId} {g : FuncId} {c : Operand} {args : Array Operand} {at_ : Array TypeId} {caps as_ : List AV}
theorem AOpX.ghost {o : Oper} {f' : Nat → AV} {H' : Heap} (hg : Ghost n f H f' H') (h : AOpX P n o K Q f' H') : AOpX P n o K Q f H := by
  intro μ a w hs
  obtain ⟨h1, h2⟩ := hg μ a w hs
  refine Oper.wp_mono ?_ ?_ (h μ a w h1)
  · rintro a' w' ⟨μ', f2, H2, g1, g2, g3⟩
    exact ⟨μ', f2, H2, g1, h2.trans g2, g3⟩
  · rintro e a' w' _ ⟨μ', f2, H2, g1, g2, g3⟩
    exact ⟨μ', f2, H2, g1, h2.trans g2, g3⟩
theorem AOpX.frz {o : Oper} {v : AV} {es len : Nat} {cells : List AV} (t : Nat) (h : Own H0 H es v len cells) (ht : f t = v) (hm : Mono H0 H) (hK : ∀ H', Mono H0 H' → (∀ i, NotId v i → H' i = H i) → AOpX P n o K Q (upd f t (.sl len cells)) H') : AOpX P n o K Q f H :=
  let ⟨H', g, m, k⟩ := Ghost.own (n := n) h ht hm
  .ghost g (hK H' m k)
theorem AOpX.callE {R : AV → Heap → Prop} {X : List PanicEntry → Heap → Prop} {dst : Option Nat} (hn : ∀ d, dst = some d → Nat.ble (d + 1) n = true) (hc : ev f c = .fn g caps) (has : args.toList.map (ev f) ++ caps = as_) (ht : TFun P g)
    (hC : ACallsX P g as_ H R X) (hK : ∀ r H', R r H' → K (match dst with | some d => upd f d r | none => f) H') (hX : ∀ ch H', X ch H' → Q (.panic ch) f H') : AOpX P n ⟨dst, .call { callee := .value c, args, argTypes := at_ }, ty, pos, after, guard⟩ K Q f H :=
  .call hn hc rfl ht (by rw [has]; exact hC) hK hX
theorem AOpX.px {α : Type} {E : Except Int α} {enc : α → AV} (hn : Nat.ble (d + 1) n = true) (hc : ev f c = .fn g caps) (has : args.toList.map (ev f) ++ caps = as_) (ht : TFun P g)
    (hC : PX P t g as_ E enc) (hK : ∀ x H', E = .ok x → Mono H H' → K (upd f d (enc x)) H') (hX : ∀ k H', E = .error k → Mono H H' → Q (.panic (pan t k)) f H') : AOpX P n ⟨some d, .call { callee := .value c, args, argTypes := at_ }, ty, pos, after, guard⟩ K Q f H :=
  .callE (by rintro _ ⟨⟩; exact hn) hc has ht (hC H) (by rintro r H' ⟨x, e, rfl, m⟩; exact hK x H' e m) (by rintro ch H' ⟨k, e, rfl, m⟩; exact hX k H' e m)
theorem AOpX.need {b : Bool} {k : Int} {u : AV} (hn : Nat.ble (d + 1) n = true) (hc : ev f c = .fn g caps) (has : args.toList.map (ev f) ++ caps = as_) (ht : TFun P g)
    (hC : PX P t g as_ (if b = true then Except.ok () else .error k) fun _ => u) (hK : b = true → ∀ H', Mono H H' → K (upd f d u) H') (hX : b = false → ∀ H', Mono H H' → Q (.panic (pan t k)) f H') : AOpX P n ⟨some d, .call { callee := .value c, args, argTypes := at_ }, ty, pos, after, guard⟩ K Q f H :=
  .px hn hc has ht hC (fun _ H' e m => by
    cases b with
    | true => exact hK rfl H' m
    | false => simp at e) (fun k' H' e m => by
    cases b with
    | true => simp at e
    | false => simp at e; subst e; exact hX rfl H' m)
end
theorem PC.px {α : Type} {P : Program} {t : TypeId} {g : FuncId} {args : List AV} {r : AV} {x : α} {enc : α → AV} (h : PC P g args r) (hr : r = enc x) : PX P t g args (.ok x) enc :=
  fun H => ((h H).mono fun _ _ ⟨e, m⟩ => ⟨x, rfl, e.trans hr, m⟩).x
def noHp : Heap := fun _ => none
theorem noHp_owned {μ : Nat → Nat} {b : Nat} : ¬ Owned μ noHp b := by rintro ⟨id, B, h, _⟩; cases h
inductive LowA : AV → Prop where
  | undef : LowA .undef
  | int (k : IntKind) (n : Int) : LowA (.int k n)
  | bool (b : Bool) : LowA (.bool b)
  | str (s : ByteArray) : LowA (.str s)
  | sl (len : Nat) (cells : List AV) (h : ∀ x ∈ cells, LowA x) : LowA (.sl len cells)
  | fptr (cells : List AV) (off : Nat) (h : ∀ x ∈ cells, LowA x) : LowA (.fptr cells off)
  | fn (f : FuncId) (caps : List AV) (h : ∀ x ∈ caps, LowA x) : LowA (.fn f caps)
theorem VR.lowA {w : World} {μ μ' : Nat → Nat} {H : Heap} {x : AV} {v : Value} (h : VR w μ H x v) (hl : LowA x) : VR w μ' noHp x v := by
  induction h with
  | undef v => exact .undef v
  | int k n => exact .int k n
  | bool b => exact .bool b
  | str s => exact .str s
  | sl0 a cap => exact .sl0 a cap
  | sl hlen hf hc _ ih =>
    cases hl with
    | sl _ _ hl => exact .sl hlen ⟨hf.1, noHp_owned⟩ hc fun j x hj => ih j x hj (hl x (List.mem_of_getElem? hj))
  | nilptr => cases hl
  | ptr _ _ => cases hl
  | iter _ => cases hl
  | fptr hf hc _ ih =>
    cases hl with
    | fptr _ _ hl => exact .fptr ⟨hf.1, noHp_owned⟩ hc fun j x hj => ih j x hj (hl x (List.mem_of_getElem? hj))
  | snil => cases hl
  | slm _ _ _ => cases hl
  | mapnil => cases hl
  | map _ => cases hl
  | nilfn => cases hl
  | fn hl2 _ ih =>
    cases hl with
    | fn _ _ hl => exact .fn hl2 fun j x y hx hy => ih j x y hx hy (hl x (List.mem_of_getElem? hx))
  | nilIface => cases hl
  | iface _ _ => cases hl
  | agg _ _ _ => cases hl
  | tup _ _ _ => cases hl
theorem HR.low {w : World} {μ : Nat → Nat} {H : Heap} (hv : ∀ g, Globs.val g = none) (h : HR w μ H) : HR w (fun i => i) noHp where
  rows := fun _ _ _ h => by cases h
  maps := fun _ _ h => by cases h
  born := fun _ _ _ _ h => by cases h
  iters := fun _ _ h => by cases h
  inj := fun _ _ _ _ h => by cases h
  fin := ⟨0, fun _ _ => rfl⟩
  glob := ⟨fun g c hg => (by rw [hv g] at hg; cases hg), fun g cs hg => let ⟨h1, h2⟩ := h.glob.blk g cs hg; ⟨⟨h1.1, noHp_owned⟩, h2⟩⟩
theorem PC.liveI {P : Program} {g : FuncId} {args args0 : List AV} {k : IntKind} {z : Int} {H : Heap} (hv : ∀ g, Globs.val g = none) (h : PC P g args0 (.int k z))
    (ht : ∀ w μ (vs : List Value), HR w μ H → VRs w μ H args vs → VRs w (fun i => i) noHp args0 vs) : ACalls P g args H fun r H' => r = .int k z ∧ H' = H := by
  intro μ w vs hr hvs
  refine (h noHp (fun i => i) w vs (hr.low hv) (ht w μ _ hr hvs)).mono ?_
  rintro e w' ⟨v, rfl, μ', H', r, _, h2, h3, rfl, _⟩
  cases h2
  obtain ⟨e1, e2⟩ := old_Ext hr h3.size (fun b hb => (h3.frz b ⟨hb, noHp_owned⟩).1) h3.rest
  exact ⟨_, rfl, μ, H, _, e2, .int _ _, e1, rfl, rfl⟩
end Go.AH
namespace Go.AH
variable [Globs]
set_option linter.unusedSectionVars false
open Go
section
variable {P : Program} {n : Nat} {Q : Exit → (Nat → AV) → Heap → Prop} {f : Nat → AV} {H : Heap}
theorem AWP.region_anyX {id : Nat} {ops : Array Oper} (hm : P.follows .mixedOrders = true) (hback : backB ops = true) (I : (Nat → Bool) → (Nat → AV) → Heap → Prop)
    (h0 : I (fun _ => false) f H)
    (step : ∀ S i o, ops[i]? = some o → S i = false → (∀ e ∈ o.after, Region.binds .any e = true → S e.on = true) → ∀ f H, I S f H →
      (o.guard = none ∧ AOpX P n o (I (fun k => Nat.beq k i || S k)) Q f H) ∨
      (∃ j want oj d b, o.guard = some (j, want) ∧ ops[j]? = some oj ∧ oj.dst = some d ∧ f d = gAV b ∧
        (b = some want → AOpX P n o (I (fun k => Nat.beq k i || S k)) Q f H) ∧
        (b ≠ some want → ∃ d', o.dst = some d' ∧ Nat.ble (d' + 1) n = true ∧ I (fun k => Nat.beq k i || S k) (upd f d' (.tup [])) H)))
    (fin : ∀ S f H, (∀ i, i < ops.size → S i = true) → I S f H → Q .normal f H) : AWP P n (.region id ops true) Q f H := by
  have key : ∀ (fuel : Nat) (listed : Array Bool), listed.size = ops.size → left ops.size (listedOf listed) = fuel → ∀ μ f H a w, SR n w μ f H a → I (listedOf listed) f H →
      wpAny P .any ops (Post n μ H w Q) fuel listed a w := by
    intro fuel
    induction fuel with
    | zero =>
      intro listed hsz hl μ f H a w hs hI
      have hall := left_zero hl
      refine ⟨?_, μ, f, H, hs, .refl _ _ _, fin _ f H hall hI⟩
      cases hr : Region.ready .any ops listed with
      | nil => rfl
      | cons i l =>
        have hi : i ∈ Region.ready .any ops listed := by rw [hr]; exact List.mem_cons_self
        obtain ⟨h1, o, ho, _⟩ := mem_ready.1 hi
        have hlt : i < ops.size := by
          rcases Nat.lt_or_ge i ops.size with h' | h'
          · exact h'
          · rw [Array.getElem?_eq_none h'] at ho; cases ho
        have h2 := hall i hlt
        simp only [listedOf, Array.getD_eq_getD_getElem?] at h1 h2
        rw [Array.getElem?_eq_getElem (hsz ▸ hlt)] at h1 h2
        simp only [Option.getD_some] at h1 h2
        rw [h1] at h2; cases h2
    | succ fuel ih =>
      intro listed hsz hl μ f H a w hs hI
      refine ⟨fun hr => ?_, fun i hi => ?_⟩
      · exfalso
        obtain ⟨i, hi1, hi2, hi3⟩ := left_pos (m := ops.size) (S := listedOf listed) (by omega)
        have : i ∈ Region.ready .any ops listed := by
          refine mem_ready.2 ⟨?_, ops[i], Array.getElem?_eq_getElem hi1, fun e he hb => ?_⟩
          · simp only [listedOf, Array.getD_eq_getD_getElem?] at hi2 ⊢
            rw [Array.getElem?_eq_getElem (hsz ▸ hi1)] at hi2 ⊢
            exact hi2
          · exact hi3 _ (backB_spec hback (Array.getElem?_eq_getElem hi1) he hb)
        rw [hr] at this; cases this
      · obtain ⟨h1, o, ho, h2⟩ := mem_ready.1 hi
        have hlt : i < ops.size := by
          rcases Nat.lt_or_ge i ops.size with h' | h'
          · exact h'
          · rw [Array.getElem?_eq_none h'] at ho; cases ho
        have hSi : listedOf listed i = false := by
          simp only [listedOf, Array.getD_eq_getD_getElem?] at h1 ⊢
          rw [Array.getElem?_eq_getElem (hsz ▸ hlt)] at h1 ⊢
          exact h1
        have hset := listedOf_set (l := listed) (i := i) (by omega)
        have hleft : left ops.size (listedOf (listed.setIfInBounds i true)) = fuel := by
          rw [hset]
          have := left_set (m := ops.size) (S := listedOf listed) hlt hSi
          omega
        have go : ∀ μ' f' H' a' w', SR n w' μ' f' H' a' → Ext w μ H w' μ' H' → I (fun k => Nat.beq k i || listedOf listed k) f' H' →
            wpAny P .any ops (Post n μ H w Q) fuel (listed.setIfInBounds i true) a' w' := by
          intro μ' f' H' a' w' hs' he' hI'
          rw [← hset] at hI'
          have h3 := ih (listed.setIfInBounds i true) (by simp [hsz]) hleft μ' f' H' a' w' hs' hI'
          have mono : ∀ (fuel : Nat) (l : Array Bool) (a : Act) (w1 : World), wpAny P .any ops (Post n μ' H' w' Q) fuel l a w1 → wpAny P .any ops (Post n μ H w Q) fuel l a w1 := by
            have hq : ∀ e a w1, Post n μ' H' w' Q e a w1 → Post n μ H w Q e a w1 := by
              rintro e a w1 ⟨μ2, f2, H2, g1, g2, g3⟩
              exact ⟨μ2, f2, H2, g1, he'.trans g2, g3⟩
            intro fuel
            induction fuel with
            | zero => intro l a w1 h; exact ⟨h.1, hq _ _ _ h.2⟩
            | succ fuel ih2 =>
              intro l a w1 h
              refine ⟨fun h0 => hq _ _ _ (h.1 h0), fun j hj => ?_⟩
              have h4 := h.2 j hj
              unfold wpOp at h4 ⊢
              split
              · rename_i hn; simp only [hn] at h4; exact ih2 _ _ _ h4
              · rename_i oj hoj
                simp only [hoj] at h4
                split
                · rename_i hw
                  simp only [hw, if_true] at h4
                  rcases h4 with h4 | ⟨h5, a1, w2, h6⟩
                  · exact .inl (Oper.wp_mono (fun a w h => ih2 _ a w h) (fun e a w _ h => hq e a w h) h4)
                  · exact .inr ⟨h5, a1, w2, hq _ _ _ h6⟩
                · rename_i hw
                  simp only [hw] at h4
                  exact ih2 _ _ _ h4
          exact mono _ _ _ _ h3
        have opgo : AOpX P n o (I (fun k => Nat.beq k i || listedOf listed k)) Q f H → o.wp P a w (wpAny P .any ops (Post n μ H w Q) fuel (listed.setIfInBounds i true)) (Post n μ H w Q) := by
          intro hop
          refine Oper.wp_mono ?_ ?_ (hop μ a w hs)
          · rintro a' w' ⟨μ', f', H', g1, g2, g3⟩
            exact go μ' f' H' a' w' g1 g2 g3
          · intro e a w _ h; exact h
        unfold wpOp
        simp only [ho]
        rcases step (listedOf listed) i o ho hSi h2 f H hI with ⟨hg, hop⟩ | ⟨j, want, oj, d, b, hg, hj, hd, hf, hyes, hno⟩
        · simp only [Region.wanted, hg, if_true]
          exact .inl (opgo hop)
        · simp only [Region.wanted, hg, yielded_of hs hj hd hf]
          by_cases hb : b = some want
          · subst hb
            simp only [BEq.rfl, if_true]
            exact .inl (opgo (hyes rfl))
          · have hbe : (b == some want) = false := by simpa using hb
            simp only [hbe, Bool.false_eq_true, if_false]
            obtain ⟨d', hd', hn', hI'⟩ := hno hb
            rw [hd']
            exact go μ _ H _ w (hs.put (.refl _ _ _) hs.hr hn' (.tup rfl (by simp))) (.refl _ _ _) hI'
  intro μ a w hs
  have hh : ({ w with drawn := w.drawn + 1 } : World).heap = w.heap := rfl
  have hs' : SR n { w with drawn := w.drawn + 1 } μ f H a := hs.stay (.heap hh ⟨rfl, rfl, rfl, fun _ => Nat.le_succ _⟩) (hs.hr.heap hh)
  refine wp_region_any hm ?_
  have hS0 : listedOf (Array.replicate ops.size false) = fun _ => false := by
    funext k
    simp only [listedOf, Array.getD_eq_getD_getElem?, Array.getElem?_replicate]
    split <;> rfl
  have hl0 : left ops.size (listedOf (Array.replicate ops.size false)) = ops.size := by
    rw [hS0]; unfold left; rw [List.filter_eq_self.2 (by simp)]; simp
  have := key ops.size (Array.replicate ops.size false) (by simp) hl0 μ f H a _ hs' (by rw [hS0]; exact h0)
  have mono : ∀ (fuel : Nat) (l : Array Bool) (a : Act) (w1 : World), wpAny P .any ops (Post n μ H { w with drawn := w.drawn + 1 } Q) fuel l a w1 → wpAny P .any ops (Post n μ H w Q) fuel l a w1 := by
    have hq : ∀ e a w1, Post n μ H { w with drawn := w.drawn + 1 } Q e a w1 → Post n μ H w Q e a w1 := by
      rintro e a w1 ⟨μ2, f2, H2, g1, g2, g3⟩
      exact ⟨μ2, f2, H2, g1, (Ext.heap hh ⟨rfl, rfl, rfl, fun _ => Nat.le_succ _⟩).trans g2, g3⟩
    intro fuel
    induction fuel with
    | zero => intro l a w1 h; exact ⟨h.1, hq _ _ _ h.2⟩
    | succ fuel ih2 =>
      intro l a w1 h
      refine ⟨fun h0 => hq _ _ _ (h.1 h0), fun j hj => ?_⟩
      have h4 := h.2 j hj
      unfold wpOp at h4 ⊢
      split
      · rename_i hn; simp only [hn] at h4; exact ih2 _ _ _ h4
      · rename_i oj hoj
        simp only [hoj] at h4
        split
        · rename_i hw
          simp only [hw, if_true] at h4
          rcases h4 with h4 | ⟨h5, a1, w2, h6⟩
          · exact .inl (Oper.wp_mono (fun a w h => ih2 _ a w h) (fun e a w _ h => hq e a w h) h4)
          · exact .inr ⟨h5, a1, w2, hq _ _ _ h6⟩
        · rename_i hw
          simp only [hw] at h4
          exact ih2 _ _ _ h4
  exact mono _ _ _ _ this
theorem AWP.region_quietX {id : Nat} {ops : Array Oper} (hm : P.follows .mixedOrders = true) (hback : backB ops = true) (k : Nat) (tail : List Nat) (htl : (List.range ops.size).drop k = tail) (hq : quietB ops k = true) (M : Heap → Prop) (hM : M H)
    (h : QE P n ops M (fun f => ∀ H', M H' → AOpsX P n ops Q tail f H') k 0 f) : AWP P n (.region id ops true) Q f H := by
  obtain ⟨L, h⟩ := h
  have hL : L.length = k := by have := h.len; omega
  obtain ⟨hT, hops⟩ := h.get
  simp only [quietB, Bool.and_eq_true] at hq
  obtain ⟨⟨hk, hq1⟩, hq2⟩ := hq
  have hk := Nat.le_of_ble_eq_true hk
  rw [List.all_eq_true] at hq1 hq2
  subst htl
  -- what holds at each set: the frame is the sequential one; once the head is through, the tail's own condition
  let I : (Nat → Bool) → (Nat → AV) → Heap → Prop := fun S f' H' => Dn ops S ∧
    ((∀ i, k ≤ i → i < ops.size → S i = false) ∧ (∀ t, f' t = cur L 0 S f t) ∧ M H' ∨
     ∃ i, k < i ∧ i ≤ ops.size ∧ (∀ j, j < i → S j = true) ∧ (∀ j, i ≤ j → j < ops.size → S j = false) ∧ AOpsX P n ops Q ((List.range ops.size).drop i) f' H')
  have beqf : ∀ x y : Nat, x ≠ y → Nat.beq x y = false := fun x y h => by
    cases hb : Nat.beq x y with
    | false => rfl
    | true => exact absurd (Nat.eq_of_beq_eq_true hb) h
  have hdn : ∀ (S : Nat → Bool) i o, Dn ops S → ops[i]? = some o → (∀ e ∈ o.after, Region.binds .any e = true → S e.on = true) → Dn ops (fun k => Nat.beq k i || S k) := by
    intro S i o hD ho hr j oj hj hS e he hb
    by_cases hji : j = i
    · subst hji
      rw [ho] at hj; cases hj
      simp [hr e he hb]
    · have hS : (Nat.beq j i || S j) = true := hS
      rw [beqf _ _ hji, Bool.false_or] at hS
      simp [hD j oj hj hS e he hb]
  have bef : ∀ (S : Nat → Bool), Dn ops S → ∀ i m j, (befL ops.toList [])[i]? = some m → m.testBit j = true → S i = true → S j = true := fun S hD => bef_spec hD ops.toList [] (fun j => by simp) (fun i m j hi => by simp at hi)
  have befD : ∀ (S : Nat → Bool), Dn ops S → ∀ i j, ((befL ops.toList []).getD i 0).testBit j = true → S i = true → S j = true := by
    intro S hD i j hb hS
    rcases Nat.lt_or_ge i (befL ops.toList []).length with h | h
    · rw [List.getD_eq_getElem?_getD, List.getElem?_eq_getElem h, Option.getD_some] at hb
      exact bef S hD i _ j (List.getElem?_eq_getElem h) hb hS
    · rw [List.getD_eq_getElem?_getD, List.getElem?_eq_none h, Option.getD_none] at hb
      simp at hb
  refine AWP.region_anyX hm hback I ⟨fun _ _ _ h => (by cases h), .inl ⟨fun _ _ _ => rfl, fun t => (cur_other L 0 f fun _ _ _ _ => rfl).symm, hM⟩⟩ ?_ ?_
  · -- a step
    intro S i o ho hSi hr f' H' ⟨hD, hcase⟩
    have hi : i < ops.size := by
      rcases Nat.lt_or_ge i ops.size with h' | h'
      · exact h'
      · rw [Array.getElem?_eq_none h'] at ho; cases ho
    have hD' := hdn S i o hD ho hr
    have hSi' : (fun k => Nat.beq k i || S k) i = true := by simp
    -- the tail's operations, from a state at which all before i are through
    have tailstep : k ≤ i → (∀ j, j < i → S j = true) → (∀ j, i ≤ j → j < ops.size → S j = false) → AOpsX P n ops Q ((List.range ops.size).drop i) f' H' →
        (o.guard = none ∧ AOpX P n o (I (fun k => Nat.beq k i || S k)) Q f' H') ∨
        (∃ j want oj d b, o.guard = some (j, want) ∧ ops[j]? = some oj ∧ oj.dst = some d ∧ f' d = gAV b ∧ (b = some want → AOpX P n o (I (fun k => Nat.beq k i || S k)) Q f' H') ∧ (b ≠ some want → ∃ d', o.dst = some d' ∧ Nat.ble (d' + 1) n = true ∧ I (fun k => Nat.beq k i || S k) (upd f' d' (.tup [])) H')) := by
      intro hki hbef hlow hA
      have hdrop : (List.range ops.size).drop i = i :: (List.range ops.size).drop (i + 1) := by
        rw [List.drop_eq_getElem_cons (by simpa using hi)]; simp
      rw [hdrop] at hA
      obtain ⟨o', ho', hA⟩ := hA
      rw [ho] at ho'; cases ho'
      have hI : ∀ f2 H2, AOpsX P n ops Q ((List.range ops.size).drop (i + 1)) f2 H2 → I (fun k => Nat.beq k i || S k) f2 H2 := fun f2 H2 h =>
        ⟨hD', .inr ⟨i + 1, by omega, by omega, fun j hj => by
          by_cases hji : j = i
          · subst hji; simp
          · simp [hbef j (by omega)], fun j hj1 hj2 => by show (Nat.beq j i || S j) = false; rw [beqf _ _ (by omega), Bool.false_or]; exact hlow j (by omega) hj2, h⟩⟩
      have mono : AOpX P n o (AOpsX P n ops Q ((List.range ops.size).drop (i + 1))) Q f' H' → AOpX P n o (I (fun k => Nat.beq k i || S k)) Q f' H' := fun h μ a w hs =>
        Oper.wp_mono (fun a' w' ⟨μ', f2, H2, g1, g2, g3⟩ => ⟨μ', f2, H2, g1, g2, hI _ _ g3⟩) (fun _ _ _ _ h => h) (h μ a w hs)
      rcases hA with ⟨hg, hA⟩ | ⟨j, want, oj, d, b, hg, hj, hd, hfb, h1, h2⟩
      · exact .inl ⟨hg, mono hA⟩
      · refine .inr ⟨j, want, oj, d, b, hg, hj, hd, hfb, fun e => mono (h1 e), fun e => ?_⟩
        obtain ⟨d', hd', hn', h3⟩ := h2 e
        exact ⟨d', hd', hn', hI _ _ h3⟩
    rcases hcase with ⟨hlow, hf, hM'⟩ | ⟨i0, h1, h2, h3, h4, h5⟩
    · by_cases hik : i < k
      · -- in the head
        have hLi : i < L.length := by omega
        obtain ⟨o', ho', hd, hop⟩ := hops i L[i].1 L[i].2 (List.getElem?_eq_getElem hLi)
        rw [Nat.zero_add, ho] at ho'
        cases ho'
        have hq := hq1 i (List.mem_range.2 hik)
        rw [ho] at hq
        simp only [hd, Bool.true_and, List.all_eq_true, List.mem_range] at hq
        -- who writes a slot that i looks at, or writes
        have hw : ∀ t, t ∈ tmpsOf o ++ guardSlot ops o ++ [L[i].1] → ∀ j p, L[j]? = some p → p.1 = t → j ≠ i → (j < i → S j = true) ∧ (i < j → S j = false) := by
          intro t ht j p hj hp hne
          have hjk : j < k := by
            have := (List.getElem?_eq_some_iff.1 hj).1; omega
          have h1 := hq t (by simpa using ht) j hjk
          obtain ⟨oj, hoj, hdj, _⟩ := hops j p.1 p.2 hj
          rw [Nat.zero_add] at hoj
          have hds : (ops.toList.map (·.dst))[j]? = some (some p.1) := by simp [hoj, hdj]
          rw [hds] at h1
          simp only [beqf _ _ (Ne.symm hne), Bool.false_or, hp] at h1
          have htt : Nat.beq t t = true := by simp
          rw [htt] at h1
          simp only [Bool.not_true, Bool.false_or] at h1
          refine ⟨fun hlt => ?_, fun hlt => ?_⟩
          · rw [if_pos hlt] at h1
            have := befD _ hD' i j h1 hSi'
            have this : (Nat.beq j i || S j) = true := this
            rw [beqf _ _ hne, Bool.false_or] at this
            exact this
          · rw [if_neg (by omega)] at h1
            cases hSj : S j with
            | false => rfl
            | true =>
              have := befD S hD j i h1 hSj
              rw [hSi] at this; cases this
        have hval : ∀ t, t ∈ tmpsOf o ++ guardSlot ops o ++ [L[i].1] → f' t = cur (L.take i) 0 (fun _ => true) f t := by
          intro t ht
          rw [hf t]
          refine cur_take L 0 f i (fun j p hj hp hlt => ?_) (fun j p hj hp hge => ?_)
          · rw [Nat.zero_add]; exact (hw t ht j p hj hp (by omega)).1 hlt
          · rw [Nat.zero_add]
            by_cases hji : j = i
            · rw [hji]; exact hSi
            · exact (hw t ht j p hj hp hji).2 (by omega)
        have hnew : ∀ f2, f2 = upd f' L[i].1 L[i].2 → ∀ t, f2 t = cur L 0 (fun k => Nat.beq k i || S k) f t := by
          intro f2 h2 t
          rw [h2, cur_set L 0 f L[i].1 L[i].2 i (by omega) (List.getElem?_eq_getElem hLi) hSi (fun j p hj hp hlt => by
            rw [Nat.zero_add]; exact (hw L[i].1 (by simp) j p hj hp (by omega)).2 hlt) t, upd_eq, upd_eq, hf t]
        have hI : ∀ f2 H2, f2 = upd f' L[i].1 L[i].2 ∧ M H2 → I (fun k => Nat.beq k i || S k) f2 H2 := fun f2 H2 ⟨e, m⟩ =>
          ⟨hD', .inl ⟨fun j hj hj2 => by show (Nat.beq j i || S j) = false; rw [beqf _ _ (by omega), Bool.false_or]; exact hlow j hj hj2, hnew f2 e, m⟩⟩
        have mono : ∀ {K K' : (Nat → AV) → Heap → Prop}, (∀ f H, K f H → K' f H) → AOp P n o K f' H' → AOpX P n o K' Q f' H' := fun hk h => (AOp.imp hk h).x
        rcases hop with ⟨hg, hop⟩ | ⟨j, want, oj, dj, b, hg, hj, hdj, hfb, hyes, hno⟩
        · exact .inl ⟨hg, mono hI (hop f' H' (fun t ht => hval t (by have := List.elem_iff.1 ht; simp [this])) hM')⟩
        · refine .inr ⟨j, want, oj, dj, b, hg, hj, hdj, ?_, fun hb => mono hI (hyes hb f' H' (fun t ht => hval t (by have := List.elem_iff.1 ht; simp [this])) hM'), fun hb => ?_⟩
          · rw [hval dj (by simp [guardSlot, hg, hj, hdj])]; exact hfb
          · obtain ⟨hv, hn⟩ := hno hb
            exact ⟨L[i].1, hd, hn, hI _ _ ⟨by rw [hv], hM'⟩⟩
      · -- the tail begins
        have hki : k ≤ i := by omega
        have hbef : ∀ j, j < i → S j = true := by
          intro j hj
          have h1 := hq2 i (List.mem_range.2 hi)
          simp only [Bool.or_eq_true, decide_eq_true_eq, List.all_eq_true, List.mem_range] at h1
          rcases h1 with h1 | h1
          · omega
          · have : (Nat.beq j i || S j) = true := befD _ hD' i j (h1 j hj) hSi'
            rw [beqf _ _ (by omega), Bool.false_or] at this
            exact this
        have hik' : i = k := by
          rcases Nat.lt_or_ge k i with h | h
          · have := hbef k h; rw [hlow k (Nat.le_refl _) (by omega)] at this; cases this
          · omega
        subst hik'
        refine tailstep (Nat.le_refl _) hbef hlow ?_
        have hfall : f' = cur L 0 (fun _ => true) f := by
          funext t
          rw [hf t]
          exact cur_congr L 0 f f rfl fun j p hj _ => by
            have := (List.getElem?_eq_some_iff.1 hj).1
            rw [Nat.zero_add]; exact hbef j (by omega)
        rw [hfall]
        exact hT H' hM'
    · have hii : i = i0 := by
        have hge : i0 ≤ i := by
          rcases Nat.lt_or_ge i i0 with h | h
          · rw [h3 i h] at hSi; cases hSi
          · exact h
        rcases Nat.lt_or_ge i0 i with h | h
        · have h1' := hq2 i (List.mem_range.2 hi)
          simp only [Bool.or_eq_true, decide_eq_true_eq, List.all_eq_true, List.mem_range] at h1'
          rcases h1' with h1' | h1'
          · omega
          · have : (Nat.beq i0 i || S i0) = true := befD _ hD' i i0 (h1' i0 h) hSi'
            rw [beqf _ _ (by omega), Bool.false_or, h4 i0 (Nat.le_refl _) (by omega)] at this
            cases this
        · omega
      subst hii
      exact tailstep (by omega) h3 h4 h5
  · -- the end
    intro S f' H' hall ⟨hD, hcase⟩
    rcases hcase with ⟨hlow, hf, hM'⟩ | ⟨i0, h1, h2, h3, h4, h5⟩
    · have hkn : k = ops.size := by
        rcases Nat.lt_or_ge k ops.size with h | h
        · have := hlow k (Nat.le_refl _) h; rw [hall k h] at this; cases this
        · omega
      have hfall : f' = cur L 0 (fun _ => true) f := by
        funext t
        rw [hf t]
        exact cur_congr L 0 f f rfl fun j p hj _ => by
          have := (List.getElem?_eq_some_iff.1 hj).1
          rw [Nat.zero_add]; exact hall j (by omega)
      have h5 := hT H' hM'
      rw [← hfall, hkn, List.drop_of_length_le (by simp)] at h5
      exact h5
    · have hi0 : i0 = ops.size := by
        rcases Nat.lt_or_ge i0 ops.size with h | h
        · have := h4 i0 (Nat.le_refl _) h; rw [hall i0 h] at this; cases this
        · omega
      rw [hi0, List.drop_of_length_le (by simp)] at h5
      exact h5
end
end Go.AH
namespace Go.Proofs.S
open Go Go.AH
variable [Globs]
set_option linter.unusedSectionVars false
abbrev GE := Nat × AV × Nat × List AV
def MO (H0 H : Heap) (L : List GE) : Prop := (∀ e ∈ L, Own H0 H e.1 e.2.1 e.2.2.1 e.2.2.2) ∧ L.Pairwise fun a b => Sep a.2.1 b.2.1
def NotIdM (L : List GE) (i : Nat) : Prop := ∀ e ∈ L, NotId e.2.1 i
def SepM (L : List GE) (v : AV) : Prop := ∀ e ∈ L, Sep e.2.1 v
section
variable {H0 H H' : Heap} {L : List GE} {v v' : AV} {i : Nat}
theorem MO.mono (h : MO H0 H L) (m : Mono H H') : MO H0 H' L := ⟨fun e he => (h.1 e he).mono m, h.2⟩
theorem MO.keep (h : MO H0 H L) (ho : ∀ j, j ≠ i → H' j = H j) (hn : NotIdM L i) : MO H0 H' L := ⟨fun e he => (h.1 e he).keep ho (hn e he), h.2⟩
theorem MO.notnew (h : MO H0 H L) (hi : H i = none) : NotIdM L i := fun e he => (h.1 e he).notnew hi
theorem MO.stay (h : MO H0 H L) (hs : SepM L v) (hk : ∀ i, NotId v i → H i ≠ none → H' i = H i) : MO H0 H' L := ⟨fun e he => (h.1 e he).stay (hs e he) hk, h.2⟩
theorem MO.stay2 {rid : Nat} (h : MO H0 H L) (hs : SepM L v) (hr : NotIdM L rid) (hk : ∀ i, i ≠ rid → NotId v i → H' i = H i) : MO H0 H' L := ⟨fun e he => (h.1 e he).stay2 (hs e he) (hr e he) hk, h.2⟩
theorem MO.sep (h : MO H0 H L) (hs : SepM L v) (hk : ∀ i, NotId v i → H i ≠ none → NotId v' i) : SepM L v' := fun e he => (h.1 e he).sep (hs e he) hk
theorem SepM.nilR (L : List GE) : SepM L .snil := fun _ _ => .nilR _
theorem SepM.ofNotId {i a b c d : Nat} (h : NotIdM L i) : SepM L (.slm i a b c d) := fun e he => Sep.ofNotId' (h e he)
theorem MO.fresh {es len : Nat} {v : AV} {cells : List AV} (h : MO H0 H L) (o : Own H H' es v len cells) : SepM L v := fun e he => Sep.fresh (h.1 e he) o
theorem MO.free {j : Nat} {b : AB} (h : MO H0 H L) (hb : H0 j = some b) : NotIdM L j := fun e he => Own.free (h.1 e he) hb
theorem MO.at {e : GE} (i : Nat) (h : MO H0 H L) (hi : L[i]? = some e) : Own H0 H e.1 e.2.1 e.2.2.1 e.2.2.2 ∧ MO H0 H (L.eraseIdx i) ∧ SepM (L.eraseIdx i) e.2.1 := by
  refine ⟨h.1 e (List.mem_of_getElem? hi), ⟨fun x hx => h.1 x (List.mem_of_mem_eraseIdx hx), h.2.sublist (List.eraseIdx_sublist _ _)⟩, fun x hx => ?_⟩
  obtain ⟨j, hj, hx⟩ := List.mem_eraseIdx_iff_getElem?.1 hx
  have hp := List.pairwise_iff_getElem.1 h.2
  obtain ⟨h1, h2⟩ := List.getElem?_eq_some_iff.1 hi
  obtain ⟨h3, h4⟩ := List.getElem?_eq_some_iff.1 hx
  rcases Nat.lt_or_gt_of_ne hj with hlt | hlt
  · have := hp j i h3 h1 hlt; rw [h2, h4] at this; exact this
  · have := hp i j h1 h3 hlt; rw [h2, h4] at this; exact this.symm
theorem MO.put {e : GE} (i : Nat) (hi : i < L.length) (h : MO H0 H (L.eraseIdx i)) (ho : Own H0 H e.1 e.2.1 e.2.2.1 e.2.2.2) (hs : SepM (L.eraseIdx i) e.2.1) : MO H0 H (L.set i e) := by
  have hm : ∀ j x, j ≠ i → L[j]? = some x → x ∈ L.eraseIdx i := fun j x hj hx => List.mem_eraseIdx_iff_getElem?.2 ⟨j, hj, hx⟩
  refine ⟨fun x hx => ?_, List.pairwise_iff_getElem.2 fun j k hj hk hjk => ?_⟩
  · obtain ⟨j, hj⟩ := List.getElem?_of_mem hx
    rw [List.getElem?_set] at hj
    by_cases hne : i = j
    · rw [if_pos hne, if_pos hi] at hj; cases hj; exact ho
    · rw [if_neg hne] at hj; exact h.1 x (hm j x (fun e => hne e.symm) hj)
  · have hj' : j < L.length := by simpa using hj
    have hk' : k < L.length := by simpa using hk
    rw [List.getElem_set, List.getElem_set]
    by_cases h1 : i = j
    · have h2 : ¬ i = k := by omega
      rw [if_pos h1, if_neg h2]
      exact (hs _ (hm k _ (fun e => h2 e.symm) (List.getElem?_eq_getElem hk'))).symm
    · rw [if_neg h1]
      by_cases h2 : i = k
      · rw [if_pos h2]
        exact hs _ (hm j _ (fun e => h1 e.symm) (List.getElem?_eq_getElem hj'))
      · rw [if_neg h2]
        have hp := List.pairwise_iff_getElem.1 h.2
        -- both stand in the rest, in their order
        have key : ∀ m (hm : m < L.length), m ≠ i → ∃ m', (L.eraseIdx i)[m']? = some L[m] ∧ (m < i → m' = m) ∧ (i < m → m' = m - 1) := by
          intro m hm hne
          rcases Nat.lt_or_gt_of_ne hne with hlt | hlt
          · exact ⟨m, by rw [List.getElem?_eraseIdx, if_pos hlt]; exact List.getElem?_eq_getElem hm, fun _ => rfl, fun h => by omega⟩
          · refine ⟨m - 1, ?_, fun h => by omega, fun _ => rfl⟩
            rw [List.getElem?_eraseIdx, if_neg (by omega), show m - 1 + 1 = m by omega]
            exact List.getElem?_eq_getElem hm
        obtain ⟨j', e1, a1, a2⟩ := key j hj' (fun e => h1 e.symm)
        obtain ⟨k', e2, b1, b2⟩ := key k hk' (fun e => h2 e.symm)
        obtain ⟨g1, g2⟩ := List.getElem?_eq_some_iff.1 e1
        obtain ⟨g3, g4⟩ := List.getElem?_eq_some_iff.1 e2
        have hlt : j' < k' := by
          rcases Nat.lt_or_gt_of_ne h1 with hx | hx <;> rcases Nat.lt_or_gt_of_ne h2 with hy | hy
          · have := a2 hx; have := b2 hy; omega
          · omega
          · have := a1 hx; have := b2 hy; omega
          · have := a1 hx; have := b1 hy; omega
        have := hp j' k' g1 g3 hlt
        rw [g2, g4] at this; exact this
theorem NotIdM.at {e : GE} (j : Nat) (h : NotIdM L i) (hi : L[j]? = some e) : NotId e.2.1 i := h e (List.mem_of_getElem? hi)
theorem NotIdM.erase (j : Nat) (h : NotIdM L i) : NotIdM (L.eraseIdx j) i := fun x hx => h x (List.mem_of_mem_eraseIdx hx)
theorem NotIdM.put {e : GE} (j : Nat) (h : NotIdM (L.eraseIdx j) i) (hw : NotId e.2.1 i) : NotIdM (L.set j e) i := fun x hx => by
  obtain ⟨k, hk⟩ := List.getElem?_of_mem hx
  rw [List.getElem?_set] at hk
  split at hk
  · split at hk
    · cases hk; exact hw
    · cases hk
  · rename_i hne; exact h x (List.mem_eraseIdx_iff_getElem?.2 ⟨k, fun e => hne e.symm, hk⟩)
theorem SepM.at {e : GE} (j : Nat) (h : SepM L v) (hi : L[j]? = some e) : Sep e.2.1 v := h e (List.mem_of_getElem? hi)
theorem SepM.erase (j : Nat) (h : SepM L v) : SepM (L.eraseIdx j) v := fun x hx => h x (List.mem_of_mem_eraseIdx hx)
theorem SepM.put {e : GE} (j : Nat) (h : SepM (L.eraseIdx j) v) (hw : Sep e.2.1 v) : SepM (L.set j e) v := fun x hx => by
  obtain ⟨k, hk⟩ := List.getElem?_of_mem hx
  rw [List.getElem?_set] at hk
  split at hk
  · split at hk
    · cases hk; exact hw
    · cases hk
  · rename_i hne; exact h x (List.mem_eraseIdx_iff_getElem?.2 ⟨k, fun e => hne e.symm, hk⟩)
end
end Go.Proofs.S
namespace Go.Proofs.S
open Go Go.AH Go.Proofs.L
set_option linter.unusedSectionVars false
variable [LexG]
def rdC (cam : CamT) (sky : ColT) (vL vM vT vS vC : AV) (hc hs : Bool) : List AV :=
  [.int .i64 cam.Eye.X, .int .i64 cam.Eye.Y, .int .i64 cam.Eye.Z, .int .i64 cam.First.X, .int .i64 cam.First.Y, .int .i64 cam.First.Z, .int .i64 cam.Right.X, .int .i64 cam.Right.Y, .int .i64 cam.Right.Z,
   .int .i64 cam.Down.X, .int .i64 cam.Down.Y, .int .i64 cam.Down.Z, .int .i64 cam.W, .int .i64 cam.H, .int .i64 cam.Grid, .int .i64 cam.Depth, .int .i64 sky.R, .int .i64 sky.G, .int .i64 sky.B,
   vL, vM, vT, vS, vC, .bool hc, .bool hs]
def cgC (cs : List CageT) (a b c : AV) : List AV := if cs = [] then [] else cs.dropLast.flatMap eCage ++ [a, b, c]
def rdL (s : Rd) (vL vM vT vS vC vV vF vK : AV) : List GE :=
  [(6, vL, s.lights.length, s.lights.flatMap eLight), (9, vM, s.mats.length, s.mats.flatMap eMat), (4, vT, s.texs.length, s.texs.flatMap eTex), (6, vS, s.skins.length, s.skins.flatMap eSkin),
   (3, vC, s.cages.length, cgC s.cages vV vF vK), (3, vV, (lastC s.cages).Verts.length, (lastC s.cages).Verts.flatMap eV), (1, vF, (lastC s.cages).Faces.length, (lastC s.cages).Faces.map eF), (3, vK, (lastC s.cages).Creases.length, (lastC s.cages).Creases.flatMap eCr)]
structure RDv (B H : Heap) (id ver : Nat) (s : Rd) (vL vM vT vS vC vV vF vK : AV) : Prop where
  row : H id = some (.row ver (rdC s.cam s.sky vL vM vT vS vC s.hc s.hs))
  base : B id = none
  grp : MO B H (rdL s vL vM vT vS vC vV vF vK)
  nid : NotIdM (rdL s vL vM vT vS vC vV vF vK) id
def RD (B H : Heap) (id ver : Nat) (s : Rd) : Prop := ∃ vL vM vT vS vC vV vF vK, RDv B H id ver s vL vM vT vS vC vV vF vK
theorem RD.mono {B H H' : Heap} {id ver : Nat} {s : Rd} (h : RD B H id ver s) (m : Mono H H') : RD B H' id ver s := by
  obtain ⟨_, _, _, _, _, _, _, _, h1, h2, h3, h4⟩ := h
  exact ⟨_, _, _, _, _, _, _, _, m _ _ h1, h2, h3.mono m, h4⟩
theorem putC_len {cs : List CageT} {c : CageT} (h : cs ≠ []) : (putC cs c).length = cs.length := by
  have := List.length_pos_iff.2 h; simp [putC]; omega
theorem lastC_put {cs : List CageT} {c : CageT} : lastC (putC cs c) = c := by simp [lastC, putC]
theorem cgC_put {cs : List CageT} {c : CageT} {x y z : AV} : cgC (putC cs c) x y z = cs.dropLast.flatMap eCage ++ [x, y, z] := by simp [cgC, putC]
theorem cgC_ne {cs : List CageT} {x y z : AV} (h : cs ≠ []) : cgC cs x y z = cs.dropLast.flatMap eCage ++ [x, y, z] := if_neg h
theorem cgC_push {cs : List CageT} {c : CageT} {x y z : AV} : cgC (cs ++ [c]) x y z = cs.flatMap eCage ++ [x, y, z] := by simp [cgC]
theorem lastC_push {cs : List CageT} {c : CageT} : lastC (cs ++ [c]) = c := by simp [lastC]
theorem drop_len (cs : List CageT) : (cs.dropLast.flatMap eCage).length = ((cs.length : Int) - 1).toNat * 3 := by
  rw [flatMap_length eCage_len, List.length_dropLast]; congr 1; omega
theorem last_eq {cs : List CageT} (h : cs ≠ []) : cs = cs.dropLast ++ [lastC cs] := by
  rcases List.eq_nil_or_concat cs with rfl | ⟨l, a, rfl⟩
  · exact absurd rfl h
  · simp [lastC]
theorem ldC {P cs : List AV} {m k : Nat} {v : AV} (hP : P.length = m * 3) (h : loadv false 1 k cs = some v) : loadv false 1 (m * 3 + k) (P ++ cs) = some v := by
  simp only [loadv, Bool.false_eq_true, if_false] at h ⊢
  rw [← hP]
  first | (rw [List.getElem?_append_right (by omega), Nat.add_sub_cancel_left]; exact h) | skip
theorem ldC0 {P cs : List AV} {m : Nat} {v : AV} (hP : P.length = m * 3) (h : loadv false 1 0 cs = some v) : loadv false 1 (m * 3) (P ++ cs) = some v := ldC (k := 0) hP h
theorem wrC {P cs vs C : List AV} {m k : Nat} (hP : P.length = m * 3) (h : writeL cs k vs = C) : writeL (P ++ cs) (m * 3 + k) vs = P ++ C := wr_skip hP rfl h
theorem wrC0 {P cs vs C : List AV} {m : Nat} (hP : P.length = m * 3) (h : writeL cs 0 vs = C) : writeL (P ++ cs) (m * 3) vs = P ++ C := wr_skip hP rfl h
theorem RDv.upC {B H : Heap} {id ver : Nat} {s : Rd} {vL vM vT vS vC vV vF vK : AV} {c : CageT} (hne : s.cages ≠ []) (row : H id = some (.row ver (rdC s.cam s.sky vL vM vT vS vC s.hc s.hs))) (base : B id = none)
    (g : MO B H [(6, vL, s.lights.length, s.lights.flatMap eLight), (9, vM, s.mats.length, s.mats.flatMap eMat), (4, vT, s.texs.length, s.texs.flatMap eTex), (6, vS, s.skins.length, s.skins.flatMap eSkin),
      (3, vC, s.cages.length, s.cages.dropLast.flatMap eCage ++ [vV, vF, vK]), (3, vV, c.Verts.length, c.Verts.flatMap eV), (1, vF, c.Faces.length, c.Faces.map eF), (3, vK, c.Creases.length, c.Creases.flatMap eCr)])
    (hn : NotIdM [(6, vL, s.lights.length, s.lights.flatMap eLight), (9, vM, s.mats.length, s.mats.flatMap eMat), (4, vT, s.texs.length, s.texs.flatMap eTex), (6, vS, s.skins.length, s.skins.flatMap eSkin),
      (3, vC, s.cages.length, s.cages.dropLast.flatMap eCage ++ [vV, vF, vK]), (3, vV, c.Verts.length, c.Verts.flatMap eV), (1, vF, c.Faces.length, c.Faces.map eF), (3, vK, c.Creases.length, c.Creases.flatMap eCr)] id) : RDv B H id ver { s with cages := putC s.cages c } vL vM vT vS vC vV vF vK := by
  refine ⟨row, base, ?_, ?_⟩
  · show MO B H [_, _, _, _, _, _, _, _]
    simp only [putC_len hne, cgC_put, lastC_put]
    exact g
  · show NotIdM [_, _, _, _, _, _, _, _] id
    simp only [putC_len hne, cgC_put, lastC_put]
    exact hn
section
variable {n : Nat} {f : Nat → AV} {B H : Heap}
theorem RDv.freezeC {id ver : Nat} {s : Rd} {vL vM vT vS vC vV vF vK : AV} (h : RDv B H id ver s vL vM vT vS vC vV vF vK) (hm : Mono B H) : ∃ H', Ghost n f H f H' ∧ Mono B H' ∧ H' id = some (.row ver (rdC s.cam s.sky vL vM vT vS vC s.hc s.hs)) ∧
    MO B H' [(6, vL, s.lights.length, s.lights.flatMap eLight), (9, vM, s.mats.length, s.mats.flatMap eMat), (4, vT, s.texs.length, s.texs.flatMap eTex), (6, vS, s.skins.length, s.skins.flatMap eSkin), (3, vC, s.cages.length, s.cages.flatMap eCage)] ∧ NotIdM [(6, vL, s.lights.length, s.lights.flatMap eLight), (9, vM, s.mats.length, s.mats.flatMap eMat), (4, vT, s.texs.length, s.texs.flatMap eTex), (6, vS, s.skins.length, s.skins.flatMap eSkin), (3, vC, s.cages.length, s.cages.flatMap eCage)] id := by
  obtain ⟨hrow, hB, hg, hn⟩ := h
  have hn5 : NotIdM [(6, vL, s.lights.length, s.lights.flatMap eLight), (9, vM, s.mats.length, s.mats.flatMap eMat), (4, vT, s.texs.length, s.texs.flatMap eTex), (6, vS, s.skins.length, s.skins.flatMap eSkin), (3, vC, s.cages.length, s.cages.flatMap eCage)] id := by
    intro e he
    simp only [List.mem_cons, List.not_mem_nil, or_false] at he
    rcases he with rfl | rfl | rfl | rfl | rfl
    · exact hn.at 0 rfl
    · exact hn.at 1 rfl
    · exact hn.at 2 rfl
    · exact hn.at 3 rfl
    · have nC : NotId vC id := hn.at 4 rfl
      exact nC
  have rest : ∀ {H' : Heap}, (∀ e ∈ [(6, vL, s.lights.length, s.lights.flatMap eLight), (9, vM, s.mats.length, s.mats.flatMap eMat), (4, vT, s.texs.length, s.texs.flatMap eTex), (6, vS, s.skins.length, s.skins.flatMap eSkin)], Own B H' e.1 e.2.1 e.2.2.1 e.2.2.2) →
      Own B H' 3 vC s.cages.length (s.cages.flatMap eCage) → MO B H' [(6, vL, s.lights.length, s.lights.flatMap eLight), (9, vM, s.mats.length, s.mats.flatMap eMat), (4, vT, s.texs.length, s.texs.flatMap eTex), (6, vS, s.skins.length, s.skins.flatMap eSkin), (3, vC, s.cages.length, s.cages.flatMap eCage)] := by
    intro H' h1 h2
    refine ⟨fun e he => ?_, ?_⟩
    · rcases List.mem_append.1 (show e ∈ [(6, vL, s.lights.length, s.lights.flatMap eLight), (9, vM, s.mats.length, s.mats.flatMap eMat), (4, vT, s.texs.length, s.texs.flatMap eTex), (6, vS, s.skins.length, s.skins.flatMap eSkin)] ++ [(3, vC, s.cages.length, s.cages.flatMap eCage)] from he) with he | he
      · exact h1 e he
      · simp at he; subst he; exact h2
    · have := hg.2
      simp only [rdL, List.pairwise_cons, List.mem_cons, List.not_mem_nil, or_false, forall_eq_or_imp, forall_eq, List.Pairwise.nil, and_true, false_imp_iff, implies_true] at this ⊢
      simp_all
  by_cases hne : s.cages = []
  · refine ⟨H, .refl, hm, hrow, rest (fun e he => hg.1 e ?_) ?_, hn5⟩
    · simp only [rdL, List.mem_cons, List.not_mem_nil, or_false] at he ⊢
      rcases he with rfl | rfl | rfl | rfl <;> simp
    · have := (hg.at 4 rfl).1
      rw [hne] at this ⊢
      exact this
  · have oC : Own B H 3 vC s.cages.length (cgC s.cages vV vF vK) := (hg.at 4 rfl).1
    have oV : Own B H 3 vV (lastC s.cages).Verts.length ((lastC s.cages).Verts.flatMap eV) := (hg.at 5 rfl).1
    have oF : Own B H 1 vF (lastC s.cages).Faces.length ((lastC s.cages).Faces.map eF) := (hg.at 6 rfl).1
    have oK : Own B H 3 vK (lastC s.cages).Creases.length ((lastC s.cages).Creases.flatMap eCr) := (hg.at 7 rfl).1
    have nV : NotId vV id := hn.at 5 rfl
    have nF : NotId vF id := hn.at 6 rfl
    have nK : NotId vK id := hn.at 7 rfl
    have hp := hg.2
    simp only [rdL, List.pairwise_cons, List.mem_cons, List.not_mem_nil, or_false, forall_eq_or_imp, forall_eq, List.Pairwise.nil, and_true, false_imp_iff, implies_true] at hp
    obtain ⟨⟨_, _, _, _, lV, lF, lK⟩, ⟨_, _, _, mV, mF, mK⟩, ⟨_, _, tV, tF, tK⟩, ⟨_, sV, sF, sK⟩, ⟨cV, cF, cK⟩, ⟨vF_, vK_⟩, fK⟩ := hp
    rw [cgC_ne hne] at oC
    obtain ⟨i, v, rfl, hi, hBi, hlen⟩ := oC.pos (List.length_pos_iff.2 hne)
    have iV : NotId vV i := cV.notId rfl
    have iF : NotId vF i := cF.notId rfl
    have iK : NotId vK i := cK.notId rfl
    have hL := drop_len s.cages
    generalize hP : s.cages.dropLast.flatMap eCage = P at hi hL hlen
    have hid : id ≠ i := fun e => by
      have := hn.at 4 rfl
      exact this _ _ _ _ _ rfl e
    obtain ⟨H1, g1, r1, m1, k1⟩ := Ghost.ownCell (n := n) (f := f) (k := P.length) oV hi hBi (by simp) iV hm
    have oF1 := oF.stay2 vF_.symm iF k1
    have oK1 := oK.stay2 vK_.symm iK k1
    obtain ⟨H2, g2, r2, m2, k2⟩ := Ghost.ownCell (n := n) (f := f) (k := P.length + 1) oF1 r1 hBi (by simp) iF m1
    have oK2 := oK1.stay2 fK.symm iK k2
    obtain ⟨H3, g3, r3, m3, k3⟩ := Ghost.ownCell (n := n) (f := f) (k := P.length + 2) oK2 r2 hBi (by simp) iK m2
    refine ⟨H3, g1.trans (g2.trans g3), m3, ?_, rest ?_ (.inr ⟨i, v, rfl, ?_, hBi, by rw [flatMap_length eCage_len]⟩), hn5⟩
    · exact (k3 _ hid nK).trans ((k2 _ hid nF).trans ((k1 _ hid nV).trans hrow))
    · intro e he
      have ho : Own B H e.1 e.2.1 e.2.2.1 e.2.2.2 ∧ Sep e.2.1 vV ∧ Sep e.2.1 vF ∧ Sep e.2.1 vK ∧ NotId e.2.1 i := by
        have hC : ∀ w, Sep w (.slm i v 3 0 s.cages.length) → NotId w i := fun w h => h.symm.notId rfl
        have hall := hg.1
        have hp2 := hg.2
        simp only [rdL, List.pairwise_cons, List.mem_cons, List.not_mem_nil, or_false, forall_eq_or_imp, forall_eq, List.Pairwise.nil, and_true, false_imp_iff, implies_true] at hp2
        simp only [List.mem_cons, List.not_mem_nil, or_false] at he
        rcases he with rfl | rfl | rfl | rfl
        · exact ⟨hall _ (by simp [rdL]), lV, lF, lK, hC _ hp2.1.2.2.2.1⟩
        · exact ⟨hall _ (by simp [rdL]), mV, mF, mK, hC _ hp2.2.1.2.2.1⟩
        · exact ⟨hall _ (by simp [rdL]), tV, tF, tK, hC _ hp2.2.2.1.2.1⟩
        · exact ⟨hall _ (by simp [rdL]), sV, sF, sK, hC _ hp2.2.2.2.1.1⟩
      obtain ⟨o, a, b, c, d⟩ := ho
      exact ((o.stay2 a d k1).stay2 b d k2).stay2 c d k3
    · rw [r3]
      congr 2
      conv => rhs; rw [last_eq hne, List.flatMap_append, hP]
      simp [eCage, List.set_append]
theorem RD.freeze {id ver : Nat} {s : Rd} (h : RD B H id ver s) (hm : Mono B H) : ∃ H', Ghost n f H f H' ∧ Mono B H' ∧ H' id = some (.row ver (eScene s.scene ++ [.bool s.hc, .bool s.hs])) := by
  obtain ⟨vL, vM, vT, vS, vC, vV, vF, vK, h⟩ := h
  have hn := h.nid
  have hB := h.base
  obtain ⟨H0, g0, m0, r0, hg, _⟩ := h.freezeC (n := n) (f := f) hm
  have hp := hg.2
  simp only [List.pairwise_cons, List.mem_cons, List.not_mem_nil, or_false, forall_eq_or_imp, forall_eq, List.Pairwise.nil, and_true, false_imp_iff, implies_true] at hp
  obtain ⟨⟨lm, lt, ls, lc⟩, ⟨mt, ms, mc⟩, ⟨ts, tc⟩, sc⟩ := hp
  have nL : NotId vL id := hn.at 0 rfl
  have nM : NotId vM id := hn.at 1 rfl
  have nT : NotId vT id := hn.at 2 rfl
  have nS : NotId vS id := hn.at 3 rfl
  have nC : NotId vC id := hn.at 4 rfl
  have oL : Own B H0 6 vL _ _ := hg.1 (6, vL, s.lights.length, s.lights.flatMap eLight) (by simp)
  have oM : Own B H0 9 vM _ _ := hg.1 (9, vM, s.mats.length, s.mats.flatMap eMat) (by simp)
  have oT : Own B H0 4 vT _ _ := hg.1 (4, vT, s.texs.length, s.texs.flatMap eTex) (by simp)
  have oS : Own B H0 6 vS _ _ := hg.1 (6, vS, s.skins.length, s.skins.flatMap eSkin) (by simp)
  have oC : Own B H0 3 vC _ _ := hg.1 (3, vC, s.cages.length, s.cages.flatMap eCage) (by simp)
  obtain ⟨H1, g1, r1, m1, k1⟩ := Ghost.ownCell (n := n) (f := f) (k := 19) oL r0 hB rfl nL m0
  have oM1 := oM.stay2 lm.symm nM k1; have oT1 := oT.stay2 lt.symm nT k1; have oS1 := oS.stay2 ls.symm nS k1; have oC1 := oC.stay2 lc.symm nC k1
  obtain ⟨H2, g2, r2, m2, k2⟩ := Ghost.ownCell (n := n) (f := f) (k := 20) oM1 r1 hB rfl nM m1
  have oT2 := oT1.stay2 mt.symm nT k2; have oS2 := oS1.stay2 ms.symm nS k2; have oC2 := oC1.stay2 mc.symm nC k2
  obtain ⟨H3, g3, r3, m3, k3⟩ := Ghost.ownCell (n := n) (f := f) (k := 21) oT2 r2 hB rfl nT m2
  have oS3 := oS2.stay2 ts.symm nS k3; have oC3 := oC2.stay2 tc.symm nC k3
  obtain ⟨H4, g4, r4, m4, k4⟩ := Ghost.ownCell (n := n) (f := f) (k := 22) oS3 r3 hB rfl nS m3
  have oC4 := oC3.stay2 sc.symm nC k4
  obtain ⟨H5, g5, r5, m5, k5⟩ := Ghost.ownCell (n := n) (f := f) (k := 23) oC4 r4 hB rfl nC m4
  exact ⟨H5, g0.trans (g1.trans (g2.trans (g3.trans (g4.trans g5)))), m5, r5⟩
theorem AWP.freezeC {P : Program} {c : Code} {Q : Exit → (Nat → AV) → Heap → Prop} {id ver : Nat} {s : Rd} {vL vM vT vS vC vV vF vK : AV} (h : RDv B H id ver s vL vM vT vS vC vV vF vK) (hm : Mono B H)
    (hK : ∀ H', Mono B H' → H' id = some (.row ver (rdC s.cam s.sky vL vM vT vS vC s.hc s.hs)) → MO B H' [(6, vL, s.lights.length, s.lights.flatMap eLight), (9, vM, s.mats.length, s.mats.flatMap eMat), (4, vT, s.texs.length, s.texs.flatMap eTex), (6, vS, s.skins.length, s.skins.flatMap eSkin), (3, vC, s.cages.length, s.cages.flatMap eCage)] → NotIdM [(6, vL, s.lights.length, s.lights.flatMap eLight), (9, vM, s.mats.length, s.mats.flatMap eMat), (4, vT, s.texs.length, s.texs.flatMap eTex), (6, vS, s.skins.length, s.skins.flatMap eSkin), (3, vC, s.cages.length, s.cages.flatMap eCage)] id → AWP P n c Q f H') : AWP P n c Q f H :=
  let ⟨H', g, m, r, a, b⟩ := h.freezeC (n := n) (f := f) hm
  AWP.ghost g (hK H' m r a b)
theorem AWP.rdFreeze {P : Program} {c : Code} {Q : Exit → (Nat → AV) → Heap → Prop} {id ver : Nat} {s : Rd} (h : RD B H id ver s) (hm : Mono B H) (hK : ∀ H', Mono B H' → H' id = some (.row ver (eScene s.scene ++ [.bool s.hc, .bool s.hs])) → AWP P n c Q f H') : AWP P n c Q f H :=
  let ⟨H', g, m, r⟩ := h.freeze (n := n) (f := f) hm
  AWP.ghost g (hK H' m r)
end
theorem RDv.push {B H : Heap} {id ver : Nat} {s : Rd} {vL vM vT vS vC : AV} (row : H id = some (.row ver (rdC s.cam s.sky vL vM vT vS vC s.hc s.hs))) (base : B id = none)
    (g : MO B H [(6, vL, s.lights.length, s.lights.flatMap eLight), (9, vM, s.mats.length, s.mats.flatMap eMat), (4, vT, s.texs.length, s.texs.flatMap eTex), (6, vS, s.skins.length, s.skins.flatMap eSkin), (3, vC, s.cages.length + 1, s.cages.flatMap eCage ++ [.snil, .snil, .snil])])
    (hn : NotIdM [(6, vL, s.lights.length, s.lights.flatMap eLight), (9, vM, s.mats.length, s.mats.flatMap eMat), (4, vT, s.texs.length, s.texs.flatMap eTex), (6, vS, s.skins.length, s.skins.flatMap eSkin), (3, vC, s.cages.length + 1, s.cages.flatMap eCage ++ [.snil, .snil, .snil])] id) : RDv B H id ver { s with cages := s.cages ++ [⟨[], [], []⟩] } vL vM vT vS vC .snil .snil .snil := by
  refine ⟨row, base, ?_, ?_⟩
  · show MO B H [_, _, _, _, _, _, _, _]
    simp only [lastC_push, cgC_push, List.length_append, List.length_cons, List.length_nil]
    have h1 := g.1
    have h2 := g.2
    refine ⟨fun e he => ?_, ?_⟩
    · simp only [List.mem_cons, List.not_mem_nil, or_false] at he
      rcases he with rfl | rfl | rfl | rfl | rfl | rfl | rfl | rfl
      · exact h1 _ (by simp)
      · exact h1 _ (by simp)
      · exact h1 _ (by simp)
      · exact h1 _ (by simp)
      · exact h1 _ (by simp)
      · exact .nil _ _ _
      · exact .nil _ _ _
      · exact .nil _ _ _
    · simp only [List.pairwise_cons, List.mem_cons, List.not_mem_nil, or_false, forall_eq_or_imp, forall_eq, List.Pairwise.nil, and_true, false_imp_iff, implies_true] at h2 ⊢
      simp_all [Sep.nilR]
  · intro e he
    simp only [rdL, lastC_push, List.mem_cons, List.not_mem_nil, or_false] at he
    rcases he with rfl | rfl | rfl | rfl | rfl | rfl | rfl | rfl
    · exact hn.at 0 rfl
    · exact hn.at 1 rfl
    · exact hn.at 2 rfl
    · exact hn.at 3 rfl
    · have nC : NotId vC id := hn.at 4 rfl
      exact nC
    · exact .nil _
    · exact .nil _
    · exact .nil _
def eCg : Option CageT → List AV
  | some c => eCage c
  | none => [.snil, .snil, .snil]
theorem eCg_all (cs : List CageT) : (cs.map some).flatMap eCg = cs.flatMap eCage := by simp [List.flatMap_map, eCg]
theorem eCg_push (cs : List CageT) : (cs.map some ++ [none]).flatMap eCg = cs.flatMap eCage ++ [.snil, .snil, .snil] := by
  rw [List.flatMap_append, eCg_all]; rfl
theorem Own.rowOf {B H : Heap} {es len i vr : Nat} {v : AV} {cells : List AV} (h : Own B H es v len cells) (e : v = .slm i vr es 0 len) : H i = some (.row vr cells) ∧ B i = none ∧ cells.length = len * es := by
  rcases h with ⟨h1, _, _⟩ | ⟨id, ver, h1, h2, h3, h4⟩
  · rw [h1] at e; cases e
  · rw [h1] at e; cases e; exact ⟨h2, h3, h4⟩
theorem SepM.nid {L : List GE} {v : AV} {i a b c d : Nat} (h : SepM L v) (e : v = .slm i a b c d) : NotIdM L i := fun x hx => (h x hx).symm.notId e
theorem SepM.of {L : List GE} {v : AV} {i a b c d : Nat} (h : NotIdM L i) (e : v = .slm i a b c d) : SepM L v := by subst e; exact .ofNotId h
theorem Sep.of {w v : AV} {i a b c d : Nat} (h : NotId w i) (e : v = .slm i a b c d) : Sep w v := by subst e; exact (Sep.ofNotId h).symm
theorem Mono.mono {A B C : Heap} (a : Mono A B) (b : Mono B C) : Mono A C := a.trans b
theorem gE {α : Type} {b : Bool} {k0 k : Int} {x : Except Int α} (h : (if b = true then (Except.ok () : Except Int Unit) else .error k0) = .error k) : gd b k0 x = .error k := by
  cases b
  · exact (if_neg Bool.false_ne_true).trans (by cases h; rfl)
  · cases h
end Go.Proofs.S
namespace Go.AH
variable [Globs]
set_option linter.unusedSectionVars false
open Go
theorem Then.n {K : (Nat → AV) → Heap → Prop} {Q : Exit → (Nat → AV) → Heap → Prop} {f : Nat → AV} {H : Heap} (h : K f H) : Then K Q .normal f H := h
theorem nbi_T {b : Bool} (h : (!b) = true) : b = false := by simpa using h
theorem Own.thaw {w : World} {μ : Nat → Nat} {B H : Heap} (hr : HR w μ H) {es len : Nat} {v : AV} {cells : List AV} (h : Own B H es v len cells) (hl : ∀ x ∈ cells, LowA x) {y : Value} (hv : VR w μ H v y) : VR w (fun i => i) noHp (.sl len cells) y := by
  rcases h with ⟨rfl, rfl, rfl⟩ | ⟨id, ver, rfl, h1, _, h3⟩
  · cases hv; exact .sl0 _ _
  · cases hv with
    | slm hk hlc ha =>
      obtain ⟨e, _⟩ := ha ⟨cells, h1⟩
      subst e
      obtain ⟨cs, T, b1, b2, b3⟩ := hr.rows id ver cells h1
      have hlt : μ id < w.heap.size := by
        rcases Nat.lt_or_ge (μ id) w.heap.size with h | h
        · exact h
        · rw [Array.getElem?_eq_none h] at b1; cases b1
      refine .sl (b := μ id) (o := 0) (ys := fun j => cs.getD j Go.undef) hlc ⟨hlt, noHp_owned⟩ (fun j x hj => ?_) fun j x hj => ?_
      · obtain ⟨y, y1, _⟩ := b3 j x hj
        simp only [World.cell?, b1, Option.isSome_none, Bool.false_eq_true, if_false, Nat.zero_add, Array.getD_eq_getD_getElem?, y1, Option.getD_some]
      · obtain ⟨y, y1, y2⟩ := b3 j x hj
        have : cs.getD j Go.undef = y := by simp [Array.getD_eq_getD_getElem?, y1]
        simp only [this]
        exact y2.lowA (hl x (List.mem_of_getElem? hj))
theorem PC.own2 {P : Program} {g : FuncId} {v c : AV} {k : IntKind} {z : Int} {B H : Heap} {es len : Nat} {cells : List AV} (hv : ∀ g, Globs.val g = none) (h : PC P g [.sl len cells, c] (.int k z)) (ho : Own B H es v len cells) (hl : ∀ x ∈ cells, LowA x) (hc : LowA c) :
    ACalls P g [v, c] H fun r H' => r = .int k z ∧ H' = H := by
  refine PC.liveI hv h fun w μ vs hr hvs => ⟨by simpa using hvs.1, fun j x y hx hy => ?_⟩
  match j, hx with
  | 0, hx => cases hx; exact ho.thaw hr hl (hvs.2 0 v y rfl hy)
  | 1, hx => cases hx; exact (hvs.2 1 c y rfl hy).lowA hc
  | n + 2, hx => simp at hx
theorem AOp.sliceSG1 {α : Type} {P : Program} {n : Nat} {f : Nat → AV} {H : Heap} {K : (Nat → AV) → Heap → Prop} {ty : TypeId} {pos : String} {after : Array Edge} {guard : Option (Nat × Bool)} {d : Nat} {xs : List α} {e : α → AV} {t : TypeId} {x : Operand} {lo hi : Option Operand} {l h : Int} (hn : Nat.ble (d + 1) n = true) (hx : ev f x = .sl xs.length (xs.map e)) (ht : TSlice P t 1)
    (hl : loOf f lo = some l) (hh : hiOf f xs.length hi = some h) (h0 : 0 ≤ l) (h1 : l ≤ h) (h2 : h ≤ xs.length)
    (hK : K (upd f d (.sl ((xs.drop l.toNat).take (h.toNat - l.toNat)).length (((xs.drop l.toNat).take (h.toNat - l.toNat)).map e))) H) : AOp P n ⟨some d, .slice t x lo hi none, ty, pos, after, guard⟩ K f H := by
  refine .sliceS (es := 1) hn hx (by simp) ht hl hh h0 h1 h2 ?_
  have e1 : ((xs.drop l.toNat).take (h.toNat - l.toNat)).length = h.toNat - l.toNat := by rw [List.length_take, List.length_drop]; omega
  rw [e1, List.map_take, List.map_drop] at hK
  rw [Nat.mul_one, Nat.mul_one]; exact hK
end Go.AH
namespace Go.Proofs.S
open Go Go.AH Go.Proofs.L
set_option linter.unusedSectionVars false
variable [LexG]
theorem at_get {α : Type} [Inhabited α] {l : List α} {i : Int} (h0 : 0 ≤ i) (h1 : i < l.length) : at_ l i = l[i.toNat]'(by omega) := by
  simp [at_, show i.toNat < l.length by omega]
theorem take_at {α : Type} [Inhabited α] {l : List α} {i : Int} (h0 : 0 ≤ i) (h1 : i < l.length) : l.take (i + 1).toNat = l.take i.toNat ++ [at_ l i] := by
  rw [at_get h0 h1, show (i + 1).toNat = i.toNat + 1 by omega, List.take_succ_eq_append_getElem (by omega)]
theorem all_at {α : Type} [Inhabited α] {p : α → Bool} {l : List α} {i : Int} (h0 : 0 ≤ i) (h1 : i < l.length) (h : p (at_ l i) = false) : l.all p = false := by
  rw [List.all_eq_false]
  exact ⟨at_ l i, by rw [at_get h0 h1]; exact List.getElem_mem _, by rw [h]; exact Bool.false_ne_true⟩
theorem all_step {α : Type} [Inhabited α] {p : α → Bool} {l : List α} {i : Int} (h0 : 0 ≤ i) (h1 : i < l.length) (pre : (l.take i.toNat).all p = true) (h : p (at_ l i) = true) : (l.take (i + 1).toNat).all p = true := by
  rw [take_at h0 h1, List.all_append, pre]; simp [h]
theorem all_done {α : Type} {p : α → Bool} {l : List α} {i : Int} (pre : (l.take i.toNat).all p = true) (h : (l.length : Int) ≤ i) : l.all p = true := by
  rwa [List.take_of_length_le (by omega)] at pre
theorem nums_T {w : List ByteArray} {i : Int} (h0 : 0 ≤ i) (h1 : i < w.length) (pre : numsB (w.take i.toNat) = true) (h : (R_lex_Number (at_ w i)).2 = true) : numsB (w.take (i + 1).toNat) = true := all_step (p := fun x => (R_lex_Number x).2) h0 h1 pre h
theorem nums_F {w : List ByteArray} {i : Int} (h0 : 0 ≤ i) (h1 : i < w.length) (h : (R_lex_Number (at_ w i)).2 = false) : numsB w = false := all_at (p := fun x => (R_lex_Number x).2) h0 h1 h
theorem nums_end {w : List ByteArray} {i : Int} (pre : numsB (w.take i.toNat) = true) (h : (w.length : Int) ≤ i) : numsB w = true := all_done pre h
theorem nums_step {w : List ByteArray} {i : Int} (h0 : 0 ≤ i) (h1 : i < w.length) : numsL (w.take i.toNat) ++ [(R_lex_Number (at_ w i)).1] = numsL (w.take (i + 1).toNat) := by
  rw [take_at h0 h1]; simp [numsL]
theorem numsL_len (w : List ByteArray) : (numsL w).length = w.length := by simp [numsL]
theorem nums_take {w : List ByteArray} {i : Int} (h0 : 0 ≤ i) (h1 : i ≤ (w.length : Int)) : ((numsL (w.take i.toNat)).length : Int) = i := by
  rw [numsL_len, List.length_take]; omega
theorem nums_all {w : List ByteArray} {i : Int} (h : (w.length : Int) ≤ i) : numsL (w.take i.toNat) = numsL w := by rw [List.take_of_length_le (by omega)]
theorem cnt_F1 {w : List ByteArray} {n : Int} (h : numsB w = false) : cntB w n = false := by simp [cntB, h]
theorem cnt_F2 {w : List ByteArray} {n : Int} (hl : (numsL w).length = w.length) (h : ¬ ((numsL w).length : Int) = n) : cntB w n = false := by rw [hl] at h; simp [cntB, h]
theorem cnt_T {w : List ByteArray} {n : Int} (hl : (numsL w).length = w.length) (h1 : numsB w = true) (h : ((numsL w).length : Int) = n) : cntB w n = true := by rw [hl] at h; simp [cntB, h, h1]
theorem cnt_len {w : List ByteArray} {n : Int} (h : cntB w n = true) : ((numsL w).length : Int) = n ∧ (w.length : Int) = n := by
  rw [numsL_len]; simp [cntB] at h; exact ⟨h.2, h.2⟩
theorem in_T {lo hi : Int} {l : List Int} {i : Int} (h0 : 0 ≤ i) (h1 : i < l.length) (pre : inB lo hi (l.take i.toNat) = true) (h : (decide (lo ≤ at_ l i) && decide (at_ l i ≤ hi)) = true) : inB lo hi (l.take (i + 1).toNat) = true := all_step (p := fun x => decide (lo ≤ x) && decide (x ≤ hi)) h0 h1 pre h
theorem in_F {lo hi : Int} {l : List Int} {i : Int} (h0 : 0 ≤ i) (h1 : i < l.length) (h : (decide (lo ≤ at_ l i) && decide (at_ l i ≤ hi)) = false) : inB lo hi l = false := all_at (p := fun x => decide (lo ≤ x) && decide (x ≤ hi)) h0 h1 h
theorem in_T2 {lo hi : Int} {l : List Int} {i : Int} (h0 : 0 ≤ i) (h1 : i < l.length) (pre : inB lo hi (l.take i.toNat) = true) (ha : lo ≤ at_ l i) (hb : at_ l i ≤ hi) : inB lo hi (l.take (i + 1).toNat) = true := in_T h0 h1 pre (by simp [ha, hb])
theorem in_F2 {lo hi : Int} {l : List Int} {i : Int} (h0 : 0 ≤ i) (h1 : i < l.length) (h : at_ l i < lo ∨ hi < at_ l i) : inB lo hi l = false := in_F h0 h1 (by simp; omega)
theorem in_end {lo hi : Int} {l : List Int} {i : Int} (pre : inB lo hi (l.take i.toNat) = true) (h : (l.length : Int) ≤ i) : inB lo hi l = true := all_done pre h
theorem all_T {w : List ByteArray} {i : Int} (h0 : 0 ≤ i) (h1 : i < w.length) (pre : (w.take i.toNat).all nameB = true) (h : nameB (at_ w i) = true) : (w.take (i + 1).toNat).all nameB = true := all_step h0 h1 pre h
theorem all_end {w : List ByteArray} {i : Int} (pre : (w.take i.toNat).all nameB = true) (h : (w.length : Int) ≤ i) : w.all nameB = true := all_done pre h
theorem named_F1 {w : List ByteArray} {k l : Int} (h : ¬ ((w.length : Int) ≥ l)) : namedB w k l = false := by
  simp [namedB]; intro h'; omega
theorem named_F2 {w : List ByteArray} {k l i : Int} (h0 : 0 ≤ i) (h1 : i < (w.take k.toNat).length) (h : nameB (at_ (w.take k.toNat) i) = false) : namedB w k l = false := by
  simp only [namedB, all_at h0 h1 h, Bool.and_false]
theorem named_T {w : List ByteArray} {k l : Int} (h : (w.length : Int) ≥ l) (h2 : (w.take k.toNat).all nameB = true) : namedB w k l = true := by
  simp only [namedB, h2, Bool.and_true, decide_eq_true_eq]; omega
theorem named_len {w : List ByteArray} {k l : Int} (h : namedB w k l = true) : l ≤ (w.length : Int) := by
  simp only [namedB, Bool.and_eq_true, decide_eq_true_eq] at h; exact h.1
theorem nm_step {α : Type} [Inhabited α] {f : α → ByteArray} {l : List α} {x : ByteArray} {i : Int} (pre : ∀ j : Int, 0 ≤ j → j < i → f (at_ l j) ≠ x) (h : ¬ f (at_ l i) = x) : ∀ j : Int, 0 ≤ j → j < i + 1 → f (at_ l j) ≠ x := fun j h0 h1 => by
  by_cases e : j = i
  · rw [e]; exact h
  · exact pre j h0 (by omega)
theorem idxN_hit {α : Type} [Inhabited α] {f : α → ByteArray} {l : List α} {x : ByteArray} {i : Int} (h0 : 0 ≤ i) (h1 : i < l.length) (pre : ∀ j : Int, 0 ≤ j → j < i → f (at_ l j) ≠ x) (h : f (at_ l i) = x) : idxN (l.map f) x = i := by
  have hk : (l.map f).findIdx? (fun y => decide (y = x)) = some i.toNat := by
    rw [List.findIdx?_eq_some_iff_getElem]
    refine ⟨by simp; omega, ?_, fun j hj => ?_⟩
    · rw [at_get h0 h1] at h; simp [h]
    · have := pre j (by omega) (by omega)
      rw [at_get (by omega) (by omega)] at this
      simpa using this
  simp only [idxN, hk]; omega
theorem idxN_none {α : Type} [Inhabited α] {f : α → ByteArray} {l : List α} {x : ByteArray} {i : Int} (h : (l.length : Int) ≤ i) (pre : ∀ j : Int, 0 ≤ j → j < i → f (at_ l j) ≠ x) : idxN (l.map f) x = -1 := by
  have hk : (l.map f).findIdx? (fun y => decide (y = x)) = none := by
    rw [List.findIdx?_eq_none_iff]
    intro y hy
    obtain ⟨a, ha, rfl⟩ := List.mem_map.1 hy
    obtain ⟨j, hj, rfl⟩ := List.getElem_of_mem ha
    have := pre j (by omega) (by omega)
    rw [at_get (by omega) (by omega)] at this
    simpa using this
  simp only [idxN, hk]
theorem idxN_rng (l : List ByteArray) (x : ByteArray) : -1 ≤ idxN l x ∧ idxN l x < (l.length : Int) := by
  unfold idxN
  split
  · rename_i i h
    rw [List.findIdx?_eq_some_iff_getElem] at h
    obtain ⟨h, _⟩ := h; omega
  · omega
end Go.Proofs.S
namespace Go.Proofs.S
open Go Go.AH Go.Proofs.L
set_option maxRecDepth 4000
set_option maxHeartbeats 4000000
set_option linter.unusedSimpArgs false
set_option linter.unusedVariables false
set_option linter.unusedSectionVars false
variable [LexG]
theorem c_need (b : Bool) (k : Int) : PX Tryd.prog 36 35 [.bool b, .int .i64 k] (if b = true then Except.ok () else Except.error k) fun _ => .tup [] := by
 intro H0
 refine ACallsX.of_body' (n := 8) rfl rfl rfl rfl ?_
 have m0 := Mono.refl H0
 refine AWP.seq ?_
 refine AWP.region (l := [0, 1]) rfl ?_
 refine AOps.cons rfl rfl (AOp.move (.bool b) rfl rfl ?_)
 refine AOps.cons rfl rfl (AOp.not rfl rfl ?_)
 refine AOps.nil ?_
 change AWP _ _ _ _ _ _
 rcases Bool.eq_false_or_eq_true (b) with b1 | b1
 ·
  refine AWP.condF rfl (nb b1) ?_
  refine AWP.skip ?_
  refine Or.inl ?_
  exact ⟨_, _, Ghost.refl, .inl rfl, _, Res.zero rfl, ⟨(), pbT (by exact b1), rfl, m0⟩⟩
 ·
  refine AWP.condT rfl (nb b1) ?_
  refine AWP.regionX (l := [0, 1, 2]) rfl ?_
  refine AOpsX.cons rfl rfl (AOp.move (.int .i64 k) rfl rfl ?_)
  refine AOpsX.cons rfl rfl (AOp.makeIface (.int .i64 k) rfl rfl u_36 rfl ?_)
  exact AOpsX.consX rfl rfl (AOpX.panic (m := k) rfl (Or.inr ⟨_, rfl, _, pbF (by exact b1), rfl, m0⟩))
theorem c_numbers (w : List ByteArray) (hw : w.length ≤ 1048576) : PX Tryd.prog 36 40 [.sl w.length (w.map eStr)] (if numsB w = true then Except.ok () else Except.error 10) fun _ => .sl (numsL w).length ((numsL w).map eI) := by
 intro H0
 refine ACallsX.of_body' (n := 27) rfl rfl rfl rfl ?_
 have m0 := Mono.refl H0
 refine AWP.seq ?_
 refine AWP.region (l := [0]) rfl ?_
 refine AOps.cons rfl rfl (AOp.assign (.snil) rfl rfl ?_)
 refine AOps.nil ?_
 change AWP _ _ _ _ _ _
 refine AWP.seq ?_
 refine AWP.region (l := [0]) rfl ?_
 refine AOps.cons rfl rfl (AOp.assign (.snil) rfl rfl ?_)
 refine AOps.nil ?_
 change AWP _ _ _ _ _ _
 refine AWP.seq ?_
 refine AWP.seq ?_
 refine AWP.region (l := [0, 1, 2]) rfl ?_
 refine AOps.cons rfl rfl (AOp.move (.sl w.length (w.map eStr)) rfl rfl ?_)
 refine AOps.cons rfl rfl (AOp.len (m := w.length) rfl rfl (.inr (.inl ⟨_, rfl⟩)) u_52 ?_)
 refine AOps.cons rfl rfl (AOp.move (.int .i64 0) rfl rfl ?_)
 refine AOps.nil ?_
 change AWP _ _ _ _ _ _
 refine AWP.block ?_
 refine AWP.loop (fun q1 fq Hq => ∃ (i : Int) (w3 : AV), q1 = (((w.length : Int) : Int) - i).toNat ∧ fq 10 = .int .i64 i ∧ fq 2 = .snil ∧ fq 8 = .sl w.length (w.map eStr) ∧ fq 9 = .int .i64 (w.length : Int) ∧ fq 3 = w3 ∧ Own H0 Hq 1 w3 (numsL (w.take i.toNat)).length ((numsL (w.take i.toNat)).map eI) ∧ Mono H0 Hq ∧ (0 ≤ i) ∧ (i ≤ (w.length : Int)) ∧ (numsB (w.take i.toNat) = true)) (k := (((w.length : Int) : Int) - 0).toNat) ?_ ?_
 ·
  exact ⟨0, .snil, rfl, rfl, rfl, rfl, rfl, rfl, Own.nil _ _ _, m0, by omega, by omega, by rfl⟩
 ·
  rintro _ f3 H2 ⟨i, w3, rfl, s4, s5, s6, s7, s8, o9, m10, hi0, hi1, pre⟩
  have hq := nums_take hi0 hi1
  refine AWP.seq ?_
  refine AWP.region (l := [0]) rfl ?_
  refine AOps.cons rfl rfl (AOp.bin (.bool (decide (i < (w.length : Int)))) rfl s4 s7 rfl ?_)
  refine AOps.nil ?_
  change AWP _ _ _ _ _ _
  refine AWP.seq ?_
  by_cases b11 : i < (w.length : Int)
  ·
   refine AWP.condT rfl (decide_eq_true b11) ?_
   refine AWP.skip ?_
   change AWP _ _ _ _ _ _
   refine AWP.seq ?_
   refine AWP.block ?_
   refine AWP.seq ?_
   refine AWP.region (l := [0, 1, 2]) rfl ?_
   refine AOps.cons rfl rfl (AOp.indexAddrS rfl s6 s4 sl_52 (by omega) (by omega) ?_)
   refine AOps.cons rfl rfl (AOp.loadF (.str (at_ w i)) rfl rfl ty_9 (ld1 (by omega) (by omega)) ?_)
   refine AOps.cons rfl rfl (AOp.assign (.str (at_ w i)) rfl rfl ?_)
   refine AOps.nil ?_
   change AWP _ _ _ _ _ _
   refine AWP.seq ?_
   refine AWP.region (l := [0, 1, 2, 3, 4, 5, 6]) rfl ?_
   refine AOps.cons rfl rfl (AOp.move (.str (at_ w i)) rfl rfl ?_)
   refine AOps.cons rfl rfl (AOp.pcall («as» := [.str (at_ w i)]) rfl rfl (rfl) tf_51 (c_lex_Number _) ?_)
   intro H12 m13
   have o14 := Own.mono o9 m13
   have m15 := m10.trans m13
   refine AOps.cons rfl rfl (AOp.move (.tup [.int .i64 ((R_lex_Number (at_ w i)).1), .bool ((R_lex_Number (at_ w i)).2)]) rfl rfl ?_)
   refine AOps.cons rfl rfl (AOp.extract (.int .i64 ((R_lex_Number (at_ w i)).1)) rfl rfl rfl ?_)
   refine AOps.cons rfl rfl (AOp.extract (.bool ((R_lex_Number (at_ w i)).2)) rfl rfl rfl ?_)
   refine AOps.cons rfl rfl (AOp.assign (.int .i64 ((R_lex_Number (at_ w i)).1)) rfl rfl ?_)
   refine AOps.cons rfl rfl (AOp.assign (.bool ((R_lex_Number (at_ w i)).2)) rfl rfl ?_)
   refine AOps.nil ?_
   change AWP _ _ _ _ _ _
   refine AWP.seq ?_
   refine AWP.regionX (l := [0, 1]) rfl ?_
   refine AOpsX.cons rfl rfl (AOp.move (.bool ((R_lex_Number (at_ w i)).2)) rfl rfl ?_)
   refine AOpsX.consX rfl rfl (AOpX.need (b := (R_lex_Number (at_ w i)).2) (k := 10) (as_ := [.bool ((R_lex_Number (at_ w i)).2), .int .i64 10]) rfl rfl (rfl) tf_35 (c_need _ _) ?_ (fun hb _ m2 => Or.inr ⟨_, rfl, _, pbF (by exact nums_F hi0 (by omega) hb), rfl, m15.trans m2⟩))
   intro hb16 H17 m18
   have o19 := Own.mono o14 m18
   have m20 := m15.trans m18
   refine AOpsX.nil ?_
   change AWP _ _ _ _ _ _
   refine AWP.region (l := [0, 1, 2, 3, 4]) rfl ?_
   refine AOps.cons rfl rfl (AOp.move (w3) rfl s8 ?_)
   refine AOps.cons rfl rfl (AOp.move (.int .i64 ((R_lex_Number (at_ w i)).1)) rfl rfl ?_)
   refine AOps.cons rfl rfl (AOp.buildSlice (cells := [.int .i64 ((R_lex_Number (at_ w i)).1)]) rfl u_47 ts_3 tz_3 rfl rfl rfl ?_)
   intro i21 H22 n23 h24 k25
   have z26 := Mono.free m20 n23
   have o27 := Own.keep o19 k25 (Own.notnew o19 n23)
   have no28 := Own.notnew o19 n23
   have m29 := Mono.new m20 n23 k25
   refine AOps.cons rfl rfl (AOp.append_own (es := 1) (m := 1) (len := ((numsL (w.take i.toNat)).length)) (old := (numsL (w.take i.toNat)).map eI) (cells := [.int .i64 ((R_lex_Number (at_ w i)).1)]) rfl u_47 ts_3 tzn_3 tb_3 (by decide) ni_47 rfl o27 m29 rfl (.slm h24 rfl) (one_of rfl) (by decide) (by first | omega | (simp; omega)) ?_)
   intro v30 H31 o32 m33 k34 j35
   have o36 := Own.snoc1 (xs := ((numsL (w.take i.toNat)) : List Int)) (y := (R_lex_Number (at_ w i)).1) (e := eI) (by simp) o32
   refine AOps.cons rfl rfl (AOp.assign (v30) rfl rfl ?_)
   refine AOps.nil ?_
   change AWP _ _ _ _ _ _
   refine AWP.region (l := [0, 1]) rfl ?_
   refine AOps.cons rfl rfl (AOp.bin (.int .i64 (i + 1)) rfl s4 rfl (iadd (by omega)) ?_)
   refine AOps.cons rfl rfl (AOp.move (.int .i64 (i + 1)) rfl rfl ?_)
   refine AOps.nil ?_
   exact ⟨_, by omega, i + 1, v30, rfl, rfl, s5, s6, s7, rfl, (have hx : (((numsL (w.take i.toNat)) ++ [(R_lex_Number (at_ w i)).1]) : List Int) = numsL (w.take (i + 1).toNat) := (by exact nums_step hi0 (by omega)); Own.re o36 (congrArg List.length hx) (congrArg (fun l : List Int => l.map eI) hx)), m33, by omega, by omega, by exact nums_T hi0 (by omega) pre hb16⟩
  ·
   refine AWP.condF rfl (decide_eq_false b11) ?_
   refine AWP.exit ?_
   change AWP _ _ _ _ _ _
   refine AWP.seq ?_
   refine AWP.region (l := [0, 1]) rfl ?_
   refine AOps.cons rfl rfl (AOp.move (w3) rfl s8 ?_)
   refine AOps.cons rfl rfl (AOp.assign (w3) rfl rfl ?_)
   refine AOps.nil ?_
   change AWP _ _ _ _ _ _
   refine AWP.ret ?_
   refine Or.inl ?_
   refine Fin.frz 2 o9 rfl m10 fun H37 m38 k39 => ?_
   exact ⟨_, _, Ghost.refl, .inr rfl, _, Res.one rfl rfl, ⟨(), pbT (by exact nums_end pre (by omega)), (congrArg (fun l : List Int => AV.sl l.length (l.map eI)) (show ((numsL (w.take i.toNat)) : List Int) = numsL w from by exact nums_all (by omega))), m38⟩⟩
theorem c_counted (w : List ByteArray) (hw : w.length ≤ 1048576) (n : Int) : PX Tryd.prog 36 34 [.sl w.length (w.map eStr), .int .i64 n] (if cntB w n = true then Except.ok () else Except.error 10) fun _ => .sl (numsL w).length ((numsL w).map eI) := by
 intro H0
 refine ACallsX.of_body' (n := 14) rfl rfl rfl rfl ?_
 have m0 := Mono.refl H0
 refine AWP.seq ?_
 refine AWP.region (l := [0]) rfl ?_
 refine AOps.cons rfl rfl (AOp.assign (.snil) rfl rfl ?_)
 refine AOps.nil ?_
 change AWP _ _ _ _ _ _
 refine AWP.seq ?_
 refine AWP.regionX (l := [0, 1, 2]) rfl ?_
 refine AOpsX.cons rfl rfl (AOp.move (.sl w.length (w.map eStr)) rfl rfl ?_)
 refine AOpsX.consX rfl rfl (AOpX.need (b := numsB w) (k := 10) (as_ := [.sl w.length (w.map eStr)]) rfl rfl (rfl) tf_40 (c_numbers w (by first | omega | assumption | (simp only [List.length_drop, List.length_take]; omega) | (simp; omega) | simp)) ?_ (fun hb _ m2 => Or.inr ⟨_, rfl, _, pbF (by exact cnt_F1 hb), rfl, m0.trans m2⟩))
 intro hb1 H2 m3
 have m4 := m0.trans m3
 have hl5 := numsL_len w
 refine AOpsX.cons rfl rfl (AOp.assign (.sl (numsL w).length ((numsL w).map eI)) rfl rfl ?_)
 refine AOpsX.nil ?_
 change AWP _ _ _ _ _ _
 refine AWP.seq ?_
 have hl1_ := numsL_len w
 refine AWP.regionX (l := [0, 1, 2, 3, 4]) rfl ?_
 refine AOpsX.cons rfl rfl (AOp.move (.sl (numsL w).length ((numsL w).map eI)) rfl rfl ?_)
 refine AOpsX.cons rfl rfl (AOp.len (m := (numsL w).length) rfl rfl (.inr (.inl ⟨_, rfl⟩)) u_47 ?_)
 refine AOpsX.cons rfl rfl (AOp.move (.int .i64 n) rfl rfl ?_)
 refine AOpsX.cons rfl rfl (AOp.bin (.bool (decide ((((numsL w).length) : Int) = n))) rfl rfl rfl ieq ?_)
 refine AOpsX.consX rfl rfl (AOpX.need (b := decide ((((numsL w).length) : Int) = n)) (k := 10) (as_ := [.bool (decide ((((numsL w).length) : Int) = n)), .int .i64 10]) rfl rfl (rfl) tf_35 (c_need _ _) ?_ (fun hb _ m2 => Or.inr ⟨_, rfl, _, pbF (by exact cnt_F2 hl1_ (of_decide_eq_false hb)), rfl, m4.trans m2⟩))
 intro hb6 H7 m8
 have m9 := m4.trans m8
 have hp10 := of_decide_eq_true hb6
 refine AOpsX.nil ?_
 change AWP _ _ _ _ _ _
 refine AWP.seq ?_
 refine AWP.region (l := [0, 1]) rfl ?_
 refine AOps.cons rfl rfl (AOp.move (.sl (numsL w).length ((numsL w).map eI)) rfl rfl ?_)
 refine AOps.cons rfl rfl (AOp.assign (.sl (numsL w).length ((numsL w).map eI)) rfl rfl ?_)
 refine AOps.nil ?_
 change AWP _ _ _ _ _ _
 refine AWP.ret ?_
 refine Or.inl ?_
 exact ⟨_, _, Ghost.refl, .inr rfl, _, Res.one rfl rfl, ⟨(), pbT (by exact cnt_T hl1_ hb1 (of_decide_eq_true hb6)), rfl, m9⟩⟩
theorem c_within (lo hi : Int) (l : List Int) (hl : l.length ≤ 1048576) : PX Tryd.prog 36 36 [.int .i64 lo, .int .i64 hi, .sl l.length (l.map eI)] (if inB lo hi l = true then Except.ok () else Except.error 11) fun _ => .tup [] := by
 intro H0
 refine ACallsX.of_body' (n := 24) rfl rfl rfl rfl ?_
 have m0 := Mono.refl H0
 refine AWP.seq ?_
 refine AWP.region (l := [0, 1, 2]) rfl ?_
 refine AOps.cons rfl rfl (AOp.move (.sl l.length (l.map eI)) rfl rfl ?_)
 refine AOps.cons rfl rfl (AOp.len (m := l.length) rfl rfl (.inr (.inl ⟨_, rfl⟩)) u_47 ?_)
 refine AOps.cons rfl rfl (AOp.move (.int .i64 0) rfl rfl ?_)
 refine AOps.nil ?_
 change AWP _ _ _ _ _ _
 refine AWP.block ?_
 refine AWP.loop (fun q1 fq Hq => ∃ (i : Int), q1 = (((l.length : Int) : Int) - i).toNat ∧ fq 10 = .int .i64 i ∧ fq 0 = .int .i64 lo ∧ fq 1 = .int .i64 hi ∧ fq 8 = .sl l.length (l.map eI) ∧ fq 9 = .int .i64 (l.length : Int) ∧ Mono H0 Hq ∧ (0 ≤ i) ∧ (i ≤ (l.length : Int)) ∧ (inB lo hi (l.take i.toNat) = true)) (k := (((l.length : Int) : Int) - 0).toNat) ?_ ?_
 ·
  exact ⟨0, rfl, rfl, rfl, rfl, rfl, rfl, m0, by omega, by omega, by rfl⟩
 ·
  rintro _ f3 H2 ⟨i, rfl, s4, s5, s6, s7, s8, m9, hi0, hi1, pre⟩
  refine AWP.seq ?_
  refine AWP.region (l := [0]) rfl ?_
  refine AOps.cons rfl rfl (AOp.bin (.bool (decide (i < (l.length : Int)))) rfl s4 s8 rfl ?_)
  refine AOps.nil ?_
  change AWP _ _ _ _ _ _
  refine AWP.seq ?_
  by_cases b10 : i < (l.length : Int)
  ·
   refine AWP.condT rfl (decide_eq_true b10) ?_
   refine AWP.skip ?_
   change AWP _ _ _ _ _ _
   refine AWP.seq ?_
   refine AWP.block ?_
   refine AWP.seq ?_
   refine AWP.region (l := [0, 1, 2]) rfl ?_
   refine AOps.cons rfl rfl (AOp.indexAddrS rfl s7 s4 sl_47 (by omega) (by omega) ?_)
   refine AOps.cons rfl rfl (AOp.loadF (.int .i64 (at_ l i)) rfl rfl ty_3 (ld1 (by omega) (by omega)) ?_)
   refine AOps.cons rfl rfl (AOp.assign (.int .i64 (at_ l i)) rfl rfl ?_)
   refine AOps.nil ?_
   change AWP _ _ _ _ _ _
   refine AWP.regionX (l := [0, 1, 2, 3, 4, 5, 6, 7, 8]) rfl ?_
   refine AOpsX.cons rfl rfl (AOp.move (.int .i64 lo) rfl s5 ?_)
   refine AOpsX.cons rfl rfl (AOp.move (.int .i64 (at_ l i)) rfl rfl ?_)
   refine AOpsX.cons rfl rfl (AOp.bin (.bool (decide (lo ≤ at_ l i))) rfl rfl rfl rfl ?_)
   refine AOpsX.cons rfl rfl (AOp.move (.bool (decide (lo ≤ at_ l i))) rfl rfl ?_)
   by_cases b11 : lo ≤ at_ l i
   ·
    refine AOpsX.yes rfl rfl rfl rfl rfl rfl rfl (decide_eq_true b11) (AOp.move (.int .i64 (at_ l i)) rfl rfl ?_)
    refine AOpsX.yes rfl rfl rfl rfl rfl rfl rfl (decide_eq_true b11) (AOp.move (.int .i64 hi) rfl s6 ?_)
    refine AOpsX.yes rfl rfl rfl rfl rfl rfl rfl (decide_eq_true b11) (AOp.bin (.bool (decide (at_ l i ≤ hi))) rfl rfl rfl rfl ?_)
    refine AOpsX.cons rfl rfl (AOp.pickT (.bool (decide (at_ l i ≤ hi))) rfl rfl (decide_eq_true b11) rfl ?_)
    refine AOpsX.consX rfl rfl (AOpX.need (b := decide (at_ l i ≤ hi)) (k := 11) (as_ := [.bool (decide (at_ l i ≤ hi)), .int .i64 11]) rfl rfl (rfl) tf_35 (c_need _ _) ?_ (fun hb _ m2 => Or.inr ⟨_, rfl, _, pbF (by exact in_F2 hi0 (by omega) (by first | omega | (have := of_decide_eq_false hb; omega))), rfl, m9.trans m2⟩))
    intro hb12 H13 m14
    have m15 := m9.trans m14
    have hp16 := of_decide_eq_true hb12
    refine AOpsX.nil ?_
    change AWP _ _ _ _ _ _
    refine AWP.region (l := [0, 1]) rfl ?_
    refine AOps.cons rfl rfl (AOp.bin (.int .i64 (i + 1)) rfl s4 rfl (iadd (by omega)) ?_)
    refine AOps.cons rfl rfl (AOp.move (.int .i64 (i + 1)) rfl rfl ?_)
    refine AOps.nil ?_
    exact ⟨_, by omega, i + 1, rfl, rfl, s5, s6, s7, s8, m15, by omega, by omega, by exact in_T2 hi0 (by omega) pre (by omega) (by omega)⟩
   ·
    refine AOpsX.no rfl rfl rfl rfl rfl rfl rfl (ble_of (decide_eq_false b11) (by decide)) ?_
    refine AOpsX.no rfl rfl rfl rfl rfl rfl rfl (ble_of (decide_eq_false b11) (by decide)) ?_
    refine AOpsX.no rfl rfl rfl rfl rfl rfl rfl (ble_of (decide_eq_false b11) (by decide)) ?_
    refine AOpsX.cons rfl rfl (AOp.pickF (.bool false) rfl rfl (decide_eq_false b11) rfl ?_)
    refine AOpsX.consX rfl rfl (AOpX.need (b := false) (k := 11) (as_ := [.bool false, .int .i64 11]) rfl rfl (rfl) tf_35 (c_need _ _) (fun h => Bool.noConfusion h) (fun _ _ m2 => Or.inr ⟨_, rfl, _, pbF (by exact in_F2 hi0 (by omega) (by first | omega | (have := of_decide_eq_false rfl; omega))), rfl, m9.trans m2⟩))
  ·
   refine AWP.condF rfl (decide_eq_false b10) ?_
   refine AWP.exit ?_
   refine Or.inl ?_
   exact ⟨_, _, Ghost.refl, .inl rfl, _, Res.zero rfl, ⟨(), pbT (by exact in_end pre (by omega)), rfl, m9⟩⟩
theorem c_color (n : List Int) (hn : 3 ≤ n.length) : PC Tryd.prog 38 [.sl n.length (n.map eI)] (.agg [.int .i64 ((colR n).R), .int .i64 ((colR n).G), .int .i64 ((colR n).B)]) := by
 intro H0
 refine ACalls.of_body' (n := 13) rfl rfl rfl rfl ?_
 have m0 := Mono.refl H0
 refine AWP.seq ?_
 refine AWP.region (l := [0]) rfl ?_
 refine AOps.cons rfl rfl (AOp.alloc rfl tz_28 ?_)
 intro i1 H2 n3 h4 k5
 have z6 := Mono.free m0 n3
 have m7 := Mono.new m0 n3 k5
 refine AOps.nil ?_
 change AWP _ _ _ _ _ _
 refine AWP.seq ?_
 refine AWP.region_quiet mixed (by kernel_rfl) 10 [10] rfl (by kernel_rfl) (Mono H2) (Mono.refl _) ?_
 refine QE.op rfl rfl (.inl ⟨rfl, fun f' H' hf hM => AOp.move (.sl n.length (n.map eI)) rfl ((hf 0 rfl).trans rfl) ⟨rfl, hM⟩⟩) ?_
 refine QE.op rfl rfl (.inl ⟨rfl, fun f' H' hf hM => AOp.indexAddrS rfl ((hf 3 rfl).trans rfl) rfl sl_47 (by omega) (by omega) ⟨rfl, hM⟩⟩) ?_
 refine QE.op rfl rfl (.inl ⟨rfl, fun f' H' hf hM => AOp.loadF (.int .i64 (at_ n 0)) rfl ((hf 4 rfl).trans rfl) ty_3 (ld1 (by omega) (by omega)) ⟨rfl, hM⟩⟩) ?_
 refine QE.op rfl rfl (.inl ⟨rfl, fun f' H' hf hM => AOp.move (.sl n.length (n.map eI)) rfl ((hf 0 rfl).trans rfl) ⟨rfl, hM⟩⟩) ?_
 refine QE.op rfl rfl (.inl ⟨rfl, fun f' H' hf hM => AOp.indexAddrS rfl ((hf 6 rfl).trans rfl) rfl sl_47 (by omega) (by omega) ⟨rfl, hM⟩⟩) ?_
 refine QE.op rfl rfl (.inl ⟨rfl, fun f' H' hf hM => AOp.loadF (.int .i64 (at_ n 1)) rfl ((hf 7 rfl).trans rfl) ty_3 (ld1 (by omega) (by omega)) ⟨rfl, hM⟩⟩) ?_
 refine QE.op rfl rfl (.inl ⟨rfl, fun f' H' hf hM => AOp.move (.sl n.length (n.map eI)) rfl ((hf 0 rfl).trans rfl) ⟨rfl, hM⟩⟩) ?_
 refine QE.op rfl rfl (.inl ⟨rfl, fun f' H' hf hM => AOp.indexAddrS rfl ((hf 9 rfl).trans rfl) rfl sl_47 (by omega) (by omega) ⟨rfl, hM⟩⟩) ?_
 refine QE.op rfl rfl (.inl ⟨rfl, fun f' H' hf hM => AOp.loadF (.int .i64 (at_ n 2)) rfl ((hf 10 rfl).trans rfl) ty_3 (ld1 (by omega) (by omega)) ⟨rfl, hM⟩⟩) ?_
 refine QE.op rfl rfl (.inl ⟨rfl, fun f' H' hf hM => AOp.build (cells := [.int .i64 (at_ n 0), .int .i64 (at_ n 1), .int .i64 (at_ n 2)]) rfl tz_28 pl_28 (lconsP ((hf 5 rfl).trans rfl) (lconsP ((hf 8 rfl).trans rfl) (lconsP ((hf 11 rfl).trans rfl) rfl))) rfl ⟨rfl, hM⟩⟩) ?_
 refine QE.done fun H8 m9 => ?_
 have h10 := m9 _ _ h4
 have m11 := m7.trans m9
 refine AOps.cons rfl rfl (AOp.store' (cells' := [.int .i64 (at_ n 0), .int .i64 (at_ n 1), .int .i64 (at_ n 2)]) (.agg [.int .i64 (at_ n 0), .int .i64 (at_ n 1), .int .i64 (at_ n 2)]) rfl rfl ts_28 h10 rfl rfl rfl rfl ?_)
 intro H12 h13 k14
 have m16 := Mono.set m11 z6 k14
 refine AOps.nil ?_
 change AWP _ _ _ _ _ _
 refine AWP.ret ?_
 refine ⟨_, _, Ghost.refl, .inr rfl, _, Res.list1 rfl (.cell (v := .agg [.int .i64 (at_ n 0), .int .i64 (at_ n 1), .int .i64 (at_ n 2)]) rfl ty_28 h13 rfl (.nil)), ?_, m16⟩
 exact (congrArg AV.agg (lc (congrArg (AV.int .i64) (show (at_ n 0 : Int) = (colR n).R from by first | rfl | omega | simp_all)) (lc (congrArg (AV.int .i64) (show (at_ n 1 : Int) = (colR n).G from by first | rfl | omega | simp_all)) (lc (congrArg (AV.int .i64) (show (at_ n 2 : Int) = (colR n).B from by first | rfl | omega | simp_all)) rfl))))
theorem c_point (n : List Int) (hn : 3 ≤ n.length) : PC Tryd.prog 37 [.sl n.length (n.map eI)] (.agg [.int .i64 ((ptR n).X), .int .i64 ((ptR n).Y), .int .i64 ((ptR n).Z)]) := by
 intro H0
 refine ACalls.of_body' (n := 13) rfl rfl rfl rfl ?_
 have m0 := Mono.refl H0
 refine AWP.seq ?_
 refine AWP.region (l := [0]) rfl ?_
 refine AOps.cons rfl rfl (AOp.alloc rfl tz_24 ?_)
 intro i1 H2 n3 h4 k5
 have z6 := Mono.free m0 n3
 have m7 := Mono.new m0 n3 k5
 refine AOps.nil ?_
 change AWP _ _ _ _ _ _
 refine AWP.seq ?_
 refine AWP.region_quiet mixed (by kernel_rfl) 10 [10] rfl (by kernel_rfl) (Mono H2) (Mono.refl _) ?_
 refine QE.op rfl rfl (.inl ⟨rfl, fun f' H' hf hM => AOp.move (.sl n.length (n.map eI)) rfl ((hf 0 rfl).trans rfl) ⟨rfl, hM⟩⟩) ?_
 refine QE.op rfl rfl (.inl ⟨rfl, fun f' H' hf hM => AOp.indexAddrS rfl ((hf 3 rfl).trans rfl) rfl sl_47 (by omega) (by omega) ⟨rfl, hM⟩⟩) ?_
 refine QE.op rfl rfl (.inl ⟨rfl, fun f' H' hf hM => AOp.loadF (.int .i64 (at_ n 0)) rfl ((hf 4 rfl).trans rfl) ty_3 (ld1 (by omega) (by omega)) ⟨rfl, hM⟩⟩) ?_
 refine QE.op rfl rfl (.inl ⟨rfl, fun f' H' hf hM => AOp.move (.sl n.length (n.map eI)) rfl ((hf 0 rfl).trans rfl) ⟨rfl, hM⟩⟩) ?_
 refine QE.op rfl rfl (.inl ⟨rfl, fun f' H' hf hM => AOp.indexAddrS rfl ((hf 6 rfl).trans rfl) rfl sl_47 (by omega) (by omega) ⟨rfl, hM⟩⟩) ?_
 refine QE.op rfl rfl (.inl ⟨rfl, fun f' H' hf hM => AOp.loadF (.int .i64 (at_ n 1)) rfl ((hf 7 rfl).trans rfl) ty_3 (ld1 (by omega) (by omega)) ⟨rfl, hM⟩⟩) ?_
 refine QE.op rfl rfl (.inl ⟨rfl, fun f' H' hf hM => AOp.move (.sl n.length (n.map eI)) rfl ((hf 0 rfl).trans rfl) ⟨rfl, hM⟩⟩) ?_
 refine QE.op rfl rfl (.inl ⟨rfl, fun f' H' hf hM => AOp.indexAddrS rfl ((hf 9 rfl).trans rfl) rfl sl_47 (by omega) (by omega) ⟨rfl, hM⟩⟩) ?_
 refine QE.op rfl rfl (.inl ⟨rfl, fun f' H' hf hM => AOp.loadF (.int .i64 (at_ n 2)) rfl ((hf 10 rfl).trans rfl) ty_3 (ld1 (by omega) (by omega)) ⟨rfl, hM⟩⟩) ?_
 refine QE.op rfl rfl (.inl ⟨rfl, fun f' H' hf hM => AOp.build (cells := [.int .i64 (at_ n 0), .int .i64 (at_ n 1), .int .i64 (at_ n 2)]) rfl tz_24 pl_24 (lconsP ((hf 5 rfl).trans rfl) (lconsP ((hf 8 rfl).trans rfl) (lconsP ((hf 11 rfl).trans rfl) rfl))) rfl ⟨rfl, hM⟩⟩) ?_
 refine QE.done fun H8 m9 => ?_
 have h10 := m9 _ _ h4
 have m11 := m7.trans m9
 refine AOps.cons rfl rfl (AOp.store' (cells' := [.int .i64 (at_ n 0), .int .i64 (at_ n 1), .int .i64 (at_ n 2)]) (.agg [.int .i64 (at_ n 0), .int .i64 (at_ n 1), .int .i64 (at_ n 2)]) rfl rfl ts_24 h10 rfl rfl rfl rfl ?_)
 intro H12 h13 k14
 have m16 := Mono.set m11 z6 k14
 refine AOps.nil ?_
 change AWP _ _ _ _ _ _
 refine AWP.ret ?_
 refine ⟨_, _, Ghost.refl, .inr rfl, _, Res.list1 rfl (.cell (v := .agg [.int .i64 (at_ n 0), .int .i64 (at_ n 1), .int .i64 (at_ n 2)]) rfl ty_24 h13 rfl (.nil)), ?_, m16⟩
 exact (congrArg AV.agg (lc (congrArg (AV.int .i64) (show (at_ n 0 : Int) = (ptR n).X from by first | rfl | omega | simp_all)) (lc (congrArg (AV.int .i64) (show (at_ n 1 : Int) = (ptR n).Y from by first | rfl | omega | simp_all)) (lc (congrArg (AV.int .i64) (show (at_ n 2 : Int) = (ptR n).Z from by first | rfl | omega | simp_all)) rfl))))
theorem c_named (w : List ByteArray) (hw : w.length ≤ 1048576) (k l : Int) (hk : 0 ≤ k) (hkl : k ≤ l) : PX Tryd.prog 36 39 [.sl w.length (w.map eStr), .int .i64 k, .int .i64 l] (if namedB w k l = true then Except.ok () else Except.error 10) fun _ => .tup [] := by
 intro H0
 refine ACallsX.of_body' (n := 25) rfl rfl rfl rfl ?_
 have m0 := Mono.refl H0
 refine AWP.seq ?_
 refine AWP.regionX (l := [0, 1, 2, 3, 4]) rfl ?_
 refine AOpsX.cons rfl rfl (AOp.move (.sl w.length (w.map eStr)) rfl rfl ?_)
 refine AOpsX.cons rfl rfl (AOp.len (m := w.length) rfl rfl (.inr (.inl ⟨_, rfl⟩)) u_52 ?_)
 refine AOpsX.cons rfl rfl (AOp.move (.int .i64 l) rfl rfl ?_)
 refine AOpsX.cons rfl rfl (AOp.bin (.bool (decide ((w.length : Int) ≥ l))) rfl rfl rfl rfl ?_)
 refine AOpsX.consX rfl rfl (AOpX.need (b := decide ((w.length : Int) ≥ l)) (k := 10) (as_ := [.bool (decide ((w.length : Int) ≥ l)), .int .i64 10]) rfl rfl (rfl) tf_35 (c_need _ _) ?_ (fun hb _ m2 => Or.inr ⟨_, rfl, _, pbF (by exact named_F1 (of_decide_eq_false hb)), rfl, m0.trans m2⟩))
 intro hb1 H2 m3
 have m4 := m0.trans m3
 have hp5 := of_decide_eq_true hb1
 refine AOpsX.nil ?_
 change AWP _ _ _ _ _ _
 refine AWP.seq ?_
 refine AWP.region (l := [0, 1, 2, 3, 4]) rfl ?_
 refine AOps.cons rfl rfl (AOp.move (.sl w.length (w.map eStr)) rfl rfl ?_)
 refine AOps.cons rfl rfl (AOp.move (.int .i64 k) rfl rfl ?_)
 refine AOps.cons rfl rfl (AOp.sliceST1 (l := 0) (h := k) rfl rfl  sl_52 rfl (hi_of rfl) (by omega) (by omega) (by omega) ?_)
 refine AOps.cons rfl rfl (AOp.len (m := ((w).take k.toNat).length) rfl rfl (.inr (.inl ⟨_, rfl⟩)) u_52 ?_)
 refine AOps.cons rfl rfl (AOp.move (.int .i64 0) rfl rfl ?_)
 refine AOps.nil ?_
 change AWP _ _ _ _ _ _
 refine AWP.block ?_
 refine AWP.loop (fun q6 fq Hq => ∃ (i : Int), q6 = ((((w.take k.toNat).length : Int) : Int) - i).toNat ∧ fq 17 = .int .i64 i ∧ fq 15 = .sl ((w).take k.toNat).length (((w).take k.toNat).map eStr) ∧ fq 16 = .int .i64 ((((w).take k.toNat).length) : Int) ∧ Mono H0 Hq ∧ (0 ≤ i) ∧ (i ≤ ((w.take k.toNat).length : Int)) ∧ ((((w.take k.toNat).take i.toNat).all nameB) = true)) (k := ((((w.take k.toNat).length : Int) : Int) - 0).toNat) ?_ ?_
 ·
  exact ⟨0, rfl, rfl, rfl, rfl, m4, by omega, by omega, by rfl⟩
 ·
  rintro _ f8 H7 ⟨i, rfl, s9, s10, s11, m12, hi0, hi1, pre⟩
  have htk : (w.take k.toNat).length ≤ w.length := by simp; omega
  refine AWP.seq ?_
  refine AWP.region (l := [0]) rfl ?_
  refine AOps.cons rfl rfl (AOp.bin (.bool (decide (i < ((((w).take k.toNat).length) : Int)))) rfl s9 s11 rfl ?_)
  refine AOps.nil ?_
  change AWP _ _ _ _ _ _
  refine AWP.seq ?_
  by_cases b13 : i < ((((w).take k.toNat).length) : Int)
  ·
   refine AWP.condT rfl (decide_eq_true b13) ?_
   refine AWP.skip ?_
   change AWP _ _ _ _ _ _
   refine AWP.seq ?_
   refine AWP.block ?_
   refine AWP.seq ?_
   refine AWP.region (l := [0, 1, 2]) rfl ?_
   refine AOps.cons rfl rfl (AOp.indexAddrS rfl s10 s9 sl_52 (by omega) (by omega) ?_)
   refine AOps.cons rfl rfl (AOp.loadF (.str (at_ ((w).take k.toNat) i)) rfl rfl ty_9 (ld1 (by omega) (by omega)) ?_)
   refine AOps.cons rfl rfl (AOp.assign (.str (at_ ((w).take k.toNat) i)) rfl rfl ?_)
   refine AOps.nil ?_
   change AWP _ _ _ _ _ _
   refine AWP.regionX (l := [0, 1, 2]) rfl ?_
   refine AOpsX.cons rfl rfl (AOp.move (.str (at_ ((w).take k.toNat) i)) rfl rfl ?_)
   refine AOpsX.cons rfl rfl (AOp.pcall («as» := [.str (at_ ((w).take k.toNat) i)]) rfl rfl (rfl) tf_43 (c_lex_Name _) ?_)
   intro H14 m15
   have m16 := m12.trans m15
   refine AOpsX.consX rfl rfl (AOpX.need (b := nameB (at_ ((w).take k.toNat) i)) (k := 10) (as_ := [.bool (nameB (at_ ((w).take k.toNat) i)), .int .i64 10]) rfl rfl (rfl) tf_35 (c_need _ _) ?_ (fun hb _ m2 => Or.inr ⟨_, rfl, _, pbF (by exact named_F2 hi0 (by omega) hb), rfl, m16.trans m2⟩))
   intro hb17 H18 m19
   have m20 := m16.trans m19
   refine AOpsX.nil ?_
   change AWP _ _ _ _ _ _
   refine AWP.region (l := [0, 1]) rfl ?_
   refine AOps.cons rfl rfl (AOp.bin (.int .i64 (i + 1)) rfl s9 rfl (iadd (by omega)) ?_)
   refine AOps.cons rfl rfl (AOp.move (.int .i64 (i + 1)) rfl rfl ?_)
   refine AOps.nil ?_
   exact ⟨_, by omega, i + 1, rfl, rfl, s10, s11, m20, by omega, by omega, by exact all_T hi0 (by omega) pre hb17⟩
  ·
   refine AWP.condF rfl (decide_eq_false b13) ?_
   refine AWP.exit ?_
   refine Or.inl ?_
   exact ⟨_, _, Ghost.refl, .inl rfl, _, Res.zero rfl, ⟨(), pbT (by exact named_T (of_decide_eq_true hb1) (all_end pre (by omega))), rfl, m12⟩⟩
theorem c_tex_1 (t : TexT) (x : ByteArray) : PC Tryd.prog 53 [.agg [.str t.Name, .int .i64 t.W, .int .i64 t.H, .sl t.Rows.length (t.Rows.map eI)], .fptr [.str x] 0] (.bool (decide (t.Name = x))) := by
 intro H0
 refine ACalls.of_body' (n := 8) rfl rfl rfl rfl ?_
 have m0 := Mono.refl H0
 refine AWP.seq ?_
 refine AWP.region (l := [0, 1]) rfl ?_
 refine AOps.cons rfl rfl (AOp.box (.agg [.str t.Name, .int .i64 t.W, .int .i64 t.H, .sl t.Rows.length (t.Rows.map eI)]) rfl rfl rfl ?_)
 intro i1 H2 n3 h4 k5
 have z6 := Mono.free m0 n3
 have m7 := Mono.new m0 n3 k5
 refine AOps.cons rfl rfl (AOp.assign (.bool false) rfl rfl ?_)
 refine AOps.nil ?_
 change AWP _ _ _ _ _ _
 refine AWP.seq ?_
 refine AWP.frzP 2 h4 z6 rfl m7 fun H8 m9 k10 => ?_
 refine AWP.region (l := [0, 1, 2, 3, 4]) rfl ?_
 refine AOps.cons rfl rfl (AOp.fieldAddrF rfl rfl fl_72_0 ?_)
 refine AOps.cons rfl rfl (AOp.loadF (.str t.Name) rfl rfl ty_9 rfl ?_)
 refine AOps.cons rfl rfl (AOp.loadF (.str x) rfl rfl ty_9 rfl ?_)
 refine AOps.cons rfl rfl (AOp.seqD rfl rfl rfl ?_)
 refine AOps.cons rfl rfl (AOp.assign (.bool (decide (t.Name = x))) rfl rfl ?_)
 refine AOps.nil ?_
 change AWP _ _ _ _ _ _
 refine AWP.ret ?_
 refine ⟨_, _, Ghost.refl, .inr rfl, _, Res.one rfl rfl, ?_, m9⟩
 exact rfl
theorem c_idxTex (l : List TexT) (x : ByteArray) (hl : l.length ≤ 1048576) : PC Tryd.prog 52 [.sl l.length (l.flatMap eTex), .fn 53 [.fptr [.str x] 0]] (.int .i64 (idxN (l.map TexT.Name) x)) := by
 intro H0
 refine ACalls.of_body' (n := 19) rfl rfl rfl rfl ?_
 have m0 := Mono.refl H0
 refine AWP.seq ?_
 refine AWP.region (l := [0]) rfl ?_
 refine AOps.cons rfl rfl (AOp.assign (.int .i64 0) rfl rfl ?_)
 refine AOps.nil ?_
 change AWP _ _ _ _ _ _
 refine AWP.seq ?_
 refine AWP.seq ?_
 refine AWP.region (l := [0, 1, 2]) rfl ?_
 refine AOps.cons rfl rfl (AOp.move (.sl l.length (l.flatMap eTex)) rfl rfl ?_)
 refine AOps.cons rfl rfl (AOp.len (m := l.length) rfl rfl (.inr (.inl ⟨_, rfl⟩)) u_31 ?_)
 refine AOps.cons rfl rfl (AOp.move (.int .i64 0) rfl rfl ?_)
 refine AOps.nil ?_
 change AWP _ _ _ _ _ _
 refine AWP.block ?_
 refine AWP.loop (fun q1 fq Hq => ∃ (i : Int), q1 = (((l.length : Int) : Int) - i).toNat ∧ fq 8 = .int .i64 i ∧ fq 0 = .sl l.length (l.flatMap eTex) ∧ fq 1 = .fn 53 [.fptr [.str x] 0] ∧ fq 7 = .int .i64 (l.length : Int) ∧ Mono H0 Hq ∧ (0 ≤ i) ∧ (i ≤ (l.length : Int)) ∧ (∀ j : Int, 0 ≤ j → j < i → (at_ l j).Name ≠ x)) (k := (((l.length : Int) : Int) - 0).toNat) ?_ ?_
 ·
  exact ⟨0, rfl, rfl, rfl, rfl, rfl, m0, by omega, by omega, by intro j; omega⟩
 ·
  rintro _ f3 H2 ⟨i, rfl, s4, s5, s6, s7, m8, hi0, hi1, pre⟩
  refine AWP.seq ?_
  refine AWP.region (l := [0]) rfl ?_
  refine AOps.cons rfl rfl (AOp.bin (.bool (decide (i < (l.length : Int)))) rfl s4 s7 rfl ?_)
  refine AOps.nil ?_
  change AWP _ _ _ _ _ _
  refine AWP.seq ?_
  by_cases b9 : i < (l.length : Int)
  ·
   refine AWP.condT rfl (decide_eq_true b9) ?_
   refine AWP.skip ?_
   change AWP _ _ _ _ _ _
   refine AWP.seq ?_
   refine AWP.block ?_
   refine AWP.seq ?_
   refine AWP.region (l := [0, 1]) rfl ?_
   refine AOps.cons rfl rfl (AOp.move (.int .i64 i) rfl s4 ?_)
   refine AOps.cons rfl rfl (AOp.assign (.int .i64 i) rfl rfl ?_)
   refine AOps.nil ?_
   change AWP _ _ _ _ _ _
   refine AWP.seq ?_
   refine AWP.region (l := [0, 1, 2, 3, 4, 5]) rfl ?_
   refine AOps.cons rfl rfl (AOp.move (.fn 53 [.fptr [.str x] 0]) rfl s6 ?_)
   refine AOps.cons rfl rfl (AOp.move (.sl l.length (l.flatMap eTex)) rfl s5 ?_)
   refine AOps.cons rfl rfl (AOp.move (.int .i64 i) rfl rfl ?_)
   refine AOps.cons rfl rfl (AOp.indexAddrS rfl rfl rfl sl_31 (by omega) (by omega) ?_)
   refine AOps.cons rfl rfl (AOp.loadF (.agg [.str ((at_ l i).Name), .int .i64 ((at_ l i).W), .int .i64 ((at_ l i).H), .sl ((at_ l i).Rows).length (((at_ l i).Rows).map eI)]) rfl rfl ty_72 (ldM eTex_len (by omega) (by omega)) ?_)
   refine AOps.cons rfl rfl (AOp.pcall («as» := [.agg [.str ((at_ l i).Name), .int .i64 ((at_ l i).W), .int .i64 ((at_ l i).H), .sl ((at_ l i).Rows).length (((at_ l i).Rows).map eI)], .fptr [.str x] 0]) rfl rfl (rfl) tf_53 (c_tex_1 (at_ l i) x) ?_)
   intro H10 m11
   have m12 := m8.trans m11
   refine AOps.nil ?_
   change AWP _ _ _ _ _ _
   by_cases b13 : (at_ l i).Name = x
   ·
    refine AWP.condT rfl (decide_eq_true b13) ?_
    refine AWP.seq ?_
    refine AWP.region (l := [0, 1]) rfl ?_
    refine AOps.cons rfl rfl (AOp.move (.int .i64 i) rfl rfl ?_)
    refine AOps.cons rfl rfl (AOp.assign (.int .i64 i) rfl rfl ?_)
    refine AOps.nil ?_
    change AWP _ _ _ _ _ _
    refine AWP.ret ?_
    refine ⟨_, _, Ghost.refl, .inr rfl, _, Res.one rfl rfl, ?_, m12⟩
    exact (congrArg (AV.int .i64) (show (i : Int) = idxN (l.map TexT.Name) x from by exact (idxN_hit (f := TexT.Name) hi0 (by omega) pre b13).symm))
   ·
    refine AWP.condF rfl (decide_eq_false b13) ?_
    refine AWP.skip ?_
    change AWP _ _ _ _ _ _
    refine AWP.region (l := [0, 1]) rfl ?_
    refine AOps.cons rfl rfl (AOp.bin (.int .i64 (i + 1)) rfl s4 rfl (iadd (by omega)) ?_)
    refine AOps.cons rfl rfl (AOp.move (.int .i64 (i + 1)) rfl rfl ?_)
    refine AOps.nil ?_
    exact ⟨_, by omega, i + 1, rfl, rfl, s5, s6, s7, m12, by omega, by omega, by exact nm_step pre b13⟩
  ·
   refine AWP.condF rfl (decide_eq_false b9) ?_
   refine AWP.exit ?_
   change AWP _ _ _ _ _ _
   refine AWP.seq ?_
   refine AWP.region (l := [0]) rfl ?_
   refine AOps.cons rfl rfl (AOp.assign (.int .i64 (-1)) rfl rfl ?_)
   refine AOps.nil ?_
   change AWP _ _ _ _ _ _
   refine AWP.ret ?_
   refine ⟨_, _, Ghost.refl, .inr rfl, _, Res.one rfl rfl, ?_, m8⟩
   exact (congrArg (AV.int .i64) (show (-1 : Int) = idxN (l.map TexT.Name) x from by exact (idxN_none (f := TexT.Name) (by omega) pre).symm))
theorem c_mat_1 (t : MatT) (x : ByteArray) : PC Tryd.prog 55 [.agg [.str t.Name, .int .i64 t.Color.R, .int .i64 t.Color.G, .int .i64 t.Color.B, .int .i64 t.Shine, .int .i64 t.Sharp, .int .i64 t.Mirror, .int .i64 t.Clear, .int .i64 t.Ior], .fptr [.str x] 0] (.bool (decide (t.Name = x))) := by
 intro H0
 refine ACalls.of_body' (n := 8) rfl rfl rfl rfl ?_
 have m0 := Mono.refl H0
 refine AWP.seq ?_
 refine AWP.region (l := [0, 1]) rfl ?_
 refine AOps.cons rfl rfl (AOp.box (.agg [.str t.Name, .int .i64 t.Color.R, .int .i64 t.Color.G, .int .i64 t.Color.B, .int .i64 t.Shine, .int .i64 t.Sharp, .int .i64 t.Mirror, .int .i64 t.Clear, .int .i64 t.Ior]) rfl rfl rfl ?_)
 intro i1 H2 n3 h4 k5
 have z6 := Mono.free m0 n3
 have m7 := Mono.new m0 n3 k5
 refine AOps.cons rfl rfl (AOp.assign (.bool false) rfl rfl ?_)
 refine AOps.nil ?_
 change AWP _ _ _ _ _ _
 refine AWP.seq ?_
 refine AWP.frzP 2 h4 z6 rfl m7 fun H8 m9 k10 => ?_
 refine AWP.region (l := [0, 1, 2, 3, 4]) rfl ?_
 refine AOps.cons rfl rfl (AOp.fieldAddrF rfl rfl fl_70_0 ?_)
 refine AOps.cons rfl rfl (AOp.loadF (.str t.Name) rfl rfl ty_9 rfl ?_)
 refine AOps.cons rfl rfl (AOp.loadF (.str x) rfl rfl ty_9 rfl ?_)
 refine AOps.cons rfl rfl (AOp.seqD rfl rfl rfl ?_)
 refine AOps.cons rfl rfl (AOp.assign (.bool (decide (t.Name = x))) rfl rfl ?_)
 refine AOps.nil ?_
 change AWP _ _ _ _ _ _
 refine AWP.ret ?_
 refine ⟨_, _, Ghost.refl, .inr rfl, _, Res.one rfl rfl, ?_, m9⟩
 exact rfl
theorem c_idxMat (l : List MatT) (x : ByteArray) (hl : l.length ≤ 1048576) : PC Tryd.prog 54 [.sl l.length (l.flatMap eMat), .fn 55 [.fptr [.str x] 0]] (.int .i64 (idxN (l.map MatT.Name) x)) := by
 intro H0
 refine ACalls.of_body' (n := 19) rfl rfl rfl rfl ?_
 have m0 := Mono.refl H0
 refine AWP.seq ?_
 refine AWP.region (l := [0]) rfl ?_
 refine AOps.cons rfl rfl (AOp.assign (.int .i64 0) rfl rfl ?_)
 refine AOps.nil ?_
 change AWP _ _ _ _ _ _
 refine AWP.seq ?_
 refine AWP.seq ?_
 refine AWP.region (l := [0, 1, 2]) rfl ?_
 refine AOps.cons rfl rfl (AOp.move (.sl l.length (l.flatMap eMat)) rfl rfl ?_)
 refine AOps.cons rfl rfl (AOp.len (m := l.length) rfl rfl (.inr (.inl ⟨_, rfl⟩)) u_30 ?_)
 refine AOps.cons rfl rfl (AOp.move (.int .i64 0) rfl rfl ?_)
 refine AOps.nil ?_
 change AWP _ _ _ _ _ _
 refine AWP.block ?_
 refine AWP.loop (fun q1 fq Hq => ∃ (i : Int), q1 = (((l.length : Int) : Int) - i).toNat ∧ fq 8 = .int .i64 i ∧ fq 0 = .sl l.length (l.flatMap eMat) ∧ fq 1 = .fn 55 [.fptr [.str x] 0] ∧ fq 7 = .int .i64 (l.length : Int) ∧ Mono H0 Hq ∧ (0 ≤ i) ∧ (i ≤ (l.length : Int)) ∧ (∀ j : Int, 0 ≤ j → j < i → (at_ l j).Name ≠ x)) (k := (((l.length : Int) : Int) - 0).toNat) ?_ ?_
 ·
  exact ⟨0, rfl, rfl, rfl, rfl, rfl, m0, by omega, by omega, by intro j; omega⟩
 ·
  rintro _ f3 H2 ⟨i, rfl, s4, s5, s6, s7, m8, hi0, hi1, pre⟩
  refine AWP.seq ?_
  refine AWP.region (l := [0]) rfl ?_
  refine AOps.cons rfl rfl (AOp.bin (.bool (decide (i < (l.length : Int)))) rfl s4 s7 rfl ?_)
  refine AOps.nil ?_
  change AWP _ _ _ _ _ _
  refine AWP.seq ?_
  by_cases b9 : i < (l.length : Int)
  ·
   refine AWP.condT rfl (decide_eq_true b9) ?_
   refine AWP.skip ?_
   change AWP _ _ _ _ _ _
   refine AWP.seq ?_
   refine AWP.block ?_
   refine AWP.seq ?_
   refine AWP.region (l := [0, 1]) rfl ?_
   refine AOps.cons rfl rfl (AOp.move (.int .i64 i) rfl s4 ?_)
   refine AOps.cons rfl rfl (AOp.assign (.int .i64 i) rfl rfl ?_)
   refine AOps.nil ?_
   change AWP _ _ _ _ _ _
   refine AWP.seq ?_
   refine AWP.region (l := [0, 1, 2, 3, 4, 5]) rfl ?_
   refine AOps.cons rfl rfl (AOp.move (.fn 55 [.fptr [.str x] 0]) rfl s6 ?_)
   refine AOps.cons rfl rfl (AOp.move (.sl l.length (l.flatMap eMat)) rfl s5 ?_)
   refine AOps.cons rfl rfl (AOp.move (.int .i64 i) rfl rfl ?_)
   refine AOps.cons rfl rfl (AOp.indexAddrS rfl rfl rfl sl_30 (by omega) (by omega) ?_)
   refine AOps.cons rfl rfl (AOp.loadF (.agg [.str ((at_ l i).Name), .int .i64 (((at_ l i).Color).R), .int .i64 (((at_ l i).Color).G), .int .i64 (((at_ l i).Color).B), .int .i64 ((at_ l i).Shine), .int .i64 ((at_ l i).Sharp), .int .i64 ((at_ l i).Mirror), .int .i64 ((at_ l i).Clear), .int .i64 ((at_ l i).Ior)]) rfl rfl ty_70 (ldM eMat_len (by omega) (by omega)) ?_)
   refine AOps.cons rfl rfl (AOp.pcall («as» := [.agg [.str ((at_ l i).Name), .int .i64 (((at_ l i).Color).R), .int .i64 (((at_ l i).Color).G), .int .i64 (((at_ l i).Color).B), .int .i64 ((at_ l i).Shine), .int .i64 ((at_ l i).Sharp), .int .i64 ((at_ l i).Mirror), .int .i64 ((at_ l i).Clear), .int .i64 ((at_ l i).Ior)], .fptr [.str x] 0]) rfl rfl (rfl) tf_55 (c_mat_1 (at_ l i) x) ?_)
   intro H10 m11
   have m12 := m8.trans m11
   refine AOps.nil ?_
   change AWP _ _ _ _ _ _
   by_cases b13 : (at_ l i).Name = x
   ·
    refine AWP.condT rfl (decide_eq_true b13) ?_
    refine AWP.seq ?_
    refine AWP.region (l := [0, 1]) rfl ?_
    refine AOps.cons rfl rfl (AOp.move (.int .i64 i) rfl rfl ?_)
    refine AOps.cons rfl rfl (AOp.assign (.int .i64 i) rfl rfl ?_)
    refine AOps.nil ?_
    change AWP _ _ _ _ _ _
    refine AWP.ret ?_
    refine ⟨_, _, Ghost.refl, .inr rfl, _, Res.one rfl rfl, ?_, m12⟩
    exact (congrArg (AV.int .i64) (show (i : Int) = idxN (l.map MatT.Name) x from by exact (idxN_hit (f := MatT.Name) hi0 (by omega) pre b13).symm))
   ·
    refine AWP.condF rfl (decide_eq_false b13) ?_
    refine AWP.skip ?_
    change AWP _ _ _ _ _ _
    refine AWP.region (l := [0, 1]) rfl ?_
    refine AOps.cons rfl rfl (AOp.bin (.int .i64 (i + 1)) rfl s4 rfl (iadd (by omega)) ?_)
    refine AOps.cons rfl rfl (AOp.move (.int .i64 (i + 1)) rfl rfl ?_)
    refine AOps.nil ?_
    exact ⟨_, by omega, i + 1, rfl, rfl, s5, s6, s7, m12, by omega, by omega, by exact nm_step pre b13⟩
  ·
   refine AWP.condF rfl (decide_eq_false b9) ?_
   refine AWP.exit ?_
   change AWP _ _ _ _ _ _
   refine AWP.seq ?_
   refine AWP.region (l := [0]) rfl ?_
   refine AOps.cons rfl rfl (AOp.assign (.int .i64 (-1)) rfl rfl ?_)
   refine AOps.nil ?_
   change AWP _ _ _ _ _ _
   refine AWP.ret ?_
   refine ⟨_, _, Ghost.refl, .inr rfl, _, Res.one rfl rfl, ?_, m8⟩
   exact (congrArg (AV.int .i64) (show (-1 : Int) = idxN (l.map MatT.Name) x from by exact (idxN_none (f := MatT.Name) (by omega) pre).symm))
theorem c_skin_1 (t : SkinT) (x : ByteArray) : PC Tryd.prog 57 [.agg [.str t.Name, .int .i64 t.Mat, .int .i64 t.Levels, .int .i64 t.Unit, .int .i64 t.Tex, .int .i64 t.Height], .fptr [.str x] 0] (.bool (decide (t.Name = x))) := by
 intro H0
 refine ACalls.of_body' (n := 8) rfl rfl rfl rfl ?_
 have m0 := Mono.refl H0
 refine AWP.seq ?_
 refine AWP.region (l := [0, 1]) rfl ?_
 refine AOps.cons rfl rfl (AOp.box (.agg [.str t.Name, .int .i64 t.Mat, .int .i64 t.Levels, .int .i64 t.Unit, .int .i64 t.Tex, .int .i64 t.Height]) rfl rfl rfl ?_)
 intro i1 H2 n3 h4 k5
 have z6 := Mono.free m0 n3
 have m7 := Mono.new m0 n3 k5
 refine AOps.cons rfl rfl (AOp.assign (.bool false) rfl rfl ?_)
 refine AOps.nil ?_
 change AWP _ _ _ _ _ _
 refine AWP.seq ?_
 refine AWP.frzP 2 h4 z6 rfl m7 fun H8 m9 k10 => ?_
 refine AWP.region (l := [0, 1, 2, 3, 4]) rfl ?_
 refine AOps.cons rfl rfl (AOp.fieldAddrF rfl rfl fl_41_0 ?_)
 refine AOps.cons rfl rfl (AOp.loadF (.str t.Name) rfl rfl ty_9 rfl ?_)
 refine AOps.cons rfl rfl (AOp.loadF (.str x) rfl rfl ty_9 rfl ?_)
 refine AOps.cons rfl rfl (AOp.seqD rfl rfl rfl ?_)
 refine AOps.cons rfl rfl (AOp.assign (.bool (decide (t.Name = x))) rfl rfl ?_)
 refine AOps.nil ?_
 change AWP _ _ _ _ _ _
 refine AWP.ret ?_
 refine ⟨_, _, Ghost.refl, .inr rfl, _, Res.one rfl rfl, ?_, m9⟩
 exact rfl
theorem c_idxSkin (l : List SkinT) (x : ByteArray) (hl : l.length ≤ 1048576) : PC Tryd.prog 56 [.sl l.length (l.flatMap eSkin), .fn 57 [.fptr [.str x] 0]] (.int .i64 (idxN (l.map SkinT.Name) x)) := by
 intro H0
 refine ACalls.of_body' (n := 19) rfl rfl rfl rfl ?_
 have m0 := Mono.refl H0
 refine AWP.seq ?_
 refine AWP.region (l := [0]) rfl ?_
 refine AOps.cons rfl rfl (AOp.assign (.int .i64 0) rfl rfl ?_)
 refine AOps.nil ?_
 change AWP _ _ _ _ _ _
 refine AWP.seq ?_
 refine AWP.seq ?_
 refine AWP.region (l := [0, 1, 2]) rfl ?_
 refine AOps.cons rfl rfl (AOp.move (.sl l.length (l.flatMap eSkin)) rfl rfl ?_)
 refine AOps.cons rfl rfl (AOp.len (m := l.length) rfl rfl (.inr (.inl ⟨_, rfl⟩)) u_32 ?_)
 refine AOps.cons rfl rfl (AOp.move (.int .i64 0) rfl rfl ?_)
 refine AOps.nil ?_
 change AWP _ _ _ _ _ _
 refine AWP.block ?_
 refine AWP.loop (fun q1 fq Hq => ∃ (i : Int), q1 = (((l.length : Int) : Int) - i).toNat ∧ fq 8 = .int .i64 i ∧ fq 0 = .sl l.length (l.flatMap eSkin) ∧ fq 1 = .fn 57 [.fptr [.str x] 0] ∧ fq 7 = .int .i64 (l.length : Int) ∧ Mono H0 Hq ∧ (0 ≤ i) ∧ (i ≤ (l.length : Int)) ∧ (∀ j : Int, 0 ≤ j → j < i → (at_ l j).Name ≠ x)) (k := (((l.length : Int) : Int) - 0).toNat) ?_ ?_
 ·
  exact ⟨0, rfl, rfl, rfl, rfl, rfl, m0, by omega, by omega, by intro j; omega⟩
 ·
  rintro _ f3 H2 ⟨i, rfl, s4, s5, s6, s7, m8, hi0, hi1, pre⟩
  refine AWP.seq ?_
  refine AWP.region (l := [0]) rfl ?_
  refine AOps.cons rfl rfl (AOp.bin (.bool (decide (i < (l.length : Int)))) rfl s4 s7 rfl ?_)
  refine AOps.nil ?_
  change AWP _ _ _ _ _ _
  refine AWP.seq ?_
  by_cases b9 : i < (l.length : Int)
  ·
   refine AWP.condT rfl (decide_eq_true b9) ?_
   refine AWP.skip ?_
   change AWP _ _ _ _ _ _
   refine AWP.seq ?_
   refine AWP.block ?_
   refine AWP.seq ?_
   refine AWP.region (l := [0, 1]) rfl ?_
   refine AOps.cons rfl rfl (AOp.move (.int .i64 i) rfl s4 ?_)
   refine AOps.cons rfl rfl (AOp.assign (.int .i64 i) rfl rfl ?_)
   refine AOps.nil ?_
   change AWP _ _ _ _ _ _
   refine AWP.seq ?_
   refine AWP.region (l := [0, 1, 2, 3, 4, 5]) rfl ?_
   refine AOps.cons rfl rfl (AOp.move (.fn 57 [.fptr [.str x] 0]) rfl s6 ?_)
   refine AOps.cons rfl rfl (AOp.move (.sl l.length (l.flatMap eSkin)) rfl s5 ?_)
   refine AOps.cons rfl rfl (AOp.move (.int .i64 i) rfl rfl ?_)
   refine AOps.cons rfl rfl (AOp.indexAddrS rfl rfl rfl sl_32 (by omega) (by omega) ?_)
   refine AOps.cons rfl rfl (AOp.loadF (.agg [.str ((at_ l i).Name), .int .i64 ((at_ l i).Mat), .int .i64 ((at_ l i).Levels), .int .i64 ((at_ l i).Unit), .int .i64 ((at_ l i).Tex), .int .i64 ((at_ l i).Height)]) rfl rfl ty_41 (ldM eSkin_len (by omega) (by omega)) ?_)
   refine AOps.cons rfl rfl (AOp.pcall («as» := [.agg [.str ((at_ l i).Name), .int .i64 ((at_ l i).Mat), .int .i64 ((at_ l i).Levels), .int .i64 ((at_ l i).Unit), .int .i64 ((at_ l i).Tex), .int .i64 ((at_ l i).Height)], .fptr [.str x] 0]) rfl rfl (rfl) tf_57 (c_skin_1 (at_ l i) x) ?_)
   intro H10 m11
   have m12 := m8.trans m11
   refine AOps.nil ?_
   change AWP _ _ _ _ _ _
   by_cases b13 : (at_ l i).Name = x
   ·
    refine AWP.condT rfl (decide_eq_true b13) ?_
    refine AWP.seq ?_
    refine AWP.region (l := [0, 1]) rfl ?_
    refine AOps.cons rfl rfl (AOp.move (.int .i64 i) rfl rfl ?_)
    refine AOps.cons rfl rfl (AOp.assign (.int .i64 i) rfl rfl ?_)
    refine AOps.nil ?_
    change AWP _ _ _ _ _ _
    refine AWP.ret ?_
    refine ⟨_, _, Ghost.refl, .inr rfl, _, Res.one rfl rfl, ?_, m12⟩
    exact (congrArg (AV.int .i64) (show (i : Int) = idxN (l.map SkinT.Name) x from by exact (idxN_hit (f := SkinT.Name) hi0 (by omega) pre b13).symm))
   ·
    refine AWP.condF rfl (decide_eq_false b13) ?_
    refine AWP.skip ?_
    change AWP _ _ _ _ _ _
    refine AWP.region (l := [0, 1]) rfl ?_
    refine AOps.cons rfl rfl (AOp.bin (.int .i64 (i + 1)) rfl s4 rfl (iadd (by omega)) ?_)
    refine AOps.cons rfl rfl (AOp.move (.int .i64 (i + 1)) rfl rfl ?_)
    refine AOps.nil ?_
    exact ⟨_, by omega, i + 1, rfl, rfl, s5, s6, s7, m12, by omega, by omega, by exact nm_step pre b13⟩
  ·
   refine AWP.condF rfl (decide_eq_false b9) ?_
   refine AWP.exit ?_
   change AWP _ _ _ _ _ _
   refine AWP.seq ?_
   refine AWP.region (l := [0]) rfl ?_
   refine AOps.cons rfl rfl (AOp.assign (.int .i64 (-1)) rfl rfl ?_)
   refine AOps.nil ?_
   change AWP _ _ _ _ _ _
   refine AWP.ret ?_
   refine ⟨_, _, Ghost.refl, .inr rfl, _, Res.one rfl rfl, ?_, m8⟩
   exact (congrArg (AV.int .i64) (show (-1 : Int) = idxN (l.map SkinT.Name) x from by exact (idxN_none (f := SkinT.Name) (by omega) pre).symm))
end Go.Proofs.S
namespace Go.Proofs.L
open Go Go.AH Go.Lib
set_option maxRecDepth 4000
set_option linter.unusedSectionVars false
variable [LexG]
theorem digit_iff {b : UInt8} : (48 ≤ (b.toNat : Int) ∧ (b.toNat : Int) ≤ 57) ↔ digitVal b = some (b.toNat - 48) := by
  unfold digitVal
  split <;> simp <;> omega
theorem digit_none {b : UInt8} (h : ¬ (48 ≤ (b.toNat : Int) ∧ (b.toNat : Int) ≤ 57)) : digitVal b = none := by
  unfold digitVal
  rw [if_neg (by omega)]
theorem byt_get {w : ByteArray} {k : Nat} (h : k < w.size) : ∃ b, w.data.toList[k]? = some b ∧ byt w k = b.toNat := by
  have hl : k < w.data.toList.length := h
  refine ⟨_, List.getElem?_eq_getElem hl, ?_⟩
  unfold byt
  rw [Int.toNat_natCast, List.getD_eq_getElem?_getD, List.getElem?_eq_getElem hl]
  rfl
theorem dec_some {w : ByteArray} : ∀ k : Nat, k ≤ w.size → (∀ j : Int, 0 ≤ j → j < k → 48 ≤ byt w j ∧ byt w j ≤ 57) → ∃ n : Nat, decFrom 0 (w.data.toList.take k) = some n ∧ (n : Int) = val10 w k
  | 0, _, _ => ⟨0, rfl, rfl⟩
  | k + 1, hk, pre => by
    obtain ⟨n, h1, h2⟩ := dec_some k (by omega) fun j a b => pre j a (by omega)
    obtain ⟨b, hb, hv⟩ := byt_get (w := w) (k := k) (by omega)
    have hd := pre k (by omega) (by omega)
    rw [hv] at hd
    refine ⟨n * 10 + (b.toNat - 48), decFrom_take _ k 0 n b _ h1 hb (digit_iff.1 hd), ?_⟩
    rw [val10, ← h2, hv]
    omega
theorem dec_none : ∀ (l : List UInt8) (acc : Nat), (∃ b, b ∈ l ∧ digitVal b = none) → decFrom acc l = none
  | [], _, ⟨b, hb, _⟩ => by cases hb
  | a :: l, acc, ⟨b, hb, hd⟩ => by
    rw [decFrom]
    rcases List.mem_cons.1 hb with e | e
    · subst e; rw [hd]
    · cases ha : digitVal a with
      | none => rfl
      | some d => exact dec_none l _ ⟨b, e, hd⟩
theorem dec_all {w : ByteArray} (h : digP w) : ∃ n : Nat, decFrom 0 w.data.toList = some n ∧ (n : Int) = val10 w w.size := by
  have := dec_some (w := w) w.size (Nat.le_refl _) h
  rwa [List.take_of_length_le (Nat.le_of_eq (blen w))] at this
theorem dec_not {w : ByteArray} (h : ¬ digP w) : decFrom 0 w.data.toList = none := by
  have : ∃ j : Nat, j < w.size ∧ ¬ (48 ≤ byt w j ∧ byt w j ≤ 57) := by
    apply Classical.byContradiction
    intro hh
    refine h fun j h0 h1 => ?_
    apply Classical.byContradiction
    intro hx
    exact hh ⟨j.toNat, by omega, by rw [show ((j.toNat : Nat) : Int) = j by omega]; exact hx⟩
  obtain ⟨j, hj, hx⟩ := this
  obtain ⟨b, hb, hv⟩ := byt_get hj
  rw [hv] at hx
  exact dec_none _ _ ⟨b, List.mem_of_getElem? hb, digit_none hx⟩
theorem ba_ext {p q : ByteArray} (h : p.data.toList = q.data.toList) : p = q := by
  cases p; cases q
  simp only [ByteArray.mk.injEq]
  exact Array.toList_inj.1 h
theorem head_minus {s : ByteArray} : (0 < s.size ∧ byt s 0 = 45) ↔ ∃ t, s.data.toList = 45 :: t := by
  constructor
  · rintro ⟨h, hv⟩
    obtain ⟨b, hb, he⟩ := byt_get (w := s) (k := 0) h
    have : b = 45 := by
      apply UInt8.toNat_inj.1
      have h3 : byt s ((0 : Nat) : Int) = byt s 0 := rfl
      rw [h3, hv] at he
      show b.toNat = 45
      omega
    subst this
    cases hl : s.data.toList with
    | nil => rw [hl] at hb; cases hb
    | cons a t => rw [hl] at hb; simp at hb; subst hb; exact ⟨t, rfl⟩
  · rintro ⟨t, h⟩
    have hs : s.size = t.length + 1 := by rw [← blen, h]; rfl
    refine ⟨by omega, ?_⟩
    unfold byt
    rw [h]; rfl
theorem trim_T {s : ByteArray} {t : List UInt8} (h : s.data.toList = 45 :: t) : (trimM s).data.toList = t := by
  simp [trimM, trimPrefix, h, hasPrefix]
theorem trim_F {s : ByteArray} (h : ¬ ∃ t, s.data.toList = 45 :: t) : trimM s = s := by
  apply ba_ext
  have : hasPrefix s.data.toList [45] = false := by
    cases hl : s.data.toList with
    | nil => simp [hasPrefix]
    | cons a r =>
      have : a ≠ 45 := fun e => h ⟨r, by rw [hl, e]⟩
      simp [hasPrefix, List.isPrefixOf, Ne.symm this]
  simp [trimM, trimPrefix, this]
theorem num_zero : R_lex_Number ⟨#[48]⟩ = ((0 : Int), true) := by kernel_rfl
theorem num_core {s w : ByteArray} {neg : Bool} (htr : trimM s = w) (hz : s = ⟨#[48]⟩ ↔ (w = ⟨#[48]⟩ ∧ neg = false))
    (hat : 1 ≤ w.size → 48 ≤ byt w 0 → atoi s.data.toList = (decFrom 0 w.data.toList).map fun m : Nat => if neg = true then -(m : Int) else m) : num14w neg w = R_lex_Number s := by
  by_cases z : s = ⟨#[48]⟩
  · have hw := hz.1 z
    subst z
    rw [hw.2, hw.1, w_zero rfl, num_zero]
  · have hnz : ¬ (w = ⟨#[48]⟩ ∧ neg = false) := fun e => z (hz.2 e)
    unfold R_lex_Number
    rw [htr]
    by_cases h0 : (w.size : Int) = 0
    · rw [if_pos h0, w_bad hnz (by omega)]
    · rw [if_neg h0]
      by_cases h6 : (w.size : Int) > 6
      · rw [if_pos h6, w_bad hnz (by omega)]
      · rw [if_neg h6]
        by_cases hb : byt w 0 < 48
        · rw [if_pos hb, w_nodig (i := 0) hnz (by omega) (by omega) (by omega) (by omega)]
        · rw [if_neg hb]
          by_cases hb2 : byt w 0 > 57
          · rw [if_pos hb2, w_nodig (i := 0) hnz (by omega) (by omega) (by omega) (by omega)]
          · rw [if_neg hb2]
            by_cases he : byt w 0 = 48
            · rw [if_pos he, if_neg z, w_bad hnz (by omega)]
            · rw [if_neg he]
              have ha := hat (by omega) (by omega)
              by_cases hd : digP w
              · obtain ⟨n, e1, e2⟩ := dec_all hd
                rw [e1] at ha
                simp only [Option.map_some] at ha
                rw [if_neg (by rw [ha]; simp), w_ok (i := (w.size : Int)) hnz (by omega) (by omega) (by omega) (fun j a b => hd j a b)]
                unfold atoiV
                rw [ha, Int.toNat_natCast, ← e2]
                rfl
              · rw [dec_not hd] at ha
                simp only [Option.map_none] at ha
                rw [if_pos ha]
                have : ∃ j : Int, 0 ≤ j ∧ j < w.size ∧ ¬ (48 ≤ byt w j ∧ byt w j ≤ 57) := by
                  apply Classical.byContradiction
                  intro hh
                  refine hd fun j h0 h1 => ?_
                  apply Classical.byContradiction
                  intro hx
                  exact hh ⟨j, h0, h1, hx⟩
                obtain ⟨j, j0, j1, jx⟩ := this
                rw [w_nodig hnz (by omega) j0 j1 jx]
theorem num_same (s : ByteArray) : num14 s = R_lex_Number s := by
  by_cases h : 0 < s.size ∧ byt s 0 = 45
  · obtain ⟨t, ht⟩ := head_minus.1 h
    rw [num14_T h]
    have hw : trimM s = s.extract (1 : Int).toNat (s.size : Int).toNat := by
      apply ba_ext
      rw [trim_T ht, Lib.extract_data, ht]
      have : s.size = t.length + 1 := by rw [← blen, ht]; rfl
      simp [this]
    refine num_core hw ⟨fun e => ?_, fun e => by cases e.2⟩ fun h1 h2 => ?_
    · subst e; simp at ht
    · rw [← hw, trim_T ht, ht]
      have hne : t ≠ [] := by
        intro e
        rw [← hw] at h1
        have := blen (trimM s)
        rw [trim_T ht, e] at this
        simp at this
        omega
      simp [atoi, decNat, hne]
  · rw [num14_F h]
    have ht := fun e => h (head_minus.2 e)
    refine num_core (trim_F ht) ⟨fun e => ⟨e, rfl⟩, fun e => e.1⟩ fun h1 h2 => ?_
    cases hl : s.data.toList with
    | nil =>
      have := blen s
      rw [hl] at this
      simp at this
      omega
    | cons a r =>
      have hv : byt s 0 = a.toNat := by unfold byt; rw [hl]; rfl
      have n1 : a ≠ 45 := fun e => ht ⟨r, by rw [hl, e]⟩
      have n2 : a ≠ 43 := fun e => by rw [hv, e] at h2; exact absurd h2 (by decide)
      simp [atoi, decNat, n1, n2]
end Go.Proofs.L
namespace Go.Proofs.L
open Go Go.AH Go.Lib
set_option maxRecDepth 4000
set_option linter.unusedSectionVars false
variable [LexG]
abbrev toI (b : UInt8) : Int := (b.toNat : Int)
def flush (wd : List Int) : List ByteArray := if 0 < (wd.length : Int) then [bytesB wd] else []
def wordsFrom : List Int → Bool → List UInt8 → List ByteArray
  | wd, _, [] => flush wd
  | wd, true, _ :: _ => flush wd
  | wd, false, b :: p => if b = 35 then flush wd else if b = 32 then flush wd ++ wordsFrom [] false p else wordsFrom (wd ++ [toI b]) false p
def lineIf (no : Int) (ws : List ByteArray) : List LineT := if 0 < (ws.length : Int) then [⟨no, ws⟩] else []
def badP (p : List UInt8) : Bool := p.any fun b => decide (b.toNat < 32 ∨ 126 < b.toNat)
def scanQ : List (List UInt8) → RS → List LineT × Int × Int
  | [], σ => (σ.out, 0, 0)
  | p :: r, σ => if badP p = true then ([], σ.no, 10) else scanQ r ⟨σ.out ++ lineIf σ.no (σ.ws ++ wordsFrom σ.wd σ.rem p), σ.no + 1, [], [], false⟩
theorem toI_eq {b c : UInt8} : toI b = toI c ↔ b = c := ⟨fun h => UInt8.toNat_inj.1 (by have h' : (b.toNat : Int) = c.toNat := h; omega), fun h => by rw [h]⟩
theorem bad_iff {b : UInt8} (h : b ≠ 10) : badB (toI b) ↔ (b.toNat < 32 ∨ 126 < b.toNat) := by
  unfold badB
  have : toI b ≠ 10 := fun e => h (toI_eq.1 (e.trans rfl))
  simp only [toI] at *
  omega
theorem step_nl (σ : RS) : stepR 10 σ = ⟨σ.out ++ lineIf σ.no (σ.ws ++ flush σ.wd), σ.no + 1, [], [], false⟩ := by
  by_cases h : 0 < (σ.wd.length : Int)
  · have e1 := eq_true h
    simp only [stepR, lineIf, flush, decide_true, Bool.true_or, if_true, e1]
    split <;> simp
  · have e1 := eq_false h
    simp only [stepR, lineIf, flush, decide_true, Bool.true_or, if_true, e1, if_false, List.append_nil]
    split <;> simp
theorem step_in {b : UInt8} (hb : b ≠ 10) (σ : RS) (p : List UInt8) : (stepR (toI b) σ).out = σ.out ∧ (stepR (toI b) σ).no = σ.no ∧ (stepR (toI b) σ).ws ++ wordsFrom (stepR (toI b) σ).wd (stepR (toI b) σ).rem p = σ.ws ++ wordsFrom σ.wd σ.rem (b :: p) := by
  have h10 : ¬ toI b = 10 := fun e => hb (toI_eq.1 (e.trans rfl))
  obtain ⟨out, no, ws, wd, rem⟩ := σ
  have fl : ∀ rem', wordsFrom [] rem' p = wordsFrom [] rem' p := fun _ => rfl
  cases rem with
  | true =>
    have hw : ∀ q, wordsFrom [] true q = [] := fun q => by cases q <;> rfl
    simp only [stepR, h10, decide_false, Bool.false_or, Bool.true_or, Bool.or_true, if_true, Bool.false_eq_true, if_false, hw, wordsFrom, flush, List.append_nil, true_and]
    split <;> simp
  | false =>
    by_cases h35 : b = 35
    · have hw : ∀ q, wordsFrom [] true q = [] := fun q => by cases q <;> rfl
      subst h35
      simp only [stepR, wordsFrom, flush]
      have e : (toI 35 = 35) = True := eq_true rfl
      simp only [h10, e, decide_false, decide_true, Bool.false_or, Bool.or_true, if_true, Bool.false_eq_true, if_false, hw, List.append_nil, true_and]
      split <;> simp
    · have e35 : ¬ toI b = 35 := fun e => h35 (toI_eq.1 (e.trans rfl))
      by_cases h32 : b = 32
      · subst h32
        have e : (toI 32 = 32) = True := eq_true rfl
        simp only [stepR, wordsFrom, h10, e35, e, decide_false, decide_true, Bool.false_or, Bool.true_or, Bool.or_true, Bool.or_false, if_true, Bool.false_eq_true, if_false, true_and, if_neg h35, flush]
        split <;> simp
      · have e32 : ¬ toI b = 32 := fun e => h32 (toI_eq.1 (e.trans rfl))
        simp only [stepR, wordsFrom, h10, e35, e32, decide_false, Bool.false_or, Bool.or_false, Bool.false_eq_true, if_false, true_and, if_neg h35, if_neg h32]
theorem ref_scanQ : ∀ (l : List UInt8) (σ : RS), refGo (l.map toI ++ [10]) σ = scanQ (pcs l) σ
  | [], σ => by
    simp only [List.map_nil, List.nil_append, pcs, scanQ, badP, List.any_nil, Bool.false_eq_true, if_false, refGo, wordsFrom]
    rw [if_neg (by decide), step_nl]
  | b :: l, σ => by
    rw [List.map_cons, List.cons_append, refGo]
    by_cases hb : b = 10
    · subst hb
      rw [if_neg (by decide), pcs, if_pos rfl, scanQ]
      simp only [badP, List.any_nil, Bool.false_eq_true, if_false, wordsFrom]
      rw [ref_scanQ l, show toI 10 = 10 from rfl, step_nl]
    · obtain ⟨p, r, hp⟩ : ∃ p r, pcs l = p :: r := by
        cases hp : pcs l with
        | nil => exact absurd hp (pcs_ne l)
        | cons p r => exact ⟨p, r, rfl⟩
      have hq : pcs (b :: l) = (b :: p) :: r := by rw [pcs, if_neg hb, hp]; rfl
      rw [hq, scanQ]
      by_cases hx : badB (toI b)
      · rw [if_pos hx, if_pos (by simp [badP, (bad_iff hb).1 hx])]
      · rw [if_neg hx, ref_scanQ l, hp, scanQ]
        obtain ⟨a1, a2, a3⟩ := step_in hb σ p
        have hx' := fun e => hx ((bad_iff hb).2 e)
        rw [a1, a2, a3]
        have : badP (b :: p) = badP p := by
          unfold badP
          rw [List.any_cons, decide_eq_false hx', Bool.false_or]
        rw [this]
def takeH (p : List UInt8) : List UInt8 := p.takeWhile fun b => decide (b ≠ 35)
theorem cut_takeH : ∀ p : List UInt8, (cut p [35]).1 = takeH p
  | [] => by simp [cut, index, takeH]
  | b :: p => by
    have ih := cut_takeH p
    unfold takeH at ih ⊢
    unfold cut at ih ⊢
    rw [index]
    by_cases hb : b = 35
    · subst hb; simp
    · have hp : ([35] : List UInt8).isPrefixOf (b :: p) = false := by simp [List.isPrefixOf, Ne.symm hb]
      rw [hp]
      simp only [Bool.false_eq_true, if_false, List.takeWhile_cons, hb, ne_eq, not_false_eq_true, decide_true, if_true]
      have hge := index_ge p [35]
      by_cases hi : index p [35] = -1
      · rw [hi] at ih ⊢
        simp at ih ⊢
        exact ih
      · have e : (if (index p [35] == -1) = true then (-1 : Int) else index p [35] + 1) = index p [35] + 1 := if_neg (by simpa using hi)
        rw [e, if_pos (by omega)]
        rw [if_pos (by omega)] at ih
        rw [show (index p [35] + 1).toNat = (index p [35]).toNat + 1 by omega, List.take_succ_cons]
        simp only
        simp only at ih
        rw [ih]
theorem bytesB_toI (c : List UInt8) : bytesB (c.map toI) = ⟨c.toArray⟩ := by
  unfold bytesB
  simp [List.map_map, Function.comp_def]
theorem flush_toI (c : List UInt8) : flush (c.map toI) = (if c.isEmpty then [] else [c]).map fun l => ⟨l.toArray⟩ := by
  unfold flush
  cases c with
  | nil => simp
  | cons a r =>
    rw [if_pos (by simp <;> omega), bytesB_toI]
    rfl
theorem sp_iff {b : UInt8} (h : 32 ≤ b.toNat) : isSp b = decide (b = 32) := by
  have hne : ∀ c : UInt8, c.toNat < 32 → (b == c) = false := fun c hc => by
    simp only [beq_eq_false_iff_ne]
    rintro rfl
    omega
  unfold isSp
  rw [hne 9 (by decide), hne 10 (by decide), hne 11 (by decide), hne 12 (by decide), hne 13 (by decide)]
  simp only [Bool.false_or]
  rfl
theorem words_from : ∀ (p c : List UInt8), badP p = false → wordsFrom (c.map toI) false p = (fieldsGo c (takeH p)).map fun l => ⟨l.toArray⟩
  | [], c, _ => by rw [wordsFrom, flush_toI]; rfl
  | b :: p, c, h => by
    unfold badP at h
    rw [List.any_cons, Bool.or_eq_false_iff] at h
    have hb : 32 ≤ b.toNat := by have := of_decide_eq_false h.1; omega
    have ih := fun c => words_from p c h.2
    rw [wordsFrom]
    by_cases h35 : b = 35
    · subst h35
      rw [if_pos rfl, flush_toI]
      rfl
    · have hT : takeH (b :: p) = b :: takeH p := by simp [takeH, h35]
      rw [if_neg h35, hT, fieldsGo, sp_iff hb]
      by_cases h32 : b = 32
      · rw [if_pos h32, decide_eq_true h32, if_pos rfl, flush_toI]
        have := ih []
        simp only [List.map_nil] at this
        rw [this]
        cases c with
        | nil => simp
        | cons a r => simp
      · rw [if_neg h32, decide_eq_false h32, if_neg (by simp)]
        have := ih (c ++ [b])
        rw [List.map_append, List.map_cons, List.map_nil] at this
        exact this
theorem badP_iff {p : ByteArray} : badP p.data.toList = true ↔ 0 ≤ idxR p := by
  have h1 : idxR p < 0 ↔ badP p.data.toList = false := by
    rw [idxR_neg]
    constructor
    · intro h
      unfold badP
      rw [List.any_eq_false]
      intro b hb
      have := okB_mem h hb
      simp; omega
    · intro h j hj
      obtain ⟨b, hb, hv⟩ := byt_get hj
      unfold badP at h
      rw [List.any_eq_false] at h
      have := h b (List.mem_of_getElem? hb)
      simp at this
      rw [hv]; omega
  cases hb : badP p.data.toList with
  | true =>
    have hn : ¬ idxR p < 0 := fun e => by
      rw [h1.1 e] at hb
      cases hb
    exact ⟨fun _ => by omega, fun _ => rfl⟩
  | false =>
    have := h1.2 hb
    exact ⟨fun h => (by cases h), fun h => (by omega)⟩
theorem line_same {p : ByteArray} (h : badP p.data.toList = false) (i : Int) : lineOf i p = lineIf (i + 1) (wordsFrom [] false p.data.toList) := by
  have := words_from p.data.toList [] h
  simp only [List.map_nil] at this
  rw [this, ← cut_takeH]
  have e : wordsB (cut1 p) = (fieldsGo [] (cut p.data.toList [35]).1).map fun l => ⟨l.toArray⟩ := by simp [wordsB, cut1, fields]
  unfold lineOf lineIf
  rw [e]
theorem scan_same : ∀ (ps : List ByteArray) (i : Int) (out : List LineT), scanL ps i out = scanQ (ps.map (·.data.toList)) ⟨out, i + 1, [], [], false⟩
  | [], _, _ => rfl
  | p :: r, i, out => by
    rw [scanL, List.map_cons, scanQ]
    by_cases h : badP p.data.toList = true
    · rw [if_pos (badP_iff.1 h), if_pos h]
    · rw [if_neg fun e => h (badP_iff.2 e), if_neg h, scan_same r, line_same (by simpa using h), List.nil_append]
theorem lines_same (s : ByteArray) : linesR s = refR s := by
  unfold linesR refR
  split
  · rfl
  · rw [scan_same, pieces_pcs, bytesL, ref_scanQ]
    rfl
theorem cntF_le : ∀ (l : List UInt8) (w : Bool), cntF w l ≤ l.length
  | [], _ => by simp [cntF]
  | b :: l, w => by
    have := cntF_le l (isSp b)
    unfold cntF
    split <;> simp <;> omega
theorem words_le (p : ByteArray) : (wordsB p).length ≤ p.size := by
  have h1 : (wordsB p).length = (fields p.data.toList).length := by simp [wordsB]
  rw [h1, fields_length]
  exact cntF_le _ _
theorem scan_len : ∀ (ps : List ByteArray) (i : Int) (out : List LineT), (scanL ps i out).1.length ≤ out.length + ps.length
  | [], _, out => by simp [scanL]
  | p :: r, i, out => by
    rw [scanL]
    split
    · simp
    · have := scan_len r (i + 1) (out ++ lineOf i p)
      have hl : (lineOf i p).length ≤ 1 := by unfold lineOf; split <;> simp
      rw [List.length_append] at this
      simp only [List.length_cons]
      omega
theorem lines_len' (s : ByteArray) : (linesR s).1.length ≤ 65537 := by
  unfold linesR
  split
  · simp
  · have := scan_len (pieces s) 0 []
    have h2 := pieces_len s
    simp at this
    omega
theorem lines_len (s : ByteArray) : (linesR s).1.length ≤ 1048576 := by have := lines_len' s; omega
theorem scan_words : ∀ (ps : List ByteArray) (i : Int) (out : List LineT) (m : Nat), (∀ p ∈ ps, p.size ≤ m) → (∀ x ∈ out, x.Words.length ≤ m) → ∀ x ∈ (scanL ps i out).1, x.Words.length ≤ m
  | [], _, out, m, _, h => h
  | p :: r, i, out, m, hp, h => by
    rw [scanL]
    split
    · intro x hx; cases hx
    · refine scan_words r _ _ m (fun q hq => hp q (List.mem_cons_of_mem _ hq)) fun x hx => ?_
      rcases List.mem_append.1 hx with e | e
      · exact h x e
      · unfold lineOf at e
        split at e
        · rw [List.mem_singleton] at e
          subst e
          have h1 := words_le (cut1 p)
          have h2 := cut1_size p
          have h3 := hp p (List.mem_cons_self ..)
          show (wordsB (cut1 p)).length ≤ m
          omega
        · cases e
theorem lines_words (s : ByteArray) : ∀ x ∈ (linesR s).1, x.Words.length ≤ 1048576 := by
  unfold linesR
  split
  · intro x hx; cases hx
  · refine scan_words _ _ _ 1048576 (fun p hp => ?_) (fun x hx => by cases hx)
    have := pcs_sub s.data.toList p.data.toList (by rw [← pieces_pcs]; exact List.mem_map.2 ⟨_, hp, rfl⟩)
    have h2 : p.size ≤ s.size := this
    omega
end Go.Proofs.L
namespace Go.Proofs.L
open Go Go.AH Go.Lib
set_option maxRecDepth 4000
set_option linter.unusedSectionVars false
variable [LexG]
end Go.Proofs.L
namespace Go.Proofs.L
open Go Go.AH Go.Lib
set_option maxRecDepth 4000
set_option linter.unusedSectionVars false
variable [LexG]
theorem bytesB_size (l : List Int) : (bytesB l).size = l.length := by
  rw [← blen]; simp [bytesB]
end Go.Proofs.L
namespace Go.Proofs.S
open Go Go.AH Go.Proofs.L
set_option linter.unusedSectionVars false
variable [LexG]
theorem nums_drop (w : List ByteArray) (h : 1 ≤ w.length) : ((numsL (w.drop 1)).length : Int) = (w.length : Int) - 1 := by rw [numsL_len, List.length_drop]; omega
theorem mul_rng {x k A C : Int} (hx : -A ≤ x ∧ x ≤ A) (hk : -C ≤ k ∧ k ≤ C) : -(A * C) ≤ x * k ∧ x * k ≤ A * C := by
  have hA : 0 ≤ A := by omega
  have hC : 0 ≤ C := by omega
  have h1 : x.natAbs ≤ A.natAbs := by omega
  have h2 : k.natAbs ≤ C.natAbs := by omega
  have h3 := Nat.mul_le_mul h1 h2
  rw [← Int.natAbs_mul, ← Int.natAbs_mul] at h3
  have h4 : ((A * C).natAbs : Int) = A * C := Int.natAbs_of_nonneg (Int.mul_nonneg hA hC)
  omega
theorem lowI (l : List Int) : LowA (.sl l.length (l.map eI)) := .sl _ _ fun x hx => by
  obtain ⟨y, _, rfl⟩ := List.mem_map.1 hx; exact .int _ _
theorem low_Tex (l : List TexT) : ∀ x ∈ l.flatMap eTex, LowA x := fun x hx => by
  obtain ⟨t, _, ht⟩ := List.mem_flatMap.1 hx
  simp only [eTex, List.mem_cons, List.not_mem_nil, or_false] at ht
  rcases ht with rfl | rfl | rfl | rfl
  · exact .str _
  · exact .int _ _
  · exact .int _ _
  · exact lowI _
theorem low_Mat (l : List MatT) : ∀ x ∈ l.flatMap eMat, LowA x := fun x hx => by
  obtain ⟨t, _, ht⟩ := List.mem_flatMap.1 hx
  simp only [eMat, List.mem_cons, List.not_mem_nil, or_false] at ht
  rcases ht with rfl | rfl | rfl | rfl | rfl | rfl | rfl | rfl | rfl
  · exact .str _
  all_goals exact .int _ _
theorem low_Skin (l : List SkinT) : ∀ x ∈ l.flatMap eSkin, LowA x := fun x hx => by
  obtain ⟨t, _, ht⟩ := List.mem_flatMap.1 hx
  simp only [eSkin, List.mem_cons, List.not_mem_nil, or_false] at ht
  rcases ht with rfl | rfl | rfl | rfl | rfl | rfl
  · exact .str _
  all_goals exact .int _ _
theorem num14w_rng (neg : Bool) (w : ByteArray) : -999999 ≤ (num14w neg w).1 ∧ (num14w neg w).1 ≤ 999999 := by
  unfold num14w
  split
  · simp
  · rename_i h
    split
    · simp
    · rename_i h2
      have h2 : 1 ≤ w.size ∧ w.size ≤ 6 ∧ byt w 0 ≠ 48 := Classical.not_not.1 h2
      split
      · rename_i h3
        have := val10_rng6 (w := w) (i := w.size) (by omega) (by omega) (digB_iff.1 h3)
        simp only [Int.toNat_natCast] at this
        split <;> simp only <;> omega
      · simp
theorem num14_rng (x : ByteArray) : -999999 ≤ (num14 x).1 ∧ (num14 x).1 ≤ 999999 := by
  unfold num14
  split
  · exact num14w_rng _ _
  · exact num14w_rng _ _
theorem num_rng (x : ByteArray) : -999999 ≤ (R_lex_Number x).1 ∧ (R_lex_Number x).1 ≤ 999999 := by
  rw [← num_same]
  exact num14_rng x
theorem nums_rng (w : List ByteArray) : ∀ i : Int, 0 ≤ i → i < ((numsL w).length : Int) → -999999 ≤ at_ (numsL w) i ∧ at_ (numsL w) i ≤ 999999 := fun i h0 h1 => by
  have : at_ (numsL w) i ∈ numsL w := by rw [at_get h0 h1]; exact List.getElem_mem _
  obtain ⟨x, _, hx⟩ := List.mem_map.1 this
  rw [← hx]; exact num_rng x
end Go.Proofs.S
namespace Go.Proofs.S
open Go Go.AH Go.Proofs.L
set_option maxRecDepth 4000
set_option maxHeartbeats 4000000
set_option linter.unusedSimpArgs false
set_option linter.unusedVariables false
set_option linter.unusedSectionVars false
variable [LexG]
theorem c_xTex {B H0 : Heap} {id ver : Nat} {cam : CamT} {sky : ColT} {vL vM vT vS vC : AV} {hc hs : Bool} {l : List TexT} (hrow : H0 id = some (.row ver (rdC cam sky vL vM vT vS vC hc hs))) (ho : Own B H0 4 vT l.length (l.flatMap eTex)) (hl : l.length ≤ 1048576) (x : ByteArray) : ACalls Tryd.prog 41 [.ptr id ver 0, .str x] H0 fun r H' => r = (.int .i64 (idxN (l.map TexT.Name) x)) ∧ Mono H0 H' := by
 refine ACalls.of_body' (n := 12) rfl rfl rfl rfl ?_
 have m0 := Mono.refl H0
 refine AWP.seq ?_
 refine AWP.region (l := [0, 1]) rfl ?_
 refine AOps.cons rfl rfl (AOp.box (.str x) rfl rfl rfl ?_)
 intro i1 H2 n3 h4 k5
 have e6 := ne_new hrow n3
 have z7 := Mono.free m0 n3
 have h8 := keep k5 (ne_new hrow n3) hrow
 have m9 := Mono.new m0 n3 k5
 refine AOps.cons rfl rfl (AOp.assign (.int .i64 0) rfl rfl ?_)
 refine AOps.nil ?_
 change AWP _ _ _ _ _ _
 refine AWP.seq ?_
 refine AWP.frzP 3 h4 z7 rfl m9 fun H10 m11 k12 => ?_
 have h13 := (k12 _ e6).trans h8
 refine AWP.region (l := [0, 1, 2, 3, 4, 5, 6, 7]) rfl ?_
 refine AOps.cons rfl rfl (AOp.move (.ptr id ver 0) rfl rfl ?_)
 refine AOps.cons rfl rfl (AOp.nilCheck (.ptr id ver 0) rfl rfl rfl ?_)
 refine AOps.cons rfl rfl (AOp.fieldAddr rfl rfl fl_59_0 ?_ (hid := ⟨_, h13⟩))
 refine AOps.cons rfl rfl (AOp.fieldAddr rfl rfl fl_35_4 ?_ (hid := ⟨_, h13⟩))
 refine AOps.cons rfl rfl (AOp.load (vT) rfl rfl ty_31 h13 rfl ?_)
 refine AOps.cons rfl rfl (AOp.makeFunc (cs := [.fptr [.str x] 0]) rfl rfl ?_)
 refine AOps.cons rfl rfl (AOp.pcallH («as» := [vT, .fn 53 [.fptr [.str x] 0]]) rfl rfl (rfl) tf_52 (((PC.own2 (fun _ => rfl) (c_idxTex l x hl) (ho.mono m11) (low_Tex l) (.fn _ _ fun y hy => (by simp at hy; subst hy; exact .fptr _ _ fun z hz => (by simp at hz; subst hz; exact .str _)))).mono fun _ _ h => ⟨h.1, h.2 ▸ Mono.refl _⟩)) ?_)
 intro H14 m15
 have h16 := m15 _ _ h13
 have m17 := m11.trans m15
 refine AOps.cons rfl rfl (AOp.assign (.int .i64 (idxN (l.map TexT.Name) x)) rfl rfl ?_)
 refine AOps.nil ?_
 change AWP _ _ _ _ _ _
 refine AWP.ret ?_
 refine ⟨_, _, Ghost.refl, .inr rfl, _, Res.one rfl rfl, ?_, m17⟩
 exact rfl
theorem c_xMat {B H0 : Heap} {id ver : Nat} {cam : CamT} {sky : ColT} {vL vM vT vS vC : AV} {hc hs : Bool} {l : List MatT} (hrow : H0 id = some (.row ver (rdC cam sky vL vM vT vS vC hc hs))) (ho : Own B H0 9 vM l.length (l.flatMap eMat)) (hl : l.length ≤ 1048576) (x : ByteArray) : ACalls Tryd.prog 42 [.ptr id ver 0, .str x] H0 fun r H' => r = (.int .i64 (idxN (l.map MatT.Name) x)) ∧ Mono H0 H' := by
 refine ACalls.of_body' (n := 12) rfl rfl rfl rfl ?_
 have m0 := Mono.refl H0
 refine AWP.seq ?_
 refine AWP.region (l := [0, 1]) rfl ?_
 refine AOps.cons rfl rfl (AOp.box (.str x) rfl rfl rfl ?_)
 intro i1 H2 n3 h4 k5
 have e6 := ne_new hrow n3
 have z7 := Mono.free m0 n3
 have h8 := keep k5 (ne_new hrow n3) hrow
 have m9 := Mono.new m0 n3 k5
 refine AOps.cons rfl rfl (AOp.assign (.int .i64 0) rfl rfl ?_)
 refine AOps.nil ?_
 change AWP _ _ _ _ _ _
 refine AWP.seq ?_
 refine AWP.frzP 3 h4 z7 rfl m9 fun H10 m11 k12 => ?_
 have h13 := (k12 _ e6).trans h8
 refine AWP.region (l := [0, 1, 2, 3, 4, 5, 6, 7]) rfl ?_
 refine AOps.cons rfl rfl (AOp.move (.ptr id ver 0) rfl rfl ?_)
 refine AOps.cons rfl rfl (AOp.nilCheck (.ptr id ver 0) rfl rfl rfl ?_)
 refine AOps.cons rfl rfl (AOp.fieldAddr rfl rfl fl_59_0 ?_ (hid := ⟨_, h13⟩))
 refine AOps.cons rfl rfl (AOp.fieldAddr rfl rfl fl_35_3 ?_ (hid := ⟨_, h13⟩))
 refine AOps.cons rfl rfl (AOp.load (vM) rfl rfl ty_30 h13 rfl ?_)
 refine AOps.cons rfl rfl (AOp.makeFunc (cs := [.fptr [.str x] 0]) rfl rfl ?_)
 refine AOps.cons rfl rfl (AOp.pcallH («as» := [vM, .fn 55 [.fptr [.str x] 0]]) rfl rfl (rfl) tf_54 (((PC.own2 (fun _ => rfl) (c_idxMat l x hl) (ho.mono m11) (low_Mat l) (.fn _ _ fun y hy => (by simp at hy; subst hy; exact .fptr _ _ fun z hz => (by simp at hz; subst hz; exact .str _)))).mono fun _ _ h => ⟨h.1, h.2 ▸ Mono.refl _⟩)) ?_)
 intro H14 m15
 have h16 := m15 _ _ h13
 have m17 := m11.trans m15
 refine AOps.cons rfl rfl (AOp.assign (.int .i64 (idxN (l.map MatT.Name) x)) rfl rfl ?_)
 refine AOps.nil ?_
 change AWP _ _ _ _ _ _
 refine AWP.ret ?_
 refine ⟨_, _, Ghost.refl, .inr rfl, _, Res.one rfl rfl, ?_, m17⟩
 exact rfl
theorem c_xSkin {B H0 : Heap} {id ver : Nat} {cam : CamT} {sky : ColT} {vL vM vT vS vC : AV} {hc hs : Bool} {l : List SkinT} (hrow : H0 id = some (.row ver (rdC cam sky vL vM vT vS vC hc hs))) (ho : Own B H0 6 vS l.length (l.flatMap eSkin)) (hl : l.length ≤ 1048576) (x : ByteArray) : ACalls Tryd.prog 44 [.ptr id ver 0, .str x] H0 fun r H' => r = (.int .i64 (idxN (l.map SkinT.Name) x)) ∧ Mono H0 H' := by
 refine ACalls.of_body' (n := 12) rfl rfl rfl rfl ?_
 have m0 := Mono.refl H0
 refine AWP.seq ?_
 refine AWP.region (l := [0, 1]) rfl ?_
 refine AOps.cons rfl rfl (AOp.box (.str x) rfl rfl rfl ?_)
 intro i1 H2 n3 h4 k5
 have e6 := ne_new hrow n3
 have z7 := Mono.free m0 n3
 have h8 := keep k5 (ne_new hrow n3) hrow
 have m9 := Mono.new m0 n3 k5
 refine AOps.cons rfl rfl (AOp.assign (.int .i64 0) rfl rfl ?_)
 refine AOps.nil ?_
 change AWP _ _ _ _ _ _
 refine AWP.seq ?_
 refine AWP.frzP 3 h4 z7 rfl m9 fun H10 m11 k12 => ?_
 have h13 := (k12 _ e6).trans h8
 refine AWP.region (l := [0, 1, 2, 3, 4, 5, 6, 7]) rfl ?_
 refine AOps.cons rfl rfl (AOp.move (.ptr id ver 0) rfl rfl ?_)
 refine AOps.cons rfl rfl (AOp.nilCheck (.ptr id ver 0) rfl rfl rfl ?_)
 refine AOps.cons rfl rfl (AOp.fieldAddr rfl rfl fl_59_0 ?_ (hid := ⟨_, h13⟩))
 refine AOps.cons rfl rfl (AOp.fieldAddr rfl rfl fl_35_5 ?_ (hid := ⟨_, h13⟩))
 refine AOps.cons rfl rfl (AOp.load (vS) rfl rfl ty_32 h13 rfl ?_)
 refine AOps.cons rfl rfl (AOp.makeFunc (cs := [.fptr [.str x] 0]) rfl rfl ?_)
 refine AOps.cons rfl rfl (AOp.pcallH («as» := [vS, .fn 57 [.fptr [.str x] 0]]) rfl rfl (rfl) tf_56 (((PC.own2 (fun _ => rfl) (c_idxSkin l x hl) (ho.mono m11) (low_Skin l) (.fn _ _ fun y hy => (by simp at hy; subst hy; exact .fptr _ _ fun z hz => (by simp at hz; subst hz; exact .str _)))).mono fun _ _ h => ⟨h.1, h.2 ▸ Mono.refl _⟩)) ?_)
 intro H14 m15
 have h16 := m15 _ _ h13
 have m17 := m11.trans m15
 refine AOps.cons rfl rfl (AOp.assign (.int .i64 (idxN (l.map SkinT.Name) x)) rfl rfl ?_)
 refine AOps.nil ?_
 change AWP _ _ _ _ _ _
 refine AWP.ret ?_
 refine ⟨_, _, Ghost.refl, .inr rfl, _, Res.one rfl rfl, ?_, m17⟩
 exact rfl
theorem c_readCamera {B H0 : Heap} {id ver : Nat} {s : Rd} (hm : Mono B H0) (hs : RD B H0 id ver s) (ok : RdOk s) (w : List ByteArray) (hw : w.length ≤ 1048576) : ACallsX Tryd.prog 20 [.ptr id ver 0, .sl w.length (w.map eStr)] H0 (fun r H' => ∃ t, cameraP s w = .ok t ∧ RD B H' id ver t ∧ Mono B H' ∧ r = .tup []) (fun ch H' => ∃ k, cameraP s w = .error k ∧ ch = pan 36 k ∧ Mono B H') := by
 obtain ⟨vL, vM, vT, vS, vC, vV, vF, vK, hrow, hB, hg, hn⟩ := hs
 refine ACallsX.of_body' (n := 63) rfl rfl rfl rfl ?_
 have m0 := hm
 refine AWP.seq ?_
 refine AWP.regionX (l := [0, 1, 2]) rfl ?_
 refine AOpsX.cons rfl rfl (AOp.move (.sl w.length (w.map eStr)) rfl rfl ?_)
 refine AOpsX.consX rfl rfl (AOpX.need (b := cntB w 16) (k := 10) (as_ := [.sl w.length (w.map eStr), .int .i64 16]) rfl rfl (rfl) tf_34 (c_counted w (by first | omega | assumption | (simp only [List.length_drop, List.length_take]; omega) | (simp; omega) | simp) _) ?_ (fun hb _ m2 => Or.inr ⟨_, rfl, _, gF hb, rfl, m0.trans m2⟩))
 intro hb1 H2 m3
 have h4 := m3 _ _ hrow
 have o5 := MO.mono hg m3
 have m6 := m0.trans m3
 have hl7 := cnt_len hb1
 refine AOpsX.cons rfl rfl (AOp.assign (.sl (numsL w).length ((numsL w).map eI)) rfl rfl ?_)
 refine AOpsX.nil ?_
 change AWP _ _ _ _ _ _
 refine AWP.seq ?_
 refine AWP.regionX (l := [0, 1, 2, 3, 4, 5]) rfl ?_
 refine AOpsX.cons rfl rfl (AOp.move (.ptr id ver 0) rfl rfl ?_)
 refine AOpsX.cons rfl rfl (AOp.nilCheck (.ptr id ver 0) rfl rfl rfl ?_)
 refine AOpsX.cons rfl rfl (AOp.fieldAddr rfl rfl fl_59_1 ?_ (hid := ⟨_, h4⟩))
 refine AOpsX.cons rfl rfl (AOp.load (.bool s.hc) rfl rfl ty_4 h4 rfl ?_)
 refine AOpsX.cons rfl rfl (AOp.not rfl rfl ?_)
 refine AOpsX.consX rfl rfl (AOpX.need (b := !s.hc) (k := 12) (as_ := [.bool (!s.hc), .int .i64 12]) rfl rfl (rfl) tf_35 (c_need _ _) ?_ (fun hb _ m2 => Or.inr ⟨_, rfl, _, gT hb1 (gF hb), rfl, m6.trans m2⟩))
 intro hb8 H9 m10
 have h11 := m10 _ _ h4
 have o12 := MO.mono o5 m10
 have m13 := m6.trans m10
 refine AOpsX.nil ?_
 change AWP _ _ _ _ _ _
 refine AWP.seq ?_
 refine AWP.regionX (l := [0, 1, 2]) rfl ?_
 refine AOpsX.cons rfl rfl (AOp.move (.sl (numsL w).length ((numsL w).map eI)) rfl rfl ?_)
 refine AOpsX.cons rfl rfl (AOp.sliceST1 (xs := numsL w) (l := 0) (h := 6) rfl rfl  sl_47 rfl (hi_of rfl) (by first | omega | (simp; omega)) (by first | omega | (simp; omega)) (by first | omega | (simp; omega)) ?_)
 refine AOpsX.consX rfl rfl (AOpX.need (b := inB (-16384) 16384 ((numsL w).take 6)) (k := 11) (as_ := [.int .i64 (-16384), .int .i64 16384, .sl ((numsL w).take 6).length (((numsL w).take 6).map eI)]) rfl rfl (rfl) tf_36 (c_within _ _ ((numsL w).take 6) (by first | omega | assumption | (simp only [List.length_drop, List.length_take]; omega) | (simp; omega) | simp)) ?_ (fun hb _ m2 => Or.inr ⟨_, rfl, _, gT hb1 (gT hb8 (gF hb)), rfl, m13.trans m2⟩))
 intro hb14 H15 m16
 have h17 := m16 _ _ h11
 have o18 := MO.mono o12 m16
 have m19 := m13.trans m16
 refine AOpsX.nil ?_
 change AWP _ _ _ _ _ _
 refine AWP.seq ?_
 refine AWP.regionX (l := [0, 1, 2]) rfl ?_
 refine AOpsX.cons rfl rfl (AOp.move (.sl (numsL w).length ((numsL w).map eI)) rfl rfl ?_)
 refine AOpsX.cons rfl rfl (AOp.sliceSG1 (xs := numsL w) (l := 6) (h := 12) rfl rfl  sl_47 (lo_of rfl) (hi_of rfl) (by first | omega | (simp; omega)) (by first | omega | (simp; omega)) (by first | omega | (simp; omega)) ?_)
 refine AOpsX.consX rfl rfl (AOpX.need (b := inB (-32) 32 (((numsL w).drop 6).take 6)) (k := 11) (as_ := [.int .i64 (-32), .int .i64 32, .sl (((numsL w).drop 6).take 6).length ((((numsL w).drop 6).take 6).map eI)]) rfl rfl (rfl) tf_36 (c_within _ _ (((numsL w).drop 6).take 6) (by first | omega | assumption | (simp only [List.length_drop, List.length_take]; omega) | (simp; omega) | simp)) ?_ (fun hb _ m2 => Or.inr ⟨_, rfl, _, gT hb1 (gT hb8 (gT hb14 (gF hb))), rfl, m19.trans m2⟩))
 intro hb20 H21 m22
 have h23 := m22 _ _ h17
 have o24 := MO.mono o18 m22
 have m25 := m19.trans m22
 refine AOpsX.nil ?_
 change AWP _ _ _ _ _ _
 refine AWP.seq ?_
 refine AWP.regionX (l := [0, 1, 2]) rfl ?_
 refine AOpsX.cons rfl rfl (AOp.move (.sl (numsL w).length ((numsL w).map eI)) rfl rfl ?_)
 refine AOpsX.cons rfl rfl (AOp.sliceSG1 (xs := numsL w) (l := 12) (h := 14) rfl rfl  sl_47 (lo_of rfl) (hi_of rfl) (by first | omega | (simp; omega)) (by first | omega | (simp; omega)) (by first | omega | (simp; omega)) ?_)
 refine AOpsX.consX rfl rfl (AOpX.need (b := inB 1 64 (((numsL w).drop 12).take 2)) (k := 11) (as_ := [.int .i64 1, .int .i64 64, .sl (((numsL w).drop 12).take 2).length ((((numsL w).drop 12).take 2).map eI)]) rfl rfl (rfl) tf_36 (c_within _ _ (((numsL w).drop 12).take 2) (by first | omega | assumption | (simp only [List.length_drop, List.length_take]; omega) | (simp; omega) | simp)) ?_ (fun hb _ m2 => Or.inr ⟨_, rfl, _, gT hb1 (gT hb8 (gT hb14 (gT hb20 (gF hb)))), rfl, m25.trans m2⟩))
 intro hb26 H27 m28
 have h29 := m28 _ _ h23
 have o30 := MO.mono o24 m28
 have m31 := m25.trans m28
 refine AOpsX.nil ?_
 change AWP _ _ _ _ _ _
 refine AWP.seq ?_
 refine AWP.regionX (l := [0, 1, 2, 3, 4]) rfl ?_
 refine AOpsX.cons rfl rfl (AOp.move (.sl (numsL w).length ((numsL w).map eI)) rfl rfl ?_)
 refine AOpsX.cons rfl rfl (AOp.indexAddrS rfl rfl rfl sl_47 (by omega) (by omega) ?_)
 refine AOpsX.cons rfl rfl (AOp.loadF (.int .i64 (at_ (numsL w) 14)) rfl rfl ty_3 (ld1 (by omega) (by omega)) ?_)
 refine AOpsX.cons rfl rfl (AOp.buildSlice (cells := [.int .i64 (at_ (numsL w) 14)]) rfl u_47 ts_3 tz_3 rfl rfl rfl ?_)
 intro i32 H33 n34 h35 k36
 have e37 := ne_new h29 n34
 have z38 := Mono.free m31 n34
 have h39 := keep k36 (ne_new h29 n34) h29
 have o40 := MO.keep o30 k36 (MO.notnew o30 n34)
 have no41 := MO.notnew o30 n34
 have m42 := Mono.new m31 n34 k36
 obtain ⟨v43, e44⟩ : ∃ v : AV, v = .slm i32 0 1 0 1 := ⟨_, rfl⟩
 have o45 : Own B H33 1 v43 1 [.int .i64 (at_ (numsL w) 14)] := .inr ⟨_, _, e44, h35, z38, rfl⟩
 have no46 : NotId v43 id := by rw [e44]; exact NotId.slm e37
 have sp47 : SepM (rdL s vL vM vT vS vC vV vF vK) v43 := by rw [e44]; exact SepM.ofNotId no41
 refine AOpsX.consX rfl rfl ?_
 refine AOpX.frz 25 (o45) e44.symm m42 fun H48 m49 k50 => ?_
 have h51 := (k50 _ no46).trans h39
 have o52 := MO.stay o40 sp47 (fun i hi _ => k50 i hi)
 refine AOpX.need (b := inB 1 4 ([at_ (numsL w) 14] : List Int)) (k := 11) (as_ := [.int .i64 1, .int .i64 4, .sl ([at_ (numsL w) 14] : List Int).length (([at_ (numsL w) 14] : List Int).map eI)]) rfl rfl (rfl) tf_36 (c_within _ _ ([at_ (numsL w) 14] : List Int) (by first | omega | assumption | (simp only [List.length_drop, List.length_take]; omega) | (simp; omega) | simp)) ?_ (fun hb _ m2 => Or.inr ⟨_, rfl, _, gT hb1 (gT hb8 (gT hb14 (gT hb20 (gT hb26 (gF hb))))), rfl, m49.trans m2⟩)
 intro hb53 H54 m55
 have h56 := m55 _ _ h51
 have o57 := MO.mono o52 m55
 have m58 := m49.trans m55
 refine AOpsX.nil ?_
 change AWP _ _ _ _ _ _
 refine AWP.seq ?_
 refine AWP.regionX (l := [0, 1, 2, 3, 4]) rfl ?_
 refine AOpsX.cons rfl rfl (AOp.move (.sl (numsL w).length ((numsL w).map eI)) rfl rfl ?_)
 refine AOpsX.cons rfl rfl (AOp.indexAddrS rfl rfl rfl sl_47 (by omega) (by omega) ?_)
 refine AOpsX.cons rfl rfl (AOp.loadF (.int .i64 (at_ (numsL w) 15)) rfl rfl ty_3 (ld1 (by omega) (by omega)) ?_)
 refine AOpsX.cons rfl rfl (AOp.buildSlice (cells := [.int .i64 (at_ (numsL w) 15)]) rfl u_47 ts_3 tz_3 rfl rfl rfl ?_)
 intro i59 H60 n61 h62 k63
 have e64 := ne_new h56 n61
 have z65 := Mono.free m58 n61
 have h66 := keep k63 (ne_new h56 n61) h56
 have o67 := MO.keep o57 k63 (MO.notnew o57 n61)
 have no68 := MO.notnew o57 n61
 have m69 := Mono.new m58 n61 k63
 obtain ⟨v70, e71⟩ : ∃ v : AV, v = .slm i59 0 1 0 1 := ⟨_, rfl⟩
 have o72 : Own B H60 1 v70 1 [.int .i64 (at_ (numsL w) 15)] := .inr ⟨_, _, e71, h62, z65, rfl⟩
 have no73 : NotId v70 id := by rw [e71]; exact NotId.slm e64
 have sp74 : SepM (rdL s vL vM vT vS vC vV vF vK) v70 := by rw [e71]; exact SepM.ofNotId no68
 refine AOpsX.consX rfl rfl ?_
 refine AOpX.frz 30 (o72) e71.symm m69 fun H75 m76 k77 => ?_
 have h78 := (k77 _ no73).trans h66
 have o79 := MO.stay o67 sp74 (fun i hi _ => k77 i hi)
 refine AOpX.need (b := inB 0 8 ([at_ (numsL w) 15] : List Int)) (k := 11) (as_ := [.int .i64 0, .int .i64 8, .sl ([at_ (numsL w) 15] : List Int).length (([at_ (numsL w) 15] : List Int).map eI)]) rfl rfl (rfl) tf_36 (c_within _ _ ([at_ (numsL w) 15] : List Int) (by first | omega | assumption | (simp only [List.length_drop, List.length_take]; omega) | (simp; omega) | simp)) ?_ (fun hb _ m2 => Or.inr ⟨_, rfl, _, gT hb1 (gT hb8 (gT hb14 (gT hb20 (gT hb26 (gT hb53 (gF hb)))))), rfl, m76.trans m2⟩)
 intro hb80 H81 m82
 have h83 := m82 _ _ h78
 have o84 := MO.mono o79 m82
 have m85 := m76.trans m82
 refine AOpsX.nil ?_
 change AWP _ _ _ _ _ _
 refine AWP.seq ?_
 refine AWP.region (l := [0, 1, 2, 3]) rfl ?_
 refine AOps.cons rfl rfl (AOp.move (.ptr id ver 0) rfl rfl ?_)
 refine AOps.cons rfl rfl (AOp.nilCheck (.ptr id ver 0) rfl rfl rfl ?_)
 refine AOps.cons rfl rfl (AOp.fieldAddr rfl rfl fl_59_1 ?_ (hid := ⟨_, h83⟩))
 refine AOps.cons rfl rfl (AOp.store' (cells' := rdC s.cam s.sky vL vM vT vS vC true s.hs) (.bool true) rfl rfl ts_4 h83 rfl rfl rfl rfl ?_)
 intro H86 h87 k88
 have o90 := MO.keep o84 k88 hn
 have m91 := Mono.set m85 hB k88
 refine AOps.nil ?_
 change AWP _ _ _ _ _ _
 refine AWP.region_quiet mixed (by kernel_rfl) 28 [28] rfl (by kernel_rfl) (Mono H86) (Mono.refl _) ?_
 refine QE.op rfl rfl (.inl ⟨rfl, fun f' H' hf hM => AOp.move (.ptr id ver 0) rfl ((hf 0 rfl).trans rfl) ⟨rfl, hM⟩⟩) ?_
 refine QE.op rfl rfl (.inl ⟨rfl, fun f' H' hf hM => AOp.move (.sl (numsL w).length ((numsL w).map eI)) rfl ((hf 4 rfl).trans rfl) ⟨rfl, hM⟩⟩) ?_
 refine QE.op rfl rfl (.inl ⟨rfl, fun f' H' hf hM => AOp.pcall («as» := [.sl (numsL w).length ((numsL w).map eI)]) rfl rfl (lapp (lcons ((hf 36 rfl).trans rfl) rfl) rfl) tf_37 (c_point (numsL w) (by first | omega | (simp; omega))) fun H2 m2 => ⟨rfl, hM.trans m2⟩⟩) ?_
 refine QE.op rfl rfl (.inl ⟨rfl, fun f' H' hf hM => AOp.move (.sl (numsL w).length ((numsL w).map eI)) rfl ((hf 4 rfl).trans rfl) ⟨rfl, hM⟩⟩) ?_
 refine QE.op rfl rfl (.inl ⟨rfl, fun f' H' hf hM => AOp.sliceSD1 (xs := numsL w) (l := 3) (h := (((numsL w).length) : Int)) rfl ((hf 38 rfl).trans rfl)  sl_47 (lo_of rfl) rfl (by first | omega | (simp; omega)) (by first | omega | (simp; omega)) (by first | omega | (simp; omega)) rfl ⟨rfl, hM⟩⟩) ?_
 refine QE.op rfl rfl (.inl ⟨rfl, fun f' H' hf hM => AOp.pcall («as» := [.sl ((numsL w).drop 3).length (((numsL w).drop 3).map eI)]) rfl rfl (lapp (lcons ((hf 39 rfl).trans rfl) rfl) rfl) tf_37 (c_point ((numsL w).drop 3) (by first | omega | (simp; omega))) fun H2 m2 => ⟨rfl, hM.trans m2⟩⟩) ?_
 refine QE.op rfl rfl (.inl ⟨rfl, fun f' H' hf hM => AOp.move (.sl (numsL w).length ((numsL w).map eI)) rfl ((hf 4 rfl).trans rfl) ⟨rfl, hM⟩⟩) ?_
 refine QE.op rfl rfl (.inl ⟨rfl, fun f' H' hf hM => AOp.sliceSD1 (xs := numsL w) (l := 6) (h := (((numsL w).length) : Int)) rfl ((hf 41 rfl).trans rfl)  sl_47 (lo_of rfl) rfl (by first | omega | (simp; omega)) (by first | omega | (simp; omega)) (by first | omega | (simp; omega)) rfl ⟨rfl, hM⟩⟩) ?_
 refine QE.op rfl rfl (.inl ⟨rfl, fun f' H' hf hM => AOp.pcall («as» := [.sl ((numsL w).drop 6).length (((numsL w).drop 6).map eI)]) rfl rfl (lapp (lcons ((hf 42 rfl).trans rfl) rfl) rfl) tf_37 (c_point ((numsL w).drop 6) (by first | omega | (simp; omega))) fun H2 m2 => ⟨rfl, hM.trans m2⟩⟩) ?_
 refine QE.op rfl rfl (.inl ⟨rfl, fun f' H' hf hM => AOp.move (.sl (numsL w).length ((numsL w).map eI)) rfl ((hf 4 rfl).trans rfl) ⟨rfl, hM⟩⟩) ?_
 refine QE.op rfl rfl (.inl ⟨rfl, fun f' H' hf hM => AOp.sliceSD1 (xs := numsL w) (l := 9) (h := (((numsL w).length) : Int)) rfl ((hf 44 rfl).trans rfl)  sl_47 (lo_of rfl) rfl (by first | omega | (simp; omega)) (by first | omega | (simp; omega)) (by first | omega | (simp; omega)) rfl ⟨rfl, hM⟩⟩) ?_
 refine QE.op rfl rfl (.inl ⟨rfl, fun f' H' hf hM => AOp.pcall («as» := [.sl ((numsL w).drop 9).length (((numsL w).drop 9).map eI)]) rfl rfl (lapp (lcons ((hf 45 rfl).trans rfl) rfl) rfl) tf_37 (c_point ((numsL w).drop 9) (by first | omega | (simp; omega))) fun H2 m2 => ⟨rfl, hM.trans m2⟩⟩) ?_
 refine QE.op rfl rfl (.inl ⟨rfl, fun f' H' hf hM => AOp.move (.sl (numsL w).length ((numsL w).map eI)) rfl ((hf 4 rfl).trans rfl) ⟨rfl, hM⟩⟩) ?_
 refine QE.op rfl rfl (.inl ⟨rfl, fun f' H' hf hM => AOp.indexAddrS rfl ((hf 47 rfl).trans rfl) rfl sl_47 (by omega) (by omega) ⟨rfl, hM⟩⟩) ?_
 refine QE.op rfl rfl (.inl ⟨rfl, fun f' H' hf hM => AOp.loadF (.int .i64 (at_ (numsL w) 12)) rfl ((hf 48 rfl).trans rfl) ty_3 (ld1 (by omega) (by omega)) ⟨rfl, hM⟩⟩) ?_
 refine QE.op rfl rfl (.inl ⟨rfl, fun f' H' hf hM => AOp.move (.sl (numsL w).length ((numsL w).map eI)) rfl ((hf 4 rfl).trans rfl) ⟨rfl, hM⟩⟩) ?_
 refine QE.op rfl rfl (.inl ⟨rfl, fun f' H' hf hM => AOp.indexAddrS rfl ((hf 50 rfl).trans rfl) rfl sl_47 (by omega) (by omega) ⟨rfl, hM⟩⟩) ?_
 refine QE.op rfl rfl (.inl ⟨rfl, fun f' H' hf hM => AOp.loadF (.int .i64 (at_ (numsL w) 13)) rfl ((hf 51 rfl).trans rfl) ty_3 (ld1 (by omega) (by omega)) ⟨rfl, hM⟩⟩) ?_
 refine QE.op rfl rfl (.inl ⟨rfl, fun f' H' hf hM => AOp.move (.sl (numsL w).length ((numsL w).map eI)) rfl ((hf 4 rfl).trans rfl) ⟨rfl, hM⟩⟩) ?_
 refine QE.op rfl rfl (.inl ⟨rfl, fun f' H' hf hM => AOp.indexAddrS rfl ((hf 53 rfl).trans rfl) rfl sl_47 (by omega) (by omega) ⟨rfl, hM⟩⟩) ?_
 refine QE.op rfl rfl (.inl ⟨rfl, fun f' H' hf hM => AOp.loadF (.int .i64 (at_ (numsL w) 14)) rfl ((hf 54 rfl).trans rfl) ty_3 (ld1 (by omega) (by omega)) ⟨rfl, hM⟩⟩) ?_
 refine QE.op rfl rfl (.inl ⟨rfl, fun f' H' hf hM => AOp.move (.sl (numsL w).length ((numsL w).map eI)) rfl ((hf 4 rfl).trans rfl) ⟨rfl, hM⟩⟩) ?_
 refine QE.op rfl rfl (.inl ⟨rfl, fun f' H' hf hM => AOp.indexAddrS rfl ((hf 56 rfl).trans rfl) rfl sl_47 (by omega) (by omega) ⟨rfl, hM⟩⟩) ?_
 refine QE.op rfl rfl (.inl ⟨rfl, fun f' H' hf hM => AOp.loadF (.int .i64 (at_ (numsL w) 15)) rfl ((hf 57 rfl).trans rfl) ty_3 (ld1 (by omega) (by omega)) ⟨rfl, hM⟩⟩) ?_
 refine QE.op rfl rfl (.inl ⟨rfl, fun f' H' hf hM => AOp.build (cells := [.int .i64 ((ptR (numsL w)).X), .int .i64 ((ptR (numsL w)).Y), .int .i64 ((ptR (numsL w)).Z), .int .i64 ((ptR ((numsL w).drop 3)).X), .int .i64 ((ptR ((numsL w).drop 3)).Y), .int .i64 ((ptR ((numsL w).drop 3)).Z), .int .i64 ((ptR ((numsL w).drop 6)).X), .int .i64 ((ptR ((numsL w).drop 6)).Y), .int .i64 ((ptR ((numsL w).drop 6)).Z), .int .i64 ((ptR ((numsL w).drop 9)).X), .int .i64 ((ptR ((numsL w).drop 9)).Y), .int .i64 ((ptR ((numsL w).drop 9)).Z), .int .i64 (at_ (numsL w) 12), .int .i64 (at_ (numsL w) 13), .int .i64 (at_ (numsL w) 14), .int .i64 (at_ (numsL w) 15)]) rfl tz_26 pl_26 (lconsP ((hf 37 rfl).trans rfl) (lconsP ((hf 40 rfl).trans rfl) (lconsP ((hf 43 rfl).trans rfl) (lconsP ((hf 46 rfl).trans rfl) (lconsP ((hf 49 rfl).trans rfl) (lconsP ((hf 52 rfl).trans rfl) (lconsP ((hf 55 rfl).trans rfl) (lconsP ((hf 58 rfl).trans rfl) rfl)))))))) rfl ⟨rfl, hM⟩⟩) ?_
 refine QE.op rfl rfl (.inl ⟨rfl, fun f' H' hf hM => AOp.nilCheck (.ptr id ver 0) rfl ((hf 35 rfl).trans rfl) rfl ⟨rfl, hM⟩⟩) ?_
 refine QE.op rfl rfl (.inl ⟨rfl, fun f' H' hf hM => AOp.fieldAddr rfl ((hf 60 rfl).trans rfl) fl_59_0 ⟨rfl, hM⟩ (hid := ⟨_, (hM _ _ h87)⟩)⟩) ?_
 refine QE.op rfl rfl (.inl ⟨rfl, fun f' H' hf hM => AOp.fieldAddr rfl ((hf 61 rfl).trans rfl) fl_35_0 ⟨rfl, hM⟩ (hid := ⟨_, (hM _ _ h87)⟩)⟩) ?_
 refine QE.done fun H92 m93 => ?_
 have h94 := m93 _ _ h87
 have o95 := MO.mono o90 m93
 have m96 := m91.trans m93
 refine AOps.cons rfl rfl (AOp.store' (cells' := rdC (CamT.mk (ptR (numsL w)) (ptR ((numsL w).drop 3)) (ptR ((numsL w).drop 6)) (ptR ((numsL w).drop 9)) (at_ (numsL w) 12) (at_ (numsL w) 13) (at_ (numsL w) 14) (at_ (numsL w) 15)) s.sky vL vM vT vS vC true s.hs) (.agg [.int .i64 ((ptR (numsL w)).X), .int .i64 ((ptR (numsL w)).Y), .int .i64 ((ptR (numsL w)).Z), .int .i64 ((ptR ((numsL w).drop 3)).X), .int .i64 ((ptR ((numsL w).drop 3)).Y), .int .i64 ((ptR ((numsL w).drop 3)).Z), .int .i64 ((ptR ((numsL w).drop 6)).X), .int .i64 ((ptR ((numsL w).drop 6)).Y), .int .i64 ((ptR ((numsL w).drop 6)).Z), .int .i64 ((ptR ((numsL w).drop 9)).X), .int .i64 ((ptR ((numsL w).drop 9)).Y), .int .i64 ((ptR ((numsL w).drop 9)).Z), .int .i64 (at_ (numsL w) 12), .int .i64 (at_ (numsL w) 13), .int .i64 (at_ (numsL w) 14), .int .i64 (at_ (numsL w) 15)]) rfl rfl ts_26 h94 rfl rfl rfl rfl ?_)
 intro H97 h98 k99
 have o101 := MO.keep o95 k99 hn
 have m102 := Mono.set m96 hB k99
 refine AOps.nil ?_
 refine Or.inl ?_
 refine ⟨_, _, Ghost.refl, .inl rfl, _, Res.zero rfl, _, gT hb1 (gT hb8 (gT hb14 (gT hb20 (gT hb26 (gT hb53 (gT hb80 rfl)))))), ⟨_, _, _, _, _, _, _, _, h98, hB, o101, hn⟩, m102, rfl⟩
theorem c_readSky {B H0 : Heap} {id ver : Nat} {s : Rd} (hm : Mono B H0) (hs : RD B H0 id ver s) (ok : RdOk s) (w : List ByteArray) (hw : w.length ≤ 1048576) : ACallsX Tryd.prog 21 [.ptr id ver 0, .sl w.length (w.map eStr)] H0 (fun r H' => ∃ t, skyP s w = .ok t ∧ RD B H' id ver t ∧ Mono B H' ∧ r = .tup []) (fun ch H' => ∃ k, skyP s w = .error k ∧ ch = pan 36 k ∧ Mono B H') := by
 obtain ⟨vL, vM, vT, vS, vC, vV, vF, vK, hrow, hB, hg, hn⟩ := hs
 refine ACallsX.of_body' (n := 24) rfl rfl rfl rfl ?_
 have m0 := hm
 refine AWP.seq ?_
 refine AWP.regionX (l := [0, 1, 2]) rfl ?_
 refine AOpsX.cons rfl rfl (AOp.move (.sl w.length (w.map eStr)) rfl rfl ?_)
 refine AOpsX.consX rfl rfl (AOpX.need (b := cntB w 3) (k := 10) (as_ := [.sl w.length (w.map eStr), .int .i64 3]) rfl rfl (rfl) tf_34 (c_counted w (by first | omega | assumption | (simp only [List.length_drop, List.length_take]; omega) | (simp; omega) | simp) _) ?_ (fun hb _ m2 => Or.inr ⟨_, rfl, _, gF hb, rfl, m0.trans m2⟩))
 intro hb1 H2 m3
 have h4 := m3 _ _ hrow
 have o5 := MO.mono hg m3
 have m6 := m0.trans m3
 have hl7 := cnt_len hb1
 refine AOpsX.cons rfl rfl (AOp.assign (.sl (numsL w).length ((numsL w).map eI)) rfl rfl ?_)
 refine AOpsX.nil ?_
 change AWP _ _ _ _ _ _
 refine AWP.seq ?_
 refine AWP.regionX (l := [0, 1, 2, 3, 4, 5]) rfl ?_
 refine AOpsX.cons rfl rfl (AOp.move (.ptr id ver 0) rfl rfl ?_)
 refine AOpsX.cons rfl rfl (AOp.nilCheck (.ptr id ver 0) rfl rfl rfl ?_)
 refine AOpsX.cons rfl rfl (AOp.fieldAddr rfl rfl fl_59_2 ?_ (hid := ⟨_, h4⟩))
 refine AOpsX.cons rfl rfl (AOp.load (.bool s.hs) rfl rfl ty_4 h4 rfl ?_)
 refine AOpsX.cons rfl rfl (AOp.not rfl rfl ?_)
 refine AOpsX.consX rfl rfl (AOpX.need (b := !s.hs) (k := 12) (as_ := [.bool (!s.hs), .int .i64 12]) rfl rfl (rfl) tf_35 (c_need _ _) ?_ (fun hb _ m2 => Or.inr ⟨_, rfl, _, gT hb1 (gF hb), rfl, m6.trans m2⟩))
 intro hb8 H9 m10
 have h11 := m10 _ _ h4
 have o12 := MO.mono o5 m10
 have m13 := m6.trans m10
 refine AOpsX.nil ?_
 change AWP _ _ _ _ _ _
 refine AWP.seq ?_
 refine AWP.regionX (l := [0, 1]) rfl ?_
 refine AOpsX.cons rfl rfl (AOp.move (.sl (numsL w).length ((numsL w).map eI)) rfl rfl ?_)
 refine AOpsX.consX rfl rfl (AOpX.need (b := inB 0 255 (numsL w)) (k := 11) (as_ := [.int .i64 0, .int .i64 255, .sl (numsL w).length ((numsL w).map eI)]) rfl rfl (rfl) tf_36 (c_within _ _ (numsL w) (by first | omega | assumption | (simp only [List.length_drop, List.length_take]; omega) | (simp; omega) | simp)) ?_ (fun hb _ m2 => Or.inr ⟨_, rfl, _, gT hb1 (gT hb8 (gF hb)), rfl, m13.trans m2⟩))
 intro hb14 H15 m16
 have h17 := m16 _ _ h11
 have o18 := MO.mono o12 m16
 have m19 := m13.trans m16
 refine AOpsX.nil ?_
 change AWP _ _ _ _ _ _
 refine AWP.region (l := [0, 1, 2, 3, 4, 5, 6, 7, 8, 9, 10]) rfl ?_
 refine AOps.cons rfl rfl (AOp.move (.ptr id ver 0) rfl rfl ?_)
 refine AOps.cons rfl rfl (AOp.move (.ptr id ver 0) rfl rfl ?_)
 refine AOps.cons rfl rfl (AOp.move (.sl (numsL w).length ((numsL w).map eI)) rfl rfl ?_)
 refine AOps.cons rfl rfl (AOp.pcall («as» := [.sl (numsL w).length ((numsL w).map eI)]) rfl rfl (rfl) tf_38 (c_color (numsL w) (by first | omega | (simp; omega))) ?_)
 intro H20 m21
 have h22 := m21 _ _ h17
 have o23 := MO.mono o18 m21
 have m24 := m19.trans m21
 refine AOps.cons rfl rfl (AOp.nilCheck (.ptr id ver 0) rfl rfl rfl ?_)
 refine AOps.cons rfl rfl (AOp.fieldAddr rfl rfl fl_59_2 ?_ (hid := ⟨_, h22⟩))
 refine AOps.cons rfl rfl (AOp.store' (cells' := rdC s.cam s.sky vL vM vT vS vC s.hc true) (.bool true) rfl rfl ts_4 h22 rfl rfl rfl rfl ?_)
 intro H25 h26 k27
 have o29 := MO.keep o23 k27 hn
 have m30 := Mono.set m24 hB k27
 refine AOps.cons rfl rfl (AOp.nilCheck (.ptr id ver 0) rfl rfl rfl ?_)
 refine AOps.cons rfl rfl (AOp.fieldAddr rfl rfl fl_59_0 ?_ (hid := ⟨_, h26⟩))
 refine AOps.cons rfl rfl (AOp.fieldAddr rfl rfl fl_35_1 ?_ (hid := ⟨_, h26⟩))
 refine AOps.cons rfl rfl (AOp.store' (cells' := rdC s.cam (colR (numsL w)) vL vM vT vS vC s.hc true) (.agg [.int .i64 ((colR (numsL w)).R), .int .i64 ((colR (numsL w)).G), .int .i64 ((colR (numsL w)).B)]) rfl rfl ts_28 h26 rfl rfl rfl rfl ?_)
 intro H31 h32 k33
 have o35 := MO.keep o29 k33 hn
 have m36 := Mono.set m30 hB k33
 refine AOps.nil ?_
 refine Or.inl ?_
 refine ⟨_, _, Ghost.refl, .inl rfl, _, Res.zero rfl, _, gT hb1 (gT hb8 (gT hb14 rfl)), ⟨_, _, _, _, _, _, _, _, h32, hB, o35, hn⟩, m36, rfl⟩
theorem c_readLight {B H0 : Heap} {id ver : Nat} {s : Rd} (hm : Mono B H0) (hs : RD B H0 id ver s) (ok : RdOk s) (w : List ByteArray) (hw : w.length ≤ 1048576) : ACallsX Tryd.prog 22 [.ptr id ver 0, .sl w.length (w.map eStr)] H0 (fun r H' => ∃ t, lightP s w = .ok t ∧ RD B H' id ver t ∧ Mono B H' ∧ r = .tup []) (fun ch H' => ∃ k, lightP s w = .error k ∧ ch = pan 36 k ∧ Mono B H') := by
 obtain ⟨vL, vM, vT, vS, vC, vV, vF, vK, hrow, hB, hg, hn⟩ := hs
 obtain ⟨oL', ogL, spL⟩ := hg.at 0 rfl
 have oL : Own B H0 6 vL s.lights.length (s.lights.flatMap eLight) := oL'
 have nL : NotId vL id := hn.at 0 rfl
 have ngL := hn.erase 0
 refine ACallsX.of_body' (n := 38) rfl rfl rfl rfl ?_
 have m0 := hm
 refine AWP.seq ?_
 refine AWP.regionX (l := [0, 1, 2]) rfl ?_
 refine AOpsX.cons rfl rfl (AOp.move (.sl w.length (w.map eStr)) rfl rfl ?_)
 refine AOpsX.consX rfl rfl (AOpX.need (b := cntB w 6) (k := 10) (as_ := [.sl w.length (w.map eStr), .int .i64 6]) rfl rfl (rfl) tf_34 (c_counted w (by first | omega | assumption | (simp only [List.length_drop, List.length_take]; omega) | (simp; omega) | simp) _) ?_ (fun hb _ m2 => Or.inr ⟨_, rfl, _, gF hb, rfl, m0.trans m2⟩))
 intro hb1 H2 m3
 have h4 := m3 _ _ hrow
 have o5 := Own.mono oL m3
 have o6 := MO.mono ogL m3
 have m7 := m0.trans m3
 have hl8 := cnt_len hb1
 refine AOpsX.cons rfl rfl (AOp.assign (.sl (numsL w).length ((numsL w).map eI)) rfl rfl ?_)
 refine AOpsX.nil ?_
 change AWP _ _ _ _ _ _
 refine AWP.seq ?_
 refine AWP.regionX (l := [0, 1, 2, 3, 4, 5, 6, 7]) rfl ?_
 refine AOpsX.cons rfl rfl (AOp.move (.ptr id ver 0) rfl rfl ?_)
 refine AOpsX.cons rfl rfl (AOp.nilCheck (.ptr id ver 0) rfl rfl rfl ?_)
 refine AOpsX.cons rfl rfl (AOp.fieldAddr rfl rfl fl_59_0 ?_ (hid := ⟨_, h4⟩))
 refine AOpsX.cons rfl rfl (AOp.fieldAddr rfl rfl fl_35_2 ?_ (hid := ⟨_, h4⟩))
 refine AOpsX.cons rfl rfl (AOp.load (vL) rfl rfl ty_29 h4 rfl ?_)
 refine AOpsX.cons rfl rfl (AOp.len_own (m := s.lights.length) rfl rfl o5 u_29 ?_)
 refine AOpsX.cons rfl rfl (AOp.bin (.bool (decide ((s.lights.length : Int) < 4))) rfl rfl rfl rfl ?_)
 refine AOpsX.consX rfl rfl (AOpX.need (b := decide ((s.lights.length : Int) < 4)) (k := 13) (as_ := [.bool (decide ((s.lights.length : Int) < 4)), .int .i64 13]) rfl rfl (rfl) tf_35 (c_need _ _) ?_ (fun hb _ m2 => Or.inr ⟨_, rfl, _, gT hb1 (gF hb), rfl, m7.trans m2⟩))
 intro hb9 H10 m11
 have h12 := m11 _ _ h4
 have o13 := Own.mono o5 m11
 have o14 := MO.mono o6 m11
 have m15 := m7.trans m11
 have hp16 := of_decide_eq_true hb9
 refine AOpsX.nil ?_
 change AWP _ _ _ _ _ _
 refine AWP.seq ?_
 refine AWP.regionX (l := [0, 1, 2]) rfl ?_
 refine AOpsX.cons rfl rfl (AOp.move (.sl (numsL w).length ((numsL w).map eI)) rfl rfl ?_)
 refine AOpsX.cons rfl rfl (AOp.sliceST1 (xs := numsL w) (l := 0) (h := 3) rfl rfl  sl_47 rfl (hi_of rfl) (by first | omega | (simp; omega)) (by first | omega | (simp; omega)) (by first | omega | (simp; omega)) ?_)
 refine AOpsX.consX rfl rfl (AOpX.need (b := inB (-16384) 16384 ((numsL w).take 3)) (k := 11) (as_ := [.int .i64 (-16384), .int .i64 16384, .sl ((numsL w).take 3).length (((numsL w).take 3).map eI)]) rfl rfl (rfl) tf_36 (c_within _ _ ((numsL w).take 3) (by first | omega | assumption | (simp only [List.length_drop, List.length_take]; omega) | (simp; omega) | simp)) ?_ (fun hb _ m2 => Or.inr ⟨_, rfl, _, gT hb1 (gT hb9 (gF hb)), rfl, m15.trans m2⟩))
 intro hb17 H18 m19
 have h20 := m19 _ _ h12
 have o21 := Own.mono o13 m19
 have o22 := MO.mono o14 m19
 have m23 := m15.trans m19
 refine AOpsX.nil ?_
 change AWP _ _ _ _ _ _
 refine AWP.seq ?_
 refine AWP.regionX (l := [0, 1, 2]) rfl ?_
 refine AOpsX.cons rfl rfl (AOp.move (.sl (numsL w).length ((numsL w).map eI)) rfl rfl ?_)
 refine AOpsX.cons rfl rfl (AOp.sliceSD1 (xs := numsL w) (l := 3) (h := (((numsL w).length) : Int)) rfl rfl  sl_47 (lo_of rfl) rfl (by first | omega | (simp; omega)) (by first | omega | (simp; omega)) (by first | omega | (simp; omega)) rfl ?_)
 refine AOpsX.consX rfl rfl (AOpX.need (b := inB 0 255 ((numsL w).drop 3)) (k := 11) (as_ := [.int .i64 0, .int .i64 255, .sl ((numsL w).drop 3).length (((numsL w).drop 3).map eI)]) rfl rfl (rfl) tf_36 (c_within _ _ ((numsL w).drop 3) (by first | omega | assumption | (simp only [List.length_drop, List.length_take]; omega) | (simp; omega) | simp)) ?_ (fun hb _ m2 => Or.inr ⟨_, rfl, _, gT hb1 (gT hb9 (gT hb17 (gF hb))), rfl, m23.trans m2⟩))
 intro hb24 H25 m26
 have h27 := m26 _ _ h20
 have o28 := Own.mono o21 m26
 have o29 := MO.mono o22 m26
 have m30 := m23.trans m26
 refine AOpsX.nil ?_
 change AWP _ _ _ _ _ _
 refine AWP.region_str mixed (by kernel_rfl) [(0, none), (1, none), (2, none), (3, none), (4, none), (5, none), (6, none), (7, none), (8, none), (9, none), (10, none), (11, none), (12, some [0, 1, 2, 3, 4, 5]), (13, some [0])] [14, 15, 16, 17] (by kernel_rfl) ?_
 refine STR.op rfl rfl (.inl ⟨rfl, fun H1 f' H' hf hN hM => AOp.move (.ptr id ver 0) rfl ((hf 0 rfl).trans rfl) ⟨rfl, hN⟩⟩) ?_
 refine STR.op rfl rfl (.inl ⟨rfl, fun H1 f' H' hf hN hM => AOp.move (.ptr id ver 0) rfl ((hf 0 rfl).trans rfl) ⟨rfl, hN⟩⟩) ?_
 refine STR.op rfl rfl (.inl ⟨rfl, fun H1 f' H' hf hN hM => AOp.nilCheck (.ptr id ver 0) rfl ((hf 22 rfl).trans rfl) rfl ⟨rfl, hN⟩⟩) ?_
 refine STR.op rfl rfl (.inl ⟨rfl, fun H1 f' H' hf hN hM => AOp.fieldAddr rfl ((hf 23 rfl).trans rfl) fl_59_0 ⟨rfl, hN⟩ (hid := ⟨_, (hM _ _ h27)⟩)⟩) ?_
 refine STR.op rfl rfl (.inl ⟨rfl, fun H1 f' H' hf hN hM => AOp.fieldAddr rfl ((hf 24 rfl).trans rfl) fl_35_2 ⟨rfl, hN⟩ (hid := ⟨_, (hM _ _ h27)⟩)⟩) ?_
 refine STR.op rfl rfl (.inl ⟨rfl, fun H1 f' H' hf hN hM => AOp.load (vL) rfl ((hf 25 rfl).trans rfl) ty_29 (hM _ _ h27) rfl ⟨rfl, hN⟩⟩) ?_
 refine STR.op rfl rfl (.inl ⟨rfl, fun H1 f' H' hf hN hM => AOp.move (.sl (numsL w).length ((numsL w).map eI)) rfl ((hf 4 rfl).trans rfl) ⟨rfl, hN⟩⟩) ?_
 refine STR.op rfl rfl (.inl ⟨rfl, fun H1 f' H' hf hN hM => AOp.pcall («as» := [.sl (numsL w).length ((numsL w).map eI)]) rfl rfl (lapp (lcons ((hf 27 rfl).trans rfl) rfl) rfl) tf_37 (c_point (numsL w) (by first | omega | (simp; omega))) fun H2 m2 => ⟨rfl, hN.trans m2⟩⟩) ?_
 refine STR.op rfl rfl (.inl ⟨rfl, fun H1 f' H' hf hN hM => AOp.move (.sl (numsL w).length ((numsL w).map eI)) rfl ((hf 4 rfl).trans rfl) ⟨rfl, hN⟩⟩) ?_
 refine STR.op rfl rfl (.inl ⟨rfl, fun H1 f' H' hf hN hM => AOp.sliceSD1 (xs := numsL w) (l := 3) (h := (((numsL w).length) : Int)) rfl ((hf 29 rfl).trans rfl)  sl_47 (lo_of rfl) rfl (by first | omega | (simp; omega)) (by first | omega | (simp; omega)) (by first | omega | (simp; omega)) rfl ⟨rfl, hN⟩⟩) ?_
 refine STR.op rfl rfl (.inl ⟨rfl, fun H1 f' H' hf hN hM => AOp.pcall («as» := [.sl ((numsL w).drop 3).length (((numsL w).drop 3).map eI)]) rfl rfl (lapp (lcons ((hf 30 rfl).trans rfl) rfl) rfl) tf_38 (c_color ((numsL w).drop 3) (by first | omega | (simp; omega))) fun H2 m2 => ⟨rfl, hN.trans m2⟩⟩) ?_
 refine STR.op rfl rfl (.inl ⟨rfl, fun H1 f' H' hf hN hM => AOp.build (cells := [.int .i64 ((ptR (numsL w)).X), .int .i64 ((ptR (numsL w)).Y), .int .i64 ((ptR (numsL w)).Z), .int .i64 ((colR ((numsL w).drop 3)).R), .int .i64 ((colR ((numsL w).drop 3)).G), .int .i64 ((colR ((numsL w).drop 3)).B)]) rfl tz_68 pl_68 (lconsP ((hf 28 rfl).trans rfl) (lconsP ((hf 31 rfl).trans rfl) rfl)) rfl ⟨rfl, hN⟩⟩) ?_
 refine STR.eff rfl rfl rfl fun f31 H32 hf33 m34 => ?_
 have h35 := m34 _ _ h27
 have o36 := Own.mono o28 m34
 have o37 := MO.mono o29 m34
 have m38 := m30.trans m34
 refine AOp.buildSlice (cells := [.int .i64 ((ptR (numsL w)).X), .int .i64 ((ptR (numsL w)).Y), .int .i64 ((ptR (numsL w)).Z), .int .i64 ((colR ((numsL w).drop 3)).R), .int .i64 ((colR ((numsL w).drop 3)).G), .int .i64 ((colR ((numsL w).drop 3)).B)]) rfl u_29 ts_68 tz_68 rfl (lconsP ((hf33 32 rfl).trans rfl) rfl) rfl ?_
 intro i39 H40 n41 h42 k43
 have e44 := ne_new h35 n41
 have z45 := Mono.free m38 n41
 have h46 := keep k43 (ne_new h35 n41) h35
 have o47 := Own.keep o36 k43 (Own.notnew o36 n41)
 have no48 := Own.notnew o36 n41
 have o49 := MO.keep o37 k43 (MO.notnew o37 n41)
 have no50 := MO.notnew o37 n41
 have m51 := Mono.new m38 n41 k43
 refine ⟨_, rfl, .inl (Mono.new (Mono.refl _) n41 k43), ?_⟩
 refine STR.eff rfl rfl rfl fun f52 H53 hf54 m55 => ?_
 have h56 := m55 _ _ h46
 have h57 := m55 _ _ h42
 have o58 := Own.mono o47 m55
 have o59 := MO.mono o49 m55
 have m60 := m51.trans m55
 refine AOp.append_own (es := 6) (m := 1) (len := s.lights.length) (old := s.lights.flatMap eLight) (cells := [.int .i64 ((ptR (numsL w)).X), .int .i64 ((ptR (numsL w)).Y), .int .i64 ((ptR (numsL w)).Z), .int .i64 ((colR ((numsL w).drop 3)).R), .int .i64 ((colR ((numsL w).drop 3)).G), .int .i64 ((colR ((numsL w).drop 3)).B)]) rfl u_29 ts_68 tzn_68 tb_68 (by decide) ni_29 ((hf54 26 rfl).trans rfl) o58 m60 ((hf54 33 rfl).trans rfl) (.slm h57 rfl) (one_of rfl) (by decide) (by first | omega | (simp; omega)) ?_
 intro v61 H62 o63 m64 k65 j66
 have o67 := Own.snocM (xs := (s.lights : List LightT)) (y := (LightT.mk (ptR (numsL w)) (colR ((numsL w).drop 3)))) (e := eLight) (by simp) o63
 have h68 := (k65 _ nL (by rw [h56]; simp)).trans h56
 have no69 := j66 _ nL (by rw [h56]; simp)
 have sp71 := MO.sep o59 spL j66
 have o70 := MO.stay o59 spL k65
 refine ⟨_, rfl, .inr (RevR.skip rfl (RevR.skip rfl (RevR.skip rfl (RevR.skip rfl (RevR.skip rfl (RevR.skip rfl (RevR.skip rfl (RevR.skip rfl (RevR.skip rfl (RevR.skip rfl (RevR.skip rfl (RevR.skip rfl (RevR.cons rfl (.inl ⟨rfl, fun H1 f' H' hf hN hM => AOp.move (.ptr id ver 0) rfl ((hf 0 rfl).trans rfl) ⟨rfl, hN⟩⟩) RevR.nil))))))))))))), ?_⟩
 refine STR.done fun H72 m73 => ?_
 have h74 := m73 _ _ h68
 have o75 := MO.mono o70 m73
 have o76 := Own.mono o67 m73
 have m77 := m64.trans m73
 refine AOps.cons rfl rfl (AOp.nilCheck (.ptr id ver 0) rfl rfl rfl ?_)
 refine AOps.cons rfl rfl (AOp.fieldAddr rfl rfl fl_59_0 ?_ (hid := ⟨_, h74⟩))
 refine AOps.cons rfl rfl (AOp.fieldAddr rfl rfl fl_35_2 ?_ (hid := ⟨_, h74⟩))
 refine AOps.cons rfl rfl (AOp.storeO (cells' := rdC s.cam s.sky v61 vM vT vS vC s.hc s.hs) rfl rfl o76 ts_29 h74 rfl rfl ?_)
 intro H78 h79 k80
 have o82 := MO.keep o75 k80 ngL
 have o83 := Own.keep o76 k80 no69
 have m84 := Mono.set m77 hB k80
 refine AOps.nil ?_
 refine Or.inl ?_
 refine ⟨_, _, Ghost.refl, .inl rfl, _, Res.zero rfl, _, gT hb1 (gT hb9 (gT hb17 (gT hb24 rfl))), ⟨_, _, _, _, _, _, _, _, h79, hB, MO.put 0 (by simp [rdL]) o82 o83 sp71, NotIdM.put 0 ngL no69⟩, m84, rfl⟩
theorem c_readMaterial {B H0 : Heap} {id ver : Nat} {s : Rd} (hm : Mono B H0) (hs : RD B H0 id ver s) (ok : RdOk s) (w : List ByteArray) (hw : w.length ≤ 1048576) : ACallsX Tryd.prog 24 [.ptr id ver 0, .sl w.length (w.map eStr)] H0 (fun r H' => ∃ t, materialP s w = .ok t ∧ RD B H' id ver t ∧ Mono B H' ∧ r = .tup []) (fun ch H' => ∃ k, materialP s w = .error k ∧ ch = pan 36 k ∧ Mono B H') := by
 obtain ⟨vL, vM, vT, vS, vC, vV, vF, vK, hrow, hB, hg, hn⟩ := hs
 obtain ⟨oM', ogM, spM⟩ := hg.at 1 rfl
 have oM : Own B H0 9 vM s.mats.length (s.mats.flatMap eMat) := oM'
 have nM : NotId vM id := hn.at 1 rfl
 have ngM := hn.erase 1
 refine ACallsX.of_body' (n := 90) rfl rfl rfl rfl ?_
 have m0 := hm
 refine AWP.seq ?_
 refine AWP.regionX (l := [0, 1]) rfl ?_
 refine AOpsX.cons rfl rfl (AOp.move (.sl w.length (w.map eStr)) rfl rfl ?_)
 refine AOpsX.consX rfl rfl (AOpX.need (b := namedB w 1 9) (k := 10) (as_ := [.sl w.length (w.map eStr), .int .i64 1, .int .i64 9]) rfl rfl (rfl) tf_39 (c_named w (by first | omega | assumption | (simp only [List.length_drop, List.length_take]; omega) | (simp; omega) | simp) _ _ (by omega) (by omega)) ?_ (fun hb _ m2 => Or.inr ⟨_, rfl, _, gF hb, rfl, m0.trans m2⟩))
 intro hb1 H2 m3
 have h4 := m3 _ _ hrow
 have o5 := Own.mono oM m3
 have o6 := MO.mono ogM m3
 have m7 := m0.trans m3
 have hl8 := named_len hb1
 refine AOpsX.nil ?_
 change AWP _ _ _ _ _ _
 refine AWP.seq ?_
 refine AWP.regionX (l := [0, 1, 2, 3]) rfl ?_
 refine AOpsX.cons rfl rfl (AOp.move (.sl w.length (w.map eStr)) rfl rfl ?_)
 refine AOpsX.cons rfl rfl (AOp.sliceSD1 (xs := w) (l := 1) (h := (w.length : Int)) rfl rfl  sl_52 (lo_of rfl) rfl (by first | omega | (simp; omega)) (by first | omega | (simp; omega)) (by first | omega | (simp; omega)) rfl ?_)
 refine AOpsX.consX rfl rfl (AOpX.need (b := cntB (w.drop 1) 8) (k := 10) (as_ := [.sl (w.drop 1).length ((w.drop 1).map eStr), .int .i64 8]) rfl rfl (rfl) tf_34 (c_counted (w.drop 1) (by first | omega | assumption | (simp only [List.length_drop, List.length_take]; omega) | (simp; omega) | simp) _) ?_ (fun hb _ m2 => Or.inr ⟨_, rfl, _, gT hb1 (gF hb), rfl, m7.trans m2⟩))
 intro hb9 H10 m11
 have h12 := m11 _ _ h4
 have o13 := Own.mono o5 m11
 have o14 := MO.mono o6 m11
 have m15 := m7.trans m11
 have hl16 := cnt_len hb9
 refine AOpsX.cons rfl rfl (AOp.assign (.sl (numsL (w.drop 1)).length ((numsL (w.drop 1)).map eI)) rfl rfl ?_)
 refine AOpsX.nil ?_
 change AWP _ _ _ _ _ _
 refine AWP.seq ?_
 refine AWP.regionX (l := [0, 1, 2, 3, 4, 5, 6, 7]) rfl ?_
 refine AOpsX.cons rfl rfl (AOp.move (.ptr id ver 0) rfl rfl ?_)
 refine AOpsX.cons rfl rfl (AOp.nilCheck (.ptr id ver 0) rfl rfl rfl ?_)
 refine AOpsX.cons rfl rfl (AOp.fieldAddr rfl rfl fl_59_0 ?_ (hid := ⟨_, h12⟩))
 refine AOpsX.cons rfl rfl (AOp.fieldAddr rfl rfl fl_35_3 ?_ (hid := ⟨_, h12⟩))
 refine AOpsX.cons rfl rfl (AOp.load (vM) rfl rfl ty_30 h12 rfl ?_)
 refine AOpsX.cons rfl rfl (AOp.len_own (m := s.mats.length) rfl rfl o13 u_30 ?_)
 refine AOpsX.cons rfl rfl (AOp.bin (.bool (decide ((s.mats.length : Int) < 8))) rfl rfl rfl rfl ?_)
 refine AOpsX.consX rfl rfl (AOpX.need (b := decide ((s.mats.length : Int) < 8)) (k := 13) (as_ := [.bool (decide ((s.mats.length : Int) < 8)), .int .i64 13]) rfl rfl (rfl) tf_35 (c_need _ _) ?_ (fun hb _ m2 => Or.inr ⟨_, rfl, _, gT hb1 (gT hb9 (gF hb)), rfl, m15.trans m2⟩))
 intro hb17 H18 m19
 have h20 := m19 _ _ h12
 have o21 := Own.mono o13 m19
 have o22 := MO.mono o14 m19
 have m23 := m15.trans m19
 have hp24 := of_decide_eq_true hb17
 refine AOpsX.nil ?_
 change AWP _ _ _ _ _ _
 refine AWP.seq ?_
 refine AWP.regionX (l := [0, 1, 2, 3, 4, 5, 6]) rfl ?_
 refine AOpsX.cons rfl rfl (AOp.move (.ptr id ver 0) rfl rfl ?_)
 refine AOpsX.cons rfl rfl (AOp.move (.sl w.length (w.map eStr)) rfl rfl ?_)
 refine AOpsX.cons rfl rfl (AOp.indexAddrS rfl rfl rfl sl_52 (by omega) (by omega) ?_)
 refine AOpsX.cons rfl rfl (AOp.loadF (.str (at_ w 0)) rfl rfl ty_9 (ld1 (by omega) (by omega)) ?_)
 refine AOpsX.cons rfl rfl (AOp.pcallH («as» := [.ptr id ver 0, .str (at_ w 0)]) rfl rfl (rfl) tf_42 ((c_xMat (B := B) h20 o21 (by have := ok.m; omega) (at_ w 0))) ?_)
 intro H25 m26
 have h27 := m26 _ _ h20
 have o28 := Own.mono o21 m26
 have o29 := MO.mono o22 m26
 have m30 := m23.trans m26
 refine AOpsX.cons rfl rfl (AOp.bin (.bool (decide (matX s (at_ w 0) < 0))) rfl rfl rfl rfl ?_)
 refine AOpsX.consX rfl rfl (AOpX.need (b := decide (matX s (at_ w 0) < 0)) (k := 12) (as_ := [.bool (decide (matX s (at_ w 0) < 0)), .int .i64 12]) rfl rfl (rfl) tf_35 (c_need _ _) ?_ (fun hb _ m2 => Or.inr ⟨_, rfl, _, gT hb1 (gT hb9 (gT hb17 (gF hb))), rfl, m30.trans m2⟩))
 intro hb31 H32 m33
 have h34 := m33 _ _ h27
 have o35 := Own.mono o28 m33
 have o36 := MO.mono o29 m33
 have m37 := m30.trans m33
 have hp38 := of_decide_eq_true hb31
 refine AOpsX.nil ?_
 change AWP _ _ _ _ _ _
 refine AWP.seq ?_
 refine AWP.regionX (l := [0, 1, 2]) rfl ?_
 refine AOpsX.cons rfl rfl (AOp.move (.sl (numsL (w.drop 1)).length ((numsL (w.drop 1)).map eI)) rfl rfl ?_)
 refine AOpsX.cons rfl rfl (AOp.sliceST1 (xs := numsL (w.drop 1)) (l := 0) (h := 3) rfl rfl  sl_47 rfl (hi_of rfl) (by first | omega | (simp; omega)) (by first | omega | (simp; omega)) (by first | omega | (simp; omega)) ?_)
 refine AOpsX.consX rfl rfl (AOpX.need (b := inB 0 255 ((numsL (w.drop 1)).take 3)) (k := 11) (as_ := [.int .i64 0, .int .i64 255, .sl ((numsL (w.drop 1)).take 3).length (((numsL (w.drop 1)).take 3).map eI)]) rfl rfl (rfl) tf_36 (c_within _ _ ((numsL (w.drop 1)).take 3) (by first | omega | assumption | (simp only [List.length_drop, List.length_take]; omega) | (simp; omega) | simp)) ?_ (fun hb _ m2 => Or.inr ⟨_, rfl, _, gT hb1 (gT hb9 (gT hb17 (gT hb31 (gF hb)))), rfl, m37.trans m2⟩))
 intro hb39 H40 m41
 have h42 := m41 _ _ h34
 have o43 := Own.mono o35 m41
 have o44 := MO.mono o36 m41
 have m45 := m37.trans m41
 refine AOpsX.nil ?_
 change AWP _ _ _ _ _ _
 refine AWP.seq ?_
 refine AWP.region_quietX mixed (by kernel_rfl) 9 [9, 10] rfl (by kernel_rfl) (Mono H40) (Mono.refl _) ?_
 refine QE.op rfl rfl (.inl ⟨rfl, fun f' H' hf hM => AOp.move (.sl (numsL (w.drop 1)).length ((numsL (w.drop 1)).map eI)) rfl ((hf 4 rfl).trans rfl) ⟨rfl, hM⟩⟩) ?_
 refine QE.op rfl rfl (.inl ⟨rfl, fun f' H' hf hM => AOp.indexAddrS rfl ((hf 28 rfl).trans rfl) rfl sl_47 (by omega) (by omega) ⟨rfl, hM⟩⟩) ?_
 refine QE.op rfl rfl (.inl ⟨rfl, fun f' H' hf hM => AOp.loadF (.int .i64 (at_ (numsL (w.drop 1)) 3)) rfl ((hf 29 rfl).trans rfl) ty_3 (ld1 (by omega) (by omega)) ⟨rfl, hM⟩⟩) ?_
 refine QE.op rfl rfl (.inl ⟨rfl, fun f' H' hf hM => AOp.move (.sl (numsL (w.drop 1)).length ((numsL (w.drop 1)).map eI)) rfl ((hf 4 rfl).trans rfl) ⟨rfl, hM⟩⟩) ?_
 refine QE.op rfl rfl (.inl ⟨rfl, fun f' H' hf hM => AOp.indexAddrS rfl ((hf 31 rfl).trans rfl) rfl sl_47 (by omega) (by omega) ⟨rfl, hM⟩⟩) ?_
 refine QE.op rfl rfl (.inl ⟨rfl, fun f' H' hf hM => AOp.loadF (.int .i64 (at_ (numsL (w.drop 1)) 5)) rfl ((hf 32 rfl).trans rfl) ty_3 (ld1 (by omega) (by omega)) ⟨rfl, hM⟩⟩) ?_
 refine QE.op rfl rfl (.inl ⟨rfl, fun f' H' hf hM => AOp.move (.sl (numsL (w.drop 1)).length ((numsL (w.drop 1)).map eI)) rfl ((hf 4 rfl).trans rfl) ⟨rfl, hM⟩⟩) ?_
 refine QE.op rfl rfl (.inl ⟨rfl, fun f' H' hf hM => AOp.indexAddrS rfl ((hf 34 rfl).trans rfl) rfl sl_47 (by omega) (by omega) ⟨rfl, hM⟩⟩) ?_
 refine QE.op rfl rfl (.inl ⟨rfl, fun f' H' hf hM => AOp.loadF (.int .i64 (at_ (numsL (w.drop 1)) 6)) rfl ((hf 35 rfl).trans rfl) ty_3 (ld1 (by omega) (by omega)) ⟨rfl, hM⟩⟩) ?_
 refine QE.done fun H46 m47 => ?_
 have h48 := m47 _ _ h42
 have o49 := Own.mono o43 m47
 have o50 := MO.mono o44 m47
 have m51 := m45.trans m47
 refine AOpsX.cons rfl rfl (AOp.buildSlice (cells := [.int .i64 (at_ (numsL (w.drop 1)) 3), .int .i64 (at_ (numsL (w.drop 1)) 5), .int .i64 (at_ (numsL (w.drop 1)) 6)]) rfl u_47 ts_3 tz_3 rfl rfl rfl ?_)
 intro i52 H53 n54 h55 k56
 have e57 := ne_new h48 n54
 have z58 := Mono.free m51 n54
 have h59 := keep k56 (ne_new h48 n54) h48
 have o60 := Own.keep o49 k56 (Own.notnew o49 n54)
 have no61 := Own.notnew o49 n54
 have o62 := MO.keep o50 k56 (MO.notnew o50 n54)
 have no63 := MO.notnew o50 n54
 have m64 := Mono.new m51 n54 k56
 obtain ⟨v65, e66⟩ : ∃ v : AV, v = .slm i52 0 1 0 3 := ⟨_, rfl⟩
 have o67 : Own B H53 1 v65 3 [.int .i64 (at_ (numsL (w.drop 1)) 3), .int .i64 (at_ (numsL (w.drop 1)) 5), .int .i64 (at_ (numsL (w.drop 1)) 6)] := .inr ⟨_, _, e66, h55, z58, rfl⟩
 have no68 : NotId v65 id := by rw [e66]; exact NotId.slm e57
 have sp69 : Sep v65 vM := by rw [e66]; exact Sep.ofNotId no61
 have sp70 : SepM ((rdL s vL vM vT vS vC vV vF vK).eraseIdx 1) v65 := by rw [e66]; exact SepM.ofNotId no63
 refine AOpsX.consX rfl rfl ?_
 refine AOpX.frz 37 (o67) e66.symm m64 fun H71 m72 k73 => ?_
 have h74 := (k73 _ no68).trans h59
 have o75 := Own.stay o60 (Sep.symm sp69) (fun i hi _ => k73 i hi)
 have o76 := MO.stay o62 sp70 (fun i hi _ => k73 i hi)
 refine AOpX.need (b := inB 0 256 ([at_ (numsL (w.drop 1)) 3, at_ (numsL (w.drop 1)) 5, at_ (numsL (w.drop 1)) 6] : List Int)) (k := 11) (as_ := [.int .i64 0, .int .i64 256, .sl ([at_ (numsL (w.drop 1)) 3, at_ (numsL (w.drop 1)) 5, at_ (numsL (w.drop 1)) 6] : List Int).length (([at_ (numsL (w.drop 1)) 3, at_ (numsL (w.drop 1)) 5, at_ (numsL (w.drop 1)) 6] : List Int).map eI)]) rfl rfl (rfl) tf_36 (c_within _ _ ([at_ (numsL (w.drop 1)) 3, at_ (numsL (w.drop 1)) 5, at_ (numsL (w.drop 1)) 6] : List Int) (by first | omega | assumption | (simp only [List.length_drop, List.length_take]; omega) | (simp; omega) | simp)) ?_ (fun hb _ m2 => Or.inr ⟨_, rfl, _, gT hb1 (gT hb9 (gT hb17 (gT hb31 (gT hb39 (gF hb))))), rfl, m72.trans m2⟩)
 intro hb77 H78 m79
 have h80 := m79 _ _ h74
 have o81 := Own.mono o75 m79
 have o82 := MO.mono o76 m79
 have m83 := m72.trans m79
 refine AOpsX.nil ?_
 change AWP _ _ _ _ _ _
 refine AWP.seq ?_
 refine AWP.regionX (l := [0, 1, 2, 3, 4]) rfl ?_
 refine AOpsX.cons rfl rfl (AOp.move (.sl (numsL (w.drop 1)).length ((numsL (w.drop 1)).map eI)) rfl rfl ?_)
 refine AOpsX.cons rfl rfl (AOp.indexAddrS rfl rfl rfl sl_47 (by omega) (by omega) ?_)
 refine AOpsX.cons rfl rfl (AOp.loadF (.int .i64 (at_ (numsL (w.drop 1)) 4)) rfl rfl ty_3 (ld1 (by omega) (by omega)) ?_)
 refine AOpsX.cons rfl rfl (AOp.buildSlice (cells := [.int .i64 (at_ (numsL (w.drop 1)) 4)]) rfl u_47 ts_3 tz_3 rfl rfl rfl ?_)
 intro i84 H85 n86 h87 k88
 have e89 := ne_new h80 n86
 have z90 := Mono.free m83 n86
 have h91 := keep k88 (ne_new h80 n86) h80
 have o92 := Own.keep o81 k88 (Own.notnew o81 n86)
 have no93 := Own.notnew o81 n86
 have o94 := MO.keep o82 k88 (MO.notnew o82 n86)
 have no95 := MO.notnew o82 n86
 have m96 := Mono.new m83 n86 k88
 obtain ⟨v97, e98⟩ : ∃ v : AV, v = .slm i84 0 1 0 1 := ⟨_, rfl⟩
 have o99 : Own B H85 1 v97 1 [.int .i64 (at_ (numsL (w.drop 1)) 4)] := .inr ⟨_, _, e98, h87, z90, rfl⟩
 have no100 : NotId v97 id := by rw [e98]; exact NotId.slm e89
 have sp101 : Sep v97 vM := by rw [e98]; exact Sep.ofNotId no93
 have sp102 : SepM ((rdL s vL vM vT vS vC vV vF vK).eraseIdx 1) v97 := by rw [e98]; exact SepM.ofNotId no95
 refine AOpsX.consX rfl rfl ?_
 refine AOpX.frz 42 (o99) e98.symm m96 fun H103 m104 k105 => ?_
 have h106 := (k105 _ no100).trans h91
 have o107 := Own.stay o92 (Sep.symm sp101) (fun i hi _ => k105 i hi)
 have o108 := MO.stay o94 sp102 (fun i hi _ => k105 i hi)
 refine AOpX.need (b := inB 1 64 ([at_ (numsL (w.drop 1)) 4] : List Int)) (k := 11) (as_ := [.int .i64 1, .int .i64 64, .sl ([at_ (numsL (w.drop 1)) 4] : List Int).length (([at_ (numsL (w.drop 1)) 4] : List Int).map eI)]) rfl rfl (rfl) tf_36 (c_within _ _ ([at_ (numsL (w.drop 1)) 4] : List Int) (by first | omega | assumption | (simp only [List.length_drop, List.length_take]; omega) | (simp; omega) | simp)) ?_ (fun hb _ m2 => Or.inr ⟨_, rfl, _, gT hb1 (gT hb9 (gT hb17 (gT hb31 (gT hb39 (gT hb77 (gF hb)))))), rfl, m104.trans m2⟩)
 intro hb109 H110 m111
 have h112 := m111 _ _ h106
 have o113 := Own.mono o107 m111
 have o114 := MO.mono o108 m111
 have m115 := m104.trans m111
 refine AOpsX.nil ?_
 change AWP _ _ _ _ _ _
 refine AWP.seq ?_
 have h5_ := nums_rng (w.drop 1) 5 (by omega) (by omega)
 have h6_ := nums_rng (w.drop 1) 6 (by omega) (by omega)
 refine AWP.region_quietX mixed (by kernel_rfl) 7 [7, 8] rfl (by kernel_rfl) (Mono H110) (Mono.refl _) ?_
 refine QE.op rfl rfl (.inl ⟨rfl, fun f' H' hf hM => AOp.move (.sl (numsL (w.drop 1)).length ((numsL (w.drop 1)).map eI)) rfl ((hf 4 rfl).trans rfl) ⟨rfl, hM⟩⟩) ?_
 refine QE.op rfl rfl (.inl ⟨rfl, fun f' H' hf hM => AOp.indexAddrS rfl ((hf 44 rfl).trans rfl) rfl sl_47 (by omega) (by omega) ⟨rfl, hM⟩⟩) ?_
 refine QE.op rfl rfl (.inl ⟨rfl, fun f' H' hf hM => AOp.loadF (.int .i64 (at_ (numsL (w.drop 1)) 5)) rfl ((hf 45 rfl).trans rfl) ty_3 (ld1 (by omega) (by omega)) ⟨rfl, hM⟩⟩) ?_
 refine QE.op rfl rfl (.inl ⟨rfl, fun f' H' hf hM => AOp.move (.sl (numsL (w.drop 1)).length ((numsL (w.drop 1)).map eI)) rfl ((hf 4 rfl).trans rfl) ⟨rfl, hM⟩⟩) ?_
 refine QE.op rfl rfl (.inl ⟨rfl, fun f' H' hf hM => AOp.indexAddrS rfl ((hf 47 rfl).trans rfl) rfl sl_47 (by omega) (by omega) ⟨rfl, hM⟩⟩) ?_
 refine QE.op rfl rfl (.inl ⟨rfl, fun f' H' hf hM => AOp.loadF (.int .i64 (at_ (numsL (w.drop 1)) 6)) rfl ((hf 48 rfl).trans rfl) ty_3 (ld1 (by omega) (by omega)) ⟨rfl, hM⟩⟩) ?_
 refine QE.op rfl rfl (.inl ⟨rfl, fun f' H' hf hM => AOp.bin (.int .i64 (at_ (numsL (w.drop 1)) 5 + (at_ (numsL (w.drop 1)) 6))) rfl ((hf 46 rfl).trans rfl) ((hf 49 rfl).trans rfl) (iadd (by omega)) ⟨rfl, hM⟩⟩) ?_
 refine QE.done fun H116 m117 => ?_
 have h118 := m117 _ _ h112
 have o119 := Own.mono o113 m117
 have o120 := MO.mono o114 m117
 have m121 := m115.trans m117
 refine AOpsX.cons rfl rfl (AOp.buildSlice (cells := [.int .i64 (at_ (numsL (w.drop 1)) 5 + (at_ (numsL (w.drop 1)) 6))]) rfl u_47 ts_3 tz_3 rfl rfl rfl ?_)
 intro i122 H123 n124 h125 k126
 have e127 := ne_new h118 n124
 have z128 := Mono.free m121 n124
 have h129 := keep k126 (ne_new h118 n124) h118
 have o130 := Own.keep o119 k126 (Own.notnew o119 n124)
 have no131 := Own.notnew o119 n124
 have o132 := MO.keep o120 k126 (MO.notnew o120 n124)
 have no133 := MO.notnew o120 n124
 have m134 := Mono.new m121 n124 k126
 obtain ⟨v135, e136⟩ : ∃ v : AV, v = .slm i122 0 1 0 1 := ⟨_, rfl⟩
 have o137 : Own B H123 1 v135 1 [.int .i64 (at_ (numsL (w.drop 1)) 5 + (at_ (numsL (w.drop 1)) 6))] := .inr ⟨_, _, e136, h125, z128, rfl⟩
 have no138 : NotId v135 id := by rw [e136]; exact NotId.slm e127
 have sp139 : Sep v135 vM := by rw [e136]; exact Sep.ofNotId no131
 have sp140 : SepM ((rdL s vL vM vT vS vC vV vF vK).eraseIdx 1) v135 := by rw [e136]; exact SepM.ofNotId no133
 refine AOpsX.consX rfl rfl ?_
 refine AOpX.frz 51 (o137) e136.symm m134 fun H141 m142 k143 => ?_
 have h144 := (k143 _ no138).trans h129
 have o145 := Own.stay o130 (Sep.symm sp139) (fun i hi _ => k143 i hi)
 have o146 := MO.stay o132 sp140 (fun i hi _ => k143 i hi)
 refine AOpX.need (b := inB 0 256 ([at_ (numsL (w.drop 1)) 5 + (at_ (numsL (w.drop 1)) 6)] : List Int)) (k := 11) (as_ := [.int .i64 0, .int .i64 256, .sl ([at_ (numsL (w.drop 1)) 5 + (at_ (numsL (w.drop 1)) 6)] : List Int).length (([at_ (numsL (w.drop 1)) 5 + (at_ (numsL (w.drop 1)) 6)] : List Int).map eI)]) rfl rfl (rfl) tf_36 (c_within _ _ ([at_ (numsL (w.drop 1)) 5 + (at_ (numsL (w.drop 1)) 6)] : List Int) (by first | omega | assumption | (simp only [List.length_drop, List.length_take]; omega) | (simp; omega) | simp)) ?_ (fun hb _ m2 => Or.inr ⟨_, rfl, _, gT hb1 (gT hb9 (gT hb17 (gT hb31 (gT hb39 (gT hb77 (gT hb109 (gF hb))))))), rfl, m142.trans m2⟩)
 intro hb147 H148 m149
 have h150 := m149 _ _ h144
 have o151 := Own.mono o145 m149
 have o152 := MO.mono o146 m149
 have m153 := m142.trans m149
 refine AOpsX.nil ?_
 change AWP _ _ _ _ _ _
 refine AWP.seq ?_
 refine AWP.regionX (l := [0, 1, 2, 3, 4]) rfl ?_
 refine AOpsX.cons rfl rfl (AOp.move (.sl (numsL (w.drop 1)).length ((numsL (w.drop 1)).map eI)) rfl rfl ?_)
 refine AOpsX.cons rfl rfl (AOp.indexAddrS rfl rfl rfl sl_47 (by omega) (by omega) ?_)
 refine AOpsX.cons rfl rfl (AOp.loadF (.int .i64 (at_ (numsL (w.drop 1)) 7)) rfl rfl ty_3 (ld1 (by omega) (by omega)) ?_)
 refine AOpsX.cons rfl rfl (AOp.buildSlice (cells := [.int .i64 (at_ (numsL (w.drop 1)) 7)]) rfl u_47 ts_3 tz_3 rfl rfl rfl ?_)
 intro i154 H155 n156 h157 k158
 have e159 := ne_new h150 n156
 have z160 := Mono.free m153 n156
 have h161 := keep k158 (ne_new h150 n156) h150
 have o162 := Own.keep o151 k158 (Own.notnew o151 n156)
 have no163 := Own.notnew o151 n156
 have o164 := MO.keep o152 k158 (MO.notnew o152 n156)
 have no165 := MO.notnew o152 n156
 have m166 := Mono.new m153 n156 k158
 obtain ⟨v167, e168⟩ : ∃ v : AV, v = .slm i154 0 1 0 1 := ⟨_, rfl⟩
 have o169 : Own B H155 1 v167 1 [.int .i64 (at_ (numsL (w.drop 1)) 7)] := .inr ⟨_, _, e168, h157, z160, rfl⟩
 have no170 : NotId v167 id := by rw [e168]; exact NotId.slm e159
 have sp171 : Sep v167 vM := by rw [e168]; exact Sep.ofNotId no163
 have sp172 : SepM ((rdL s vL vM vT vS vC vV vF vK).eraseIdx 1) v167 := by rw [e168]; exact SepM.ofNotId no165
 refine AOpsX.consX rfl rfl ?_
 refine AOpX.frz 56 (o169) e168.symm m166 fun H173 m174 k175 => ?_
 have h176 := (k175 _ no170).trans h161
 have o177 := Own.stay o162 (Sep.symm sp171) (fun i hi _ => k175 i hi)
 have o178 := MO.stay o164 sp172 (fun i hi _ => k175 i hi)
 refine AOpX.need (b := inB 64 1024 ([at_ (numsL (w.drop 1)) 7] : List Int)) (k := 11) (as_ := [.int .i64 64, .int .i64 1024, .sl ([at_ (numsL (w.drop 1)) 7] : List Int).length (([at_ (numsL (w.drop 1)) 7] : List Int).map eI)]) rfl rfl (rfl) tf_36 (c_within _ _ ([at_ (numsL (w.drop 1)) 7] : List Int) (by first | omega | assumption | (simp only [List.length_drop, List.length_take]; omega) | (simp; omega) | simp)) ?_ (fun hb _ m2 => Or.inr ⟨_, rfl, _, gT hb1 (gT hb9 (gT hb17 (gT hb31 (gT hb39 (gT hb77 (gT hb109 (gT hb147 (gF hb)))))))), rfl, m174.trans m2⟩)
 intro hb179 H180 m181
 have h182 := m181 _ _ h176
 have o183 := Own.mono o177 m181
 have o184 := MO.mono o178 m181
 have m185 := m174.trans m181
 refine AOpsX.nil ?_
 change AWP _ _ _ _ _ _
 refine AWP.region_str mixed (by kernel_rfl) [(0, none), (1, none), (2, none), (3, none), (4, none), (5, none), (6, none), (7, none), (8, none), (9, none), (10, none), (11, none), (12, none), (13, none), (14, none), (15, none), (16, none), (17, none), (18, none), (19, none), (20, none), (21, none), (22, none), (23, none), (24, none), (25, none), (26, none), (27, some [0, 1, 2, 3, 4, 5]), (28, some [0])] [29, 30, 31, 32] (by kernel_rfl) ?_
 refine STR.op rfl rfl (.inl ⟨rfl, fun H1 f' H' hf hN hM => AOp.move (.ptr id ver 0) rfl ((hf 0 rfl).trans rfl) ⟨rfl, hN⟩⟩) ?_
 refine STR.op rfl rfl (.inl ⟨rfl, fun H1 f' H' hf hN hM => AOp.move (.ptr id ver 0) rfl ((hf 0 rfl).trans rfl) ⟨rfl, hN⟩⟩) ?_
 refine STR.op rfl rfl (.inl ⟨rfl, fun H1 f' H' hf hN hM => AOp.nilCheck (.ptr id ver 0) rfl ((hf 59 rfl).trans rfl) rfl ⟨rfl, hN⟩⟩) ?_
 refine STR.op rfl rfl (.inl ⟨rfl, fun H1 f' H' hf hN hM => AOp.fieldAddr rfl ((hf 60 rfl).trans rfl) fl_59_0 ⟨rfl, hN⟩ (hid := ⟨_, (hM _ _ h182)⟩)⟩) ?_
 refine STR.op rfl rfl (.inl ⟨rfl, fun H1 f' H' hf hN hM => AOp.fieldAddr rfl ((hf 61 rfl).trans rfl) fl_35_3 ⟨rfl, hN⟩ (hid := ⟨_, (hM _ _ h182)⟩)⟩) ?_
 refine STR.op rfl rfl (.inl ⟨rfl, fun H1 f' H' hf hN hM => AOp.load (vM) rfl ((hf 62 rfl).trans rfl) ty_30 (hM _ _ h182) rfl ⟨rfl, hN⟩⟩) ?_
 refine STR.op rfl rfl (.inl ⟨rfl, fun H1 f' H' hf hN hM => AOp.move (.sl w.length (w.map eStr)) rfl ((hf 1 rfl).trans rfl) ⟨rfl, hN⟩⟩) ?_
 refine STR.op rfl rfl (.inl ⟨rfl, fun H1 f' H' hf hN hM => AOp.indexAddrS rfl ((hf 64 rfl).trans rfl) rfl sl_52 (by omega) (by omega) ⟨rfl, hN⟩⟩) ?_
 refine STR.op rfl rfl (.inl ⟨rfl, fun H1 f' H' hf hN hM => AOp.loadF (.str (at_ w 0)) rfl ((hf 65 rfl).trans rfl) ty_9 (ld1 (by omega) (by omega)) ⟨rfl, hN⟩⟩) ?_
 refine STR.op rfl rfl (.inl ⟨rfl, fun H1 f' H' hf hN hM => AOp.move (.sl (numsL (w.drop 1)).length ((numsL (w.drop 1)).map eI)) rfl ((hf 4 rfl).trans rfl) ⟨rfl, hN⟩⟩) ?_
 refine STR.op rfl rfl (.inl ⟨rfl, fun H1 f' H' hf hN hM => AOp.pcall («as» := [.sl (numsL (w.drop 1)).length ((numsL (w.drop 1)).map eI)]) rfl rfl (lapp (lcons ((hf 67 rfl).trans rfl) rfl) rfl) tf_38 (c_color (numsL (w.drop 1)) (by first | omega | (simp; omega))) fun H2 m2 => ⟨rfl, hN.trans m2⟩⟩) ?_
 refine STR.op rfl rfl (.inl ⟨rfl, fun H1 f' H' hf hN hM => AOp.move (.sl (numsL (w.drop 1)).length ((numsL (w.drop 1)).map eI)) rfl ((hf 4 rfl).trans rfl) ⟨rfl, hN⟩⟩) ?_
 refine STR.op rfl rfl (.inl ⟨rfl, fun H1 f' H' hf hN hM => AOp.indexAddrS rfl ((hf 69 rfl).trans rfl) rfl sl_47 (by omega) (by omega) ⟨rfl, hN⟩⟩) ?_
 refine STR.op rfl rfl (.inl ⟨rfl, fun H1 f' H' hf hN hM => AOp.loadF (.int .i64 (at_ (numsL (w.drop 1)) 3)) rfl ((hf 70 rfl).trans rfl) ty_3 (ld1 (by omega) (by omega)) ⟨rfl, hN⟩⟩) ?_
 refine STR.op rfl rfl (.inl ⟨rfl, fun H1 f' H' hf hN hM => AOp.move (.sl (numsL (w.drop 1)).length ((numsL (w.drop 1)).map eI)) rfl ((hf 4 rfl).trans rfl) ⟨rfl, hN⟩⟩) ?_
 refine STR.op rfl rfl (.inl ⟨rfl, fun H1 f' H' hf hN hM => AOp.indexAddrS rfl ((hf 72 rfl).trans rfl) rfl sl_47 (by omega) (by omega) ⟨rfl, hN⟩⟩) ?_
 refine STR.op rfl rfl (.inl ⟨rfl, fun H1 f' H' hf hN hM => AOp.loadF (.int .i64 (at_ (numsL (w.drop 1)) 4)) rfl ((hf 73 rfl).trans rfl) ty_3 (ld1 (by omega) (by omega)) ⟨rfl, hN⟩⟩) ?_
 refine STR.op rfl rfl (.inl ⟨rfl, fun H1 f' H' hf hN hM => AOp.move (.sl (numsL (w.drop 1)).length ((numsL (w.drop 1)).map eI)) rfl ((hf 4 rfl).trans rfl) ⟨rfl, hN⟩⟩) ?_
 refine STR.op rfl rfl (.inl ⟨rfl, fun H1 f' H' hf hN hM => AOp.indexAddrS rfl ((hf 75 rfl).trans rfl) rfl sl_47 (by omega) (by omega) ⟨rfl, hN⟩⟩) ?_
 refine STR.op rfl rfl (.inl ⟨rfl, fun H1 f' H' hf hN hM => AOp.loadF (.int .i64 (at_ (numsL (w.drop 1)) 5)) rfl ((hf 76 rfl).trans rfl) ty_3 (ld1 (by omega) (by omega)) ⟨rfl, hN⟩⟩) ?_
 refine STR.op rfl rfl (.inl ⟨rfl, fun H1 f' H' hf hN hM => AOp.move (.sl (numsL (w.drop 1)).length ((numsL (w.drop 1)).map eI)) rfl ((hf 4 rfl).trans rfl) ⟨rfl, hN⟩⟩) ?_
 refine STR.op rfl rfl (.inl ⟨rfl, fun H1 f' H' hf hN hM => AOp.indexAddrS rfl ((hf 78 rfl).trans rfl) rfl sl_47 (by omega) (by omega) ⟨rfl, hN⟩⟩) ?_
 refine STR.op rfl rfl (.inl ⟨rfl, fun H1 f' H' hf hN hM => AOp.loadF (.int .i64 (at_ (numsL (w.drop 1)) 6)) rfl ((hf 79 rfl).trans rfl) ty_3 (ld1 (by omega) (by omega)) ⟨rfl, hN⟩⟩) ?_
 refine STR.op rfl rfl (.inl ⟨rfl, fun H1 f' H' hf hN hM => AOp.move (.sl (numsL (w.drop 1)).length ((numsL (w.drop 1)).map eI)) rfl ((hf 4 rfl).trans rfl) ⟨rfl, hN⟩⟩) ?_
 refine STR.op rfl rfl (.inl ⟨rfl, fun H1 f' H' hf hN hM => AOp.indexAddrS rfl ((hf 81 rfl).trans rfl) rfl sl_47 (by omega) (by omega) ⟨rfl, hN⟩⟩) ?_
 refine STR.op rfl rfl (.inl ⟨rfl, fun H1 f' H' hf hN hM => AOp.loadF (.int .i64 (at_ (numsL (w.drop 1)) 7)) rfl ((hf 82 rfl).trans rfl) ty_3 (ld1 (by omega) (by omega)) ⟨rfl, hN⟩⟩) ?_
 refine STR.op rfl rfl (.inl ⟨rfl, fun H1 f' H' hf hN hM => AOp.build (cells := [.str (at_ w 0), .int .i64 ((colR (numsL (w.drop 1))).R), .int .i64 ((colR (numsL (w.drop 1))).G), .int .i64 ((colR (numsL (w.drop 1))).B), .int .i64 (at_ (numsL (w.drop 1)) 3), .int .i64 (at_ (numsL (w.drop 1)) 4), .int .i64 (at_ (numsL (w.drop 1)) 5), .int .i64 (at_ (numsL (w.drop 1)) 6), .int .i64 (at_ (numsL (w.drop 1)) 7)]) rfl tz_70 pl_70 (lconsP ((hf 66 rfl).trans rfl) (lconsP ((hf 68 rfl).trans rfl) (lconsP ((hf 71 rfl).trans rfl) (lconsP ((hf 74 rfl).trans rfl) (lconsP ((hf 77 rfl).trans rfl) (lconsP ((hf 80 rfl).trans rfl) (lconsP ((hf 83 rfl).trans rfl) rfl))))))) rfl ⟨rfl, hN⟩⟩) ?_
 refine STR.eff rfl rfl rfl fun f186 H187 hf188 m189 => ?_
 have h190 := m189 _ _ h182
 have o191 := Own.mono o183 m189
 have o192 := MO.mono o184 m189
 have m193 := m185.trans m189
 refine AOp.buildSlice (cells := [.str (at_ w 0), .int .i64 ((colR (numsL (w.drop 1))).R), .int .i64 ((colR (numsL (w.drop 1))).G), .int .i64 ((colR (numsL (w.drop 1))).B), .int .i64 (at_ (numsL (w.drop 1)) 3), .int .i64 (at_ (numsL (w.drop 1)) 4), .int .i64 (at_ (numsL (w.drop 1)) 5), .int .i64 (at_ (numsL (w.drop 1)) 6), .int .i64 (at_ (numsL (w.drop 1)) 7)]) rfl u_30 ts_70 tz_70 rfl (lconsP ((hf188 84 rfl).trans rfl) rfl) rfl ?_
 intro i194 H195 n196 h197 k198
 have e199 := ne_new h190 n196
 have z200 := Mono.free m193 n196
 have h201 := keep k198 (ne_new h190 n196) h190
 have o202 := Own.keep o191 k198 (Own.notnew o191 n196)
 have no203 := Own.notnew o191 n196
 have o204 := MO.keep o192 k198 (MO.notnew o192 n196)
 have no205 := MO.notnew o192 n196
 have m206 := Mono.new m193 n196 k198
 refine ⟨_, rfl, .inl (Mono.new (Mono.refl _) n196 k198), ?_⟩
 refine STR.eff rfl rfl rfl fun f207 H208 hf209 m210 => ?_
 have h211 := m210 _ _ h201
 have h212 := m210 _ _ h197
 have o213 := Own.mono o202 m210
 have o214 := MO.mono o204 m210
 have m215 := m206.trans m210
 refine AOp.append_own (es := 9) (m := 1) (len := s.mats.length) (old := s.mats.flatMap eMat) (cells := [.str (at_ w 0), .int .i64 ((colR (numsL (w.drop 1))).R), .int .i64 ((colR (numsL (w.drop 1))).G), .int .i64 ((colR (numsL (w.drop 1))).B), .int .i64 (at_ (numsL (w.drop 1)) 3), .int .i64 (at_ (numsL (w.drop 1)) 4), .int .i64 (at_ (numsL (w.drop 1)) 5), .int .i64 (at_ (numsL (w.drop 1)) 6), .int .i64 (at_ (numsL (w.drop 1)) 7)]) rfl u_30 ts_70 tzn_70 tb_70 (by decide) ni_30 ((hf209 63 rfl).trans rfl) o213 m215 ((hf209 85 rfl).trans rfl) (.slm h212 rfl) (one_of rfl) (by decide) (by first | omega | (simp; omega)) ?_
 intro v216 H217 o218 m219 k220 j221
 have o222 := Own.snocM (xs := (s.mats : List MatT)) (y := (MatT.mk (at_ w 0) (colR (numsL (w.drop 1))) (at_ (numsL (w.drop 1)) 3) (at_ (numsL (w.drop 1)) 4) (at_ (numsL (w.drop 1)) 5) (at_ (numsL (w.drop 1)) 6) (at_ (numsL (w.drop 1)) 7))) (e := eMat) (by simp) o218
 have h223 := (k220 _ nM (by rw [h211]; simp)).trans h211
 have no224 := j221 _ nM (by rw [h211]; simp)
 have sp226 := MO.sep o214 spM j221
 have o225 := MO.stay o214 spM k220
 refine ⟨_, rfl, .inr (RevR.skip rfl (RevR.skip rfl (RevR.skip rfl (RevR.skip rfl (RevR.skip rfl (RevR.skip rfl (RevR.skip rfl (RevR.skip rfl (RevR.skip rfl (RevR.skip rfl (RevR.skip rfl (RevR.skip rfl (RevR.skip rfl (RevR.skip rfl (RevR.skip rfl (RevR.skip rfl (RevR.skip rfl (RevR.skip rfl (RevR.skip rfl (RevR.skip rfl (RevR.skip rfl (RevR.skip rfl (RevR.skip rfl (RevR.skip rfl (RevR.skip rfl (RevR.skip rfl (RevR.skip rfl (RevR.cons rfl (.inl ⟨rfl, fun H1 f' H' hf hN hM => AOp.move (.ptr id ver 0) rfl ((hf 0 rfl).trans rfl) ⟨rfl, hN⟩⟩) RevR.nil)))))))))))))))))))))))))))), ?_⟩
 refine STR.done fun H227 m228 => ?_
 have h229 := m228 _ _ h223
 have o230 := MO.mono o225 m228
 have o231 := Own.mono o222 m228
 have m232 := m219.trans m228
 refine AOps.cons rfl rfl (AOp.nilCheck (.ptr id ver 0) rfl rfl rfl ?_)
 refine AOps.cons rfl rfl (AOp.fieldAddr rfl rfl fl_59_0 ?_ (hid := ⟨_, h229⟩))
 refine AOps.cons rfl rfl (AOp.fieldAddr rfl rfl fl_35_3 ?_ (hid := ⟨_, h229⟩))
 refine AOps.cons rfl rfl (AOp.storeO (cells' := rdC s.cam s.sky vL v216 vT vS vC s.hc s.hs) rfl rfl o231 ts_30 h229 rfl rfl ?_)
 intro H233 h234 k235
 have o237 := MO.keep o230 k235 ngM
 have o238 := Own.keep o231 k235 no224
 have m239 := Mono.set m232 hB k235
 refine AOps.nil ?_
 refine Or.inl ?_
 refine ⟨_, _, Ghost.refl, .inl rfl, _, Res.zero rfl, _, gT hb1 (gT hb9 (gT hb17 (gT hb31 (gT hb39 (gT hb77 (gT hb109 (gT hb147 (gT hb179 rfl)))))))), ⟨_, _, _, _, _, _, _, _, h234, hB, MO.put 1 (by simp [rdL]) o237 o238 sp226, NotIdM.put 1 ngM no224⟩, m239, rfl⟩
theorem c_readTexture {B H0 : Heap} {id ver : Nat} {s : Rd} (hm : Mono B H0) (hs : RD B H0 id ver s) (ok : RdOk s) (w : List ByteArray) (hw : w.length ≤ 1048576) : ACallsX Tryd.prog 23 [.ptr id ver 0, .sl w.length (w.map eStr)] H0 (fun r H' => ∃ t, textureP s w = .ok t ∧ RD B H' id ver t ∧ Mono B H' ∧ r = .tup []) (fun ch H' => ∃ k, textureP s w = .error k ∧ ch = pan 36 k ∧ Mono B H') := by
 obtain ⟨vL, vM, vT, vS, vC, vV, vF, vK, hrow, hB, hg, hn⟩ := hs
 obtain ⟨oT', ogT, spT⟩ := hg.at 2 rfl
 have oT : Own B H0 4 vT s.texs.length (s.texs.flatMap eTex) := oT'
 have nT : NotId vT id := hn.at 2 rfl
 have ngT := hn.erase 2
 refine ACallsX.of_body' (n := 66) rfl rfl rfl rfl ?_
 have m0 := hm
 refine AWP.seq ?_
 refine AWP.regionX (l := [0, 1]) rfl ?_
 refine AOpsX.cons rfl rfl (AOp.move (.sl w.length (w.map eStr)) rfl rfl ?_)
 refine AOpsX.consX rfl rfl (AOpX.need (b := namedB w 1 3) (k := 10) (as_ := [.sl w.length (w.map eStr), .int .i64 1, .int .i64 3]) rfl rfl (rfl) tf_39 (c_named w (by first | omega | assumption | (simp only [List.length_drop, List.length_take]; omega) | (simp; omega) | simp) _ _ (by omega) (by omega)) ?_ (fun hb _ m2 => Or.inr ⟨_, rfl, _, gF hb, rfl, m0.trans m2⟩))
 intro hb1 H2 m3
 have h4 := m3 _ _ hrow
 have o5 := Own.mono oT m3
 have o6 := MO.mono ogT m3
 have m7 := m0.trans m3
 have hl8 := named_len hb1
 refine AOpsX.nil ?_
 change AWP _ _ _ _ _ _
 refine AWP.seq ?_
 refine AWP.regionX (l := [0, 1, 2, 3]) rfl ?_
 refine AOpsX.cons rfl rfl (AOp.move (.sl w.length (w.map eStr)) rfl rfl ?_)
 refine AOpsX.cons rfl rfl (AOp.sliceSD1 (xs := w) (l := 1) (h := (w.length : Int)) rfl rfl  sl_52 (lo_of rfl) rfl (by first | omega | (simp; omega)) (by first | omega | (simp; omega)) (by first | omega | (simp; omega)) rfl ?_)
 refine AOpsX.consX rfl rfl (AOpX.need (b := numsB (w.drop 1)) (k := 10) (as_ := [.sl (w.drop 1).length ((w.drop 1).map eStr)]) rfl rfl (rfl) tf_40 (c_numbers (w.drop 1) (by first | omega | assumption | (simp only [List.length_drop, List.length_take]; omega) | (simp; omega) | simp)) ?_ (fun hb _ m2 => Or.inr ⟨_, rfl, _, gT hb1 (gF hb), rfl, m7.trans m2⟩))
 intro hb9 H10 m11
 have h12 := m11 _ _ h4
 have o13 := Own.mono o5 m11
 have o14 := MO.mono o6 m11
 have m15 := m7.trans m11
 have hl16 := numsL_len (w.drop 1)
 refine AOpsX.cons rfl rfl (AOp.assign (.sl (numsL (w.drop 1)).length ((numsL (w.drop 1)).map eI)) rfl rfl ?_)
 refine AOpsX.nil ?_
 change AWP _ _ _ _ _ _
 refine AWP.seq ?_
 have hld := nums_drop w (by omega)
 have h0_ := nums_rng (w.drop 1) 0 (by omega) (by omega)
 have h1_ := nums_rng (w.drop 1) 1 (by omega) (by omega)
 refine AWP.region_quietX mixed (by kernel_rfl) 11 [11] rfl (by kernel_rfl) (Mono H10) (Mono.refl _) ?_
 refine QE.op rfl rfl (.inl ⟨rfl, fun f' H' hf hM => AOp.move (.sl (numsL (w.drop 1)).length ((numsL (w.drop 1)).map eI)) rfl ((hf 4 rfl).trans rfl) ⟨rfl, hM⟩⟩) ?_
 refine QE.op rfl rfl (.inl ⟨rfl, fun f' H' hf hM => AOp.indexAddrS rfl ((hf 10 rfl).trans rfl) rfl sl_47 (by omega) (by omega) ⟨rfl, hM⟩⟩) ?_
 refine QE.op rfl rfl (.inl ⟨rfl, fun f' H' hf hM => AOp.loadF (.int .i64 (at_ (numsL (w.drop 1)) 0)) rfl ((hf 11 rfl).trans rfl) ty_3 (ld1 (by omega) (by omega)) ⟨rfl, hM⟩⟩) ?_
 refine QE.op rfl rfl (.inl ⟨rfl, fun f' H' hf hM => AOp.move (.sl (numsL (w.drop 1)).length ((numsL (w.drop 1)).map eI)) rfl ((hf 4 rfl).trans rfl) ⟨rfl, hM⟩⟩) ?_
 refine QE.op rfl rfl (.inl ⟨rfl, fun f' H' hf hM => AOp.indexAddrS rfl ((hf 13 rfl).trans rfl) rfl sl_47 (by omega) (by omega) ⟨rfl, hM⟩⟩) ?_
 refine QE.op rfl rfl (.inl ⟨rfl, fun f' H' hf hM => AOp.loadF (.int .i64 (at_ (numsL (w.drop 1)) 1)) rfl ((hf 14 rfl).trans rfl) ty_3 (ld1 (by omega) (by omega)) ⟨rfl, hM⟩⟩) ?_
 refine QE.op rfl rfl (.inl ⟨rfl, fun f' H' hf hM => AOp.bin (.int .i64 ((at_ (numsL (w.drop 1)) 0) * (at_ (numsL (w.drop 1)) 1))) rfl ((hf 12 rfl).trans rfl) ((hf 15 rfl).trans rfl) (imul (by have := mul_rng h0_ h1_; omega)) ⟨rfl, hM⟩⟩) ?_
 refine QE.op rfl rfl (.inl ⟨rfl, fun f' H' hf hM => AOp.move (.sl (numsL (w.drop 1)).length ((numsL (w.drop 1)).map eI)) rfl ((hf 4 rfl).trans rfl) ⟨rfl, hM⟩⟩) ?_
 refine QE.op rfl rfl (.inl ⟨rfl, fun f' H' hf hM => AOp.len (m := (numsL (w.drop 1)).length) rfl ((hf 17 rfl).trans rfl) (.inr (.inl ⟨_, rfl⟩)) u_47 ⟨rfl, hM⟩⟩) ?_
 refine QE.op rfl rfl (.inl ⟨rfl, fun f' H' hf hM => AOp.bin (.int .i64 ((((numsL (w.drop 1)).length) : Int) - 2)) rfl ((hf 18 rfl).trans rfl) rfl (isub (by omega)) ⟨rfl, hM⟩⟩) ?_
 refine QE.op rfl rfl (.inl ⟨rfl, fun f' H' hf hM => AOp.bin (.bool (decide ((at_ (numsL (w.drop 1)) 0) * (at_ (numsL (w.drop 1)) 1) = (((numsL (w.drop 1)).length) : Int) - 2))) rfl ((hf 16 rfl).trans rfl) ((hf 19 rfl).trans rfl) ieq ⟨rfl, hM⟩⟩) ?_
 refine QE.done fun H17 m18 => ?_
 have h19 := m18 _ _ h12
 have o20 := Own.mono o13 m18
 have o21 := MO.mono o14 m18
 have m22 := m15.trans m18
 refine AOpsX.consX rfl rfl (AOpX.need (b := decide ((at_ (numsL (w.drop 1)) 0) * (at_ (numsL (w.drop 1)) 1) = (((numsL (w.drop 1)).length) : Int) - 2)) (k := 10) (as_ := [.bool (decide ((at_ (numsL (w.drop 1)) 0) * (at_ (numsL (w.drop 1)) 1) = (((numsL (w.drop 1)).length) : Int) - 2)), .int .i64 10]) rfl rfl (rfl) tf_35 (c_need _ _) ?_ (fun hb _ m2 => Or.inr ⟨_, rfl, _, gT hb1 (gT hb9 (gF hb)), rfl, m22.trans m2⟩))
 intro hb23 H24 m25
 have h26 := m25 _ _ h19
 have o27 := Own.mono o20 m25
 have o28 := MO.mono o21 m25
 have m29 := m22.trans m25
 have hp30 := of_decide_eq_true hb23
 refine AOpsX.nil ?_
 change AWP _ _ _ _ _ _
 refine AWP.seq ?_
 refine AWP.regionX (l := [0, 1, 2, 3, 4, 5, 6, 7]) rfl ?_
 refine AOpsX.cons rfl rfl (AOp.move (.ptr id ver 0) rfl rfl ?_)
 refine AOpsX.cons rfl rfl (AOp.nilCheck (.ptr id ver 0) rfl rfl rfl ?_)
 refine AOpsX.cons rfl rfl (AOp.fieldAddr rfl rfl fl_59_0 ?_ (hid := ⟨_, h26⟩))
 refine AOpsX.cons rfl rfl (AOp.fieldAddr rfl rfl fl_35_4 ?_ (hid := ⟨_, h26⟩))
 refine AOpsX.cons rfl rfl (AOp.load (vT) rfl rfl ty_31 h26 rfl ?_)
 refine AOpsX.cons rfl rfl (AOp.len_own (m := s.texs.length) rfl rfl o27 u_31 ?_)
 refine AOpsX.cons rfl rfl (AOp.bin (.bool (decide ((s.texs.length : Int) < 4))) rfl rfl rfl rfl ?_)
 refine AOpsX.consX rfl rfl (AOpX.need (b := decide ((s.texs.length : Int) < 4)) (k := 13) (as_ := [.bool (decide ((s.texs.length : Int) < 4)), .int .i64 13]) rfl rfl (rfl) tf_35 (c_need _ _) ?_ (fun hb _ m2 => Or.inr ⟨_, rfl, _, gT hb1 (gT hb9 (gT hb23 (gF hb))), rfl, m29.trans m2⟩))
 intro hb31 H32 m33
 have h34 := m33 _ _ h26
 have o35 := Own.mono o27 m33
 have o36 := MO.mono o28 m33
 have m37 := m29.trans m33
 have hp38 := of_decide_eq_true hb31
 refine AOpsX.nil ?_
 change AWP _ _ _ _ _ _
 refine AWP.seq ?_
 refine AWP.regionX (l := [0, 1, 2, 3, 4, 5, 6]) rfl ?_
 refine AOpsX.cons rfl rfl (AOp.move (.ptr id ver 0) rfl rfl ?_)
 refine AOpsX.cons rfl rfl (AOp.move (.sl w.length (w.map eStr)) rfl rfl ?_)
 refine AOpsX.cons rfl rfl (AOp.indexAddrS rfl rfl rfl sl_52 (by omega) (by omega) ?_)
 refine AOpsX.cons rfl rfl (AOp.loadF (.str (at_ w 0)) rfl rfl ty_9 (ld1 (by omega) (by omega)) ?_)
 refine AOpsX.cons rfl rfl (AOp.pcallH («as» := [.ptr id ver 0, .str (at_ w 0)]) rfl rfl (rfl) tf_41 ((c_xTex (B := B) h34 o35 (by have := ok.t; omega) (at_ w 0))) ?_)
 intro H39 m40
 have h41 := m40 _ _ h34
 have o42 := Own.mono o35 m40
 have o43 := MO.mono o36 m40
 have m44 := m37.trans m40
 refine AOpsX.cons rfl rfl (AOp.bin (.bool (decide (texX s (at_ w 0) < 0))) rfl rfl rfl rfl ?_)
 refine AOpsX.consX rfl rfl (AOpX.need (b := decide (texX s (at_ w 0) < 0)) (k := 12) (as_ := [.bool (decide (texX s (at_ w 0) < 0)), .int .i64 12]) rfl rfl (rfl) tf_35 (c_need _ _) ?_ (fun hb _ m2 => Or.inr ⟨_, rfl, _, gT hb1 (gT hb9 (gT hb23 (gT hb31 (gF hb)))), rfl, m44.trans m2⟩))
 intro hb45 H46 m47
 have h48 := m47 _ _ h41
 have o49 := Own.mono o42 m47
 have o50 := MO.mono o43 m47
 have m51 := m44.trans m47
 have hp52 := of_decide_eq_true hb45
 refine AOpsX.nil ?_
 change AWP _ _ _ _ _ _
 refine AWP.seq ?_
 refine AWP.regionX (l := [0, 1, 2]) rfl ?_
 refine AOpsX.cons rfl rfl (AOp.move (.sl (numsL (w.drop 1)).length ((numsL (w.drop 1)).map eI)) rfl rfl ?_)
 refine AOpsX.cons rfl rfl (AOp.sliceST1 (xs := numsL (w.drop 1)) (l := 0) (h := 2) rfl rfl  sl_47 rfl (hi_of rfl) (by first | omega | (simp; omega)) (by first | omega | (simp; omega)) (by first | omega | (simp; omega)) ?_)
 refine AOpsX.consX rfl rfl (AOpX.need (b := inB 1 16 ((numsL (w.drop 1)).take 2)) (k := 11) (as_ := [.int .i64 1, .int .i64 16, .sl ((numsL (w.drop 1)).take 2).length (((numsL (w.drop 1)).take 2).map eI)]) rfl rfl (rfl) tf_36 (c_within _ _ ((numsL (w.drop 1)).take 2) (by first | omega | assumption | (simp only [List.length_drop, List.length_take]; omega) | (simp; omega) | simp)) ?_ (fun hb _ m2 => Or.inr ⟨_, rfl, _, gT hb1 (gT hb9 (gT hb23 (gT hb31 (gT hb45 (gF hb))))), rfl, m51.trans m2⟩))
 intro hb53 H54 m55
 have h56 := m55 _ _ h48
 have o57 := Own.mono o49 m55
 have o58 := MO.mono o50 m55
 have m59 := m51.trans m55
 refine AOpsX.nil ?_
 change AWP _ _ _ _ _ _
 refine AWP.seq ?_
 refine AWP.regionX (l := [0, 1, 2]) rfl ?_
 refine AOpsX.cons rfl rfl (AOp.move (.sl (numsL (w.drop 1)).length ((numsL (w.drop 1)).map eI)) rfl rfl ?_)
 refine AOpsX.cons rfl rfl (AOp.sliceSD1 (xs := numsL (w.drop 1)) (l := 2) (h := (((numsL (w.drop 1)).length) : Int)) rfl rfl  sl_47 (lo_of rfl) rfl (by first | omega | (simp; omega)) (by first | omega | (simp; omega)) (by first | omega | (simp; omega)) rfl ?_)
 refine AOpsX.consX rfl rfl (AOpX.need (b := inB 0 255 ((numsL (w.drop 1)).drop 2)) (k := 11) (as_ := [.int .i64 0, .int .i64 255, .sl ((numsL (w.drop 1)).drop 2).length (((numsL (w.drop 1)).drop 2).map eI)]) rfl rfl (rfl) tf_36 (c_within _ _ ((numsL (w.drop 1)).drop 2) (by first | omega | assumption | (simp only [List.length_drop, List.length_take]; omega) | (simp; omega) | simp)) ?_ (fun hb _ m2 => Or.inr ⟨_, rfl, _, gT hb1 (gT hb9 (gT hb23 (gT hb31 (gT hb45 (gT hb53 (gF hb)))))), rfl, m59.trans m2⟩))
 intro hb60 H61 m62
 have h63 := m62 _ _ h56
 have o64 := Own.mono o57 m62
 have o65 := MO.mono o58 m62
 have m66 := m59.trans m62
 refine AOpsX.nil ?_
 change AWP _ _ _ _ _ _
 refine AWP.region_str mixed (by kernel_rfl) [(0, none), (1, none), (2, none), (3, none), (4, none), (5, none), (6, none), (7, none), (8, none), (9, none), (10, none), (11, none), (12, none), (13, none), (14, none), (15, none), (16, none), (17, none), (18, some [0, 1, 2, 3, 4, 5]), (19, some [0])] [20, 21, 22, 23] (by kernel_rfl) ?_
 refine STR.op rfl rfl (.inl ⟨rfl, fun H1 f' H' hf hN hM => AOp.move (.ptr id ver 0) rfl ((hf 0 rfl).trans rfl) ⟨rfl, hN⟩⟩) ?_
 refine STR.op rfl rfl (.inl ⟨rfl, fun H1 f' H' hf hN hM => AOp.move (.ptr id ver 0) rfl ((hf 0 rfl).trans rfl) ⟨rfl, hN⟩⟩) ?_
 refine STR.op rfl rfl (.inl ⟨rfl, fun H1 f' H' hf hN hM => AOp.nilCheck (.ptr id ver 0) rfl ((hf 44 rfl).trans rfl) rfl ⟨rfl, hN⟩⟩) ?_
 refine STR.op rfl rfl (.inl ⟨rfl, fun H1 f' H' hf hN hM => AOp.fieldAddr rfl ((hf 45 rfl).trans rfl) fl_59_0 ⟨rfl, hN⟩ (hid := ⟨_, (hM _ _ h63)⟩)⟩) ?_
 refine STR.op rfl rfl (.inl ⟨rfl, fun H1 f' H' hf hN hM => AOp.fieldAddr rfl ((hf 46 rfl).trans rfl) fl_35_4 ⟨rfl, hN⟩ (hid := ⟨_, (hM _ _ h63)⟩)⟩) ?_
 refine STR.op rfl rfl (.inl ⟨rfl, fun H1 f' H' hf hN hM => AOp.load (vT) rfl ((hf 47 rfl).trans rfl) ty_31 (hM _ _ h63) rfl ⟨rfl, hN⟩⟩) ?_
 refine STR.op rfl rfl (.inl ⟨rfl, fun H1 f' H' hf hN hM => AOp.move (.sl w.length (w.map eStr)) rfl ((hf 1 rfl).trans rfl) ⟨rfl, hN⟩⟩) ?_
 refine STR.op rfl rfl (.inl ⟨rfl, fun H1 f' H' hf hN hM => AOp.indexAddrS rfl ((hf 49 rfl).trans rfl) rfl sl_52 (by omega) (by omega) ⟨rfl, hN⟩⟩) ?_
 refine STR.op rfl rfl (.inl ⟨rfl, fun H1 f' H' hf hN hM => AOp.loadF (.str (at_ w 0)) rfl ((hf 50 rfl).trans rfl) ty_9 (ld1 (by omega) (by omega)) ⟨rfl, hN⟩⟩) ?_
 refine STR.op rfl rfl (.inl ⟨rfl, fun H1 f' H' hf hN hM => AOp.move (.sl (numsL (w.drop 1)).length ((numsL (w.drop 1)).map eI)) rfl ((hf 4 rfl).trans rfl) ⟨rfl, hN⟩⟩) ?_
 refine STR.op rfl rfl (.inl ⟨rfl, fun H1 f' H' hf hN hM => AOp.indexAddrS rfl ((hf 52 rfl).trans rfl) rfl sl_47 (by omega) (by omega) ⟨rfl, hN⟩⟩) ?_
 refine STR.op rfl rfl (.inl ⟨rfl, fun H1 f' H' hf hN hM => AOp.loadF (.int .i64 (at_ (numsL (w.drop 1)) 0)) rfl ((hf 53 rfl).trans rfl) ty_3 (ld1 (by omega) (by omega)) ⟨rfl, hN⟩⟩) ?_
 refine STR.op rfl rfl (.inl ⟨rfl, fun H1 f' H' hf hN hM => AOp.move (.sl (numsL (w.drop 1)).length ((numsL (w.drop 1)).map eI)) rfl ((hf 4 rfl).trans rfl) ⟨rfl, hN⟩⟩) ?_
 refine STR.op rfl rfl (.inl ⟨rfl, fun H1 f' H' hf hN hM => AOp.indexAddrS rfl ((hf 55 rfl).trans rfl) rfl sl_47 (by omega) (by omega) ⟨rfl, hN⟩⟩) ?_
 refine STR.op rfl rfl (.inl ⟨rfl, fun H1 f' H' hf hN hM => AOp.loadF (.int .i64 (at_ (numsL (w.drop 1)) 1)) rfl ((hf 56 rfl).trans rfl) ty_3 (ld1 (by omega) (by omega)) ⟨rfl, hN⟩⟩) ?_
 refine STR.op rfl rfl (.inl ⟨rfl, fun H1 f' H' hf hN hM => AOp.move (.sl (numsL (w.drop 1)).length ((numsL (w.drop 1)).map eI)) rfl ((hf 4 rfl).trans rfl) ⟨rfl, hN⟩⟩) ?_
 refine STR.op rfl rfl (.inl ⟨rfl, fun H1 f' H' hf hN hM => AOp.sliceSD1 (xs := numsL (w.drop 1)) (l := 2) (h := (((numsL (w.drop 1)).length) : Int)) rfl ((hf 58 rfl).trans rfl)  sl_47 (lo_of rfl) rfl (by first | omega | (simp; omega)) (by first | omega | (simp; omega)) (by first | omega | (simp; omega)) rfl ⟨rfl, hN⟩⟩) ?_
 refine STR.op rfl rfl (.inl ⟨rfl, fun H1 f' H' hf hN hM => AOp.build (cells := [.str (at_ w 0), .int .i64 (at_ (numsL (w.drop 1)) 0), .int .i64 (at_ (numsL (w.drop 1)) 1), .sl ((numsL (w.drop 1)).drop 2).length (((numsL (w.drop 1)).drop 2).map eI)]) rfl tz_72 pl_72 (lconsP ((hf 51 rfl).trans rfl) (lconsP ((hf 54 rfl).trans rfl) (lconsP ((hf 57 rfl).trans rfl) (lconsP ((hf 59 rfl).trans rfl) rfl)))) rfl ⟨rfl, hN⟩⟩) ?_
 refine STR.eff rfl rfl rfl fun f67 H68 hf69 m70 => ?_
 have h71 := m70 _ _ h63
 have o72 := Own.mono o64 m70
 have o73 := MO.mono o65 m70
 have m74 := m66.trans m70
 refine AOp.buildSlice (cells := [.str (at_ w 0), .int .i64 (at_ (numsL (w.drop 1)) 0), .int .i64 (at_ (numsL (w.drop 1)) 1), .sl ((numsL (w.drop 1)).drop 2).length (((numsL (w.drop 1)).drop 2).map eI)]) rfl u_31 ts_72 tz_72 rfl (lconsP ((hf69 60 rfl).trans rfl) rfl) rfl ?_
 intro i75 H76 n77 h78 k79
 have e80 := ne_new h71 n77
 have z81 := Mono.free m74 n77
 have h82 := keep k79 (ne_new h71 n77) h71
 have o83 := Own.keep o72 k79 (Own.notnew o72 n77)
 have no84 := Own.notnew o72 n77
 have o85 := MO.keep o73 k79 (MO.notnew o73 n77)
 have no86 := MO.notnew o73 n77
 have m87 := Mono.new m74 n77 k79
 refine ⟨_, rfl, .inl (Mono.new (Mono.refl _) n77 k79), ?_⟩
 refine STR.eff rfl rfl rfl fun f88 H89 hf90 m91 => ?_
 have h92 := m91 _ _ h82
 have h93 := m91 _ _ h78
 have o94 := Own.mono o83 m91
 have o95 := MO.mono o85 m91
 have m96 := m87.trans m91
 refine AOp.append_own (es := 4) (m := 1) (len := s.texs.length) (old := s.texs.flatMap eTex) (cells := [.str (at_ w 0), .int .i64 (at_ (numsL (w.drop 1)) 0), .int .i64 (at_ (numsL (w.drop 1)) 1), .sl ((numsL (w.drop 1)).drop 2).length (((numsL (w.drop 1)).drop 2).map eI)]) rfl u_31 ts_72 tzn_72 tb_72 (by decide) ni_31 ((hf90 48 rfl).trans rfl) o94 m96 ((hf90 61 rfl).trans rfl) (.slm h93 rfl) (one_of rfl) (by decide) (by first | omega | (simp; omega)) ?_
 intro v97 H98 o99 m100 k101 j102
 have o103 := Own.snocM (xs := (s.texs : List TexT)) (y := (TexT.mk (at_ w 0) (at_ (numsL (w.drop 1)) 0) (at_ (numsL (w.drop 1)) 1) ((numsL (w.drop 1)).drop 2))) (e := eTex) (by simp) o99
 have h104 := (k101 _ nT (by rw [h92]; simp)).trans h92
 have no105 := j102 _ nT (by rw [h92]; simp)
 have sp107 := MO.sep o95 spT j102
 have o106 := MO.stay o95 spT k101
 refine ⟨_, rfl, .inr (RevR.skip rfl (RevR.skip rfl (RevR.skip rfl (RevR.skip rfl (RevR.skip rfl (RevR.skip rfl (RevR.skip rfl (RevR.skip rfl (RevR.skip rfl (RevR.skip rfl (RevR.skip rfl (RevR.skip rfl (RevR.skip rfl (RevR.skip rfl (RevR.skip rfl (RevR.skip rfl (RevR.skip rfl (RevR.skip rfl (RevR.cons rfl (.inl ⟨rfl, fun H1 f' H' hf hN hM => AOp.move (.ptr id ver 0) rfl ((hf 0 rfl).trans rfl) ⟨rfl, hN⟩⟩) RevR.nil))))))))))))))))))), ?_⟩
 refine STR.done fun H108 m109 => ?_
 have h110 := m109 _ _ h104
 have o111 := MO.mono o106 m109
 have o112 := Own.mono o103 m109
 have m113 := m100.trans m109
 refine AOps.cons rfl rfl (AOp.nilCheck (.ptr id ver 0) rfl rfl rfl ?_)
 refine AOps.cons rfl rfl (AOp.fieldAddr rfl rfl fl_59_0 ?_ (hid := ⟨_, h110⟩))
 refine AOps.cons rfl rfl (AOp.fieldAddr rfl rfl fl_35_4 ?_ (hid := ⟨_, h110⟩))
 refine AOps.cons rfl rfl (AOp.storeO (cells' := rdC s.cam s.sky vL vM v97 vS vC s.hc s.hs) rfl rfl o112 ts_31 h110 rfl rfl ?_)
 intro H114 h115 k116
 have o118 := MO.keep o111 k116 ngT
 have o119 := Own.keep o112 k116 no105
 have m120 := Mono.set m113 hB k116
 refine AOps.nil ?_
 refine Or.inl ?_
 refine ⟨_, _, Ghost.refl, .inl rfl, _, Res.zero rfl, _, gT hb1 (gT hb9 (gT hb23 (gT hb31 (gT hb45 (gT hb53 (gT hb60 rfl)))))), ⟨_, _, _, _, _, _, _, _, h115, hB, MO.put 2 (by simp [rdL]) o118 o119 sp107, NotIdM.put 2 ngT no105⟩, m120, rfl⟩
end Go.Proofs.S
namespace Go.Proofs.S
open Go Go.AH Go.Proofs.L
set_option linter.unusedSectionVars false
variable [LexG]
theorem lastC_mem {cs : List CageT} (h : cs ≠ []) : lastC cs ∈ cs := by
  have e := last_eq h
  exact e ▸ List.mem_append_right _ (List.mem_singleton.2 (by rw [← e]))
theorem lastC_ok {s : Rd} (ok : RdOk s) (h : s.cages ≠ []) : (lastC s.cages).Verts.length ≤ 64 ∧ (lastC s.cages).Faces.length ≤ 64 ∧ (lastC s.cages).Creases.length ≤ 128 := ok.v _ (lastC_mem h)
end Go.Proofs.S
