/- A part of the proof that a law answers true for every input of its row: own work, by an AI agent. -/
import Derived.Test.YtfddnapdeihchaaGreatDoorB00
import Derived.OpenShut
import Derived.Deep.Slices
import Derived.Lib.LaidTab
import Derived.Deep.OwnRows
import Derived.WideKeyArgs
import Derived.Lib.OthersKept
import Derived.Laws.BytesString
import Derived.Lib.ConvBytes
import Derived.Lib.Space
import Derived.Test.YtfddnapdeihchaaGreatDoorProg
import Derived.Shelf.Strconv.Atoi
import Derived.Shelf.LaysC
import Derived.Shelf.Strconv.AtoiErr
import Derived.Shelf.Strings.Cut
import Derived.Ground.GgwProg
import Derived.Shelf.GgClosure.StringsIndexFuncTop
import Derived.Shelf.Strings.Prefix
import Derived.Shelf.Strings.Split
import Derived.Shelf.Strings.Fields
import Derived.Lib.SplitLaws
import Derived.Shelf.GgClosure.StringsIndexFunc
set_option linter.unusedSimpArgs false
set_option linter.unusedVariables false
set_option linter.defProp false
namespace Go.AH
variable [Globs]
set_option linter.unusedSectionVars false
open Go
def SubAt (cells : List AV) (off : Nat) (sub : List AV) : Prop := ∀ (j : Nat) (x : AV), sub[j]? = some x → cells[off + j]? = some x
theorem SubAt.all {A : List AV} : SubAt A 0 A := fun j x h => by rw [Nat.zero_add]; exact h
theorem SubAt.fst {A B S : List AV} {off : Nat} (h : SubAt A off S) : SubAt (A ++ B) off S := fun j x hx => by
  have := h j x hx
  have hl : off + j < A.length := (List.getElem?_eq_some_iff.1 this).1
  rw [List.getElem?_append_left hl]; exact this
theorem SubAt.skip {A B S : List AV} {n off off' : Nat} (hA : A.length = n) (ho : off = n + off') (h : SubAt B off' S) : SubAt (A ++ B) off S := fun j x hx => by
  subst ho hA
  rw [List.getElem?_append_right (by omega), show A.length + off' + j - A.length = off' + j by omega]
  exact h j x hx
section
variable {P : Program} {n : Nat} {f : Nat → AV} {H : Heap} {K : (Nat → AV) → Heap → Prop} {ty : TypeId} {pos : String} {after : Array Edge} {guard : Option (Nat × Bool)} {d : Nat}
end
theorem freeze_ptr {w : World} {μ : Nat → Nat} {H : Heap} (hr : HR w μ H) {id ver off : Nat} {cells : List AV} (hid : H id = some (.row ver cells)) {v : Value} (hv : VR w μ H (.ptr id ver off) v) : VR w μ (updH H id (.dead ver)) (.fptr cells off) v := by
  obtain ⟨he, _, hf⟩ := freeze hr hid
  have hh := hr.holds hid
  cases hv with
  | ptr hk ha =>
    have := ha ⟨cells, hid⟩
    subst this
    have hex : ∀ j, j < cells.length → ∃ y, w.cell? ⟨μ id, 0 + j, none⟩ = some y ∧ ∀ x, cells[j]? = some x → VR w μ H x y := by
      intro j hj
      obtain ⟨y, h1, h2⟩ := hh j _ (List.getElem?_eq_getElem hj)
      refine ⟨y, h1, fun x hx => ?_⟩
      rw [List.getElem?_eq_getElem hj] at hx; cases hx; exact h2
    let ys : Nat → Value := fun j => if h : j < cells.length then Classical.choose (hex j h) else undef
    have e : (⟨μ id, off, none⟩ : Addr) = ⟨μ id, 0 + off, none⟩ := by rw [Nat.zero_add]
    rw [e]
    refine .fptr (ys := ys) hf (fun j x hx => ?_) (fun j x hx => ?_)
    · have hj := (List.getElem?_eq_some_iff.1 hx).1
      simp only [ys, dif_pos hj]; exact (Classical.choose_spec (hex j hj)).1
    · have hj := (List.getElem?_eq_some_iff.1 hx).1
      simp only [ys, dif_pos hj]; exact ((Classical.choose_spec (hex j hj)).2 x hx).ext he
theorem Ghost.freezeP {n t id ver off : Nat} {f : Nat → AV} {H : Heap} {cells : List AV} (hid : H id = some (.row ver cells)) (ht : f t = .ptr id ver off) : Ghost n f H (upd f t (.fptr cells off)) (updH H id (.dead ver)) := by
  intro μ a w hs
  obtain ⟨h1, h2, h3⟩ := AH.freeze hs.hr hid
  refine ⟨⟨h2, hs.size, fun u => ?_, hs.defers⟩, h1⟩
  rw [upd_eq]
  split
  · rename_i hu; subst hu
    exact freeze_ptr hs.hr hid (ht ▸ hs.slots u)
  · exact (hs.slots u).ext h1
section
variable {P : Program} {n : Nat} {f : Nat → AV} {H H0 : Heap} {K : (Nat → AV) → Heap → Prop} {o : Oper} {c : Code} {Q : Exit → (Nat → AV) → Heap → Prop} {F : (Nat → AV) → Heap → Prop} {id ver off : Nat} {cells : List AV}
theorem AOp.frzP (t : Nat) (hid : H id = some (.row ver cells)) (h0 : H0 id = none) (ht : f t = .ptr id ver off) (hm : Mono H0 H) (hK : ∀ H', Mono H0 H' → (∀ i, i ≠ id → H' i = H i) → AOp P n o K (upd f t (.fptr cells off)) H') : AOp P n o K f H :=
  .ghost (Ghost.freezeP hid ht) (hK _ (hm.set h0 fun _ h => updH_ne _ _ h) fun _ h => updH_ne _ _ h)
theorem AWP.frzP (t : Nat) (hid : H id = some (.row ver cells)) (h0 : H0 id = none) (ht : f t = .ptr id ver off) (hm : Mono H0 H) (hK : ∀ H', Mono H0 H' → (∀ i, i ≠ id → H' i = H i) → AWP P n c Q (upd f t (.fptr cells off)) H') : AWP P n c Q f H :=
  .ghost (Ghost.freezeP hid ht) (hK _ (hm.set h0 fun _ h => updH_ne _ _ h) fun _ h => updH_ne _ _ h)
theorem Fin.frzP (t : Nat) (hid : H id = some (.row ver cells)) (h0 : H0 id = none) (ht : f t = .ptr id ver off) (hm : Mono H0 H) (hK : ∀ H', Mono H0 H' → (∀ i, i ≠ id → H' i = H i) → ∃ f2 H2, Ghost n (upd f t (.fptr cells off)) H' f2 H2 ∧ F f2 H2) : ∃ f2 H2, Ghost n f H f2 H2 ∧ F f2 H2 :=
  let ⟨f2, H2, g2, q⟩ := hK _ (hm.set h0 fun _ h => updH_ne _ _ h) fun _ h => updH_ne _ _ h
  ⟨f2, H2, Ghost.trans (Ghost.freezeP hid ht) g2, q⟩
def UN (P : Program) (n : Nat) (b : Code) (Q : Exit → (Nat → AV) → Heap → Prop) : Nat → (Nat → AV) → Heap → Prop
  | 0, _, _ => False
  | N + 1, f, H => AWP P n b (Then (UN P n b Q N) Q) f H
theorem UN.step {b : Code} {N : Nat} (h : AWP P n b (Then (UN P n b Q N) Q) f H) : UN P n b Q (N + 1) f H := h
end
theorem wr_skip {A B C vs : List AV} {n off off' : Nat} (hA : A.length = n) (ho : off = n + off') (hw : writeL B off' vs = C) : writeL (A ++ B) off vs = A ++ C := by
  subst hw ho hA
  unfold writeL
  rw [List.take_append, List.take_of_length_le (by omega), List.drop_append, List.drop_of_length_le (show A.length ≤ A.length + off' + vs.length by omega)]
  simp only [Nat.add_sub_cancel_left, List.nil_append, List.append_assoc]
  congr 3
  congr 1
  omega
theorem wr_all {A vs : List AV} {n : Nat} (hA : A.length = n) (hv : vs.length = n) : writeL A 0 vs = vs := by
  unfold writeL; rw [List.drop_of_length_le (by omega)]; simp
section
variable {P : Program} {n : Nat} {f : Nat → AV} {H : Heap} {K : (Nat → AV) → Heap → Prop} {ty : TypeId} {pos : String} {after : Array Edge} {guard : Option (Nat × Bool)} {d : Nat}
end
end Go.AH
namespace Go.AH
variable [Globs]
set_option linter.unusedSectionVars false
open Go Go.Maps
def flatI (P : Program) : Nat → TypeId → Bool
  | 0, _ => false
  | d + 1, t =>
    match P.underlying t with
    | some (.int .i64) => P.cellsOf t == 1
    | some (.array n e) => flatI P d e && P.cellsOf t == n * P.cellsOf e
    | some (.struct fs) => fs.all (·.name != "_") && fs.toList.all fun f => flatI P d f.type && Nat.ble (f.offset + P.cellsOf f.type) (P.cellsOf t)
    | _ => false
theorem mapM_ex {α β : Type} {f : α → Option β} : ∀ {l : List α}, (∀ x ∈ l, ∃ y, f x = some y) → ∃ ys, l.mapM f = some ys
  | [], _ => ⟨[], rfl⟩
  | x :: l, h => by
    obtain ⟨y, hy⟩ := h x (.head _)
    obtain ⟨ys, hys⟩ := mapM_ex fun z hz => h z (.tail _ hz)
    exact ⟨y :: ys, by rw [List.mapM_cons, hy, hys]; rfl⟩
theorem flat_lits {P : Program} : ∀ (k d : Nat) (t : TypeId), k ≤ d → flatI P k t = true → ∀ xs : List Int, xs.length = P.cellsOf t → (∀ x ∈ xs, inR x) → ∃ ls, P.keyLits d t (xs.map fun x => .int .i64 x) = some ls
  | 0, _, _, _, h, _, _, _ => by cases h
  | k + 1, d, t, hd, h, xs, hl, hx => by
    obtain ⟨d, rfl⟩ : ∃ e, d = e + 1 := ⟨d - 1, by omega⟩
    have cut : ∀ o c, o + c ≤ xs.length → ((xs.map fun x => Value.int .i64 x).drop o).take c = ((xs.drop o).take c).map fun x => Value.int .i64 x := fun o c _ => by rw [← List.map_drop, ← List.map_take]
    have cl : ∀ o c, o + c ≤ xs.length → ((xs.drop o).take c).length = c := fun o c h => by rw [List.length_take, List.length_drop]; omega
    have ci : ∀ o c, ∀ x ∈ (xs.drop o).take c, inR x := fun o c x hxx => hx x (List.mem_of_mem_drop (List.mem_of_mem_take hxx))
    unfold flatI at h
    rw [Program.keyLits.eq_def]
    cases hu : P.underlying t with
    | none => rw [hu] at h; cases h
    | some u =>
      rw [hu] at h
      cases u <;> try (cases h; done)
      · rename_i q
        cases q <;> try (cases h; done)
        simp only at h
        rw [beq_iff_eq] at h
        match xs, hl, hx with
        | [], hl, _ => simp at hl; omega
        | [x], _, hx => exact ⟨[.int .i64 x], by simp [hu, wf_of (hx x (.head _))]⟩
        | _ :: _ :: _, hl, _ => simp at hl; omega
      · rename_i n e
        simp only [Bool.and_eq_true, beq_iff_eq] at h
        obtain ⟨ys, hys⟩ := mapM_ex (f := fun i => P.keyLits d e (((xs.map fun x => Value.int .i64 x).drop (i * P.cellsOf e)).take (P.cellsOf e))) (l := List.range n) fun i hi => by
          rw [List.mem_range] at hi
          have hle : i * P.cellsOf e + P.cellsOf e ≤ xs.length := by
            rw [hl, h.2]
            have := Nat.mul_le_mul_right (P.cellsOf e) (show i + 1 ≤ n from hi)
            rw [Nat.add_mul] at this; omega
          simp only [cut _ _ hle]
          exact flat_lits k d e (by omega) h.1 _ (cl _ _ hle) (ci _ _)
        refine ⟨ys.flatten, ?_⟩
        simp only [hu, List.length_map, hl, if_true]
        rw [hys]; rfl
      · rename_i fs
        simp only [Bool.and_eq_true] at h
        obtain ⟨ys, hys⟩ := mapM_ex (f := fun f : Field => P.keyLits d f.type (((xs.map fun x => Value.int .i64 x).drop f.offset).take (P.cellsOf f.type))) (l := fs.toList) fun f hf => by
          have g := List.all_eq_true.1 h.2 f hf
          simp only [Bool.and_eq_true] at g
          have hle : f.offset + P.cellsOf f.type ≤ xs.length := by rw [hl]; exact Nat.le_of_ble_eq_true g.2
          simp only [cut _ _ hle]
          exact flat_lits k d f.type (by omega) g.1 _ (cl _ _ hle) (ci _ _)
        refine ⟨ys.flatten, ?_⟩
        simp only [hu, List.length_map, hl, h.1, and_self, if_true]
        rw [hys]; rfl
theorem KOK.flat {P : Program} {t : TypeId} {xs : List Int} (k : Nat) (hw : (match P.underlying t with | some (.array _ _) | some (.struct _) => true | _ => false) = true) (hk : P.keyType t = true) (hs : Nat.ble k P.types.size = true) (hf : flatI P k t = true) (hc : P.cellsOf t = xs.length) (h : ∀ x ∈ xs, inR x) : KOK P t (.agg (xs.map fun x => .int .i64 x)) := by
  obtain ⟨ls, hl⟩ := flat_lits k (P.types.size + 1) t (by have := Nat.le_of_ble_eq_true hs; omega) hf xs hc.symm h
  refine ⟨.agg (xs.map fun x => Value.int .i64 x).toArray, .string (keyBytes ls), by simp only [conc, concs, Option.map_some], ?_⟩
  unfold keyOf
  cases hu : P.underlying t with
  | none => rw [hu] at hw; cases hw
  | some u =>
    rw [hu] at hw
    have h1 : Value.formed P t (.agg (xs.map fun x => Value.int .i64 x).toArray) = true := by
      cases u <;> first | (cases hw; done) | simp [Value.formed, hu, hc]
    cases u <;> first | (cases hw; done) | (simp only [h1, hk, Bool.and_self, if_true, Value.cells, hl, Option.map_some])
section
variable {P : Program} {n : Nat} {f : Nat → AV} {H : Heap} {K : (Nat → AV) → Heap → Prop} {ty : TypeId} {pos : String} {after : Array Edge} {guard : Option (Nat × Bool)} {d : Nat}
end
end Go.AH
namespace Go.AH
variable [Globs]
set_option linter.unusedSectionVars false
open Go
section
variable {P : Program} {n : Nat} {Q : Exit → (Nat → AV) → Heap → Prop} {f : Nat → AV} {H : Heap}
theorem AWP.fresh {c : Code} (h : ∀ id, H id = none → AWP P n c Q f H) : AWP P n c Q f H := by
  intro μ a w hs
  obtain ⟨N, hN⟩ := hs.hr.fin
  exact h N (hN N (Nat.le_refl _)) μ a w hs
theorem AWP.reserve {c : Code} {id : Nat} (hid : H id = none) (h : AWP P n c Q f (updH H id .res)) : AWP P n c Q f H := by
  refine AWP.ghost (fun μ a w hs => ?_) h
  have he : Ext w μ H w μ (updH H id .res) := by
    refine ⟨Nat.le_refl _, fun b hb => ⟨rfl, ?_⟩, fun i v hk => ?_, fun i v hk ha => ?_, fun i hm => ?_, fun i hm => ?_, .refl w⟩
    · rintro ⟨i, B, h1, h2, h3⟩
      rw [updH_eq] at h1
      by_cases g : i = id
      · rw [if_pos g] at h1; cases h1; cases h2
      · rw [if_neg g] at h1; exact hb.2 ⟨i, B, h1, h2, h3⟩
    · obtain ⟨B, v', h1, h2⟩ := hk
      exact ⟨B, v', by rw [updH_eq, if_neg (by rintro rfl; rw [hid] at h1; cases h1)]; exact h1, h2⟩
    · obtain ⟨cc, ha⟩ := ha
      rw [updH_eq] at ha
      by_cases g : i = id
      · rw [if_pos g] at ha; cases ha
      · rw [if_neg g] at ha; exact ⟨⟨cc, ha⟩, rfl, rfl⟩
    · obtain ⟨es, hm⟩ := hm
      exact ⟨⟨es, by rw [updH_eq, if_neg (by rintro rfl; rw [hid] at hm; cases hm)]; exact hm⟩, rfl⟩
    · obtain ⟨it, hm⟩ := hm
      exact ⟨⟨it, by rw [updH_eq, if_neg (by rintro rfl; rw [hid] at hm; cases hm)]; exact hm⟩, rfl⟩
  exact ⟨hs.stay he (hs.hr.change he (fun i => updH_eq _ _ _ _) (fun _ _ => rfl) (fun h => by cases h) (fun _ _ _ _ _ => rfl) (fun _ _ h => by cases h) (fun _ h => by cases h) (fun _ _ _ h => by cases h) (fun _ h => by cases h)), he⟩
def QOpA (P : Program) (n : Nat) (ops : Array Oper) (o : Oper) (d : Nat) (v : AV) (H : Heap) (f : Nat → AV) : Prop :=
  (o.guard = none ∧ ∀ H1 f' H', (∀ t, (tmpsOf o).elem t = true → f' t = f t) → Mono H1 H' → Mono H H' → AOp P n o (fun f2 H2 => f2 = upd f' d v ∧ Mono H1 H2) f' H') ∨
  (∃ j want oj dj b, o.guard = some (j, want) ∧ ops[j]? = some oj ∧ oj.dst = some dj ∧ f dj = gAV b ∧
    (b = some want → ∀ H1 f' H', (∀ t, (tmpsOf o).elem t = true → f' t = f t) → Mono H1 H' → Mono H H' → AOp P n o (fun f2 H2 => f2 = upd f' d v ∧ Mono H1 H2) f' H') ∧
    (b ≠ some want → v = .tup [] ∧ Nat.ble (d + 1) n = true))
theorem QOpA.yes {ops : Array Oper} {o oj : Oper} {d j dj : Nat} {v : AV} {b want : Bool} (hg : o.guard = some (j, want)) (hj : ops[j]? = some oj) (hd : oj.dst = some dj) (hf : f dj = .bool b) (hb : b = want)
    (h : ∀ H1 f' H', (∀ t, (tmpsOf o).elem t = true → f' t = f t) → Mono H1 H' → Mono H H' → AOp P n o (fun f2 H2 => f2 = upd f' d v ∧ Mono H1 H2) f' H') : QOpA P n ops o d v H f :=
  .inr ⟨j, want, oj, dj, some b, hg, hj, hd, hf, fun _ => h, fun e => absurd (congrArg some hb) e⟩
theorem QOpA.no {ops : Array Oper} {o oj : Oper} {d j dj : Nat} {b want : Bool} (hg : o.guard = some (j, want)) (hj : ops[j]? = some oj) (hd : oj.dst = some dj) (hf : f dj = .bool b) (hb : b ≠ want) (hn : Nat.ble (d + 1) n = true) : QOpA P n ops o d (.tup []) H f :=
  .inr ⟨j, want, oj, dj, some b, hg, hj, hd, hf, fun e => absurd (Option.some.inj e) hb, fun _ => ⟨rfl, hn⟩⟩
theorem QOpA.un {ops : Array Oper} {o oj : Oper} {d j dj : Nat} {want : Bool} (hg : o.guard = some (j, want)) (hj : ops[j]? = some oj) (hd : oj.dst = some dj) (hf : f dj = .tup []) (hn : Nat.ble (d + 1) n = true) : QOpA P n ops o d (.tup []) H f :=
  .inr ⟨j, want, oj, dj, none, hg, hj, hd, hf, fun e => (by cases e), fun _ => ⟨rfl, hn⟩⟩
inductive QPA (P : Program) (n : Nat) (ops : Array Oper) (a id : Nat) (B : AB) (va : AV) (H : Heap) (T : (Nat → AV) → Prop) (k : Nat) : Nat → (Nat → AV) → List (Nat × AV) → Prop
  | done {f : Nat → AV} (h : T f) : QPA P n ops a id B va H T k k f []
  | op {i d : Nat} {f : Nat → AV} {v : AV} {L : List (Nat × AV)} {o : Oper} (hi : i ≠ a) (ho : ops[i]? = some o) (hd : o.dst = some d) (h : QOpA P n ops o d v H f) (rest : QPA P n ops a id B va H T k (i + 1) (upd f d v) L) : QPA P n ops a id B va H T k i f ((d, v) :: L)
  | new {d : Nat} {f : Nat → AV} {L : List (Nat × AV)} {o : Oper} (ho : ops[a]? = some o) (hd : o.dst = some d) (hg : o.guard = none) (hn : Nat.ble (d + 1) n = true) (hop : ∀ f' H', (∀ t, (tmpsOf o).elem t = true → f' t = f t) → H' id = some .res → AOp P n o (fun f2 H2 => f2 = upd f' d va ∧ H2 = updH H' id B) f' H') (rest : QPA P n ops a id B va H T k (a + 1) (upd f d va) L) : QPA P n ops a id B va H T k a f ((d, va) :: L)
theorem QPA.len {ops : Array Oper} {a id : Nat} {B : AB} {va : AV} {T : (Nat → AV) → Prop} {k b : Nat} {L : List (Nat × AV)} (h : QPA P n ops a id B va H T k b f L) : b + L.length = k := by
  induction h with
  | done h => rfl
  | op hi ho hd h rest ih => simp only [List.length_cons]; omega
  | new ho hd hg hn hop rest ih => simp only [List.length_cons]; omega
def QEA (P : Program) (n : Nat) (ops : Array Oper) (a id : Nat) (B : AB) (va : AV) (H : Heap) (T : (Nat → AV) → Prop) (k i : Nat) (f : Nat → AV) : Prop := ∃ L, QPA P n ops a id B va H T k i f L
theorem QEA.done {ops : Array Oper} {a id : Nat} {B : AB} {va : AV} {T : (Nat → AV) → Prop} {k : Nat} (h : T f) : QEA P n ops a id B va H T k k f := ⟨_, .done h⟩
theorem QEA.op {ops : Array Oper} {a id : Nat} {B : AB} {va : AV} {T : (Nat → AV) → Prop} {k i d : Nat} {v : AV} {o : Oper} (hi : Nat.beq i a = false) (ho : ops[i]? = some o) (hd : o.dst = some d) (h : QOpA P n ops o d v H f) (rest : QEA P n ops a id B va H T k (i + 1) (upd f d v)) : QEA P n ops a id B va H T k i f :=
  let ⟨_, r⟩ := rest; ⟨_, .op (by rintro rfl; simp at hi) ho hd h r⟩
theorem QEA.alloc {ops : Array Oper} {a id : Nat} {Z : List AV} {T : (Nat → AV) → Prop} {k d : Nat} {o : Oper} {t : TypeId} (ho : ops[a]? = some o) (hd : o.dst = some d) (hg : o.guard = none) (hop : o.op = .alloc t) (hn : Nat.ble (d + 1) n = true) (hz : TZero P t Z) (rest : QEA P n ops a id (.row 0 Z) (.ptr id 0 0) H T k (a + 1) (upd f d (.ptr id 0 0))) : QEA P n ops a id (.row 0 Z) (.ptr id 0 0) H T k a f :=
  let ⟨_, r⟩ := rest; ⟨_, .new ho hd hg hn (fun f' H' _ hr => by
      obtain ⟨dst, op, ty, pos, after, guard⟩ := o
      simp only at hd hop
      subst hd hop
      exact AOp.alloc_at id (.inr hr) hn hz ⟨rfl, rfl⟩) r⟩
theorem QEA.new {ops : Array Oper} {a id : Nat} {B : AB} {va : AV} {T : (Nat → AV) → Prop} {k d : Nat} {o : Oper} (ho : ops[a]? = some o) (hd : o.dst = some d) (hg : o.guard = none) (hn : Nat.ble (d + 1) n = true) (hop : ∀ f' H', (∀ t, (tmpsOf o).elem t = true → f' t = f t) → H' id = some .res → AOp P n o (fun f2 H2 => f2 = upd f' d va ∧ H2 = updH H' id B) f' H') (rest : QEA P n ops a id B va H T k (a + 1) (upd f d va)) : QEA P n ops a id B va H T k a f :=
  let ⟨_, r⟩ := rest; ⟨_, .new ho hd hg hn hop r⟩
def EntA (P : Program) (n : Nat) (ops : Array Oper) (a id : Nat) (B : AB) (va : AV) (H : Heap) (i : Nat) (o : Oper) (d : Nat) (v : AV) (f : Nat → AV) : Prop :=
  (i ≠ a ∧ QOpA P n ops o d v H f) ∨ (i = a ∧ (∀ f' H', (∀ t, (tmpsOf o).elem t = true → f' t = f t) → H' id = some .res → AOp P n o (fun f2 H2 => f2 = upd f' d va ∧ H2 = updH H' id B) f' H') ∧ o.guard = none ∧ v = va ∧ Nat.ble (d + 1) n = true)
theorem QPA.get {ops : Array Oper} {a id : Nat} {B : AB} {va : AV} {T : (Nat → AV) → Prop} {k b : Nat} {L : List (Nat × AV)} (h : QPA P n ops a id B va H T k b f L) : T (cur L b (fun _ => true) f) ∧
    ∀ m d v, L[m]? = some (d, v) → ∃ o, ops[b + m]? = some o ∧ o.dst = some d ∧ EntA P n ops a id B va H (b + m) o d v (cur (L.take m) b (fun _ => true) f) := by
  induction h with
  | done h => exact ⟨h, fun m d v hm => by simp at hm⟩
  | op hi ho hd h rest ih =>
    rename_i i d0 f v0 L o
    refine ⟨by rw [cur, if_pos rfl]; exact ih.1, fun m d v hm => ?_⟩
    cases m with
    | zero =>
      simp only [List.getElem?_cons_zero, Option.some.injEq, Prod.mk.injEq] at hm
      obtain ⟨rfl, rfl⟩ := hm
      exact ⟨o, ho, hd, .inl ⟨hi, h⟩⟩
    | succ m =>
      obtain ⟨o', h1, h2, h3⟩ := ih.2 m d v (by simpa using hm)
      rw [show i + 1 + m = i + (m + 1) by omega] at h1 h3
      refine ⟨o', h1, h2, ?_⟩
      rw [List.take_succ_cons, cur, if_pos rfl]; exact h3
  | new ho hd hg hn hop rest ih =>
    rename_i d0 f L o
    refine ⟨by rw [cur, if_pos rfl]; exact ih.1, fun m d v hm => ?_⟩
    cases m with
    | zero =>
      simp only [List.getElem?_cons_zero, Option.some.injEq, Prod.mk.injEq] at hm
      obtain ⟨rfl, rfl⟩ := hm
      exact ⟨o, ho, hd, .inr ⟨rfl, hop, hg, rfl, hn⟩⟩
    | succ m =>
      obtain ⟨o', h1, h2, h3⟩ := ih.2 m d v (by simpa using hm)
      rw [show a + 1 + m = a + (m + 1) by omega] at h1 h3
      refine ⟨o', h1, h2, ?_⟩
      rw [List.take_succ_cons, cur, if_pos rfl]; exact h3
theorem AWP.region_quietA {rid : Nat} {ops : Array Oper} (hm : P.follows .mixedOrders = true) (hback : backB ops = true) (a k : Nat) (tail : List Nat) (htl : (List.range ops.size).drop k = tail) (hq : quietB ops k = true) {B : AB} {va : Nat → AV} (hak : a < k)
    (h : ∀ id, H id = none → (∀ H', Mono (updH H id .res) H' → Mono H H') → (∀ H', Mono (updH H id B) H' → Mono H H') → QEA P n ops a id B (va id) H (fun f => ∀ H', Mono (updH H id B) H' → AOps P n ops (Q .normal) tail f H') k 0 f) : AWP P n (.region rid ops true) Q f H := by
  refine AWP.fresh fun id hid => ?_
  have hr1 : ∀ B H', Mono (updH H id B) H' → Mono H H' := fun B H' m j C hj => m j C (by rw [updH_eq, if_neg (by rintro rfl; rw [hid] at hj; cases hj)]; exact hj)
  obtain ⟨L, h⟩ := h id hid (hr1 _) (hr1 _)
  refine AWP.reserve hid ?_
  let HS : (Nat → Bool) → Heap := fun S => if S a = true then updH H id B else updH H id .res
  have hMS : ∀ S H', Mono (HS S) H' → Mono H H' := fun S H' m => by
    by_cases c : S a = true
    · simp only [HS, c, if_true] at m; exact hr1 _ _ m
    · simp only [HS, c] at m; exact hr1 _ _ m
  have hL : L.length = k := by have := h.len; omega
  obtain ⟨hT, hops⟩ := h.get
  simp only [quietB, Bool.and_eq_true] at hq
  obtain ⟨⟨hk, hq1⟩, hq2⟩ := hq
  have hk := Nat.le_of_ble_eq_true hk
  rw [List.all_eq_true] at hq1 hq2
  subst htl
  -- what holds at each set: the frame is the sequential one; once the head is through, the tail's own condition
  let I : (Nat → Bool) → (Nat → AV) → Heap → Prop := fun S f' H' => Dn ops S ∧
    ((∀ i, k ≤ i → i < ops.size → S i = false) ∧ (∀ t, f' t = cur L 0 S f t) ∧ Mono (HS S) H' ∨
     ∃ i, k < i ∧ i ≤ ops.size ∧ (∀ j, j < i → S j = true) ∧ (∀ j, i ≤ j → j < ops.size → S j = false) ∧ AOps P n ops (Q .normal) ((List.range ops.size).drop i) f' H')
  have beqf : ∀ x y : Nat, x ≠ y → Nat.beq x y = false := fun x y h => by
    cases hb : Nat.beq x y with
    | false => rfl
    | true => exact absurd (Nat.eq_of_beq_eq_true hb) h
  have hdn : ∀ (S : Nat → Bool) i o, Dn ops S → ops[i]? = some o → (∀ e ∈ o.after, Region.binds .any e = true → S e.on = true) → Dn ops (fun k => Nat.beq k i || S k) := by
    intro S i o hD ho hr j oj hj hS e he hb
    by_cases hji : j = i
    · subst hji
      rw [ho] at hj; cases hj
      simp [hr e he hb]
    · have hS : (Nat.beq j i || S j) = true := hS
      rw [beqf _ _ hji, Bool.false_or] at hS
      simp [hD j oj hj hS e he hb]
  have bef : ∀ (S : Nat → Bool), Dn ops S → ∀ i m j, (befL ops.toList [])[i]? = some m → m.testBit j = true → S i = true → S j = true := fun S hD => bef_spec hD ops.toList [] (fun j => by simp) (fun i m j hi => by simp at hi)
  have befD : ∀ (S : Nat → Bool), Dn ops S → ∀ i j, ((befL ops.toList []).getD i 0).testBit j = true → S i = true → S j = true := by
    intro S hD i j hb hS
    rcases Nat.lt_or_ge i (befL ops.toList []).length with h | h
    · rw [List.getD_eq_getElem?_getD, List.getElem?_eq_getElem h, Option.getD_some] at hb
      exact bef S hD i _ j (List.getElem?_eq_getElem h) hb hS
    · rw [List.getD_eq_getElem?_getD, List.getElem?_eq_none h, Option.getD_none] at hb
      simp at hb
  refine AWP.region_any hm hback I ⟨fun _ _ _ h => (by cases h), .inl ⟨fun _ _ _ => rfl, fun t => (cur_other L 0 f fun _ _ _ _ => rfl).symm, Mono.refl _⟩⟩ ?_ ?_
  · -- a step
    intro S i o ho hSi hr f' H' ⟨hD, hcase⟩
    have hi : i < ops.size := by
      rcases Nat.lt_or_ge i ops.size with h' | h'
      · exact h'
      · rw [Array.getElem?_eq_none h'] at ho; cases ho
    have hD' := hdn S i o hD ho hr
    have hSi' : (fun k => Nat.beq k i || S k) i = true := by simp
    -- the tail's operations, from a state at which all before i are through
    have tailstep : k ≤ i → (∀ j, j < i → S j = true) → (∀ j, i ≤ j → j < ops.size → S j = false) → AOps P n ops (Q .normal) ((List.range ops.size).drop i) f' H' →
        (o.guard = none ∧ AOp P n o (I (fun k => Nat.beq k i || S k)) f' H') ∨
        (∃ j want oj d b, o.guard = some (j, want) ∧ ops[j]? = some oj ∧ oj.dst = some d ∧ f' d = gAV b ∧ (b = some want → AOp P n o (I (fun k => Nat.beq k i || S k)) f' H') ∧ (b ≠ some want → ∃ d', o.dst = some d' ∧ Nat.ble (d' + 1) n = true ∧ I (fun k => Nat.beq k i || S k) (upd f' d' (.tup [])) H')) := by
      intro hki hbef hlow hA
      have hdrop : (List.range ops.size).drop i = i :: (List.range ops.size).drop (i + 1) := by
        rw [List.drop_eq_getElem_cons (by simpa using hi)]; simp
      rw [hdrop] at hA
      obtain ⟨o', ho', hA⟩ := hA
      rw [ho] at ho'; cases ho'
      have hI : ∀ f2 H2, AOps P n ops (Q .normal) ((List.range ops.size).drop (i + 1)) f2 H2 → I (fun k => Nat.beq k i || S k) f2 H2 := fun f2 H2 h =>
        ⟨hD', .inr ⟨i + 1, by omega, by omega, fun j hj => by
          by_cases hji : j = i
          · subst hji; simp
          · simp [hbef j (by omega)], fun j hj1 hj2 => by show (Nat.beq j i || S j) = false; rw [beqf _ _ (by omega), Bool.false_or]; exact hlow j (by omega) hj2, h⟩⟩
      have mono : AOp P n o (AOps P n ops (Q .normal) ((List.range ops.size).drop (i + 1))) f' H' → AOp P n o (I (fun k => Nat.beq k i || S k)) f' H' := fun h μ a w hs E =>
        Oper.wp_mono (fun a' w' ⟨μ', f2, H2, g1, g2, g3⟩ => ⟨μ', f2, H2, g1, g2, hI _ _ g3⟩) (fun _ _ _ _ h => h) (h μ a w hs E)
      rcases hA with ⟨hg, hA⟩ | ⟨j, want, oj, d, b, hg, hj, hd, hfb, h1, h2⟩
      · exact .inl ⟨hg, mono hA⟩
      · refine .inr ⟨j, want, oj, d, b, hg, hj, hd, hfb, fun e => mono (h1 e), fun e => ?_⟩
        obtain ⟨d', hd', hn', h3⟩ := h2 e
        exact ⟨d', hd', hn', hI _ _ h3⟩
    rcases hcase with ⟨hlow, hf, hM'⟩ | ⟨i0, h1, h2, h3, h4, h5⟩
    · by_cases hik : i < k
      · -- in the head
        have hLi : i < L.length := by omega
        obtain ⟨o', ho', hd, hop⟩ := hops i L[i].1 L[i].2 (List.getElem?_eq_getElem hLi)
        rw [Nat.zero_add, ho] at ho'
        cases ho'
        have hq := hq1 i (List.mem_range.2 hik)
        rw [ho] at hq
        simp only [hd, Bool.true_and, List.all_eq_true, List.mem_range] at hq
        -- who writes a slot that i looks at, or writes
        have hw : ∀ t, t ∈ tmpsOf o ++ guardSlot ops o ++ [L[i].1] → ∀ j p, L[j]? = some p → p.1 = t → j ≠ i → (j < i → S j = true) ∧ (i < j → S j = false) := by
          intro t ht j p hj hp hne
          have hjk : j < k := by
            have := (List.getElem?_eq_some_iff.1 hj).1; omega
          have h1 := hq t (by simpa using ht) j hjk
          obtain ⟨oj, hoj, hdj, _⟩ := hops j p.1 p.2 hj
          rw [Nat.zero_add] at hoj
          have hds : (ops.toList.map (·.dst))[j]? = some (some p.1) := by simp [hoj, hdj]
          rw [hds] at h1
          simp only [beqf _ _ (Ne.symm hne), Bool.false_or, hp] at h1
          have htt : Nat.beq t t = true := by simp
          rw [htt] at h1
          simp only [Bool.not_true, Bool.false_or] at h1
          refine ⟨fun hlt => ?_, fun hlt => ?_⟩
          · rw [if_pos hlt] at h1
            have := befD _ hD' i j h1 hSi'
            have this : (Nat.beq j i || S j) = true := this
            rw [beqf _ _ hne, Bool.false_or] at this
            exact this
          · rw [if_neg (by omega)] at h1
            cases hSj : S j with
            | false => rfl
            | true =>
              have := befD S hD j i h1 hSj
              rw [hSi] at this; cases this
        have hval : ∀ t, t ∈ tmpsOf o ++ guardSlot ops o ++ [L[i].1] → f' t = cur (L.take i) 0 (fun _ => true) f t := by
          intro t ht
          rw [hf t]
          refine cur_take L 0 f i (fun j p hj hp hlt => ?_) (fun j p hj hp hge => ?_)
          · rw [Nat.zero_add]; exact (hw t ht j p hj hp (by omega)).1 hlt
          · rw [Nat.zero_add]
            by_cases hji : j = i
            · rw [hji]; exact hSi
            · exact (hw t ht j p hj hp hji).2 (by omega)
        have hnew : ∀ f2, f2 = upd f' L[i].1 L[i].2 → ∀ t, f2 t = cur L 0 (fun k => Nat.beq k i || S k) f t := by
          intro f2 h2 t
          rw [h2, cur_set L 0 f L[i].1 L[i].2 i (by omega) (List.getElem?_eq_getElem hLi) hSi (fun j p hj hp hlt => by
            rw [Nat.zero_add]; exact (hw L[i].1 (by simp) j p hj hp (by omega)).2 hlt) t, upd_eq, upd_eq, hf t]
        have hI : ∀ f2 H2, f2 = upd f' L[i].1 L[i].2 ∧ Mono (HS (fun k => Nat.beq k i || S k)) H2 → I (fun k => Nat.beq k i || S k) f2 H2 := fun f2 H2 ⟨e, m⟩ =>
          ⟨hD', .inl ⟨fun j hj hj2 => by show (Nat.beq j i || S j) = false; rw [beqf _ _ (by omega), Bool.false_or]; exact hlow j hj hj2, hnew f2 e, m⟩⟩
        have mono : ∀ {K K' : (Nat → AV) → Heap → Prop}, (∀ f H, K f H → K' f H) → AOp P n o K f' H' → AOp P n o K' f' H' := fun hk h μ a w hs E =>
          Oper.wp_mono (fun a' w' ⟨μ', f2, H2, g1, g2, g3⟩ => ⟨μ', f2, H2, g1, g2, hk _ _ g3⟩) (fun _ _ _ _ h => h) (h μ a w hs E)
        rw [Nat.zero_add] at hop
        rcases hop with ⟨hia, hop⟩ | ⟨rfl, hov, hg, hval1, hnb⟩
        · have hSame : HS (fun k => Nat.beq k i || S k) = HS S := by simp only [HS, beqf _ _ (Ne.symm hia), Bool.false_or]
          rw [hSame] at hI
          have hMH := hMS S H' hM'
          have step : ∀ {v : AV}, (∀ f2 H2, f2 = upd f' L[i].1 v ∧ Mono H' H2 → f2 = upd f' L[i].1 v ∧ Mono (HS S) H2) := fun f2 H2 ⟨e, m⟩ => ⟨e, hM'.trans m⟩
          rcases hop with ⟨hg, hop⟩ | ⟨j, want, oj, dj, b, hg, hj, hdj, hfb, hyes, hno⟩
          · exact .inl ⟨hg, mono (fun f2 H2 h => hI f2 H2 (step f2 H2 h)) (hop H' f' H' (fun t ht => hval t (by have := List.elem_iff.1 ht; simp [this])) (Mono.refl _) hMH)⟩
          · refine .inr ⟨j, want, oj, dj, b, hg, hj, hdj, ?_, fun hb => mono (fun f2 H2 h => hI f2 H2 (step f2 H2 h)) (hyes hb H' f' H' (fun t ht => hval t (by have := List.elem_iff.1 ht; simp [this])) (Mono.refl _) hMH), fun hb => ?_⟩
            · rw [hval dj (by simp [guardSlot, hg, hj, hdj])]; exact hfb
            · obtain ⟨hv, hn⟩ := hno hb
              exact ⟨L[i].1, hd, hn, hI _ _ ⟨by rw [hv], hM'⟩⟩
        · refine .inl ⟨hg, ?_⟩
          have hres : H' id = some .res := hM' id .res (by simp only [HS, hSi]; rw [if_neg (by simp), updH_same])
          have := hov f' H' (fun t ht => hval t (by have := List.elem_iff.1 ht; simp [this])) hres
          refine mono (fun f2 H2 h => hI f2 H2 ?_) this
          obtain ⟨e, e2⟩ := h
          refine ⟨by rw [e, hval1], ?_⟩
          have hb : (fun k => Nat.beq k i || S k) i = true := hSi'
          intro j C hj
          simp only [HS, hb, if_true] at hj
          rw [e2]
          rw [updH_eq] at hj ⊢
          by_cases c : j = id
          · rw [if_pos c] at hj ⊢; exact hj
          · rw [if_neg c] at hj ⊢
            exact hMS S H' hM' j C hj
      · -- the tail begins
        have hki : k ≤ i := by omega
        have hbef : ∀ j, j < i → S j = true := by
          intro j hj
          have h1 := hq2 i (List.mem_range.2 hi)
          simp only [Bool.or_eq_true, decide_eq_true_eq, List.all_eq_true, List.mem_range] at h1
          rcases h1 with h1 | h1
          · omega
          · have : (Nat.beq j i || S j) = true := befD _ hD' i j (h1 j hj) hSi'
            rw [beqf _ _ (by omega), Bool.false_or] at this
            exact this
        have hik' : i = k := by
          rcases Nat.lt_or_ge k i with h | h
          · have := hbef k h; rw [hlow k (Nat.le_refl _) (by omega)] at this; cases this
          · omega
        subst hik'
        refine tailstep (Nat.le_refl _) hbef hlow ?_
        have hfall : f' = cur L 0 (fun _ => true) f := by
          funext t
          rw [hf t]
          exact cur_congr L 0 f f rfl fun j p hj _ => by
            have := (List.getElem?_eq_some_iff.1 hj).1
            rw [Nat.zero_add]; exact hbef j (by omega)
        rw [hfall]
        have hSa : S a = true := hbef a hak
        simp only [HS, hSa, if_true] at hM'
        exact hT H' hM'
    · have hii : i = i0 := by
        have hge : i0 ≤ i := by
          rcases Nat.lt_or_ge i i0 with h | h
          · rw [h3 i h] at hSi; cases hSi
          · exact h
        rcases Nat.lt_or_ge i0 i with h | h
        · have h1' := hq2 i (List.mem_range.2 hi)
          simp only [Bool.or_eq_true, decide_eq_true_eq, List.all_eq_true, List.mem_range] at h1'
          rcases h1' with h1' | h1'
          · omega
          · have : (Nat.beq i0 i || S i0) = true := befD _ hD' i i0 (h1' i0 h) hSi'
            rw [beqf _ _ (by omega), Bool.false_or, h4 i0 (Nat.le_refl _) (by omega)] at this
            cases this
        · omega
      subst hii
      exact tailstep (by omega) h3 h4 h5
  · -- the end
    intro S f' H' hall ⟨hD, hcase⟩
    rcases hcase with ⟨hlow, hf, hM'⟩ | ⟨i0, h1, h2, h3, h4, h5⟩
    · have hkn : k = ops.size := by
        rcases Nat.lt_or_ge k ops.size with h | h
        · have := hlow k (Nat.le_refl _) h; rw [hall k h] at this; cases this
        · omega
      have hfall : f' = cur L 0 (fun _ => true) f := by
        funext t
        rw [hf t]
        exact cur_congr L 0 f f rfl fun j p hj _ => by
          have := (List.getElem?_eq_some_iff.1 hj).1
          rw [Nat.zero_add]; exact hall j (by omega)
      have hSa : S a = true := hall a (by omega)
      simp only [HS, hSa, if_true] at hM'
      have h5 := hT H' hM'
      rw [← hfall, hkn, List.drop_of_length_le (by simp)] at h5
      exact h5
    · have hi0 : i0 = ops.size := by
        rcases Nat.lt_or_ge i0 ops.size with h | h
        · have := h4 i0 (Nat.le_refl _) h; rw [hall i0 h] at this; cases this
        · omega
      rw [hi0, List.drop_of_length_le (by simp)] at h5
      exact h5
end
end Go.AH
namespace Go.AH
variable [Globs]
set_option linter.unusedSectionVars false
open Go
end Go.AH
namespace Go.AH
variable [Globs]
set_option linter.unusedSectionVars false
open Go
abbrev Ent := Nat × Option Nat × AV
def updO (f : Nat → AV) : Option Nat → AV → Nat → AV
  | none, _ => f
  | some d, v => upd f d v
def ov (S : Nat → Bool) : List Ent → (Nat → AV) → Nat → AV
  | [], f => f
  | e :: L, f => ov S L (if S e.1 = true then updO f e.2.1 e.2.2 else f)
theorem ov_app {S : Nat → Bool} : ∀ (L M : List Ent) (f : Nat → AV), ov S (L ++ M) f = ov S M (ov S L f)
  | [], _, _ => rfl
  | e :: L, M, f => by rw [List.cons_append, ov, ov_app L M, ov]
theorem ov_slot {S S' : Nat → Bool} {t : Nat} : ∀ (L : List Ent) (f f' : Nat → AV), f t = f' t → (∀ e ∈ L, e.2.1 = some t → S e.1 = S' e.1) → ov S L f t = ov S' L f' t
  | [], _, _, h, _ => h
  | e :: L, f, f', h, hs => by
    rw [ov, ov]
    refine ov_slot L _ _ ?_ fun x hx => hs x (.tail _ hx)
    by_cases ht : e.2.1 = some t
    · rw [hs e (.head _) ht]
      by_cases hS : S' e.1 = true
      · rw [if_pos hS, if_pos hS, ht]; simp [updO, upd_eq]
      · rw [if_neg hS, if_neg hS]; exact h
    · have a : ∀ g : Nat → AV, updO g e.2.1 e.2.2 t = g t := fun g => by
        cases hd : e.2.1 with
        | none => rfl
        | some d => simp only [updO]; rw [upd_eq, if_neg (fun h => ht (by rw [hd, h]))]
      have b : ∀ (c : Prop) [Decidable c] (g : Nat → AV), (if c then updO g e.2.1 e.2.2 else g) t = g t := fun c _ g => by by_cases hc : c <;> simp [hc, a]
      rw [b, b]; exact h
theorem ov_none {S : Nat → Bool} : ∀ (L : List Ent) (f : Nat → AV), (∀ e ∈ L, S e.1 = false) → ov S L f = f
  | [], _, _ => rfl
  | e :: L, f, h => by rw [ov, if_neg (by rw [h e (.head _)]; decide)]; exact ov_none L f fun x hx => h x (.tail _ hx)
theorem ov_congr {S S' : Nat → Bool} (L : List Ent) (f : Nat → AV) (h : ∀ e ∈ L, S e.1 = S' e.1) : ov S L f = ov S' L f := funext fun _ => ov_slot L f f rfl fun e he _ => h e he
def prs {α : Type} (p : α → α → Bool) : List α → Bool
  | [] => true
  | a :: l => l.all (p a) && prs p l
theorem prs_spec {α : Type} {p : α → α → Bool} : ∀ {A : List α} {a : α} {B : List α}, prs p (A ++ a :: B) = true → (∀ b ∈ B, p a b = true) ∧ ∀ c ∈ A, p c a = true
  | [], a, B, h => by
    rw [List.nil_append, prs, Bool.and_eq_true, List.all_eq_true] at h
    exact ⟨h.1, fun _ h => by cases h⟩
  | x :: A, a, B, h => by
    rw [List.cons_append, prs, Bool.and_eq_true, List.all_eq_true] at h
    obtain ⟨h1, h2⟩ := prs_spec h.2
    refine ⟨h1, fun c hc => ?_⟩
    rcases List.mem_cons.1 hc with rfl | hc
    · exact h.1 a (by simp)
    · exact h2 c hc
abbrev Item := Nat × Option (List Nat)
def bfB (ops : Array Oper) (i j : Nat) : Bool := ((befL ops.toList []).getD i 0).testBit j
def dstOf (ops : Array Oper) (i : Nat) : Option Nat := (ops[i]?).bind (·.dst)
def touch (ops : Array Oper) (i : Nat) : List Nat := match ops[i]? with | some o => tmpsOf o ++ guardSlot ops o ++ o.dst.toList | none => []
def pairB (ops : Array Oper) (x y : Item) : Bool :=
  !Nat.beq x.1 y.1 &&
  ((touch ops x.1).all fun t => (match dstOf ops y.1 with | some d => !Nat.beq d t | none => true) || bfB ops y.1 x.1) &&
  ((touch ops y.1).all fun t => (match dstOf ops x.1 with | some d => !Nat.beq d t | none => true) || bfB ops y.1 x.1) &&
  (match x.2 with | some _ => bfB ops y.1 x.1 | none => true) &&
  (match y.2 with | some R => bfB ops y.1 x.1 || R.elem x.1 | none => true)
def stgB (ops : Array Oper) (ord : List Item) (tail : List Nat) : Bool :=
  ((List.range ops.size).all fun i => (ord.map (·.1)).elem i || tail.elem i) &&
  (ord.all fun x => Nat.blt x.1 ops.size) && (tail.all fun c => Nat.blt c ops.size) &&
  prs (pairB ops) ord && prs (fun c c' => !Nat.beq c c' && bfB ops c' c) tail &&
  (tail.all fun c => ord.all fun x => !Nat.beq c x.1 && bfB ops c x.1)
section
variable {P : Program} {n : Nat} {Q : Exit → (Nat → AV) → Heap → Prop} {f : Nat → AV} {H : Heap}
theorem QOpA.mono {ops : Array Oper} {o : Oper} {d : Nat} {v : AV} {H2 : Heap} (hm : Mono H H2) (h : QOpA P n ops o d v H f) : QOpA P n ops o d v H2 f := by
  rcases h with ⟨hg, h⟩ | ⟨j, want, oj, dj, b, h1, h2, h3, h4, h5, h6⟩
  · exact .inl ⟨hg, fun H1 f' H' a b c => h H1 f' H' a b (hm.trans c)⟩
  · exact .inr ⟨j, want, oj, dj, b, h1, h2, h3, h4, fun e H1 f' H' a b c => h5 e H1 f' H' a b (hm.trans c), h6⟩
def Reval (P : Program) (n : Nat) (ops : Array Oper) (R : List Nat) (H2 : Heap) : List Ent → (Nat → AV) → Prop
  | [], _ => True
  | e :: L, g => (R.elem e.1 = true → ∃ o d, ops[e.1]? = some o ∧ e.2.1 = some d ∧ QOpA P n ops o d e.2.2 H2 g) ∧ Reval P n ops R H2 L (updO g e.2.1 e.2.2)
theorem Reval.nil {ops : Array Oper} {R : List Nat} {H2 : Heap} {g : Nat → AV} : Reval P n ops R H2 [] g := trivial
theorem Reval.cons {ops : Array Oper} {R : List Nat} {H2 : Heap} {e : Ent} {L : List Ent} {g : Nat → AV} (h : R.elem e.1 = true → ∃ o d, ops[e.1]? = some o ∧ e.2.1 = some d ∧ QOpA P n ops o d e.2.2 H2 g) (r : Reval P n ops R H2 L (updO g e.2.1 e.2.2)) : Reval P n ops R H2 (e :: L) g := ⟨h, r⟩
theorem Reval.none {ops : Array Oper} {H2 : Heap} : ∀ {L : List Ent} {g : Nat → AV}, Reval P n ops [] H2 L g
  | [], _ => trivial
  | _ :: _, _ => ⟨fun h => by simp at h, Reval.none⟩
abbrev top : Nat → Bool := fun _ => true
theorem ov_top_cons {e : Ent} {L : List Ent} {g : Nat → AV} : ov top (e :: L) g = ov top L (updO g e.2.1 e.2.2) := by rw [ov, if_pos rfl]
theorem Reval.spec {ops : Array Oper} {R : List Nat} {H2 : Heap} : ∀ {L : List Ent} {g : Nat → AV}, Reval P n ops R H2 L g → ∀ A e B, L = A ++ e :: B → R.elem e.1 = true → ∃ o d, ops[e.1]? = some o ∧ e.2.1 = some d ∧ QOpA P n ops o d e.2.2 H2 (ov top A g)
  | [], _, _, A, e, B, h, _ => by simp at h
  | x :: L, g, h, A, e, B, hL, hR => by
    cases A with
    | nil => rw [List.nil_append, List.cons.injEq] at hL; obtain ⟨rfl, rfl⟩ := hL; exact h.1 hR
    | cons a A =>
      rw [List.cons_append, List.cons.injEq] at hL
      obtain ⟨rfl, hL⟩ := hL
      rw [ov_top_cons]; exact Reval.spec h.2 A e B hL hR
def STQ (P : Program) (n : Nat) (ops : Array Oper) (f0 : Nat → AV) (T : (Nat → AV) → Heap → Prop) : List Item → List Ent → Heap → (Nat → AV) → Prop
  | [], _, Hs, g => ∀ H', Mono Hs H' → T g H'
  | (i, none) :: r, L, Hs, g => ∃ o d v, ops[i]? = some o ∧ o.dst = some d ∧ QOpA P n ops o d v Hs g ∧ STQ P n ops f0 T r (L ++ [(i, some d, v)]) Hs (upd g d v)
  | (e, some R) :: r, L, Hs, g => ∃ o, ops[e]? = some o ∧ o.guard = none ∧ ∀ f' H', (∀ t, (tmpsOf o).elem t = true → f' t = g t) → Mono Hs H' →
      AOp P n o (fun f2 H2 => ∃ v, f2 = updO f' o.dst v ∧ (Mono H' H2 ∨ Reval P n ops R H2 L f0) ∧ STQ P n ops f0 T r (L ++ [(e, o.dst, v)]) H2 (updO g o.dst v)) f' H'
theorem STQ.op {ops : Array Oper} {f0 g : Nat → AV} {T : (Nat → AV) → Heap → Prop} {r : List Item} {L : List Ent} {i d : Nat} {v : AV} {o : Oper} (ho : ops[i]? = some o) (hd : o.dst = some d) (h : QOpA P n ops o d v H g) (rest : STQ P n ops f0 T r (L ++ [(i, some d, v)]) H (upd g d v)) : STQ P n ops f0 T ((i, none) :: r) L H g := ⟨o, d, v, ho, hd, h, rest⟩
theorem STQ.eff {ops : Array Oper} {f0 g : Nat → AV} {T : (Nat → AV) → Heap → Prop} {r : List Item} {R : List Nat} {L : List Ent} {e d : Nat} {o : Oper} (ho : ops[e]? = some o) (hd : o.dst = some d) (hg : o.guard = none)
    (h : ∀ f' H', (∀ t, (tmpsOf o).elem t = true → f' t = g t) → Mono H H' → AOp P n o (fun f2 H2 => ∃ v, f2 = upd f' d v ∧ (Mono H' H2 ∨ Reval P n ops R H2 L f0) ∧ STQ P n ops f0 T r (L ++ [(e, some d, v)]) H2 (upd g d v)) f' H') : STQ P n ops f0 T ((e, some R) :: r) L H g := ⟨o, ho, hg, by rw [hd]; exact h⟩
theorem STQ.st {ops : Array Oper} {f0 g : Nat → AV} {T : (Nat → AV) → Heap → Prop} {r : List Item} {R : List Nat} {L : List Ent} {e : Nat} {o : Oper} (ho : ops[e]? = some o) (hd : o.dst = none) (hg : o.guard = none)
    (h : ∀ f' H', (∀ t, (tmpsOf o).elem t = true → f' t = g t) → Mono H H' → AOp P n o (fun f2 H2 => f2 = f' ∧ (Mono H' H2 ∨ Reval P n ops R H2 L f0) ∧ STQ P n ops f0 T r (L ++ [(e, none, .undef)]) H2 g) f' H') : STQ P n ops f0 T ((e, some R) :: r) L H g := ⟨o, ho, hg, fun f' H' a b μ c w hs E => by
      rw [hd]
      exact Oper.wp_mono (fun a' w' ⟨μ', f2, H2, g1, g2, g3⟩ => ⟨μ', f2, H2, g1, g2, .undef, g3⟩) (fun _ _ _ _ h => h) (h f' H' a b μ c w hs E)⟩
theorem STQ.done {ops : Array Oper} {f0 g : Nat → AV} {T : (Nat → AV) → Heap → Prop} {L : List Ent} (h : ∀ H', Mono H H' → T g H') : STQ P n ops f0 T [] L H g := h
def Vld (P : Program) (n : Nat) (ops : Array Oper) (L : List Ent) (Hs : Heap) (S : Nat → Bool) (f : Nat → AV) : Prop :=
  ∀ A e B, L = A ++ e :: B → S e.1 = false → ∃ o d, ops[e.1]? = some o ∧ o.dst = some d ∧ e.2.1 = some d ∧ QOpA P n ops o d e.2.2 Hs (ov top A f)
def Dst (ops : Array Oper) (L : List Ent) : Prop := ∀ e ∈ L, dstOf ops e.1 = e.2.1
theorem STQ.norm {ops : Array Oper} {T : (Nat → AV) → Heap → Prop} {Hs : Heap} {S : Nat → Bool} : ∀ {r : List Item} {L : List Ent}, Vld P n ops L Hs S f → Dst ops L → STQ P n ops f T r L Hs (ov top L f) →
    ∃ p q M, r = p ++ q ∧ (∀ x ∈ p, x.2 = none) ∧ (∀ x ∈ q.head?, x.2 ≠ none) ∧ M.map (·.1) = p.map (·.1) ∧ Vld P n ops (L ++ M) Hs S f ∧ Dst ops (L ++ M) ∧ STQ P n ops f T q (L ++ M) Hs (ov top (L ++ M) f)
  | [], L, hv, hd, h => ⟨[], [], [], rfl, fun _ h => (by cases h), fun _ h => (by cases h), rfl, by rwa [List.append_nil], by rwa [List.append_nil], by rwa [List.append_nil]⟩
  | (e, some R) :: r, L, hv, hd, h => ⟨[], (e, some R) :: r, [], rfl, fun _ h => (by cases h), fun x hx => by simp at hx; subst hx; simp, rfl, by rwa [List.append_nil], by rwa [List.append_nil], by rwa [List.append_nil]⟩
  | (i, none) :: r, L, hv, hd, h => by
    obtain ⟨o, d, v, h1, h2, h3, h4⟩ := h
    have hv' : Vld P n ops (L ++ [(i, some d, v)]) Hs S f := by
      intro A e B hL hS
      rcases List.append_eq_append_iff.1 hL with ⟨C, g1, g2⟩ | ⟨C, g1, g2⟩
      · cases C with
        | nil =>
          simp only [List.nil_append, List.cons.injEq] at g2
          obtain ⟨rfl, _⟩ := g2
          rw [List.append_nil] at g1; subst g1
          exact ⟨o, d, h1, h2, rfl, h3⟩
        | cons c C => simp at g2
      · cases C with
        | nil =>
          simp only [List.nil_append, List.cons.injEq] at g2
          obtain ⟨rfl, _⟩ := g2
          rw [List.append_nil] at g1; subst g1
          exact ⟨o, d, h1, h2, rfl, h3⟩
        | cons c C =>
          simp only [List.cons_append, List.cons.injEq] at g2
          obtain ⟨rfl, g2⟩ := g2
          exact hv A e C g1 hS
    have hd' : Dst ops (L ++ [(i, some d, v)]) := by
      intro e he
      rcases List.mem_append.1 he with he | he
      · exact hd e he
      · simp at he; subst he; simp [dstOf, h1, h2]
    have h4' : STQ P n ops f T r (L ++ [(i, some d, v)]) Hs (ov top (L ++ [(i, some d, v)]) f) := by
      rw [ov_app]; exact h4
    obtain ⟨p, q, M, g1, g2, g3, g4, g5, g6, g7⟩ := STQ.norm hv' hd' h4'
    refine ⟨(i, none) :: p, q, (i, some d, v) :: M, by rw [g1]; rfl, fun x hx => ?_, g3, by simp [g4], ?_, ?_, ?_⟩
    · rcases List.mem_cons.1 hx with rfl | hx
      · rfl
      · exact g2 x hx
    · simpa using g5
    · simpa using g6
    · simpa using g7
theorem mem_split {α : Type} {a : α} {l : List α} (h : a ∈ l) : ∃ A B, l = A ++ a :: B := List.append_of_mem h
theorem AWP.region_stg {rid : Nat} {ops : Array Oper} (hm : P.follows .mixedOrders = true) (hback : backB ops = true) (ord : List Item) (tail : List Nat) (hq : stgB ops ord tail = true)
    (h : STQ P n ops f (fun g H' => AOps P n ops (Q .normal) tail g H') ord [] H f) : AWP P n (.region rid ops true) Q f H := by
  simp only [stgB, Bool.and_eq_true, List.all_eq_true, List.mem_range] at hq
  obtain ⟨⟨⟨⟨⟨q1, q2⟩, q3⟩, q4⟩, q5⟩, q6⟩ := hq
  have beqf : ∀ x y : Nat, x ≠ y → Nat.beq x y = false := fun x y h => by
    cases hb : Nat.beq x y with
    | false => rfl
    | true => exact absurd (Nat.eq_of_beq_eq_true hb) h
  let I : (Nat → Bool) → (Nat → AV) → Heap → Prop := fun S f' H' => Dn ops S ∧
    ((∃ pre rest L Hs, ord = pre ++ rest ∧ (∀ x ∈ rest.head?, x.2 ≠ none) ∧ L.map (·.1) = pre.map (·.1) ∧ (∀ x ∈ rest, S x.1 = false) ∧ (∀ c ∈ tail, S c = false) ∧ Vld P n ops L Hs S f ∧ Dst ops L ∧ (∀ t, f' t = ov S L f t) ∧ Mono Hs H' ∧ STQ P n ops f (fun g H' => AOps P n ops (Q .normal) tail g H') rest L Hs (ov top L f)) ∨
     (∃ A B, tail = A ++ B ∧ (∀ x ∈ ord, S x.1 = true) ∧ (∀ c ∈ A, S c = true) ∧ (∀ c ∈ B, S c = false) ∧ AOps P n ops (Q .normal) B f' H'))
  have hdn : ∀ (S : Nat → Bool) i o, Dn ops S → ops[i]? = some o → (∀ e ∈ o.after, Region.binds .any e = true → S e.on = true) → Dn ops (fun k => Nat.beq k i || S k) := by
    intro S i o hD ho hr j oj hj hS e he hb
    by_cases hji : j = i
    · subst hji
      rw [ho] at hj; cases hj
      simp [hr e he hb]
    · have hS : (Nat.beq j i || S j) = true := hS
      rw [beqf _ _ hji, Bool.false_or] at hS
      simp [hD j oj hj hS e he hb]
  have befD : ∀ (S : Nat → Bool), Dn ops S → ∀ i j, bfB ops i j = true → S i = true → S j = true := by
    intro S hD i j hb hS
    unfold bfB at hb
    rcases Nat.lt_or_ge i (befL ops.toList []).length with h | h
    · rw [List.getD_eq_getElem?_getD, List.getElem?_eq_getElem h, Option.getD_some] at hb
      exact bef_spec hD ops.toList [] (fun j => by simp) (fun i m j hi => by simp at hi) i _ j (List.getElem?_eq_getElem h) hb hS
    · rw [List.getD_eq_getElem?_getD, List.getElem?_eq_none h, Option.getD_none] at hb
      simp at hb
  -- into the first phase
  have enter : ∀ S f' H' pre r L Hs, Dn ops S → ord = pre ++ r → L.map (·.1) = pre.map (·.1) → (∀ x ∈ r, S x.1 = false) → (∀ c ∈ tail, S c = false) → Vld P n ops L Hs S f → Dst ops L → (∀ t, f' t = ov S L f t) → Mono Hs H' → STQ P n ops f (fun g H' => AOps P n ops (Q .normal) tail g H') r L Hs (ov top L f) → I S f' H' := by
    intro S f' H' pre r L Hs hD e1 e2 e3 e4 e5 e6 e7 e8 e9
    obtain ⟨p, q, M, g1, g2, g3, g4, g5, g6, g7⟩ := STQ.norm e5 e6 e9
    subst g1
    refine ⟨hD, .inl ⟨pre ++ p, q, L ++ M, Hs, by rw [e1, List.append_assoc], g3, by rw [List.map_append, List.map_append, e2, g4], fun x hx => e3 x (by simp [hx]), e4, g5, g6, fun t => ?_, e8, g7⟩⟩
    rw [e7 t, ov_app, ov_none M]
    intro e he
    have : e.1 ∈ M.map (·.1) := List.mem_map_of_mem he
    rw [g4] at this
    obtain ⟨x, hx, h⟩ := List.mem_map.1 this
    rw [← h]; exact e3 x (by simp [hx])
  refine AWP.region_any hm hback I (enter _ _ _ [] ord [] H (fun _ _ _ h => (by cases h)) rfl rfl (fun _ _ => rfl) (fun _ _ => rfl) (fun A e B h => by simp at h) (fun _ h => by cases h) (fun _ => rfl) (Mono.refl _) h) ?_ ?_
  · -- a step
    intro S i o ho hSi hr f' H' ⟨hD, hcase⟩
    have hi : i < ops.size := by
      rcases Nat.lt_or_ge i ops.size with h' | h'
      · exact h'
      · rw [Array.getElem?_eq_none h'] at ho; cases ho
    have hD' := hdn S i o hD ho hr
    have hSi' : (fun k => Nat.beq k i || S k) i = true := by simp
    have hbef : ∀ j, j ≠ i → bfB ops i j = true → S j = true := fun j hj hb => by
      have : (Nat.beq j i || S j) = true := befD _ hD' i j hb hSi'
      rwa [beqf _ _ hj, Bool.false_or] at this
    have hoth : ∀ x, x ≠ i → (fun k => Nat.beq k i || S k) x = S x := fun x hx => by show (Nat.beq x i || S x) = S x; rw [beqf _ _ hx, Bool.false_or]
    have mono : ∀ {K K' : (Nat → AV) → Heap → Prop}, (∀ f H, K f H → K' f H) → AOp P n o K f' H' → AOp P n o K' f' H' := fun hk h μ a w hs E =>
      Oper.wp_mono (fun a' w' ⟨μ', f2, H2, g1, g2, g3⟩ => ⟨μ', f2, H2, g1, g2, hk _ _ g3⟩) (fun _ _ _ _ h => h) (h μ a w hs E)
    -- the first of what is left of the tail
    have tailstep : ∀ A B, tail = A ++ i :: B → (∀ x ∈ ord, S x.1 = true) → (∀ c ∈ A, S c = true) → (∀ c ∈ B, S c = false) → (∀ c ∈ B, c ≠ i) → AOps P n ops (Q .normal) (i :: B) f' H' →
        (o.guard = none ∧ AOp P n o (I (fun k => Nat.beq k i || S k)) f' H') ∨
        (∃ j want oj d b, o.guard = some (j, want) ∧ ops[j]? = some oj ∧ oj.dst = some d ∧ f' d = gAV b ∧ (b = some want → AOp P n o (I (fun k => Nat.beq k i || S k)) f' H') ∧ (b ≠ some want → ∃ d', o.dst = some d' ∧ Nat.ble (d' + 1) n = true ∧ I (fun k => Nat.beq k i || S k) (upd f' d' (.tup [])) H')) := by
      intro A B hT hO hA hB hne hAO
      obtain ⟨o', ho', hAO⟩ := hAO
      rw [ho] at ho'; cases ho'
      have hI : ∀ f2 H2, AOps P n ops (Q .normal) B f2 H2 → I (fun k => Nat.beq k i || S k) f2 H2 := fun f2 H2 h =>
        ⟨hD', .inr ⟨A ++ [i], B, by rw [hT]; simp, fun x hx => by simp [hO x hx], fun c hc => by
          rcases List.mem_append.1 hc with hc | hc
          · simp [hA c hc]
          · simp at hc; simp [hc], fun c hc => by exact (hoth c (hne c hc)).trans (hB c hc), h⟩⟩
      rcases hAO with ⟨hg, hAO⟩ | ⟨j, want, oj, d, b, hg, hj, hd, hfb, h1, h2⟩
      · exact .inl ⟨hg, mono hI hAO⟩
      · refine .inr ⟨j, want, oj, d, b, hg, hj, hd, hfb, fun e => mono hI (h1 e), fun e => ?_⟩
        obtain ⟨d', hd', hn', h3⟩ := h2 e
        exact ⟨d', hd', hn', hI _ _ h3⟩
    have nb : ∀ {x y : Nat}, (!Nat.beq x y) = true → x ≠ y := fun h e => by subst e; simp at h
    rcases hcase with ⟨pre, rest, L, Hs, e1, e2, e3, e4, e5, e6, e7, e8, e9, e10⟩ | ⟨A, B, t1, t2, t3, t4, t5⟩
    · have hLord : ∀ e ∈ L, ∃ x ∈ pre, x.1 = e.1 := fun e he => by
        have : e.1 ∈ L.map (·.1) := List.mem_map_of_mem he
        rw [e3] at this
        exact List.mem_map.1 this
      by_cases hLi : ∃ e ∈ L, e.1 = i
      · -- an operation that is known
        obtain ⟨⟨i', dd, v⟩, hmem, rfl⟩ := hLi
        obtain ⟨A, B, hL⟩ := mem_split hmem
        obtain ⟨o', d, ho', hd, hdd, hop⟩ := e6 A (i', dd, v) B hL hSi
        simp only at hdd
        subst hdd
        simp only at ho hSi hr hi hD' hSi' hbef hoth tailstep ho' hd hop ⊢
        rw [ho] at ho'; cases ho'
        -- the items of the order
        obtain ⟨PA, x, PB, hp, hPA, hx, hPB⟩ : ∃ PA x PB, pre = PA ++ x :: PB ∧ PA.map (·.1) = A.map (·.1) ∧ x.1 = i' ∧ PB.map (·.1) = B.map (·.1) := by
          rw [hL, List.map_append, List.map_cons] at e3
          obtain ⟨P1, P2, k1, k2, k3⟩ := List.map_eq_append_iff.1 e3.symm
          obtain ⟨x, P3, k4, k5, k6⟩ := List.map_eq_cons_iff.1 k3
          exact ⟨P1, x, P3, by rw [k1, k4], k2, k5, k6⟩
        have hpair := prs_spec (p := pairB ops) (A := PA) (a := x) (B := PB ++ rest) (by rw [e1, hp] at q4; simpa using q4)
        have hA : ∀ e ∈ A, e.1 ≠ i' ∧ ∀ t ∈ touch ops i', e.2.1 = some t → S e.1 = true := fun e he => by
          have : e.1 ∈ A.map (·.1) := List.mem_map_of_mem he
          rw [← hPA] at this
          obtain ⟨y, hy, hy1⟩ := List.mem_map.1 this
          have hb := hpair.2 y hy
          simp only [pairB, Bool.and_eq_true, List.all_eq_true] at hb
          obtain ⟨⟨⟨⟨b1, b2⟩, b3⟩, b4⟩, b5⟩ := hb
          rw [hy1, hx] at b1 b2 b3
          have hne := nb b1
          refine ⟨hne, fun t ht hd => ?_⟩
          have h3 := b3 t ht
          have hds : dstOf ops e.1 = e.2.1 := e7 e (by rw [hL]; simp [he])
          rw [hds] at h3
          simp only [hd, Nat.beq_refl, Bool.not_true, Bool.false_or] at h3
          exact hbef e.1 hne h3
        have hB : ∀ e ∈ B, e.1 ≠ i' ∧ ∀ t ∈ touch ops i', e.2.1 = some t → S e.1 = false := fun e he => by
          have : e.1 ∈ B.map (·.1) := List.mem_map_of_mem he
          rw [← hPB] at this
          obtain ⟨y, hy, hy1⟩ := List.mem_map.1 this
          have hb := hpair.1 y (by simp [hy])
          simp only [pairB, Bool.and_eq_true, List.all_eq_true] at hb
          obtain ⟨⟨⟨⟨b1, b2⟩, b3⟩, b4⟩, b5⟩ := hb
          rw [hy1, hx] at b1 b2 b3
          have hne := nb b1
          refine ⟨hne.symm, fun t ht hd => ?_⟩
          have h2 := b2 t ht
          have hds : dstOf ops e.1 = e.2.1 := e7 e (by rw [hL]; simp [he])
          rw [hds] at h2
          simp only [hd, Nat.beq_refl, Bool.not_true, Bool.false_or] at h2
          cases hSe : S e.1 with
          | false => rfl
          | true => have := befD S hD e.1 i' h2 hSe; rw [hSi] at this; cases this
        have htouch : ∀ t, t ∈ tmpsOf o ++ guardSlot ops o ++ [d] → t ∈ touch ops i' := fun t ht => by
          simp only [touch, ho, hd, Option.toList]; exact ht
        have hval : ∀ t, t ∈ tmpsOf o ++ guardSlot ops o ++ [d] → f' t = ov top A f t := by
          intro t ht
          rw [e8 t, hL, ov_app]
          rw [ov_slot (S := S) (S' := fun _ => false) ((i', some d, v) :: B) _ (ov top A f) (ov_slot A f f rfl fun e he hd => (hA e he).2 t (htouch t ht) hd) fun e he hd => ?_]
          · exact congrFun (ov_none _ _ fun _ _ => rfl) t
          · rcases List.mem_cons.1 he with rfl | he
            · exact hSi
            · exact (hB e he).2 t (htouch t ht) hd
        have hnew : ∀ t, upd f' d v t = ov (fun k => Nat.beq k i' || S k) L f t := by
          intro t
          have hAc : ov (fun k => Nat.beq k i' || S k) A f = ov S A f := ov_congr A f fun e he => hoth e.1 (hA e he).1
          rw [hL, ov_app, hAc, ov, if_pos hSi']
          by_cases htd : t = d
          · subst htd
            rw [upd_eq, if_pos rfl]
            rw [ov_slot (S' := fun _ => false) B _ _ rfl fun e he hd => by
              exact (hoth e.1 (hB e he).1).trans ((hB e he).2 t (htouch t (by simp)) hd)]
            rw [ov_none B _ fun _ _ => rfl]; simp [updO, upd_eq]
          · rw [upd_eq, if_neg htd, e8 t, hL, ov_app, ov, if_neg (by rw [hSi]; decide)]
            exact (ov_slot B _ _ (by simp only [updO]; rw [upd_eq, if_neg htd]) fun e he _ => hoth e.1 (hB e he).1).symm
        have hneO : ∀ x ∈ rest, x.1 ≠ i' := fun y hy he => by
          have hb := hpair.1 y (by simp [hy])
          simp only [pairB, Bool.and_eq_true] at hb
          exact nb hb.1.1.1.1 (by rw [hx, he])
        have hneT : ∀ c ∈ tail, c ≠ i' := fun c hc he => by
          have := q6 c hc x (by rw [e1, hp]; simp)
          exact nb this.1 (by rw [he, hx])
        have hI : ∀ f2 H2, f2 = upd f' d v ∧ Mono Hs H2 → I (fun k => Nat.beq k i' || S k) f2 H2 := fun f2 H2 ⟨e, m⟩ =>
          ⟨hD', .inl ⟨pre, rest, L, Hs, e1, e2, e3, fun y hy => (hoth _ (hneO y hy)).trans (e4 y hy), fun c hc => (hoth _ (hneT c hc)).trans (e5 c hc), fun A' e' B' hL' hS' => by
            refine e6 A' e' B' hL' ?_
            have hS' : (Nat.beq e'.1 i' || S e'.1) = false := hS'
            rw [Bool.or_eq_false_iff] at hS'; exact hS'.2, e7, by rw [e]; exact hnew, m, e10⟩⟩
        rcases hop with ⟨hg, hop⟩ | ⟨j, want, oj, dj, b, hg, hj, hdj, hfb, hyes, hno⟩
        · exact .inl ⟨hg, mono (fun f2 H2 h => hI f2 H2 ⟨h.1, e9.trans h.2⟩) (hop H' f' H' (fun t ht => hval t (by have := List.elem_iff.1 ht; simp [this])) (Mono.refl _) e9)⟩
        · refine .inr ⟨j, want, oj, dj, b, hg, hj, hdj, ?_, fun hb => mono (fun f2 H2 h => hI f2 H2 ⟨h.1, e9.trans h.2⟩) (hyes hb H' f' H' (fun t ht => hval t (by have := List.elem_iff.1 ht; simp [this])) (Mono.refl _) e9), fun hb => ?_⟩
          · rw [hval dj (by simp [guardSlot, hg, hj, hdj])]; exact hfb
          · obtain ⟨hv, hn⟩ := hno hb
            exact ⟨d, hd, hn, hI _ _ ⟨by rw [hv], e9⟩⟩
      · have hnp : ∀ x ∈ pre, x.1 ≠ i := fun x hx he => by
          have : x.1 ∈ pre.map (·.1) := List.mem_map_of_mem hx
          rw [← e3] at this
          obtain ⟨e, h1, h2⟩ := List.mem_map.1 this
          exact hLi ⟨e, h1, by rw [h2, he]⟩
        rcases Bool.or_eq_true _ _ ▸ q1 i hi with hio | hit
        · -- an effect
          obtain ⟨x, hx, hxi⟩ := List.mem_map.1 (List.elem_iff.1 hio)
          have hxr : x ∈ rest := by
            rw [e1] at hx
            rcases List.mem_append.1 hx with hx | hx
            · exact absurd hxi (hnp x hx)
            · exact hx
          match rest, hxr, e2, e4, e10, e1 with
          | y :: r, hxr, e2, e4, e10, e1 =>
            obtain ⟨ye, yR⟩ := y
            cases yR with
            | none => exact absurd rfl (e2 (ye, none) (by simp))
            | some R =>
              have hpair := prs_spec (p := pairB ops) (A := pre) (a := (ye, some R)) (B := r) (by rw [e1] at q4; exact q4)
              have hye : ye = i := by
                rcases List.mem_cons.1 hxr with rfl | hxr
                · exact hxi
                · have hb := hpair.1 x hxr
                  simp only [pairB, Bool.and_eq_true] at hb
                  obtain ⟨⟨⟨⟨b1, b2⟩, b3⟩, b4⟩, b5⟩ := hb
                  rw [hxi] at b1 b4
                  have h1 := hbef ye (nb b1) b4
                  have h2 := e4 (ye, some R) (by simp)
                  simp only at h2
                  rw [h1] at h2; cases h2
              subst hye
              obtain ⟨o', ho', hg, hE⟩ := e10
              rw [ho] at ho'; cases ho'
              have hpre : ∀ e ∈ L, e.1 ≠ ye ∧ (∀ t ∈ touch ops ye, e.2.1 = some t → S e.1 = true) ∧ (S e.1 = false → R.elem e.1 = true) := fun e he => by
                obtain ⟨z, hz, hz1⟩ := hLord e he
                have hb := hpair.2 z hz
                simp only [pairB, Bool.and_eq_true, List.all_eq_true] at hb
                obtain ⟨⟨⟨⟨b1, b2⟩, b3⟩, b4⟩, b5⟩ := hb
                rw [hz1] at b1 b3 b5
                have hne := nb b1
                refine ⟨hne, fun t ht hd => ?_, fun hSe => ?_⟩
                · have h3 := b3 t ht
                  rw [e7 e he] at h3
                  simp only [hd, Nat.beq_refl, Bool.not_true, Bool.false_or] at h3
                  exact hbef e.1 hne h3
                · rw [Bool.or_eq_true] at b5
                  rcases b5 with b5 | b5
                  · rw [hbef e.1 hne b5] at hSe; cases hSe
                  · exact b5
              have hval : ∀ t, (tmpsOf o).elem t = true → f' t = ov top L f t := fun t ht => by
                rw [e8 t]
                exact ov_slot L f f rfl fun e he hd => (hpre e he).2.1 t (by simp only [touch, ho]; have := List.elem_iff.1 ht; simp [this]) hd
              refine .inl ⟨hg, mono (fun f2 H2 h => ?_) (hE f' H' hval e9)⟩
              obtain ⟨v, hf2, hmr, hrest⟩ := h
              refine enter _ _ _ (pre ++ [(ye, some R)]) r (L ++ [(ye, o.dst, v)]) H2 hD' (by rw [e1]; simp) (by rw [List.map_append, List.map_append, e3]; rfl) (fun z hz => ?_) (fun c hc => ?_) ?_ ?_ (fun t => ?_) (Mono.refl _) (by rw [ov_app]; exact hrest)
              · have hb := hpair.1 z hz
                simp only [pairB, Bool.and_eq_true] at hb
                exact (hoth z.1 (nb hb.1.1.1.1).symm).trans (e4 z (by simp [hz]))
              · have := q6 c hc (ye, some R) (by rw [e1]; simp)
                exact (hoth c (nb this.1)).trans (e5 c hc)
              · intro A e B hL hS
                have hS2 : (Nat.beq e.1 ye || S e.1) = false := hS
                rw [Bool.or_eq_false_iff] at hS2
                have hLe : ∃ C, L = A ++ e :: C := by
                  rcases List.append_eq_append_iff.1 hL with ⟨C, g1, g2⟩ | ⟨C, g1, g2⟩
                  · cases C with
                    | nil => simp only [List.nil_append, List.cons.injEq] at g2; rw [← g2.1] at hS2; simp at hS2
                    | cons c C => simp at g2
                  · cases C with
                    | nil => simp only [List.nil_append, List.cons.injEq] at g2; rw [g2.1] at hS2; simp at hS2
                    | cons c C => simp only [List.cons_append, List.cons.injEq] at g2; obtain ⟨rfl, g2⟩ := g2; exact ⟨C, g1⟩
                obtain ⟨C, hLe⟩ := hLe
                obtain ⟨oe, de, k1, k2, kd, k3⟩ := e6 A e C hLe hS2.2
                rcases hmr with hmr | hmr
                · exact ⟨oe, de, k1, k2, kd, k3.mono (e9.trans hmr)⟩
                · obtain ⟨oe', de', k4, kd', k5⟩ := hmr.spec A e C hLe ((hpre e (by rw [hLe]; simp)).2.2 hS2.2)
                  rw [k1] at k4; cases k4
                  rw [kd] at kd'; cases kd'
                  exact ⟨oe, de, k1, k2, kd, k5⟩
              · intro e he
                rcases List.mem_append.1 he with he | he
                · exact e7 e he
                · simp at he; subst he; simp [dstOf, ho]
              · rw [hf2, ov_app, ov_congr L f fun e he => hoth e.1 (hpre e he).1, ov, if_pos hSi', ov]
                cases hdo : o.dst with
                | none => exact e8 t
                | some d => simp only [updO]; rw [upd_eq, upd_eq, e8 t]
        · -- the tail begins
          have hmt := List.elem_iff.1 hit
          have hall : ∀ x ∈ ord, S x.1 = true := fun x hx => by
            have := q6 i hmt x hx
            exact hbef x.1 (nb this.1).symm this.2
          have hrest : rest = [] := by
            cases rest with
            | nil => rfl
            | cons y r => have h1 := hall y (by rw [e1]; simp); rw [e4 y (by simp)] at h1; cases h1
          subst hrest
          obtain ⟨A, B, hT⟩ := mem_split hmt
          have hp := prs_spec (p := fun c c' => !Nat.beq c c' && bfB ops c' c) (A := A) (a := i) (B := B) (by rw [hT] at q5; exact q5)
          have hA0 : A = [] := by
            cases A with
            | nil => rfl
            | cons c A =>
              have := hp.2 c (by simp)
              rw [Bool.and_eq_true] at this
              have h1 := hbef c (nb this.1) this.2
              rw [e5 c (by rw [hT]; simp)] at h1; cases h1
          subst hA0
          have hff : f' = ov top L f := by
            funext t
            rw [e8 t]
            exact ov_slot L f f rfl fun e he _ => by
              obtain ⟨z, hz, hz1⟩ := hLord e he
              rw [← hz1]; exact hall z (by rw [e1]; simp [hz])
          have hA := e10 H' e9
          rw [← hff, hT] at hA
          exact tailstep [] B hT hall (fun _ h => by cases h) (fun c hc => e5 c (by rw [hT]; simp [hc])) (fun c hc he => by
            have := hp.1 c hc
            rw [Bool.and_eq_true] at this
            exact nb this.1 he.symm) hA
    · -- the tail goes on
      have hit : i ∈ tail := by
        rcases Bool.or_eq_true _ _ ▸ q1 i hi with h | h
        · obtain ⟨x, hx, hxi⟩ := List.mem_map.1 (List.elem_iff.1 h)
          have := t2 x hx
          rw [hxi, hSi] at this; cases this
        · exact List.elem_iff.1 h
      have hiB : i ∈ B := by
        rw [t1] at hit
        rcases List.mem_append.1 hit with h | h
        · rw [t3 i h] at hSi; cases hSi
        · exact h
      obtain ⟨C, D, hB⟩ := mem_split hiB
      have hp := prs_spec (p := fun c c' => !Nat.beq c c' && bfB ops c' c) (A := A ++ C) (a := i) (B := D) (by rw [t1, hB] at q5; simpa using q5)
      have hC : C = [] := by
        cases C with
        | nil => rfl
        | cons c C =>
          have := hp.2 c (by simp)
          rw [Bool.and_eq_true] at this
          have h1 := hbef c (nb this.1) this.2
          rw [t4 c (by rw [hB]; simp)] at h1; cases h1
      subst hC
      rw [List.nil_append] at hB
      subst hB
      exact tailstep A D t1 t2 t3 (fun c hc => t4 c (by simp [hc])) (fun c hc he => by
        have := hp.1 c hc
        rw [Bool.and_eq_true] at this
        exact nb this.1 he.symm) t5
  · -- the end
    intro S f' H' hall ⟨hD, hcase⟩
    rcases hcase with ⟨pre, rest, L, Hs, e1, e2, e3, e4, e5, e6, e7, e8, e9, e10⟩ | ⟨A, B, t1, t2, t3, t4, t5⟩
    · have hrest : rest = [] := by
        cases rest with
        | nil => rfl
        | cons y r =>
          have h1 := e4 y (by simp)
          rw [hall y.1 (Nat.blt_eq ▸ (q2 y (by rw [e1]; simp)))] at h1; cases h1
      have htail : tail = [] := by
        cases tail with
        | nil => rfl
        | cons c B =>
          have h1 := e5 c (by simp)
          rw [hall c (Nat.blt_eq ▸ (q3 c (by simp)))] at h1; cases h1
      subst hrest htail
      have hff : f' = ov top L f := by
        funext t
        rw [e8 t]
        refine ov_slot L f f rfl fun e he _ => ?_
        have : e.1 ∈ L.map (·.1) := List.mem_map_of_mem he
        rw [e3] at this
        obtain ⟨z, hz, hz1⟩ := List.mem_map.1 this
        rw [← hz1]; exact hall z.1 (Nat.blt_eq ▸ (q2 z (by rw [e1]; simp [hz])))
      have := e10 H' e9
      rw [← hff] at this
      exact this
    · have hB : B = [] := by
        cases B with
        | nil => rfl
        | cons c B =>
          have h1 := t4 c (by simp)
          rw [hall c (Nat.blt_eq ▸ (q3 c (by rw [t1]; simp)))] at h1; cases h1
      subst hB
      exact t5
def ovR : List Ent → (Nat → AV) → Nat → AV
  | [], f => f
  | e :: L, f => updO (ovR L f) e.2.1 e.2.2
theorem ovR_eq : ∀ (L : List Ent) (f : Nat → AV), ovR L f = ov top L.reverse f
  | [], _ => rfl
  | e :: L, f => by rw [List.reverse_cons, ov_app, ← ovR_eq L f]; rfl
def RevR (P : Program) (n : Nat) (ops : Array Oper) (R : List Nat) (H2 : Heap) : List Ent → (Nat → AV) → Prop
  | [], _ => True
  | e :: L, f0 => (R.elem e.1 = true → ∃ o d, ops[e.1]? = some o ∧ e.2.1 = some d ∧ QOpA P n ops o d e.2.2 H2 (ovR L f0)) ∧ RevR P n ops R H2 L f0
theorem RevR.nil {ops : Array Oper} {R : List Nat} {H2 : Heap} {f0 : Nat → AV} : RevR P n ops R H2 [] f0 := trivial
theorem RevR.skip {ops : Array Oper} {R : List Nat} {H2 : Heap} {i : Nat} {dv : Option Nat × AV} {L : List Ent} {f0 : Nat → AV} (h : R.elem i = false) (r : RevR P n ops R H2 L f0) : RevR P n ops R H2 ((i, dv) :: L) f0 := ⟨fun h2 => (by simp only at h2; rw [h] at h2; cases h2), r⟩
theorem RevR.cons {ops : Array Oper} {R : List Nat} {H2 : Heap} {i d : Nat} {v : AV} {o : Oper} {L : List Ent} {f0 : Nat → AV} (ho : ops[i]? = some o) (h : QOpA P n ops o d v H2 (ovR L f0)) (r : RevR P n ops R H2 L f0) : RevR P n ops R H2 ((i, some d, v) :: L) f0 := ⟨fun _ => ⟨o, d, ho, rfl, h⟩, r⟩
theorem RevR.none {ops : Array Oper} {H2 : Heap} : ∀ {L : List Ent} {f0 : Nat → AV}, RevR P n ops [] H2 L f0
  | [], _ => trivial
  | _ :: _, _ => ⟨fun h => by simp at h, RevR.none⟩
theorem Reval.snoc {ops : Array Oper} {R : List Nat} {H2 : Heap} {e : Ent} : ∀ {L : List Ent} {g : Nat → AV}, Reval P n ops R H2 L g → (R.elem e.1 = true → ∃ o d, ops[e.1]? = some o ∧ e.2.1 = some d ∧ QOpA P n ops o d e.2.2 H2 (ov top L g)) → Reval P n ops R H2 (L ++ [e]) g
  | [], _, _, h => ⟨h, trivial⟩
  | x :: L, g, h, h2 => ⟨h.1, Reval.snoc h.2 fun hR => by have := h2 hR; rw [ov_top_cons] at this; exact this⟩
theorem RevR.to {ops : Array Oper} {R : List Nat} {H2 : Heap} : ∀ {L : List Ent} {f0 : Nat → AV}, RevR P n ops R H2 L f0 → Reval P n ops R H2 L.reverse f0
  | [], _, _ => trivial
  | e :: L, f0, h => by
    rw [List.reverse_cons]
    exact Reval.snoc h.2.to fun hR => by have := h.1 hR; rw [ovR_eq] at this; exact this
def STR (P : Program) (n : Nat) (ops : Array Oper) (f0 : Nat → AV) (T : (Nat → AV) → Heap → Prop) : List Item → List Ent → Heap → (Nat → AV) → Prop
  | [], _, Hs, g => ∀ H', Mono Hs H' → T g H'
  | (i, none) :: r, L, Hs, g => ∃ o d v, ops[i]? = some o ∧ o.dst = some d ∧ QOpA P n ops o d v Hs g ∧ STR P n ops f0 T r ((i, some d, v) :: L) Hs (upd g d v)
  | (e, some R) :: r, L, Hs, g => ∃ o, ops[e]? = some o ∧ o.guard = none ∧ ∀ f' H', (∀ t, (tmpsOf o).elem t = true → f' t = g t) → Mono Hs H' →
      AOp P n o (fun f2 H2 => ∃ v, f2 = updO f' o.dst v ∧ (Mono H' H2 ∨ RevR P n ops R H2 L f0) ∧ STR P n ops f0 T r ((e, o.dst, v) :: L) H2 (updO g o.dst v)) f' H'
theorem STR.to {ops : Array Oper} {f0 : Nat → AV} {T : (Nat → AV) → Heap → Prop} : ∀ {r : List Item} {L : List Ent} {Hs : Heap} {g : Nat → AV}, STR P n ops f0 T r L Hs g → STQ P n ops f0 T r L.reverse Hs g
  | [], _, _, _, h => h
  | (i, none) :: r, L, Hs, g, ⟨o, d, v, h1, h2, h3, h4⟩ => ⟨o, d, v, h1, h2, h3, by have := STR.to h4; rwa [List.reverse_cons] at this⟩
  | (e, some R) :: r, L, Hs, g, ⟨o, ho, hg, h⟩ => by
    refine ⟨o, ho, hg, fun f' H' a b μ c w hs E => Oper.wp_mono (fun a' w' hx => ?_) (fun _ _ _ _ h => h) (h f' H' a b μ c w hs E)⟩
    obtain ⟨μ', f2, H2, g1, g2, v, k1, k2, k3⟩ := hx
    have k4 := STR.to k3
    rw [List.reverse_cons] at k4
    exact ⟨μ', f2, H2, g1, g2, v, k1, k2.imp id RevR.to, k4⟩
theorem STR.op {ops : Array Oper} {f0 g : Nat → AV} {T : (Nat → AV) → Heap → Prop} {r : List Item} {L : List Ent} {i d : Nat} {v : AV} {o : Oper} (ho : ops[i]? = some o) (hd : o.dst = some d) (h : QOpA P n ops o d v H g) (rest : STR P n ops f0 T r ((i, some d, v) :: L) H (upd g d v)) : STR P n ops f0 T ((i, none) :: r) L H g := ⟨o, d, v, ho, hd, h, rest⟩
theorem STR.eff {ops : Array Oper} {f0 g : Nat → AV} {T : (Nat → AV) → Heap → Prop} {r : List Item} {R : List Nat} {L : List Ent} {e d : Nat} {o : Oper} (ho : ops[e]? = some o) (hd : o.dst = some d) (hg : o.guard = none)
    (h : ∀ f' H', (∀ t, (tmpsOf o).elem t = true → f' t = g t) → Mono H H' → AOp P n o (fun f2 H2 => ∃ v, f2 = upd f' d v ∧ (Mono H' H2 ∨ RevR P n ops R H2 L f0) ∧ STR P n ops f0 T r ((e, some d, v) :: L) H2 (upd g d v)) f' H') : STR P n ops f0 T ((e, some R) :: r) L H g := ⟨o, ho, hg, by rw [hd]; exact h⟩
theorem STR.st {ops : Array Oper} {f0 g : Nat → AV} {T : (Nat → AV) → Heap → Prop} {r : List Item} {R : List Nat} {L : List Ent} {e : Nat} {o : Oper} (ho : ops[e]? = some o) (hd : o.dst = none) (hg : o.guard = none)
    (h : ∀ f' H', (∀ t, (tmpsOf o).elem t = true → f' t = g t) → Mono H H' → AOp P n o (fun f2 H2 => f2 = f' ∧ (Mono H' H2 ∨ RevR P n ops R H2 L f0) ∧ STR P n ops f0 T r ((e, none, .undef) :: L) H2 g) f' H') : STR P n ops f0 T ((e, some R) :: r) L H g := ⟨o, ho, hg, fun f' H' a b μ c w hs E => by
      rw [hd]
      exact Oper.wp_mono (fun a' w' ⟨μ', f2, H2, g1, g2, g3⟩ => ⟨μ', f2, H2, g1, g2, .undef, g3⟩) (fun _ _ _ _ h => h) (h f' H' a b μ c w hs E)⟩
theorem STR.done {ops : Array Oper} {f0 g : Nat → AV} {T : (Nat → AV) → Heap → Prop} {L : List Ent} (h : ∀ H', Mono H H' → T g H') : STR P n ops f0 T [] L H g := h
theorem AWP.region_str {rid : Nat} {ops : Array Oper} (hm : P.follows .mixedOrders = true) (hback : backB ops = true) (ord : List Item) (tail : List Nat) (hq : stgB ops ord tail = true)
    (h : STR P n ops f (fun g H' => AOps P n ops (Q .normal) tail g H') ord [] H f) : AWP P n (.region rid ops true) Q f H :=
  .region_stg hm hback ord tail hq h.to
end
end Go.AH
namespace Go.AH
variable [Globs]
set_option linter.unusedSectionVars false
open Go
end Go.AH
namespace Go.AH
variable [Globs]
set_option linter.unusedSectionVars false
open Go Go.Deep
def nH : Heap := fun _ => none
abbrev idM : Nat → Nat := fun i => i
theorem nH_owned {μ : Nat → Nat} {b : Nat} : ¬ Owned μ nH b := by
  rintro ⟨_, _, h, _⟩; cases h
theorem nH_HR {w : World} {μ : Nat → Nat} (hg : GOK w μ nH) : HR w μ nH where
  glob := hg
  rows := fun _ _ _ h => by cases h
  maps := fun _ _ h => by cases h
  born := fun _ _ _ _ h => by cases h
  iters := fun _ _ h => by cases h
  inj := fun _ _ _ _ h => by cases h
  fin := ⟨0, fun _ _ => rfl⟩
theorem Ext.since0 {W W' : World} {μ μ' : Nat → Nat} {H' : Heap} (h : Ext W μ nH W' μ' H') : World.Since W.heap.size W W' :=
  ⟨h.rest.2.1, h.rest.1, h.rest.2.2.1, h.size, fun k hk => (h.frz k ⟨hk, nH_owned⟩).1⟩
theorem cell_spot0 {W : World} {a : Addr} {v : Value} (h : W.cell? a = some v) : a = ⟨a.block, a.off, none⟩ ∧ a.block < W.heap.size := by
  unfold World.cell? at h
  split at h
  · rename_i c e fr hb
    have hlt : a.block < W.heap.size := (Array.getElem?_eq_some_iff.1 hb).1
    split at h
    · cases h
    · rename_i hs
      refine ⟨?_, hlt⟩
      cases a with
      | mk b o s => cases s with
        | none => rfl
        | some s => simp at hs
  · cases h
section
variable {w : World} {μ : Nat → Nat} {H : Heap}
theorem VRs.nil : VRs w μ H [] [] := ⟨rfl, fun j x y h => by simp at h⟩
theorem VRs.one {x : AV} {v : Value} (h : VR w μ H x v) : VRs w μ H [x] [v] := ⟨rfl, fun j a b h1 h2 => by
  match j with
  | 0 => simp at h1 h2; subst h1 h2; exact h
  | j + 1 => simp at h1⟩
theorem VRs.whole {xs : List AV} {cs : List Value} {n : Nat} (h : VRs w μ H xs ((cs.drop 0).take n)) (hn : cs.length = n) : VRs w μ H xs cs := by
  subst hn; simpa using h
theorem VRs.part {xs : List AV} {cs : List Value} {n : Nat} (h : VRs w μ H xs cs) (hn : cs.length = n) : VRs w μ H xs ((cs.drop 0).take n) := by
  subst hn; simpa using h
theorem VRs.agg {xs : List AV} {cs : Array Value} (h : VRs w μ H xs cs.toList) : VR w μ H (.agg xs) (.agg cs) := .agg (by simpa using h.1) fun j x y hx hy => h.2 j x y hx (by simpa using hy)
end
section
variable {D : Type} {enc : TypeId × Value → D} {P : Program} {W : World}
def Opn (enc : TypeId × Value → D) (P : Program) (W : World) (t : TypeId) {α : Type} (e : α → List AV) (Q : α → DataW D → Prop) : Prop :=
  ∀ (sp : Nat → Bool) (held : Bool) (fuel : Nat) (cs : List Value) (x : DataW D × List MemPlace), DataW.trod enc P W 0 sp held fuel t cs = some x → ∃ v, VRs W idM nH (e v) cs ∧ Q v x.1
theorem Opn.int {t : TypeId} {k : IntKind} (ht : P.underlying t = some (.int k)) : Opn enc P W t (fun n : Int => [.int k n]) (fun n _ => (Lit.int k n).wf = true) := fun sp held fuel cs x h => by
  obtain ⟨n, rfl, rfl, hw⟩ := DataW.trod_int ht h
  exact ⟨n, .one (.int _ _), hw⟩
theorem Opn.str {t : TypeId} (ht : P.underlying t = some .string) : Opn enc P W t (fun s : ByteArray => [.str s]) (fun s d => d = .lit (.string s.data.toList)) := fun sp held fuel cs x h => by
  obtain ⟨s, rfl, rfl, hw⟩ := DataW.trod_string ht h
  exact ⟨s, .one (.str _), rfl⟩
theorem Opn.bool {t : TypeId} (ht : P.underlying t = some .bool) : Opn enc P W t (fun s : Bool => [.bool s]) (fun _ _ => True) := fun sp held fuel cs x h => by
  obtain ⟨s, rfl, rfl⟩ := DataW.trod_bool ht h
  exact ⟨s, .one (.bool _), trivial⟩
theorem Opn.imp {t : TypeId} {α : Type} {e : α → List AV} {Q Q' : α → DataW D → Prop} (h : Opn enc P W t e Q) (hq : ∀ v d, Q v d → Q' v d) : Opn enc P W t e Q' := fun sp held fuel cs x hx => by
  obtain ⟨v, h1, h2⟩ := h sp held fuel cs x hx
  exact ⟨v, h1, hq _ _ h2⟩
theorem Opn.slice {t el : TypeId} {m : Nat} {α : Type} {e : α → List AV} {Q : α → DataW D → Prop} (ht : P.underlying t = some (.slice el)) (hm : P.cellsOf el = m) (hm0 : 0 < m) (he : Opn enc P W el e Q) :
    Opn enc P W t (fun l : List α => [.sl l.length (l.flatMap e)]) (fun l d => (l = [] ∧ d = .nil) ∨ ∃ ds sp, d = .slice ds sp ∧ l.length = ds.length ∧ ∀ x ∈ l, ∃ y ∈ ds, Q x y) := fun sp held fuel cs x h => by
  rcases Go.Deep.open_slice ht h with ⟨rfl, rfl⟩ | ⟨a, len, cap, mm, n, Dd, Pl, rfl, hb, hl, hcm, hmm, rfl, hx⟩
  · exact ⟨[], .one (.sl0 _ _), .inl ⟨rfl, rfl⟩⟩
  · rw [hm] at hx
    have hle : len ≤ mm := by rw [hmm]; split <;> omega
    have key : ∀ k, k ≤ len → ∃ l : List α, l.length = k ∧ (l.flatMap e).length = k * m ∧ (∃ ys : Nat → Value, ∀ j x, (l.flatMap e)[j]? = some x → W.cell? (a.add j) = some (ys j) ∧ VR W idM nH x (ys j)) ∧ ∀ x ∈ l, ∃ y ∈ (List.range len).map Dd, Q x y := by
      intro k
      induction k with
      | zero => intro _; exact ⟨[], rfl, by simp, ⟨fun _ => default, fun j x h => by simp at h⟩, fun _ h => by cases h⟩
      | succ k ih =>
        intro hk
        obtain ⟨l, h1, h2, ⟨ys, h3⟩, h4⟩ := ih (by omega)
        obtain ⟨cs', h5, h6⟩ := hx k (by omega)
        obtain ⟨v, h7, h8⟩ := he _ _ _ _ _ h6
        obtain ⟨_, hlen, hcell⟩ := World.cells?_some h5
        have hvl : (e v).length = m := by rw [h7.1, hlen]
        refine ⟨l ++ [v], by simp [h1], ?_, ⟨fun j => if j < k * m then ys j else cs'.getD (j - k * m) default, fun j x hj => ?_⟩, fun x hx => ?_⟩
        · rw [List.flatMap_append, List.flatMap_singleton, List.length_append, h2, hvl, Nat.add_mul]; omega
        · rw [List.flatMap_append, List.flatMap_singleton] at hj
          by_cases hjk : j < k * m
          · rw [List.getElem?_append_left (by omega)] at hj
            simp only [hjk, if_true]
            exact h3 j x hj
          · rw [List.getElem?_append_right (by omega), h2] at hj
            simp only [hjk, if_false]
            have hjl : j - k * m < cs'.length := by
              rcases Nat.lt_or_ge (j - k * m) (e v).length with g | g
              · omega
              · rw [List.getElem?_eq_none g] at hj; cases hj
            have hc := hcell (j - k * m) (by omega)
            rw [Go.Deep.add_add, show k * m + (j - k * m) = j by omega] at hc
            have hg : cs'.getD (j - k * m) default = cs'[j - k * m] := by simp [List.getD, hjl]
            refine ⟨?_, h7.2 _ _ _ hj (by rw [hg]; exact List.getElem?_eq_getElem hjl)⟩
            rw [hg, hc]; exact List.getElem?_eq_getElem hjl
        · rcases List.mem_append.1 hx with hx | hx
          · exact h4 x hx
          · simp at hx; subst hx
            exact ⟨_, List.mem_map_of_mem (List.mem_range.2 (by omega)), h8⟩
    obtain ⟨l, h1, h2, ⟨ys, h3⟩, h4⟩ := key len (Nat.le_refl _)
    refine ⟨l, .one ?_, .inr ⟨_, _, rfl, by simp [h1], h4⟩⟩
    rw [h1]
    by_cases h0 : len = 0
    · subst h0
      have : l = [] := List.eq_nil_of_length_eq_zero h1
      subst this
      exact .sl0 _ _
    · have hpos : 0 < (l.flatMap e).length := by rw [h2]; exact Nat.mul_pos (by omega) hm0
      have hc0 := (h3 0 _ (List.getElem?_eq_getElem hpos)).1
      obtain ⟨e0, hlt⟩ := cell_spot0 hc0
      have e2 : a = ⟨a.block, a.off, none⟩ := by
        have := congrArg Addr.spot e0
        cases a; simp [Addr.add] at this; subst this; rfl
      rw [e2]
      refine .sl (ys := ys) hl ⟨by simpa [Addr.add] using hlt, nH_owned⟩ (fun j x hx => ?_) (fun j x hx => (h3 j x hx).2)
      have := (h3 j x hx).1
      rw [e2] at this
      have e3 : (⟨a.block, a.off, none⟩ : Addr).add j = ⟨a.block, a.off + j, none⟩ := by
        by_cases hj : j = 0 <;> simp [Addr.add, hj]
      rw [e3] at this
      exact this
end
end Go.AH
namespace Go.AH
variable [Globs]
set_option linter.unusedSectionVars false
open Go Go.Lib
theorem old_Ext {w w' : World} {μ : Nat → Nat} {H : Heap} (hr : HR w μ H) (hs : w.heap.size ≤ w'.heap.size) (hold : ∀ b, b < w.heap.size → w'.heap[b]? = w.heap[b]?) (hrest : Rest w w') : Ext w μ H w' μ H ∧ HR w' μ H := by
  have hlt : ∀ id B, H id = some B → B.live = true → μ id < w.heap.size := fun id B h1 h2 => hr.lt h1 h2
  have he : Ext w μ H w' μ H := by
    refine ⟨hs, fun b hb => ⟨hold b hb.1, hb.2⟩, fun _ _ h => h, fun id ver _ ha => ⟨ha, rfl, ?_⟩, fun _ h => ⟨h, rfl⟩, fun _ h => ⟨h, rfl⟩, hrest⟩
    obtain ⟨c, hc⟩ := ha
    simp only [bsize, hold _ (hlt _ _ hc rfl)]
  refine ⟨he, ⟨fun id ver cells hi => ?_, fun id es hi => ?_, fun id es ents clock hi hw => ?_, fun id it hi => ?_, hr.inj, hr.fin, hr.glob.ext he⟩⟩
  · obtain ⟨cs, T, h1, h2, h3⟩ := hr.rows id ver cells hi
    exact ⟨cs, T, by rw [hold _ (hlt _ _ hi rfl)]; exact h1, h2, fun j x hx => let ⟨y, g1, g2⟩ := h3 j x hx; ⟨y, g1, g2.ext he⟩⟩
  · obtain ⟨h0, en, c, h1, h2, h3⟩ := hr.maps id es hi
    exact ⟨h0, en, c, by rw [hold _ (hlt _ _ hi rfl)]; exact h1, h2, fun j x e hx hy => ⟨(h3 j x e hx hy).1.ext he, (h3 j x e hx hy).2.ext he⟩⟩
  · rw [hold _ (hlt _ _ hi rfl)] at hw
    exact hr.born id es ents clock hi hw
  · rw [hold _ (hlt _ _ hi rfl)]
    exact hr.iters id it hi
theorem PC.lib {P : Program} {g : FuncId} {args : List AV} {r : AV}
    (h : ∀ (H : Heap) μ w (vs : Array Value), HR w μ H → VRs w μ H args vs.toList → Calls P g vs w fun e w' => ∃ v, e = .returned v ∧ w.heap.size ≤ w'.heap.size ∧ (∀ b, b < w.heap.size → w'.heap[b]? = w.heap[b]?) ∧ Rest w w' ∧ VR w' μ H r v) : PC P g args r :=
  fun H μ w vs hr hv => (h H μ w vs hr hv).mono fun e w' ⟨v, he, h1, h2, h3, h4⟩ => by
    obtain ⟨e1, e2⟩ := old_Ext hr h1 h2 h3
    exact ⟨v, he, μ, H, r, e2, h4, e1, rfl, .refl _⟩
theorem vs1 {w : World} {μ : Nat → Nat} {H : Heap} {x : AV} {vs : Array Value} (h : VRs w μ H [x] vs.toList) : ∃ v, vs = #[v] ∧ VR w μ H x v := by
  obtain ⟨h1, h2⟩ := h
  match vs, h1, h2 with
  | ⟨[a]⟩, _, h2 => exact ⟨a, rfl, h2 0 _ _ rfl rfl⟩
theorem vs2 {w : World} {μ : Nat → Nat} {H : Heap} {x y : AV} {vs : Array Value} (h : VRs w μ H [x, y] vs.toList) : ∃ u v, vs = #[u, v] ∧ VR w μ H x u ∧ VR w μ H y v := by
  obtain ⟨h1, h2⟩ := h
  match vs, h1, h2 with
  | ⟨[a, b]⟩, _, h2 => exact ⟨a, b, rfl, h2 0 _ _ rfl rfl, h2 1 _ _ rfl rfl⟩
theorem vstr {w : World} {μ : Nat → Nat} {H : Heap} {s : ByteArray} {v : Value} (h : VR w μ H (.str s) v) : v = .string s := by cases h; rfl
theorem VR.strs {w w' : World} {μ : Nat → Nat} {H : Heap} (hr : HR w μ H) {l : List ByteArray} {T : TypeId} {fr : Nat × Nat} (h : w'.heap[w.heap.size]? = some (.cells (l.map Value.string).toArray T fr)) :
    VR w' μ H (.sl l.length (l.map fun x => .str x)) (.slice (some ⟨w.heap.size, 0, none⟩) l.length l.length) := by
  refine .sl (ys := fun j => .string (l.getD j ByteArray.empty)) (Nat.le_refl _) ⟨(Array.getElem?_eq_some_iff.1 h).1, fun ⟨id, B, h1, h2, h3⟩ => ?_⟩ (fun j x hx => ?_) fun j x hx => ?_
  · have := hr.lt h1 h2; omega
  · rw [List.getElem?_map, Option.map_eq_some_iff] at hx
    obtain ⟨z, hz, rfl⟩ := hx
    simp only [World.cell?, h, Option.isSome_none, Bool.false_eq_true, if_false]
    simp [hz, List.getD]
  · rw [List.getElem?_map, Option.map_eq_some_iff] at hx
    obtain ⟨z, hz, rfl⟩ := hx
    have : l.getD j ByteArray.empty = z := by simp [List.getD, hz]
    rw [this]; exact .str _
section
variable {P : Program} {n : Nat} {f : Nat → AV} {H : Heap} {K : (Nat → AV) → Heap → Prop} {ty : TypeId} {pos : String} {after : Array Edge} {guard : Option (Nat × Bool)} {d : Nat}
def byt (s : ByteArray) (i : Int) : Int := ((s.data.toList.getD i.toNat 0).toNat : Int)
theorem byt_rng (s : ByteArray) (i : Int) : 0 ≤ byt s i ∧ byt s i ≤ 255 := by
  unfold byt
  have := (s.data.toList.getD i.toNat 0).toNat_lt
  omega
theorem byt_at {s : ByteArray} {i : Int} (h : i.toNat < s.size) : byt s i = (s[i.toNat]'h).toNat := by
  have hh : i.toNat < s.data.size := h
  unfold byt
  rw [List.getD_eq_getElem?_getD, Array.getElem?_toList, Array.getElem?_eq_getElem hh]
  rfl
theorem AOp.indexB {t : TypeId} {x ix : Operand} {k : IntKind} {i : Int} {s : ByteArray} (hn : Nat.ble (d + 1) n = true) (hx : ev f x = .str s) (hi : ev f ix = .int k i)
    (ht : P.underlying t = some .string) (h0 : 0 ≤ i) (h1 : i < s.size) (hK : K (upd f d (.int .u8 (byt s i))) H) : AOp P n ⟨some d, .index t x ix, ty, pos, after, guard⟩ K f H :=
  .indexStr hn hx hi ht h0 (by omega) (by rw [← byt_at]; exact hK)
theorem toList_eq {p q : ByteArray} : (p.toList == q.toList) = decide (p = q) := by
  by_cases h : p = q
  · subst h; simp
  · rw [decide_eq_false h]
    refine beq_eq_false_iff_ne.2 fun e => h ?_
    have e2 : p.data.toList = q.data.toList := by
      rw [← ByteArray.toList_eq, ← ByteArray.toList_eq]; exact e
    cases p; cases q
    simp only [ByteArray.mk.injEq]
    exact Array.toList_inj.1 e2
theorem AOp.seqD {t t' : TypeId} {x y : Operand} {p q : ByteArray} (hn : Nat.ble (d + 1) n = true) (hx : ev f x = .str p) (hy : ev f y = .str q)
    (hK : K (upd f d (.bool (decide (p = q)))) H) : AOp P n ⟨some d, .binOp .eql t x y t', ty, pos, after, guard⟩ K f H := .seq hn hx hy (by rw [toList_eq]; exact hK)
theorem AOp.sneD {t t' : TypeId} {x y : Operand} {p q : ByteArray} (hn : Nat.ble (d + 1) n = true) (hx : ev f x = .str p) (hy : ev f y = .str q)
    (hK : K (upd f d (.bool (!decide (p = q)))) H) : AOp P n ⟨some d, .binOp .neq t x y t', ty, pos, after, guard⟩ K f H := .sne hn hx hy (by rw [toList_eq]; exact hK)
theorem isub8 {p q : Int} (h : 0 ≤ p - q ∧ p - q ≤ 255) : intBin .sub .u8 p q = some (.int .u8 (p - q)) := by
  have : IntKind.wrap .u8 (p - q) = p - q := by simp [IntKind.wrap, IntKind.bits, IntKind.signed]; omega
  simp [intBin, this]
theorem wrap64 {p : Int} (h : -9223372036854775808 ≤ p ∧ p ≤ 9223372036854775807) : IntKind.wrap .i64 p = p := IntWalk.i64_in _ h
theorem run_ifnil {w : World} {t : TypeId} (h : ∃ ms, P.underlying t = some (.interface ms)) (b : Bool) (v : Value) (hv : (v = .nilIface ∧ b = false) ∨ ∃ T y, v = .iface T y ∧ b = true) : (Op.equal t v .nilIface).run P w = .ok (!b) w := by
  obtain ⟨ms, h⟩ := h
  have e : Op.equal t v .nilIface = Op.equalIn (9999 + 1) t v .nilIface := rfl
  rw [e, Op.equalIn]
  rcases hv with ⟨rfl, rfl⟩ | ⟨T, y, rfl, rfl⟩ <;> (rw [Sem.run_bind, run_under h]; rfl)
theorem AOp.ifnil {t t' : TypeId} {x : Operand} {v : AV} {b : Bool} (hn : Nat.ble (d + 1) n = true) (hx : ev f x = v) (ht : ∃ ms, P.underlying t = some (.interface ms)) (hv : (v = .nilIface ∧ b = false) ∨ ∃ T y, v = .iface T y ∧ b = true)
    (hK : K (upd f d (.bool b)) H) : AOp P n ⟨some d, .binOp .neq t x (.const .nilIface) t', ty, pos, after, guard⟩ K f H :=
  .pureV _ hn (fun μ a w hs => by
    have h1 := hs.ev x; rw [hx] at h1
    rcases hv with ⟨rfl, rfl⟩ | ⟨T, y, rfl, rfl⟩
    · generalize hz : a.eval x = z at h1
      cases h1
      have h2 := run_ifnil (P := P) (w := w) ht false .nilIface (.inl ⟨rfl, rfl⟩)
      refine ⟨.bool false, ?_, .bool _⟩
      have hc : a.eval (.const .nilIface) = .nilIface := rfl
      simp [execOp, hz, hc, binOp, h2, eqGuard_nil_constR]
    · generalize hz : a.eval x = z at h1
      cases h1
      rename_i vv _
      have h2 := run_ifnil (P := P) (w := w) ht true (.iface T vv) (.inr ⟨_, _, rfl, rfl⟩)
      have hc : a.eval (.const .nilIface) = .nilIface := rfl
      exact ⟨.bool true, by simp [execOp, hz, hc, binOp, h2, eqGuard_at_iface], .bool _⟩) hK
def bytesB (l : List Int) : ByteArray := ⟨(l.map fun n => UInt8.ofNat n.toNat).toArray⟩
theorem bytesB_fold (l : List Int) : ∀ s : ByteArray, l.foldl (fun r n => r.push (UInt8.ofNat n.toNat)) s = ⟨s.data ++ (l.map fun n => UInt8.ofNat n.toNat).toArray⟩ := by
  induction l with
  | nil => intro s; simp
  | cons a l ih => intro s; rw [List.foldl_cons, ih]; simp [ByteArray.push]
theorem CR.ints {w : World} {μ : Nat → Nat} {H : Heap} {k : IntKind} {l : List Int} {vs : Array Value} (h : CR w μ H (l.map fun x => .int k x) vs) : vs = (l.map (Value.int k)).toArray := by
  obtain ⟨h1, h2⟩ := h
  apply Array.ext_getElem?
  intro j
  have hl : l.length = vs.size := by simpa using h1
  rcases Nat.lt_or_ge j l.length with hj | hj
  · obtain ⟨y, y1, y2⟩ := h2 j (.int k l[j]) (by simp [hj])
    rw [y1]
    cases y2
    simp [hj]
  · rw [Array.getElem?_eq_none (by omega)]; simp [hj]
theorem AOp.bytesS {s t e : TypeId} {x : Operand} {l : List Int} {v : AV} (hn : Nat.ble (d + 1) n = true) (hx : ev f x = v) (hv : Src H 1 v l.length (l.map fun x => .int .u8 x))
    (hs' : P.underlying s = some (.slice e)) (he : P.underlying e = some (.int .u8)) (ht : P.underlying t = some .string)
    (hK : K (upd f d (.str (bytesB l))) H) : AOp P n ⟨some d, .convert s t x, ty, pos, after, guard⟩ K f H :=
  .pureV _ hn (fun μ a w hs => by
    have h1 := hs.ev x; rw [hx] at h1
    obtain ⟨e1, e2, vs, e3, e4⟩ := hv.run (P := P) hs.hr h1
    have := CR.ints e4
    subst this
    refine ⟨.string (bytesB l), ?_, .str _⟩
    generalize hz : a.eval x = z at h1 e1 e3
    have hz' : ∃ a len cap, z = .slice a len cap := by
      clear e2 e4 hK e1 e3
      generalize l.length = m at hv
      generalize l.map (fun x => AV.int .u8 x) = cs at hv
      cases hv <;> cases h1 <;> exact ⟨_, _, _, rfl⟩
    obtain ⟨b, len, cap, rfl⟩ := hz'
    have hlen : len = l.length := by
      simp only [Builtin.lenOf, Sem.run_pure, Result.ok.injEq] at e1
      exact e1.1
    subst hlen
    have key : (convert s t (.slice b l.length cap)).run P w = .ok (.string (bytesB l)) w := by
      rw [run_convert_bytes_string w s t e _ _ _ hs' he ht]
      cases b with
      | none =>
        simp only [Builtin.firstCells, Sem.run_pure, Result.ok.injEq] at e3
        have : l = [] := by
          have h := congrArg Array.size e3.1
          cases l with
          | nil => rfl
          | cons => simp at h
        subst this
        rfl
      | some b =>
        simp only [Builtin.firstCells, Nat.mul_one] at e3
        rw [run_bytesToString w _ _ _ l e3, bytesB_fold]
        simp [bytesB]
    simp [execOp, hz, key]) hK
theorem Own.src {H0 H : Heap} {es : Nat} {v : AV} {len : Nat} {cells : List AV} (h : Own H0 H es v len cells) : Src H es v len cells := by
  rcases h with ⟨rfl, rfl, rfl⟩ | ⟨id, ver, rfl, h2, _, h4⟩
  · exact .nil
  · have := Src.slm (es := es) (off := 0) (m := len) h2 (Nat.ble_eq_true_of_le (by omega))
    rw [List.drop_zero, List.take_of_length_le (by omega)] at this
    exact this
theorem newiterS {w : World} {μ : Nat → Nat} (hr : HR w μ H) {id p : Nat} {s : ByteArray} (hid : H id = none ∨ H id = some .res) :
    HR { w with heap := w.heap.push (.stringIter s p) } (updN μ id w.heap.size) (updH H id (.iter (.str s p))) := by
  have he := newblock hr hid (o := .stringIter s p) (B := .iter (.str s p))
  refine hr.change he (fun i => updH_eq _ _ _ _) (fun i hi => by simp [updN, hi]) ?_ ?_ ?_ ?_ ?_ ?_
  · intro _ i C _ hi hC
    have := hr.lt hi hC
    simp only [updN, if_true]; omega
  · intro i C _ hi hC
    have := hr.lt hi hC
    rw [Array.getElem?_push, if_neg (Nat.ne_of_lt this)]
  · intro ver c hB; cases hB
  · intro es h; cases h
  · intro es _ _ h; cases h
  · intro it h
    cases h
    exact ⟨by simp [updN, It.obj], fun m' n' seen' e => by cases e⟩
theorem AOp.rangeS {t : TypeId} {x : Operand} {s : ByteArray} (hn : Nat.ble (d + 1) n = true) (hx : ev f x = .str s) (ht : P.underlying t = some .string)
    (hK : ∀ id H', H id = none → H' id = some (.iter (.str s 0)) → (∀ i, i ≠ id → H' i = H i) → K (upd f d (.it id)) H') : AOp P n ⟨some d, .range t x, ty, pos, after, guard⟩ K f H :=
  .fresh fun id hid => .value _ _ hn (fun μ a w hs => by
    have h1 := hs.ev x
    rw [hx] at h1
    have h2 := vstr h1
    refine ⟨.pointer (some ⟨w.heap.size, 0, none⟩), { w with heap := w.heap.push (.stringIter s 0) }, updN μ id w.heap.size, ?_, newblock hs.hr (.inl hid), newiterS hs.hr (.inl hid), ?_⟩
    · have e := run_range_string w t s ht
      simp only [execOp, h2, Sem.run_bind, e, Result.andThen_ok]
      rfl
    · have := VR.iter (w := { w with heap := w.heap.push (.stringIter s 0) }) (μ := updN μ id w.heap.size) (H := updH H id (.iter (.str s 0))) (id := id) ⟨_, by rw [updH_eq, if_pos rfl]⟩
      simpa [updN] using this) (hK id _ hid (updH_same _ _ _) fun _ h => updH_ne _ _ h)
theorem setiterS {w : World} {μ : Nat → Nat} (hr : HR w μ H) {id p p' : Nat} {s : ByteArray} (hid : H id = some (.iter (.str s p))) :
    Ext w μ H (w.iterAt (μ id) s p') μ (updH H id (.iter (.str s p'))) ∧ HR (w.iterAt (μ id) s p') μ (updH H id (.iter (.str s p'))) := by
  have hoth : ∀ b, b ≠ μ id → (w.iterAt (μ id) s p').heap[b]? = w.heap[b]? := fun b h => iterAt_other w _ b s p' h
  have hlt := hr.lt hid rfl
  have he : Ext w μ H (w.iterAt (μ id) s p') μ (updH H id (.iter (.str s p'))) := by
    refine ⟨by rw [iterAt_size]; exact Nat.le_refl _, fun b h => ⟨?_, ?_⟩, fun i v hk => ?_, fun i v hk ha => ?_, fun i hm => ?_, fun i hm => ?_, ⟨rfl, rfl, rfl, fun _ => Nat.le_refl _⟩⟩
    · exact hoth b fun e => h.2 ⟨id, _, hid, rfl, e.symm⟩
    · rintro ⟨i, B, h1, h2, h3⟩
      rw [updH_eq] at h1
      by_cases g : i = id
      · subst g; exact h.2 ⟨i, _, hid, rfl, h3⟩
      · rw [if_neg g] at h1; exact h.2 ⟨i, B, h1, h2, h3⟩
    · obtain ⟨B, v', h1, h2, h3⟩ := hk
      by_cases g : i = id
      · subst g
        rw [hid] at h1; cases h1
        cases h2
        exact ⟨_, 0, by rw [updH_eq, if_pos rfl], rfl, h3⟩
      · exact ⟨B, v', by rw [updH_eq, if_neg g]; exact h1, h2, h3⟩
    · obtain ⟨c, ha⟩ := ha
      rw [updH_eq] at ha
      by_cases g : i = id
      · rw [if_pos g] at ha; cases ha
      · rw [if_neg g] at ha
        refine ⟨⟨c, ha⟩, rfl, ?_⟩
        have hne : μ i ≠ μ id := fun e => g (hr.inj i id _ _ ha hid rfl rfl e)
        simp only [bsize, hoth _ hne]
    · obtain ⟨es0, hm⟩ := hm
      have g : i ≠ id := by rintro rfl; rw [hid] at hm; cases hm
      exact ⟨⟨es0, by rw [updH_eq, if_neg g]; exact hm⟩, rfl⟩
    · obtain ⟨it, hm⟩ := hm
      by_cases g : i = id
      · exact ⟨⟨_, by rw [updH_eq, if_pos g]⟩, rfl⟩
      · exact ⟨⟨it, by rw [updH_eq, if_neg g]; exact hm⟩, rfl⟩
  refine ⟨he, hr.change he (fun i => updH_eq _ _ _ _) (fun _ _ => rfl) ?_ ?_ ?_ ?_ ?_ ?_⟩
  · intro _ i C g hi hC e
    exact g (hr.inj i id C _ hi hid hC rfl e.symm)
  · intro i C g hi hC
    exact hoth _ fun e => g (hr.inj i id C _ hi hid hC rfl e)
  · intro v c hB; cases hB
  · intro e hB; cases hB
  · intro es _ _ h; cases h
  · intro it h
    cases h
    exact ⟨iterAt_heap w _ s p p' (hr.iters id _ hid).1, fun m' n' seen2 e => by cases e⟩
theorem AOp.nextS {x : Operand} {id p : Nat} {s : ByteArray} (hn : Nat.ble (d + 1) n = true) (hx : ev f x = .it id) (hid : H id = some (.iter (.str s p)))
    (hno : s.size ≤ p → K (upd f d (.tup [.bool false])) H)
    (hyes : ∀ H', p < s.size → H' id = some (.iter (.str s (p + (Utf8.decode s p).2))) → (∀ i, i ≠ id → H' i = H i) → K (upd f d (.tup [.bool true, .int .i64 p, .int .i32 (Utf8.decode s p).1])) H') : AOp P n ⟨some d, .next x true, ty, pos, after, guard⟩ K f H :=
  .values hn (fun μ a w hs => by
    have h1 := hs.ev x
    rw [hx] at h1
    have hp : a.eval x = .pointer (some ⟨μ id, 0, none⟩) := by
      generalize a.eval x = zz at h1
      cases h1
      rfl
    have i1 := (hs.hr.iters id _ hid).1
    by_cases hlt : p < s.size
    · obtain ⟨s1, s2⟩ := setiterS (p' := p + (Utf8.decode s p).2) hs.hr hid
      refine ⟨_, _, _, _, μ, by simp only [execOp, hp, Sem.run_map, Sem.run_bind, run_next_any_at (P := P) w (μ id) s p ty i1 hlt, Result.andThen_ok]; rfl, s1, s2, .tup (cells := [.bool true, .int .i64 p, .int .i32 (Utf8.decode s p).1]) rfl ?_, hyes _ hlt (updH_same _ _ _) fun _ h => updH_ne _ _ h⟩
      intro k x y hx hy
      match k, hx, hy with
      | 0, hx, hy => cases hx; cases hy; exact .bool _
      | 1, hx, hy => cases hx; cases hy; exact .int _ _
      | 2, hx, hy => cases hx; cases hy; exact .int _ _
      | n + 3, hx, _ => simp at hx
    · refine ⟨_, H, .tuple #[.bool false], w, μ, by simp [execOp, hp, run_next_end_at (P := P) w (μ id) s p ty i1 hlt], .refl _ _ _, hs.hr, .tup (cells := [.bool false]) rfl ?_, hno (by omega)⟩
      intro k x y hx hy
      match k, hx, hy with
      | 0, hx, hy => cases hx; cases hy; exact .bool _
      | n + 1, hx, _ => simp at hx)
end
end Go.AH
namespace Go.Proofs.L
open Go Go.AH
set_option maxRecDepth 4000
set_option linter.unusedSectionVars false
class LexG where
  cm : Array Value
  m : Int
  hm : cm[0]? = some (.int .i64 m)
  ce : Array Value
  e : Value
  hce : ce[0]? = some e
  he : e = .nilIface ∨ ∃ te pe, e = .iface te pe
def lexBlk [LexG] : Nat → Option (Array Value) := fun g => if g = 0 then some (Lib.asciiSpaceTab.map fun z => Value.int .u8 z).toArray else if g = 2 then some LexG.cm else if g = 6 then some LexG.ce else none
instance instG [LexG] : Globs := { val := fun _ => none, blk := lexBlk }
variable [LexG]
def eI (x : Int) : AV := .int .i64 x
def eStr (x : ByteArray) : AV := .str x
def eI_u8 (x : Int) : AV := .int .u8 x
def eF (l : List Int) : AV := .sl l.length (l.map eI)
theorem ui94 : ∃ ms, Tryz.prog.underlying 94 = some (.interface ms) := ⟨_, rfl⟩
structure LineT where
  No : Int
  Words : (List ByteArray)
  deriving Inhabited
def eLine (x : LineT) : List AV := [.int .i64 x.No, .sl x.Words.length (x.Words.map eStr)]
theorem eLine_len (x : LineT) : (eLine x).length = 2 := rfl
structure VT where
  X : Int
  Y : Int
  Z : Int
  deriving DecidableEq, Inhabited
def eV (x : VT) : List AV := [.int .i64 x.X, .int .i64 x.Y, .int .i64 x.Z]
theorem eV_len (x : VT) : (eV x).length = 3 := rfl
theorem eV_iff (a b : VT) : a = b ↔ eV a = eV b := by
  refine ⟨fun h => by rw [h], fun h => ?_⟩
  obtain ⟨_, _, _⟩ := a; obtain ⟨_, _, _⟩ := b
  simp [eV] at h
  simp [h]
structure ColT where
  R : Int
  G : Int
  B : Int
  deriving DecidableEq, Inhabited
def eCol (x : ColT) : List AV := [.int .i64 x.R, .int .i64 x.G, .int .i64 x.B]
theorem eCol_iff (a b : ColT) : a = b ↔ eCol a = eCol b := by
  refine ⟨fun h => by rw [h], fun h => ?_⟩
  obtain ⟨_, _, _⟩ := a; obtain ⟨_, _, _⟩ := b
  simp [eCol] at h
  simp [h]
structure CamT where
  Eye : VT
  First : VT
  Right : VT
  Down : VT
  W : Int
  H : Int
  Grid : Int
  Depth : Int
  deriving DecidableEq, Inhabited
def eCam (x : CamT) : List AV := [.int .i64 x.Eye.X, .int .i64 x.Eye.Y, .int .i64 x.Eye.Z, .int .i64 x.First.X, .int .i64 x.First.Y, .int .i64 x.First.Z, .int .i64 x.Right.X, .int .i64 x.Right.Y, .int .i64 x.Right.Z, .int .i64 x.Down.X, .int .i64 x.Down.Y, .int .i64 x.Down.Z, .int .i64 x.W, .int .i64 x.H, .int .i64 x.Grid, .int .i64 x.Depth]
theorem eCam_iff (a b : CamT) : a = b ↔ eCam a = eCam b := by
  refine ⟨fun h => by rw [h], fun h => ?_⟩
  obtain ⟨⟨_, _, _⟩, ⟨_, _, _⟩, ⟨_, _, _⟩, ⟨_, _, _⟩, _, _, _, _⟩ := a; obtain ⟨⟨_, _, _⟩, ⟨_, _, _⟩, ⟨_, _, _⟩, ⟨_, _, _⟩, _, _, _, _⟩ := b
  simp [eCam] at h
  simp [h]
structure LightT where
  At : VT
  Color : ColT
  deriving DecidableEq, Inhabited
def eLight (x : LightT) : List AV := [.int .i64 x.At.X, .int .i64 x.At.Y, .int .i64 x.At.Z, .int .i64 x.Color.R, .int .i64 x.Color.G, .int .i64 x.Color.B]
theorem eLight_len (x : LightT) : (eLight x).length = 6 := rfl
theorem eLight_iff (a b : LightT) : a = b ↔ eLight a = eLight b := by
  refine ⟨fun h => by rw [h], fun h => ?_⟩
  obtain ⟨⟨_, _, _⟩, ⟨_, _, _⟩⟩ := a; obtain ⟨⟨_, _, _⟩, ⟨_, _, _⟩⟩ := b
  simp [eLight] at h
  simp [h]
structure MatT where
  Name : ByteArray
  Color : ColT
  Shine : Int
  Sharp : Int
  Mirror : Int
  Clear : Int
  Ior : Int
  deriving Inhabited
def eMat (x : MatT) : List AV := [.str x.Name, .int .i64 x.Color.R, .int .i64 x.Color.G, .int .i64 x.Color.B, .int .i64 x.Shine, .int .i64 x.Sharp, .int .i64 x.Mirror, .int .i64 x.Clear, .int .i64 x.Ior]
theorem eMat_len (x : MatT) : (eMat x).length = 9 := rfl
structure TexT where
  Name : ByteArray
  W : Int
  H : Int
  Rows : (List Int)
  deriving Inhabited
def eTex (x : TexT) : List AV := [.str x.Name, .int .i64 x.W, .int .i64 x.H, .sl x.Rows.length (x.Rows.map eI)]
theorem eTex_len (x : TexT) : (eTex x).length = 4 := rfl
structure SkinT where
  Name : ByteArray
  Mat : Int
  Levels : Int
  Unit : Int
  Tex : Int
  Height : Int
  deriving Inhabited
def eSkin (x : SkinT) : List AV := [.str x.Name, .int .i64 x.Mat, .int .i64 x.Levels, .int .i64 x.Unit, .int .i64 x.Tex, .int .i64 x.Height]
theorem eSkin_len (x : SkinT) : (eSkin x).length = 6 := rfl
structure CrT where
  A : Int
  B : Int
  S : Int
  deriving DecidableEq, Inhabited
def eCr (x : CrT) : List AV := [.int .i64 x.A, .int .i64 x.B, .int .i64 x.S]
theorem eCr_len (x : CrT) : (eCr x).length = 3 := rfl
theorem eCr_iff (a b : CrT) : a = b ↔ eCr a = eCr b := by
  refine ⟨fun h => by rw [h], fun h => ?_⟩
  obtain ⟨_, _, _⟩ := a; obtain ⟨_, _, _⟩ := b
  simp [eCr] at h
  simp [h]
structure CageT where
  Verts : (List VT)
  Faces : (List (List Int))
  Creases : (List CrT)
  deriving DecidableEq, Inhabited
def eCage (x : CageT) : List AV := [.sl x.Verts.length (x.Verts.flatMap eV), .sl x.Faces.length (x.Faces.map eF), .sl x.Creases.length (x.Creases.flatMap eCr)]
theorem eCage_len (x : CageT) : (eCage x).length = 3 := rfl
structure SceneT where
  Camera : CamT
  Sky : ColT
  Lights : (List LightT)
  Mats : (List MatT)
  Texs : (List TexT)
  Skins : (List SkinT)
  Cages : (List CageT)
  deriving Inhabited
def eScene (x : SceneT) : List AV := [.int .i64 x.Camera.Eye.X, .int .i64 x.Camera.Eye.Y, .int .i64 x.Camera.Eye.Z, .int .i64 x.Camera.First.X, .int .i64 x.Camera.First.Y, .int .i64 x.Camera.First.Z, .int .i64 x.Camera.Right.X, .int .i64 x.Camera.Right.Y, .int .i64 x.Camera.Right.Z, .int .i64 x.Camera.Down.X, .int .i64 x.Camera.Down.Y, .int .i64 x.Camera.Down.Z, .int .i64 x.Camera.W, .int .i64 x.Camera.H, .int .i64 x.Camera.Grid, .int .i64 x.Camera.Depth, .int .i64 x.Sky.R, .int .i64 x.Sky.G, .int .i64 x.Sky.B, .sl x.Lights.length (x.Lights.flatMap eLight), .sl x.Mats.length (x.Mats.flatMap eMat), .sl x.Texs.length (x.Texs.flatMap eTex), .sl x.Skins.length (x.Skins.flatMap eSkin), .sl x.Cages.length (x.Cages.flatMap eCage)]
theorem u_3 : Tryz.prog.underlying 3 = some (.int .i64) := rfl
theorem ty_3 : TY Tryz.prog 3 false 1 := ⟨⟨_, rfl, rfl⟩, _, rfl, rfl⟩
theorem ts_3 : TSize Tryz.prog 3 1 := ty_3.size
theorem tz_3 : TZero Tryz.prog 3 [.int .i64 0] := ⟨_, _, rfl, rfl, rfl⟩
theorem tzn_3 : TZn Tryz.prog 3 1 := ⟨_, _, rfl, rfl, rfl, rfl⟩
theorem tb_3 : TBytes Tryz.prog 3 8 := ⟨_, rfl, Nat.le_refl _⟩
theorem u_4 : Tryz.prog.underlying 4 = some (.bool) := rfl
theorem ty_4 : TY Tryz.prog 4 false 1 := ⟨⟨_, rfl, rfl⟩, _, rfl, rfl⟩
theorem ts_4 : TSize Tryz.prog 4 1 := ty_4.size
theorem u_5 : Tryz.prog.underlying 5 = some (.int .u8) := rfl
theorem ty_5 : TY Tryz.prog 5 false 1 := ⟨⟨_, rfl, rfl⟩, _, rfl, rfl⟩
theorem ts_5 : TSize Tryz.prog 5 1 := ty_5.size
theorem tz_5 : TZero Tryz.prog 5 [.int .u8 0] := ⟨_, _, rfl, rfl, rfl⟩
theorem tzn_5 : TZn Tryz.prog 5 1 := ⟨_, _, rfl, rfl, rfl, rfl⟩
theorem tb_5 : TBytes Tryz.prog 5 1 := ⟨_, rfl, Nat.le_refl _⟩
theorem u_9 : Tryz.prog.underlying 9 = some (.string) := rfl
theorem ty_9 : TY Tryz.prog 9 false 1 := ⟨⟨_, rfl, rfl⟩, _, rfl, rfl⟩
theorem ts_9 : TSize Tryz.prog 9 1 := ty_9.size
theorem tz_9 : TZero Tryz.prog 9 [.str ⟨#[]⟩] := ⟨_, _, rfl, rfl, rfl⟩
theorem tzn_9 : TZn Tryz.prog 9 1 := ⟨_, _, rfl, rfl, rfl, rfl⟩
theorem tb_9 : TBytes Tryz.prog 9 16 := ⟨_, rfl, Nat.le_refl _⟩
theorem ty_24 : TY Tryz.prog 24 true 3 := ⟨⟨_, rfl, rfl⟩, _, rfl, rfl⟩
theorem ts_24 : TSize Tryz.prog 24 3 := ty_24.size
theorem tz_24 : TZero Tryz.prog 24 [.int .i64 0, .int .i64 0, .int .i64 0] := ⟨_, _, rfl, rfl, rfl⟩
theorem tzn_24 : TZn Tryz.prog 24 3 := ⟨_, _, rfl, rfl, rfl, rfl⟩
theorem tb_24 : TBytes Tryz.prog 24 24 := ⟨_, rfl, Nat.le_refl _⟩
theorem fl_24_2 : TField Tryz.prog 24 2 2 false 1 := ⟨_, _, rfl, rfl, rfl, ty_3, by decide⟩
theorem pl_24 : TPlaces Tryz.prog 24 (lookupL [(0, 1), (1, 1), (2, 1)]) := .inl ⟨_, rfl, fun j => match j with
    | 0 => .inr ⟨_, _, rfl, ts_3, rfl⟩
    | 1 => .inr ⟨_, _, rfl, ts_3, rfl⟩
    | 2 => .inr ⟨_, _, rfl, ts_3, rfl⟩
    | j + 3 => .inl ⟨rfl, by simp⟩⟩
theorem ty_26 : TY Tryz.prog 26 true 16 := ⟨⟨_, rfl, rfl⟩, _, rfl, rfl⟩
theorem ts_26 : TSize Tryz.prog 26 16 := ty_26.size
theorem tz_26 : TZero Tryz.prog 26 [.int .i64 0, .int .i64 0, .int .i64 0, .int .i64 0, .int .i64 0, .int .i64 0, .int .i64 0, .int .i64 0, .int .i64 0, .int .i64 0, .int .i64 0, .int .i64 0, .int .i64 0, .int .i64 0, .int .i64 0, .int .i64 0] := ⟨_, _, rfl, rfl, rfl⟩
theorem fl_26_0 : TField Tryz.prog 26 0 0 true 3 := ⟨_, _, rfl, rfl, rfl, ty_24, by decide⟩
theorem pl_26 : TPlaces Tryz.prog 26 (lookupL [(0, 3), (3, 3), (6, 3), (9, 3), (12, 1), (13, 1), (14, 1), (15, 1)]) := .inl ⟨_, rfl, fun j => match j with
    | 0 => .inr ⟨_, _, rfl, ts_24, rfl⟩
    | 1 => .inr ⟨_, _, rfl, ts_24, rfl⟩
    | 2 => .inr ⟨_, _, rfl, ts_24, rfl⟩
    | 3 => .inr ⟨_, _, rfl, ts_24, rfl⟩
    | 4 => .inr ⟨_, _, rfl, ts_3, rfl⟩
    | 5 => .inr ⟨_, _, rfl, ts_3, rfl⟩
    | 6 => .inr ⟨_, _, rfl, ts_3, rfl⟩
    | 7 => .inr ⟨_, _, rfl, ts_3, rfl⟩
    | j + 8 => .inl ⟨rfl, by simp⟩⟩
theorem ty_28 : TY Tryz.prog 28 true 3 := ⟨⟨_, rfl, rfl⟩, _, rfl, rfl⟩
theorem ts_28 : TSize Tryz.prog 28 3 := ty_28.size
theorem tz_28 : TZero Tryz.prog 28 [.int .i64 0, .int .i64 0, .int .i64 0] := ⟨_, _, rfl, rfl, rfl⟩
theorem pl_28 : TPlaces Tryz.prog 28 (lookupL [(0, 1), (1, 1), (2, 1)]) := .inl ⟨_, rfl, fun j => match j with
    | 0 => .inr ⟨_, _, rfl, ts_3, rfl⟩
    | 1 => .inr ⟨_, _, rfl, ts_3, rfl⟩
    | 2 => .inr ⟨_, _, rfl, ts_3, rfl⟩
    | j + 3 => .inl ⟨rfl, by simp⟩⟩
theorem u_29 : Tryz.prog.underlying 29 = some (.slice 65) := rfl
theorem ty_29 : TY Tryz.prog 29 false 1 := ⟨⟨_, rfl, rfl⟩, _, rfl, rfl⟩
theorem ts_29 : TSize Tryz.prog 29 1 := ty_29.size
theorem ni_29 : NotInt Tryz.prog 29 := ⟨_, rfl, rfl⟩
theorem sl_29 : TSlice Tryz.prog 29 6 := ⟨65, rfl, _, rfl, rfl⟩
theorem u_30 : Tryz.prog.underlying 30 = some (.slice 67) := rfl
theorem ty_30 : TY Tryz.prog 30 false 1 := ⟨⟨_, rfl, rfl⟩, _, rfl, rfl⟩
theorem ts_30 : TSize Tryz.prog 30 1 := ty_30.size
theorem ni_30 : NotInt Tryz.prog 30 := ⟨_, rfl, rfl⟩
theorem sl_30 : TSlice Tryz.prog 30 9 := ⟨67, rfl, _, rfl, rfl⟩
theorem u_31 : Tryz.prog.underlying 31 = some (.slice 70) := rfl
theorem ty_31 : TY Tryz.prog 31 false 1 := ⟨⟨_, rfl, rfl⟩, _, rfl, rfl⟩
theorem ts_31 : TSize Tryz.prog 31 1 := ty_31.size
theorem ni_31 : NotInt Tryz.prog 31 := ⟨_, rfl, rfl⟩
theorem sl_31 : TSlice Tryz.prog 31 4 := ⟨70, rfl, _, rfl, rfl⟩
theorem u_32 : Tryz.prog.underlying 32 = some (.slice 50) := rfl
theorem ty_32 : TY Tryz.prog 32 false 1 := ⟨⟨_, rfl, rfl⟩, _, rfl, rfl⟩
theorem ts_32 : TSize Tryz.prog 32 1 := ty_32.size
theorem ni_32 : NotInt Tryz.prog 32 := ⟨_, rfl, rfl⟩
theorem sl_32 : TSlice Tryz.prog 32 6 := ⟨50, rfl, _, rfl, rfl⟩
theorem u_33 : Tryz.prog.underlying 33 = some (.slice 48) := rfl
theorem ty_33 : TY Tryz.prog 33 false 1 := ⟨⟨_, rfl, rfl⟩, _, rfl, rfl⟩
theorem ts_33 : TSize Tryz.prog 33 1 := ty_33.size
theorem ni_33 : NotInt Tryz.prog 33 := ⟨_, rfl, rfl⟩
theorem sl_33 : TSlice Tryz.prog 33 3 := ⟨48, rfl, _, rfl, rfl⟩
theorem ty_35 : TY Tryz.prog 35 true 24 := ⟨⟨_, rfl, rfl⟩, _, rfl, rfl⟩
theorem ts_35 : TSize Tryz.prog 35 24 := ty_35.size
theorem tz_35 : TZero Tryz.prog 35 [.int .i64 0, .int .i64 0, .int .i64 0, .int .i64 0, .int .i64 0, .int .i64 0, .int .i64 0, .int .i64 0, .int .i64 0, .int .i64 0, .int .i64 0, .int .i64 0, .int .i64 0, .int .i64 0, .int .i64 0, .int .i64 0, .int .i64 0, .int .i64 0, .int .i64 0, .snil, .snil, .snil, .snil, .snil] := ⟨_, _, rfl, rfl, rfl⟩
theorem fl_35_0 : TField Tryz.prog 35 0 0 true 16 := ⟨_, _, rfl, rfl, rfl, ty_26, by decide⟩
theorem fl_35_1 : TField Tryz.prog 35 1 16 true 3 := ⟨_, _, rfl, rfl, rfl, ty_28, by decide⟩
theorem fl_35_2 : TField Tryz.prog 35 2 19 false 1 := ⟨_, _, rfl, rfl, rfl, ty_29, by decide⟩
theorem fl_35_3 : TField Tryz.prog 35 3 20 false 1 := ⟨_, _, rfl, rfl, rfl, ty_30, by decide⟩
theorem fl_35_4 : TField Tryz.prog 35 4 21 false 1 := ⟨_, _, rfl, rfl, rfl, ty_31, by decide⟩
theorem fl_35_5 : TField Tryz.prog 35 5 22 false 1 := ⟨_, _, rfl, rfl, rfl, ty_32, by decide⟩
theorem fl_35_6 : TField Tryz.prog 35 6 23 false 1 := ⟨_, _, rfl, rfl, rfl, ty_33, by decide⟩
theorem pl_35 : TPlaces Tryz.prog 35 (lookupL [(0, 16), (16, 3), (19, 1), (20, 1), (21, 1), (22, 1), (23, 1)]) := .inl ⟨_, rfl, fun j => match j with
    | 0 => .inr ⟨_, _, rfl, ts_26, rfl⟩
    | 1 => .inr ⟨_, _, rfl, ts_28, rfl⟩
    | 2 => .inr ⟨_, _, rfl, ts_29, rfl⟩
    | 3 => .inr ⟨_, _, rfl, ts_30, rfl⟩
    | 4 => .inr ⟨_, _, rfl, ts_31, rfl⟩
    | 5 => .inr ⟨_, _, rfl, ts_32, rfl⟩
    | 6 => .inr ⟨_, _, rfl, ts_33, rfl⟩
    | j + 7 => .inl ⟨rfl, by simp⟩⟩
theorem u_36 : Tryz.prog.underlying 36 = some (.int .i64) := rfl
theorem ty_36 : TY Tryz.prog 36 false 1 := ⟨⟨_, rfl, rfl⟩, _, rfl, rfl⟩
theorem ts_36 : TSize Tryz.prog 36 1 := ty_36.size
theorem tz_36 : TZero Tryz.prog 36 [.int .i64 0] := ⟨_, _, rfl, rfl, rfl⟩
theorem u_44 : Tryz.prog.underlying 44 = some (.slice 24) := rfl
theorem ty_44 : TY Tryz.prog 44 false 1 := ⟨⟨_, rfl, rfl⟩, _, rfl, rfl⟩
theorem ts_44 : TSize Tryz.prog 44 1 := ty_44.size
theorem ni_44 : NotInt Tryz.prog 44 := ⟨_, rfl, rfl⟩
theorem sl_44 : TSlice Tryz.prog 44 3 := ⟨24, rfl, _, rfl, rfl⟩
theorem u_45 : Tryz.prog.underlying 45 = some (.slice 68) := rfl
theorem ty_45 : TY Tryz.prog 45 false 1 := ⟨⟨_, rfl, rfl⟩, _, rfl, rfl⟩
theorem ts_45 : TSize Tryz.prog 45 1 := ty_45.size
theorem ni_45 : NotInt Tryz.prog 45 := ⟨_, rfl, rfl⟩
theorem sl_45 : TSlice Tryz.prog 45 1 := ⟨68, rfl, _, rfl, rfl⟩
theorem u_46 : Tryz.prog.underlying 46 = some (.slice 91) := rfl
theorem ty_46 : TY Tryz.prog 46 false 1 := ⟨⟨_, rfl, rfl⟩, _, rfl, rfl⟩
theorem ts_46 : TSize Tryz.prog 46 1 := ty_46.size
theorem ni_46 : NotInt Tryz.prog 46 := ⟨_, rfl, rfl⟩
theorem sl_46 : TSlice Tryz.prog 46 3 := ⟨91, rfl, _, rfl, rfl⟩
theorem ty_48 : TY Tryz.prog 48 true 3 := ⟨⟨_, rfl, rfl⟩, _, rfl, rfl⟩
theorem ts_48 : TSize Tryz.prog 48 3 := ty_48.size
theorem tz_48 : TZero Tryz.prog 48 [.snil, .snil, .snil] := ⟨_, _, rfl, rfl, rfl⟩
theorem tzn_48 : TZn Tryz.prog 48 3 := ⟨_, _, rfl, rfl, rfl, rfl⟩
theorem tb_48 : TBytes Tryz.prog 48 72 := ⟨_, rfl, Nat.le_refl _⟩
theorem fl_48_0 : TField Tryz.prog 48 0 0 false 1 := ⟨_, _, rfl, rfl, rfl, ty_44, by decide⟩
theorem fl_48_1 : TField Tryz.prog 48 1 1 false 1 := ⟨_, _, rfl, rfl, rfl, ty_45, by decide⟩
theorem fl_48_2 : TField Tryz.prog 48 2 2 false 1 := ⟨_, _, rfl, rfl, rfl, ty_46, by decide⟩
theorem pl_48 : TPlaces Tryz.prog 48 (lookupL [(0, 1), (1, 1), (2, 1)]) := .inl ⟨_, rfl, fun j => match j with
    | 0 => .inr ⟨_, _, rfl, ts_44, rfl⟩
    | 1 => .inr ⟨_, _, rfl, ts_45, rfl⟩
    | 2 => .inr ⟨_, _, rfl, ts_46, rfl⟩
    | j + 3 => .inl ⟨rfl, by simp⟩⟩
theorem ty_50 : TY Tryz.prog 50 true 6 := ⟨⟨_, rfl, rfl⟩, _, rfl, rfl⟩
theorem ts_50 : TSize Tryz.prog 50 6 := ty_50.size
theorem tz_50 : TZero Tryz.prog 50 [.str ⟨#[]⟩, .int .i64 0, .int .i64 0, .int .i64 0, .int .i64 0, .int .i64 0] := ⟨_, _, rfl, rfl, rfl⟩
theorem tzn_50 : TZn Tryz.prog 50 6 := ⟨_, _, rfl, rfl, rfl, rfl⟩
theorem tb_50 : TBytes Tryz.prog 50 56 := ⟨_, rfl, Nat.le_refl _⟩
theorem fl_50_0 : TField Tryz.prog 50 0 0 false 1 := ⟨_, _, rfl, rfl, rfl, ty_9, by decide⟩
theorem fl_50_4 : TField Tryz.prog 50 4 4 false 1 := ⟨_, _, rfl, rfl, rfl, ty_3, by decide⟩
theorem pl_50 : TPlaces Tryz.prog 50 (lookupL [(0, 1), (1, 1), (2, 1), (3, 1), (4, 1), (5, 1)]) := .inl ⟨_, rfl, fun j => match j with
    | 0 => .inr ⟨_, _, rfl, ts_9, rfl⟩
    | 1 => .inr ⟨_, _, rfl, ts_3, rfl⟩
    | 2 => .inr ⟨_, _, rfl, ts_3, rfl⟩
    | 3 => .inr ⟨_, _, rfl, ts_3, rfl⟩
    | 4 => .inr ⟨_, _, rfl, ts_3, rfl⟩
    | 5 => .inr ⟨_, _, rfl, ts_3, rfl⟩
    | j + 6 => .inl ⟨rfl, by simp⟩⟩
theorem u_51 : Tryz.prog.underlying 51 = some (.slice 59) := rfl
theorem ni_51 : NotInt Tryz.prog 51 := ⟨_, rfl, rfl⟩
theorem sl_51 : TSlice Tryz.prog 51 2 := ⟨59, rfl, _, rfl, rfl⟩
theorem tz_56 : TZero Tryz.prog 56 [.int .i64 0, .int .i64 0, .int .i64 0, .int .i64 0, .int .i64 0, .int .i64 0, .int .i64 0, .int .i64 0, .int .i64 0, .int .i64 0, .int .i64 0, .int .i64 0, .int .i64 0, .int .i64 0, .int .i64 0, .int .i64 0, .int .i64 0, .int .i64 0, .int .i64 0, .snil, .snil, .snil, .snil, .snil, .bool false, .bool false] := ⟨_, _, rfl, rfl, rfl⟩
theorem fl_56_0 : TField Tryz.prog 56 0 0 true 24 := ⟨_, _, rfl, rfl, rfl, ty_35, by decide⟩
theorem fl_56_1 : TField Tryz.prog 56 1 24 false 1 := ⟨_, _, rfl, rfl, rfl, ty_4, by decide⟩
theorem fl_56_2 : TField Tryz.prog 56 2 25 false 1 := ⟨_, _, rfl, rfl, rfl, ty_4, by decide⟩
theorem pl_56 : TPlaces Tryz.prog 56 (lookupL [(0, 24), (24, 1), (25, 1)]) := .inl ⟨_, rfl, fun j => match j with
    | 0 => .inr ⟨_, _, rfl, ts_35, rfl⟩
    | 1 => .inr ⟨_, _, rfl, ts_4, rfl⟩
    | 2 => .inr ⟨_, _, rfl, ts_4, rfl⟩
    | j + 3 => .inl ⟨rfl, by simp⟩⟩
theorem u_57 : Tryz.prog.underlying 57 = some (.slice 9) := rfl
theorem ty_57 : TY Tryz.prog 57 false 1 := ⟨⟨_, rfl, rfl⟩, _, rfl, rfl⟩
theorem ts_57 : TSize Tryz.prog 57 1 := ty_57.size
theorem ni_57 : NotInt Tryz.prog 57 := ⟨_, rfl, rfl⟩
theorem sl_57 : TSlice Tryz.prog 57 1 := ⟨9, rfl, _, rfl, rfl⟩
theorem ty_59 : TY Tryz.prog 59 true 2 := ⟨⟨_, rfl, rfl⟩, _, rfl, rfl⟩
theorem ts_59 : TSize Tryz.prog 59 2 := ty_59.size
theorem tz_59 : TZero Tryz.prog 59 [.int .i64 0, .snil] := ⟨_, _, rfl, rfl, rfl⟩
theorem tzn_59 : TZn Tryz.prog 59 2 := ⟨_, _, rfl, rfl, rfl, rfl⟩
theorem tb_59 : TBytes Tryz.prog 59 32 := ⟨_, rfl, Nat.le_refl _⟩
theorem fl_59_0 : TField Tryz.prog 59 0 0 false 1 := ⟨_, _, rfl, rfl, rfl, ty_3, by decide⟩
theorem fl_59_1 : TField Tryz.prog 59 1 1 false 1 := ⟨_, _, rfl, rfl, rfl, ty_57, by decide⟩
theorem pl_59 : TPlaces Tryz.prog 59 (lookupL [(0, 1), (1, 1)]) := .inl ⟨_, rfl, fun j => match j with
    | 0 => .inr ⟨_, _, rfl, ts_3, rfl⟩
    | 1 => .inr ⟨_, _, rfl, ts_57, rfl⟩
    | j + 2 => .inl ⟨rfl, by simp⟩⟩
theorem tz_63 : TZero Tryz.prog 63 [.int .i64 0, .int .i64 0, .int .i64 0, .int .i64 0, .int .i64 0, .int .i64 0, .int .i64 0, .int .i64 0, .int .i64 0, .int .i64 0, .int .i64 0, .int .i64 0, .int .i64 0, .int .i64 0, .int .i64 0, .int .i64 0, .int .i64 0, .int .i64 0, .int .i64 0, .snil, .snil, .snil, .snil, .snil, .bool false, .bool false] := ⟨_, _, rfl, rfl, rfl⟩
theorem fl_63_0 : TField Tryz.prog 63 0 0 true 24 := ⟨_, _, rfl, rfl, rfl, ty_35, by decide⟩
theorem fl_63_1 : TField Tryz.prog 63 1 24 false 1 := ⟨_, _, rfl, rfl, rfl, ty_4, by decide⟩
theorem fl_63_2 : TField Tryz.prog 63 2 25 false 1 := ⟨_, _, rfl, rfl, rfl, ty_4, by decide⟩
theorem pl_63 : TPlaces Tryz.prog 63 (lookupL [(0, 24), (24, 1), (25, 1)]) := .inl ⟨_, rfl, fun j => match j with
    | 0 => .inr ⟨_, _, rfl, ts_35, rfl⟩
    | 1 => .inr ⟨_, _, rfl, ts_4, rfl⟩
    | 2 => .inr ⟨_, _, rfl, ts_4, rfl⟩
    | j + 3 => .inl ⟨rfl, by simp⟩⟩
theorem ty_65 : TY Tryz.prog 65 true 6 := ⟨⟨_, rfl, rfl⟩, _, rfl, rfl⟩
theorem ts_65 : TSize Tryz.prog 65 6 := ty_65.size
theorem tz_65 : TZero Tryz.prog 65 [.int .i64 0, .int .i64 0, .int .i64 0, .int .i64 0, .int .i64 0, .int .i64 0] := ⟨_, _, rfl, rfl, rfl⟩
theorem tzn_65 : TZn Tryz.prog 65 6 := ⟨_, _, rfl, rfl, rfl, rfl⟩
theorem tb_65 : TBytes Tryz.prog 65 48 := ⟨_, rfl, Nat.le_refl _⟩
theorem pl_65 : TPlaces Tryz.prog 65 (lookupL [(0, 3), (3, 3)]) := .inl ⟨_, rfl, fun j => match j with
    | 0 => .inr ⟨_, _, rfl, ts_24, rfl⟩
    | 1 => .inr ⟨_, _, rfl, ts_28, rfl⟩
    | j + 2 => .inl ⟨rfl, by simp⟩⟩
theorem ty_67 : TY Tryz.prog 67 true 9 := ⟨⟨_, rfl, rfl⟩, _, rfl, rfl⟩
theorem ts_67 : TSize Tryz.prog 67 9 := ty_67.size
theorem tz_67 : TZero Tryz.prog 67 [.str ⟨#[]⟩, .int .i64 0, .int .i64 0, .int .i64 0, .int .i64 0, .int .i64 0, .int .i64 0, .int .i64 0, .int .i64 0] := ⟨_, _, rfl, rfl, rfl⟩
theorem tzn_67 : TZn Tryz.prog 67 9 := ⟨_, _, rfl, rfl, rfl, rfl⟩
theorem tb_67 : TBytes Tryz.prog 67 80 := ⟨_, rfl, Nat.le_refl _⟩
theorem fl_67_0 : TField Tryz.prog 67 0 0 false 1 := ⟨_, _, rfl, rfl, rfl, ty_9, by decide⟩
theorem pl_67 : TPlaces Tryz.prog 67 (lookupL [(0, 1), (1, 3), (4, 1), (5, 1), (6, 1), (7, 1), (8, 1)]) := .inl ⟨_, rfl, fun j => match j with
    | 0 => .inr ⟨_, _, rfl, ts_9, rfl⟩
    | 1 => .inr ⟨_, _, rfl, ts_28, rfl⟩
    | 2 => .inr ⟨_, _, rfl, ts_3, rfl⟩
    | 3 => .inr ⟨_, _, rfl, ts_3, rfl⟩
    | 4 => .inr ⟨_, _, rfl, ts_3, rfl⟩
    | 5 => .inr ⟨_, _, rfl, ts_3, rfl⟩
    | 6 => .inr ⟨_, _, rfl, ts_3, rfl⟩
    | j + 7 => .inl ⟨rfl, by simp⟩⟩
theorem u_68 : Tryz.prog.underlying 68 = some (.slice 3) := rfl
theorem ty_68 : TY Tryz.prog 68 false 1 := ⟨⟨_, rfl, rfl⟩, _, rfl, rfl⟩
theorem ts_68 : TSize Tryz.prog 68 1 := ty_68.size
theorem tz_68 : TZero Tryz.prog 68 [.snil] := ⟨_, _, rfl, rfl, rfl⟩
theorem tzn_68 : TZn Tryz.prog 68 1 := ⟨_, _, rfl, rfl, rfl, rfl⟩
theorem tb_68 : TBytes Tryz.prog 68 24 := ⟨_, rfl, Nat.le_refl _⟩
theorem ni_68 : NotInt Tryz.prog 68 := ⟨_, rfl, rfl⟩
theorem sl_68 : TSlice Tryz.prog 68 1 := ⟨3, rfl, _, rfl, rfl⟩
theorem ty_70 : TY Tryz.prog 70 true 4 := ⟨⟨_, rfl, rfl⟩, _, rfl, rfl⟩
theorem ts_70 : TSize Tryz.prog 70 4 := ty_70.size
theorem tz_70 : TZero Tryz.prog 70 [.str ⟨#[]⟩, .int .i64 0, .int .i64 0, .snil] := ⟨_, _, rfl, rfl, rfl⟩
theorem tzn_70 : TZn Tryz.prog 70 4 := ⟨_, _, rfl, rfl, rfl, rfl⟩
theorem tb_70 : TBytes Tryz.prog 70 56 := ⟨_, rfl, Nat.le_refl _⟩
theorem fl_70_0 : TField Tryz.prog 70 0 0 false 1 := ⟨_, _, rfl, rfl, rfl, ty_9, by decide⟩
theorem fl_70_1 : TField Tryz.prog 70 1 1 false 1 := ⟨_, _, rfl, rfl, rfl, ty_3, by decide⟩
theorem fl_70_2 : TField Tryz.prog 70 2 2 false 1 := ⟨_, _, rfl, rfl, rfl, ty_3, by decide⟩
theorem fl_70_3 : TField Tryz.prog 70 3 3 false 1 := ⟨_, _, rfl, rfl, rfl, ty_68, by decide⟩
theorem pl_70 : TPlaces Tryz.prog 70 (lookupL [(0, 1), (1, 1), (2, 1), (3, 1)]) := .inl ⟨_, rfl, fun j => match j with
    | 0 => .inr ⟨_, _, rfl, ts_9, rfl⟩
    | 1 => .inr ⟨_, _, rfl, ts_3, rfl⟩
    | 2 => .inr ⟨_, _, rfl, ts_3, rfl⟩
    | 3 => .inr ⟨_, _, rfl, ts_68, rfl⟩
    | j + 4 => .inl ⟨rfl, by simp⟩⟩
theorem u_75 : Tryz.prog.underlying 75 = some (.slice 5) := rfl
theorem ni_75 : NotInt Tryz.prog 75 := ⟨_, rfl, rfl⟩
theorem ty_91 : TY Tryz.prog 91 true 3 := ⟨⟨_, rfl, rfl⟩, _, rfl, rfl⟩
theorem ts_91 : TSize Tryz.prog 91 3 := ty_91.size
theorem tz_91 : TZero Tryz.prog 91 [.int .i64 0, .int .i64 0, .int .i64 0] := ⟨_, _, rfl, rfl, rfl⟩
theorem tzn_91 : TZn Tryz.prog 91 3 := ⟨_, _, rfl, rfl, rfl, rfl⟩
theorem tb_91 : TBytes Tryz.prog 91 24 := ⟨_, rfl, Nat.le_refl _⟩
theorem pl_91 : TPlaces Tryz.prog 91 (lookupL [(0, 1), (1, 1), (2, 1)]) := .inl ⟨_, rfl, fun j => match j with
    | 0 => .inr ⟨_, _, rfl, ts_3, rfl⟩
    | 1 => .inr ⟨_, _, rfl, ts_3, rfl⟩
    | 2 => .inr ⟨_, _, rfl, ts_3, rfl⟩
    | j + 3 => .inl ⟨rfl, by simp⟩⟩
theorem tf_8 : TFun Tryz.prog 8 := ⟨_, rfl, rfl, rfl⟩
theorem tf_9 : TFun Tryz.prog 9 := ⟨_, rfl, rfl, rfl⟩
theorem tf_10 : TFun Tryz.prog 10 := ⟨_, rfl, rfl, rfl⟩
theorem tf_11 : TFun Tryz.prog 11 := ⟨_, rfl, rfl, rfl⟩
theorem tf_16 : TFun Tryz.prog 16 := ⟨_, rfl, rfl, rfl⟩
theorem tf_17 : TFun Tryz.prog 17 := ⟨_, rfl, rfl, rfl⟩
theorem tf_18 : TFun Tryz.prog 18 := ⟨_, rfl, rfl, rfl⟩
theorem tf_19 : TFun Tryz.prog 19 := ⟨_, rfl, rfl, rfl⟩
theorem tf_20 : TFun Tryz.prog 20 := ⟨_, rfl, rfl, rfl⟩
theorem tf_21 : TFun Tryz.prog 21 := ⟨_, rfl, rfl, rfl⟩
theorem tf_26 : TFun Tryz.prog 26 := ⟨_, rfl, rfl, rfl⟩
theorem tf_27 : TFun Tryz.prog 27 := ⟨_, rfl, rfl, rfl⟩
theorem tf_28 : TFun Tryz.prog 28 := ⟨_, rfl, rfl, rfl⟩
theorem tf_29 : TFun Tryz.prog 29 := ⟨_, rfl, rfl, rfl⟩
theorem tf_30 : TFun Tryz.prog 30 := ⟨_, rfl, rfl, rfl⟩
theorem tf_32 : TFun Tryz.prog 32 := ⟨_, rfl, rfl, rfl⟩
theorem tf_33 : TFun Tryz.prog 33 := ⟨_, rfl, rfl, rfl⟩
theorem tf_34 : TFun Tryz.prog 34 := ⟨_, rfl, rfl, rfl⟩
theorem tf_35 : TFun Tryz.prog 35 := ⟨_, rfl, rfl, rfl⟩
theorem tf_36 : TFun Tryz.prog 36 := ⟨_, rfl, rfl, rfl⟩
theorem tf_37 : TFun Tryz.prog 37 := ⟨_, rfl, rfl, rfl⟩
theorem tf_38 : TFun Tryz.prog 38 := ⟨_, rfl, rfl, rfl⟩
theorem tf_39 : TFun Tryz.prog 39 := ⟨_, rfl, rfl, rfl⟩
theorem tf_40 : TFun Tryz.prog 40 := ⟨_, rfl, rfl, rfl⟩
theorem tf_41 : TFun Tryz.prog 41 := ⟨_, rfl, rfl, rfl⟩
theorem tf_42 : TFun Tryz.prog 42 := ⟨_, rfl, rfl, rfl⟩
theorem tf_43 : TFun Tryz.prog 43 := ⟨_, rfl, rfl, rfl⟩
theorem tf_44 : TFun Tryz.prog 44 := ⟨_, rfl, rfl, rfl⟩
theorem tf_45 : TFun Tryz.prog 45 := ⟨_, rfl, rfl, rfl⟩
theorem tf_46 : TFun Tryz.prog 46 := ⟨_, rfl, rfl, rfl⟩
theorem tf_47 : TFun Tryz.prog 47 := ⟨_, rfl, rfl, rfl⟩
theorem tf_72 : TFun Tryz.prog 72 := ⟨_, rfl, rfl, rfl⟩
theorem tf_76 : TFun Tryz.prog 76 := ⟨_, rfl, rfl, rfl⟩
theorem tf_77 : TFun Tryz.prog 77 := ⟨_, rfl, rfl, rfl⟩
theorem tf_78 : TFun Tryz.prog 78 := ⟨_, rfl, rfl, rfl⟩
theorem tf_79 : TFun Tryz.prog 79 := ⟨_, rfl, rfl, rfl⟩
theorem tf_80 : TFun Tryz.prog 80 := ⟨_, rfl, rfl, rfl⟩
theorem tf_81 : TFun Tryz.prog 81 := ⟨_, rfl, rfl, rfl⟩
theorem tf_82 : TFun Tryz.prog 82 := ⟨_, rfl, rfl, rfl⟩
theorem tf_83 : TFun Tryz.prog 83 := ⟨_, rfl, rfl, rfl⟩
theorem tf_84 : TFun Tryz.prog 84 := ⟨_, rfl, rfl, rfl⟩
theorem tf_85 : TFun Tryz.prog 85 := ⟨_, rfl, rfl, rfl⟩
theorem tf_86 : TFun Tryz.prog 86 := ⟨_, rfl, rfl, rfl⟩
theorem tf_87 : TFun Tryz.prog 87 := ⟨_, rfl, rfl, rfl⟩
theorem tf_88 : TFun Tryz.prog 88 := ⟨_, rfl, rfl, rfl⟩
theorem tf_89 : TFun Tryz.prog 89 := ⟨_, rfl, rfl, rfl⟩
theorem tf_90 : TFun Tryz.prog 90 := ⟨_, rfl, rfl, rfl⟩
theorem tf_91 : TFun Tryz.prog 91 := ⟨_, rfl, rfl, rfl⟩
theorem tf_92 : TFun Tryz.prog 92 := ⟨_, rfl, rfl, rfl⟩
theorem tf_93 : TFun Tryz.prog 93 := ⟨_, rfl, rfl, rfl⟩
theorem tf_94 : TFun Tryz.prog 94 := ⟨_, rfl, rfl, rfl⟩
theorem tf_95 : TFun Tryz.prog 95 := ⟨_, rfl, rfl, rfl⟩
theorem tf_104 : TFun Tryz.prog 104 := ⟨_, rfl, rfl, rfl⟩
theorem tf_105 : TFun Tryz.prog 105 := ⟨_, rfl, rfl, rfl⟩
theorem tf_106 : TFun Tryz.prog 106 := ⟨_, rfl, rfl, rfl⟩
theorem tf_107 : TFun Tryz.prog 107 := ⟨_, rfl, rfl, rfl⟩
theorem tf_108 : TFun Tryz.prog 108 := ⟨_, rfl, rfl, rfl⟩
theorem tf_109 : TFun Tryz.prog 109 := ⟨_, rfl, rfl, rfl⟩
theorem tf_110 : TFun Tryz.prog 110 := ⟨_, rfl, rfl, rfl⟩
theorem tf_111 : TFun Tryz.prog 111 := ⟨_, rfl, rfl, rfl⟩
theorem tf_123 : TFun Tryz.prog 123 := ⟨_, rfl, rfl, rfl⟩
theorem tf_124 : TFun Tryz.prog 124 := ⟨_, rfl, rfl, rfl⟩
theorem mixed : Tryz.prog.follows .mixedOrders = true := rfl
end Go.Proofs.L
namespace Go.Proofs
open Go.Shelf
def Tryz.lays172_ren : Go.Shelf.Ren := ⟨fun | 172 => 124 | 244 => 130 | 245 => 131 | 247 => 137 | 279 => 138 | 280 => 139 | 281 => 140 | 282 => 141 | 287 => 147 | 316 => 148 | 171 => 97 | 205 => 149 | 321 => 152 | 322 => 153 | 243 => 113 | 246 => 125 | 283 => 132 | 284 => 133 | 285 => 134 | 286 => 135 | 129 => 143 | 317 => 142 | 318 => 144 | 319 => 145 | 320 => 146 | 337 => 150 | 338 => 151 | n => n, fun | 9 => 9 | 3 => 3 | 75 => 94 | 76 => 95 | 4 => 4 | 5 => 5 | 167 => 188 | 37 => 75 | 0 => 0 | 85 => 189 | 2 => 2 | 168 => 191 | 53 => 179 | 175 => 199 | 46 => 159 | 210 => 203 | 127 => 103 | 145 => 209 | 143 => 207 | 21 => 21 | 171 => 178 | 173 => 182 | 212 => 195 | 51 => 142 | 20 => 20 | 213 => 196 | 232 => 210 | 233 => 211 | 80 => 80 | n => n, fun | 15 => 6 | 16 => 7 | 17 => 5 | 18 => 8 | 19 => 9 | n => n⟩
theorem Tryz.lays172 : Go.Proofs.Lays.n172 Tryz.prog Tryz.lays172_ren := {
  mixed := by kernel_rfl
  f129 := Tryz.func143.trans (congrArg some (by kernel_rfl))
  f171 := Tryz.func97.trans (congrArg some (by kernel_rfl))
  f172 := Tryz.func124.trans (congrArg some (by kernel_rfl))
  f205 := Tryz.func149.trans (congrArg some (by kernel_rfl))
  f243 := Tryz.func113.trans (congrArg some (by kernel_rfl))
  f244 := Tryz.func130.trans (congrArg some (by kernel_rfl))
  f245 := Tryz.func131.trans (congrArg some (by kernel_rfl))
  f246 := Tryz.func125.trans (congrArg some (by kernel_rfl))
  f247 := Tryz.func137.trans (congrArg some (by kernel_rfl))
  f279 := Tryz.func138.trans (congrArg some (by kernel_rfl))
  f280 := Tryz.func139.trans (congrArg some (by kernel_rfl))
  f281 := Tryz.func140.trans (congrArg some (by kernel_rfl))
  f282 := Tryz.func141.trans (congrArg some (by kernel_rfl))
  f283 := Tryz.func132.trans (congrArg some (by kernel_rfl))
  f284 := Tryz.func133.trans (congrArg some (by kernel_rfl))
  f285 := Tryz.func134.trans (congrArg some (by kernel_rfl))
  f286 := Tryz.func135.trans (congrArg some (by kernel_rfl))
  f287 := Tryz.func147.trans (congrArg some (by kernel_rfl))
  f316 := Tryz.func148.trans (congrArg some (by kernel_rfl))
  f317 := Tryz.func142.trans (congrArg some (by kernel_rfl))
  f318 := Tryz.func144.trans (congrArg some (by kernel_rfl))
  f319 := Tryz.func145.trans (congrArg some (by kernel_rfl))
  f320 := Tryz.func146.trans (congrArg some (by kernel_rfl))
  f321 := Tryz.func152.trans (congrArg some (by kernel_rfl))
  f322 := Tryz.func153.trans (congrArg some (by kernel_rfl))
  f337 := Tryz.func150.trans (congrArg some (by kernel_rfl))
  f338 := Tryz.func151.trans (congrArg some (by kernel_rfl))
  t0 := Tryz.underlying0
  a0 := Tryz.isAgg0
  z0 := Tryz.sizeOf0
  v0 := Tryz.zeroValue0
  t2 := Tryz.underlying2
  a2 := Tryz.isAgg2
  z2 := Tryz.sizeOf2
  v2 := Tryz.zeroValue2
  t3 := Tryz.underlying3
  a3 := Tryz.isAgg3
  z3 := Tryz.sizeOf3
  v3 := Tryz.zeroValue3
  t4 := Tryz.underlying4
  a4 := Tryz.isAgg4
  z4 := Tryz.sizeOf4
  v4 := Tryz.zeroValue4
  t5 := Tryz.underlying5
  a5 := Tryz.isAgg5
  z5 := Tryz.sizeOf5
  v5 := Tryz.zeroValue5
  t9 := Tryz.underlying9
  a9 := Tryz.isAgg9
  z9 := Tryz.sizeOf9
  v9 := Tryz.zeroValue9
  t20 := Tryz.underlying20
  a20 := Tryz.isAgg20
  z20 := Tryz.sizeOf20
  v20 := Tryz.zeroValue20
  t21 := Tryz.underlying21
  a21 := Tryz.isAgg21
  z21 := Tryz.sizeOf21
  v21 := Tryz.zeroValue21
  t37 := Tryz.underlying75
  a37 := Tryz.isAgg75
  z37 := Tryz.sizeOf75
  v37 := Tryz.zeroValue75
  t46 := Tryz.underlying159
  a46 := Tryz.isAgg159
  z46 := Tryz.sizeOf159
  v46 := Tryz.zeroValue159
  t51 := Tryz.underlying142
  a51 := Tryz.isAgg142
  z51 := Tryz.sizeOf142
  v51 := Tryz.zeroValue142
  t53 := Tryz.underlying179
  a53 := Tryz.isAgg179
  z53 := Tryz.sizeOf179
  v53 := Tryz.zeroValue179
  t75 := Tryz.underlying94
  a75 := Tryz.isAgg94
  z75 := Tryz.sizeOf94
  v75 := Tryz.zeroValue94
  t76 := Tryz.underlying95
  a76 := Tryz.isAgg95
  z76 := Tryz.sizeOf95
  v76 := Tryz.zeroValue95
  t85 := Tryz.underlying189
  a85 := Tryz.isAgg189
  z85 := Tryz.sizeOf189
  v85 := Tryz.zeroValue189
  t127 := Tryz.underlying103
  a127 := Tryz.isAgg103
  z127 := Tryz.sizeOf103
  v127 := Tryz.zeroValue103
  t143 := Tryz.underlying207
  a143 := Tryz.isAgg207
  z143 := Tryz.sizeOf207
  v143 := Tryz.zeroValue207
  t145 := Tryz.underlying209
  a145 := Tryz.isAgg209
  z145 := Tryz.sizeOf209
  v145 := Tryz.zeroValue209
  t167 := Tryz.underlying188
  a167 := Tryz.isAgg188
  z167 := Tryz.sizeOf188
  v167 := Tryz.zeroValue188
  t168 := Tryz.underlying191
  a168 := Tryz.isAgg191
  z168 := Tryz.sizeOf191
  v168 := Tryz.zeroValue191
  t171 := Tryz.underlying178
  a171 := Tryz.isAgg178
  z171 := Tryz.sizeOf178
  v171 := Tryz.zeroValue178
  t173 := Tryz.underlying182
  a173 := Tryz.isAgg182
  z173 := Tryz.sizeOf182
  v173 := Tryz.zeroValue182
  t175 := Tryz.underlying199
  a175 := Tryz.isAgg199
  z175 := Tryz.sizeOf199
  v175 := Tryz.zeroValue199
  t210 := Tryz.underlying203
  a210 := Tryz.isAgg203
  z210 := Tryz.sizeOf203
  v210 := Tryz.zeroValue203
  t212 := Tryz.underlying195
  a212 := Tryz.isAgg195
  z212 := Tryz.sizeOf195
  v212 := Tryz.zeroValue195
  t213 := Tryz.underlying196
  a213 := Tryz.isAgg196
  z213 := Tryz.sizeOf196
  t232 := Tryz.underlying210
  a232 := Tryz.isAgg210
  z232 := Tryz.sizeOf210
  v232 := Tryz.zeroValue210
  t233 := Tryz.underlying211
  a233 := Tryz.isAgg211
  z233 := Tryz.sizeOf211
  v233 := Tryz.zeroValue211
  g15 := by kernel_rfl
  g16 := by kernel_rfl
  g17 := by kernel_rfl
  g18 := by kernel_rfl
  g19 := by kernel_rfl }
open Go.RowKit in
theorem Tryz.strconv_Atoi (s : ByteArray) (n : Int) (hl : s.size ≤ 18) (h : Lib.atoi s.data.toList = some n) (w : World) :
    Calls Tryz.prog 124 #[.string s] w fun e w' => e = .returned (.tuple #[.int .i64 n, .nilIface]) ∧ ∃ t, w' = Lib.bytesWorld w 5 t := Any.strconv_Atoi Tryz.lays172 s n hl h w
def Tryz.laysC172_ren : Go.Shelf.Ren := ⟨fun | 172 => 124 | 244 => 130 | 245 => 131 | 247 => 137 | 279 => 138 | 280 => 139 | 281 => 140 | 282 => 141 | 287 => 147 | 316 => 148 | 171 => 97 | 205 => 149 | 321 => 152 | 322 => 153 | 243 => 113 | 246 => 125 | 283 => 132 | 284 => 133 | 285 => 134 | 286 => 135 | 129 => 143 | 317 => 142 | 318 => 144 | 319 => 145 | 320 => 146 | 337 => 150 | 338 => 151 | n => n, fun | 9 => 9 | 3 => 3 | 75 => 94 | 76 => 95 | 4 => 4 | 5 => 5 | 167 => 188 | 37 => 75 | 0 => 0 | 85 => 189 | 2 => 2 | 168 => 191 | 53 => 179 | 175 => 199 | 46 => 159 | 210 => 203 | 127 => 103 | 145 => 209 | 143 => 207 | 21 => 21 | 171 => 178 | 173 => 182 | 212 => 195 | 51 => 142 | 20 => 20 | 213 => 196 | 232 => 210 | 233 => 211 | 80 => 80 | n => n, fun | 15 => 6 | 16 => 7 | 17 => 5 | 18 => 8 | 19 => 9 | n => n⟩
theorem Tryz.laysC172 : Go.Proofs.LaysC.n172 Tryz.prog Tryz.laysC172_ren := {
  mixed := by kernel_rfl
  f129 := Tryz.func143.trans (congrArg some (by kernel_rfl))
  f171 := Tryz.func97.trans (congrArg some (by kernel_rfl))
  f172 := Tryz.func124.trans (congrArg some (by kernel_rfl))
  f205 := Tryz.func149.trans (congrArg some (by kernel_rfl))
  f243 := Tryz.func113.trans (congrArg some (by kernel_rfl))
  f244 := Tryz.func130.trans (congrArg some (by kernel_rfl))
  f245 := Tryz.func131.trans (congrArg some (by kernel_rfl))
  f246 := Tryz.func125.trans (congrArg some (by kernel_rfl))
  f247 := Tryz.func137.trans (congrArg some (by kernel_rfl))
  f279 := Tryz.func138.trans (congrArg some (by kernel_rfl))
  f280 := Tryz.func139.trans (congrArg some (by kernel_rfl))
  f281 := Tryz.func140.trans (congrArg some (by kernel_rfl))
  f282 := Tryz.func141.trans (congrArg some (by kernel_rfl))
  f283 := Tryz.func132.trans (congrArg some (by kernel_rfl))
  f284 := Tryz.func133.trans (congrArg some (by kernel_rfl))
  f285 := Tryz.func134.trans (congrArg some (by kernel_rfl))
  f286 := Tryz.func135.trans (congrArg some (by kernel_rfl))
  f287 := Tryz.func147.trans (congrArg some (by kernel_rfl))
  f316 := Tryz.func148.trans (congrArg some (by kernel_rfl))
  f317 := Tryz.func142.trans (congrArg some (by kernel_rfl))
  f318 := Tryz.func144.trans (congrArg some (by kernel_rfl))
  f319 := Tryz.func145.trans (congrArg some (by kernel_rfl))
  f320 := Tryz.func146.trans (congrArg some (by kernel_rfl))
  f321 := Tryz.func152.trans (congrArg some (by kernel_rfl))
  f322 := Tryz.func153.trans (congrArg some (by kernel_rfl))
  f337 := Tryz.func150.trans (congrArg some (by kernel_rfl))
  f338 := Tryz.func151.trans (congrArg some (by kernel_rfl))
  t0 := Tryz.underlying0
  a0 := Tryz.isAgg0
  z0 := Tryz.sizeOf0
  v0 := Tryz.zeroValue0
  t2 := Tryz.underlying2
  a2 := Tryz.isAgg2
  z2 := Tryz.sizeOf2
  v2 := Tryz.zeroValue2
  t3 := Tryz.underlying3
  a3 := Tryz.isAgg3
  z3 := Tryz.sizeOf3
  v3 := Tryz.zeroValue3
  t4 := Tryz.underlying4
  a4 := Tryz.isAgg4
  z4 := Tryz.sizeOf4
  v4 := Tryz.zeroValue4
  t5 := Tryz.underlying5
  a5 := Tryz.isAgg5
  z5 := Tryz.sizeOf5
  v5 := Tryz.zeroValue5
  t9 := Tryz.underlying9
  a9 := Tryz.isAgg9
  z9 := Tryz.sizeOf9
  v9 := Tryz.zeroValue9
  t20 := Tryz.underlying20
  a20 := Tryz.isAgg20
  z20 := Tryz.sizeOf20
  v20 := Tryz.zeroValue20
  t21 := Tryz.underlying21
  a21 := Tryz.isAgg21
  z21 := Tryz.sizeOf21
  v21 := Tryz.zeroValue21
  t37 := Tryz.underlying75
  a37 := Tryz.isAgg75
  z37 := Tryz.sizeOf75
  v37 := Tryz.zeroValue75
  t46 := Tryz.underlying159
  a46 := Tryz.isAgg159
  z46 := Tryz.sizeOf159
  v46 := Tryz.zeroValue159
  t51 := Tryz.underlying142
  a51 := Tryz.isAgg142
  z51 := Tryz.sizeOf142
  v51 := Tryz.zeroValue142
  t53 := Tryz.underlying179
  a53 := Tryz.isAgg179
  z53 := Tryz.sizeOf179
  v53 := Tryz.zeroValue179
  t75 := Tryz.underlying94
  a75 := Tryz.isAgg94
  z75 := Tryz.sizeOf94
  v75 := Tryz.zeroValue94
  t76 := Tryz.underlying95
  a76 := Tryz.isAgg95
  z76 := Tryz.sizeOf95
  v76 := Tryz.zeroValue95
  t85 := Tryz.underlying189
  a85 := Tryz.isAgg189
  z85 := Tryz.sizeOf189
  v85 := Tryz.zeroValue189
  t127 := Tryz.underlying103
  a127 := Tryz.isAgg103
  z127 := Tryz.sizeOf103
  v127 := Tryz.zeroValue103
  t143 := Tryz.underlying207
  a143 := Tryz.isAgg207
  z143 := Tryz.sizeOf207
  v143 := Tryz.zeroValue207
  t145 := Tryz.underlying209
  a145 := Tryz.isAgg209
  z145 := Tryz.sizeOf209
  v145 := Tryz.zeroValue209
  t167 := Tryz.underlying188
  a167 := Tryz.isAgg188
  z167 := Tryz.sizeOf188
  v167 := Tryz.zeroValue188
  t168 := Tryz.underlying191
  a168 := Tryz.isAgg191
  z168 := Tryz.sizeOf191
  v168 := Tryz.zeroValue191
  t171 := Tryz.underlying178
  a171 := Tryz.isAgg178
  z171 := Tryz.sizeOf178
  v171 := Tryz.zeroValue178
  t173 := Tryz.underlying182
  a173 := Tryz.isAgg182
  z173 := Tryz.sizeOf182
  v173 := Tryz.zeroValue182
  t175 := Tryz.underlying199
  a175 := Tryz.isAgg199
  z175 := Tryz.sizeOf199
  v175 := Tryz.zeroValue199
  t210 := Tryz.underlying203
  a210 := Tryz.isAgg203
  z210 := Tryz.sizeOf203
  v210 := Tryz.zeroValue203
  t212 := Tryz.underlying195
  a212 := Tryz.isAgg195
  z212 := Tryz.sizeOf195
  v212 := Tryz.zeroValue195
  t213 := Tryz.underlying196
  a213 := Tryz.isAgg196
  z213 := Tryz.sizeOf196
  t232 := Tryz.underlying210
  a232 := Tryz.isAgg210
  z232 := Tryz.sizeOf210
  v232 := Tryz.zeroValue210
  t233 := Tryz.underlying211
  a233 := Tryz.isAgg211
  z233 := Tryz.sizeOf211
  v233 := Tryz.zeroValue211
  g15 := by kernel_rfl
  g16 := by kernel_rfl
  g17 := by kernel_rfl
  g18 := by kernel_rfl
  g19 := by kernel_rfl
  t80 := Tryz.underlying80
  a80 := Tryz.isAgg80
  z80 := Tryz.sizeOf80
  v80 := Tryz.zeroValue80
  i0 := by kernel_rfl
  i2 := by kernel_rfl
  i3 := by kernel_rfl
  i4 := by kernel_rfl
  i5 := by kernel_rfl
  i9 := by kernel_rfl
  i20 := by kernel_rfl
  i21 := by kernel_rfl
  i37 := by kernel_rfl
  i46 := by kernel_rfl
  i51 := by kernel_rfl
  i53 := by kernel_rfl
  i75 := by kernel_rfl
  i76 := by kernel_rfl
  i80 := by kernel_rfl
  i85 := by kernel_rfl
  i127 := by kernel_rfl
  i143 := by kernel_rfl
  i145 := by kernel_rfl
  i167 := by kernel_rfl
  i168 := by kernel_rfl
  i171 := by kernel_rfl
  i173 := by kernel_rfl
  i175 := by kernel_rfl
  i210 := by kernel_rfl
  i212 := by kernel_rfl
  i232 := by kernel_rfl
  i233 := by kernel_rfl
  m15 := by kernel_rfl
  m16 := by kernel_rfl
  m17 := by kernel_rfl
  m18 := by kernel_rfl
  m19 := by kernel_rfl
  c0 := by kernel_rfl
  c2 := by kernel_rfl
  c3 := by kernel_rfl
  c4 := by kernel_rfl
  c5 := by kernel_rfl
  c9 := by kernel_rfl
  c20 := by kernel_rfl
  c21 := by kernel_rfl
  c37 := by kernel_rfl
  c46 := by kernel_rfl
  c51 := by kernel_rfl
  c53 := by kernel_rfl
  c75 := by kernel_rfl
  c76 := by kernel_rfl
  c80 := by kernel_rfl
  c85 := by kernel_rfl
  c127 := by kernel_rfl
  c143 := by kernel_rfl
  c145 := by kernel_rfl
  c167 := by kernel_rfl
  c168 := by kernel_rfl
  c171 := by kernel_rfl
  c173 := by kernel_rfl
  c175 := by kernel_rfl
  c210 := by kernel_rfl
  c212 := by kernel_rfl
  c213 := by kernel_rfl
  c232 := by kernel_rfl
  c233 := by kernel_rfl }
open Go.RowKit in
theorem Tryz.strconv_Atoi_err (s : ByteArray) (hl : s.size ≤ 18) (h : Lib.atoi s.data.toList = none) (ev : Value) (w : World) (hv : w.cell? ⟨6, 0, none⟩ = some ev) (hev : ev = .nilIface ∨ ∃ te pe, ev = .iface te pe) :
    Calls Tryz.prog 124 #[.string s] w fun e w' => ∃ N, e = .returned (.tuple #[.int .i64 0, .iface 191 (.pointer (some ⟨N, 0, none⟩))]) ∧ w.heap.size ≤ N ∧ w'.heap[N]? = some (.cells #[.string ⟨#[65, 116, 111, 105]⟩, .string s, ev] 203 (0, 0)) ∧ Below w.heap.size w w' := Any.strconv_Atoi_err Tryz.laysC172 s hl h ev w hv hev
def Tryz.lays145_ren : Go.Shelf.Ren := ⟨fun | 145 => 29 | 220 => 73 | 219 => 102 | 217 => 117 | 225 => 118 | 224 => 119 | 267 => 120 | 266 => 127 | 314 => 128 | n => n, fun | 9 => 9 | 4 => 4 | 59 => 86 | 3 => 3 | 5 => 5 | 46 => 159 | 146 => 173 | 51 => 142 | n => n, fun | 1 => 2 | n => n⟩
theorem Tryz.lays145 : Go.Proofs.Lays.n145 Tryz.prog Tryz.lays145_ren := {
  mixed := by kernel_rfl
  f145 := Tryz.func29.trans (congrArg some (by kernel_rfl))
  f217 := Tryz.func117.trans (congrArg some (by kernel_rfl))
  f219 := Tryz.func102.trans (congrArg some (by kernel_rfl))
  f220 := Tryz.func73.trans (congrArg some (by kernel_rfl))
  f224 := Tryz.func119.trans (congrArg some (by kernel_rfl))
  f225 := Tryz.func118.trans (congrArg some (by kernel_rfl))
  f266 := Tryz.func127.trans (congrArg some (by kernel_rfl))
  f267 := Tryz.func120.trans (congrArg some (by kernel_rfl))
  f314 := Tryz.func128.trans (congrArg some (by kernel_rfl))
  t3 := Tryz.underlying3
  a3 := Tryz.isAgg3
  z3 := Tryz.sizeOf3
  v3 := Tryz.zeroValue3
  t4 := Tryz.underlying4
  a4 := Tryz.isAgg4
  z4 := Tryz.sizeOf4
  v4 := Tryz.zeroValue4
  t5 := Tryz.underlying5
  a5 := Tryz.isAgg5
  z5 := Tryz.sizeOf5
  v5 := Tryz.zeroValue5
  t9 := Tryz.underlying9
  a9 := Tryz.isAgg9
  z9 := Tryz.sizeOf9
  v9 := Tryz.zeroValue9
  t46 := Tryz.underlying159
  a46 := Tryz.isAgg159
  z46 := Tryz.sizeOf159
  v46 := Tryz.zeroValue159
  t51 := Tryz.underlying142
  a51 := Tryz.isAgg142
  z51 := Tryz.sizeOf142
  v51 := Tryz.zeroValue142
  t59 := Tryz.underlying86
  a59 := Tryz.isAgg86
  z59 := Tryz.sizeOf86
  v59 := Tryz.zeroValue86
  t146 := Tryz.underlying173
  a146 := Tryz.isAgg173
  z146 := Tryz.sizeOf173
  v146 := Tryz.zeroValue173
  g1 := by kernel_rfl }
open Go.RowKit Go.Lib in
theorem Tryz.strings_Cut (s sep : ByteArray) (m : Int) (w : World) (hs : s.size < 4294967281) (hm : w.cell? ⟨2, 0, none⟩ = some (.int .i64 m)) :
    Calls Tryz.prog 29 #[.string s, .string sep] w fun e w' => e = .returned (.tuple #[.string ⟨(Lib.cut s.data.toList sep.data.toList).1.toArray⟩, .string ⟨(Lib.cut s.data.toList sep.data.toList).2.1.toArray⟩, .bool (Lib.cut s.data.toList sep.data.toList).2.2]) ∧ ∃ n, w' = w.drewN n := Any.strings_Cut Tryz.lays145 s sep m w hs hm
def Tryz.lays101_ren : Go.Shelf.Ren := ⟨fun | 101 => 123 | 208 => 129 | 206 => 136 | n => n, fun | 9 => 9 | 4 => 4 | 3 => 3 | n => n, fun | n => n⟩
theorem Tryz.lays101 : Go.Proofs.Lays.n101 Tryz.prog Tryz.lays101_ren := {
  mixed := by kernel_rfl
  f101 := Tryz.func123.trans (congrArg some (by kernel_rfl))
  f206 := Tryz.func136.trans (congrArg some (by kernel_rfl))
  f208 := Tryz.func129.trans (congrArg some (by kernel_rfl))
  t3 := Tryz.underlying3
  a3 := Tryz.isAgg3
  z3 := Tryz.sizeOf3
  v3 := Tryz.zeroValue3
  t4 := Tryz.underlying4
  a4 := Tryz.isAgg4
  z4 := Tryz.sizeOf4
  v4 := Tryz.zeroValue4
  t9 := Tryz.underlying9
  a9 := Tryz.isAgg9
  z9 := Tryz.sizeOf9
  v9 := Tryz.zeroValue9 }
open Go.RowKit Go.Lib in
theorem Tryz.strings_TrimPrefix (s p : ByteArray) (w : World) :
    Calls Tryz.prog 123 #[.string s, .string p] w fun e w' => e = .returned (.string ⟨(Lib.trimPrefix s.data.toList p.data.toList).toArray⟩) ∧ w' = w := Any.strings_TrimPrefix Tryz.lays101 s p w
def Tryz.lays146_ren : Go.Shelf.Ren := ⟨fun | 146 => 26 | 221 => 71 | 268 => 99 | 138 => 100 | 143 => 101 | 195 => 114 | 197 => 115 | 218 => 116 | 219 => 102 | 260 => 126 | 217 => 117 | 225 => 118 | 224 => 119 | 267 => 120 | 266 => 127 | 314 => 128 | n => n, fun | 9 => 9 | 31 => 57 | 3 => 3 | 4 => 4 | 0 => 0 | 105 => 155 | 21 => 21 | 5 => 5 | 46 => 159 | 119 => 118 | 139 => 186 | 138 => 185 | 146 => 173 | 51 => 142 | n => n, fun | 1 => 2 | 3 => 3 | 4 => 4 | n => n⟩
theorem Tryz.lays146 : Go.Proofs.Lays.n146 Tryz.prog Tryz.lays146_ren := {
  mixed := by kernel_rfl
  f138 := Tryz.func100.trans (congrArg some (by kernel_rfl))
  f143 := Tryz.func101.trans (congrArg some (by kernel_rfl))
  f146 := Tryz.func26.trans (congrArg some (by kernel_rfl))
  f195 := Tryz.func114.trans (congrArg some (by kernel_rfl))
  f197 := Tryz.func115.trans (congrArg some (by kernel_rfl))
  f217 := Tryz.func117.trans (congrArg some (by kernel_rfl))
  f218 := Tryz.func116.trans (congrArg some (by kernel_rfl))
  f219 := Tryz.func102.trans (congrArg some (by kernel_rfl))
  f221 := Tryz.func71.trans (congrArg some (by kernel_rfl))
  f224 := Tryz.func119.trans (congrArg some (by kernel_rfl))
  f225 := Tryz.func118.trans (congrArg some (by kernel_rfl))
  f260 := Tryz.func126.trans (congrArg some (by kernel_rfl))
  f266 := Tryz.func127.trans (congrArg some (by kernel_rfl))
  f267 := Tryz.func120.trans (congrArg some (by kernel_rfl))
  f268 := Tryz.func99.trans (congrArg some (by kernel_rfl))
  f314 := Tryz.func128.trans (congrArg some (by kernel_rfl))
  t0 := Tryz.underlying0
  a0 := Tryz.isAgg0
  z0 := Tryz.sizeOf0
  v0 := Tryz.zeroValue0
  t3 := Tryz.underlying3
  a3 := Tryz.isAgg3
  z3 := Tryz.sizeOf3
  v3 := Tryz.zeroValue3
  t4 := Tryz.underlying4
  a4 := Tryz.isAgg4
  z4 := Tryz.sizeOf4
  v4 := Tryz.zeroValue4
  t5 := Tryz.underlying5
  a5 := Tryz.isAgg5
  z5 := Tryz.sizeOf5
  v5 := Tryz.zeroValue5
  t9 := Tryz.underlying9
  a9 := Tryz.isAgg9
  z9 := Tryz.sizeOf9
  v9 := Tryz.zeroValue9
  t21 := Tryz.underlying21
  a21 := Tryz.isAgg21
  z21 := Tryz.sizeOf21
  v21 := Tryz.zeroValue21
  t31 := Tryz.underlying57
  a31 := Tryz.isAgg57
  z31 := Tryz.sizeOf57
  v31 := Tryz.zeroValue57
  t46 := Tryz.underlying159
  a46 := Tryz.isAgg159
  z46 := Tryz.sizeOf159
  v46 := Tryz.zeroValue159
  t51 := Tryz.underlying142
  a51 := Tryz.isAgg142
  z51 := Tryz.sizeOf142
  v51 := Tryz.zeroValue142
  t105 := Tryz.underlying155
  a105 := Tryz.isAgg155
  z105 := Tryz.sizeOf155
  v105 := Tryz.zeroValue155
  t119 := Tryz.underlying118
  a119 := Tryz.isAgg118
  z119 := Tryz.sizeOf118
  t138 := Tryz.underlying185
  a138 := Tryz.isAgg185
  z138 := Tryz.sizeOf185
  v138 := Tryz.zeroValue185
  t139 := Tryz.underlying186
  a139 := Tryz.isAgg186
  z139 := Tryz.sizeOf186
  v139 := Tryz.zeroValue186
  t146 := Tryz.underlying173
  a146 := Tryz.isAgg173
  z146 := Tryz.sizeOf173
  v146 := Tryz.zeroValue173
  g1 := by kernel_rfl
  g3 := by kernel_rfl
  g4 := by kernel_rfl }
open Go.RowKit Go.Lib in
theorem Tryz.strings_Split (s sep : ByteArray) (m : Int) (w : World) (hs : s.size < 4294967281) (hm : w.cell? ⟨2, 0, none⟩ = some (.int .i64 m)) (h1 : 1 ≤ sep.size) :
    Calls Tryz.prog 26 #[.string s, .string sep] w fun e w' =>
      e = .returned (.slice (some ⟨w.heap.size, 0, none⟩) (Lib.countB s sep + 1) (Lib.countB s sep + 1)) ∧ w' = w.alloc (.cells ((Lib.splitB sep 0 (Lib.countB s sep) s).map Value.string).toArray 9) := Any.strings_Split Tryz.lays146 (by kernel_rfl) s sep m w hs hm h1
def Tryz.lays157_ren : Go.Shelf.Ren := ⟨fun | 157 => 30 | 229 => 74 | 199 => 75 | 261 => 103 | 311 => 121 | 312 => 122 | n => n, fun | 9 => 9 | 31 => 57 | 3 => 3 | 5 => 5 | 4 => 4 | 119 => 118 | 0 => 0 | 40 => 85 | 152 => 139 | 21 => 21 | 154 => 141 | 51 => 142 | 141 => 144 | 196 => 163 | 193 => 160 | 198 => 166 | 49 => 164 | 194 => 161 | 201 => 169 | 226 => 175 | 46 => 159 | 227 => 176 | n => n, fun | 0 => 0 | 6 => 1 | n => n⟩
theorem Tryz.lays157 : Go.Proofs.Lays.n157 Tryz.prog Tryz.lays157_ren := {
  mixed := by kernel_rfl
  f157 := Tryz.func30.trans (congrArg some (by kernel_rfl))
  f199 := Tryz.func75.trans (congrArg some (by kernel_rfl))
  f229 := Tryz.func74.trans (congrArg some (by kernel_rfl))
  f261 := Tryz.func103.trans (congrArg some (by kernel_rfl))
  f311 := Tryz.func121.trans (congrArg some (by kernel_rfl))
  f312 := Tryz.func122.trans (congrArg some (by kernel_rfl))
  t0 := Tryz.underlying0
  a0 := Tryz.isAgg0
  z0 := Tryz.sizeOf0
  v0 := Tryz.zeroValue0
  t3 := Tryz.underlying3
  a3 := Tryz.isAgg3
  z3 := Tryz.sizeOf3
  v3 := Tryz.zeroValue3
  t4 := Tryz.underlying4
  a4 := Tryz.isAgg4
  z4 := Tryz.sizeOf4
  v4 := Tryz.zeroValue4
  t5 := Tryz.underlying5
  a5 := Tryz.isAgg5
  z5 := Tryz.sizeOf5
  v5 := Tryz.zeroValue5
  t9 := Tryz.underlying9
  a9 := Tryz.isAgg9
  z9 := Tryz.sizeOf9
  v9 := Tryz.zeroValue9
  t21 := Tryz.underlying21
  a21 := Tryz.isAgg21
  z21 := Tryz.sizeOf21
  v21 := Tryz.zeroValue21
  t31 := Tryz.underlying57
  a31 := Tryz.isAgg57
  z31 := Tryz.sizeOf57
  v31 := Tryz.zeroValue57
  t40 := Tryz.underlying85
  a40 := Tryz.isAgg85
  z40 := Tryz.sizeOf85
  v40 := Tryz.zeroValue85
  t46 := Tryz.underlying159
  a46 := Tryz.isAgg159
  z46 := Tryz.sizeOf159
  v46 := Tryz.zeroValue159
  t49 := Tryz.underlying164
  a49 := Tryz.isAgg164
  z49 := Tryz.sizeOf164
  v49 := Tryz.zeroValue164
  t51 := Tryz.underlying142
  a51 := Tryz.isAgg142
  z51 := Tryz.sizeOf142
  v51 := Tryz.zeroValue142
  t119 := Tryz.underlying118
  a119 := Tryz.isAgg118
  z119 := Tryz.sizeOf118
  t141 := Tryz.underlying144
  a141 := Tryz.isAgg144
  z141 := Tryz.sizeOf144
  v141 := Tryz.zeroValue144
  t152 := Tryz.underlying139
  a152 := Tryz.isAgg139
  z152 := Tryz.sizeOf139
  v152 := Tryz.zeroValue139
  t154 := Tryz.underlying141
  a154 := Tryz.isAgg141
  z154 := Tryz.sizeOf141
  v154 := Tryz.zeroValue141
  t193 := Tryz.underlying160
  a193 := Tryz.isAgg160
  z193 := Tryz.sizeOf160
  v193 := Tryz.zeroValue160
  t194 := Tryz.underlying161
  a194 := Tryz.isAgg161
  z194 := Tryz.sizeOf161
  v194 := Tryz.zeroValue161
  t196 := Tryz.underlying163
  a196 := Tryz.isAgg163
  z196 := Tryz.sizeOf163
  v196 := Tryz.zeroValue163
  t198 := Tryz.underlying166
  a198 := Tryz.isAgg166
  z198 := Tryz.sizeOf166
  v198 := Tryz.zeroValue166
  t201 := Tryz.underlying169
  a201 := Tryz.isAgg169
  z201 := Tryz.sizeOf169
  v201 := Tryz.zeroValue169
  t226 := Tryz.underlying175
  a226 := Tryz.isAgg175
  z226 := Tryz.sizeOf175
  v226 := Tryz.zeroValue175
  t227 := Tryz.underlying176
  a227 := Tryz.isAgg176
  z227 := Tryz.sizeOf176
  v227 := Tryz.zeroValue176
  g0 := by kernel_rfl
  g6 := by kernel_rfl }
open Go.RowKit Go.Lib in
theorem Tryz.strings_Fields (s : ByteArray) (w : World) (hs : s.size < 4294967281) (hascii : ∀ (j : Nat) b, s.data.toList[j]? = some b → b.toNat < 128) (htab : Lib.TabIs Tryz.prog w "strings.asciiSpace" .u8 Lib.asciiSpaceTab) :
    Calls Tryz.prog 30 #[.string s] w fun e w' =>
      e = .returned (.slice (some ⟨w.heap.size, 0, none⟩) (Lib.fields s.data.toList).length (Lib.fields s.data.toList).length) ∧ w' = w.alloc (.cells ((Lib.fields s.data.toList).map fun l => Value.string ⟨l.toArray⟩).toArray 9) := Any.strings_Fields Tryz.lays157 (by kernel_rfl) (by kernel_rfl) s w hs hascii htab
end Go.Proofs
namespace Go.Proofs.L
open Go Go.AH Go.Lib
set_option maxRecDepth 4000
set_option linter.unusedSectionVars false
variable [LexG]
def nlB : ByteArray := ⟨#[10]⟩
def hashB : ByteArray := ⟨#[35]⟩
def pieces (s : ByteArray) : List ByteArray := splitB nlB 0 (countB s nlB) s
def cut1 (s : ByteArray) : ByteArray := ⟨(cut s.data.toList [35]).1.toArray⟩
def cut2 (s : ByteArray) : ByteArray := ⟨(cut s.data.toList [35]).2.1.toArray⟩
def cut3 (s : ByteArray) : Bool := (cut s.data.toList [35]).2.2
def wordsB (s : ByteArray) : List ByteArray := (fields s.data.toList).map fun l => ⟨l.toArray⟩
def trimM (s : ByteArray) : ByteArray := ⟨(trimPrefix s.data.toList [45]).toArray⟩
def atoiV (s : ByteArray) : Int := (atoi s.data.toList).getD 0
def atoiE (s : ByteArray) : AV := if atoi s.data.toList = none then .iface 191 .undef else .nilIface
theorem atoiE_or (s : ByteArray) : (atoiE s = .nilIface ∧ decide (atoi s.data.toList = none) = false) ∨ ∃ T y, atoiE s = .iface T y ∧ decide (atoi s.data.toList = none) = true := by
  unfold atoiE
  by_cases h : atoi s.data.toList = none
  · exact .inr ⟨_, _, by rw [if_pos h], decide_eq_true h⟩
  · exact .inl ⟨by rw [if_neg h], decide_eq_false h⟩
theorem pieces_length (s : ByteArray) : (pieces s).length = countB s nlB + 1 := splitB_all nlB (by decide) 0 _ s rfl
theorem blk_cell {w : World} {μ : Nat → Nat} {H : Heap} (hr : HR w μ H) {g : Nat} {cs : Array Value} (h : lexBlk g = some cs) (j : Nat) : w.cell? ⟨g, j, none⟩ = cs[j]? := by
  obtain ⟨_, T, fr, e⟩ := hr.glob.blk g cs h
  simp only [World.cell?, e, Option.isSome_none, Bool.false_eq_true, if_false]
theorem alloc_at (w : World) (o : Obj) : (w.alloc o).heap[w.heap.size]? = some o := by
  show (w.heap.push o)[w.heap.size]? = _
  simp
theorem alloc_old (w : World) (o : Obj) (b : Nat) (hb : b < w.heap.size) : (w.alloc o).heap[b]? = w.heap[b]? := by
  show (w.heap.push o)[b]? = _
  rw [Array.getElem?_push, if_neg (by omega)]
theorem alloc_size (w : World) (o : Obj) : w.heap.size ≤ (w.alloc o).heap.size := by
  show _ ≤ (w.heap.push o).size
  simp
theorem lib_alloc {w : World} {μ : Nat → Nat} {H : Heap} (hr : HR w μ H) (l : List ByteArray) {r : AV} (h : r = .sl l.length (l.map eStr)) {v : Value} (hv : v = .slice (some ⟨w.heap.size, 0, none⟩) l.length l.length) {w' : World} (hw : w' = w.alloc (.cells (l.map Value.string).toArray 9)) :
    w.heap.size ≤ w'.heap.size ∧ (∀ b, b < w.heap.size → w'.heap[b]? = w.heap[b]?) ∧ AH.Rest w w' ∧ VR w' μ H r v := by
  subst h hv hw
  exact ⟨alloc_size _ _, alloc_old _ _, ⟨rfl, rfl, rfl, False.elim⟩, VR.strs hr (alloc_at _ _)⟩
theorem c_Split (s : ByteArray) (h : s.size < 4294967281) : PC Tryz.prog 26 [.str s, .str ⟨#[10]⟩] (.sl (pieces s).length ((pieces s).map eStr)) :=
  .lib fun H μ w vs hr hv => by
    obtain ⟨u, v, rfl, h1, h2⟩ := vs2 hv
    cases vstr h1; cases vstr h2
    refine (Tryz.strings_Split s nlB LexG.m w h ((blk_cell hr (g := 2) rfl 0).trans LexG.hm) (by decide)).mono ?_
    rintro e w' ⟨rfl, hw⟩
    exact ⟨_, rfl, lib_alloc hr (pieces s) rfl (by rw [pieces_length]) hw⟩
theorem c_Cut (s : ByteArray) (h : s.size < 4294967281) : PC Tryz.prog 29 [.str s, .str ⟨#[35]⟩] (.tup [.str (cut1 s), .str (cut2 s), .bool (cut3 s)]) :=
  .lib fun H μ w vs hr hv => by
    obtain ⟨u, v, rfl, h1, h2⟩ := vs2 hv
    cases vstr h1; cases vstr h2
    refine (Tryz.strings_Cut s hashB LexG.m w h ((blk_cell hr (g := 2) rfl 0).trans LexG.hm)).mono ?_
    rintro e w' ⟨rfl, n, rfl⟩
    refine ⟨_, rfl, Nat.le_refl _, fun _ _ => rfl, ⟨rfl, rfl, rfl, False.elim⟩, .tup rfl fun j x y hx hy => ?_⟩
    match j, hx, hy with
    | 0, hx, hy => cases hx; cases hy; exact .str _
    | 1, hx, hy => cases hx; cases hy; exact .str _
    | 2, hx, hy => cases hx; cases hy; exact .bool _
    | n + 3, hx, _ => simp at hx
theorem c_Fields (s : ByteArray) (h : s.size < 4294967281) (ha : ∀ (j : Nat) b, s.data.toList[j]? = some b → b.toNat < 128) : PC Tryz.prog 30 [.str s] (.sl (wordsB s).length ((wordsB s).map eStr)) :=
  .lib fun H μ w vs hr hv => by
    obtain ⟨u, rfl, h1⟩ := vs1 hv
    cases vstr h1
    refine (Tryz.strings_Fields s w h ha ?_).mono ?_
    · obtain ⟨_, T, fr, e⟩ := hr.glob.blk 0 _ rfl
      unfold TabIs World.var?
      rw [show Tryz.prog.globalNamed "strings.asciiSpace" = some 0 by kernel_rfl]
      simp only [Option.bind_some, e]
    · rintro e w' ⟨rfl, hw⟩
      refine ⟨_, rfl, lib_alloc hr (wordsB s) rfl (by simp [wordsB]) (by rw [hw]; simp [wordsB, Function.comp_def])⟩
theorem c_Trim (s : ByteArray) : PC Tryz.prog 123 [.str s, .str ⟨#[45]⟩] (.str (trimM s)) :=
  .lib fun H μ w vs hr hv => by
    obtain ⟨u, v, rfl, h1, h2⟩ := vs2 hv
    cases vstr h1; cases vstr h2
    refine (Tryz.strings_TrimPrefix s ⟨#[45]⟩ w).mono ?_
    rintro e w' ⟨rfl, rfl⟩
    exact ⟨_, rfl, Nat.le_refl _, fun _ _ => rfl, .refl _, .str _⟩
theorem c_Atoi (s : ByteArray) (h : s.size ≤ 18) : PC Tryz.prog 124 [.str s] (.tup [.int .i64 (atoiV s), atoiE s]) :=
  .lib fun H μ w vs hr hv => by
    obtain ⟨u, rfl, h1⟩ := vs1 hv
    cases vstr h1
    cases hq : atoi s.data.toList with
    | some n =>
      refine (Tryz.strconv_Atoi s n h hq w).mono ?_
      rintro e w' ⟨rfl, t, rfl⟩
      refine ⟨_, rfl, by rw [bytesWorld_size]; omega, fun b hb => bytesWorld_at_old w 5 t b hb, ⟨rfl, rfl, rfl, False.elim⟩, .tup rfl fun j x y hx hy => ?_⟩
      match j, hx, hy with
      | 0, hx, hy => cases hx; cases hy; simp only [atoiV, hq]; exact .int _ _
      | 1, hx, hy => cases hx; cases hy; simp only [atoiE, hq]; exact .nilIface
      | n + 2, hx, _ => simp at hx
    | none =>
      refine (Tryz.strconv_Atoi_err s h hq LexG.e w ((blk_cell hr (g := 6) rfl 0).trans LexG.hce) LexG.he).mono ?_
      rintro e w' ⟨N, rfl, _, _, hB⟩
      refine ⟨_, rfl, hB.size, fun b hb => hB.block b hb, ⟨hB.tape, hB.os, hB.output, False.elim⟩, .tup rfl fun j x y hx hy => ?_⟩
      match j, hx, hy with
      | 0, hx, hy => cases hx; cases hy; simp only [atoiV, hq]; exact .int _ _
      | 1, hx, hy => cases hx; cases hy; simp only [atoiE, hq]; exact .iface (.undef _)
      | n + 2, hx, _ => simp at hx
end Go.Proofs.L
namespace Go.AH
variable [Globs]
set_option linter.unusedSectionVars false
open Go
abbrev New := Nat × Nat × AB
def NeA (e : New) : List New → Prop
  | [] => True
  | x :: l => (Nat.beq x.1 e.1 = false ∧ x.2.1 ≠ e.2.1) ∧ NeA e l
def FrA (H : Heap) : List New → Prop
  | [] => True
  | e :: l => H e.2.1 = none ∧ NeA e l ∧ FrA H l
theorem NeA.mem {e x : New} : ∀ {l : List New}, NeA e l → x ∈ l → Nat.beq x.1 e.1 = false ∧ x.2.1 ≠ e.2.1
  | _ :: l, h, hx => by
    rcases List.mem_cons.1 hx with rfl | hx
    · exact h.1
    · exact NeA.mem h.2 hx
theorem FrA.none {H : Heap} {e : New} : ∀ {A : List New}, FrA H A → e ∈ A → H e.2.1 = none
  | _ :: _, h, hx => by
    rcases List.mem_cons.1 hx with rfl | hx
    · exact h.1
    · exact FrA.none h.2.2 hx
theorem FrA.inj {H : Heap} {e x : New} : ∀ {A : List New}, FrA H A → e ∈ A → x ∈ A → (e.2.1 = x.2.1 ∨ e.1 = x.1) → e = x
  | a :: l, h, he, hx, hh => by
    rcases List.mem_cons.1 he with rfl | he2
    · rcases List.mem_cons.1 hx with rfl | hx2
      · rfl
      · have := NeA.mem h.2.1 hx2
        rcases hh with hh | hh
        · exact absurd hh.symm this.2
        · rw [hh] at this; simp at this
    · rcases List.mem_cons.1 hx with rfl | hx2
      · have := NeA.mem h.2.1 he2
        rcases hh with hh | hh
        · exact absurd hh this.2
        · rw [hh] at this; simp at this
      · exact FrA.inj h.2.2 he2 hx2 hh
section
variable {P : Program} {n : Nat} {Q : Exit → (Nat → AV) → Heap → Prop} {f : Nat → AV} {H : Heap}
def NewOp (P : Program) (n : Nat) (o : Oper) (id : Nat) (B : AB) (d : Nat) (v : AV) (f : Nat → AV) : Prop :=
  ∀ f' H', (∀ t, (tmpsOf o).elem t = true → f' t = f t) → H' id = some .res → AOp P n o (fun f2 H2 => f2 = upd f' d v ∧ H2 = updH H' id B) f' H'
inductive QPAs (P : Program) (n : Nat) (ops : Array Oper) (A : List New) (H : Heap) (T : (Nat → AV) → Prop) (k : Nat) : Nat → (Nat → AV) → List (Nat × AV) → Prop
  | done {f : Nat → AV} (h : T f) : QPAs P n ops A H T k k f []
  | op {i d : Nat} {f : Nat → AV} {v : AV} {L : List (Nat × AV)} {o : Oper} (hi : ∀ e ∈ A, e.1 ≠ i) (ho : ops[i]? = some o) (hd : o.dst = some d) (h : QOpA P n ops o d v H f) (rest : QPAs P n ops A H T k (i + 1) (upd f d v) L) : QPAs P n ops A H T k i f ((d, v) :: L)
  | new {i d id : Nat} {f : Nat → AV} {v : AV} {B : AB} {L : List (Nat × AV)} {o : Oper} (hi : (i, id, B) ∈ A) (ho : ops[i]? = some o) (hd : o.dst = some d) (hg : o.guard = none) (hop : NewOp P n o id B d v f) (rest : QPAs P n ops A H T k (i + 1) (upd f d v) L) : QPAs P n ops A H T k i f ((d, v) :: L)
theorem QPAs.len {ops : Array Oper} {A : List New} {T : (Nat → AV) → Prop} {k b : Nat} {L : List (Nat × AV)} (h : QPAs P n ops A H T k b f L) : b + L.length = k := by
  induction h with
  | done h => rfl
  | op hi ho hd h rest ih => simp only [List.length_cons]; omega
  | new hi ho hd hg hop rest ih => simp only [List.length_cons]; omega
def QEAs (P : Program) (n : Nat) (ops : Array Oper) (A : List New) (H : Heap) (T : (Nat → AV) → Prop) (k i : Nat) (f : Nat → AV) : Prop := ∃ L, QPAs P n ops A H T k i f L
theorem QEAs.done {ops : Array Oper} {A : List New} {T : (Nat → AV) → Prop} {k : Nat} (h : T f) : QEAs P n ops A H T k k f := ⟨_, .done h⟩
def notinB (A : List New) (i : Nat) : Bool := A.all fun e => !Nat.beq e.1 i
theorem QEAs.op {ops : Array Oper} {A : List New} {T : (Nat → AV) → Prop} {k i d : Nat} {v : AV} {o : Oper} (hi : notinB A i = true) (ho : ops[i]? = some o) (hd : o.dst = some d) (h : QOpA P n ops o d v H f) (rest : QEAs P n ops A H T k (i + 1) (upd f d v)) : QEAs P n ops A H T k i f :=
  let ⟨_, r⟩ := rest; ⟨_, .op (fun e he g => by
    have := List.all_eq_true.1 hi e he
    rw [g] at this; simp at this) ho hd h r⟩
theorem QEAs.alloc {ops : Array Oper} {A : List New} {Z : List AV} {T : (Nat → AV) → Prop} {k i d id : Nat} {o : Oper} {t : TypeId} (hi : (i, id, .row 0 Z) ∈ A) (ho : ops[i]? = some o) (hd : o.dst = some d) (hg : o.guard = none) (hop : o.op = .alloc t) (hn : Nat.ble (d + 1) n = true) (hz : TZero P t Z) (rest : QEAs P n ops A H T k (i + 1) (upd f d (.ptr id 0 0))) : QEAs P n ops A H T k i f :=
  let ⟨_, r⟩ := rest; ⟨_, .new hi ho hd hg (fun f' H' _ hr => by
      obtain ⟨dst, op, ty, pos, after, guard⟩ := o
      simp only at hd hop
      subst hd hop
      exact AOp.alloc_at id (.inr hr) hn hz ⟨rfl, rfl⟩) r⟩
def EntAs (P : Program) (n : Nat) (ops : Array Oper) (A : List New) (H : Heap) (i : Nat) (o : Oper) (d : Nat) (v : AV) (f : Nat → AV) : Prop :=
  ((∀ e ∈ A, e.1 ≠ i) ∧ QOpA P n ops o d v H f) ∨ (∃ id B, (i, id, B) ∈ A ∧ NewOp P n o id B d v f ∧ o.guard = none)
theorem QPAs.get {ops : Array Oper} {A : List New} {T : (Nat → AV) → Prop} {k b : Nat} {L : List (Nat × AV)} (h : QPAs P n ops A H T k b f L) : T (cur L b (fun _ => true) f) ∧
    ∀ m d v, L[m]? = some (d, v) → ∃ o, ops[b + m]? = some o ∧ o.dst = some d ∧ EntAs P n ops A H (b + m) o d v (cur (L.take m) b (fun _ => true) f) := by
  induction h with
  | done h => exact ⟨h, fun m d v hm => by simp at hm⟩
  | op hi ho hd h rest ih =>
    rename_i i d0 f v0 L o
    refine ⟨by rw [cur, if_pos rfl]; exact ih.1, fun m d v hm => ?_⟩
    cases m with
    | zero =>
      simp only [List.getElem?_cons_zero, Option.some.injEq, Prod.mk.injEq] at hm
      obtain ⟨rfl, rfl⟩ := hm
      exact ⟨o, ho, hd, .inl ⟨hi, h⟩⟩
    | succ m =>
      obtain ⟨o', h1, h2, h3⟩ := ih.2 m d v (by simpa using hm)
      rw [show i + 1 + m = i + (m + 1) by omega] at h1 h3
      refine ⟨o', h1, h2, ?_⟩
      rw [List.take_succ_cons, cur, if_pos rfl]; exact h3
  | new hi ho hd hg hop rest ih =>
    rename_i i d0 id f v0 B L o
    refine ⟨by rw [cur, if_pos rfl]; exact ih.1, fun m d v hm => ?_⟩
    cases m with
    | zero =>
      simp only [List.getElem?_cons_zero, Option.some.injEq, Prod.mk.injEq] at hm
      obtain ⟨rfl, rfl⟩ := hm
      exact ⟨o, ho, hd, .inr ⟨id, B, hi, hop, hg⟩⟩
    | succ m =>
      obtain ⟨o', h1, h2, h3⟩ := ih.2 m d v (by simpa using hm)
      rw [show i + 1 + m = i + (m + 1) by omega] at h1 h3
      refine ⟨o', h1, h2, ?_⟩
      rw [List.take_succ_cons, cur, if_pos rfl]; exact h3
end
end Go.AH
namespace Go.AH
variable [Globs]
set_option linter.unusedSectionVars false
open Go
section
variable {P : Program} {n : Nat} {Q : Exit → (Nat → AV) → Heap → Prop} {f : Nat → AV} {H : Heap}
end
end Go.AH
namespace Go.AH
variable [Globs]
set_option linter.unusedSectionVars false
set_option linter.unusedVariables false
set_option linter.unusedSimpArgs false
open Go
section
variable {P : Program} {n : Nat} {Q : Exit → (Nat → AV) → Heap → Prop} {f : Nat → AV} {H : Heap}
def STRN (P : Program) (n : Nat) (ops : Array Oper) (A : List New) (H : Heap) (K : List Ent → (Nat → AV) → Prop) : List Nat → List Ent → (Nat → AV) → Prop
  | [], L, g => K L g
  | i :: r, L, g => ∃ o d v, ops[i]? = some o ∧ o.dst = some d ∧ EntAs P n ops A H i o d v g ∧ STRN P n ops A H K r ((i, some d, v) :: L) (upd g d v)
theorem STRN.done {ops : Array Oper} {A : List New} {K : List Ent → (Nat → AV) → Prop} {L : List Ent} {g : Nat → AV} (h : K L g) : STRN P n ops A H K [] L g := h
theorem STRN.op {ops : Array Oper} {A : List New} {K : List Ent → (Nat → AV) → Prop} {r : List Nat} {L : List Ent} {g : Nat → AV} {i d : Nat} {v : AV} {o : Oper} (hi : notinB A i = true) (ho : ops[i]? = some o) (hd : o.dst = some d) (h : QOpA P n ops o d v H g) (rest : STRN P n ops A H K r ((i, some d, v) :: L) (upd g d v)) : STRN P n ops A H K (i :: r) L g :=
  ⟨o, d, v, ho, hd, .inl ⟨fun e he g => by
    have := List.all_eq_true.1 hi e he
    rw [g] at this; simp at this, h⟩, rest⟩
theorem STRN.alloc {ops : Array Oper} {A : List New} {K : List Ent → (Nat → AV) → Prop} {r : List Nat} {L : List Ent} {g : Nat → AV} {i d id : Nat} {Z : List AV} {o : Oper} {t : TypeId} (hi : (i, id, .row 0 Z) ∈ A) (ho : ops[i]? = some o) (hd : o.dst = some d) (hg : o.guard = none) (hop : o.op = .alloc t) (hn : Nat.ble (d + 1) n = true) (hz : TZero P t Z) (rest : STRN P n ops A H K r ((i, some d, .ptr id 0 0) :: L) (upd g d (.ptr id 0 0))) : STRN P n ops A H K (i :: r) L g :=
  ⟨o, d, _, ho, hd, .inr ⟨id, _, hi, (fun f' H' _ hr => by
      obtain ⟨dst, op, ty, pos, after, guard⟩ := o
      simp only at hd hop
      subst hd hop
      exact AOp.alloc_at id (.inr hr) hn hz ⟨rfl, rfl⟩), hg⟩, rest⟩
def VldN (P : Program) (n : Nat) (ops : Array Oper) (A : List New) (H : Heap) (f : Nat → AV) (L : List Ent) : Prop :=
  ∀ A' e B, L = A' ++ e :: B → ∃ o d, ops[e.1]? = some o ∧ o.dst = some d ∧ e.2.1 = some d ∧ EntAs P n ops A H e.1 o d e.2.2 (ov top A' f)
theorem STRN.get {ops : Array Oper} {A : List New} {K : List Ent → (Nat → AV) → Prop} : ∀ {r : List Nat} {L : List Ent}, VldN P n ops A H f L.reverse → Dst ops L.reverse → STRN P n ops A H K r L (ovR L f) →
    ∃ M, M.reverse.map (·.1) = L.reverse.map (·.1) ++ r ∧ VldN P n ops A H f M.reverse ∧ Dst ops M.reverse ∧ K M (ovR M f)
  | [], L, hv, hd, h => ⟨L, by simp, hv, hd, h⟩
  | i :: r, L, hv, hd, ⟨o, d, v, h1, h2, h3, h4⟩ => by
    have hv' : VldN P n ops A H f ((i, some d, v) :: L).reverse := by
      intro A' e B hL
      rw [List.reverse_cons] at hL
      rcases List.append_eq_append_iff.1 hL with ⟨C, g1, g2⟩ | ⟨C, g1, g2⟩
      · cases C with
        | nil =>
          simp only [List.nil_append, List.cons.injEq] at g2
          obtain ⟨rfl, _⟩ := g2
          rw [List.append_nil] at g1; subst g1
          refine ⟨o, d, h1, h2, rfl, ?_⟩
          rw [← ovR_eq]; exact h3
        | cons c C => simp at g2
      · cases C with
        | nil =>
          simp only [List.nil_append, List.cons.injEq] at g2
          obtain ⟨rfl, _⟩ := g2
          rw [List.append_nil] at g1; subst g1
          refine ⟨o, d, h1, h2, rfl, ?_⟩
          rw [← ovR_eq]; exact h3
        | cons c C =>
          simp only [List.cons_append, List.cons.injEq] at g2
          obtain ⟨rfl, g2⟩ := g2
          exact hv A' e C g1
    have hd' : Dst ops ((i, some d, v) :: L).reverse := by
      intro e he
      rw [List.reverse_cons] at he
      rcases List.mem_append.1 he with he | he
      · exact hd e he
      · simp at he; subst he; simp [dstOf, h1, h2]
    obtain ⟨M, m1, m2, m3, m4⟩ := STRN.get hv' hd' h4
    exact ⟨M, by rw [m1]; simp, m2, m3, m4⟩
end
end Go.AH
namespace Go.AH
variable [Globs]
set_option linter.unusedSectionVars false
open Go
section
variable {P : Program} {n : Nat} {f : Nat → AV} {H : Heap} {K : (Nat → AV) → Heap → Prop} {ops : Array Oper} {i : Nat} {l : List Nat}
def gdOf (ops : Array Oper) (i : Nat) : Option (Nat × Bool × Nat) := (ops[i]?).bind fun o => o.guard.bind fun g => (ops[g.1]?).bind fun oj => oj.dst.bind fun d => o.dst.map fun d' => (d, g.2, d')
theorem gdOf_spec {d d' : Nat} {want : Bool} (h : gdOf ops i = some (d, want, d')) : ∃ o oj j, ops[i]? = some o ∧ o.guard = some (j, want) ∧ ops[j]? = some oj ∧ oj.dst = some d ∧ o.dst = some d' := by
  unfold gdOf at h
  simp only [Option.bind_eq_some_iff, Option.map_eq_some_iff] at h
  obtain ⟨o, h1, g, h2, oj, h3, d0, h4, d1, h5, h6⟩ := h
  cases h6
  exact ⟨o, oj, g.1, h1, h2, h3, h4, h5⟩
theorem N {d d' : Nat} {b want : Bool} (hc : gdOf ops i = some (d, want, d')) (hf : f d = .bool b) (hb : b = !want) (h : AOps P n ops K l (upd f d' (.tup [])) H) (hn : Nat.ble (d' + 1) n = true := by rfl) : AOps P n ops K (i :: l) f H :=
  let ⟨_, _, _, h1, h2, h3, h4, h5⟩ := gdOf_spec hc; .no h1 h2 h3 h4 h5 hn hf (by rw [hb]; cases want <;> simp) h
theorem Y {o : Oper} {d d' : Nat} {b want : Bool} (ho : ops[i]? = some o) (hc : gdOf ops i = some (d, want, d')) (hf : f d = .bool b) (hb : b = want) (h : AOp P n o (AOps P n ops K l) f H) (hn : Nat.ble (d' + 1) n = true := by rfl) : AOps P n ops K (i :: l) f H := by
  obtain ⟨o', _, _, h1, h2, h3, h4, h5⟩ := gdOf_spec hc
  rw [ho] at h1
  cases h1
  exact .yes ho h2 h3 h4 h5 hn hf hb h
theorem C {o : Oper} (ho : ops[i]? = some o) (h : AOp P n o (AOps P n ops K l) f H) (hg : o.guard = none := by rfl) : AOps P n ops K (i :: l) f H := .cons ho hg h
theorem Q {M : Heap → Prop} {T : (Nat → AV) → Prop} {k d : Nat} {v : AV} {o : Oper} (ho : ops[i]? = some o) (h : ∀ f' H', (∀ t, (tmpsOf o).elem t = true → f' t = f t) → M H' → AOp P n o (fun f2 H2 => f2 = upd f' d v ∧ M H2) f' H')
    (rest : QE P n ops M T k (i + 1) (upd f d v)) (hg : o.guard = none := by rfl) (hd : o.dst = some d := by rfl) : QE P n ops M T k i f := .op ho hd (.inl ⟨hg, h⟩) rest
theorem Sw {t : TypeId} {x y : Operand} {size id ver : Nat} {cells L : List AV} {ty : TypeId} {pos : String} {after : Array Edge} {guard : Option (Nat × Bool)} (hx : ev f x = .ptr id ver 0) (hy : ev f y = .agg L) (ht : TSize P t size) (hid : H id = some (.row ver cells))
    (hone : L.all AV.one = true) (hl : L.length = size) (hc : cells.length = size) (hK : ∀ H', H' id = some (.row ver L) → (∀ i, i ≠ id → H' i = H i) → K f H') : AOp P n ⟨none, .store t x y, ty, pos, after, guard⟩ K f H :=
  .store' (.agg L) hx hy ht hid hone hl (Nat.ble_eq_true_of_le (by omega)) (wr_all hc hl) hK
end
section
variable {P : Program} {n : Nat} {f : Nat → AV} {H : Heap} {K : (Nat → AV) → Heap → Prop} {ops : Array Oper} {l : List Nat} {ty : TypeId} {pos : String} {after : Array Edge} {d j : Nat}
theorem V {x : Operand} {v : AV} (ho : ops[j]? = some ⟨some d, .move x, ty, pos, after, none⟩) (hx : ev f x = v) (h : AOps P n ops K l (upd f d v) H) (hn : Nat.ble (d + 1) n = true := by rfl) : AOps P n ops K (j :: l) f H := .cons ho rfl (.move v hn hx h)
theorem A {x : Operand} {v : AV} (ho : ops[j]? = some ⟨some d, .assign x, ty, pos, after, none⟩) (hx : ev f x = v) (h : AOps P n ops K l (upd f d v) H) (hn : Nat.ble (d + 1) n = true := by rfl) : AOps P n ops K (j :: l) f H := .cons ho rfl (.assign v hn hx h)
theorem E {x : Operand} {i : Nat} {v : AV} {vs : List AV} (ho : ops[j]? = some ⟨some d, .extract x i, ty, pos, after, none⟩) (hx : ev f x = .tup vs) (hv : vs[i]? = some v) (h : AOps P n ops K l (upd f d v) H) (hn : Nat.ble (d + 1) n = true := by rfl) : AOps P n ops K (j :: l) f H := .cons ho rfl (.extract v hn hx hv h)
theorem L {t : TypeId} {x : Operand} {agg : Bool} {size off : Nat} {cells : List AV} {v : AV} (ho : ops[j]? = some ⟨some d, .load t x, ty, pos, after, none⟩) (hx : ev f x = .fptr cells off) (ht : TY P t agg size) (hv : loadv agg size off cells = some v) (h : AOps P n ops K l (upd f d v) H) (hn : Nat.ble (d + 1) n = true := by rfl) : AOps P n ops K (j :: l) f H := .cons ho rfl (.loadF v hn hx ht hv h)
theorem F {s : TypeId} {x : Operand} {i off o size : Nat} {cells : List AV} {agg : Bool} (ho : ops[j]? = some ⟨some d, .fieldAddr s x i, ty, pos, after, none⟩) (hx : ev f x = .fptr cells off) (ht : TField P s i o agg size) (h : AOps P n ops K l (upd f d (.fptr cells (off + o))) H) (hn : Nat.ble (d + 1) n = true := by rfl) : AOps P n ops K (j :: l) f H := .cons ho rfl (.fieldAddrF hn hx ht h)
theorem B {op : BinOp} {t t' : TypeId} {x y : Operand} {k : IntKind} {p q : Int} {v : AV} (ho : ops[j]? = some ⟨some d, .binOp op t x y t', ty, pos, after, none⟩) (hx : ev f x = .int k p) (hy : ev f y = .int k q) (hv : intBin op k p q = some v) (h : AOps P n ops K l (upd f d v) H) (hn : Nat.ble (d + 1) n = true := by rfl) : AOps P n ops K (j :: l) f H := .cons ho rfl (.bin v hn hx hy hv h)
end
theorem Sr {P : Program} {n : Nat} {Q : Exit → (Nat → AV) → Heap → Prop} {f : Nat → AV} {H : Heap} {id : Nat} {ops : Array Oper} {y : Code} {l : List Nat} (h : AOps P n ops (fun f H => AWP P n y Q f H) l f H) (hl : List.range ops.size = l := by rfl) : AWP P n (.seq (.region id ops false) y) Q f H := .seq_region l hl h
theorem Rr {P : Program} {n : Nat} {fn : Func} {f : Nat → AV} {H H0 : Heap} {r v : AV} {e : Exit} (h : Res P n fn f H r) (hv : r = v) (m : Mono H0 H) (he : e = .normal ∨ e = .ret := by exact .inr rfl) : ∃ f' H', Ghost n f H f' H' ∧ (e = .normal ∨ e = .ret) ∧ ∃ r, Res P n fn f' H' r ∧ (r = v ∧ Mono H0 H') := ⟨_, _, Ghost.refl, he, _, h, hv, m⟩
theorem ev_same {f f' : Nat → AV} {x : Operand} (h : ∀ t, x = .tmp t → f' t = f t) : ev f' x = ev f x := by
  cases x with
  | tmp t => exact h t rfl
  | _ => rfl
section
variable {P : Program} {n : Nat} {f : Nat → AV} {ops : Array Oper} {M : Heap → Prop} {T : (Nat → AV) → Prop} {k : Nat} {ty : TypeId} {pos : String} {after : Array Edge} {d j : Nat}
theorem QV {x : Operand} {v : AV} (ho : ops[j]? = some ⟨some d, .move x, ty, pos, after, none⟩) (hx : ev f x = v) (rest : QE P n ops M T k (j + 1) (upd f d v)) (hn : Nat.ble (d + 1) n = true := by rfl) : QE P n ops M T k j f :=
  .op ho rfl (.inl ⟨rfl, fun _ _ hf hM => .move v hn ((ev_same fun t e => hf t (by subst e; simp [tmpsOf, Op.operands])).trans hx) ⟨rfl, hM⟩⟩) rest
theorem QL {t : TypeId} {x : Operand} {agg : Bool} {size off : Nat} {cells : List AV} {v : AV} (ho : ops[j]? = some ⟨some d, .load t x, ty, pos, after, none⟩) (hx : ev f x = .fptr cells off) (ht : TY P t agg size) (hv : loadv agg size off cells = some v) (rest : QE P n ops M T k (j + 1) (upd f d v)) (hn : Nat.ble (d + 1) n = true := by rfl) : QE P n ops M T k j f :=
  .op ho rfl (.inl ⟨rfl, fun _ _ hf hM => .loadF v hn ((ev_same fun t e => hf t (by subst e; simp [tmpsOf, Op.operands])).trans hx) ht hv ⟨rfl, hM⟩⟩) rest
theorem QF {s : TypeId} {x : Operand} {i off o size : Nat} {cells : List AV} {agg : Bool} (ho : ops[j]? = some ⟨some d, .fieldAddr s x i, ty, pos, after, none⟩) (hx : ev f x = .fptr cells off) (ht : TField P s i o agg size) (rest : QE P n ops M T k (j + 1) (upd f d (.fptr cells (off + o)))) (hn : Nat.ble (d + 1) n = true := by rfl) : QE P n ops M T k j f :=
  .op ho rfl (.inl ⟨rfl, fun _ _ hf hM => .fieldAddrF hn ((ev_same fun t e => hf t (by subst e; simp [tmpsOf, Op.operands])).trans hx) ht ⟨rfl, hM⟩⟩) rest
theorem QB {op : BinOp} {t t' : TypeId} {x y : Operand} {kk : IntKind} {p q : Int} {v : AV} (ho : ops[j]? = some ⟨some d, .binOp op t x y t', ty, pos, after, none⟩) (hx : ev f x = .int kk p) (hy : ev f y = .int kk q) (hv : intBin op kk p q = some v) (rest : QE P n ops M T k (j + 1) (upd f d v)) (hn : Nat.ble (d + 1) n = true := by rfl) : QE P n ops M T k j f :=
  .op ho rfl (.inl ⟨rfl, fun _ _ hf hM => .bin v hn ((ev_same fun t e => hf t (by subst e; simp [tmpsOf, Op.operands])).trans hx) ((ev_same fun t e => hf t (by subst e; simp [tmpsOf, Op.operands])).trans hy) hv ⟨rfl, hM⟩⟩) rest
end
def Mv := @AOp.move
def As := @AOp.assign
def Bi := @AOp.bin
def Lf := @AOp.loadF
def Ff := @AOp.fieldAddrF
def Ld := @AOp.load
def Fa := @AOp.fieldAddr
def Bl := @AOp.build
def So := @AOp.store'
def Pc := @AOp.pcall
def Pt := @AOp.pickT
def Pf := @AOp.pickF
def ct_ := @AWP.condT
def cf_ := @AWP.condF
def rt_ := @AWP.ret
def bk_ := @AWP.block
def fz_ := @AWP.frzP
def iS_ := @AOp.indexAddrS
def al_ := @AOp.alloc
def bx_ := @AOp.box
def nc_ := @AOp.nilCheck
end Go.AH
namespace Go.Proofs.L
open Go Go.AH
set_option maxRecDepth 4000
set_option linter.unusedSimpArgs false
set_option linter.unusedVariables false
variable [LexG]
def R_lex_foreign (x : Int) : Bool :=
  if x < 32 then true else decide (x > 126)
theorem c_lex_foreign (x : Int) : PC Tryz.prog 28 [.int .i32 x] (.bool (R_lex_foreign x)) := by
 intro H0
 refine ACalls.of_body' (n := 9) rfl rfl rfl rfl ?_
 have m0 := Mono.refl H0
 refine AWP.seq ?_
 refine AWP.region (l := [0]) rfl ?_
 refine AOps.cons rfl rfl (AOp.assign (.bool false) rfl rfl ?_)
 refine AOps.nil ?_
 change AWP _ _ _ _ _ _
 refine AWP.seq ?_
 refine AWP.region (l := [0, 1, 2, 3, 4, 5, 6]) rfl ?_
 refine AOps.cons rfl rfl (AOp.move (.int .i32 x) rfl rfl ?_)
 refine AOps.cons rfl rfl (AOp.bin (.bool (decide (x < 32))) rfl rfl rfl rfl ?_)
 refine AOps.cons rfl rfl (AOp.move (.bool (decide (x < 32))) rfl rfl ?_)
 by_cases b1 : x < 32
 ·
  refine AOps.no rfl rfl rfl rfl rfl rfl rfl (ble_of (decide_eq_true b1) (by decide)) ?_
  refine AOps.no rfl rfl rfl rfl rfl rfl rfl (ble_of (decide_eq_true b1) (by decide)) ?_
  refine AOps.cons rfl rfl (AOp.pickT (.bool true) rfl rfl (decide_eq_true b1) rfl ?_)
  refine AOps.cons rfl rfl (AOp.assign (.bool true) rfl rfl ?_)
  refine AOps.nil ?_
  change AWP _ _ _ _ _ _
  refine AWP.ret ?_
  refine ⟨_, _, Ghost.refl, .inr rfl, _, Res.one rfl rfl, ?_, m0⟩
  have hR : R_lex_foreign x = true := by unfold R_lex_foreign; rw [if_pos b1]
  exact (congrArg (fun r : Bool => (.bool r : AV)) hR).symm
 ·
  refine AOps.yes rfl rfl rfl rfl rfl rfl rfl (decide_eq_false b1) (AOp.move (.int .i32 x) rfl rfl ?_)
  refine AOps.yes rfl rfl rfl rfl rfl rfl rfl (decide_eq_false b1) (AOp.bin (.bool (decide (x > 126))) rfl rfl rfl rfl ?_)
  refine AOps.cons rfl rfl (AOp.pickF (.bool (decide (x > 126))) rfl rfl (decide_eq_false b1) rfl ?_)
  refine AOps.cons rfl rfl (AOp.assign (.bool (decide (x > 126))) rfl rfl ?_)
  refine AOps.nil ?_
  change AWP _ _ _ _ _ _
  refine AWP.ret ?_
  refine ⟨_, _, Ghost.refl, .inr rfl, _, Res.one rfl rfl, ?_, m0⟩
  have hR : R_lex_foreign x = decide (x > 126) := by unfold R_lex_foreign; rw [if_neg b1]
  exact (congrArg (fun r : Bool => (.bool r : AV)) hR).symm
end Go.Proofs.L
namespace Go.Proofs.L
open Go Go.AH Go.Lib
set_option maxRecDepth 4000
set_option linter.unusedSectionVars false
variable [LexG]
theorem decode_lo {s : ByteArray} {p : Nat} (h : p < s.size) : (byt s p < 128 ∧ ((Utf8.decode s p).1 : Int) = byt s p ∧ (Utf8.decode s p).2 = 1) ∨ (128 ≤ byt s p ∧ 128 ≤ ((Utf8.decode s p).1 : Int) ∧ 1 ≤ (Utf8.decode s p).2) := by
  have hb : byt s p = ((s.get! p).toNat : Int) := by
    rw [byt_at (i := (p : Int)) (by simpa using h)]
    simp [ByteArray.get!, getElem!_pos, h]
    rfl
  by_cases ha : (s.get! p).toNat < 128
  · refine .inl ⟨by omega, ?_, ?_⟩ <;> simp [Utf8.decode, ha, hb]
  · refine .inr ⟨by omega, ?_, ?_⟩
    all_goals
      simp only [Utf8.decode, Nat.add_zero, if_neg ha]
      repeat' split
      all_goals (simp_all [Utf8.runeError] <;> omega)
end Go.Proofs.L
namespace Go.Proofs.L
open Go Go.AH Go.Lib
set_option maxRecDepth 4000
set_option linter.unusedSectionVars false
variable [LexG]
def fR (r : Nat) : Bool := R_lex_foreign (r : Int)
def idxR (s : ByteArray) : Int := idxFunc fR true s
theorem dec_pos (s : ByteArray) (p : Nat) : 1 ≤ (Utf8.decode s p).2 := by
  simp only [Utf8.decode]
  repeat' split
  all_goals simp
theorem idx_end {s : ByteArray} {k p : Nat} (h : s.size ≤ p) : idxFuncFrom fR true s k p = -1 := idxFuncFrom_end fR true s k p (by omega)
theorem idx_step {s : ByteArray} {k p : Nat} (h : p < s.size) (hk : s.size ≤ p + k) (hf : R_lex_foreign ((Utf8.decode s p).1 : Int) = false) : idxFuncFrom fR true s k p = idxFuncFrom fR true s (k - 1) (p + (Utf8.decode s p).2) := by
  obtain ⟨k, rfl⟩ : ∃ j, k = j + 1 := ⟨k - 1, by omega⟩
  rw [idxFuncFrom, if_pos h, if_neg (by unfold fR; rw [hf]; simp)]
  rfl
theorem idx_hit {s : ByteArray} {k p : Nat} (h : p < s.size) (hk : s.size ≤ p + k) (hf : R_lex_foreign ((Utf8.decode s p).1 : Int) = true) : idxFuncFrom fR true s k p = p := by
  obtain ⟨k, rfl⟩ : ∃ j, k = j + 1 := ⟨k - 1, by omega⟩
  rw [idxFuncFrom, if_pos h, if_pos (by unfold fR; rw [hf])]
def okB (s : ByteArray) : Prop := ∀ j : Nat, j < s.size → 32 ≤ byt s j ∧ byt s j ≤ 126
theorem foreign_iff {x : Int} : R_lex_foreign x = false ↔ 32 ≤ x ∧ x ≤ 126 := by
  unfold R_lex_foreign
  split <;> simp <;> omega
theorem idx_from {s : ByteArray} : ∀ k p, s.size ≤ p + k → (idxFuncFrom fR true s k p < 0 ↔ ∀ j : Nat, p ≤ j → j < s.size → 32 ≤ byt s j ∧ byt s j ≤ 126)
  | 0, p, h => by
    simp only [idxFuncFrom]
    exact ⟨fun _ j h1 h2 => by omega, fun _ => by omega⟩
  | k + 1, p, h => by
    by_cases hp : p < s.size
    · have hd := decode_lo hp
      cases hf : R_lex_foreign ((Utf8.decode s p).1 : Int) with
      | true =>
        rw [idx_hit hp h hf]
        refine ⟨fun h => by omega, fun h => ?_⟩
        have := h p (Nat.le_refl _) hp
        have hn : ¬ R_lex_foreign ((Utf8.decode s p).1 : Int) = false := by rw [hf]; simp
        rw [foreign_iff] at hn
        omega
      | false =>
        rw [foreign_iff] at hf
        obtain ⟨d1, d2, d3⟩ : byt s p < 128 ∧ ((Utf8.decode s p).1 : Int) = byt s p ∧ (Utf8.decode s p).2 = 1 := by
          rcases hd with hd | hd
          · exact hd
          · omega
        rw [idx_step hp h (foreign_iff.2 hf), d3, Nat.add_sub_cancel, idx_from k (p + 1) (by omega)]
        refine ⟨fun hh j h1 h2 => ?_, fun hh j h1 h2 => hh j (by omega) h2⟩
        rcases Nat.eq_or_lt_of_le h1 with e | e
        · subst e; omega
        · exact hh j e h2
    · rw [idx_end (by omega)]
      exact ⟨fun _ j h1 h2 => by omega, fun _ => by omega⟩
theorem idxR_neg {s : ByteArray} : idxR s < 0 ↔ okB s := by
  unfold idxR idxFunc okB
  rw [idx_from s.size 0 (by omega)]
  exact ⟨fun h j hj => h j (by omega) hj, fun h j _ hj => h j hj⟩
theorem pre_step {α : Type} [Inhabited α] {a b : List α} {i : Int} (h : ∀ j : Int, 0 ≤ j → j < i → at_ a j = at_ b j) (hi : at_ a i = at_ b i) : ∀ j : Int, 0 ≤ j → j < i + 1 → at_ a j = at_ b j := fun j h1 h2 => by
  rcases Int.lt_or_eq_of_le (show j ≤ i by omega) with e | e
  · exact h j h1 e
  · subst e; exact hi
theorem ext_at {α : Type} [Inhabited α] {a b : List α} (hl : (a.length : Int) = b.length) (h : ∀ j : Int, 0 ≤ j → j < a.length → at_ a j = at_ b j) : a = b := by
  apply List.ext_getElem?
  intro j
  rcases Nat.lt_or_ge j a.length with hj | hj
  · have := h j (by omega) (by omega)
    unfold at_ at this
    simp only [Int.toNat_natCast] at this
    rw [List.getD_eq_getElem?_getD, List.getD_eq_getElem?_getD, List.getElem?_eq_getElem hj, List.getElem?_eq_getElem (by omega : j < b.length)] at this
    rw [List.getElem?_eq_getElem hj, List.getElem?_eq_getElem (by omega : j < b.length)]
    simpa using this
  · rw [List.getElem?_eq_none hj, List.getElem?_eq_none (by omega)]
theorem trimM_size (s : ByteArray) : (trimM s).size ≤ s.size ∧ s.size ≤ (trimM s).size + 1 := by
  have h1 : (trimM s).size = (trimPrefix s.data.toList [45]).length := List.size_toArray
  have h2 : s.size = s.data.toList.length := rfl
  rw [h1, h2]
  generalize s.data.toList = l
  unfold trimPrefix
  split
  · rw [List.length_drop]; simp only [List.length_cons, List.length_nil]; omega
  · omega
end Go.Proofs.L
namespace Go.Proofs.L
open Go Go.AH
set_option maxRecDepth 4000
set_option linter.unusedSimpArgs false
set_option linter.unusedVariables false
variable [LexG]
theorem c_idx (s : ByteArray) (hs : s.size ≤ 4611686018427387904) : PC Tryz.prog 72 [.str s, .fn 28 [], .bool true] (.int .i64 (idxR s)) := by
 intro H0
 refine ACalls.of_body' (n := 21) rfl rfl rfl rfl ?_
 have m0 := Mono.refl H0
 refine Sr ?_
 refine A rfl rfl ?_
 refine AWP.seq ?_
 refine Sr ?_
 refine V rfl rfl (C rfl (AOp.rangeS rfl rfl u_9 ?_))
 intro i1 H2 n3 h4 k5
 have z6 := Mono.free m0 n3
 have m7 := Mono.new m0 n3 k5
 refine bk_ ?_
 refine AWP.loop (fun q8 fq Hq => ∃ (p : Nat) (k : Nat), q8 = s.size - p ∧ fq 1 = .fn 28 [] ∧ fq 2 = .bool true ∧ fq 10 = .it i1 ∧ Hq i1 = some (.iter (.str s p)) ∧ Mono H0 Hq ∧ (idxR s = Lib.idxFuncFrom fR true s k p) ∧ (s.size ≤ p + k)) (k := s.size - 0) ?_ ?_
 exact ⟨0, s.size, rfl, rfl, rfl, rfl, h4, m7, by rfl, by omega⟩
 rintro _ f10 H9 ⟨p, k, rfl, s11, s12, s13, h14, m15, hf, hk⟩
 refine Sr ?_
 refine C rfl (AOp.nextS rfl s13 h14 ?_ ?_)
 intro hle16
 refine E rfl rfl rfl ?_
 refine AWP.seq ?_
 refine cf_ rfl rfl ?_
 refine AWP.exit ?_
 change AWP _ _ _ _ _ _
 refine Sr ?_
 refine A rfl rfl ?_
 refine rt_ ?_
 refine Rr (Res.one rfl rfl) ?_ m15
 exact (congrArg (AV.int .i64) (show (-1 : Int) = idxR s from by rw [hf, idx_end (by omega)]))
 intro H17 hlt18 h19 k20
 have m22 := Mono.set m15 z6 k20
 refine E rfl rfl rfl ?_
 refine AWP.seq ?_
 refine ct_ rfl rfl ?_
 refine AWP.skip ?_
 refine bk_ ?_
 refine AWP.seq ?_
 have hw := dec_pos s p
 refine AWP.region rfl ?_
 refine E rfl rfl rfl (E rfl rfl rfl (A rfl rfl (A rfl rfl ?_)))
 refine Sr ?_
 refine V rfl s11 (V rfl rfl (C rfl (Pc («as» := [.int .i32 ((Utf8.decode s p).1 : Int)]) rfl rfl (rfl) tf_28 (c_lex_foreign ((Utf8.decode s p).1 : Int)) ?_)))
 intro H23 m24
 have h25 := m24 _ _ h19
 have m26 := m22.trans m24
 refine V rfl s12 (C rfl (AOp.beq rfl rfl rfl u_4 ?_))
 refine AOps.nil ?_
 change AWP _ _ _ _ _ _
 rcases Bool.eq_false_or_eq_true ((R_lex_foreign ((Utf8.decode s p).1 : Int)) == true) with b27 | b27
 refine ct_ rfl b27 ?_
 refine Sr ?_
 refine V rfl rfl (A rfl rfl ?_)
 refine rt_ ?_
 refine Rr (Res.one rfl rfl) ?_ m26
 exact (congrArg (AV.int .i64) (show ((p : Int) : Int) = idxR s from by rw [hf, idx_hit hlt18 (by omega) (by simpa using b27)]))
 refine cf_ rfl b27 ?_
 refine AWP.skip ?_
 exact ⟨_, by omega, (p + (Utf8.decode s p).2), k - 1, rfl, s11, s12, s13, h25, m26, by rw [hf]; exact idx_step hlt18 (by omega) (by simpa using b27), by omega⟩
theorem c_IndexFunc (s : ByteArray) (hs : s.size ≤ 4611686018427387904) : PC Tryz.prog 27 [.str s, .fn 28 []] (.int .i64 (idxR s)) := by
 intro H0
 refine ACalls.of_body' (n := 8) rfl rfl rfl rfl ?_
 have m0 := Mono.refl H0
 refine Sr ?_
 refine A rfl rfl ?_
 refine Sr ?_
 refine V rfl rfl (V rfl rfl (C rfl (Pc («as» := [.str s, .fn 28 [], .bool true]) rfl rfl (rfl) tf_72 (c_idx s (by omega)) ?_)))
 intro H1 m2
 have m3 := m0.trans m2
 refine A rfl rfl ?_
 refine rt_ ?_
 refine Rr (Res.one rfl rfl) ?_ m3
 exact rfl
def R_lex_Number (s : ByteArray) : Int × Bool :=
  if ((trimM s).size : Int) = 0 then (0, false) else (if ((trimM s).size : Int) > 6 then (0, false) else (if byt (trimM s) 0 < 48 then (0, false) else (if byt (trimM s) 0 > 57 then (0, false) else (if byt (trimM s) 0 = 48 then (if s = ⟨#[48]⟩ then (if Lib.atoi s.data.toList = none then (0, false) else (atoiV s, true)) else (0, false)) else (if Lib.atoi s.data.toList = none then (0, false) else (atoiV s, true))))))
def Tlex_Number (r : Int × Bool) : AV := .tup [.int .i64 r.1, .bool r.2]
theorem c_lex_Number (s : ByteArray) : PC Tryz.prog 104 [.str s] (.tup [.int .i64 ((R_lex_Number s).1), .bool ((R_lex_Number s).2)]) := by
 intro H0
 refine ACalls.of_body' (n := 44) rfl rfl rfl rfl ?_
 have m0 := Mono.refl H0
 refine Sr ?_
 refine A rfl rfl (A rfl rfl ?_)
 refine Sr ?_
 refine V rfl rfl (C rfl (Pc («as» := [.str s, .str ⟨#[45]⟩]) rfl rfl (rfl) tf_123 (c_Trim s) ?_))
 intro H1 m2
 have m3 := m0.trans m2
 refine A rfl rfl ?_
 refine AWP.seq ?_
 refine Sr ?_
 refine V rfl rfl (C rfl (AOp.lenStr rfl rfl u_9 (B rfl rfl rfl ieq (V rfl rfl ?_))))
 by_cases b4 : ((trimM s).size : Int) = 0
 refine N rfl rfl (decide_eq_true b4) (N rfl rfl (decide_eq_true b4) (N rfl rfl (decide_eq_true b4) (C rfl (Pt _ rfl rfl (decide_eq_true b4) rfl (V rfl rfl (N rfl rfl rfl (N rfl rfl rfl (N rfl rfl rfl (C rfl (Pt _ rfl rfl rfl rfl (V rfl rfl (N rfl rfl rfl (N rfl rfl rfl (N rfl rfl rfl (C rfl (Pt _ rfl rfl rfl rfl (V rfl rfl (N rfl rfl rfl (N rfl rfl rfl (N rfl rfl rfl ?_))))))))))))))))))))
 refine N rfl rfl rfl (AOps.un rfl rfl rfl rfl rfl rfl rfl (AOps.un rfl rfl rfl rfl rfl rfl rfl (N rfl rfl rfl (C rfl (Pt _ rfl rfl rfl rfl ?_)))))
 refine ct_ rfl rfl ?_
 refine Sr ?_
 refine A rfl rfl (A rfl rfl ?_)
 refine rt_ ?_
 refine Rr (Res.two rfl rfl rfl) ?_ m3
 have hR : R_lex_Number s = (0, false) := by unfold R_lex_Number; rw [if_pos b4]
 exact (congrArg Tlex_Number hR).symm
 refine Y rfl rfl rfl (decide_eq_false b4) (Mv _ rfl rfl (Y rfl rfl rfl (decide_eq_false b4) (AOp.lenStr rfl rfl u_9 (Y rfl rfl rfl (decide_eq_false b4) (Bi _ rfl rfl rfl rfl (C rfl (Pf _ rfl rfl (decide_eq_false b4) rfl (V rfl rfl ?_))))))))
 by_cases b5 : ((trimM s).size : Int) > 6
 refine N rfl rfl (decide_eq_true b5) (N rfl rfl (decide_eq_true b5) (N rfl rfl (decide_eq_true b5) (C rfl (Pt _ rfl rfl (decide_eq_true b5) rfl (V rfl rfl (N rfl rfl rfl (N rfl rfl rfl (N rfl rfl rfl (C rfl (Pt _ rfl rfl rfl rfl (V rfl rfl (N rfl rfl rfl (N rfl rfl rfl (N rfl rfl rfl (N rfl rfl rfl (AOps.un rfl rfl rfl rfl rfl rfl rfl (AOps.un rfl rfl rfl rfl rfl rfl rfl (N rfl rfl rfl (C rfl (Pt _ rfl rfl rfl rfl ?_))))))))))))))))))))
 refine ct_ rfl rfl ?_
 refine Sr ?_
 refine A rfl rfl (A rfl rfl ?_)
 refine rt_ ?_
 refine Rr (Res.two rfl rfl rfl) ?_ m3
 have hR : R_lex_Number s = (0, false) := by unfold R_lex_Number; rw [if_neg b4, if_pos b5]
 exact (congrArg Tlex_Number hR).symm
 refine Y rfl rfl rfl (decide_eq_false b5) (Mv _ rfl rfl ?_)
 have hb6 := byt_rng (trimM s) 0
 refine Y rfl rfl rfl (decide_eq_false b5) (AOp.indexB rfl rfl rfl u_9 (by omega) (by omega) (Y rfl rfl rfl (decide_eq_false b5) (Bi _ rfl rfl rfl rfl (C rfl (Pf _ rfl rfl (decide_eq_false b5) rfl (V rfl rfl ?_))))))
 by_cases b7 : byt (trimM s) 0 < 48
 refine N rfl rfl (decide_eq_true b7) (N rfl rfl (decide_eq_true b7) (N rfl rfl (decide_eq_true b7) (C rfl (Pt _ rfl rfl (decide_eq_true b7) rfl (V rfl rfl (N rfl rfl rfl (N rfl rfl rfl (N rfl rfl rfl (N rfl rfl rfl (AOps.un rfl rfl rfl rfl rfl rfl rfl (AOps.un rfl rfl rfl rfl rfl rfl rfl (N rfl rfl rfl (C rfl (Pt _ rfl rfl rfl rfl ?_))))))))))))))
 refine ct_ rfl rfl ?_
 refine Sr ?_
 refine A rfl rfl (A rfl rfl ?_)
 refine rt_ ?_
 refine Rr (Res.two rfl rfl rfl) ?_ m3
 have hR : R_lex_Number s = (0, false) := by unfold R_lex_Number; rw [if_neg b4, if_neg b5, if_pos b7]
 exact (congrArg Tlex_Number hR).symm
 refine Y rfl rfl rfl (decide_eq_false b7) (Mv _ rfl rfl (Y rfl rfl rfl (decide_eq_false b7) (AOp.indexB rfl rfl rfl u_9 (by omega) (by omega) (Y rfl rfl rfl (decide_eq_false b7) (Bi _ rfl rfl rfl rfl (C rfl (Pf _ rfl rfl (decide_eq_false b7) rfl (V rfl rfl ?_))))))))
 by_cases b8 : byt (trimM s) 0 > 57
 refine N rfl rfl (decide_eq_true b8) (N rfl rfl (decide_eq_true b8) (N rfl rfl (decide_eq_true b8) (N rfl rfl (decide_eq_true b8) (AOps.un rfl rfl rfl rfl rfl rfl rfl (AOps.un rfl rfl rfl rfl rfl rfl rfl (N rfl rfl (decide_eq_true b8) (C rfl (Pt _ rfl rfl (decide_eq_true b8) rfl ?_))))))))
 refine ct_ rfl rfl ?_
 refine Sr ?_
 refine A rfl rfl (A rfl rfl ?_)
 refine rt_ ?_
 refine Rr (Res.two rfl rfl rfl) ?_ m3
 have hR : R_lex_Number s = (0, false) := by unfold R_lex_Number; rw [if_neg b4, if_neg b5, if_neg b7, if_pos b8]
 exact (congrArg Tlex_Number hR).symm
 refine Y rfl rfl rfl (decide_eq_false b8) (Mv _ rfl rfl (Y rfl rfl rfl (decide_eq_false b8) (AOp.indexB rfl rfl rfl u_9 (by omega) (by omega) (Y rfl rfl rfl (decide_eq_false b8) (Bi _ rfl rfl rfl ieq (Y rfl rfl rfl (decide_eq_false b8) (Mv _ rfl rfl ?_)))))))
 by_cases b9 : byt (trimM s) 0 = 48
 refine Y rfl rfl rfl (decide_eq_true b9) (Mv _ rfl rfl (Y rfl rfl rfl (decide_eq_true b9) (AOp.sneD rfl rfl rfl (Y rfl rfl rfl (decide_eq_false b8) (Pt _ rfl rfl (decide_eq_true b9) rfl (C rfl (Pf _ rfl rfl (decide_eq_false b8) rfl ?_)))))))
 refine AOps.nil ?_
 change AWP _ _ _ _ _ _
 by_cases b10 : s = ⟨#[48]⟩
 refine cf_ rfl (nb (decide_eq_true b10)) ?_
 refine AWP.skip ?_
 refine AWP.seq ?_
 have htz := trimM_size s
 refine AWP.region rfl ?_
 refine V rfl rfl (C rfl (Pc («as» := [.str s]) rfl rfl (rfl) tf_124 (c_Atoi s (by omega)) ?_))
 intro H11 m12
 have m13 := m3.trans m12
 refine V rfl rfl (E rfl rfl rfl (E rfl rfl rfl (A rfl rfl (A rfl rfl ?_))))
 refine AWP.seq ?_
 refine Sr ?_
 refine V rfl rfl (C rfl (AOp.ifnil rfl rfl ui94 (atoiE_or s) ?_))
 refine AOps.nil ?_
 change AWP _ _ _ _ _ _
 by_cases b14 : Lib.atoi s.data.toList = none
 refine ct_ rfl (decide_eq_true b14) ?_
 refine Sr ?_
 refine A rfl rfl (A rfl rfl ?_)
 refine rt_ ?_
 refine Rr (Res.two rfl rfl rfl) ?_ m13
 have hR : R_lex_Number s = (0, false) := by unfold R_lex_Number; rw [if_neg b4, if_neg b5, if_neg b7, if_neg b8, if_pos b9, if_pos b10, if_pos b14]
 exact (congrArg Tlex_Number hR).symm
 refine cf_ rfl (decide_eq_false b14) ?_
 refine AWP.skip ?_
 refine Sr ?_
 refine V rfl rfl (A rfl rfl (A rfl rfl ?_))
 refine rt_ ?_
 refine Rr (Res.two rfl rfl rfl) ?_ m13
 have hR : R_lex_Number s = (atoiV s, true) := by unfold R_lex_Number; rw [if_neg b4, if_neg b5, if_neg b7, if_neg b8, if_pos b9, if_pos b10, if_neg b14]
 exact (congrArg Tlex_Number hR).symm
 refine ct_ rfl (nb (decide_eq_false b10)) ?_
 refine Sr ?_
 refine A rfl rfl (A rfl rfl ?_)
 refine rt_ ?_
 refine Rr (Res.two rfl rfl rfl) ?_ m3
 have hR : R_lex_Number s = (0, false) := by unfold R_lex_Number; rw [if_neg b4, if_neg b5, if_neg b7, if_neg b8, if_pos b9, if_neg b10]
 exact (congrArg Tlex_Number hR).symm
 refine N rfl rfl (decide_eq_false b9) (N rfl rfl (decide_eq_false b9) (Y rfl rfl rfl (decide_eq_false b8) (Pf _ rfl rfl (decide_eq_false b9) rfl (C rfl (Pf _ rfl rfl (decide_eq_false b8) rfl ?_)))))
 refine cf_ rfl rfl ?_
 refine AWP.skip ?_
 refine AWP.seq ?_
 have htz := trimM_size s
 refine AWP.region rfl ?_
 refine V rfl rfl (C rfl (Pc («as» := [.str s]) rfl rfl (rfl) tf_124 (c_Atoi s (by omega)) ?_))
 intro H15 m16
 have m17 := m3.trans m16
 refine V rfl rfl (E rfl rfl rfl (E rfl rfl rfl (A rfl rfl (A rfl rfl ?_))))
 refine AWP.seq ?_
 refine Sr ?_
 refine V rfl rfl (C rfl (AOp.ifnil rfl rfl ui94 (atoiE_or s) ?_))
 refine AOps.nil ?_
 change AWP _ _ _ _ _ _
 by_cases b18 : Lib.atoi s.data.toList = none
 refine ct_ rfl (decide_eq_true b18) ?_
 refine Sr ?_
 refine A rfl rfl (A rfl rfl ?_)
 refine rt_ ?_
 refine Rr (Res.two rfl rfl rfl) ?_ m17
 have hR : R_lex_Number s = (0, false) := by unfold R_lex_Number; rw [if_neg b4, if_neg b5, if_neg b7, if_neg b8, if_neg b9, if_pos b18]
 exact (congrArg Tlex_Number hR).symm
 refine cf_ rfl (decide_eq_false b18) ?_
 refine AWP.skip ?_
 refine Sr ?_
 refine V rfl rfl (A rfl rfl (A rfl rfl ?_))
 refine rt_ ?_
 refine Rr (Res.two rfl rfl rfl) ?_ m17
 have hR : R_lex_Number s = (atoiV s, true) := by unfold R_lex_Number; rw [if_neg b4, if_neg b5, if_neg b7, if_neg b8, if_neg b9, if_neg b18]
 exact (congrArg Tlex_Number hR).symm
end Go.Proofs.L
namespace Go.Proofs.L
open Go Go.AH Go.Lib
set_option maxRecDepth 4000
set_option linter.unusedSectionVars false
variable [LexG]
def okN (s : ByteArray) (j : Int) : Prop := (97 ≤ byt s j ∧ byt s j ≤ 122) ∨ (0 < j ∧ ((48 ≤ byt s j ∧ byt s j ≤ 57) ∨ byt s j = 95 ∨ byt s j = 46))
instance (s : ByteArray) (j : Int) : Decidable (okN s j) := by unfold okN; infer_instance
def nameB (s : ByteArray) : Bool := decide (1 ≤ s.size) && (decide (s.size ≤ 16) && (List.range s.size).all fun j => decide (okN s j))
theorem nameB_iff {s : ByteArray} : nameB s = true ↔ 1 ≤ s.size ∧ s.size ≤ 16 ∧ ∀ j : Int, 0 ≤ j → j < s.size → okN s j := by
  unfold nameB
  simp only [Bool.and_eq_true, decide_eq_true_eq, List.all_eq_true, List.mem_range]
  constructor
  · rintro ⟨a, b, c⟩
    refine ⟨a, b, fun j h1 h2 => ?_⟩
    have := c j.toNat (by omega)
    rwa [show ((j.toNat : Nat) : Int) = j by omega] at this
  · rintro ⟨a, b, c⟩
    exact ⟨a, b, fun j hj => c j (by omega) (by omega)⟩
theorem nameB_of {s : ByteArray} (h1 : 1 ≤ s.size) (h2 : s.size ≤ 16) (h : ∀ j : Int, 0 ≤ j → j < s.size → okN s j) : nameB s = true := nameB_iff.2 ⟨h1, h2, h⟩
theorem nameB_size {s : ByteArray} (h : s.size < 1 ∨ 16 < s.size) : nameB s = false := by
  rw [Bool.eq_false_iff]
  intro e
  obtain ⟨a, b, _⟩ := nameB_iff.1 e
  omega
theorem nameB_at {s : ByteArray} {i : Int} (h0 : 0 ≤ i) (h1 : i < s.size) (h : ¬ okN s i) : nameB s = false := by
  rw [Bool.eq_false_iff]
  intro e
  exact h ((nameB_iff.1 e).2.2 i h0 h1)
theorem okN_step {s : ByteArray} {i : Int} (pre : ∀ j : Int, 0 ≤ j → j < i → okN s j) (h : okN s i) : ∀ j : Int, 0 ≤ j → j < i + 1 → okN s j := fun j h1 h2 => by
  rcases Int.lt_or_eq_of_le (show j ≤ i by omega) with e | e
  · exact pre j h1 e
  · subst e; exact h
theorem name_step {s : ByteArray} {p : Nat} (h : p < s.size) (pre : ∀ j : Int, 0 ≤ j → j < p → okN s j)
    (hc : (97 ≤ ((Utf8.decode s p).1 : Int) ∧ ((Utf8.decode s p).1 : Int) ≤ 122) ∨ ((p : Int) > 0 ∧ ((48 ≤ ((Utf8.decode s p).1 : Int) ∧ ((Utf8.decode s p).1 : Int) ≤ 57) ∨ ((Utf8.decode s p).1 : Int) = 95 ∨ ((Utf8.decode s p).1 : Int) = 46))) :
    ∀ j : Int, 0 ≤ j → j < ((p + (Utf8.decode s p).2 : Nat) : Int) → okN s j := by
  rcases decode_lo h with ⟨d1, d2, d3⟩ | ⟨d1, d2, d3⟩
  · rw [d3]
    have := okN_step pre (i := p) (by unfold okN; omega)
    intro j h1 h2
    exact this j h1 (by omega)
  · omega
theorem name_no {s : ByteArray} {p : Nat} (h : p < s.size)
    (hc : ¬ ((97 ≤ ((Utf8.decode s p).1 : Int) ∧ ((Utf8.decode s p).1 : Int) ≤ 122) ∨ ((p : Int) > 0 ∧ ((48 ≤ ((Utf8.decode s p).1 : Int) ∧ ((Utf8.decode s p).1 : Int) ≤ 57) ∨ ((Utf8.decode s p).1 : Int) = 95 ∨ ((Utf8.decode s p).1 : Int) = 46)))) : nameB s = false := by
  refine nameB_at (i := p) (by omega) (by omega) ?_
  rcases decode_lo h with ⟨d1, d2, d3⟩ | ⟨d1, d2, d3⟩
  · unfold okN; omega
  · unfold okN; omega
def val10 (w : ByteArray) : Nat → Int
  | 0 => 0
  | k + 1 => val10 w k * 10 + (byt w k - 48)
theorem val10_step {w : ByteArray} {i : Int} (h : 0 ≤ i) : val10 w i.toNat * 10 + (byt w i - 48) = val10 w (i + 1).toNat := by
  rw [show (i + 1).toNat = i.toNat + 1 by omega, val10, show ((i.toNat : Nat) : Int) = i by omega]
theorem val10_rng {w : ByteArray} {i : Int} (h : 0 ≤ i) (h5 : i ≤ 5) (pre : ∀ j : Int, 0 ≤ j → j < i → 48 ≤ byt w j ∧ byt w j ≤ 57) : 0 ≤ val10 w i.toNat ∧ val10 w i.toNat ≤ 99999 := by
  obtain ⟨k, rfl⟩ : ∃ k : Nat, i = k := ⟨i.toNat, by omega⟩
  simp only [Int.toNat_natCast]
  have p0 := pre ((0 : Nat) : Int); have p1 := pre ((1 : Nat) : Int); have p2 := pre ((2 : Nat) : Int); have p3 := pre ((3 : Nat) : Int); have p4 := pre ((4 : Nat) : Int)
  match k, h5 with
  | 0, _ => simp [val10]
  | 1, _ => simp only [val10] at *; have := p0 (by omega) (by omega); omega
  | 2, _ => simp only [val10] at *; have := p0 (by omega) (by omega); have := p1 (by omega) (by omega); omega
  | 3, _ => simp only [val10] at *; have := p0 (by omega) (by omega); have := p1 (by omega) (by omega); have := p2 (by omega) (by omega); omega
  | 4, _ => simp only [val10] at *; have := p0 (by omega) (by omega); have := p1 (by omega) (by omega); have := p2 (by omega) (by omega); have := p3 (by omega) (by omega); omega
  | 5, _ => simp only [val10] at *; have := p0 (by omega) (by omega); have := p1 (by omega) (by omega); have := p2 (by omega) (by omega); have := p3 (by omega) (by omega); have := p4 (by omega) (by omega); omega
  | k + 6, h => omega
theorem val10_rng6 {w : ByteArray} {i : Int} (h : 0 ≤ i) (h6 : i ≤ 6) (pre : ∀ j : Int, 0 ≤ j → j < i → 48 ≤ byt w j ∧ byt w j ≤ 57) : 0 ≤ val10 w i.toNat ∧ val10 w i.toNat ≤ 999999 := by
  rcases Int.lt_or_eq_of_le h6 with e | e
  · have := val10_rng h (by omega) pre; omega
  · have := val10_rng (w := w) (i := 5) (by omega) (by omega) fun j h1 h2 => pre j h1 (by omega)
    have h2 := val10_step (w := w) (i := 5) (by omega)
    have h3 := pre 5 (by omega) (by omega)
    rw [e, show (6 : Int) = 5 + 1 by omega, ← h2]
    omega
def digP (w : ByteArray) : Prop := ∀ j : Int, 0 ≤ j → j < w.size → 48 ≤ byt w j ∧ byt w j ≤ 57
def digB (w : ByteArray) : Bool := (List.range w.size).all fun j => decide (48 ≤ byt w j ∧ byt w j ≤ 57)
theorem digB_iff {w : ByteArray} : digB w = true ↔ digP w := by
  unfold digB digP
  simp only [List.all_eq_true, List.mem_range, decide_eq_true_eq]
  constructor
  · intro c j h1 h2
    have := c j.toNat (by omega)
    rwa [show ((j.toNat : Nat) : Int) = j by omega] at this
  · intro c j hj
    exact c j (by omega) (by omega)
def num14w (neg : Bool) (w : ByteArray) : Int × Bool :=
  if w = ⟨#[48]⟩ ∧ neg = false then (0, true) else if ¬ (1 ≤ w.size ∧ w.size ≤ 6 ∧ byt w 0 ≠ 48) then (0, false) else if digB w = true then ((if neg = true then - val10 w w.size else val10 w w.size), true) else (0, false)
def num14 (s : ByteArray) : Int × Bool := if 0 < s.size ∧ byt s 0 = 45 then num14w true (s.extract (1 : Int).toNat (s.size : Int).toNat) else num14w false s
theorem num14_T {s : ByteArray} (h : 0 < s.size ∧ byt s 0 = 45) : num14 s = num14w true (s.extract (1 : Int).toNat (s.size : Int).toNat) := if_pos h
theorem num14_F {s : ByteArray} (h : ¬ (0 < s.size ∧ byt s 0 = 45)) : num14 s = num14w false s := if_neg h
theorem w_zero {w : ByteArray} (h : w = ⟨#[48]⟩) : num14w false w = (0, true) := if_pos ⟨h, rfl⟩
theorem w_bad {w : ByteArray} {neg : Bool} (h : ¬ (w = ⟨#[48]⟩ ∧ neg = false)) (hb : ¬ (1 ≤ w.size ∧ w.size ≤ 6 ∧ byt w 0 ≠ 48)) : num14w neg w = (0, false) := by
  unfold num14w; rw [if_neg h, if_pos hb]
theorem w_nodig {w : ByteArray} {neg : Bool} {i : Int} (h : ¬ (w = ⟨#[48]⟩ ∧ neg = false)) (hb : 1 ≤ w.size ∧ w.size ≤ 6 ∧ byt w 0 ≠ 48) (h0 : 0 ≤ i) (h1 : i < w.size) (hx : ¬ (48 ≤ byt w i ∧ byt w i ≤ 57)) : num14w neg w = (0, false) := by
  unfold num14w; rw [if_neg h, if_neg (not_not_intro hb), if_neg fun e => hx (digB_iff.1 e i h0 h1)]
theorem w_ok {w : ByteArray} {neg : Bool} {i : Int} (h : ¬ (w = ⟨#[48]⟩ ∧ neg = false)) (hb : 1 ≤ w.size ∧ w.size ≤ 6 ∧ byt w 0 ≠ 48) (hi : (w.size : Int) ≤ i) (hi2 : i ≤ w.size) (pre : ∀ j : Int, 0 ≤ j → j < i → 48 ≤ byt w j ∧ byt w j ≤ 57) : num14w neg w = ((if neg = true then - val10 w i.toNat else val10 w i.toNat), true) := by
  have e : i.toNat = w.size := by omega
  unfold num14w; rw [if_neg h, if_neg (not_not_intro hb), if_pos (digB_iff.2 fun j h1 h2 => pre j h1 (by omega)), e]
theorem dig_step {w : ByteArray} {i : Int} (pre : ∀ j : Int, 0 ≤ j → j < i → 48 ≤ byt w j ∧ byt w j ≤ 57) (h : 48 ≤ byt w i ∧ byt w i ≤ 57) : ∀ j : Int, 0 ≤ j → j < i + 1 → 48 ≤ byt w j ∧ byt w j ≤ 57 := fun j h1 h2 => by
  rcases Int.lt_or_eq_of_le (show j ≤ i by omega) with e | e
  · exact pre j h1 e
  · subst e; exact h
deriving instance DecidableEq for LineT
theorem at_mem {α : Type} [Inhabited α] {l : List α} {i : Int} (h0 : 0 ≤ i) (h1 : i < l.length) : at_ l i ∈ l := by
  unfold at_
  rw [List.getD_eq_getElem?_getD, List.getElem?_eq_getElem (by omega : i.toNat < l.length)]
  exact List.getElem_mem _
end Go.Proofs.L
