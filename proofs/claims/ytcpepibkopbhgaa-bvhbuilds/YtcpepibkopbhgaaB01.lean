/- A part of the proof that a law answers true for every input of its row: own work, by an AI agent. -/
import Derived.Test.YtcpepibkopbhgaaB00
import Derived.Lib.OthersKept
import Derived.Laws.BytesString
import Derived.Lib.ConvBytes
import Derived.Test.YtcpepibkopbhgaaProg
import Derived.Shelf.Bits.Mul64
import Derived.Shelf.SlSortCmp.NoneTotal
import Derived.Ground.SlsfProg
import Derived.KernelRfl
set_option linter.unusedSimpArgs false
set_option linter.unusedVariables false
set_option linter.defProp false
namespace Go.AH
variable [Globs]
set_option linter.unusedSectionVars false
open Go Go.Maps
section
variable {P : Program} {n : Nat} {f : Nat → AV} {H : Heap} {K : (Nat → AV) → Heap → Prop} {ty : TypeId} {pos : String} {after : Array Edge} {guard : Option (Nat × Bool)} {d : Nat}
end
end Go.AH
namespace Go.AH
variable [Globs]
set_option linter.unusedSectionVars false
open Go
theorem AOp.xcall {P : Program} {n : Nat} {f : Nat → AV} {H : Heap} {K : (Nat → AV) → Heap → Prop} {ty : TypeId} {pos : String} {after : Array Edge} {guard : Option (Nat × Bool)} {d : Nat} {g : FuncId} {c : Operand} {args : Array Operand} {at_ : Array TypeId} {caps «as» : List AV} {R : AV → Heap → Prop} (hn : Nat.ble (d + 1) n = true) (hc : ev f c = .fn g caps) (has : args.toList.map (ev f) ++ caps = «as») (ht : TFun P g)
    (hC : ACalls P g «as» H R) (hK : ∀ r H', R r H' → K (upd f d r) H') : AOp P n ⟨some d, .call { callee := .value c, args, argTypes := at_ }, ty, pos, after, guard⟩ K f H :=
  .call hn hc rfl ht (by rw [has]; exact hC) hK
end Go.AH
namespace Go.AH
variable [Globs]
set_option linter.unusedSectionVars false
open Go Go.Lib

/-! ### Worlds that only go on -/
theorem old_Ext {w w' : World} {μ : Nat → Nat} {H : Heap} (hr : HR w μ H) (hs : w.heap.size ≤ w'.heap.size) (hold : ∀ b, b < w.heap.size → w'.heap[b]? = w.heap[b]?) (hrest : Rest w w') : Ext w μ H w' μ H ∧ HR w' μ H := by
  have hlt : ∀ id B, H id = some B → B.live = true → μ id < w.heap.size := fun id B h1 h2 => hr.lt h1 h2
  have he : Ext w μ H w' μ H := by
    refine ⟨hs, fun b hb => ⟨hold b hb.1, hb.2⟩, fun _ _ h => h, fun id ver _ ha => ⟨ha, rfl, ?_⟩, fun _ h => ⟨h, rfl⟩, fun _ h => ⟨h, rfl⟩, hrest⟩
    obtain ⟨c, hc⟩ := ha
    simp only [bsize, hold _ (hlt _ _ hc rfl)]
  refine ⟨he, ⟨fun id ver cells hi => ?_, fun id es hi => ?_, fun id es ents clock hi hw => ?_, fun id it hi => ?_, hr.inj, hr.fin, hr.glob.ext he⟩⟩
  · obtain ⟨cs, T, h1, h2, h3⟩ := hr.rows id ver cells hi
    exact ⟨cs, T, by rw [hold _ (hlt _ _ hi rfl)]; exact h1, h2, fun j x hx => let ⟨y, g1, g2⟩ := h3 j x hx; ⟨y, g1, g2.ext he⟩⟩
  · obtain ⟨h0, en, c, h1, h2, h3⟩ := hr.maps id es hi
    exact ⟨h0, en, c, by rw [hold _ (hlt _ _ hi rfl)]; exact h1, h2, fun j x e hx hy => ⟨(h3 j x e hx hy).1.ext he, (h3 j x e hx hy).2.ext he⟩⟩
  · rw [hold _ (hlt _ _ hi rfl)] at hw
    exact hr.born id es ents clock hi hw
  · rw [hold _ (hlt _ _ hi rfl)]
    exact hr.iters id it hi
theorem PC.lib {P : Program} {g : FuncId} {args : List AV} {r : AV}
    (h : ∀ (H : Heap) μ w (vs : Array Value), HR w μ H → VRs w μ H args vs.toList → Calls P g vs w fun e w' => ∃ v, e = .returned v ∧ w.heap.size ≤ w'.heap.size ∧ (∀ b, b < w.heap.size → w'.heap[b]? = w.heap[b]?) ∧ Rest w w' ∧ VR w' μ H r v) : PC P g args r :=
  fun H μ w vs hr hv => (h H μ w vs hr hv).mono fun e w' ⟨v, he, h1, h2, h3, h4⟩ => by
    obtain ⟨e1, e2⟩ := old_Ext hr h1 h2 h3
    exact ⟨v, he, μ, H, r, e2, h4, e1, rfl, .refl _⟩
theorem vs1 {w : World} {μ : Nat → Nat} {H : Heap} {x : AV} {vs : Array Value} (h : VRs w μ H [x] vs.toList) : ∃ v, vs = #[v] ∧ VR w μ H x v := by
  obtain ⟨h1, h2⟩ := h
  match vs, h1, h2 with
  | ⟨[a]⟩, _, h2 => exact ⟨a, rfl, h2 0 _ _ rfl rfl⟩
theorem vs2 {w : World} {μ : Nat → Nat} {H : Heap} {x y : AV} {vs : Array Value} (h : VRs w μ H [x, y] vs.toList) : ∃ u v, vs = #[u, v] ∧ VR w μ H x u ∧ VR w μ H y v := by
  obtain ⟨h1, h2⟩ := h
  match vs, h1, h2 with
  | ⟨[a, b]⟩, _, h2 => exact ⟨a, b, rfl, h2 0 _ _ rfl rfl, h2 1 _ _ rfl rfl⟩
section
variable {P : Program} {n : Nat} {f : Nat → AV} {H : Heap} {K : (Nat → AV) → Heap → Prop} {ty : TypeId} {pos : String} {after : Array Edge} {guard : Option (Nat × Bool)} {d : Nat}

/-! ### Strings: operations -/
theorem wrap64 {p : Int} (h : -9223372036854775808 ≤ p ∧ p ≤ 9223372036854775807) : IntKind.wrap .i64 p = p := IntWalk.i64_in _ h
/-! ### Bytes to a string -/
theorem Own.src {H0 H : Heap} {es : Nat} {v : AV} {len : Nat} {cells : List AV} (h : Own H0 H es v len cells) : Src H es v len cells := by
  rcases h with ⟨rfl, rfl, rfl⟩ | ⟨id, ver, rfl, h2, _, h4⟩
  · exact .nil
  · have := Src.slm (es := es) (off := 0) (m := len) h2 (Nat.ble_eq_true_of_le (by omega))
    rw [List.drop_zero, List.take_of_length_le (by omega)] at this
    exact this

/-! ### Ranging over a string -/
end
end Go.AH
namespace Go.AH
variable [Globs]
set_option linter.unusedSectionVars false
open Go
/-- A slice that a call has made for its caller is its caller's own. -/
theorem Own.base {H0 H H' : Heap} {es len : Nat} {v : AV} {cells : List AV} (h : Own H H' es v len cells) (hm : Mono H0 H) : Own H0 H' es v len cells := by
  rcases h with h | ⟨id, ver, h1, h2, h3, h4⟩
  · exact .inl h
  · exact .inr ⟨id, ver, h1, h2, hm.free h3, h4⟩
theorem Sep.fresh {H0 H H' : Heap} {es es' len len' : Nat} {v w : AV} {cells cells' : List AV} (hw : Own H0 H es w len cells) (hv : Own H H' es' v len' cells') : Sep w v := by
  rcases hw with ⟨rfl, _, _⟩ | ⟨id, ver, rfl, h2, h3, h4⟩
  · exact Sep.nilL _
  · rcases hv with ⟨rfl, _, _⟩ | ⟨id', ver', rfl, g2, g3, g4⟩
    · exact Sep.nilR _
    · intro i a b c d i' a' b' c' d' e1 e2 e
      cases e1; cases e2; subst e
      rw [h2] at g3; cases g3
end Go.AH
namespace Go.AH
variable [Globs]
set_option linter.unusedSectionVars false
open Go

/-! ### Places in a list of cells -/
theorem loadv_if {ag : Bool} {sz off : Nat} {cells : List AV} : loadv ag sz off cells = if ag = true then (if off + sz ≤ cells.length then some (.agg ((cells.drop off).take sz)) else none) else cells[off]? := by
  unfold loadv
  cases ag
  · rfl
  · simp only [if_true]
    cases h : Nat.ble (off + sz) cells.length
    · rw [if_neg fun g => by rw [Nat.ble_eq_true_of_le g] at h; cases h]
    · rw [if_pos (Nat.le_of_ble_eq_true h)]
theorem ld_skip {A B : List AV} {ag : Bool} {sz n off off' : Nat} {r : Option AV} (hA : A.length = n) (ho : off = n + off') (h : loadv ag sz off' B = r) : loadv ag sz off (A ++ B) = r := by
  subst ho hA
  rw [← h, loadv_if, loadv_if]
  cases ag
  · simp only [Bool.false_eq_true, if_false]
    rw [List.getElem?_append_right (by omega)]; congr 1; omega
  · simp only [if_true, List.length_append]
    rw [List.drop_append, List.drop_of_length_le (show A.length ≤ A.length + off' by omega)]
    simp only [Nat.add_sub_cancel_left, List.nil_append]
    by_cases g : off' + sz ≤ B.length
    · rw [if_pos (by omega), if_pos g]
    · rw [if_neg (by omega), if_neg g]
theorem ld_fst {A B : List AV} {ag : Bool} {sz off : Nat} {v : AV} (hs : ag = false → sz = 1) (h : loadv ag sz off A = some v) : loadv ag sz off (A ++ B) = some v := by
  rw [loadv_if] at h ⊢
  cases ag
  · simp only [Bool.false_eq_true, if_false] at h ⊢
    have : off < A.length := by
      rcases Nat.lt_or_ge off A.length with g | g
      · exact g
      · rw [List.getElem?_eq_none g] at h; cases h
    rw [List.getElem?_append_left this]; exact h
  · simp only [if_true, List.length_append] at h ⊢
    split at h
    · rename_i g
      rw [if_pos (by omega), List.drop_append_of_le_length (by omega), List.take_append_of_le_length (by rw [List.length_drop]; omega)]
      exact h
    · cases h
theorem ld_all {A : List AV} {n : Nat} (h : A.length = n) : loadv true n 0 A = some (.agg A) := by
  subst h; rw [loadv_if]; simp
theorem len1 {α : Type} {xs : List α} {e : α → AV} {n : Nat} (h : xs.length = n) : (xs.map e).length = n := by rw [List.length_map]; exact h
theorem len_app {A B : List AV} {m n k : Nat} (hA : A.length = m) (hB : B.length = n) (hk : m + n = k) : (A ++ B).length = k := by rw [List.length_append, hA, hB]; exact hk
/-- Cells that stand at a place among others. -/
def SubAt (cells : List AV) (off : Nat) (sub : List AV) : Prop := ∀ (j : Nat) (x : AV), sub[j]? = some x → cells[off + j]? = some x
theorem SubAt.all {A : List AV} : SubAt A 0 A := fun j x h => by rw [Nat.zero_add]; exact h
theorem SubAt.skip {A B S : List AV} {n off off' : Nat} (hA : A.length = n) (ho : off = n + off') (h : SubAt B off' S) : SubAt (A ++ B) off S := fun j x hx => by
  subst ho hA
  rw [List.getElem?_append_right (by omega), show A.length + off' + j - A.length = off' + j by omega]
  exact h j x hx
section
variable {P : Program} {n : Nat} {f : Nat → AV} {H : Heap} {K : (Nat → AV) → Heap → Prop} {ty : TypeId} {pos : String} {after : Array Edge} {guard : Option (Nat × Bool)} {d : Nat}
end

/-! ### A row that is read alone from now on -/
theorem freeze_ptr {w : World} {μ : Nat → Nat} {H : Heap} (hr : HR w μ H) {id ver off : Nat} {cells : List AV} (hid : H id = some (.row ver cells)) {v : Value} (hv : VR w μ H (.ptr id ver off) v) : VR w μ (updH H id (.dead ver)) (.fptr cells off) v := by
  obtain ⟨he, _, hf⟩ := freeze hr hid
  have hh := hr.holds hid
  cases hv with
  | ptr hk ha =>
    have := ha ⟨cells, hid⟩
    subst this
    have hex : ∀ j, j < cells.length → ∃ y, w.cell? ⟨μ id, 0 + j, none⟩ = some y ∧ ∀ x, cells[j]? = some x → VR w μ H x y := by
      intro j hj
      obtain ⟨y, h1, h2⟩ := hh j _ (List.getElem?_eq_getElem hj)
      refine ⟨y, h1, fun x hx => ?_⟩
      rw [List.getElem?_eq_getElem hj] at hx; cases hx; exact h2
    let ys : Nat → Value := fun j => if h : j < cells.length then Classical.choose (hex j h) else undef
    have e : (⟨μ id, off, none⟩ : Addr) = ⟨μ id, 0 + off, none⟩ := by rw [Nat.zero_add]
    rw [e]
    refine .fptr (ys := ys) hf (fun j x hx => ?_) (fun j x hx => ?_)
    · have hj := (List.getElem?_eq_some_iff.1 hx).1
      simp only [ys, dif_pos hj]; exact (Classical.choose_spec (hex j hj)).1
    · have hj := (List.getElem?_eq_some_iff.1 hx).1
      simp only [ys, dif_pos hj]; exact ((Classical.choose_spec (hex j hj)).2 x hx).ext he
theorem Ghost.freezeP {n t id ver off : Nat} {f : Nat → AV} {H : Heap} {cells : List AV} (hid : H id = some (.row ver cells)) (ht : f t = .ptr id ver off) : Ghost n f H (upd f t (.fptr cells off)) (updH H id (.dead ver)) := by
  intro μ a w hs
  obtain ⟨h1, h2, h3⟩ := AH.freeze hs.hr hid
  refine ⟨⟨h2, hs.size, fun u => ?_, hs.defers⟩, h1⟩
  rw [upd_eq]
  split
  · rename_i hu; subst hu
    exact freeze_ptr hs.hr hid (ht ▸ hs.slots u)
  · exact (hs.slots u).ext h1
section
variable {P : Program} {n : Nat} {f : Nat → AV} {H H0 : Heap} {K : (Nat → AV) → Heap → Prop} {o : Oper} {c : Code} {Q : Exit → (Nat → AV) → Heap → Prop} {F : (Nat → AV) → Heap → Prop} {id ver off : Nat} {cells : List AV}
theorem AOp.frzP (t : Nat) (hid : H id = some (.row ver cells)) (h0 : H0 id = none) (ht : f t = .ptr id ver off) (hm : Mono H0 H) (hK : ∀ H', Mono H0 H' → (∀ i, i ≠ id → H' i = H i) → AOp P n o K (upd f t (.fptr cells off)) H') : AOp P n o K f H :=
  .ghost (Ghost.freezeP hid ht) (hK _ (hm.set h0 fun _ h => updH_ne _ _ h) fun _ h => updH_ne _ _ h)
theorem AWP.frzP (t : Nat) (hid : H id = some (.row ver cells)) (h0 : H0 id = none) (ht : f t = .ptr id ver off) (hm : Mono H0 H) (hK : ∀ H', Mono H0 H' → (∀ i, i ≠ id → H' i = H i) → AWP P n c Q (upd f t (.fptr cells off)) H') : AWP P n c Q f H :=
  .ghost (Ghost.freezeP hid ht) (hK _ (hm.set h0 fun _ h => updH_ne _ _ h) fun _ h => updH_ne _ _ h)
theorem Fin.frzP (t : Nat) (hid : H id = some (.row ver cells)) (h0 : H0 id = none) (ht : f t = .ptr id ver off) (hm : Mono H0 H) (hK : ∀ H', Mono H0 H' → (∀ i, i ≠ id → H' i = H i) → ∃ f2 H2, Ghost n (upd f t (.fptr cells off)) H' f2 H2 ∧ F f2 H2) : ∃ f2 H2, Ghost n f H f2 H2 ∧ F f2 H2 :=
  let ⟨f2, H2, g2, q⟩ := hK _ (hm.set h0 fun _ h => updH_ne _ _ h) fun _ h => updH_ne _ _ h
  ⟨f2, H2, Ghost.trans (Ghost.freezeP hid ht) g2, q⟩
/-- A loop whose rounds are gone through one by one. -/
def UN (P : Program) (n : Nat) (b : Code) (Q : Exit → (Nat → AV) → Heap → Prop) : Nat → (Nat → AV) → Heap → Prop
  | 0, _, _ => False
  | N + 1, f, H => AWP P n b (Then (UN P n b Q N) Q) f H
theorem UN.step {b : Code} {N : Nat} (h : AWP P n b (Then (UN P n b Q N) Q) f H) : UN P n b Q (N + 1) f H := h
end

/-! ### An element of an array in a row is written -/
theorem wr_set1 {α : Type} {xs : List α} {e : α → AV} {i : Int} {v : α} (h0 : 0 ≤ i) (h1 : i < xs.length) : writeL (xs.map e) (i.toNat * 1) [e v] = (xs.set i.toNat v).map e := by
  apply List.ext_getElem?
  intro j
  rw [writeL_get (by simp; omega), List.map_set, List.getElem?_set]
  simp only [Nat.mul_one, List.length_cons, List.length_nil, List.length_map]
  by_cases g : j = i.toNat
  · subst g; rw [if_pos (by omega), if_pos rfl, if_pos (by omega)]; simp
  · rw [if_neg (by omega), if_neg (fun e => g e.symm)]
theorem ld_off {cells : List AV} {ag : Bool} {sz o o' : Nat} {v : AV} (e : o = o') (h : loadv ag sz o' cells = some v) : loadv ag sz o cells = some v := e ▸ h
/-- A part of an element. -/
theorem ldS {α : Type} [Inhabited α] {xs : List α} {e : α → List AV} {m o k : Nat} {vs : List AV} (he : ∀ x, (e x).length = m) {i : Int} (h0 : 0 ≤ i) (h1 : i < xs.length) (ho : ((e (at_ xs i)).drop o).take k = vs) (hom : o + k ≤ m) :
    loadv true k (i.toNat * m + o) (xs.flatMap e) = some (.agg vs) := by
  subst ho
  have h : i.toNat < xs.length := by omega
  have e1 : (xs.flatMap e).drop (i.toNat * m + o) = (e (at_ xs i)).drop o ++ (xs.drop (i.toNat + 1)).flatMap e := by
    rw [← List.drop_drop, flatMap_drop he, List.drop_eq_getElem_cons h, List.flatMap_cons, List.drop_append_of_le_length (by rw [he]; omega)]
    congr 2
    simp [at_, h]
  have hl : i.toNat * m + o + k ≤ (xs.flatMap e).length := by
    rw [flatMap_length he]
    have h3 : (i.toNat + 1) * m ≤ xs.length * m := Nat.mul_le_mul_right m h
    rw [Nat.add_mul] at h3
    omega
  rw [loadv_if, if_pos rfl, if_pos hl, e1, List.take_append_of_le_length (by rw [List.length_drop, he]; omega)]
theorem wr_fst {A B C vs : List AV} {off : Nat} (h : off + vs.length ≤ A.length) (hw : writeL A off vs = C) : writeL (A ++ B) off vs = C ++ B := by
  subst hw
  unfold writeL
  rw [List.take_append_of_le_length (by omega), List.drop_append_of_le_length (by omega)]
  simp
theorem wr_skip {A B C vs : List AV} {n off off' : Nat} (hA : A.length = n) (ho : off = n + off') (hw : writeL B off' vs = C) : writeL (A ++ B) off vs = A ++ C := by
  subst hw ho hA
  unfold writeL
  rw [List.take_append, List.take_of_length_le (by omega), List.drop_append, List.drop_of_length_le (show A.length ≤ A.length + off' + vs.length by omega)]
  simp only [Nat.add_sub_cancel_left, List.nil_append, List.append_assoc]
  congr 3
  congr 1
  omega
theorem wr_off {cells vs C : List AV} {o o' : Nat} (e : o = o') (h : writeL cells o' vs = C) : writeL cells o vs = C := e ▸ h
theorem wr_all {A vs : List AV} {n : Nat} (hA : A.length = n) (hv : vs.length = n) : writeL A 0 vs = vs := by
  unfold writeL; rw [List.drop_of_length_le (by omega)]; simp
theorem wr_setM {α : Type} {xs : List α} {e : α → List AV} {m : Nat} {i : Int} {v : α} (he : ∀ x, (e x).length = m) (h0 : 0 ≤ i) (h1 : i < xs.length) : writeL (xs.flatMap e) (i.toNat * m) (e v) = (xs.set i.toNat v).flatMap e := by
  have h : i.toNat < xs.length := by omega
  have e1 : xs = xs.take i.toNat ++ xs[i.toNat] :: xs.drop (i.toNat + 1) := by rw [List.getElem_cons_drop, List.take_append_drop]
  have e2 : xs.set i.toNat v = xs.take i.toNat ++ v :: xs.drop (i.toNat + 1) := by rw [List.set_eq_take_append_cons_drop, if_pos h]
  have hl : ((xs.take i.toNat).flatMap e).length = i.toNat * m := by rw [flatMap_length he, List.length_take, Nat.min_eq_left (by omega)]
  rw [e2]
  conv => lhs; rw [e1]
  rw [List.flatMap_append, List.flatMap_append, List.flatMap_cons, List.flatMap_cons]
  refine wr_skip hl (by omega) (wr_fst (off := 0) (by rw [he, he]; omega) (wr_all (he _) (he _)))
theorem blelen {A : List AV} {n o : Nat} (h : A.length = n) (ho : o ≤ n) : Nat.ble o A.length = true := Nat.ble_eq_true_of_le (by omega)
theorem all_one1 {α : Type} {e : α → AV} (he : ∀ x, (e x).one = true) (xs : List α) : (xs.map e).all AV.one = true := List.all_eq_true.2 (one_map he)
theorem ff {b : Bool} (h : b = false) : ¬ b = true := fun e => by rw [e] at h; cases h
section
variable {P : Program} {n : Nat} {f : Nat → AV} {H : Heap} {K : (Nat → AV) → Heap → Prop} {ty : TypeId} {pos : String} {after : Array Edge} {guard : Option (Nat × Bool)} {d : Nat}
end
end Go.AH
namespace Go.AH
variable [Globs]
set_option linter.unusedSectionVars false
open Go Go.Maps
/-- A type that is integers alone, to a depth. -/
def flatI (P : Program) : Nat → TypeId → Bool
  | 0, _ => false
  | d + 1, t =>
    match P.underlying t with
    | some (.int .i64) => P.cellsOf t == 1
    | some (.array n e) => flatI P d e && P.cellsOf t == n * P.cellsOf e
    | some (.struct fs) => fs.all (·.name != "_") && fs.toList.all fun f => flatI P d f.type && Nat.ble (f.offset + P.cellsOf f.type) (P.cellsOf t)
    | _ => false
theorem mapM_ex {α β : Type} {f : α → Option β} : ∀ {l : List α}, (∀ x ∈ l, ∃ y, f x = some y) → ∃ ys, l.mapM f = some ys
  | [], _ => ⟨[], rfl⟩
  | x :: l, h => by
    obtain ⟨y, hy⟩ := h x (.head _)
    obtain ⟨ys, hys⟩ := mapM_ex fun z hz => h z (.tail _ hz)
    exact ⟨y :: ys, by rw [List.mapM_cons, hy, hys]; rfl⟩
theorem flat_lits {P : Program} : ∀ (k d : Nat) (t : TypeId), k ≤ d → flatI P k t = true → ∀ xs : List Int, xs.length = P.cellsOf t → (∀ x ∈ xs, inR x) → ∃ ls, P.keyLits d t (xs.map fun x => .int .i64 x) = some ls
  | 0, _, _, _, h, _, _, _ => by cases h
  | k + 1, d, t, hd, h, xs, hl, hx => by
    obtain ⟨d, rfl⟩ : ∃ e, d = e + 1 := ⟨d - 1, by omega⟩
    have cut : ∀ o c, o + c ≤ xs.length → ((xs.map fun x => Value.int .i64 x).drop o).take c = ((xs.drop o).take c).map fun x => Value.int .i64 x := fun o c _ => by rw [← List.map_drop, ← List.map_take]
    have cl : ∀ o c, o + c ≤ xs.length → ((xs.drop o).take c).length = c := fun o c h => by rw [List.length_take, List.length_drop]; omega
    have ci : ∀ o c, ∀ x ∈ (xs.drop o).take c, inR x := fun o c x hxx => hx x (List.mem_of_mem_drop (List.mem_of_mem_take hxx))
    unfold flatI at h
    rw [Program.keyLits.eq_def]
    cases hu : P.underlying t with
    | none => rw [hu] at h; cases h
    | some u =>
      rw [hu] at h
      cases u <;> try (cases h; done)
      · rename_i q
        cases q <;> try (cases h; done)
        simp only at h
        rw [beq_iff_eq] at h
        match xs, hl, hx with
        | [], hl, _ => simp at hl; omega
        | [x], _, hx => exact ⟨[.int .i64 x], by simp [hu, wf_of (hx x (.head _))]⟩
        | _ :: _ :: _, hl, _ => simp at hl; omega
      · rename_i n e
        simp only [Bool.and_eq_true, beq_iff_eq] at h
        obtain ⟨ys, hys⟩ := mapM_ex (f := fun i => P.keyLits d e (((xs.map fun x => Value.int .i64 x).drop (i * P.cellsOf e)).take (P.cellsOf e))) (l := List.range n) fun i hi => by
          rw [List.mem_range] at hi
          have hle : i * P.cellsOf e + P.cellsOf e ≤ xs.length := by
            rw [hl, h.2]
            have := Nat.mul_le_mul_right (P.cellsOf e) (show i + 1 ≤ n from hi)
            rw [Nat.add_mul] at this; omega
          simp only [cut _ _ hle]
          exact flat_lits k d e (by omega) h.1 _ (cl _ _ hle) (ci _ _)
        refine ⟨ys.flatten, ?_⟩
        simp only [hu, List.length_map, hl, if_true]
        rw [hys]; rfl
      · rename_i fs
        simp only [Bool.and_eq_true] at h
        obtain ⟨ys, hys⟩ := mapM_ex (f := fun f : Field => P.keyLits d f.type (((xs.map fun x => Value.int .i64 x).drop f.offset).take (P.cellsOf f.type))) (l := fs.toList) fun f hf => by
          have g := List.all_eq_true.1 h.2 f hf
          simp only [Bool.and_eq_true] at g
          have hle : f.offset + P.cellsOf f.type ≤ xs.length := by rw [hl]; exact Nat.le_of_ble_eq_true g.2
          simp only [cut _ _ hle]
          exact flat_lits k d f.type (by omega) g.1 _ (cl _ _ hle) (ci _ _)
        refine ⟨ys.flatten, ?_⟩
        simp only [hu, List.length_map, hl, h.1, and_self, if_true]
        rw [hys]; rfl
theorem KOK.flat {P : Program} {t : TypeId} {xs : List Int} (k : Nat) (hw : (match P.underlying t with | some (.array _ _) | some (.struct _) => true | _ => false) = true) (hk : P.keyType t = true) (hs : Nat.ble k P.types.size = true) (hf : flatI P k t = true) (hc : P.cellsOf t = xs.length) (h : ∀ x ∈ xs, inR x) : KOK P t (.agg (xs.map fun x => .int .i64 x)) := by
  obtain ⟨ls, hl⟩ := flat_lits k (P.types.size + 1) t (by have := Nat.le_of_ble_eq_true hs; omega) hf xs hc.symm h
  refine ⟨.agg (xs.map fun x => Value.int .i64 x).toArray, .string (keyBytes ls), by simp only [conc, concs, Option.map_some], ?_⟩
  unfold keyOf
  cases hu : P.underlying t with
  | none => rw [hu] at hw; cases hw
  | some u =>
    rw [hu] at hw
    have h1 : Value.formed P t (.agg (xs.map fun x => Value.int .i64 x).toArray) = true := by
      cases u <;> first | (cases hw; done) | simp [Value.formed, hu, hc]
    cases u <;> first | (cases hw; done) | (simp only [h1, hk, Bool.and_self, if_true, Value.cells, hl, Option.map_some])
section
variable {P : Program} {n : Nat} {f : Nat → AV} {H : Heap} {K : (Nat → AV) → Heap → Prop} {ty : TypeId} {pos : String} {after : Array Edge} {guard : Option (Nat × Bool)} {d : Nat}
end
end Go.AH
namespace Go.AH
variable [Globs]
set_option linter.unusedSectionVars false
open Go
section
variable {P : Program} {n : Nat} {Q : Exit → (Nat → AV) → Heap → Prop} {f : Nat → AV} {H : Heap}
theorem AWP.fresh {c : Code} (h : ∀ id, H id = none → AWP P n c Q f H) : AWP P n c Q f H := by
  intro μ a w hs
  obtain ⟨N, hN⟩ := hs.hr.fin
  exact h N (hN N (Nat.le_refl _)) μ a w hs
theorem AWP.reserve {c : Code} {id : Nat} (hid : H id = none) (h : AWP P n c Q f (updH H id .res)) : AWP P n c Q f H := by
  refine AWP.ghost (fun μ a w hs => ?_) h
  have he : Ext w μ H w μ (updH H id .res) := by
    refine ⟨Nat.le_refl _, fun b hb => ⟨rfl, ?_⟩, fun i v hk => ?_, fun i v hk ha => ?_, fun i hm => ?_, fun i hm => ?_, .refl w⟩
    · rintro ⟨i, B, h1, h2, h3⟩
      rw [updH_eq] at h1
      by_cases g : i = id
      · rw [if_pos g] at h1; cases h1; cases h2
      · rw [if_neg g] at h1; exact hb.2 ⟨i, B, h1, h2, h3⟩
    · obtain ⟨B, v', h1, h2⟩ := hk
      exact ⟨B, v', by rw [updH_eq, if_neg (by rintro rfl; rw [hid] at h1; cases h1)]; exact h1, h2⟩
    · obtain ⟨cc, ha⟩ := ha
      rw [updH_eq] at ha
      by_cases g : i = id
      · rw [if_pos g] at ha; cases ha
      · rw [if_neg g] at ha; exact ⟨⟨cc, ha⟩, rfl, rfl⟩
    · obtain ⟨es, hm⟩ := hm
      exact ⟨⟨es, by rw [updH_eq, if_neg (by rintro rfl; rw [hid] at hm; cases hm)]; exact hm⟩, rfl⟩
    · obtain ⟨it, hm⟩ := hm
      exact ⟨⟨it, by rw [updH_eq, if_neg (by rintro rfl; rw [hid] at hm; cases hm)]; exact hm⟩, rfl⟩
  exact ⟨hs.stay he (hs.hr.change he (fun i => updH_eq _ _ _ _) (fun _ _ => rfl) (fun h => by cases h) (fun _ _ _ _ _ => rfl) (fun _ _ h => by cases h) (fun _ h => by cases h) (fun _ _ _ h => by cases h) (fun _ h => by cases h)), he⟩
/-- An operation yields v, whatever else has been carried out, and leaves what there is. -/
def QOpA (P : Program) (n : Nat) (ops : Array Oper) (o : Oper) (d : Nat) (v : AV) (H : Heap) (f : Nat → AV) : Prop :=
  (o.guard = none ∧ ∀ H1 f' H', (∀ t, (tmpsOf o).elem t = true → f' t = f t) → Mono H1 H' → Mono H H' → AOp P n o (fun f2 H2 => f2 = upd f' d v ∧ Mono H1 H2) f' H') ∨
  (∃ j want oj dj b, o.guard = some (j, want) ∧ ops[j]? = some oj ∧ oj.dst = some dj ∧ f dj = gAV b ∧
    (b = some want → ∀ H1 f' H', (∀ t, (tmpsOf o).elem t = true → f' t = f t) → Mono H1 H' → Mono H H' → AOp P n o (fun f2 H2 => f2 = upd f' d v ∧ Mono H1 H2) f' H') ∧
    (b ≠ some want → v = .tup [] ∧ Nat.ble (d + 1) n = true))
theorem QOpA.yes {ops : Array Oper} {o oj : Oper} {d j dj : Nat} {v : AV} {b want : Bool} (hg : o.guard = some (j, want)) (hj : ops[j]? = some oj) (hd : oj.dst = some dj) (hf : f dj = .bool b) (hb : b = want)
    (h : ∀ H1 f' H', (∀ t, (tmpsOf o).elem t = true → f' t = f t) → Mono H1 H' → Mono H H' → AOp P n o (fun f2 H2 => f2 = upd f' d v ∧ Mono H1 H2) f' H') : QOpA P n ops o d v H f :=
  .inr ⟨j, want, oj, dj, some b, hg, hj, hd, hf, fun _ => h, fun e => absurd (congrArg some hb) e⟩
theorem QOpA.no {ops : Array Oper} {o oj : Oper} {d j dj : Nat} {b want : Bool} (hg : o.guard = some (j, want)) (hj : ops[j]? = some oj) (hd : oj.dst = some dj) (hf : f dj = .bool b) (hb : b ≠ want) (hn : Nat.ble (d + 1) n = true) : QOpA P n ops o d (.tup []) H f :=
  .inr ⟨j, want, oj, dj, some b, hg, hj, hd, hf, fun e => absurd (Option.some.inj e) hb, fun _ => ⟨rfl, hn⟩⟩
theorem QOpA.un {ops : Array Oper} {o oj : Oper} {d j dj : Nat} {want : Bool} (hg : o.guard = some (j, want)) (hj : ops[j]? = some oj) (hd : oj.dst = some dj) (hf : f dj = .tup []) (hn : Nat.ble (d + 1) n = true) : QOpA P n ops o d (.tup []) H f :=
  .inr ⟨j, want, oj, dj, none, hg, hj, hd, hf, fun e => (by cases e), fun _ => ⟨rfl, hn⟩⟩
inductive QPA (P : Program) (n : Nat) (ops : Array Oper) (a id : Nat) (B : AB) (va : AV) (H : Heap) (T : (Nat → AV) → Prop) (k : Nat) : Nat → (Nat → AV) → List (Nat × AV) → Prop
  | done {f : Nat → AV} (h : T f) : QPA P n ops a id B va H T k k f []
  | op {i d : Nat} {f : Nat → AV} {v : AV} {L : List (Nat × AV)} {o : Oper} (hi : i ≠ a) (ho : ops[i]? = some o) (hd : o.dst = some d) (h : QOpA P n ops o d v H f) (rest : QPA P n ops a id B va H T k (i + 1) (upd f d v) L) : QPA P n ops a id B va H T k i f ((d, v) :: L)
  | new {d : Nat} {f : Nat → AV} {L : List (Nat × AV)} {o : Oper} (ho : ops[a]? = some o) (hd : o.dst = some d) (hg : o.guard = none) (hn : Nat.ble (d + 1) n = true) (hop : ∀ f' H', (∀ t, (tmpsOf o).elem t = true → f' t = f t) → H' id = some .res → AOp P n o (fun f2 H2 => f2 = upd f' d va ∧ H2 = updH H' id B) f' H') (rest : QPA P n ops a id B va H T k (a + 1) (upd f d va) L) : QPA P n ops a id B va H T k a f ((d, va) :: L)
theorem QPA.len {ops : Array Oper} {a id : Nat} {B : AB} {va : AV} {T : (Nat → AV) → Prop} {k b : Nat} {L : List (Nat × AV)} (h : QPA P n ops a id B va H T k b f L) : b + L.length = k := by
  induction h with
  | done h => rfl
  | op hi ho hd h rest ih => simp only [List.length_cons]; omega
  | new ho hd hg hn hop rest ih => simp only [List.length_cons]; omega
def QEA (P : Program) (n : Nat) (ops : Array Oper) (a id : Nat) (B : AB) (va : AV) (H : Heap) (T : (Nat → AV) → Prop) (k i : Nat) (f : Nat → AV) : Prop := ∃ L, QPA P n ops a id B va H T k i f L
theorem QEA.done {ops : Array Oper} {a id : Nat} {B : AB} {va : AV} {T : (Nat → AV) → Prop} {k : Nat} (h : T f) : QEA P n ops a id B va H T k k f := ⟨_, .done h⟩
theorem QEA.op {ops : Array Oper} {a id : Nat} {B : AB} {va : AV} {T : (Nat → AV) → Prop} {k i d : Nat} {v : AV} {o : Oper} (hi : Nat.beq i a = false) (ho : ops[i]? = some o) (hd : o.dst = some d) (h : QOpA P n ops o d v H f) (rest : QEA P n ops a id B va H T k (i + 1) (upd f d v)) : QEA P n ops a id B va H T k i f :=
  let ⟨_, r⟩ := rest; ⟨_, .op (by rintro rfl; simp at hi) ho hd h r⟩
theorem QEA.alloc {ops : Array Oper} {a id : Nat} {Z : List AV} {T : (Nat → AV) → Prop} {k d : Nat} {o : Oper} {t : TypeId} (ho : ops[a]? = some o) (hd : o.dst = some d) (hg : o.guard = none) (hop : o.op = .alloc t) (hn : Nat.ble (d + 1) n = true) (hz : TZero P t Z) (rest : QEA P n ops a id (.row 0 Z) (.ptr id 0 0) H T k (a + 1) (upd f d (.ptr id 0 0))) : QEA P n ops a id (.row 0 Z) (.ptr id 0 0) H T k a f :=
  let ⟨_, r⟩ := rest; ⟨_, .new ho hd hg hn (fun f' H' _ hr => by
      obtain ⟨dst, op, ty, pos, after, guard⟩ := o
      simp only at hd hop
      subst hd hop
      exact AOp.alloc_at id (.inr hr) hn hz ⟨rfl, rfl⟩) r⟩
theorem QEA.new {ops : Array Oper} {a id : Nat} {B : AB} {va : AV} {T : (Nat → AV) → Prop} {k d : Nat} {o : Oper} (ho : ops[a]? = some o) (hd : o.dst = some d) (hg : o.guard = none) (hn : Nat.ble (d + 1) n = true) (hop : ∀ f' H', (∀ t, (tmpsOf o).elem t = true → f' t = f t) → H' id = some .res → AOp P n o (fun f2 H2 => f2 = upd f' d va ∧ H2 = updH H' id B) f' H') (rest : QEA P n ops a id B va H T k (a + 1) (upd f d va)) : QEA P n ops a id B va H T k a f :=
  let ⟨_, r⟩ := rest; ⟨_, .new ho hd hg hn hop r⟩
/-- What an entry of the list says: a plain operation, or the one that lays the block. -/
def EntA (P : Program) (n : Nat) (ops : Array Oper) (a id : Nat) (B : AB) (va : AV) (H : Heap) (i : Nat) (o : Oper) (d : Nat) (v : AV) (f : Nat → AV) : Prop :=
  (i ≠ a ∧ QOpA P n ops o d v H f) ∨ (i = a ∧ (∀ f' H', (∀ t, (tmpsOf o).elem t = true → f' t = f t) → H' id = some .res → AOp P n o (fun f2 H2 => f2 = upd f' d va ∧ H2 = updH H' id B) f' H') ∧ o.guard = none ∧ v = va ∧ Nat.ble (d + 1) n = true)
theorem QPA.get {ops : Array Oper} {a id : Nat} {B : AB} {va : AV} {T : (Nat → AV) → Prop} {k b : Nat} {L : List (Nat × AV)} (h : QPA P n ops a id B va H T k b f L) : T (cur L b (fun _ => true) f) ∧
    ∀ m d v, L[m]? = some (d, v) → ∃ o, ops[b + m]? = some o ∧ o.dst = some d ∧ EntA P n ops a id B va H (b + m) o d v (cur (L.take m) b (fun _ => true) f) := by
  induction h with
  | done h => exact ⟨h, fun m d v hm => by simp at hm⟩
  | op hi ho hd h rest ih =>
    rename_i i d0 f v0 L o
    refine ⟨by rw [cur, if_pos rfl]; exact ih.1, fun m d v hm => ?_⟩
    cases m with
    | zero =>
      simp only [List.getElem?_cons_zero, Option.some.injEq, Prod.mk.injEq] at hm
      obtain ⟨rfl, rfl⟩ := hm
      exact ⟨o, ho, hd, .inl ⟨hi, h⟩⟩
    | succ m =>
      obtain ⟨o', h1, h2, h3⟩ := ih.2 m d v (by simpa using hm)
      rw [show i + 1 + m = i + (m + 1) by omega] at h1 h3
      refine ⟨o', h1, h2, ?_⟩
      rw [List.take_succ_cons, cur, if_pos rfl]; exact h3
  | new ho hd hg hn hop rest ih =>
    rename_i d0 f L o
    refine ⟨by rw [cur, if_pos rfl]; exact ih.1, fun m d v hm => ?_⟩
    cases m with
    | zero =>
      simp only [List.getElem?_cons_zero, Option.some.injEq, Prod.mk.injEq] at hm
      obtain ⟨rfl, rfl⟩ := hm
      exact ⟨o, ho, hd, .inr ⟨rfl, hop, hg, rfl, hn⟩⟩
    | succ m =>
      obtain ⟨o', h1, h2, h3⟩ := ih.2 m d v (by simpa using hm)
      rw [show a + 1 + m = a + (m + 1) by omega] at h1 h3
      refine ⟨o', h1, h2, ?_⟩
      rw [List.take_succ_cons, cur, if_pos rfl]; exact h3
theorem AWP.region_quietA {rid : Nat} {ops : Array Oper} (hm : P.follows .mixedOrders = true) (hback : backB ops = true) (a k : Nat) (tail : List Nat) (htl : (List.range ops.size).drop k = tail) (hq : quietB ops k = true) {B : AB} {va : Nat → AV} (hak : a < k)
    (h : ∀ id, H id = none → (∀ H', Mono (updH H id .res) H' → Mono H H') → (∀ H', Mono (updH H id B) H' → Mono H H') → QEA P n ops a id B (va id) H (fun f => ∀ H', Mono (updH H id B) H' → AOps P n ops (Q .normal) tail f H') k 0 f) : AWP P n (.region rid ops true) Q f H := by
  refine AWP.fresh fun id hid => ?_
  have hr1 : ∀ B H', Mono (updH H id B) H' → Mono H H' := fun B H' m j C hj => m j C (by rw [updH_eq, if_neg (by rintro rfl; rw [hid] at hj; cases hj)]; exact hj)
  obtain ⟨L, h⟩ := h id hid (hr1 _) (hr1 _)
  refine AWP.reserve hid ?_
  let HS : (Nat → Bool) → Heap := fun S => if S a = true then updH H id B else updH H id .res
  have hMS : ∀ S H', Mono (HS S) H' → Mono H H' := fun S H' m => by
    by_cases c : S a = true
    · simp only [HS, c, if_true] at m; exact hr1 _ _ m
    · simp only [HS, c] at m; exact hr1 _ _ m
  have hL : L.length = k := by have := h.len; omega
  obtain ⟨hT, hops⟩ := h.get
  simp only [quietB, Bool.and_eq_true] at hq
  obtain ⟨⟨hk, hq1⟩, hq2⟩ := hq
  have hk := Nat.le_of_ble_eq_true hk
  rw [List.all_eq_true] at hq1 hq2
  subst htl
  -- what holds at each set: the frame is the sequential one; once the head is through, the tail's own condition
  let I : (Nat → Bool) → (Nat → AV) → Heap → Prop := fun S f' H' => Dn ops S ∧
    ((∀ i, k ≤ i → i < ops.size → S i = false) ∧ (∀ t, f' t = cur L 0 S f t) ∧ Mono (HS S) H' ∨
     ∃ i, k < i ∧ i ≤ ops.size ∧ (∀ j, j < i → S j = true) ∧ (∀ j, i ≤ j → j < ops.size → S j = false) ∧ AOps P n ops (Q .normal) ((List.range ops.size).drop i) f' H')
  have beqf : ∀ x y : Nat, x ≠ y → Nat.beq x y = false := fun x y h => by
    cases hb : Nat.beq x y with
    | false => rfl
    | true => exact absurd (Nat.eq_of_beq_eq_true hb) h
  have hdn : ∀ (S : Nat → Bool) i o, Dn ops S → ops[i]? = some o → (∀ e ∈ o.after, Region.binds .any e = true → S e.on = true) → Dn ops (fun k => Nat.beq k i || S k) := by
    intro S i o hD ho hr j oj hj hS e he hb
    by_cases hji : j = i
    · subst hji
      rw [ho] at hj; cases hj
      simp [hr e he hb]
    · have hS : (Nat.beq j i || S j) = true := hS
      rw [beqf _ _ hji, Bool.false_or] at hS
      simp [hD j oj hj hS e he hb]
  have bef : ∀ (S : Nat → Bool), Dn ops S → ∀ i m j, (befL ops.toList [])[i]? = some m → m.testBit j = true → S i = true → S j = true := fun S hD => bef_spec hD ops.toList [] (fun j => by simp) (fun i m j hi => by simp at hi)
  have befD : ∀ (S : Nat → Bool), Dn ops S → ∀ i j, ((befL ops.toList []).getD i 0).testBit j = true → S i = true → S j = true := by
    intro S hD i j hb hS
    rcases Nat.lt_or_ge i (befL ops.toList []).length with h | h
    · rw [List.getD_eq_getElem?_getD, List.getElem?_eq_getElem h, Option.getD_some] at hb
      exact bef S hD i _ j (List.getElem?_eq_getElem h) hb hS
    · rw [List.getD_eq_getElem?_getD, List.getElem?_eq_none h, Option.getD_none] at hb
      simp at hb
  refine AWP.region_any hm hback I ⟨fun _ _ _ h => (by cases h), .inl ⟨fun _ _ _ => rfl, fun t => (cur_other L 0 f fun _ _ _ _ => rfl).symm, Mono.refl _⟩⟩ ?_ ?_
  · -- a step
    intro S i o ho hSi hr f' H' ⟨hD, hcase⟩
    have hi : i < ops.size := by
      rcases Nat.lt_or_ge i ops.size with h' | h'
      · exact h'
      · rw [Array.getElem?_eq_none h'] at ho; cases ho
    have hD' := hdn S i o hD ho hr
    have hSi' : (fun k => Nat.beq k i || S k) i = true := by simp
    -- the tail's operations, from a state at which all before i are through
    have tailstep : k ≤ i → (∀ j, j < i → S j = true) → (∀ j, i ≤ j → j < ops.size → S j = false) → AOps P n ops (Q .normal) ((List.range ops.size).drop i) f' H' →
        (o.guard = none ∧ AOp P n o (I (fun k => Nat.beq k i || S k)) f' H') ∨
        (∃ j want oj d b, o.guard = some (j, want) ∧ ops[j]? = some oj ∧ oj.dst = some d ∧ f' d = gAV b ∧ (b = some want → AOp P n o (I (fun k => Nat.beq k i || S k)) f' H') ∧ (b ≠ some want → ∃ d', o.dst = some d' ∧ Nat.ble (d' + 1) n = true ∧ I (fun k => Nat.beq k i || S k) (upd f' d' (.tup [])) H')) := by
      intro hki hbef hlow hA
      have hdrop : (List.range ops.size).drop i = i :: (List.range ops.size).drop (i + 1) := by
        rw [List.drop_eq_getElem_cons (by simpa using hi)]; simp
      rw [hdrop] at hA
      obtain ⟨o', ho', hA⟩ := hA
      rw [ho] at ho'; cases ho'
      have hI : ∀ f2 H2, AOps P n ops (Q .normal) ((List.range ops.size).drop (i + 1)) f2 H2 → I (fun k => Nat.beq k i || S k) f2 H2 := fun f2 H2 h =>
        ⟨hD', .inr ⟨i + 1, by omega, by omega, fun j hj => by
          by_cases hji : j = i
          · subst hji; simp
          · simp [hbef j (by omega)], fun j hj1 hj2 => by show (Nat.beq j i || S j) = false; rw [beqf _ _ (by omega), Bool.false_or]; exact hlow j (by omega) hj2, h⟩⟩
      have mono : AOp P n o (AOps P n ops (Q .normal) ((List.range ops.size).drop (i + 1))) f' H' → AOp P n o (I (fun k => Nat.beq k i || S k)) f' H' := fun h μ a w hs E =>
        Oper.wp_mono (fun a' w' ⟨μ', f2, H2, g1, g2, g3⟩ => ⟨μ', f2, H2, g1, g2, hI _ _ g3⟩) (fun _ _ _ _ h => h) (h μ a w hs E)
      rcases hA with ⟨hg, hA⟩ | ⟨j, want, oj, d, b, hg, hj, hd, hfb, h1, h2⟩
      · exact .inl ⟨hg, mono hA⟩
      · refine .inr ⟨j, want, oj, d, b, hg, hj, hd, hfb, fun e => mono (h1 e), fun e => ?_⟩
        obtain ⟨d', hd', hn', h3⟩ := h2 e
        exact ⟨d', hd', hn', hI _ _ h3⟩
    rcases hcase with ⟨hlow, hf, hM'⟩ | ⟨i0, h1, h2, h3, h4, h5⟩
    · by_cases hik : i < k
      · -- in the head
        have hLi : i < L.length := by omega
        obtain ⟨o', ho', hd, hop⟩ := hops i L[i].1 L[i].2 (List.getElem?_eq_getElem hLi)
        rw [Nat.zero_add, ho] at ho'
        cases ho'
        have hq := hq1 i (List.mem_range.2 hik)
        rw [ho] at hq
        simp only [hd, Bool.true_and, List.all_eq_true, List.mem_range] at hq
        -- who writes a slot that i looks at, or writes
        have hw : ∀ t, t ∈ tmpsOf o ++ guardSlot ops o ++ [L[i].1] → ∀ j p, L[j]? = some p → p.1 = t → j ≠ i → (j < i → S j = true) ∧ (i < j → S j = false) := by
          intro t ht j p hj hp hne
          have hjk : j < k := by
            have := (List.getElem?_eq_some_iff.1 hj).1; omega
          have h1 := hq t (by simpa using ht) j hjk
          obtain ⟨oj, hoj, hdj, _⟩ := hops j p.1 p.2 hj
          rw [Nat.zero_add] at hoj
          have hds : (ops.toList.map (·.dst))[j]? = some (some p.1) := by simp [hoj, hdj]
          rw [hds] at h1
          simp only [beqf _ _ (Ne.symm hne), Bool.false_or, hp] at h1
          have htt : Nat.beq t t = true := by simp
          rw [htt] at h1
          simp only [Bool.not_true, Bool.false_or] at h1
          refine ⟨fun hlt => ?_, fun hlt => ?_⟩
          · rw [if_pos hlt] at h1
            have := befD _ hD' i j h1 hSi'
            have this : (Nat.beq j i || S j) = true := this
            rw [beqf _ _ hne, Bool.false_or] at this
            exact this
          · rw [if_neg (by omega)] at h1
            cases hSj : S j with
            | false => rfl
            | true =>
              have := befD S hD j i h1 hSj
              rw [hSi] at this; cases this
        have hval : ∀ t, t ∈ tmpsOf o ++ guardSlot ops o ++ [L[i].1] → f' t = cur (L.take i) 0 (fun _ => true) f t := by
          intro t ht
          rw [hf t]
          refine cur_take L 0 f i (fun j p hj hp hlt => ?_) (fun j p hj hp hge => ?_)
          · rw [Nat.zero_add]; exact (hw t ht j p hj hp (by omega)).1 hlt
          · rw [Nat.zero_add]
            by_cases hji : j = i
            · rw [hji]; exact hSi
            · exact (hw t ht j p hj hp hji).2 (by omega)
        have hnew : ∀ f2, f2 = upd f' L[i].1 L[i].2 → ∀ t, f2 t = cur L 0 (fun k => Nat.beq k i || S k) f t := by
          intro f2 h2 t
          rw [h2, cur_set L 0 f L[i].1 L[i].2 i (by omega) (List.getElem?_eq_getElem hLi) hSi (fun j p hj hp hlt => by
            rw [Nat.zero_add]; exact (hw L[i].1 (by simp) j p hj hp (by omega)).2 hlt) t, upd_eq, upd_eq, hf t]
        have hI : ∀ f2 H2, f2 = upd f' L[i].1 L[i].2 ∧ Mono (HS (fun k => Nat.beq k i || S k)) H2 → I (fun k => Nat.beq k i || S k) f2 H2 := fun f2 H2 ⟨e, m⟩ =>
          ⟨hD', .inl ⟨fun j hj hj2 => by show (Nat.beq j i || S j) = false; rw [beqf _ _ (by omega), Bool.false_or]; exact hlow j hj hj2, hnew f2 e, m⟩⟩
        have mono : ∀ {K K' : (Nat → AV) → Heap → Prop}, (∀ f H, K f H → K' f H) → AOp P n o K f' H' → AOp P n o K' f' H' := fun hk h μ a w hs E =>
          Oper.wp_mono (fun a' w' ⟨μ', f2, H2, g1, g2, g3⟩ => ⟨μ', f2, H2, g1, g2, hk _ _ g3⟩) (fun _ _ _ _ h => h) (h μ a w hs E)
        rw [Nat.zero_add] at hop
        rcases hop with ⟨hia, hop⟩ | ⟨rfl, hov, hg, hval1, hnb⟩
        · have hSame : HS (fun k => Nat.beq k i || S k) = HS S := by simp only [HS, beqf _ _ (Ne.symm hia), Bool.false_or]
          rw [hSame] at hI
          have hMH := hMS S H' hM'
          have step : ∀ {v : AV}, (∀ f2 H2, f2 = upd f' L[i].1 v ∧ Mono H' H2 → f2 = upd f' L[i].1 v ∧ Mono (HS S) H2) := fun f2 H2 ⟨e, m⟩ => ⟨e, hM'.trans m⟩
          rcases hop with ⟨hg, hop⟩ | ⟨j, want, oj, dj, b, hg, hj, hdj, hfb, hyes, hno⟩
          · exact .inl ⟨hg, mono (fun f2 H2 h => hI f2 H2 (step f2 H2 h)) (hop H' f' H' (fun t ht => hval t (by have := List.elem_iff.1 ht; simp [this])) (Mono.refl _) hMH)⟩
          · refine .inr ⟨j, want, oj, dj, b, hg, hj, hdj, ?_, fun hb => mono (fun f2 H2 h => hI f2 H2 (step f2 H2 h)) (hyes hb H' f' H' (fun t ht => hval t (by have := List.elem_iff.1 ht; simp [this])) (Mono.refl _) hMH), fun hb => ?_⟩
            · rw [hval dj (by simp [guardSlot, hg, hj, hdj])]; exact hfb
            · obtain ⟨hv, hn⟩ := hno hb
              exact ⟨L[i].1, hd, hn, hI _ _ ⟨by rw [hv], hM'⟩⟩
        · refine .inl ⟨hg, ?_⟩
          have hres : H' id = some .res := hM' id .res (by simp only [HS, hSi]; rw [if_neg (by simp), updH_same])
          have := hov f' H' (fun t ht => hval t (by have := List.elem_iff.1 ht; simp [this])) hres
          refine mono (fun f2 H2 h => hI f2 H2 ?_) this
          obtain ⟨e, e2⟩ := h
          refine ⟨by rw [e, hval1], ?_⟩
          have hb : (fun k => Nat.beq k i || S k) i = true := hSi'
          intro j C hj
          simp only [HS, hb, if_true] at hj
          rw [e2]
          rw [updH_eq] at hj ⊢
          by_cases c : j = id
          · rw [if_pos c] at hj ⊢; exact hj
          · rw [if_neg c] at hj ⊢
            exact hMS S H' hM' j C hj
      · -- the tail begins
        have hki : k ≤ i := by omega
        have hbef : ∀ j, j < i → S j = true := by
          intro j hj
          have h1 := hq2 i (List.mem_range.2 hi)
          simp only [Bool.or_eq_true, decide_eq_true_eq, List.all_eq_true, List.mem_range] at h1
          rcases h1 with h1 | h1
          · omega
          · have : (Nat.beq j i || S j) = true := befD _ hD' i j (h1 j hj) hSi'
            rw [beqf _ _ (by omega), Bool.false_or] at this
            exact this
        have hik' : i = k := by
          rcases Nat.lt_or_ge k i with h | h
          · have := hbef k h; rw [hlow k (Nat.le_refl _) (by omega)] at this; cases this
          · omega
        subst hik'
        refine tailstep (Nat.le_refl _) hbef hlow ?_
        have hfall : f' = cur L 0 (fun _ => true) f := by
          funext t
          rw [hf t]
          exact cur_congr L 0 f f rfl fun j p hj _ => by
            have := (List.getElem?_eq_some_iff.1 hj).1
            rw [Nat.zero_add]; exact hbef j (by omega)
        rw [hfall]
        have hSa : S a = true := hbef a hak
        simp only [HS, hSa, if_true] at hM'
        exact hT H' hM'
    · have hii : i = i0 := by
        have hge : i0 ≤ i := by
          rcases Nat.lt_or_ge i i0 with h | h
          · rw [h3 i h] at hSi; cases hSi
          · exact h
        rcases Nat.lt_or_ge i0 i with h | h
        · have h1' := hq2 i (List.mem_range.2 hi)
          simp only [Bool.or_eq_true, decide_eq_true_eq, List.all_eq_true, List.mem_range] at h1'
          rcases h1' with h1' | h1'
          · omega
          · have : (Nat.beq i0 i || S i0) = true := befD _ hD' i i0 (h1' i0 h) hSi'
            rw [beqf _ _ (by omega), Bool.false_or, h4 i0 (Nat.le_refl _) (by omega)] at this
            cases this
        · omega
      subst hii
      exact tailstep (by omega) h3 h4 h5
  · -- the end
    intro S f' H' hall ⟨hD, hcase⟩
    rcases hcase with ⟨hlow, hf, hM'⟩ | ⟨i0, h1, h2, h3, h4, h5⟩
    · have hkn : k = ops.size := by
        rcases Nat.lt_or_ge k ops.size with h | h
        · have := hlow k (Nat.le_refl _) h; rw [hall k h] at this; cases this
        · omega
      have hfall : f' = cur L 0 (fun _ => true) f := by
        funext t
        rw [hf t]
        exact cur_congr L 0 f f rfl fun j p hj _ => by
          have := (List.getElem?_eq_some_iff.1 hj).1
          rw [Nat.zero_add]; exact hall j (by omega)
      have hSa : S a = true := hall a (by omega)
      simp only [HS, hSa, if_true] at hM'
      have h5 := hT H' hM'
      rw [← hfall, hkn, List.drop_of_length_le (by simp)] at h5
      exact h5
    · have hi0 : i0 = ops.size := by
        rcases Nat.lt_or_ge i0 ops.size with h | h
        · have := h4 i0 (Nat.le_refl _) h; rw [hall i0 h] at this; cases this
        · omega
      rw [hi0, List.drop_of_length_le (by simp)] at h5
      exact h5

end
end Go.AH
namespace Go.AH
variable [Globs]
set_option linter.unusedSectionVars false
open Go
theorem fill_step {pl : Nat → Option (Nat × Nat)} {cells c' : List AV} {i off size : Nat} {v : AV} {rest : List (Nat × AV)} {r : Option (List AV)} (hp : pl i = some (off, size)) (hb : v.plainB = true) (hl : v.cells.length = size) (hle : Nat.ble (off + size) cells.length = true) (hw : writeL cells off v.cells = c') (h : fillA pl c' rest = r) : fillA pl cells ((i, v) :: rest) = r := by
  subst hl hw
  simp only [fillA, hp, hb, hle, Bool.true_and, Nat.beq_refl]
  exact h
theorem wr_pre {Z vs : List AV} {n : Nat} (h : vs.length = n) : writeL Z 0 vs = vs ++ Z.drop n := by
  subst h; simp [writeL]
end Go.AH
namespace Go.AH
variable [Globs]
set_option linter.unusedSectionVars false
open Go
abbrev Ent := Nat × Option Nat × AV
def updO (f : Nat → AV) : Option Nat → AV → Nat → AV
  | none, _ => f
  | some d, v => upd f d v
def ov (S : Nat → Bool) : List Ent → (Nat → AV) → Nat → AV
  | [], f => f
  | e :: L, f => ov S L (if S e.1 = true then updO f e.2.1 e.2.2 else f)
theorem ov_app {S : Nat → Bool} : ∀ (L M : List Ent) (f : Nat → AV), ov S (L ++ M) f = ov S M (ov S L f)
  | [], _, _ => rfl
  | e :: L, M, f => by rw [List.cons_append, ov, ov_app L M, ov]
theorem ov_slot {S S' : Nat → Bool} {t : Nat} : ∀ (L : List Ent) (f f' : Nat → AV), f t = f' t → (∀ e ∈ L, e.2.1 = some t → S e.1 = S' e.1) → ov S L f t = ov S' L f' t
  | [], _, _, h, _ => h
  | e :: L, f, f', h, hs => by
    rw [ov, ov]
    refine ov_slot L _ _ ?_ fun x hx => hs x (.tail _ hx)
    by_cases ht : e.2.1 = some t
    · rw [hs e (.head _) ht]
      by_cases hS : S' e.1 = true
      · rw [if_pos hS, if_pos hS, ht]; simp [updO, upd_eq]
      · rw [if_neg hS, if_neg hS]; exact h
    · have a : ∀ g : Nat → AV, updO g e.2.1 e.2.2 t = g t := fun g => by
        cases hd : e.2.1 with
        | none => rfl
        | some d => simp only [updO]; rw [upd_eq, if_neg (fun h => ht (by rw [hd, h]))]
      have b : ∀ (c : Prop) [Decidable c] (g : Nat → AV), (if c then updO g e.2.1 e.2.2 else g) t = g t := fun c _ g => by by_cases hc : c <;> simp [hc, a]
      rw [b, b]; exact h
theorem ov_none {S : Nat → Bool} : ∀ (L : List Ent) (f : Nat → AV), (∀ e ∈ L, S e.1 = false) → ov S L f = f
  | [], _, _ => rfl
  | e :: L, f, h => by rw [ov, if_neg (by rw [h e (.head _)]; decide)]; exact ov_none L f fun x hx => h x (.tail _ hx)
theorem ov_congr {S S' : Nat → Bool} (L : List Ent) (f : Nat → AV) (h : ∀ e ∈ L, S e.1 = S' e.1) : ov S L f = ov S' L f := funext fun _ => ov_slot L f f rfl fun e he _ => h e he
def prs {α : Type} (p : α → α → Bool) : List α → Bool
  | [] => true
  | a :: l => l.all (p a) && prs p l
theorem prs_spec {α : Type} {p : α → α → Bool} : ∀ {A : List α} {a : α} {B : List α}, prs p (A ++ a :: B) = true → (∀ b ∈ B, p a b = true) ∧ ∀ c ∈ A, p c a = true
  | [], a, B, h => by
    rw [List.nil_append, prs, Bool.and_eq_true, List.all_eq_true] at h
    exact ⟨h.1, fun _ h => by cases h⟩
  | x :: A, a, B, h => by
    rw [List.cons_append, prs, Bool.and_eq_true, List.all_eq_true] at h
    obtain ⟨h1, h2⟩ := prs_spec h.2
    refine ⟨h1, fun c hc => ?_⟩
    rcases List.mem_cons.1 hc with rfl | hc
    · exact h.1 a (by simp)
    · exact h2 c hc
abbrev Item := Nat × Option (List Nat)
def bfB (ops : Array Oper) (i j : Nat) : Bool := ((befL ops.toList []).getD i 0).testBit j
def dstOf (ops : Array Oper) (i : Nat) : Option Nat := (ops[i]?).bind (·.dst)
def touch (ops : Array Oper) (i : Nat) : List Nat := match ops[i]? with | some o => tmpsOf o ++ guardSlot ops o ++ o.dst.toList | none => []
/-- Two items of the order, the first ahead of the second. -/
def pairB (ops : Array Oper) (x y : Item) : Bool :=
  !Nat.beq x.1 y.1 &&
  ((touch ops x.1).all fun t => (match dstOf ops y.1 with | some d => !Nat.beq d t | none => true) || bfB ops y.1 x.1) &&
  ((touch ops y.1).all fun t => (match dstOf ops x.1 with | some d => !Nat.beq d t | none => true) || bfB ops y.1 x.1) &&
  (match x.2 with | some _ => bfB ops y.1 x.1 | none => true) &&
  (match y.2 with | some R => bfB ops y.1 x.1 || R.elem x.1 | none => true)
def stgB (ops : Array Oper) (ord : List Item) (tail : List Nat) : Bool :=
  ((List.range ops.size).all fun i => (ord.map (·.1)).elem i || tail.elem i) &&
  (ord.all fun x => Nat.blt x.1 ops.size) && (tail.all fun c => Nat.blt c ops.size) &&
  prs (pairB ops) ord && prs (fun c c' => !Nat.beq c c' && bfB ops c' c) tail &&
  (tail.all fun c => ord.all fun x => !Nat.beq c x.1 && bfB ops c x.1)
section
variable {P : Program} {n : Nat} {Q : Exit → (Nat → AV) → Heap → Prop} {f : Nat → AV} {H : Heap}
theorem QOpA.mono {ops : Array Oper} {o : Oper} {d : Nat} {v : AV} {H2 : Heap} (hm : Mono H H2) (h : QOpA P n ops o d v H f) : QOpA P n ops o d v H2 f := by
  rcases h with ⟨hg, h⟩ | ⟨j, want, oj, dj, b, h1, h2, h3, h4, h5, h6⟩
  · exact .inl ⟨hg, fun H1 f' H' a b c => h H1 f' H' a b (hm.trans c)⟩
  · exact .inr ⟨j, want, oj, dj, b, h1, h2, h3, h4, fun e H1 f' H' a b c => h5 e H1 f' H' a b (hm.trans c), h6⟩
/-- The operations that may still come are as good on another heap. -/
def Reval (P : Program) (n : Nat) (ops : Array Oper) (R : List Nat) (H2 : Heap) : List Ent → (Nat → AV) → Prop
  | [], _ => True
  | e :: L, g => (R.elem e.1 = true → ∃ o d, ops[e.1]? = some o ∧ e.2.1 = some d ∧ QOpA P n ops o d e.2.2 H2 g) ∧ Reval P n ops R H2 L (updO g e.2.1 e.2.2)
theorem Reval.nil {ops : Array Oper} {R : List Nat} {H2 : Heap} {g : Nat → AV} : Reval P n ops R H2 [] g := trivial
theorem Reval.cons {ops : Array Oper} {R : List Nat} {H2 : Heap} {e : Ent} {L : List Ent} {g : Nat → AV} (h : R.elem e.1 = true → ∃ o d, ops[e.1]? = some o ∧ e.2.1 = some d ∧ QOpA P n ops o d e.2.2 H2 g) (r : Reval P n ops R H2 L (updO g e.2.1 e.2.2)) : Reval P n ops R H2 (e :: L) g := ⟨h, r⟩
theorem Reval.none {ops : Array Oper} {H2 : Heap} : ∀ {L : List Ent} {g : Nat → AV}, Reval P n ops [] H2 L g
  | [], _ => trivial
  | _ :: _, _ => ⟨fun h => by simp at h, Reval.none⟩
abbrev top : Nat → Bool := fun _ => true
theorem ov_top_cons {e : Ent} {L : List Ent} {g : Nat → AV} : ov top (e :: L) g = ov top L (updO g e.2.1 e.2.2) := by rw [ov, if_pos rfl]
theorem Reval.spec {ops : Array Oper} {R : List Nat} {H2 : Heap} : ∀ {L : List Ent} {g : Nat → AV}, Reval P n ops R H2 L g → ∀ A e B, L = A ++ e :: B → R.elem e.1 = true → ∃ o d, ops[e.1]? = some o ∧ e.2.1 = some d ∧ QOpA P n ops o d e.2.2 H2 (ov top A g)
  | [], _, _, A, e, B, h, _ => by simp at h
  | x :: L, g, h, A, e, B, hL, hR => by
    cases A with
    | nil => rw [List.nil_append, List.cons.injEq] at hL; obtain ⟨rfl, rfl⟩ := hL; exact h.1 hR
    | cons a A =>
      rw [List.cons_append, List.cons.injEq] at hL
      obtain ⟨rfl, hL⟩ := hL
      rw [ov_top_cons]; exact Reval.spec h.2 A e B hL hR
def STQ (P : Program) (n : Nat) (ops : Array Oper) (f0 : Nat → AV) (T : (Nat → AV) → Heap → Prop) : List Item → List Ent → Heap → (Nat → AV) → Prop
  | [], _, Hs, g => ∀ H', Mono Hs H' → T g H'
  | (i, none) :: r, L, Hs, g => ∃ o d v, ops[i]? = some o ∧ o.dst = some d ∧ QOpA P n ops o d v Hs g ∧ STQ P n ops f0 T r (L ++ [(i, some d, v)]) Hs (upd g d v)
  | (e, some R) :: r, L, Hs, g => ∃ o, ops[e]? = some o ∧ o.guard = none ∧ ∀ f' H', (∀ t, (tmpsOf o).elem t = true → f' t = g t) → Mono Hs H' →
      AOp P n o (fun f2 H2 => ∃ v, f2 = updO f' o.dst v ∧ (Mono H' H2 ∨ Reval P n ops R H2 L f0) ∧ STQ P n ops f0 T r (L ++ [(e, o.dst, v)]) H2 (updO g o.dst v)) f' H'
theorem STQ.op {ops : Array Oper} {f0 g : Nat → AV} {T : (Nat → AV) → Heap → Prop} {r : List Item} {L : List Ent} {i d : Nat} {v : AV} {o : Oper} (ho : ops[i]? = some o) (hd : o.dst = some d) (h : QOpA P n ops o d v H g) (rest : STQ P n ops f0 T r (L ++ [(i, some d, v)]) H (upd g d v)) : STQ P n ops f0 T ((i, none) :: r) L H g := ⟨o, d, v, ho, hd, h, rest⟩
theorem STQ.eff {ops : Array Oper} {f0 g : Nat → AV} {T : (Nat → AV) → Heap → Prop} {r : List Item} {R : List Nat} {L : List Ent} {e d : Nat} {o : Oper} (ho : ops[e]? = some o) (hd : o.dst = some d) (hg : o.guard = none)
    (h : ∀ f' H', (∀ t, (tmpsOf o).elem t = true → f' t = g t) → Mono H H' → AOp P n o (fun f2 H2 => ∃ v, f2 = upd f' d v ∧ (Mono H' H2 ∨ Reval P n ops R H2 L f0) ∧ STQ P n ops f0 T r (L ++ [(e, some d, v)]) H2 (upd g d v)) f' H') : STQ P n ops f0 T ((e, some R) :: r) L H g := ⟨o, ho, hg, by rw [hd]; exact h⟩
theorem STQ.st {ops : Array Oper} {f0 g : Nat → AV} {T : (Nat → AV) → Heap → Prop} {r : List Item} {R : List Nat} {L : List Ent} {e : Nat} {o : Oper} (ho : ops[e]? = some o) (hd : o.dst = none) (hg : o.guard = none)
    (h : ∀ f' H', (∀ t, (tmpsOf o).elem t = true → f' t = g t) → Mono H H' → AOp P n o (fun f2 H2 => f2 = f' ∧ (Mono H' H2 ∨ Reval P n ops R H2 L f0) ∧ STQ P n ops f0 T r (L ++ [(e, none, .undef)]) H2 g) f' H') : STQ P n ops f0 T ((e, some R) :: r) L H g := ⟨o, ho, hg, fun f' H' a b μ c w hs E => by
      rw [hd]
      exact Oper.wp_mono (fun a' w' ⟨μ', f2, H2, g1, g2, g3⟩ => ⟨μ', f2, H2, g1, g2, .undef, g3⟩) (fun _ _ _ _ h => h) (h f' H' a b μ c w hs E)⟩
theorem STQ.done {ops : Array Oper} {f0 g : Nat → AV} {T : (Nat → AV) → Heap → Prop} {L : List Ent} (h : ∀ H', Mono H H' → T g H') : STQ P n ops f0 T [] L H g := h
def Vld (P : Program) (n : Nat) (ops : Array Oper) (L : List Ent) (Hs : Heap) (S : Nat → Bool) (f : Nat → AV) : Prop :=
  ∀ A e B, L = A ++ e :: B → S e.1 = false → ∃ o d, ops[e.1]? = some o ∧ o.dst = some d ∧ e.2.1 = some d ∧ QOpA P n ops o d e.2.2 Hs (ov top A f)
def Dst (ops : Array Oper) (L : List Ent) : Prop := ∀ e ∈ L, dstOf ops e.1 = e.2.1
theorem STQ.norm {ops : Array Oper} {T : (Nat → AV) → Heap → Prop} {Hs : Heap} {S : Nat → Bool} : ∀ {r : List Item} {L : List Ent}, Vld P n ops L Hs S f → Dst ops L → STQ P n ops f T r L Hs (ov top L f) →
    ∃ p q M, r = p ++ q ∧ (∀ x ∈ p, x.2 = none) ∧ (∀ x ∈ q.head?, x.2 ≠ none) ∧ M.map (·.1) = p.map (·.1) ∧ Vld P n ops (L ++ M) Hs S f ∧ Dst ops (L ++ M) ∧ STQ P n ops f T q (L ++ M) Hs (ov top (L ++ M) f)
  | [], L, hv, hd, h => ⟨[], [], [], rfl, fun _ h => (by cases h), fun _ h => (by cases h), rfl, by rwa [List.append_nil], by rwa [List.append_nil], by rwa [List.append_nil]⟩
  | (e, some R) :: r, L, hv, hd, h => ⟨[], (e, some R) :: r, [], rfl, fun _ h => (by cases h), fun x hx => by simp at hx; subst hx; simp, rfl, by rwa [List.append_nil], by rwa [List.append_nil], by rwa [List.append_nil]⟩
  | (i, none) :: r, L, hv, hd, h => by
    obtain ⟨o, d, v, h1, h2, h3, h4⟩ := h
    have hv' : Vld P n ops (L ++ [(i, some d, v)]) Hs S f := by
      intro A e B hL hS
      rcases List.append_eq_append_iff.1 hL with ⟨C, g1, g2⟩ | ⟨C, g1, g2⟩
      · cases C with
        | nil =>
          simp only [List.nil_append, List.cons.injEq] at g2
          obtain ⟨rfl, _⟩ := g2
          rw [List.append_nil] at g1; subst g1
          exact ⟨o, d, h1, h2, rfl, h3⟩
        | cons c C => simp at g2
      · cases C with
        | nil =>
          simp only [List.nil_append, List.cons.injEq] at g2
          obtain ⟨rfl, _⟩ := g2
          rw [List.append_nil] at g1; subst g1
          exact ⟨o, d, h1, h2, rfl, h3⟩
        | cons c C =>
          simp only [List.cons_append, List.cons.injEq] at g2
          obtain ⟨rfl, g2⟩ := g2
          exact hv A e C g1 hS
    have hd' : Dst ops (L ++ [(i, some d, v)]) := by
      intro e he
      rcases List.mem_append.1 he with he | he
      · exact hd e he
      · simp at he; subst he; simp [dstOf, h1, h2]
    have h4' : STQ P n ops f T r (L ++ [(i, some d, v)]) Hs (ov top (L ++ [(i, some d, v)]) f) := by
      rw [ov_app]; exact h4
    obtain ⟨p, q, M, g1, g2, g3, g4, g5, g6, g7⟩ := STQ.norm hv' hd' h4'
    refine ⟨(i, none) :: p, q, (i, some d, v) :: M, by rw [g1]; rfl, fun x hx => ?_, g3, by simp [g4], ?_, ?_, ?_⟩
    · rcases List.mem_cons.1 hx with rfl | hx
      · rfl
      · exact g2 x hx
    · simpa using g5
    · simpa using g6
    · simpa using g7
theorem mem_split {α : Type} {a : α} {l : List α} (h : a ∈ l) : ∃ A B, l = A ++ a :: B := List.append_of_mem h
theorem AWP.region_stg {rid : Nat} {ops : Array Oper} (hm : P.follows .mixedOrders = true) (hback : backB ops = true) (ord : List Item) (tail : List Nat) (hq : stgB ops ord tail = true)
    (h : STQ P n ops f (fun g H' => AOps P n ops (Q .normal) tail g H') ord [] H f) : AWP P n (.region rid ops true) Q f H := by
  simp only [stgB, Bool.and_eq_true, List.all_eq_true, List.mem_range] at hq
  obtain ⟨⟨⟨⟨⟨q1, q2⟩, q3⟩, q4⟩, q5⟩, q6⟩ := hq
  have beqf : ∀ x y : Nat, x ≠ y → Nat.beq x y = false := fun x y h => by
    cases hb : Nat.beq x y with
    | false => rfl
    | true => exact absurd (Nat.eq_of_beq_eq_true hb) h
  let I : (Nat → Bool) → (Nat → AV) → Heap → Prop := fun S f' H' => Dn ops S ∧
    ((∃ pre rest L Hs, ord = pre ++ rest ∧ (∀ x ∈ rest.head?, x.2 ≠ none) ∧ L.map (·.1) = pre.map (·.1) ∧ (∀ x ∈ rest, S x.1 = false) ∧ (∀ c ∈ tail, S c = false) ∧ Vld P n ops L Hs S f ∧ Dst ops L ∧ (∀ t, f' t = ov S L f t) ∧ Mono Hs H' ∧ STQ P n ops f (fun g H' => AOps P n ops (Q .normal) tail g H') rest L Hs (ov top L f)) ∨
     (∃ A B, tail = A ++ B ∧ (∀ x ∈ ord, S x.1 = true) ∧ (∀ c ∈ A, S c = true) ∧ (∀ c ∈ B, S c = false) ∧ AOps P n ops (Q .normal) B f' H'))
  have hdn : ∀ (S : Nat → Bool) i o, Dn ops S → ops[i]? = some o → (∀ e ∈ o.after, Region.binds .any e = true → S e.on = true) → Dn ops (fun k => Nat.beq k i || S k) := by
    intro S i o hD ho hr j oj hj hS e he hb
    by_cases hji : j = i
    · subst hji
      rw [ho] at hj; cases hj
      simp [hr e he hb]
    · have hS : (Nat.beq j i || S j) = true := hS
      rw [beqf _ _ hji, Bool.false_or] at hS
      simp [hD j oj hj hS e he hb]
  have befD : ∀ (S : Nat → Bool), Dn ops S → ∀ i j, bfB ops i j = true → S i = true → S j = true := by
    intro S hD i j hb hS
    unfold bfB at hb
    rcases Nat.lt_or_ge i (befL ops.toList []).length with h | h
    · rw [List.getD_eq_getElem?_getD, List.getElem?_eq_getElem h, Option.getD_some] at hb
      exact bef_spec hD ops.toList [] (fun j => by simp) (fun i m j hi => by simp at hi) i _ j (List.getElem?_eq_getElem h) hb hS
    · rw [List.getD_eq_getElem?_getD, List.getElem?_eq_none h, Option.getD_none] at hb
      simp at hb
  -- into the first phase
  have enter : ∀ S f' H' pre r L Hs, Dn ops S → ord = pre ++ r → L.map (·.1) = pre.map (·.1) → (∀ x ∈ r, S x.1 = false) → (∀ c ∈ tail, S c = false) → Vld P n ops L Hs S f → Dst ops L → (∀ t, f' t = ov S L f t) → Mono Hs H' → STQ P n ops f (fun g H' => AOps P n ops (Q .normal) tail g H') r L Hs (ov top L f) → I S f' H' := by
    intro S f' H' pre r L Hs hD e1 e2 e3 e4 e5 e6 e7 e8 e9
    obtain ⟨p, q, M, g1, g2, g3, g4, g5, g6, g7⟩ := STQ.norm e5 e6 e9
    subst g1
    refine ⟨hD, .inl ⟨pre ++ p, q, L ++ M, Hs, by rw [e1, List.append_assoc], g3, by rw [List.map_append, List.map_append, e2, g4], fun x hx => e3 x (by simp [hx]), e4, g5, g6, fun t => ?_, e8, g7⟩⟩
    rw [e7 t, ov_app, ov_none M]
    intro e he
    have : e.1 ∈ M.map (·.1) := List.mem_map_of_mem he
    rw [g4] at this
    obtain ⟨x, hx, h⟩ := List.mem_map.1 this
    rw [← h]; exact e3 x (by simp [hx])
  refine AWP.region_any hm hback I (enter _ _ _ [] ord [] H (fun _ _ _ h => (by cases h)) rfl rfl (fun _ _ => rfl) (fun _ _ => rfl) (fun A e B h => by simp at h) (fun _ h => by cases h) (fun _ => rfl) (Mono.refl _) h) ?_ ?_
  · -- a step
    intro S i o ho hSi hr f' H' ⟨hD, hcase⟩
    have hi : i < ops.size := by
      rcases Nat.lt_or_ge i ops.size with h' | h'
      · exact h'
      · rw [Array.getElem?_eq_none h'] at ho; cases ho
    have hD' := hdn S i o hD ho hr
    have hSi' : (fun k => Nat.beq k i || S k) i = true := by simp
    have hbef : ∀ j, j ≠ i → bfB ops i j = true → S j = true := fun j hj hb => by
      have : (Nat.beq j i || S j) = true := befD _ hD' i j hb hSi'
      rwa [beqf _ _ hj, Bool.false_or] at this
    have hoth : ∀ x, x ≠ i → (fun k => Nat.beq k i || S k) x = S x := fun x hx => by show (Nat.beq x i || S x) = S x; rw [beqf _ _ hx, Bool.false_or]
    have mono : ∀ {K K' : (Nat → AV) → Heap → Prop}, (∀ f H, K f H → K' f H) → AOp P n o K f' H' → AOp P n o K' f' H' := fun hk h μ a w hs E =>
      Oper.wp_mono (fun a' w' ⟨μ', f2, H2, g1, g2, g3⟩ => ⟨μ', f2, H2, g1, g2, hk _ _ g3⟩) (fun _ _ _ _ h => h) (h μ a w hs E)
    -- the first of what is left of the tail
    have tailstep : ∀ A B, tail = A ++ i :: B → (∀ x ∈ ord, S x.1 = true) → (∀ c ∈ A, S c = true) → (∀ c ∈ B, S c = false) → (∀ c ∈ B, c ≠ i) → AOps P n ops (Q .normal) (i :: B) f' H' →
        (o.guard = none ∧ AOp P n o (I (fun k => Nat.beq k i || S k)) f' H') ∨
        (∃ j want oj d b, o.guard = some (j, want) ∧ ops[j]? = some oj ∧ oj.dst = some d ∧ f' d = gAV b ∧ (b = some want → AOp P n o (I (fun k => Nat.beq k i || S k)) f' H') ∧ (b ≠ some want → ∃ d', o.dst = some d' ∧ Nat.ble (d' + 1) n = true ∧ I (fun k => Nat.beq k i || S k) (upd f' d' (.tup [])) H')) := by
      intro A B hT hO hA hB hne hAO
      obtain ⟨o', ho', hAO⟩ := hAO
      rw [ho] at ho'; cases ho'
      have hI : ∀ f2 H2, AOps P n ops (Q .normal) B f2 H2 → I (fun k => Nat.beq k i || S k) f2 H2 := fun f2 H2 h =>
        ⟨hD', .inr ⟨A ++ [i], B, by rw [hT]; simp, fun x hx => by simp [hO x hx], fun c hc => by
          rcases List.mem_append.1 hc with hc | hc
          · simp [hA c hc]
          · simp at hc; simp [hc], fun c hc => by exact (hoth c (hne c hc)).trans (hB c hc), h⟩⟩
      rcases hAO with ⟨hg, hAO⟩ | ⟨j, want, oj, d, b, hg, hj, hd, hfb, h1, h2⟩
      · exact .inl ⟨hg, mono hI hAO⟩
      · refine .inr ⟨j, want, oj, d, b, hg, hj, hd, hfb, fun e => mono hI (h1 e), fun e => ?_⟩
        obtain ⟨d', hd', hn', h3⟩ := h2 e
        exact ⟨d', hd', hn', hI _ _ h3⟩
    have nb : ∀ {x y : Nat}, (!Nat.beq x y) = true → x ≠ y := fun h e => by subst e; simp at h
    rcases hcase with ⟨pre, rest, L, Hs, e1, e2, e3, e4, e5, e6, e7, e8, e9, e10⟩ | ⟨A, B, t1, t2, t3, t4, t5⟩
    · have hLord : ∀ e ∈ L, ∃ x ∈ pre, x.1 = e.1 := fun e he => by
        have : e.1 ∈ L.map (·.1) := List.mem_map_of_mem he
        rw [e3] at this
        exact List.mem_map.1 this
      by_cases hLi : ∃ e ∈ L, e.1 = i
      · -- an operation that is known
        obtain ⟨⟨i', dd, v⟩, hmem, rfl⟩ := hLi
        obtain ⟨A, B, hL⟩ := mem_split hmem
        obtain ⟨o', d, ho', hd, hdd, hop⟩ := e6 A (i', dd, v) B hL hSi
        simp only at hdd
        subst hdd
        simp only at ho hSi hr hi hD' hSi' hbef hoth tailstep ho' hd hop ⊢
        rw [ho] at ho'; cases ho'
        -- the items of the order
        obtain ⟨PA, x, PB, hp, hPA, hx, hPB⟩ : ∃ PA x PB, pre = PA ++ x :: PB ∧ PA.map (·.1) = A.map (·.1) ∧ x.1 = i' ∧ PB.map (·.1) = B.map (·.1) := by
          rw [hL, List.map_append, List.map_cons] at e3
          obtain ⟨P1, P2, k1, k2, k3⟩ := List.map_eq_append_iff.1 e3.symm
          obtain ⟨x, P3, k4, k5, k6⟩ := List.map_eq_cons_iff.1 k3
          exact ⟨P1, x, P3, by rw [k1, k4], k2, k5, k6⟩
        have hpair := prs_spec (p := pairB ops) (A := PA) (a := x) (B := PB ++ rest) (by rw [e1, hp] at q4; simpa using q4)
        have hA : ∀ e ∈ A, e.1 ≠ i' ∧ ∀ t ∈ touch ops i', e.2.1 = some t → S e.1 = true := fun e he => by
          have : e.1 ∈ A.map (·.1) := List.mem_map_of_mem he
          rw [← hPA] at this
          obtain ⟨y, hy, hy1⟩ := List.mem_map.1 this
          have hb := hpair.2 y hy
          simp only [pairB, Bool.and_eq_true, List.all_eq_true] at hb
          obtain ⟨⟨⟨⟨b1, b2⟩, b3⟩, b4⟩, b5⟩ := hb
          rw [hy1, hx] at b1 b2 b3
          have hne := nb b1
          refine ⟨hne, fun t ht hd => ?_⟩
          have h3 := b3 t ht
          have hds : dstOf ops e.1 = e.2.1 := e7 e (by rw [hL]; simp [he])
          rw [hds] at h3
          simp only [hd, Nat.beq_refl, Bool.not_true, Bool.false_or] at h3
          exact hbef e.1 hne h3
        have hB : ∀ e ∈ B, e.1 ≠ i' ∧ ∀ t ∈ touch ops i', e.2.1 = some t → S e.1 = false := fun e he => by
          have : e.1 ∈ B.map (·.1) := List.mem_map_of_mem he
          rw [← hPB] at this
          obtain ⟨y, hy, hy1⟩ := List.mem_map.1 this
          have hb := hpair.1 y (by simp [hy])
          simp only [pairB, Bool.and_eq_true, List.all_eq_true] at hb
          obtain ⟨⟨⟨⟨b1, b2⟩, b3⟩, b4⟩, b5⟩ := hb
          rw [hy1, hx] at b1 b2 b3
          have hne := nb b1
          refine ⟨hne.symm, fun t ht hd => ?_⟩
          have h2 := b2 t ht
          have hds : dstOf ops e.1 = e.2.1 := e7 e (by rw [hL]; simp [he])
          rw [hds] at h2
          simp only [hd, Nat.beq_refl, Bool.not_true, Bool.false_or] at h2
          cases hSe : S e.1 with
          | false => rfl
          | true => have := befD S hD e.1 i' h2 hSe; rw [hSi] at this; cases this
        have htouch : ∀ t, t ∈ tmpsOf o ++ guardSlot ops o ++ [d] → t ∈ touch ops i' := fun t ht => by
          simp only [touch, ho, hd, Option.toList]; exact ht
        have hval : ∀ t, t ∈ tmpsOf o ++ guardSlot ops o ++ [d] → f' t = ov top A f t := by
          intro t ht
          rw [e8 t, hL, ov_app]
          rw [ov_slot (S := S) (S' := fun _ => false) ((i', some d, v) :: B) _ (ov top A f) (ov_slot A f f rfl fun e he hd => (hA e he).2 t (htouch t ht) hd) fun e he hd => ?_]
          · exact congrFun (ov_none _ _ fun _ _ => rfl) t
          · rcases List.mem_cons.1 he with rfl | he
            · exact hSi
            · exact (hB e he).2 t (htouch t ht) hd
        have hnew : ∀ t, upd f' d v t = ov (fun k => Nat.beq k i' || S k) L f t := by
          intro t
          have hAc : ov (fun k => Nat.beq k i' || S k) A f = ov S A f := ov_congr A f fun e he => hoth e.1 (hA e he).1
          rw [hL, ov_app, hAc, ov, if_pos hSi']
          by_cases htd : t = d
          · subst htd
            rw [upd_eq, if_pos rfl]
            rw [ov_slot (S' := fun _ => false) B _ _ rfl fun e he hd => by
              exact (hoth e.1 (hB e he).1).trans ((hB e he).2 t (htouch t (by simp)) hd)]
            rw [ov_none B _ fun _ _ => rfl]; simp [updO, upd_eq]
          · rw [upd_eq, if_neg htd, e8 t, hL, ov_app, ov, if_neg (by rw [hSi]; decide)]
            exact (ov_slot B _ _ (by simp only [updO]; rw [upd_eq, if_neg htd]) fun e he _ => hoth e.1 (hB e he).1).symm
        have hneO : ∀ x ∈ rest, x.1 ≠ i' := fun y hy he => by
          have hb := hpair.1 y (by simp [hy])
          simp only [pairB, Bool.and_eq_true] at hb
          exact nb hb.1.1.1.1 (by rw [hx, he])
        have hneT : ∀ c ∈ tail, c ≠ i' := fun c hc he => by
          have := q6 c hc x (by rw [e1, hp]; simp)
          exact nb this.1 (by rw [he, hx])
        have hI : ∀ f2 H2, f2 = upd f' d v ∧ Mono Hs H2 → I (fun k => Nat.beq k i' || S k) f2 H2 := fun f2 H2 ⟨e, m⟩ =>
          ⟨hD', .inl ⟨pre, rest, L, Hs, e1, e2, e3, fun y hy => (hoth _ (hneO y hy)).trans (e4 y hy), fun c hc => (hoth _ (hneT c hc)).trans (e5 c hc), fun A' e' B' hL' hS' => by
            refine e6 A' e' B' hL' ?_
            have hS' : (Nat.beq e'.1 i' || S e'.1) = false := hS'
            rw [Bool.or_eq_false_iff] at hS'; exact hS'.2, e7, by rw [e]; exact hnew, m, e10⟩⟩
        rcases hop with ⟨hg, hop⟩ | ⟨j, want, oj, dj, b, hg, hj, hdj, hfb, hyes, hno⟩
        · exact .inl ⟨hg, mono (fun f2 H2 h => hI f2 H2 ⟨h.1, e9.trans h.2⟩) (hop H' f' H' (fun t ht => hval t (by have := List.elem_iff.1 ht; simp [this])) (Mono.refl _) e9)⟩
        · refine .inr ⟨j, want, oj, dj, b, hg, hj, hdj, ?_, fun hb => mono (fun f2 H2 h => hI f2 H2 ⟨h.1, e9.trans h.2⟩) (hyes hb H' f' H' (fun t ht => hval t (by have := List.elem_iff.1 ht; simp [this])) (Mono.refl _) e9), fun hb => ?_⟩
          · rw [hval dj (by simp [guardSlot, hg, hj, hdj])]; exact hfb
          · obtain ⟨hv, hn⟩ := hno hb
            exact ⟨d, hd, hn, hI _ _ ⟨by rw [hv], e9⟩⟩
      · have hnp : ∀ x ∈ pre, x.1 ≠ i := fun x hx he => by
          have : x.1 ∈ pre.map (·.1) := List.mem_map_of_mem hx
          rw [← e3] at this
          obtain ⟨e, h1, h2⟩ := List.mem_map.1 this
          exact hLi ⟨e, h1, by rw [h2, he]⟩
        rcases Bool.or_eq_true _ _ ▸ q1 i hi with hio | hit
        · -- an effect
          obtain ⟨x, hx, hxi⟩ := List.mem_map.1 (List.elem_iff.1 hio)
          have hxr : x ∈ rest := by
            rw [e1] at hx
            rcases List.mem_append.1 hx with hx | hx
            · exact absurd hxi (hnp x hx)
            · exact hx
          match rest, hxr, e2, e4, e10, e1 with
          | y :: r, hxr, e2, e4, e10, e1 =>
            obtain ⟨ye, yR⟩ := y
            cases yR with
            | none => exact absurd rfl (e2 (ye, none) (by simp))
            | some R =>
              have hpair := prs_spec (p := pairB ops) (A := pre) (a := (ye, some R)) (B := r) (by rw [e1] at q4; exact q4)
              have hye : ye = i := by
                rcases List.mem_cons.1 hxr with rfl | hxr
                · exact hxi
                · have hb := hpair.1 x hxr
                  simp only [pairB, Bool.and_eq_true] at hb
                  obtain ⟨⟨⟨⟨b1, b2⟩, b3⟩, b4⟩, b5⟩ := hb
                  rw [hxi] at b1 b4
                  have h1 := hbef ye (nb b1) b4
                  have h2 := e4 (ye, some R) (by simp)
                  simp only at h2
                  rw [h1] at h2; cases h2
              subst hye
              obtain ⟨o', ho', hg, hE⟩ := e10
              rw [ho] at ho'; cases ho'
              have hpre : ∀ e ∈ L, e.1 ≠ ye ∧ (∀ t ∈ touch ops ye, e.2.1 = some t → S e.1 = true) ∧ (S e.1 = false → R.elem e.1 = true) := fun e he => by
                obtain ⟨z, hz, hz1⟩ := hLord e he
                have hb := hpair.2 z hz
                simp only [pairB, Bool.and_eq_true, List.all_eq_true] at hb
                obtain ⟨⟨⟨⟨b1, b2⟩, b3⟩, b4⟩, b5⟩ := hb
                rw [hz1] at b1 b3 b5
                have hne := nb b1
                refine ⟨hne, fun t ht hd => ?_, fun hSe => ?_⟩
                · have h3 := b3 t ht
                  rw [e7 e he] at h3
                  simp only [hd, Nat.beq_refl, Bool.not_true, Bool.false_or] at h3
                  exact hbef e.1 hne h3
                · rw [Bool.or_eq_true] at b5
                  rcases b5 with b5 | b5
                  · rw [hbef e.1 hne b5] at hSe; cases hSe
                  · exact b5
              have hval : ∀ t, (tmpsOf o).elem t = true → f' t = ov top L f t := fun t ht => by
                rw [e8 t]
                exact ov_slot L f f rfl fun e he hd => (hpre e he).2.1 t (by simp only [touch, ho]; have := List.elem_iff.1 ht; simp [this]) hd
              refine .inl ⟨hg, mono (fun f2 H2 h => ?_) (hE f' H' hval e9)⟩
              obtain ⟨v, hf2, hmr, hrest⟩ := h
              refine enter _ _ _ (pre ++ [(ye, some R)]) r (L ++ [(ye, o.dst, v)]) H2 hD' (by rw [e1]; simp) (by rw [List.map_append, List.map_append, e3]; rfl) (fun z hz => ?_) (fun c hc => ?_) ?_ ?_ (fun t => ?_) (Mono.refl _) (by rw [ov_app]; exact hrest)
              · have hb := hpair.1 z hz
                simp only [pairB, Bool.and_eq_true] at hb
                exact (hoth z.1 (nb hb.1.1.1.1).symm).trans (e4 z (by simp [hz]))
              · have := q6 c hc (ye, some R) (by rw [e1]; simp)
                exact (hoth c (nb this.1)).trans (e5 c hc)
              · intro A e B hL hS
                have hS2 : (Nat.beq e.1 ye || S e.1) = false := hS
                rw [Bool.or_eq_false_iff] at hS2
                have hLe : ∃ C, L = A ++ e :: C := by
                  rcases List.append_eq_append_iff.1 hL with ⟨C, g1, g2⟩ | ⟨C, g1, g2⟩
                  · cases C with
                    | nil => simp only [List.nil_append, List.cons.injEq] at g2; rw [← g2.1] at hS2; simp at hS2
                    | cons c C => simp at g2
                  · cases C with
                    | nil => simp only [List.nil_append, List.cons.injEq] at g2; rw [g2.1] at hS2; simp at hS2
                    | cons c C => simp only [List.cons_append, List.cons.injEq] at g2; obtain ⟨rfl, g2⟩ := g2; exact ⟨C, g1⟩
                obtain ⟨C, hLe⟩ := hLe
                obtain ⟨oe, de, k1, k2, kd, k3⟩ := e6 A e C hLe hS2.2
                rcases hmr with hmr | hmr
                · exact ⟨oe, de, k1, k2, kd, k3.mono (e9.trans hmr)⟩
                · obtain ⟨oe', de', k4, kd', k5⟩ := hmr.spec A e C hLe ((hpre e (by rw [hLe]; simp)).2.2 hS2.2)
                  rw [k1] at k4; cases k4
                  rw [kd] at kd'; cases kd'
                  exact ⟨oe, de, k1, k2, kd, k5⟩
              · intro e he
                rcases List.mem_append.1 he with he | he
                · exact e7 e he
                · simp at he; subst he; simp [dstOf, ho]
              · rw [hf2, ov_app, ov_congr L f fun e he => hoth e.1 (hpre e he).1, ov, if_pos hSi', ov]
                cases hdo : o.dst with
                | none => exact e8 t
                | some d => simp only [updO]; rw [upd_eq, upd_eq, e8 t]
        · -- the tail begins
          have hmt := List.elem_iff.1 hit
          have hall : ∀ x ∈ ord, S x.1 = true := fun x hx => by
            have := q6 i hmt x hx
            exact hbef x.1 (nb this.1).symm this.2
          have hrest : rest = [] := by
            cases rest with
            | nil => rfl
            | cons y r => have h1 := hall y (by rw [e1]; simp); rw [e4 y (by simp)] at h1; cases h1
          subst hrest
          obtain ⟨A, B, hT⟩ := mem_split hmt
          have hp := prs_spec (p := fun c c' => !Nat.beq c c' && bfB ops c' c) (A := A) (a := i) (B := B) (by rw [hT] at q5; exact q5)
          have hA0 : A = [] := by
            cases A with
            | nil => rfl
            | cons c A =>
              have := hp.2 c (by simp)
              rw [Bool.and_eq_true] at this
              have h1 := hbef c (nb this.1) this.2
              rw [e5 c (by rw [hT]; simp)] at h1; cases h1
          subst hA0
          have hff : f' = ov top L f := by
            funext t
            rw [e8 t]
            exact ov_slot L f f rfl fun e he _ => by
              obtain ⟨z, hz, hz1⟩ := hLord e he
              rw [← hz1]; exact hall z (by rw [e1]; simp [hz])
          have hA := e10 H' e9
          rw [← hff, hT] at hA
          exact tailstep [] B hT hall (fun _ h => by cases h) (fun c hc => e5 c (by rw [hT]; simp [hc])) (fun c hc he => by
            have := hp.1 c hc
            rw [Bool.and_eq_true] at this
            exact nb this.1 he.symm) hA
    · -- the tail goes on
      have hit : i ∈ tail := by
        rcases Bool.or_eq_true _ _ ▸ q1 i hi with h | h
        · obtain ⟨x, hx, hxi⟩ := List.mem_map.1 (List.elem_iff.1 h)
          have := t2 x hx
          rw [hxi, hSi] at this; cases this
        · exact List.elem_iff.1 h
      have hiB : i ∈ B := by
        rw [t1] at hit
        rcases List.mem_append.1 hit with h | h
        · rw [t3 i h] at hSi; cases hSi
        · exact h
      obtain ⟨C, D, hB⟩ := mem_split hiB
      have hp := prs_spec (p := fun c c' => !Nat.beq c c' && bfB ops c' c) (A := A ++ C) (a := i) (B := D) (by rw [t1, hB] at q5; simpa using q5)
      have hC : C = [] := by
        cases C with
        | nil => rfl
        | cons c C =>
          have := hp.2 c (by simp)
          rw [Bool.and_eq_true] at this
          have h1 := hbef c (nb this.1) this.2
          rw [t4 c (by rw [hB]; simp)] at h1; cases h1
      subst hC
      rw [List.nil_append] at hB
      subst hB
      exact tailstep A D t1 t2 t3 (fun c hc => t4 c (by simp [hc])) (fun c hc he => by
        have := hp.1 c hc
        rw [Bool.and_eq_true] at this
        exact nb this.1 he.symm) t5
  · -- the end
    intro S f' H' hall ⟨hD, hcase⟩
    rcases hcase with ⟨pre, rest, L, Hs, e1, e2, e3, e4, e5, e6, e7, e8, e9, e10⟩ | ⟨A, B, t1, t2, t3, t4, t5⟩
    · have hrest : rest = [] := by
        cases rest with
        | nil => rfl
        | cons y r =>
          have h1 := e4 y (by simp)
          rw [hall y.1 (Nat.blt_eq ▸ (q2 y (by rw [e1]; simp)))] at h1; cases h1
      have htail : tail = [] := by
        cases tail with
        | nil => rfl
        | cons c B =>
          have h1 := e5 c (by simp)
          rw [hall c (Nat.blt_eq ▸ (q3 c (by simp)))] at h1; cases h1
      subst hrest htail
      have hff : f' = ov top L f := by
        funext t
        rw [e8 t]
        refine ov_slot L f f rfl fun e he _ => ?_
        have : e.1 ∈ L.map (·.1) := List.mem_map_of_mem he
        rw [e3] at this
        obtain ⟨z, hz, hz1⟩ := List.mem_map.1 this
        rw [← hz1]; exact hall z.1 (Nat.blt_eq ▸ (q2 z (by rw [e1]; simp [hz])))
      have := e10 H' e9
      rw [← hff] at this
      exact this
    · have hB : B = [] := by
        cases B with
        | nil => rfl
        | cons c B =>
          have h1 := t4 c (by simp)
          rw [hall c (Nat.blt_eq ▸ (q3 c (by rw [t1]; simp)))] at h1; cases h1
      subst hB
      exact t5
/-! ### The same, the entries newest first -/
def ovR : List Ent → (Nat → AV) → Nat → AV
  | [], f => f
  | e :: L, f => updO (ovR L f) e.2.1 e.2.2
theorem ovR_eq : ∀ (L : List Ent) (f : Nat → AV), ovR L f = ov top L.reverse f
  | [], _ => rfl
  | e :: L, f => by rw [List.reverse_cons, ov_app, ← ovR_eq L f]; rfl
def RevR (P : Program) (n : Nat) (ops : Array Oper) (R : List Nat) (H2 : Heap) : List Ent → (Nat → AV) → Prop
  | [], _ => True
  | e :: L, f0 => (R.elem e.1 = true → ∃ o d, ops[e.1]? = some o ∧ e.2.1 = some d ∧ QOpA P n ops o d e.2.2 H2 (ovR L f0)) ∧ RevR P n ops R H2 L f0
theorem RevR.nil {ops : Array Oper} {R : List Nat} {H2 : Heap} {f0 : Nat → AV} : RevR P n ops R H2 [] f0 := trivial
theorem RevR.skip {ops : Array Oper} {R : List Nat} {H2 : Heap} {i : Nat} {dv : Option Nat × AV} {L : List Ent} {f0 : Nat → AV} (h : R.elem i = false) (r : RevR P n ops R H2 L f0) : RevR P n ops R H2 ((i, dv) :: L) f0 := ⟨fun h2 => (by simp only at h2; rw [h] at h2; cases h2), r⟩
theorem RevR.cons {ops : Array Oper} {R : List Nat} {H2 : Heap} {i d : Nat} {v : AV} {o : Oper} {L : List Ent} {f0 : Nat → AV} (ho : ops[i]? = some o) (h : QOpA P n ops o d v H2 (ovR L f0)) (r : RevR P n ops R H2 L f0) : RevR P n ops R H2 ((i, some d, v) :: L) f0 := ⟨fun _ => ⟨o, d, ho, rfl, h⟩, r⟩
theorem RevR.none {ops : Array Oper} {H2 : Heap} : ∀ {L : List Ent} {f0 : Nat → AV}, RevR P n ops [] H2 L f0
  | [], _ => trivial
  | _ :: _, _ => ⟨fun h => by simp at h, RevR.none⟩
theorem Reval.snoc {ops : Array Oper} {R : List Nat} {H2 : Heap} {e : Ent} : ∀ {L : List Ent} {g : Nat → AV}, Reval P n ops R H2 L g → (R.elem e.1 = true → ∃ o d, ops[e.1]? = some o ∧ e.2.1 = some d ∧ QOpA P n ops o d e.2.2 H2 (ov top L g)) → Reval P n ops R H2 (L ++ [e]) g
  | [], _, _, h => ⟨h, trivial⟩
  | x :: L, g, h, h2 => ⟨h.1, Reval.snoc h.2 fun hR => by have := h2 hR; rw [ov_top_cons] at this; exact this⟩
theorem RevR.to {ops : Array Oper} {R : List Nat} {H2 : Heap} : ∀ {L : List Ent} {f0 : Nat → AV}, RevR P n ops R H2 L f0 → Reval P n ops R H2 L.reverse f0
  | [], _, _ => trivial
  | e :: L, f0, h => by
    rw [List.reverse_cons]
    exact Reval.snoc h.2.to fun hR => by have := h.1 hR; rw [ovR_eq] at this; exact this
def STR (P : Program) (n : Nat) (ops : Array Oper) (f0 : Nat → AV) (T : (Nat → AV) → Heap → Prop) : List Item → List Ent → Heap → (Nat → AV) → Prop
  | [], _, Hs, g => ∀ H', Mono Hs H' → T g H'
  | (i, none) :: r, L, Hs, g => ∃ o d v, ops[i]? = some o ∧ o.dst = some d ∧ QOpA P n ops o d v Hs g ∧ STR P n ops f0 T r ((i, some d, v) :: L) Hs (upd g d v)
  | (e, some R) :: r, L, Hs, g => ∃ o, ops[e]? = some o ∧ o.guard = none ∧ ∀ f' H', (∀ t, (tmpsOf o).elem t = true → f' t = g t) → Mono Hs H' →
      AOp P n o (fun f2 H2 => ∃ v, f2 = updO f' o.dst v ∧ (Mono H' H2 ∨ RevR P n ops R H2 L f0) ∧ STR P n ops f0 T r ((e, o.dst, v) :: L) H2 (updO g o.dst v)) f' H'
theorem STR.to {ops : Array Oper} {f0 : Nat → AV} {T : (Nat → AV) → Heap → Prop} : ∀ {r : List Item} {L : List Ent} {Hs : Heap} {g : Nat → AV}, STR P n ops f0 T r L Hs g → STQ P n ops f0 T r L.reverse Hs g
  | [], _, _, _, h => h
  | (i, none) :: r, L, Hs, g, ⟨o, d, v, h1, h2, h3, h4⟩ => ⟨o, d, v, h1, h2, h3, by have := STR.to h4; rwa [List.reverse_cons] at this⟩
  | (e, some R) :: r, L, Hs, g, ⟨o, ho, hg, h⟩ => by
    refine ⟨o, ho, hg, fun f' H' a b μ c w hs E => Oper.wp_mono (fun a' w' hx => ?_) (fun _ _ _ _ h => h) (h f' H' a b μ c w hs E)⟩
    obtain ⟨μ', f2, H2, g1, g2, v, k1, k2, k3⟩ := hx
    have k4 := STR.to k3
    rw [List.reverse_cons] at k4
    exact ⟨μ', f2, H2, g1, g2, v, k1, k2.imp id RevR.to, k4⟩
theorem STR.op {ops : Array Oper} {f0 g : Nat → AV} {T : (Nat → AV) → Heap → Prop} {r : List Item} {L : List Ent} {i d : Nat} {v : AV} {o : Oper} (ho : ops[i]? = some o) (hd : o.dst = some d) (h : QOpA P n ops o d v H g) (rest : STR P n ops f0 T r ((i, some d, v) :: L) H (upd g d v)) : STR P n ops f0 T ((i, none) :: r) L H g := ⟨o, d, v, ho, hd, h, rest⟩
theorem STR.eff {ops : Array Oper} {f0 g : Nat → AV} {T : (Nat → AV) → Heap → Prop} {r : List Item} {R : List Nat} {L : List Ent} {e d : Nat} {o : Oper} (ho : ops[e]? = some o) (hd : o.dst = some d) (hg : o.guard = none)
    (h : ∀ f' H', (∀ t, (tmpsOf o).elem t = true → f' t = g t) → Mono H H' → AOp P n o (fun f2 H2 => ∃ v, f2 = upd f' d v ∧ (Mono H' H2 ∨ RevR P n ops R H2 L f0) ∧ STR P n ops f0 T r ((e, some d, v) :: L) H2 (upd g d v)) f' H') : STR P n ops f0 T ((e, some R) :: r) L H g := ⟨o, ho, hg, by rw [hd]; exact h⟩
theorem STR.st {ops : Array Oper} {f0 g : Nat → AV} {T : (Nat → AV) → Heap → Prop} {r : List Item} {R : List Nat} {L : List Ent} {e : Nat} {o : Oper} (ho : ops[e]? = some o) (hd : o.dst = none) (hg : o.guard = none)
    (h : ∀ f' H', (∀ t, (tmpsOf o).elem t = true → f' t = g t) → Mono H H' → AOp P n o (fun f2 H2 => f2 = f' ∧ (Mono H' H2 ∨ RevR P n ops R H2 L f0) ∧ STR P n ops f0 T r ((e, none, .undef) :: L) H2 g) f' H') : STR P n ops f0 T ((e, some R) :: r) L H g := ⟨o, ho, hg, fun f' H' a b μ c w hs E => by
      rw [hd]
      exact Oper.wp_mono (fun a' w' ⟨μ', f2, H2, g1, g2, g3⟩ => ⟨μ', f2, H2, g1, g2, .undef, g3⟩) (fun _ _ _ _ h => h) (h f' H' a b μ c w hs E)⟩
theorem STR.done {ops : Array Oper} {f0 g : Nat → AV} {T : (Nat → AV) → Heap → Prop} {L : List Ent} (h : ∀ H', Mono H H' → T g H') : STR P n ops f0 T [] L H g := h
theorem AWP.region_str {rid : Nat} {ops : Array Oper} (hm : P.follows .mixedOrders = true) (hback : backB ops = true) (ord : List Item) (tail : List Nat) (hq : stgB ops ord tail = true)
    (h : STR P n ops f (fun g H' => AOps P n ops (Q .normal) tail g H') ord [] H f) : AWP P n (.region rid ops true) Q f H :=
  .region_stg hm hback ord tail hq h.to
end
end Go.AH
namespace Go.AH
variable [Globs]
set_option linter.unusedSectionVars false
open Go
end Go.AH
namespace Go.AH
variable [Globs]
set_option linter.unusedSectionVars false
open Go
/-- Blocks that a region lays: which operation, which number, what it holds. -/
abbrev New := Nat × Nat × AB
def NeA (e : New) : List New → Prop
  | [] => True
  | x :: l => (Nat.beq x.1 e.1 = false ∧ x.2.1 ≠ e.2.1) ∧ NeA e l
def FrA (H : Heap) : List New → Prop
  | [] => True
  | e :: l => H e.2.1 = none ∧ NeA e l ∧ FrA H l
def HSf (A : List New) (H : Heap) (S : Nat → Bool) : Heap := fun j => match A.find? fun e => Nat.beq e.2.1 j with | some e => some (if S e.1 = true then e.2.2 else .res) | none => H j
theorem NeA.mem {e x : New} : ∀ {l : List New}, NeA e l → x ∈ l → Nat.beq x.1 e.1 = false ∧ x.2.1 ≠ e.2.1
  | _ :: l, h, hx => by
    rcases List.mem_cons.1 hx with rfl | hx
    · exact h.1
    · exact NeA.mem h.2 hx
theorem FrA.none {H : Heap} {e : New} : ∀ {A : List New}, FrA H A → e ∈ A → H e.2.1 = none
  | _ :: _, h, hx => by
    rcases List.mem_cons.1 hx with rfl | hx
    · exact h.1
    · exact FrA.none h.2.2 hx
theorem FrA.inj {H : Heap} {e x : New} : ∀ {A : List New}, FrA H A → e ∈ A → x ∈ A → (e.2.1 = x.2.1 ∨ e.1 = x.1) → e = x
  | a :: l, h, he, hx, hh => by
    rcases List.mem_cons.1 he with rfl | he2
    · rcases List.mem_cons.1 hx with rfl | hx2
      · rfl
      · have := NeA.mem h.2.1 hx2
        rcases hh with hh | hh
        · exact absurd hh.symm this.2
        · rw [hh] at this; simp at this
    · rcases List.mem_cons.1 hx with rfl | hx2
      · have := NeA.mem h.2.1 he2
        rcases hh with hh | hh
        · exact absurd hh this.2
        · rw [hh] at this; simp at this
      · exact FrA.inj h.2.2 he2 hx2 hh
theorem HSf_mem {A : List New} {H : Heap} (hA : FrA H A) {S : Nat → Bool} {e : New} (he : e ∈ A) : HSf A H S e.2.1 = some (if S e.1 = true then e.2.2 else .res) := by
  unfold HSf
  cases hf : A.find? fun x => Nat.beq x.2.1 e.2.1 with
  | none => have := List.find?_eq_none.1 hf e he; simp at this
  | some x =>
    have h1 := List.find?_some hf
    have h2 := List.mem_of_find?_eq_some hf
    have := hA.inj h2 he (.inl (by simpa using h1))
    subst this; rfl
theorem HSf_not {A : List New} {H : Heap} {S : Nat → Bool} {j : Nat} (h : ∀ e ∈ A, e.2.1 ≠ j) : HSf A H S j = H j := by
  unfold HSf
  cases hf : A.find? fun x => Nat.beq x.2.1 j with
  | none => rfl
  | some x =>
    have h1 := List.find?_some hf
    exact absurd (by simpa using h1) (h x (List.mem_of_find?_eq_some hf))
theorem HSf_mono {A : List New} {H : Heap} (hA : FrA H A) {S : Nat → Bool} {H' : Heap} (m : Mono (HSf A H S) H') : Mono H H' := fun j C hj => m j C (by
  rw [HSf_not]; exact hj
  intro e he h
  rw [← h, hA.none he] at hj; cases hj)
theorem HSf_same {A : List New} {H : Heap} {S S' : Nat → Bool} (h : ∀ e ∈ A, S' e.1 = S e.1) : HSf A H S' = HSf A H S := by
  funext j
  unfold HSf
  cases hf : A.find? fun x => Nat.beq x.2.1 j with
  | none => rfl
  | some x => simp only [h x (List.mem_of_find?_eq_some hf)]
section
variable {P : Program} {n : Nat} {Q : Exit → (Nat → AV) → Heap → Prop} {f : Nat → AV} {H : Heap}
theorem AWP.freshN {c : Code} (h : ∀ b, (∀ j, H (b + j) = none) → AWP P n c Q f H) : AWP P n c Q f H := by
  intro μ a w hs
  obtain ⟨N, hN⟩ := hs.hr.fin
  exact h N (fun j => hN _ (Nat.le_add_right _ _)) μ a w hs
theorem AWP.reserveA {c : Code} : ∀ {A : List New} {H : Heap}, FrA H A → AWP P n c Q f (HSf A H fun _ => false) → AWP P n c Q f H
  | [], _, _, h => h
  | e :: l, H, hA, h => by
    refine AWP.reserveA hA.2.2 ?_
    refine AWP.reserve (id := e.2.1) ?_ ?_
    · rw [HSf_not]
      · exact hA.1
      · intro x hx; exact (NeA.mem hA.2.1 hx).2
    · have e1 : updH (HSf l H fun _ => false) e.2.1 .res = HSf (e :: l) H fun _ => false := by
        funext j
        rw [updH_eq]
        by_cases hj : j = e.2.1
        · subst hj
          rw [if_pos rfl]
          have := HSf_mem hA (S := fun _ => false) (e := e) (.head _)
          rw [this]; rfl
        · rw [if_neg hj]
          unfold HSf
          rw [List.find?_cons_of_neg (by simp; exact fun g => hj g.symm)]
      rw [e1]; exact h
/-- An operation that lays one of the blocks. -/
def NewOp (P : Program) (n : Nat) (o : Oper) (id : Nat) (B : AB) (d : Nat) (v : AV) (f : Nat → AV) : Prop :=
  ∀ f' H', (∀ t, (tmpsOf o).elem t = true → f' t = f t) → H' id = some .res → AOp P n o (fun f2 H2 => f2 = upd f' d v ∧ H2 = updH H' id B) f' H'
inductive QPAs (P : Program) (n : Nat) (ops : Array Oper) (A : List New) (H : Heap) (T : (Nat → AV) → Prop) (k : Nat) : Nat → (Nat → AV) → List (Nat × AV) → Prop
  | done {f : Nat → AV} (h : T f) : QPAs P n ops A H T k k f []
  | op {i d : Nat} {f : Nat → AV} {v : AV} {L : List (Nat × AV)} {o : Oper} (hi : ∀ e ∈ A, e.1 ≠ i) (ho : ops[i]? = some o) (hd : o.dst = some d) (h : QOpA P n ops o d v H f) (rest : QPAs P n ops A H T k (i + 1) (upd f d v) L) : QPAs P n ops A H T k i f ((d, v) :: L)
  | new {i d id : Nat} {f : Nat → AV} {v : AV} {B : AB} {L : List (Nat × AV)} {o : Oper} (hi : (i, id, B) ∈ A) (ho : ops[i]? = some o) (hd : o.dst = some d) (hg : o.guard = none) (hop : NewOp P n o id B d v f) (rest : QPAs P n ops A H T k (i + 1) (upd f d v) L) : QPAs P n ops A H T k i f ((d, v) :: L)
theorem QPAs.len {ops : Array Oper} {A : List New} {T : (Nat → AV) → Prop} {k b : Nat} {L : List (Nat × AV)} (h : QPAs P n ops A H T k b f L) : b + L.length = k := by
  induction h with
  | done h => rfl
  | op hi ho hd h rest ih => simp only [List.length_cons]; omega
  | new hi ho hd hg hop rest ih => simp only [List.length_cons]; omega
def QEAs (P : Program) (n : Nat) (ops : Array Oper) (A : List New) (H : Heap) (T : (Nat → AV) → Prop) (k i : Nat) (f : Nat → AV) : Prop := ∃ L, QPAs P n ops A H T k i f L
theorem QEAs.done {ops : Array Oper} {A : List New} {T : (Nat → AV) → Prop} {k : Nat} (h : T f) : QEAs P n ops A H T k k f := ⟨_, .done h⟩
def notinB (A : List New) (i : Nat) : Bool := A.all fun e => !Nat.beq e.1 i
theorem QEAs.op {ops : Array Oper} {A : List New} {T : (Nat → AV) → Prop} {k i d : Nat} {v : AV} {o : Oper} (hi : notinB A i = true) (ho : ops[i]? = some o) (hd : o.dst = some d) (h : QOpA P n ops o d v H f) (rest : QEAs P n ops A H T k (i + 1) (upd f d v)) : QEAs P n ops A H T k i f :=
  let ⟨_, r⟩ := rest; ⟨_, .op (fun e he g => by
    have := List.all_eq_true.1 hi e he
    rw [g] at this; simp at this) ho hd h r⟩
theorem QEAs.alloc {ops : Array Oper} {A : List New} {Z : List AV} {T : (Nat → AV) → Prop} {k i d id : Nat} {o : Oper} {t : TypeId} (hi : (i, id, .row 0 Z) ∈ A) (ho : ops[i]? = some o) (hd : o.dst = some d) (hg : o.guard = none) (hop : o.op = .alloc t) (hn : Nat.ble (d + 1) n = true) (hz : TZero P t Z) (rest : QEAs P n ops A H T k (i + 1) (upd f d (.ptr id 0 0))) : QEAs P n ops A H T k i f :=
  let ⟨_, r⟩ := rest; ⟨_, .new hi ho hd hg (fun f' H' _ hr => by
      obtain ⟨dst, op, ty, pos, after, guard⟩ := o
      simp only at hd hop
      subst hd hop
      exact AOp.alloc_at id (.inr hr) hn hz ⟨rfl, rfl⟩) r⟩
def EntAs (P : Program) (n : Nat) (ops : Array Oper) (A : List New) (H : Heap) (i : Nat) (o : Oper) (d : Nat) (v : AV) (f : Nat → AV) : Prop :=
  ((∀ e ∈ A, e.1 ≠ i) ∧ QOpA P n ops o d v H f) ∨ (∃ id B, (i, id, B) ∈ A ∧ NewOp P n o id B d v f ∧ o.guard = none)
theorem QPAs.get {ops : Array Oper} {A : List New} {T : (Nat → AV) → Prop} {k b : Nat} {L : List (Nat × AV)} (h : QPAs P n ops A H T k b f L) : T (cur L b (fun _ => true) f) ∧
    ∀ m d v, L[m]? = some (d, v) → ∃ o, ops[b + m]? = some o ∧ o.dst = some d ∧ EntAs P n ops A H (b + m) o d v (cur (L.take m) b (fun _ => true) f) := by
  induction h with
  | done h => exact ⟨h, fun m d v hm => by simp at hm⟩
  | op hi ho hd h rest ih =>
    rename_i i d0 f v0 L o
    refine ⟨by rw [cur, if_pos rfl]; exact ih.1, fun m d v hm => ?_⟩
    cases m with
    | zero =>
      simp only [List.getElem?_cons_zero, Option.some.injEq, Prod.mk.injEq] at hm
      obtain ⟨rfl, rfl⟩ := hm
      exact ⟨o, ho, hd, .inl ⟨hi, h⟩⟩
    | succ m =>
      obtain ⟨o', h1, h2, h3⟩ := ih.2 m d v (by simpa using hm)
      rw [show i + 1 + m = i + (m + 1) by omega] at h1 h3
      refine ⟨o', h1, h2, ?_⟩
      rw [List.take_succ_cons, cur, if_pos rfl]; exact h3
  | new hi ho hd hg hop rest ih =>
    rename_i i d0 id f v0 B L o
    refine ⟨by rw [cur, if_pos rfl]; exact ih.1, fun m d v hm => ?_⟩
    cases m with
    | zero =>
      simp only [List.getElem?_cons_zero, Option.some.injEq, Prod.mk.injEq] at hm
      obtain ⟨rfl, rfl⟩ := hm
      exact ⟨o, ho, hd, .inr ⟨id, B, hi, hop, hg⟩⟩
    | succ m =>
      obtain ⟨o', h1, h2, h3⟩ := ih.2 m d v (by simpa using hm)
      rw [show i + 1 + m = i + (m + 1) by omega] at h1 h3
      refine ⟨o', h1, h2, ?_⟩
      rw [List.take_succ_cons, cur, if_pos rfl]; exact h3
end
end Go.AH
namespace Go.AH
variable [Globs]
set_option linter.unusedSectionVars false
open Go
section
variable {P : Program} {n : Nat} {Q : Exit → (Nat → AV) → Heap → Prop} {f : Nat → AV} {H : Heap}
def StgI (P : Program) (n : Nat) (ops : Array Oper) (ord : List Item) (tail : List Nat) (Q : Exit → (Nat → AV) → Heap → Prop) (f : Nat → AV) (S : Nat → Bool) (f' : Nat → AV) (H' : Heap) : Prop := Dn ops S ∧
    ((∃ pre rest L Hs, ord = pre ++ rest ∧ (∀ x ∈ rest.head?, x.2 ≠ none) ∧ L.map (·.1) = pre.map (·.1) ∧ (∀ x ∈ rest, S x.1 = false) ∧ (∀ c ∈ tail, S c = false) ∧ Vld P n ops L Hs S f ∧ Dst ops L ∧ (∀ t, f' t = ov S L f t) ∧ Mono Hs H' ∧ STQ P n ops f (fun g H' => AOps P n ops (Q .normal) tail g H') rest L Hs (ov top L f)) ∨
     (∃ A B, tail = A ++ B ∧ (∀ x ∈ ord, S x.1 = true) ∧ (∀ c ∈ A, S c = true) ∧ (∀ c ∈ B, S c = false) ∧ AOps P n ops (Q .normal) B f' H'))
theorem stg_all {ops : Array Oper} (ord : List Item) (tail : List Nat) (hq : stgB ops ord tail = true) :
    (∀ S i o, ops[i]? = some o → S i = false → (∀ e ∈ o.after, Region.binds .any e = true → S e.on = true) → ∀ f' H', StgI P n ops ord tail Q f S f' H' → (o.guard = none ∧ AOp P n o (StgI P n ops ord tail Q f (fun k => Nat.beq k i || S k)) f' H') ∨
      (∃ j want oj d b, o.guard = some (j, want) ∧ ops[j]? = some oj ∧ oj.dst = some d ∧ f' d = gAV b ∧
        (b = some want → AOp P n o (StgI P n ops ord tail Q f (fun k => Nat.beq k i || S k)) f' H') ∧
        (b ≠ some want → ∃ d', o.dst = some d' ∧ Nat.ble (d' + 1) n = true ∧ StgI P n ops ord tail Q f (fun k => Nat.beq k i || S k) (upd f' d' (.tup [])) H'))) ∧
    (∀ S f' H', (∀ i, i < ops.size → S i = true) → StgI P n ops ord tail Q f S f' H' → Q .normal f' H') := by
  simp only [stgB, Bool.and_eq_true, List.all_eq_true, List.mem_range] at hq
  obtain ⟨⟨⟨⟨⟨q1, q2⟩, q3⟩, q4⟩, q5⟩, q6⟩ := hq
  have beqf : ∀ x y : Nat, x ≠ y → Nat.beq x y = false := fun x y h => by
    cases hb : Nat.beq x y with
    | false => rfl
    | true => exact absurd (Nat.eq_of_beq_eq_true hb) h
  let I : (Nat → Bool) → (Nat → AV) → Heap → Prop := StgI P n ops ord tail Q f
  have hdn : ∀ (S : Nat → Bool) i o, Dn ops S → ops[i]? = some o → (∀ e ∈ o.after, Region.binds .any e = true → S e.on = true) → Dn ops (fun k => Nat.beq k i || S k) := by
    intro S i o hD ho hr j oj hj hS e he hb
    by_cases hji : j = i
    · subst hji
      rw [ho] at hj; cases hj
      simp [hr e he hb]
    · have hS : (Nat.beq j i || S j) = true := hS
      rw [beqf _ _ hji, Bool.false_or] at hS
      simp [hD j oj hj hS e he hb]
  have befD : ∀ (S : Nat → Bool), Dn ops S → ∀ i j, bfB ops i j = true → S i = true → S j = true := by
    intro S hD i j hb hS
    unfold bfB at hb
    rcases Nat.lt_or_ge i (befL ops.toList []).length with h | h
    · rw [List.getD_eq_getElem?_getD, List.getElem?_eq_getElem h, Option.getD_some] at hb
      exact bef_spec hD ops.toList [] (fun j => by simp) (fun i m j hi => by simp at hi) i _ j (List.getElem?_eq_getElem h) hb hS
    · rw [List.getD_eq_getElem?_getD, List.getElem?_eq_none h, Option.getD_none] at hb
      simp at hb
  -- into the first phase
  have enter : ∀ S f' H' pre r L Hs, Dn ops S → ord = pre ++ r → L.map (·.1) = pre.map (·.1) → (∀ x ∈ r, S x.1 = false) → (∀ c ∈ tail, S c = false) → Vld P n ops L Hs S f → Dst ops L → (∀ t, f' t = ov S L f t) → Mono Hs H' → STQ P n ops f (fun g H' => AOps P n ops (Q .normal) tail g H') r L Hs (ov top L f) → I S f' H' := by
    intro S f' H' pre r L Hs hD e1 e2 e3 e4 e5 e6 e7 e8 e9
    obtain ⟨p, q, M, g1, g2, g3, g4, g5, g6, g7⟩ := STQ.norm e5 e6 e9
    subst g1
    refine ⟨hD, .inl ⟨pre ++ p, q, L ++ M, Hs, by rw [e1, List.append_assoc], g3, by rw [List.map_append, List.map_append, e2, g4], fun x hx => e3 x (by simp [hx]), e4, g5, g6, fun t => ?_, e8, g7⟩⟩
    rw [e7 t, ov_app, ov_none M]
    intro e he
    have : e.1 ∈ M.map (·.1) := List.mem_map_of_mem he
    rw [g4] at this
    obtain ⟨x, hx, h⟩ := List.mem_map.1 this
    rw [← h]; exact e3 x (by simp [hx])
  refine ⟨?_, ?_⟩
  · -- a step
    intro S i o ho hSi hr f' H' ⟨hD, hcase⟩
    have hi : i < ops.size := by
      rcases Nat.lt_or_ge i ops.size with h' | h'
      · exact h'
      · rw [Array.getElem?_eq_none h'] at ho; cases ho
    have hD' := hdn S i o hD ho hr
    have hSi' : (fun k => Nat.beq k i || S k) i = true := by simp
    have hbef : ∀ j, j ≠ i → bfB ops i j = true → S j = true := fun j hj hb => by
      have : (Nat.beq j i || S j) = true := befD _ hD' i j hb hSi'
      rwa [beqf _ _ hj, Bool.false_or] at this
    have hoth : ∀ x, x ≠ i → (fun k => Nat.beq k i || S k) x = S x := fun x hx => by show (Nat.beq x i || S x) = S x; rw [beqf _ _ hx, Bool.false_or]
    have mono : ∀ {K K' : (Nat → AV) → Heap → Prop}, (∀ f H, K f H → K' f H) → AOp P n o K f' H' → AOp P n o K' f' H' := fun hk h μ a w hs E =>
      Oper.wp_mono (fun a' w' ⟨μ', f2, H2, g1, g2, g3⟩ => ⟨μ', f2, H2, g1, g2, hk _ _ g3⟩) (fun _ _ _ _ h => h) (h μ a w hs E)
    -- the first of what is left of the tail
    have tailstep : ∀ A B, tail = A ++ i :: B → (∀ x ∈ ord, S x.1 = true) → (∀ c ∈ A, S c = true) → (∀ c ∈ B, S c = false) → (∀ c ∈ B, c ≠ i) → AOps P n ops (Q .normal) (i :: B) f' H' →
        (o.guard = none ∧ AOp P n o (I (fun k => Nat.beq k i || S k)) f' H') ∨
        (∃ j want oj d b, o.guard = some (j, want) ∧ ops[j]? = some oj ∧ oj.dst = some d ∧ f' d = gAV b ∧ (b = some want → AOp P n o (I (fun k => Nat.beq k i || S k)) f' H') ∧ (b ≠ some want → ∃ d', o.dst = some d' ∧ Nat.ble (d' + 1) n = true ∧ I (fun k => Nat.beq k i || S k) (upd f' d' (.tup [])) H')) := by
      intro A B hT hO hA hB hne hAO
      obtain ⟨o', ho', hAO⟩ := hAO
      rw [ho] at ho'; cases ho'
      have hI : ∀ f2 H2, AOps P n ops (Q .normal) B f2 H2 → I (fun k => Nat.beq k i || S k) f2 H2 := fun f2 H2 h =>
        ⟨hD', .inr ⟨A ++ [i], B, by rw [hT]; simp, fun x hx => by simp [hO x hx], fun c hc => by
          rcases List.mem_append.1 hc with hc | hc
          · simp [hA c hc]
          · simp at hc; simp [hc], fun c hc => by exact (hoth c (hne c hc)).trans (hB c hc), h⟩⟩
      rcases hAO with ⟨hg, hAO⟩ | ⟨j, want, oj, d, b, hg, hj, hd, hfb, h1, h2⟩
      · exact .inl ⟨hg, mono hI hAO⟩
      · refine .inr ⟨j, want, oj, d, b, hg, hj, hd, hfb, fun e => mono hI (h1 e), fun e => ?_⟩
        obtain ⟨d', hd', hn', h3⟩ := h2 e
        exact ⟨d', hd', hn', hI _ _ h3⟩
    have nb : ∀ {x y : Nat}, (!Nat.beq x y) = true → x ≠ y := fun h e => by subst e; simp at h
    rcases hcase with ⟨pre, rest, L, Hs, e1, e2, e3, e4, e5, e6, e7, e8, e9, e10⟩ | ⟨A, B, t1, t2, t3, t4, t5⟩
    · have hLord : ∀ e ∈ L, ∃ x ∈ pre, x.1 = e.1 := fun e he => by
        have : e.1 ∈ L.map (·.1) := List.mem_map_of_mem he
        rw [e3] at this
        exact List.mem_map.1 this
      by_cases hLi : ∃ e ∈ L, e.1 = i
      · -- an operation that is known
        obtain ⟨⟨i', dd, v⟩, hmem, rfl⟩ := hLi
        obtain ⟨A, B, hL⟩ := mem_split hmem
        obtain ⟨o', d, ho', hd, hdd, hop⟩ := e6 A (i', dd, v) B hL hSi
        simp only at hdd
        subst hdd
        simp only at ho hSi hr hi hD' hSi' hbef hoth tailstep ho' hd hop ⊢
        rw [ho] at ho'; cases ho'
        -- the items of the order
        obtain ⟨PA, x, PB, hp, hPA, hx, hPB⟩ : ∃ PA x PB, pre = PA ++ x :: PB ∧ PA.map (·.1) = A.map (·.1) ∧ x.1 = i' ∧ PB.map (·.1) = B.map (·.1) := by
          rw [hL, List.map_append, List.map_cons] at e3
          obtain ⟨P1, P2, k1, k2, k3⟩ := List.map_eq_append_iff.1 e3.symm
          obtain ⟨x, P3, k4, k5, k6⟩ := List.map_eq_cons_iff.1 k3
          exact ⟨P1, x, P3, by rw [k1, k4], k2, k5, k6⟩
        have hpair := prs_spec (p := pairB ops) (A := PA) (a := x) (B := PB ++ rest) (by rw [e1, hp] at q4; simpa using q4)
        have hA : ∀ e ∈ A, e.1 ≠ i' ∧ ∀ t ∈ touch ops i', e.2.1 = some t → S e.1 = true := fun e he => by
          have : e.1 ∈ A.map (·.1) := List.mem_map_of_mem he
          rw [← hPA] at this
          obtain ⟨y, hy, hy1⟩ := List.mem_map.1 this
          have hb := hpair.2 y hy
          simp only [pairB, Bool.and_eq_true, List.all_eq_true] at hb
          obtain ⟨⟨⟨⟨b1, b2⟩, b3⟩, b4⟩, b5⟩ := hb
          rw [hy1, hx] at b1 b2 b3
          have hne := nb b1
          refine ⟨hne, fun t ht hd => ?_⟩
          have h3 := b3 t ht
          have hds : dstOf ops e.1 = e.2.1 := e7 e (by rw [hL]; simp [he])
          rw [hds] at h3
          simp only [hd, Nat.beq_refl, Bool.not_true, Bool.false_or] at h3
          exact hbef e.1 hne h3
        have hB : ∀ e ∈ B, e.1 ≠ i' ∧ ∀ t ∈ touch ops i', e.2.1 = some t → S e.1 = false := fun e he => by
          have : e.1 ∈ B.map (·.1) := List.mem_map_of_mem he
          rw [← hPB] at this
          obtain ⟨y, hy, hy1⟩ := List.mem_map.1 this
          have hb := hpair.1 y (by simp [hy])
          simp only [pairB, Bool.and_eq_true, List.all_eq_true] at hb
          obtain ⟨⟨⟨⟨b1, b2⟩, b3⟩, b4⟩, b5⟩ := hb
          rw [hy1, hx] at b1 b2 b3
          have hne := nb b1
          refine ⟨hne.symm, fun t ht hd => ?_⟩
          have h2 := b2 t ht
          have hds : dstOf ops e.1 = e.2.1 := e7 e (by rw [hL]; simp [he])
          rw [hds] at h2
          simp only [hd, Nat.beq_refl, Bool.not_true, Bool.false_or] at h2
          cases hSe : S e.1 with
          | false => rfl
          | true => have := befD S hD e.1 i' h2 hSe; rw [hSi] at this; cases this
        have htouch : ∀ t, t ∈ tmpsOf o ++ guardSlot ops o ++ [d] → t ∈ touch ops i' := fun t ht => by
          simp only [touch, ho, hd, Option.toList]; exact ht
        have hval : ∀ t, t ∈ tmpsOf o ++ guardSlot ops o ++ [d] → f' t = ov top A f t := by
          intro t ht
          rw [e8 t, hL, ov_app]
          rw [ov_slot (S := S) (S' := fun _ => false) ((i', some d, v) :: B) _ (ov top A f) (ov_slot A f f rfl fun e he hd => (hA e he).2 t (htouch t ht) hd) fun e he hd => ?_]
          · exact congrFun (ov_none _ _ fun _ _ => rfl) t
          · rcases List.mem_cons.1 he with rfl | he
            · exact hSi
            · exact (hB e he).2 t (htouch t ht) hd
        have hnew : ∀ t, upd f' d v t = ov (fun k => Nat.beq k i' || S k) L f t := by
          intro t
          have hAc : ov (fun k => Nat.beq k i' || S k) A f = ov S A f := ov_congr A f fun e he => hoth e.1 (hA e he).1
          rw [hL, ov_app, hAc, ov, if_pos hSi']
          by_cases htd : t = d
          · subst htd
            rw [upd_eq, if_pos rfl]
            rw [ov_slot (S' := fun _ => false) B _ _ rfl fun e he hd => by
              exact (hoth e.1 (hB e he).1).trans ((hB e he).2 t (htouch t (by simp)) hd)]
            rw [ov_none B _ fun _ _ => rfl]; simp [updO, upd_eq]
          · rw [upd_eq, if_neg htd, e8 t, hL, ov_app, ov, if_neg (by rw [hSi]; decide)]
            exact (ov_slot B _ _ (by simp only [updO]; rw [upd_eq, if_neg htd]) fun e he _ => hoth e.1 (hB e he).1).symm
        have hneO : ∀ x ∈ rest, x.1 ≠ i' := fun y hy he => by
          have hb := hpair.1 y (by simp [hy])
          simp only [pairB, Bool.and_eq_true] at hb
          exact nb hb.1.1.1.1 (by rw [hx, he])
        have hneT : ∀ c ∈ tail, c ≠ i' := fun c hc he => by
          have := q6 c hc x (by rw [e1, hp]; simp)
          exact nb this.1 (by rw [he, hx])
        have hI : ∀ f2 H2, f2 = upd f' d v ∧ Mono Hs H2 → I (fun k => Nat.beq k i' || S k) f2 H2 := fun f2 H2 ⟨e, m⟩ =>
          ⟨hD', .inl ⟨pre, rest, L, Hs, e1, e2, e3, fun y hy => (hoth _ (hneO y hy)).trans (e4 y hy), fun c hc => (hoth _ (hneT c hc)).trans (e5 c hc), fun A' e' B' hL' hS' => by
            refine e6 A' e' B' hL' ?_
            have hS' : (Nat.beq e'.1 i' || S e'.1) = false := hS'
            rw [Bool.or_eq_false_iff] at hS'; exact hS'.2, e7, by rw [e]; exact hnew, m, e10⟩⟩
        rcases hop with ⟨hg, hop⟩ | ⟨j, want, oj, dj, b, hg, hj, hdj, hfb, hyes, hno⟩
        · exact .inl ⟨hg, mono (fun f2 H2 h => hI f2 H2 ⟨h.1, e9.trans h.2⟩) (hop H' f' H' (fun t ht => hval t (by have := List.elem_iff.1 ht; simp [this])) (Mono.refl _) e9)⟩
        · refine .inr ⟨j, want, oj, dj, b, hg, hj, hdj, ?_, fun hb => mono (fun f2 H2 h => hI f2 H2 ⟨h.1, e9.trans h.2⟩) (hyes hb H' f' H' (fun t ht => hval t (by have := List.elem_iff.1 ht; simp [this])) (Mono.refl _) e9), fun hb => ?_⟩
          · rw [hval dj (by simp [guardSlot, hg, hj, hdj])]; exact hfb
          · obtain ⟨hv, hn⟩ := hno hb
            exact ⟨d, hd, hn, hI _ _ ⟨by rw [hv], e9⟩⟩
      · have hnp : ∀ x ∈ pre, x.1 ≠ i := fun x hx he => by
          have : x.1 ∈ pre.map (·.1) := List.mem_map_of_mem hx
          rw [← e3] at this
          obtain ⟨e, h1, h2⟩ := List.mem_map.1 this
          exact hLi ⟨e, h1, by rw [h2, he]⟩
        rcases Bool.or_eq_true _ _ ▸ q1 i hi with hio | hit
        · -- an effect
          obtain ⟨x, hx, hxi⟩ := List.mem_map.1 (List.elem_iff.1 hio)
          have hxr : x ∈ rest := by
            rw [e1] at hx
            rcases List.mem_append.1 hx with hx | hx
            · exact absurd hxi (hnp x hx)
            · exact hx
          match rest, hxr, e2, e4, e10, e1 with
          | y :: r, hxr, e2, e4, e10, e1 =>
            obtain ⟨ye, yR⟩ := y
            cases yR with
            | none => exact absurd rfl (e2 (ye, none) (by simp))
            | some R =>
              have hpair := prs_spec (p := pairB ops) (A := pre) (a := (ye, some R)) (B := r) (by rw [e1] at q4; exact q4)
              have hye : ye = i := by
                rcases List.mem_cons.1 hxr with rfl | hxr
                · exact hxi
                · have hb := hpair.1 x hxr
                  simp only [pairB, Bool.and_eq_true] at hb
                  obtain ⟨⟨⟨⟨b1, b2⟩, b3⟩, b4⟩, b5⟩ := hb
                  rw [hxi] at b1 b4
                  have h1 := hbef ye (nb b1) b4
                  have h2 := e4 (ye, some R) (by simp)
                  simp only at h2
                  rw [h1] at h2; cases h2
              subst hye
              obtain ⟨o', ho', hg, hE⟩ := e10
              rw [ho] at ho'; cases ho'
              have hpre : ∀ e ∈ L, e.1 ≠ ye ∧ (∀ t ∈ touch ops ye, e.2.1 = some t → S e.1 = true) ∧ (S e.1 = false → R.elem e.1 = true) := fun e he => by
                obtain ⟨z, hz, hz1⟩ := hLord e he
                have hb := hpair.2 z hz
                simp only [pairB, Bool.and_eq_true, List.all_eq_true] at hb
                obtain ⟨⟨⟨⟨b1, b2⟩, b3⟩, b4⟩, b5⟩ := hb
                rw [hz1] at b1 b3 b5
                have hne := nb b1
                refine ⟨hne, fun t ht hd => ?_, fun hSe => ?_⟩
                · have h3 := b3 t ht
                  rw [e7 e he] at h3
                  simp only [hd, Nat.beq_refl, Bool.not_true, Bool.false_or] at h3
                  exact hbef e.1 hne h3
                · rw [Bool.or_eq_true] at b5
                  rcases b5 with b5 | b5
                  · rw [hbef e.1 hne b5] at hSe; cases hSe
                  · exact b5
              have hval : ∀ t, (tmpsOf o).elem t = true → f' t = ov top L f t := fun t ht => by
                rw [e8 t]
                exact ov_slot L f f rfl fun e he hd => (hpre e he).2.1 t (by simp only [touch, ho]; have := List.elem_iff.1 ht; simp [this]) hd
              refine .inl ⟨hg, mono (fun f2 H2 h => ?_) (hE f' H' hval e9)⟩
              obtain ⟨v, hf2, hmr, hrest⟩ := h
              refine enter _ _ _ (pre ++ [(ye, some R)]) r (L ++ [(ye, o.dst, v)]) H2 hD' (by rw [e1]; simp) (by rw [List.map_append, List.map_append, e3]; rfl) (fun z hz => ?_) (fun c hc => ?_) ?_ ?_ (fun t => ?_) (Mono.refl _) (by rw [ov_app]; exact hrest)
              · have hb := hpair.1 z hz
                simp only [pairB, Bool.and_eq_true] at hb
                exact (hoth z.1 (nb hb.1.1.1.1).symm).trans (e4 z (by simp [hz]))
              · have := q6 c hc (ye, some R) (by rw [e1]; simp)
                exact (hoth c (nb this.1)).trans (e5 c hc)
              · intro A e B hL hS
                have hS2 : (Nat.beq e.1 ye || S e.1) = false := hS
                rw [Bool.or_eq_false_iff] at hS2
                have hLe : ∃ C, L = A ++ e :: C := by
                  rcases List.append_eq_append_iff.1 hL with ⟨C, g1, g2⟩ | ⟨C, g1, g2⟩
                  · cases C with
                    | nil => simp only [List.nil_append, List.cons.injEq] at g2; rw [← g2.1] at hS2; simp at hS2
                    | cons c C => simp at g2
                  · cases C with
                    | nil => simp only [List.nil_append, List.cons.injEq] at g2; rw [g2.1] at hS2; simp at hS2
                    | cons c C => simp only [List.cons_append, List.cons.injEq] at g2; obtain ⟨rfl, g2⟩ := g2; exact ⟨C, g1⟩
                obtain ⟨C, hLe⟩ := hLe
                obtain ⟨oe, de, k1, k2, kd, k3⟩ := e6 A e C hLe hS2.2
                rcases hmr with hmr | hmr
                · exact ⟨oe, de, k1, k2, kd, k3.mono (e9.trans hmr)⟩
                · obtain ⟨oe', de', k4, kd', k5⟩ := hmr.spec A e C hLe ((hpre e (by rw [hLe]; simp)).2.2 hS2.2)
                  rw [k1] at k4; cases k4
                  rw [kd] at kd'; cases kd'
                  exact ⟨oe, de, k1, k2, kd, k5⟩
              · intro e he
                rcases List.mem_append.1 he with he | he
                · exact e7 e he
                · simp at he; subst he; simp [dstOf, ho]
              · rw [hf2, ov_app, ov_congr L f fun e he => hoth e.1 (hpre e he).1, ov, if_pos hSi', ov]
                cases hdo : o.dst with
                | none => exact e8 t
                | some d => simp only [updO]; rw [upd_eq, upd_eq, e8 t]
        · -- the tail begins
          have hmt := List.elem_iff.1 hit
          have hall : ∀ x ∈ ord, S x.1 = true := fun x hx => by
            have := q6 i hmt x hx
            exact hbef x.1 (nb this.1).symm this.2
          have hrest : rest = [] := by
            cases rest with
            | nil => rfl
            | cons y r => have h1 := hall y (by rw [e1]; simp); rw [e4 y (by simp)] at h1; cases h1
          subst hrest
          obtain ⟨A, B, hT⟩ := mem_split hmt
          have hp := prs_spec (p := fun c c' => !Nat.beq c c' && bfB ops c' c) (A := A) (a := i) (B := B) (by rw [hT] at q5; exact q5)
          have hA0 : A = [] := by
            cases A with
            | nil => rfl
            | cons c A =>
              have := hp.2 c (by simp)
              rw [Bool.and_eq_true] at this
              have h1 := hbef c (nb this.1) this.2
              rw [e5 c (by rw [hT]; simp)] at h1; cases h1
          subst hA0
          have hff : f' = ov top L f := by
            funext t
            rw [e8 t]
            exact ov_slot L f f rfl fun e he _ => by
              obtain ⟨z, hz, hz1⟩ := hLord e he
              rw [← hz1]; exact hall z (by rw [e1]; simp [hz])
          have hA := e10 H' e9
          rw [← hff, hT] at hA
          exact tailstep [] B hT hall (fun _ h => by cases h) (fun c hc => e5 c (by rw [hT]; simp [hc])) (fun c hc he => by
            have := hp.1 c hc
            rw [Bool.and_eq_true] at this
            exact nb this.1 he.symm) hA
    · -- the tail goes on
      have hit : i ∈ tail := by
        rcases Bool.or_eq_true _ _ ▸ q1 i hi with h | h
        · obtain ⟨x, hx, hxi⟩ := List.mem_map.1 (List.elem_iff.1 h)
          have := t2 x hx
          rw [hxi, hSi] at this; cases this
        · exact List.elem_iff.1 h
      have hiB : i ∈ B := by
        rw [t1] at hit
        rcases List.mem_append.1 hit with h | h
        · rw [t3 i h] at hSi; cases hSi
        · exact h
      obtain ⟨C, D, hB⟩ := mem_split hiB
      have hp := prs_spec (p := fun c c' => !Nat.beq c c' && bfB ops c' c) (A := A ++ C) (a := i) (B := D) (by rw [t1, hB] at q5; simpa using q5)
      have hC : C = [] := by
        cases C with
        | nil => rfl
        | cons c C =>
          have := hp.2 c (by simp)
          rw [Bool.and_eq_true] at this
          have h1 := hbef c (nb this.1) this.2
          rw [t4 c (by rw [hB]; simp)] at h1; cases h1
      subst hC
      rw [List.nil_append] at hB
      subst hB
      exact tailstep A D t1 t2 t3 (fun c hc => t4 c (by simp [hc])) (fun c hc he => by
        have := hp.1 c hc
        rw [Bool.and_eq_true] at this
        exact nb this.1 he.symm) t5
  · -- the end
    intro S f' H' hall ⟨hD, hcase⟩
    rcases hcase with ⟨pre, rest, L, Hs, e1, e2, e3, e4, e5, e6, e7, e8, e9, e10⟩ | ⟨A, B, t1, t2, t3, t4, t5⟩
    · have hrest : rest = [] := by
        cases rest with
        | nil => rfl
        | cons y r =>
          have h1 := e4 y (by simp)
          rw [hall y.1 (Nat.blt_eq ▸ (q2 y (by rw [e1]; simp)))] at h1; cases h1
      have htail : tail = [] := by
        cases tail with
        | nil => rfl
        | cons c B =>
          have h1 := e5 c (by simp)
          rw [hall c (Nat.blt_eq ▸ (q3 c (by simp)))] at h1; cases h1
      subst hrest htail
      have hff : f' = ov top L f := by
        funext t
        rw [e8 t]
        refine ov_slot L f f rfl fun e he _ => ?_
        have : e.1 ∈ L.map (·.1) := List.mem_map_of_mem he
        rw [e3] at this
        obtain ⟨z, hz, hz1⟩ := List.mem_map.1 this
        rw [← hz1]; exact hall z.1 (Nat.blt_eq ▸ (q2 z (by rw [e1]; simp [hz])))
      have := e10 H' e9
      rw [← hff] at this
      exact this
    · have hB : B = [] := by
        cases B with
        | nil => rfl
        | cons c B =>
          have h1 := t4 c (by simp)
          rw [hall c (Nat.blt_eq ▸ (q3 c (by rw [t1]; simp)))] at h1; cases h1
      subst hB
      exact t5
end
end Go.AH
namespace Go.AH
variable [Globs]
set_option linter.unusedSectionVars false
set_option linter.unusedVariables false
set_option linter.unusedSimpArgs false
open Go
section
variable {P : Program} {n : Nat} {Q : Exit → (Nat → AV) → Heap → Prop} {f : Nat → AV} {H : Heap}
/-- The first phase: plain operations, and those that lay blocks, in any order. -/
def STRN (P : Program) (n : Nat) (ops : Array Oper) (A : List New) (H : Heap) (K : List Ent → (Nat → AV) → Prop) : List Nat → List Ent → (Nat → AV) → Prop
  | [], L, g => K L g
  | i :: r, L, g => ∃ o d v, ops[i]? = some o ∧ o.dst = some d ∧ EntAs P n ops A H i o d v g ∧ STRN P n ops A H K r ((i, some d, v) :: L) (upd g d v)
theorem STRN.done {ops : Array Oper} {A : List New} {K : List Ent → (Nat → AV) → Prop} {L : List Ent} {g : Nat → AV} (h : K L g) : STRN P n ops A H K [] L g := h
theorem STRN.op {ops : Array Oper} {A : List New} {K : List Ent → (Nat → AV) → Prop} {r : List Nat} {L : List Ent} {g : Nat → AV} {i d : Nat} {v : AV} {o : Oper} (hi : notinB A i = true) (ho : ops[i]? = some o) (hd : o.dst = some d) (h : QOpA P n ops o d v H g) (rest : STRN P n ops A H K r ((i, some d, v) :: L) (upd g d v)) : STRN P n ops A H K (i :: r) L g :=
  ⟨o, d, v, ho, hd, .inl ⟨fun e he g => by
    have := List.all_eq_true.1 hi e he
    rw [g] at this; simp at this, h⟩, rest⟩
theorem STRN.alloc {ops : Array Oper} {A : List New} {K : List Ent → (Nat → AV) → Prop} {r : List Nat} {L : List Ent} {g : Nat → AV} {i d id : Nat} {Z : List AV} {o : Oper} {t : TypeId} (hi : (i, id, .row 0 Z) ∈ A) (ho : ops[i]? = some o) (hd : o.dst = some d) (hg : o.guard = none) (hop : o.op = .alloc t) (hn : Nat.ble (d + 1) n = true) (hz : TZero P t Z) (rest : STRN P n ops A H K r ((i, some d, .ptr id 0 0) :: L) (upd g d (.ptr id 0 0))) : STRN P n ops A H K (i :: r) L g :=
  ⟨o, d, _, ho, hd, .inr ⟨id, _, hi, (fun f' H' _ hr => by
      obtain ⟨dst, op, ty, pos, after, guard⟩ := o
      simp only at hd hop
      subst hd hop
      exact AOp.alloc_at id (.inr hr) hn hz ⟨rfl, rfl⟩), hg⟩, rest⟩
def VldN (P : Program) (n : Nat) (ops : Array Oper) (A : List New) (H : Heap) (f : Nat → AV) (L : List Ent) : Prop :=
  ∀ A' e B, L = A' ++ e :: B → ∃ o d, ops[e.1]? = some o ∧ o.dst = some d ∧ e.2.1 = some d ∧ EntAs P n ops A H e.1 o d e.2.2 (ov top A' f)
theorem STRN.get {ops : Array Oper} {A : List New} {K : List Ent → (Nat → AV) → Prop} : ∀ {r : List Nat} {L : List Ent}, VldN P n ops A H f L.reverse → Dst ops L.reverse → STRN P n ops A H K r L (ovR L f) →
    ∃ M, M.reverse.map (·.1) = L.reverse.map (·.1) ++ r ∧ VldN P n ops A H f M.reverse ∧ Dst ops M.reverse ∧ K M (ovR M f)
  | [], L, hv, hd, h => ⟨L, by simp, hv, hd, h⟩
  | i :: r, L, hv, hd, ⟨o, d, v, h1, h2, h3, h4⟩ => by
    have hv' : VldN P n ops A H f ((i, some d, v) :: L).reverse := by
      intro A' e B hL
      rw [List.reverse_cons] at hL
      rcases List.append_eq_append_iff.1 hL with ⟨C, g1, g2⟩ | ⟨C, g1, g2⟩
      · cases C with
        | nil =>
          simp only [List.nil_append, List.cons.injEq] at g2
          obtain ⟨rfl, _⟩ := g2
          rw [List.append_nil] at g1; subst g1
          refine ⟨o, d, h1, h2, rfl, ?_⟩
          rw [← ovR_eq]; exact h3
        | cons c C => simp at g2
      · cases C with
        | nil =>
          simp only [List.nil_append, List.cons.injEq] at g2
          obtain ⟨rfl, _⟩ := g2
          rw [List.append_nil] at g1; subst g1
          refine ⟨o, d, h1, h2, rfl, ?_⟩
          rw [← ovR_eq]; exact h3
        | cons c C =>
          simp only [List.cons_append, List.cons.injEq] at g2
          obtain ⟨rfl, g2⟩ := g2
          exact hv A' e C g1
    have hd' : Dst ops ((i, some d, v) :: L).reverse := by
      intro e he
      rw [List.reverse_cons] at he
      rcases List.mem_append.1 he with he | he
      · exact hd e he
      · simp at he; subst he; simp [dstOf, h1, h2]
    obtain ⟨M, m1, m2, m3, m4⟩ := STRN.get hv' hd' h4
    exact ⟨M, by rw [m1]; simp, m2, m3, m4⟩
def headB (ops : Array Oper) (A : List New) (ord1 : List Nat) (ord2 : List Item) : Bool :=
  (A.all fun e => ord1.elem e.1) && (ord2.all fun x => A.all fun e => bfB ops x.1 e.1) && (match ord2.head? with | some x => x.2.isSome | none => true)
theorem AWP.region_strA {rid : Nat} {ops : Array Oper} (hm : P.follows .mixedOrders = true) (hback : backB ops = true) (A : List New) (ord1 : List Nat) (ord2 : List Item) (tail : List Nat) (hq : stgB ops ((ord1.map fun i => ((i, none) : Item)) ++ ord2) tail = true) (hh : headB ops A ord1 ord2 = true) (hA : FrA H A)
    (h : STRN P n ops A H (fun L g => ∀ H1, Mono H H1 → (∀ e ∈ A, H1 e.2.1 = some e.2.2) → STR P n ops f (fun g H' => AOps P n ops (Q .normal) tail g H') ord2 L H1 g) ord1 [] f) : AWP P n (.region rid ops true) Q f H := by
  have hall := stg_all (P := P) (n := n) (Q := Q) (f := f) ((ord1.map fun i => ((i, none) : Item)) ++ ord2) tail hq
  simp only [headB, Bool.and_eq_true, List.all_eq_true] at hh
  obtain ⟨⟨hh1, hh2⟩, hh3⟩ := hh
  obtain ⟨M, e3, e6, e7, hK⟩ := STRN.get (f := f) (L := []) (fun A' e B h => by simp at h) (fun _ h => by simp at h) h
  simp only [List.reverse_nil, List.map_nil, List.nil_append] at e3
  have hK' : ∀ H1, Mono H H1 → (∀ e ∈ A, H1 e.2.1 = some e.2.2) → STQ P n ops f (fun g H' => AOps P n ops (Q .normal) tail g H') ord2 M.reverse H1 (ov top M.reverse f) := fun H1 m1 m2 => by
    have := (hK H1 m1 m2).to
    rw [ovR_eq] at this; exact this
  clear hK h
  generalize M.reverse = L at *
  let ord : List Item := (ord1.map fun i => ((i, none) : Item)) ++ ord2
  simp only [stgB, Bool.and_eq_true, List.all_eq_true, List.mem_range] at hq
  obtain ⟨⟨⟨⟨⟨q1, q2⟩, q3⟩, q4⟩, q5⟩, q6⟩ := hq
  have beqf : ∀ x y : Nat, x ≠ y → Nat.beq x y = false := fun x y h => by
    cases hb : Nat.beq x y with
    | false => rfl
    | true => exact absurd (Nat.eq_of_beq_eq_true hb) h
  have hdn : ∀ (S : Nat → Bool) i o, Dn ops S → ops[i]? = some o → (∀ e ∈ o.after, Region.binds .any e = true → S e.on = true) → Dn ops (fun k => Nat.beq k i || S k) := by
    intro S i o hD ho hr j oj hj hS e he hb
    by_cases hji : j = i
    · subst hji
      rw [ho] at hj; cases hj
      simp [hr e he hb]
    · have hS : (Nat.beq j i || S j) = true := hS
      rw [beqf _ _ hji, Bool.false_or] at hS
      simp [hD j oj hj hS e he hb]
  have befD : ∀ (S : Nat → Bool), Dn ops S → ∀ i j, bfB ops i j = true → S i = true → S j = true := by
    intro S hD i j hb hS
    unfold bfB at hb
    rcases Nat.lt_or_ge i (befL ops.toList []).length with h | h
    · rw [List.getD_eq_getElem?_getD, List.getElem?_eq_getElem h, Option.getD_some] at hb
      exact bef_spec hD ops.toList [] (fun j => by simp) (fun i m j hi => by simp at hi) i _ j (List.getElem?_eq_getElem h) hb hS
    · rw [List.getD_eq_getElem?_getD, List.getElem?_eq_none h, Option.getD_none] at hb
      simp at hb
  have nb : ∀ {x y : Nat}, (!Nat.beq x y) = true → x ≠ y := fun h e => by subst e; simp at h
  have e3' : L.map (·.1) = (ord1.map fun i => ((i, none) : Item)).map (·.1) := by rw [e3, List.map_map]; exact (List.map_id ord1).symm
  let Ph : (Nat → Bool) → (Nat → AV) → Heap → Prop := fun S f' H' => Dn ops S ∧ (∀ x ∈ ord2, S x.1 = false) ∧ (∀ c ∈ tail, S c = false) ∧ (∀ t, f' t = ov S L f t) ∧ Mono (HSf A H S) H'
  have conv : ∀ S f' H', Ph S f' H' → (∀ e ∈ A, S e.1 = true) → StgI P n ops ((ord1.map fun i => ((i, none) : Item)) ++ ord2) tail Q f S f' H' := by
    intro S f' H' ⟨hD, p1, p2, p3, p4⟩ hS
    have hs : HSf A H S = HSf A H top := HSf_same fun e he => by rw [hS e he]
    rw [hs] at p4
    have hHm : Mono H (HSf A H top) := HSf_mono hA (Mono.refl _)
    refine ⟨hD, .inl ⟨ord1.map fun i => ((i, none) : Item), ord2, L, HSf A H top, rfl, ?_, e3', p1, p2, ?_, e7, p3, p4, hK' _ hHm fun e he => HSf_mem hA he⟩⟩
    · intro x hx
      have hx : ord2.head? = some x := hx
      rw [hx] at hh3
      intro e
      have hh3 : x.2.isSome = true := hh3
      rw [e] at hh3; cases hh3
    · intro A' e B hL hSe
      obtain ⟨o, d, k1, k2, k3, k4⟩ := e6 A' e B hL
      rcases k4 with ⟨_, k4⟩ | ⟨id, B', k4, _⟩
      · exact ⟨o, d, k1, k2, k3, k4.mono hHm⟩
      · rw [hS _ k4] at hSe; cases hSe
  refine AWP.reserveA hA ?_
  refine AWP.region_any hm hback (fun S f' H' => Ph S f' H' ∨ StgI P n ops ((ord1.map fun i => ((i, none) : Item)) ++ ord2) tail Q f S f' H') (.inl ⟨fun _ _ _ h => (by cases h), fun _ _ => rfl, fun _ _ => rfl, fun t => by rw [ov_none L f fun _ _ => rfl], Mono.refl _⟩) ?_ ?_
  · intro S i o ho hSi hr f' H' hcase
    have mono : ∀ {K K' : (Nat → AV) → Heap → Prop}, (∀ f H, K f H → K' f H) → AOp P n o K f' H' → AOp P n o K' f' H' := fun hk h μ a w hs E =>
      Oper.wp_mono (fun a' w' ⟨μ', f2, H2, g1, g2, g3⟩ => ⟨μ', f2, H2, g1, g2, hk _ _ g3⟩) (fun _ _ _ _ h => h) (h μ a w hs E)
    have viaI : StgI P n ops ((ord1.map fun i => ((i, none) : Item)) ++ ord2) tail Q f S f' H' → _ := fun hI => hall.1 S i o ho hSi hr f' H' hI
    have up : ∀ {f2 H2}, StgI P n ops ((ord1.map fun i => ((i, none) : Item)) ++ ord2) tail Q f (fun k => Nat.beq k i || S k) f2 H2 → (Ph (fun k => Nat.beq k i || S k) f2 H2 ∨ StgI P n ops ((ord1.map fun i => ((i, none) : Item)) ++ ord2) tail Q f (fun k => Nat.beq k i || S k) f2 H2) := .inr
    have fin2 : StgI P n ops ((ord1.map fun i => ((i, none) : Item)) ++ ord2) tail Q f S f' H' → (o.guard = none ∧ AOp P n o (fun f2 H2 => Ph (fun k => Nat.beq k i || S k) f2 H2 ∨ StgI P n ops ((ord1.map fun i => ((i, none) : Item)) ++ ord2) tail Q f (fun k => Nat.beq k i || S k) f2 H2) f' H') ∨
      (∃ j want oj d b, o.guard = some (j, want) ∧ ops[j]? = some oj ∧ oj.dst = some d ∧ f' d = gAV b ∧
        (b = some want → AOp P n o (fun f2 H2 => Ph (fun k => Nat.beq k i || S k) f2 H2 ∨ StgI P n ops ((ord1.map fun i => ((i, none) : Item)) ++ ord2) tail Q f (fun k => Nat.beq k i || S k) f2 H2) f' H') ∧
        (b ≠ some want → ∃ d', o.dst = some d' ∧ Nat.ble (d' + 1) n = true ∧ (Ph (fun k => Nat.beq k i || S k) (upd f' d' (.tup [])) H' ∨ StgI P n ops ((ord1.map fun i => ((i, none) : Item)) ++ ord2) tail Q f (fun k => Nat.beq k i || S k) (upd f' d' (.tup [])) H'))) := fun hI => by
      rcases viaI hI with ⟨g1, g2⟩ | ⟨j, want, oj, d, b, g1, g2, g3, g4, g5, g6⟩
      · exact .inl ⟨g1, mono (fun _ _ h => up h) g2⟩
      · refine .inr ⟨j, want, oj, d, b, g1, g2, g3, g4, fun e => mono (fun _ _ h => up h) (g5 e), fun e => ?_⟩
        obtain ⟨d', k1, k2, k3⟩ := g6 e
        exact ⟨d', k1, k2, up k3⟩
    rcases hcase with hP | hI
    · by_cases hdone : ∀ e ∈ A, S e.1 = true
      · exact fin2 (conv S f' H' hP hdone)
      · obtain ⟨hD, p1, p2, e8, e9⟩ := hP
        have hi : i < ops.size := by
          rcases Nat.lt_or_ge i ops.size with h' | h'
          · exact h'
          · rw [Array.getElem?_eq_none h'] at ho; cases ho
        have hD' := hdn S i o hD ho hr
        have hSi' : (fun k => Nat.beq k i || S k) i = true := by simp
        have hbef : ∀ j, j ≠ i → bfB ops i j = true → S j = true := fun j hj hb => by
          have : (Nat.beq j i || S j) = true := befD _ hD' i j hb hSi'
          rwa [beqf _ _ hj, Bool.false_or] at this
        have hoth : ∀ x, x ≠ i → (fun k => Nat.beq k i || S k) x = S x := fun x hx => by show (Nat.beq x i || S x) = S x; rw [beqf _ _ hx, Bool.false_or]
        have mono2 : ∀ {K K' : (Nat → AV) → Heap → Prop}, (∀ f H, K f H → K' f H) → AOp P n o K f' H' → AOp P n o K' f' H' := fun hk h μ a w hs E =>
          Oper.wp_mono (fun a' w' ⟨μ', f2, H2, g1, g2, g3⟩ => ⟨μ', f2, H2, g1, g2, hk _ _ g3⟩) (fun _ _ _ _ h => h) (h μ a w hs E)
        have hi1 : i ∈ ord1 := by
          apply Classical.byContradiction
          intro hni
          apply hdone
          intro e he
          have he1 : e.1 ∈ ord1 := List.elem_iff.1 (hh1 e he)
          have hne : e.1 ≠ i := fun g => hni (g ▸ he1)
          refine hbef e.1 hne ?_
          rcases Bool.or_eq_true _ _ ▸ q1 i hi with hio | hit
          · obtain ⟨x, hx, hxi⟩ := List.mem_map.1 (List.elem_iff.1 hio)
            rcases List.mem_append.1 hx with hx | hx
            · obtain ⟨y, hy, rfl⟩ := List.mem_map.1 hx
              simp only at hxi; subst hxi; exact absurd hy hni
            · rw [← hxi]; exact hh2 x hx e he
          · have := q6 i (List.elem_iff.1 hit) (e.1, none) (by simp [he1])
            exact this.2
        have hLi : ∃ e ∈ L, e.1 = i := by
          have : i ∈ L.map (·.1) := by rw [e3]; exact hi1
          obtain ⟨e, h1, h2⟩ := List.mem_map.1 this
          exact ⟨e, h1, h2⟩
        have e3 := e3'
        obtain ⟨⟨i', dd, v⟩, hmem, rfl⟩ := hLi
        obtain ⟨AL, BL, hL⟩ := mem_split hmem
        obtain ⟨o', d, ho', hd, hdd, hop⟩ := e6 AL (i', dd, v) BL hL
        simp only at hdd
        subst hdd
        simp only at ho hSi hr hi hD' hSi' hbef hoth ho' hd hop fin2 ⊢
        rw [ho] at ho'; cases ho'
        -- the items of the order
        obtain ⟨PA, x, PB, hp, hPA, hx, hPB⟩ : ∃ PA x PB, (ord1.map fun i => ((i, none) : Item)) = PA ++ x :: PB ∧ PA.map (·.1) = AL.map (·.1) ∧ x.1 = i' ∧ PB.map (·.1) = BL.map (·.1) := by
          rw [hL, List.map_append, List.map_cons] at e3
          obtain ⟨P1, P2, k1, k2, k3⟩ := List.map_eq_append_iff.1 e3.symm
          obtain ⟨x, P3, k4, k5, k6⟩ := List.map_eq_cons_iff.1 k3
          exact ⟨P1, x, P3, by rw [k1, k4], k2, k5, k6⟩
        have hpair := prs_spec (p := pairB ops) (A := PA) (a := x) (B := PB ++ ord2) (by rw [hp] at q4; simpa using q4)
        have hAe : ∀ e ∈ AL, e.1 ≠ i' ∧ ∀ t ∈ touch ops i', e.2.1 = some t → S e.1 = true := fun e he => by
          have : e.1 ∈ AL.map (·.1) := List.mem_map_of_mem he
          rw [← hPA] at this
          obtain ⟨y, hy, hy1⟩ := List.mem_map.1 this
          have hb := hpair.2 y hy
          simp only [pairB, Bool.and_eq_true, List.all_eq_true] at hb
          obtain ⟨⟨⟨⟨b1, b2⟩, b3⟩, b4⟩, b5⟩ := hb
          rw [hy1, hx] at b1 b2 b3
          have hne := nb b1
          refine ⟨hne, fun t ht hd => ?_⟩
          have h3 := b3 t ht
          have hds : dstOf ops e.1 = e.2.1 := e7 e (by rw [hL]; simp [he])
          rw [hds] at h3
          simp only [hd, Nat.beq_refl, Bool.not_true, Bool.false_or] at h3
          exact hbef e.1 hne h3
        have hBe : ∀ e ∈ BL, e.1 ≠ i' ∧ ∀ t ∈ touch ops i', e.2.1 = some t → S e.1 = false := fun e he => by
          have : e.1 ∈ BL.map (·.1) := List.mem_map_of_mem he
          rw [← hPB] at this
          obtain ⟨y, hy, hy1⟩ := List.mem_map.1 this
          have hb := hpair.1 y (by simp [hy])
          simp only [pairB, Bool.and_eq_true, List.all_eq_true] at hb
          obtain ⟨⟨⟨⟨b1, b2⟩, b3⟩, b4⟩, b5⟩ := hb
          rw [hy1, hx] at b1 b2 b3
          have hne := nb b1
          refine ⟨hne.symm, fun t ht hd => ?_⟩
          have h2 := b2 t ht
          have hds : dstOf ops e.1 = e.2.1 := e7 e (by rw [hL]; simp [he])
          rw [hds] at h2
          simp only [hd, Nat.beq_refl, Bool.not_true, Bool.false_or] at h2
          cases hSe : S e.1 with
          | false => rfl
          | true => have := befD S hD e.1 i' h2 hSe; rw [hSi] at this; cases this
        have htouch : ∀ t, t ∈ tmpsOf o ++ guardSlot ops o ++ [d] → t ∈ touch ops i' := fun t ht => by
          simp only [touch, ho, hd, Option.toList]; exact ht
        have hval : ∀ t, t ∈ tmpsOf o ++ guardSlot ops o ++ [d] → f' t = ov top AL f t := by
          intro t ht
          rw [e8 t, hL, ov_app]
          rw [ov_slot (S := S) (S' := fun _ => false) ((i', some d, v) :: BL) _ (ov top AL f) (ov_slot AL f f rfl fun e he hd => (hAe e he).2 t (htouch t ht) hd) fun e he hd => ?_]
          · exact congrFun (ov_none _ _ fun _ _ => rfl) t
          · rcases List.mem_cons.1 he with rfl | he
            · exact hSi
            · exact (hBe e he).2 t (htouch t ht) hd
        have hnew : ∀ t, upd f' d v t = ov (fun k => Nat.beq k i' || S k) L f t := by
          intro t
          have hAc : ov (fun k => Nat.beq k i' || S k) AL f = ov S AL f := ov_congr AL f fun e he => hoth e.1 (hAe e he).1
          rw [hL, ov_app, hAc, ov, if_pos hSi']
          by_cases htd : t = d
          · subst htd
            rw [upd_eq, if_pos rfl]
            rw [ov_slot (S' := fun _ => false) BL _ _ rfl fun e he hd => by
              exact (hoth e.1 (hBe e he).1).trans ((hBe e he).2 t (htouch t (by simp)) hd)]
            rw [ov_none BL _ fun _ _ => rfl]; simp [updO, upd_eq]
          · rw [upd_eq, if_neg htd, e8 t, hL, ov_app, ov, if_neg (by rw [hSi]; decide)]
            exact (ov_slot BL _ _ (by simp only [updO]; rw [upd_eq, if_neg htd]) fun e he _ => hoth e.1 (hBe e he).1).symm
        have hneO : ∀ x ∈ ord2, x.1 ≠ i' := fun y hy he => by
          have hb := hpair.1 y (by simp [hy])
          simp only [pairB, Bool.and_eq_true] at hb
          exact nb hb.1.1.1.1 (by rw [hx, he])
        have hneT : ∀ c ∈ tail, c ≠ i' := fun c hc he => by
          have := q6 c hc x (by rw [hp]; simp)
          exact nb this.1 (by rw [he, hx])
        have hI : ∀ f2 H2, f2 = upd f' d v ∧ Mono (HSf A H fun k => Nat.beq k i' || S k) H2 → (Ph (fun k => Nat.beq k i' || S k) f2 H2 ∨ StgI P n ops ((ord1.map fun i => ((i, none) : Item)) ++ ord2) tail Q f (fun k => Nat.beq k i' || S k) f2 H2) := fun f2 H2 ⟨e, m⟩ =>
          .inl ⟨hD', fun y hy => (hoth _ (hneO y hy)).trans (p1 y hy), fun c hc => (hoth _ (hneT c hc)).trans (p2 c hc), by rw [e]; exact hnew, m⟩
        rcases hop with ⟨hia, hop⟩ | ⟨id, B, hiA, hov, hg⟩
        · have hSame : HSf A H (fun k => Nat.beq k i' || S k) = HSf A H S := HSf_same fun e he => by rw [beqf _ _ (hia e he), Bool.false_or]
          rw [hSame] at hI
          have hMH := HSf_mono hA e9
          rcases hop with ⟨hg, hop⟩ | ⟨j, want, oj, dj, b, hg, hj, hdj, hfb, hyes, hno⟩
          · exact .inl ⟨hg, mono (fun f2 H2 h => hI f2 H2 ⟨h.1, e9.trans h.2⟩) (hop H' f' H' (fun t ht => hval t (by have := List.elem_iff.1 ht; simp [this])) (Mono.refl _) hMH)⟩
          · refine .inr ⟨j, want, oj, dj, b, hg, hj, hdj, ?_, fun hb => mono (fun f2 H2 h => hI f2 H2 ⟨h.1, e9.trans h.2⟩) (hyes hb H' f' H' (fun t ht => hval t (by have := List.elem_iff.1 ht; simp [this])) (Mono.refl _) hMH), fun hb => ?_⟩
            · rw [hval dj (by simp [guardSlot, hg, hj, hdj])]; exact hfb
            · obtain ⟨hv, hn⟩ := hno hb
              exact ⟨d, hd, hn, hI _ _ ⟨by rw [hv], e9⟩⟩
        · refine .inl ⟨hg, ?_⟩
          have hres : H' id = some .res := e9 id .res (by have := HSf_mem hA (S := S) hiA; simp only [hSi] at this; exact this)
          refine mono (fun f2 H2 h => hI f2 H2 ?_) (hov f' H' (fun t ht => hval t (by have := List.elem_iff.1 ht; simp [this])) hres)
          obtain ⟨e, e2⟩ := h
          refine ⟨e, ?_⟩
          intro j C hj
          rw [e2, updH_eq]
          by_cases c : j = id
          · rw [if_pos c]
            have h1 := HSf_mem hA (S := fun k => Nat.beq k i' || S k) hiA
            simp only [hSi', if_true] at h1
            rw [c, h1] at hj
            exact hj
          · rw [if_neg c]
            refine e9 j C ?_
            by_cases g : ∃ e ∈ A, e.2.1 = j
            · obtain ⟨e, he, rfl⟩ := g
              have h1 := HSf_mem hA (S := fun k => Nat.beq k i' || S k) he
              have h2 := HSf_mem hA (S := S) he
              have hne : e.1 ≠ i' := fun g => c (congrArg (fun x : New => x.2.1) (hA.inj he hiA (.inr g)))
              rw [beqf _ _ hne, Bool.false_or] at h1
              rw [h1, ← h2] at hj
              exact hj
            · have h1 : ∀ e ∈ A, e.2.1 ≠ j := fun e he h => g ⟨e, he, h⟩
              rw [HSf_not h1] at hj
              rw [HSf_not h1]; exact hj
    · exact fin2 hI
  · intro S f' H' hS hcase
    rcases hcase with hP | hI
    · refine hall.2 S f' H' hS (conv S f' H' hP fun e he => ?_)
      have := q2 (e.1, none) (by simp [List.elem_iff.1 (hh1 e he)])
      exact hS _ (Nat.blt_eq ▸ this)
    · exact hall.2 S f' H' hS hI

end
end Go.AH
namespace Go.AH
variable [Globs]
set_option linter.unusedSectionVars false
open Go
section
variable {H0 H H2 : Heap} {es len id ver : Nat} {v : AV} {cells cells' : List AV}
theorem Own.at_ (e : v = .slm id ver es 0 len) (h : Own H0 H es v len cells) : H id = some (.row ver cells) ∧ H0 id = none ∧ cells.length = len * es := by
  rcases h with ⟨h, _, _⟩ | ⟨i, w, h1, h2, h3, h4⟩
  · rw [e] at h; cases h
  · rw [e] at h1; cases h1; exact ⟨h2, h3, h4⟩
theorem Own.store {len' : Nat} (e : v = .slm id ver es 0 len) (h : Own H0 H es v len cells) (hs : H2 id = some (.row ver cells')) (hl : len' = len) (hc : cells'.length = len * es) : Own H0 H2 es v len' cells' := by
  subst hl
  exact .inr ⟨id, ver, e, hs, (h.at_ e).2.1, hc⟩
theorem NotId.ne {i : Nat} (h : NotId v i) (e : v = .slm id ver es 0 len) : i ≠ id := h _ _ _ _ _ e
end
end Go.AH
namespace Go.Proofs.B
open Go Go.AH
set_option maxRecDepth 4000
set_option linter.unusedSectionVars false
instance instG : Globs := { val := fun _ => none }
theorem noG : ∀ g : Nat, Globs.val g = none ∧ Globs.blk g = none := fun _ => ⟨rfl, rfl⟩
def eI (x : Int) : AV := .int .i64 x
theorem eI_one (x : Int) : (eI x).one = true := rfl
structure VT where
  X : Int
  Y : Int
  Z : Int
  deriving DecidableEq, Inhabited
def eV (x : VT) : List AV := [.int .i64 x.X, .int .i64 x.Y, .int .i64 x.Z]
theorem eV_iff (a b : VT) : a = b ↔ eV a = eV b := by
  refine ⟨fun h => by rw [h], fun h => ?_⟩
  obtain ⟨_, _, _⟩ := a; obtain ⟨_, _, _⟩ := b
  simp [eV] at h
  simp [h]
structure BoxT where
  Lo : VT
  Hi : VT
  deriving DecidableEq, Inhabited
def eBox (x : BoxT) : List AV := [.int .i64 x.Lo.X, .int .i64 x.Lo.Y, .int .i64 x.Lo.Z, .int .i64 x.Hi.X, .int .i64 x.Hi.Y, .int .i64 x.Hi.Z]
theorem eBox_len (x : BoxT) : (eBox x).length = 6 := rfl
theorem eBox_one (x : BoxT) : (eBox x).all AV.one = true := rfl
theorem eBox_iff (a b : BoxT) : a = b ↔ eBox a = eBox b := by
  refine ⟨fun h => by rw [h], fun h => ?_⟩
  obtain ⟨⟨_, _, _⟩, ⟨_, _, _⟩⟩ := a; obtain ⟨⟨_, _, _⟩, ⟨_, _, _⟩⟩ := b
  simp [eBox] at h
  simp [h]
structure FracT where
  N : Int
  D : Int
  deriving DecidableEq, Inhabited
def eFrac (x : FracT) : List AV := [.int .i64 x.N, .int .i64 x.D]
theorem eFrac_iff (a b : FracT) : a = b ↔ eFrac a = eFrac b := by
  refine ⟨fun h => by rw [h], fun h => ?_⟩
  obtain ⟨_, _⟩ := a; obtain ⟨_, _⟩ := b
  simp [eFrac] at h
  simp [h]
structure WideT where
  Hi : Int
  Lo : Int
  deriving DecidableEq, Inhabited
structure PartT where
  fromF : Int
  step : Int
  lo : Int
  hi : Int
  deriving DecidableEq, Inhabited
def ePart (x : PartT) : List AV := [.int .i64 x.fromF, .int .i64 x.step, .int .i64 x.lo, .int .i64 x.hi]
theorem ePart_len (x : PartT) : (ePart x).length = 4 := rfl
structure NodeT where
  Box : BoxT
  Left : Int
  Right : Int
  First : Int
  Count : Int
  deriving DecidableEq, Inhabited
def eNode (x : NodeT) : List AV := [.int .i64 x.Box.Lo.X, .int .i64 x.Box.Lo.Y, .int .i64 x.Box.Lo.Z, .int .i64 x.Box.Hi.X, .int .i64 x.Box.Hi.Y, .int .i64 x.Box.Hi.Z, .int .i64 x.Left, .int .i64 x.Right, .int .i64 x.First, .int .i64 x.Count]
theorem eNode_len (x : NodeT) : (eNode x).length = 10 := rfl
theorem eNode_iff (a b : NodeT) : a = b ↔ eNode a = eNode b := by
  refine ⟨fun h => by rw [h], fun h => ?_⟩
  obtain ⟨⟨⟨_, _, _⟩, ⟨_, _, _⟩⟩, _, _, _, _⟩ := a; obtain ⟨⟨⟨_, _, _⟩, ⟨_, _, _⟩⟩, _, _, _, _⟩ := b
  simp [eNode] at h
  simp [h]
structure TreeT where
  Nodes : (List NodeT)
  Items : (List Int)
  deriving DecidableEq, Inhabited
theorem u_2 : Try.prog.underlying 2 = some (.int .i64) := rfl
theorem ty_2 : TY Try.prog 2 false 1 := ⟨⟨_, rfl, rfl⟩, _, rfl, rfl⟩
theorem ts_2 : TSize Try.prog 2 1 := ty_2.size
theorem u_3 : Try.prog.underlying 3 = some (.int .i64) := rfl
theorem ty_3 : TY Try.prog 3 false 1 := ⟨⟨_, rfl, rfl⟩, _, rfl, rfl⟩
theorem ts_3 : TSize Try.prog 3 1 := ty_3.size
theorem tz_3 : TZero Try.prog 3 [.int .i64 0] := ⟨_, _, rfl, rfl, rfl⟩
theorem tzn_3 : TZn Try.prog 3 1 := ⟨_, _, rfl, rfl, rfl, rfl⟩
theorem tb_3 : TBytes Try.prog 3 8 := ⟨_, rfl, Nat.le_refl _⟩
theorem u_4 : Try.prog.underlying 4 = some (.bool) := rfl
theorem ty_4 : TY Try.prog 4 false 1 := ⟨⟨_, rfl, rfl⟩, _, rfl, rfl⟩
theorem ts_4 : TSize Try.prog 4 1 := ty_4.size
theorem u_22 : Try.prog.underlying 22 = some (.slice 37) := rfl
theorem ty_22 : TY Try.prog 22 false 1 := ⟨⟨_, rfl, rfl⟩, _, rfl, rfl⟩
theorem ts_22 : TSize Try.prog 22 1 := ty_22.size
theorem ni_22 : NotInt Try.prog 22 := ⟨_, rfl, rfl⟩
theorem sl_22 : TSlice Try.prog 22 6 := ⟨37, rfl, _, rfl, rfl⟩
theorem ty_24 : TY Try.prog 24 true 3 := ⟨⟨_, rfl, rfl⟩, _, rfl, rfl⟩
theorem ts_24 : TSize Try.prog 24 3 := ty_24.size
theorem tz_24 : TZero Try.prog 24 [.int .i64 0, .int .i64 0, .int .i64 0] := ⟨_, _, rfl, rfl, rfl⟩
theorem fl_24_0 : TField Try.prog 24 0 0 false 1 := ⟨_, _, rfl, rfl, rfl, ty_3, by decide⟩
theorem fl_24_1 : TField Try.prog 24 1 1 false 1 := ⟨_, _, rfl, rfl, rfl, ty_3, by decide⟩
theorem fl_24_2 : TField Try.prog 24 2 2 false 1 := ⟨_, _, rfl, rfl, rfl, ty_3, by decide⟩
theorem pl_24 : TPlaces Try.prog 24 (lookupL [(0, 1), (1, 1), (2, 1)]) := .inl ⟨_, rfl, fun j => match j with
    | 0 => .inr ⟨_, _, rfl, ts_3, rfl⟩
    | 1 => .inr ⟨_, _, rfl, ts_3, rfl⟩
    | 2 => .inr ⟨_, _, rfl, ts_3, rfl⟩
    | j + 3 => .inl ⟨rfl, by simp⟩⟩
theorem u_26 : Try.prog.underlying 26 = some (.slice 42) := rfl
theorem ty_26 : TY Try.prog 26 false 1 := ⟨⟨_, rfl, rfl⟩, _, rfl, rfl⟩
theorem ts_26 : TSize Try.prog 26 1 := ty_26.size
theorem ni_26 : NotInt Try.prog 26 := ⟨_, rfl, rfl⟩
theorem sl_26 : TSlice Try.prog 26 10 := ⟨42, rfl, _, rfl, rfl⟩
theorem u_27 : Try.prog.underlying 27 = some (.slice 3) := rfl
theorem ty_27 : TY Try.prog 27 false 1 := ⟨⟨_, rfl, rfl⟩, _, rfl, rfl⟩
theorem ts_27 : TSize Try.prog 27 1 := ty_27.size
theorem ni_27 : NotInt Try.prog 27 := ⟨_, rfl, rfl⟩
theorem sl_27 : TSlice Try.prog 27 1 := ⟨3, rfl, _, rfl, rfl⟩
theorem ty_29 : TY Try.prog 29 true 2 := ⟨⟨_, rfl, rfl⟩, _, rfl, rfl⟩
theorem ts_29 : TSize Try.prog 29 2 := ty_29.size
theorem tz_29 : TZero Try.prog 29 [.snil, .snil] := ⟨_, _, rfl, rfl, rfl⟩
theorem fl_29_0 : TField Try.prog 29 0 0 false 1 := ⟨_, _, rfl, rfl, rfl, ty_26, by decide⟩
theorem fl_29_1 : TField Try.prog 29 1 1 false 1 := ⟨_, _, rfl, rfl, rfl, ty_27, by decide⟩
theorem pl_29 : TPlaces Try.prog 29 (lookupL [(0, 1), (1, 1)]) := .inl ⟨_, rfl, fun j => match j with
    | 0 => .inr ⟨_, _, rfl, ts_26, rfl⟩
    | 1 => .inr ⟨_, _, rfl, ts_27, rfl⟩
    | j + 2 => .inl ⟨rfl, by simp⟩⟩
theorem ty_37 : TY Try.prog 37 true 6 := ⟨⟨_, rfl, rfl⟩, _, rfl, rfl⟩
theorem ts_37 : TSize Try.prog 37 6 := ty_37.size
theorem tz_37 : TZero Try.prog 37 [.int .i64 0, .int .i64 0, .int .i64 0, .int .i64 0, .int .i64 0, .int .i64 0] := ⟨_, _, rfl, rfl, rfl⟩
theorem tzn_37 : TZn Try.prog 37 6 := ⟨_, _, rfl, rfl, rfl, rfl⟩
theorem tb_37 : TBytes Try.prog 37 48 := ⟨_, rfl, Nat.le_refl _⟩
theorem fl_37_0 : TField Try.prog 37 0 0 true 3 := ⟨_, _, rfl, rfl, rfl, ty_24, by decide⟩
theorem fl_37_1 : TField Try.prog 37 1 3 true 3 := ⟨_, _, rfl, rfl, rfl, ty_24, by decide⟩
theorem pl_37 : TPlaces Try.prog 37 (lookupL [(0, 3), (3, 3)]) := .inl ⟨_, rfl, fun j => match j with
    | 0 => .inr ⟨_, _, rfl, ts_24, rfl⟩
    | 1 => .inr ⟨_, _, rfl, ts_24, rfl⟩
    | j + 2 => .inl ⟨rfl, by simp⟩⟩
theorem ty_42 : TY Try.prog 42 true 10 := ⟨⟨_, rfl, rfl⟩, _, rfl, rfl⟩
theorem ts_42 : TSize Try.prog 42 10 := ty_42.size
theorem tz_42 : TZero Try.prog 42 [.int .i64 0, .int .i64 0, .int .i64 0, .int .i64 0, .int .i64 0, .int .i64 0, .int .i64 0, .int .i64 0, .int .i64 0, .int .i64 0] := ⟨_, _, rfl, rfl, rfl⟩
theorem tzn_42 : TZn Try.prog 42 10 := ⟨_, _, rfl, rfl, rfl, rfl⟩
theorem tb_42 : TBytes Try.prog 42 80 := ⟨_, rfl, Nat.le_refl _⟩
theorem fl_42_0 : TField Try.prog 42 0 0 true 6 := ⟨_, _, rfl, rfl, rfl, ty_37, by decide⟩
theorem fl_42_1 : TField Try.prog 42 1 6 false 1 := ⟨_, _, rfl, rfl, rfl, ty_3, by decide⟩
theorem fl_42_2 : TField Try.prog 42 2 7 false 1 := ⟨_, _, rfl, rfl, rfl, ty_3, by decide⟩
theorem fl_42_3 : TField Try.prog 42 3 8 false 1 := ⟨_, _, rfl, rfl, rfl, ty_3, by decide⟩
theorem fl_42_4 : TField Try.prog 42 4 9 false 1 := ⟨_, _, rfl, rfl, rfl, ty_3, by decide⟩
theorem pl_42 : TPlaces Try.prog 42 (lookupL [(0, 6), (6, 1), (7, 1), (8, 1), (9, 1)]) := .inl ⟨_, rfl, fun j => match j with
    | 0 => .inr ⟨_, _, rfl, ts_37, rfl⟩
    | 1 => .inr ⟨_, _, rfl, ts_3, rfl⟩
    | 2 => .inr ⟨_, _, rfl, ts_3, rfl⟩
    | 3 => .inr ⟨_, _, rfl, ts_3, rfl⟩
    | 4 => .inr ⟨_, _, rfl, ts_3, rfl⟩
    | j + 5 => .inl ⟨rfl, by simp⟩⟩
theorem ty_46 : TY Try.prog 46 true 2 := ⟨⟨_, rfl, rfl⟩, _, rfl, rfl⟩
theorem ts_46 : TSize Try.prog 46 2 := ty_46.size
theorem tz_46 : TZero Try.prog 46 [.int .i64 0, .int .i64 0] := ⟨_, _, rfl, rfl, rfl⟩
theorem fl_46_0 : TField Try.prog 46 0 0 false 1 := ⟨_, _, rfl, rfl, rfl, ty_3, by decide⟩
theorem fl_46_1 : TField Try.prog 46 1 1 false 1 := ⟨_, _, rfl, rfl, rfl, ty_3, by decide⟩
theorem pl_46 : TPlaces Try.prog 46 (lookupL [(0, 1), (1, 1)]) := .inl ⟨_, rfl, fun j => match j with
    | 0 => .inr ⟨_, _, rfl, ts_3, rfl⟩
    | 1 => .inr ⟨_, _, rfl, ts_3, rfl⟩
    | j + 2 => .inl ⟨rfl, by simp⟩⟩
theorem ty_54 : TY Try.prog 54 false 1 := ⟨⟨_, rfl, rfl⟩, _, rfl, rfl⟩
theorem tz_56 : TZero Try.prog 56 [.snil, .snil, .snil, .int .i64 0] := ⟨_, _, rfl, rfl, rfl⟩
theorem fl_56_0 : TField Try.prog 56 0 0 true 2 := ⟨_, _, rfl, rfl, rfl, ty_29, by decide⟩
theorem fl_56_1 : TField Try.prog 56 1 2 false 1 := ⟨_, _, rfl, rfl, rfl, ty_22, by decide⟩
theorem fl_56_2 : TField Try.prog 56 2 3 false 1 := ⟨_, _, rfl, rfl, rfl, ty_3, by decide⟩
theorem pl_56 : TPlaces Try.prog 56 (lookupL [(0, 2), (2, 1), (3, 1)]) := .inl ⟨_, rfl, fun j => match j with
    | 0 => .inr ⟨_, _, rfl, ts_29, rfl⟩
    | 1 => .inr ⟨_, _, rfl, ts_22, rfl⟩
    | 2 => .inr ⟨_, _, rfl, ts_3, rfl⟩
    | j + 3 => .inl ⟨rfl, by simp⟩⟩
theorem ty_61 : TY Try.prog 61 true 4 := ⟨⟨_, rfl, rfl⟩, _, rfl, rfl⟩
theorem ts_61 : TSize Try.prog 61 4 := ty_61.size
theorem tz_61 : TZero Try.prog 61 [.int .i64 0, .int .i64 0, .int .i64 0, .int .i64 0] := ⟨_, _, rfl, rfl, rfl⟩
theorem fl_61_0 : TField Try.prog 61 0 0 false 1 := ⟨_, _, rfl, rfl, rfl, ty_3, by decide⟩
theorem fl_61_1 : TField Try.prog 61 1 1 false 1 := ⟨_, _, rfl, rfl, rfl, ty_3, by decide⟩
theorem fl_61_2 : TField Try.prog 61 2 2 false 1 := ⟨_, _, rfl, rfl, rfl, ty_3, by decide⟩
theorem fl_61_3 : TField Try.prog 61 3 3 false 1 := ⟨_, _, rfl, rfl, rfl, ty_3, by decide⟩
theorem pl_61 : TPlaces Try.prog 61 (lookupL [(0, 1), (1, 1), (2, 1), (3, 1)]) := .inl ⟨_, rfl, fun j => match j with
    | 0 => .inr ⟨_, _, rfl, ts_3, rfl⟩
    | 1 => .inr ⟨_, _, rfl, ts_3, rfl⟩
    | 2 => .inr ⟨_, _, rfl, ts_3, rfl⟩
    | 3 => .inr ⟨_, _, rfl, ts_3, rfl⟩
    | j + 4 => .inl ⟨rfl, by simp⟩⟩
theorem tz_62 : TZero Try.prog 62 [.int .i64 0, .int .i64 0, .int .i64 0, .int .i64 0, .int .i64 0, .int .i64 0, .int .i64 0, .int .i64 0, .int .i64 0, .int .i64 0, .int .i64 0, .int .i64 0] := ⟨_, _, rfl, rfl, rfl⟩
theorem ar_62 : TArr Try.prog 62 3 true 4 := ⟨_, rfl, ty_61⟩
theorem pl_62 : TPlaces Try.prog 62 (fun i => some (i * 4, 4)) := .inr ⟨_, _, _, rfl, ts_61, fun _ => rfl⟩
theorem ty_70 : TY Try.prog 70 true 3 := ⟨⟨_, rfl, rfl⟩, _, rfl, rfl⟩
theorem ts_70 : TSize Try.prog 70 3 := ty_70.size
theorem tz_70 : TZero Try.prog 70 [.int .i64 0, .int .i64 0, .int .i64 0] := ⟨_, _, rfl, rfl, rfl⟩
theorem ar_70 : TArr Try.prog 70 3 false 1 := ⟨_, rfl, ty_3⟩
theorem pl_70 : TPlaces Try.prog 70 (fun i => some (i * 1, 1)) := .inr ⟨_, _, _, rfl, ts_3, fun _ => rfl⟩
theorem u_84 : Try.prog.underlying 84 = some (.int .u64) := rfl
theorem ty_84 : TY Try.prog 84 false 1 := ⟨⟨_, rfl, rfl⟩, _, rfl, rfl⟩
theorem ts_84 : TSize Try.prog 84 1 := ty_84.size
theorem ty_86 : TY Try.prog 86 true 2 := ⟨⟨_, rfl, rfl⟩, _, rfl, rfl⟩
theorem ts_86 : TSize Try.prog 86 2 := ty_86.size
theorem tz_86 : TZero Try.prog 86 [.int .i64 0, .int .u64 0] := ⟨_, _, rfl, rfl, rfl⟩
theorem fl_86_0 : TField Try.prog 86 0 0 false 1 := ⟨_, _, rfl, rfl, rfl, ty_2, by decide⟩
theorem fl_86_1 : TField Try.prog 86 1 1 false 1 := ⟨_, _, rfl, rfl, rfl, ty_84, by decide⟩
theorem pl_86 : TPlaces Try.prog 86 (lookupL [(0, 1), (1, 1)]) := .inl ⟨_, rfl, fun j => match j with
    | 0 => .inr ⟨_, _, rfl, ts_2, rfl⟩
    | 1 => .inr ⟨_, _, rfl, ts_84, rfl⟩
    | j + 2 => .inl ⟨rfl, by simp⟩⟩
theorem ty_99 : TY Try.prog 99 true 18 := ⟨⟨_, rfl, rfl⟩, _, rfl, rfl⟩
theorem ts_99 : TSize Try.prog 99 18 := ty_99.size
theorem tz_99 : TZero Try.prog 99 [.int .i64 0, .int .i64 0, .int .i64 0, .int .i64 0, .int .i64 0, .int .i64 0, .int .i64 0, .int .i64 0, .int .i64 0, .int .i64 0, .int .i64 0, .int .i64 0, .int .i64 0, .int .i64 0, .int .i64 0, .int .i64 0, .int .i64 0, .int .i64 0] := ⟨_, _, rfl, rfl, rfl⟩
theorem ar_99 : TArr Try.prog 99 18 false 1 := ⟨_, rfl, ty_3⟩
theorem pl_99 : TPlaces Try.prog 99 (fun i => some (i * 1, 1)) := .inr ⟨_, _, _, rfl, ts_3, fun _ => rfl⟩
theorem ty_101 : TY Try.prog 101 true 19 := ⟨⟨_, rfl, rfl⟩, _, rfl, rfl⟩
theorem ts_101 : TSize Try.prog 101 19 := ty_101.size
theorem tz_101 : TZero Try.prog 101 [.bool false, .int .i64 0, .int .i64 0, .int .i64 0, .int .i64 0, .int .i64 0, .int .i64 0, .int .i64 0, .int .i64 0, .int .i64 0, .int .i64 0, .int .i64 0, .int .i64 0, .int .i64 0, .int .i64 0, .int .i64 0, .int .i64 0, .int .i64 0, .int .i64 0] := ⟨_, _, rfl, rfl, rfl⟩
theorem fl_101_0 : TField Try.prog 101 0 0 false 1 := ⟨_, _, rfl, rfl, rfl, ty_4, by decide⟩
theorem fl_101_1 : TField Try.prog 101 1 1 true 18 := ⟨_, _, rfl, rfl, rfl, ty_99, by decide⟩
theorem pl_101 : TPlaces Try.prog 101 (lookupL [(0, 1), (1, 18)]) := .inl ⟨_, rfl, fun j => match j with
    | 0 => .inr ⟨_, _, rfl, ts_4, rfl⟩
    | 1 => .inr ⟨_, _, rfl, ts_99, rfl⟩
    | j + 2 => .inl ⟨rfl, by simp⟩⟩
theorem tf_8 : TFun Try.prog 8 := ⟨_, rfl, rfl, rfl⟩
theorem tf_9 : TFun Try.prog 9 := ⟨_, rfl, rfl, rfl⟩
theorem tf_10 : TFun Try.prog 10 := ⟨_, rfl, rfl, rfl⟩
theorem tf_11 : TFun Try.prog 11 := ⟨_, rfl, rfl, rfl⟩
theorem tf_12 : TFun Try.prog 12 := ⟨_, rfl, rfl, rfl⟩
theorem tf_13 : TFun Try.prog 13 := ⟨_, rfl, rfl, rfl⟩
theorem tf_14 : TFun Try.prog 14 := ⟨_, rfl, rfl, rfl⟩
theorem tf_15 : TFun Try.prog 15 := ⟨_, rfl, rfl, rfl⟩
theorem tf_16 : TFun Try.prog 16 := ⟨_, rfl, rfl, rfl⟩
theorem tf_17 : TFun Try.prog 17 := ⟨_, rfl, rfl, rfl⟩
theorem tf_18 : TFun Try.prog 18 := ⟨_, rfl, rfl, rfl⟩
theorem tf_19 : TFun Try.prog 19 := ⟨_, rfl, rfl, rfl⟩
theorem tf_20 : TFun Try.prog 20 := ⟨_, rfl, rfl, rfl⟩
theorem tf_21 : TFun Try.prog 21 := ⟨_, rfl, rfl, rfl⟩
theorem tf_22 : TFun Try.prog 22 := ⟨_, rfl, rfl, rfl⟩
theorem tf_23 : TFun Try.prog 23 := ⟨_, rfl, rfl, rfl⟩
theorem tf_24 : TFun Try.prog 24 := ⟨_, rfl, rfl, rfl⟩
theorem tf_25 : TFun Try.prog 25 := ⟨_, rfl, rfl, rfl⟩
theorem tf_26 : TFun Try.prog 26 := ⟨_, rfl, rfl, rfl⟩
theorem tf_27 : TFun Try.prog 27 := ⟨_, rfl, rfl, rfl⟩
theorem tf_28 : TFun Try.prog 28 := ⟨_, rfl, rfl, rfl⟩
theorem tf_29 : TFun Try.prog 29 := ⟨_, rfl, rfl, rfl⟩
theorem tf_30 : TFun Try.prog 30 := ⟨_, rfl, rfl, rfl⟩
theorem tf_31 : TFun Try.prog 31 := ⟨_, rfl, rfl, rfl⟩
theorem tf_32 : TFun Try.prog 32 := ⟨_, rfl, rfl, rfl⟩
theorem tf_33 : TFun Try.prog 33 := ⟨_, rfl, rfl, rfl⟩
theorem tf_34 : TFun Try.prog 34 := ⟨_, rfl, rfl, rfl⟩
theorem tf_35 : TFun Try.prog 35 := ⟨_, rfl, rfl, rfl⟩
theorem tf_36 : TFun Try.prog 36 := ⟨_, rfl, rfl, rfl⟩
theorem tf_37 : TFun Try.prog 37 := ⟨_, rfl, rfl, rfl⟩
theorem tf_38 : TFun Try.prog 38 := ⟨_, rfl, rfl, rfl⟩
theorem tf_39 : TFun Try.prog 39 := ⟨_, rfl, rfl, rfl⟩
theorem tf_40 : TFun Try.prog 40 := ⟨_, rfl, rfl, rfl⟩
theorem tf_41 : TFun Try.prog 41 := ⟨_, rfl, rfl, rfl⟩
theorem tf_44 : TFun Try.prog 44 := ⟨_, rfl, rfl, rfl⟩
theorem tf_45 : TFun Try.prog 45 := ⟨_, rfl, rfl, rfl⟩
theorem tf_46 : TFun Try.prog 46 := ⟨_, rfl, rfl, rfl⟩
theorem tf_47 : TFun Try.prog 47 := ⟨_, rfl, rfl, rfl⟩
theorem tf_48 : TFun Try.prog 48 := ⟨_, rfl, rfl, rfl⟩
theorem tf_49 : TFun Try.prog 49 := ⟨_, rfl, rfl, rfl⟩
theorem tf_60 : TFun Try.prog 60 := ⟨_, rfl, rfl, rfl⟩
theorem tf_61 : TFun Try.prog 61 := ⟨_, rfl, rfl, rfl⟩
theorem tf_62 : TFun Try.prog 62 := ⟨_, rfl, rfl, rfl⟩
theorem tf_63 : TFun Try.prog 63 := ⟨_, rfl, rfl, rfl⟩
theorem tf_64 : TFun Try.prog 64 := ⟨_, rfl, rfl, rfl⟩
theorem tf_65 : TFun Try.prog 65 := ⟨_, rfl, rfl, rfl⟩
theorem tf_66 : TFun Try.prog 66 := ⟨_, rfl, rfl, rfl⟩
theorem tf_72 : TFun Try.prog 72 := ⟨_, rfl, rfl, rfl⟩
theorem tf_73 : TFun Try.prog 73 := ⟨_, rfl, rfl, rfl⟩
theorem tf_74 : TFun Try.prog 74 := ⟨_, rfl, rfl, rfl⟩
theorem tf_75 : TFun Try.prog 75 := ⟨_, rfl, rfl, rfl⟩
theorem tf_76 : TFun Try.prog 76 := ⟨_, rfl, rfl, rfl⟩
theorem mixed : Try.prog.follows .mixedOrders = true := rfl
end Go.Proofs.B
namespace Go.Proofs.B
def joinB (a b : BoxT) : BoxT := ⟨⟨min a.Lo.X b.Lo.X, min a.Lo.Y b.Lo.Y, min a.Lo.Z b.Lo.Z⟩, ⟨max a.Hi.X b.Hi.X, max a.Hi.Y b.Hi.Y, max a.Hi.Z b.Hi.Z⟩⟩
/-- a lies in b. -/
def inB (b a : BoxT) : Prop := b.Lo.X ≤ a.Lo.X ∧ b.Lo.Y ≤ a.Lo.Y ∧ b.Lo.Z ≤ a.Lo.Z ∧ a.Hi.X ≤ b.Hi.X ∧ a.Hi.Y ≤ b.Hi.Y ∧ a.Hi.Z ≤ b.Hi.Z
theorem inB_refl (b : BoxT) : inB b b := by simp [inB]
theorem inB_trans {a b c : BoxT} (h : inB a b) (g : inB b c) : inB a c := by simp only [inB] at *; omega
theorem inB_joinL (a b : BoxT) : inB (joinB a b) a := by simp only [inB, joinB]; omega
theorem inB_joinR (a b : BoxT) : inB (joinB a b) b := by simp only [inB, joinB]; omega
theorem inB_join {c a b : BoxT} (h : inB c a) (g : inB c b) : inB c (joinB a b) := by simp only [inB, joinB] at *; omega

/-! ### Fractions -/
def lessF (a b : FracT) : Bool := decide (a.N * b.D < b.N * a.D)
def Pos (f : FracT) : Prop := 0 < f.D
def Up (f : FracT) : Prop := 0 ≤ f.D ∧ (f.D = 0 → f.N = 1)
def mxF (lo i : FracT) : FracT := if lessF lo i then i else lo
def mnF (o hi : FracT) : FracT := if lessF o hi then o else hi
theorem max_pos {lo i : FracT} (hl : Pos lo) (hi : Pos i) : Pos (mxF lo i) := by unfold mxF; split <;> assumption
theorem min_up {o hi : FracT} (ho : Up o) (hh : Up hi) : Up (mnF o hi) := by unfold mnF; split <;> assumption
/-! ### A slab -/
def spanR (a d lo hi : Int) : Option (FracT × FracT) :=
  if d < 0 then (if -hi > -lo then none else some (⟨-hi - -a, -d⟩, ⟨-lo - -a, -d⟩))
  else if lo > hi then none
  else if d = 0 then (if a < lo ∨ a > hi then none else some (⟨0, 1⟩, ⟨1, 0⟩))
  else some (⟨lo - a, d⟩, ⟨hi - a, d⟩)
def inSlab (a d lo hi n q : Int) : Prop := lo * q ≤ a * q + d * n ∧ a * q + d * n ≤ hi * q
theorem span_up {a d lo hi : Int} {i o : FracT} (h : spanR a d lo hi = some (i, o)) : Pos i ∧ Up o := by
  unfold spanR at h
  unfold Pos Up
  split at h
  · split at h
    · cases h
    · simp only [Option.some.injEq, Prod.mk.injEq] at h
      obtain ⟨rfl, rfl⟩ := h; simp only; omega
  · split at h
    · cases h
    · split at h
      · split at h
        · cases h
        · simp only [Option.some.injEq, Prod.mk.injEq] at h
          obtain ⟨rfl, rfl⟩ := h; simp
      · simp only [Option.some.injEq, Prod.mk.injEq] at h
        obtain ⟨rfl, rfl⟩ := h; simp only; omega

/-! ### A ray and a box -/
def stepRng (p : PartT) (s : FracT × FracT) : Option (FracT × FracT) :=
  (spanR p.fromF p.step p.lo p.hi).map fun io => (mxF s.1 io.1, mnF io.2 s.2)
def foldRng : List PartT → FracT × FracT → Option (FracT × FracT)
  | [], s => some s
  | p :: ps, s => (stepRng p s).bind (foldRng ps)
def partsR (o d : VT) (b : BoxT) : List PartT := [⟨o.X, d.X, b.Lo.X, b.Hi.X⟩, ⟨o.Y, d.Y, b.Lo.Y, b.Hi.Y⟩, ⟨o.Z, d.Z, b.Lo.Z, b.Hi.Z⟩]
def rangeR (o d : VT) (b : BoxT) : Option (FracT × FracT) :=
  (foldRng (partsR o d b) (⟨0, 1⟩, ⟨1, 0⟩)).bind fun s => if lessF s.2 s.1 then none else some s
def Hit (o d : VT) (b : BoxT) : Prop := ∃ n q, 0 < q ∧ 0 ≤ n ∧ ∀ p ∈ partsR o d b, inSlab p.fromF p.step p.lo p.hi n q
theorem Hit.mono {o d : VT} {a b : BoxT} (h : Hit o d a) (hb : inB b a) : Hit o d b := by
  obtain ⟨n, q, hq, hn, h⟩ := h
  refine ⟨n, q, hq, hn, ?_⟩
  simp only [partsR, List.mem_cons, List.not_mem_nil, or_false, forall_eq_or_imp, forall_eq, inSlab] at h ⊢
  obtain ⟨b1, b2, b3, b4, b5, b6⟩ := hb
  have hq' : 0 ≤ q := by omega
  have := Int.mul_le_mul_of_nonneg_right b1 hq'
  have := Int.mul_le_mul_of_nonneg_right b2 hq'
  have := Int.mul_le_mul_of_nonneg_right b3 hq'
  have := Int.mul_le_mul_of_nonneg_right b4 hq'
  have := Int.mul_le_mul_of_nonneg_right b5 hq'
  have := Int.mul_le_mul_of_nonneg_right b6 hq'
  omega
end Go.Proofs.B
namespace Go.Proofs.B
open Go.AH
def mid (a : Int) (b : BoxT) : Int := if a = 0 then b.Lo.X + b.Hi.X else if a = 1 then b.Lo.Y + b.Hi.Y else b.Lo.Z + b.Hi.Z
def keyLt (bx : List BoxT) (a : Int) (i k : Int) : Bool := decide (mid a (at_ bx i) < mid a (at_ bx k) ∨ (mid a (at_ bx i) = mid a (at_ bx k) ∧ i < k))
def ins (lt : Int → Int → Bool) (x : Int) : List Int → List Int
  | [] => [x]
  | y :: ys => if lt x y then x :: y :: ys else y :: ins lt x ys
def isort (lt : Int → Int → Bool) : List Int → List Int
  | [] => []
  | x :: xs => ins lt x (isort lt xs)
theorem ins_perm (lt : Int → Int → Bool) (x : Int) : ∀ l, (ins lt x l).Perm (x :: l)
  | [] => .refl _
  | y :: ys => by
    unfold ins; split
    · exact .refl _
    · exact ((ins_perm lt x ys).cons y).trans (.swap x y ys)
theorem isort_perm (lt : Int → Int → Bool) : ∀ l, (isort lt l).Perm l
  | [] => .refl _
  | x :: xs => (ins_perm lt x _).trans ((isort_perm lt xs).cons x)
def SortedL (lt : Int → Int → Bool) (l : List Int) : Prop := l.Pairwise fun x y => lt y x = false
/-- A strict order that parts whatever two are not one. -/
structure TotL (lt : Int → Int → Bool) : Prop where
  tot : ∀ x y, lt x y = false → lt y x = false → x = y
  asym : ∀ x y, lt x y = true → lt y x = false
  neg : ∀ x y z, lt y x = false → lt z y = false → lt z x = false
theorem ins_sorted {lt : Int → Int → Bool} (h : TotL lt) (x : Int) : ∀ l, SortedL lt l → SortedL lt (ins lt x l)
  | [], _ => by simp [ins, SortedL]
  | y :: ys, hs => by
    unfold SortedL at hs ⊢
    rw [List.pairwise_cons] at hs
    unfold ins; split
    · rename_i hl
      refine List.pairwise_cons.2 ⟨fun z hz => ?_, List.pairwise_cons.2 hs⟩
      rcases List.mem_cons.1 hz with rfl | hz
      · exact h.asym _ _ hl
      · exact h.neg _ _ _ (h.asym _ _ hl) (hs.1 z hz)
    · rename_i hl
      refine List.pairwise_cons.2 ⟨fun z hz => ?_, ins_sorted h x ys hs.2⟩
      rcases List.mem_cons.1 ((ins_perm lt x ys).mem_iff.1 hz) with rfl | hz
      · simpa using hl
      · exact hs.1 z hz
theorem isort_sorted {lt : Int → Int → Bool} (h : TotL lt) : ∀ l, SortedL lt (isort lt l)
  | [] => .nil
  | x :: xs => ins_sorted h x _ (isort_sorted h xs)
theorem sorted_unique {lt : Int → Int → Bool} (h : TotL lt) : ∀ {l m : List Int}, l.Perm m → SortedL lt l → SortedL lt m → l = m
  | [], m, hp, _, _ => (List.nil_perm.1 hp).symm
  | x :: xs, [], hp, _, _ => by have := hp.length_eq; simp at this
  | x :: xs, y :: ys, hp, h1, h2 => by
    unfold SortedL at h1 h2
    rw [List.pairwise_cons] at h1 h2
    have hx : x = y := by
      have a1 : x ∈ y :: ys := hp.mem_iff.1 List.mem_cons_self
      have a2 : y ∈ x :: xs := hp.mem_iff.2 List.mem_cons_self
      rcases List.mem_cons.1 a1 with e | e
      · exact e
      · rcases List.mem_cons.1 a2 with e2 | e2
        · exact e2.symm
        · exact h.tot _ _ (h2.1 _ e) (h1.1 _ e2)
    subst hx
    rw [sorted_unique h (List.Perm.cons_inv hp) h1.2 h2.2]
theorem keyLt_tot (bx : List BoxT) (a : Int) : TotL (keyLt bx a) where
  tot := fun x y h1 h2 => by simp only [keyLt, decide_eq_false_iff_not] at h1 h2; omega
  asym := fun x y h1 => by simp only [keyLt, decide_eq_false_iff_not, decide_eq_true_eq] at *; omega
  neg := fun x y z h1 h2 => by simp only [keyLt, decide_eq_false_iff_not] at *; omega

/-! ### The axis -/
def maxL : List Int → Int
  | [] => 0
  | x :: xs => xs.foldl max x
def minL : List Int → Int
  | [] => 0
  | x :: xs => xs.foldl min x
def spread (bx : List BoxT) (its : List Int) (a : Int) : Int := maxL (its.map fun k => mid a (at_ bx k)) - minL (its.map fun k => mid a (at_ bx k))
def axStep (bx : List BoxT) (its : List Int) (s : Int × Int) (a : Int) : Int × Int := if spread bx its a > s.2 then (a, spread bx its a) else s
def axFrom (bx : List BoxT) (its : List Int) (i : Int) (s : Int × Int) : Int × Int := if i = 0 then axStep bx its (axStep bx its (axStep bx its s 0) 1) 2 else if i = 1 then axStep bx its (axStep bx its s 1) 2 else if i = 2 then axStep bx its s 2 else s
def axisR (bx : List BoxT) (its : List Int) : Int := (axFrom bx its 0 (0, -1)).1
theorem axisR_rng (bx : List BoxT) (its : List Int) : 0 ≤ axisR bx its ∧ axisR bx its ≤ 2 := by
  unfold axisR axFrom axStep
  simp only [if_true]
  repeat' split
  all_goals simp

/-! ### The tree -/
inductive BT where
  | leaf (b : BoxT) (its : List Int)
  | node (b : BoxT) (l r : BT)
def BT.box : BT → BoxT
  | .leaf b _ => b
  | .node b _ _ => b
def BT.size : BT → Nat
  | .leaf _ _ => 1
  | .node _ l r => 1 + l.size + r.size
def BT.items : BT → List Int
  | .leaf _ its => its
  | .node _ l r => l.items ++ r.items
def flatN : BT → Int → Int → List NodeT
  | .leaf b its, _, q => [⟨b, 0, 0, q, its.length⟩]
  | .node b l r, p, q => ⟨b, p + 1, p + 1 + l.size, 0, 0⟩ :: (flatN l (p + 1) q ++ flatN r (p + 1 + l.size) (q + l.items.length))
theorem flatN_len : ∀ (t : BT) (p q : Int), (flatN t p q).length = t.size
  | .leaf _ _, _, _ => rfl
  | .node _ l r, p, q => by simp [flatN, flatN_len l, flatN_len r, BT.size]; omega
theorem BT.pos : ∀ t : BT, 0 < t.size
  | .leaf _ _ => Nat.one_pos
  | .node _ _ _ => by simp [BT.size]; omega
def hullFrom (bx : List BoxT) (b : BoxT) (its : List Int) : BoxT := its.foldl (fun b k => joinB b (at_ bx k)) b
def hull (bx : List BoxT) (its : List Int) : BoxT := hullFrom bx (at_ bx (at_ its 0)) its
def growT (bx : List BoxT) (leaf : Int) : Nat → List Int → BT
  | 0, its => .leaf (hull bx its) its
  | f + 1, its => if (its.length : Int) ≤ leaf then .leaf (hull bx its) its else
    .node (hull bx its) (growT bx leaf f ((isort (keyLt bx (axisR bx its)) its).take ((its.length + 1) / 2))) (growT bx leaf f ((isort (keyLt bx (axisR bx its)) its).drop ((its.length + 1) / 2)))
theorem isort_len (lt : Int → Int → Bool) (l : List Int) : (isort lt l).length = l.length := (isort_perm lt l).length_eq
theorem growT_fuel (bx : List BoxT) (leaf : Int) (hl : 1 ≤ leaf) : ∀ (f g : Nat) (its : List Int), its.length ≤ 2 ^ f → its.length ≤ 2 ^ g → growT bx leaf f its = growT bx leaf g its
  | 0, 0, its, _, _ => rfl
  | 0, g + 1, its, h, _ => by simp only [growT]; rw [if_pos (by simp at h; omega)]
  | f + 1, 0, its, _, h => by simp only [growT]; rw [if_pos (by simp at h; omega)]
  | f + 1, g + 1, its, h1, h2 => by
    simp only [growT]
    split
    · rfl
    · rw [Nat.pow_succ] at h1 h2
      rw [growT_fuel bx leaf hl f g _ (by simp only [List.length_take, isort_len]; omega) (by simp only [List.length_take, isort_len]; omega)]
      rw [growT_fuel bx leaf hl f g _ (by simp only [List.length_drop, isort_len]; omega) (by simp only [List.length_drop, isort_len]; omega)]
theorem growT_items (bx : List BoxT) (leaf : Int) : ∀ (f : Nat) (its : List Int), (growT bx leaf f its).items.Perm its
  | 0, its => .refl _
  | f + 1, its => by
    simp only [growT]
    split
    · exact .refl _
    · refine ((growT_items bx leaf f _).append (growT_items bx leaf f _)).trans ?_
      rw [List.take_append_drop]; exact isort_perm _ _
theorem growT_box (bx : List BoxT) (leaf : Int) : ∀ (f : Nat) (its : List Int), (growT bx leaf f its).box = hull bx its
  | 0, its => rfl
  | f + 1, its => by simp only [growT]; split <;> rfl

theorem hullFrom_has (bx : List BoxT) : ∀ (its : List Int) (b : BoxT), inB (hullFrom bx b its) b ∧ ∀ k ∈ its, inB (hullFrom bx b its) (at_ bx k)
  | [], b => ⟨inB_refl _, fun _ h => by cases h⟩
  | x :: xs, b => by
    obtain ⟨h1, h2⟩ := hullFrom_has bx xs (joinB b (at_ bx x))
    refine ⟨inB_trans h1 (inB_joinL _ _), fun k hk => ?_⟩
    rcases List.mem_cons.1 hk with rfl | hk
    · exact inB_trans h1 (inB_joinR _ _)
    · exact h2 k hk
theorem hullFrom_le (bx : List BoxT) {c : BoxT} : ∀ (its : List Int) (b : BoxT), inB c b → (∀ k ∈ its, inB c (at_ bx k)) → inB c (hullFrom bx b its)
  | [], _, h, _ => h
  | x :: xs, b, h, hk => hullFrom_le bx xs _ (inB_join h (hk x List.mem_cons_self)) fun k h' => hk k (List.mem_cons_of_mem _ h')
theorem at_zero_mem {its : List Int} (h : its ≠ []) : at_ its 0 ∈ its := by
  cases its with
  | nil => exact absurd rfl h
  | cons x xs => simp [at_]
theorem hull_has (bx : List BoxT) (its : List Int) {k : Int} (hk : k ∈ its) : inB (hull bx its) (at_ bx k) := (hullFrom_has bx its _).2 k hk
theorem hull_le (bx : List BoxT) {c : BoxT} {its : List Int} (hne : its ≠ []) (hk : ∀ k ∈ its, inB c (at_ bx k)) : inB c (hull bx its) := hullFrom_le bx its _ (hk _ (at_zero_mem hne)) hk
/-- What is true at each place of a tree. -/
def BT.WF (bx : List BoxT) (leaf : Int) : BT → Prop
  | .leaf b its => its ≠ [] ∧ (its.length : Int) ≤ leaf ∧ b = hull bx its
  | .node b l r => l.WF bx leaf ∧ r.WF bx leaf ∧ inB b l.box ∧ inB b r.box
theorem growT_wf (bx : List BoxT) (leaf : Int) (hl : 1 ≤ leaf) : ∀ (f : Nat) (its : List Int), its ≠ [] → its.length ≤ 2 ^ f → (growT bx leaf f its).WF bx leaf
  | 0, its, hne, h => by simp at h; exact ⟨hne, by omega, rfl⟩
  | f + 1, its, hne, h => by
    simp only [growT]
    split
    · exact ⟨hne, by assumption, rfl⟩
    · rename_i hlen
      rw [Nat.pow_succ] at h
      have hp := isort_perm (keyLt bx (axisR bx its)) its
      have hsl := isort_len (keyLt bx (axisR bx its)) its
      have n1 : (isort (keyLt bx (axisR bx its)) its).take ((its.length + 1) / 2) ≠ [] := fun e => by have := congrArg List.length e; simp only [List.length_take, hsl, List.length_nil] at this; omega
      have n2 : (isort (keyLt bx (axisR bx its)) its).drop ((its.length + 1) / 2) ≠ [] := fun e => by have := congrArg List.length e; simp only [List.length_drop, hsl, List.length_nil] at this; omega
      refine ⟨growT_wf bx leaf hl f _ n1 (by simp only [List.length_take, hsl]; omega), growT_wf bx leaf hl f _ n2 (by simp only [List.length_drop, hsl]; omega), ?_, ?_⟩
      · rw [growT_box]; exact hull_le bx n1 fun k hk => hull_has bx its (hp.mem_iff.1 (List.mem_of_mem_take hk))
      · rw [growT_box]; exact hull_le bx n2 fun k hk => hull_has bx its (hp.mem_iff.1 (List.mem_of_mem_drop hk))
/-! ### What a ray comes to -/
def touchT (hit : BoxT → Bool) : BT → List Int
  | .leaf b its => if hit b then its else []
  | .node b l r => if hit b then touchT hit l ++ touchT hit r else []
theorem touchT_sub (hit : BoxT → Bool) : ∀ t : BT, (touchT hit t).Sublist t.items
  | .leaf b its => by unfold touchT; split; exact .refl _; exact List.nil_sublist _
  | .node b l r => by
    unfold touchT; split
    · exact (touchT_sub hit l).append (touchT_sub hit r)
    · exact List.nil_sublist _
/-! ### Where a tree lies -/
def Placed (N : List NodeT) (I : List Int) : BT → Int → Int → Prop
  | .leaf b its, p, q => (0 ≤ p ∧ p < N.length) ∧ at_ N p = ⟨b, 0, 0, q, its.length⟩ ∧ 0 ≤ q ∧ q + its.length ≤ I.length ∧ (I.drop q.toNat).take its.length = its
  | .node b l r, p, q => (0 ≤ p ∧ p < N.length) ∧ at_ N p = ⟨b, p + 1, p + 1 + l.size, 0, 0⟩ ∧ Placed N I l (p + 1) q ∧ Placed N I r (p + 1 + l.size) (q + l.items.length)
theorem placed_at {N : List NodeT} {I : List Int} : ∀ {t : BT} {p q : Int}, Placed N I t p q → (0 ≤ p ∧ p < N.length) ∧ (at_ N p).Box = t.box
  | .leaf b its, p, q, h => ⟨h.1, by rw [h.2.1]; rfl⟩
  | .node b l r, p, q, h => ⟨h.1, by rw [h.2.1]; rfl⟩
theorem at_mid {α : Type} [Inhabited α] (a : List α) (x : α) (b : List α) {p : Int} (hp : p = a.length) : at_ (a ++ x :: b) p = x := by
  subst hp; simp [at_]
theorem placed_flat : ∀ (t : BT) (A B : List NodeT) (C D : List Int) (p q : Int), p = A.length → q = C.length → Placed (A ++ flatN t p q ++ B) (C ++ t.items ++ D) t p q
  | .leaf b its, A, B, C, D, p, q, hp, hq => by
    refine ⟨by simp [flatN]; omega, ?_, by omega, by simp [BT.items]; omega, ?_⟩
    · simp only [flatN, List.append_assoc]; exact at_mid A _ _ hp
    · subst hq; simp [BT.items]
  | .node b l r, A, B, C, D, p, q, hp, hq => by
    refine ⟨by simp [flatN]; omega, ?_, ?_, ?_⟩
    · simp only [flatN, List.append_assoc, List.cons_append]; exact at_mid A _ _ hp
    · have := placed_flat l (A ++ [⟨b, p + 1, p + 1 + l.size, 0, 0⟩]) (flatN r (p + 1 + l.size) (q + l.items.length) ++ B) C (r.items ++ D) (p + 1) q (by simp; omega) hq
      simpa [flatN, BT.items, List.append_assoc] using this
    · have := placed_flat r (A ++ ⟨b, p + 1, p + 1 + l.size, 0, 0⟩ :: flatN l (p + 1) q) B (C ++ l.items) D (p + 1 + l.size) (q + l.items.length) (by simp [flatN_len]; omega) (by simp; omega)
      simpa [flatN, BT.items, List.append_assoc] using this
end Go.Proofs.B
namespace Go.Proofs.B
open Go.AH
def iota (n : Nat) : List Int := (List.range n).map Int.ofNat
theorem iota_len (n : Nat) : (iota n).length = n := by simp [iota]
theorem mem_iota {n : Nat} {k : Int} : k ∈ iota n ↔ 0 ≤ k ∧ k < n := by
  simp only [iota, List.mem_map, List.mem_range]
  constructor
  · rintro ⟨a, h, rfl⟩; simp only [Int.ofNat_eq_natCast]; omega
  · rintro ⟨h1, h2⟩; exact ⟨k.toNat, by omega, by simp only [Int.ofNat_eq_natCast]; omega⟩
theorem iota_nodup (n : Nat) : (iota n).Nodup := by
  unfold iota
  refine List.Pairwise.map _ (fun a b h => ?_) List.nodup_range
  simp only [Int.ofNat_eq_natCast]; omega
theorem iota_snoc (n : Nat) : iota (n + 1) = iota n ++ [(n : Int)] := by simp [iota, List.range_succ]
def inSp (m : Int) (v : VT) : Prop := -m ≤ v.X ∧ v.X ≤ m ∧ -m ≤ v.Y ∧ v.Y ≤ m ∧ -m ≤ v.Z ∧ v.Z ≤ m
instance (m : Int) (v : VT) : Decidable (inSp m v) := by unfold inSp; infer_instance
def okBox (b : BoxT) : Prop := inSp 131072 b.Lo ∧ inSp 131072 b.Hi
instance (b : BoxT) : Decidable (okBox b) := by unfold okBox; infer_instance
theorem okBox_join {a b : BoxT} (h : okBox a) (g : okBox b) : okBox (joinB a b) := by simp only [okBox, inSp, joinB] at *; omega
def farB (b : BoxT) : Bool := decide (¬ okBox b)
def rootT (bx : List BoxT) (leaf : Int) : BT := growT bx leaf bx.length (iota bx.length)
def buildR (bx : List BoxT) (leaf : Int) : TreeT × Int :=
  if leaf < 1 then (⟨[], []⟩, 20) else if bx.any farB = true then (⟨[], []⟩, 21) else if bx.length = 0 then (⟨[], []⟩, 0)
  else (⟨flatN (rootT bx leaf) 0 0, (rootT bx leaf).items⟩, 0)
theorem buildR_ok {bx : List BoxT} {leaf : Int} (h : (buildR bx leaf).2 = 0) : 1 ≤ leaf ∧ (∀ b ∈ bx, okBox b) ∧ ((bx = [] ∧ (buildR bx leaf).1 = ⟨[], []⟩) ∨ (bx ≠ [] ∧ (buildR bx leaf).1 = ⟨flatN (rootT bx leaf) 0 0, (rootT bx leaf).items⟩)) := by
  unfold buildR at h ⊢
  split
  · rename_i h1; rw [if_pos h1] at h; cases h
  · rename_i h1; rw [if_neg h1] at h
    split
    · rename_i h2; rw [if_pos h2] at h; cases h
    · rename_i h2
      refine ⟨by omega, fun b hb => ?_, ?_⟩
      · simp only [List.any_eq_true, not_exists, not_and, farB, decide_eq_true_eq, Classical.not_not] at h2; exact h2 b hb
      · split
        · rename_i h3; exact .inl ⟨List.eq_nil_of_length_eq_zero h3, rfl⟩
        · rename_i h3; exact .inr ⟨fun e => h3 (by rw [e]; rfl), rfl⟩
theorem buildR_bad {bx : List BoxT} {leaf : Int} (h : (buildR bx leaf).2 ≠ 0) : (buildR bx leaf).1 = ⟨[], []⟩ := by
  unfold buildR at h ⊢
  split
  · rfl
  · rename_i h1; rw [if_neg h1] at h
    split
    · rfl
    · rename_i h2; rw [if_neg h2] at h
      split
      · rfl
      · rename_i h3; rw [if_neg h3] at h; exact absurd rfl h
/-- The tree in plain words, empty too. -/
theorem two_pow_ge : ∀ n : Nat, n ≤ 2 ^ n := fun n => Nat.le_of_lt Nat.lt_two_pow_self
theorem root_wf {bx : List BoxT} {leaf : Int} (hl : 1 ≤ leaf) (hne : bx ≠ []) : (rootT bx leaf).WF bx leaf :=
  growT_wf bx leaf hl _ _ (fun e => hne (by have := congrArg List.length e; rw [iota_len] at this; exact List.eq_nil_of_length_eq_zero this)) (by rw [iota_len]; exact two_pow_ge _)
theorem root_items (bx : List BoxT) (leaf : Int) : (rootT bx leaf).items.Perm (iota bx.length) := growT_items _ _ _ _
theorem root_placed (bx : List BoxT) (leaf : Int) : Placed (flatN (rootT bx leaf) 0 0) (rootT bx leaf).items (rootT bx leaf) 0 0 := by
  have := placed_flat (rootT bx leaf) [] [] [] [] 0 0 rfl rfl
  simpa using this
def NodeOK (bx : List BoxT) (leaf : Int) (N : List NodeT) (I : List Int) (i : Int) : Prop :=
  0 ≤ (at_ N i).Count ∧ (at_ N i).Count ≤ leaf ∧ 0 ≤ (at_ N i).First ∧ (at_ N i).First + (at_ N i).Count ≤ I.length ∧
  (∀ k, (at_ N i).First ≤ k → k < (at_ N i).First + (at_ N i).Count → inB (at_ N i).Box (at_ bx (at_ I k))) ∧
  ((at_ N i).Count = 0 → (at_ N i).Left = i + 1 ∧ (at_ N i).Left < (at_ N i).Right ∧ (at_ N i).Right < N.length ∧ inB (at_ N i).Box (at_ N (at_ N i).Left).Box ∧ inB (at_ N i).Box (at_ N (at_ N i).Right).Box)
theorem at_mem_of {its I : List Int} {q k : Int} (hq : 0 ≤ q) (h : (I.drop q.toNat).take its.length = its) (h1 : q ≤ k) (h2 : k < q + its.length) : at_ I k ∈ its := by
  have e : its[k.toNat - q.toNat]? = I[k.toNat]? := by
    rw [← h, List.getElem?_take, if_pos (by omega), List.getElem?_drop]; congr 1; omega
  have hl : k.toNat - q.toNat < its.length := by omega
  rw [List.getElem?_eq_getElem hl] at e
  unfold at_; rw [List.getD_eq_getElem?_getD, ← e]; exact List.getElem_mem hl
theorem node_ok {bx : List BoxT} {leaf : Int} (hl : 1 ≤ leaf) {N : List NodeT} {I : List Int} : ∀ {t : BT} {p q : Int}, Placed N I t p q → 0 ≤ q → t.WF bx leaf → ∀ i, p ≤ i → i < p + t.size → NodeOK bx leaf N I i
  | .leaf b its, p, q, hp, hq, hw, i, h1, h2 => by
    have : i = p := by simp [BT.size] at h2; omega
    subst this
    obtain ⟨g1, g2, g3, g4, g5⟩ := hp
    obtain ⟨w1, w2, w3⟩ := hw
    have hpos : 0 < its.length := List.length_pos_iff.2 w1
    unfold NodeOK; rw [g2]
    refine ⟨by simp only; omega, w2, g3, g4, fun k k1 k2 => ?_, fun h => by simp at h; exact absurd h w1⟩
    simp only at k1 k2 ⊢
    rw [w3]; exact hull_has bx its (at_mem_of g3 g5 k1 k2)
  | .node b l r, p, q, hp, hq, hw, i, h1, h2 => by
    obtain ⟨g1, g2, g3, g4⟩ := hp
    obtain ⟨w1, w2, w3, w4⟩ := hw
    simp only [BT.size] at h2
    by_cases hi : i = p
    · subst hi
      unfold NodeOK
      have pl := placed_at g3; have pr := placed_at g4
      have := l.pos
      rw [g2]; simp only
      exact ⟨by omega, by omega, by omega, by omega, fun k k1 k2 => by omega, fun _ => ⟨trivial, by omega, by omega, by rw [pl.2]; exact w3, by rw [pr.2]; exact w4⟩⟩
    · by_cases hi2 : i < p + 1 + l.size
      · exact node_ok hl g3 hq w1 i (by omega) (by omega)
      · exact node_ok hl g4 (by omega) w2 i (by omega) (by omega)
def sumC : List NodeT → Int
  | [] => 0
  | x :: xs => x.Count + sumC xs
theorem sumC_app : ∀ a b : List NodeT, sumC (a ++ b) = sumC a + sumC b
  | [], b => by simp [sumC]
  | x :: xs, b => by simp [sumC, sumC_app xs b]; omega
theorem sumC_flat : ∀ (t : BT) (p q : Int), sumC (flatN t p q) = t.items.length
  | .leaf b its, p, q => by simp [flatN, sumC, BT.items]
  | .node b l r, p, q => by simp [flatN, sumC, sumC_app, sumC_flat l, sumC_flat r, BT.items]
theorem take_snoc {α : Type} [Inhabited α] {l : List α} {i : Int} (h0 : 0 ≤ i) (h1 : i < l.length) : l.take (i + 1).toNat = l.take i.toNat ++ [at_ l i] := by
  have h : i.toNat < l.length := by omega
  have e : (i + 1).toNat = i.toNat + 1 := by omega
  rw [e, List.take_add_one, List.getElem?_eq_getElem h]; simp [at_, h]
/-! ### Marks -/
theorem at_mem_l {α : Type} [Inhabited α] {l : List α} {i : Int} (h0 : 0 ≤ i) (h1 : i < l.length) : at_ l i ∈ l := by
  have h : i.toNat < l.length := by omega
  simp [at_, h]
end Go.Proofs.B
namespace Go.Proofs
open Go.Shelf
def Try.sortI_ren : Go.Shelf.Ren := ⟨fun | 6 => 29 | 15 => 43 | 14 => 42 | 28 => 58 | 29 => 59 | 20 => 50 | 21 => 51 | 22 => 52 | 23 => 53 | 24 => 54 | 25 => 55 | 26 => 56 | 27 => 57 | 46 => 67 | 47 => 68 | 48 => 69 | 49 => 70 | 50 => 71 | 57 => 77 | n => n, fun | 22 => 27 | 24 => 3 | 25 => 69 | 3 => 3 | 39 => 79 | 0 => 0 | 53 => 96 | 55 => 84 | 4 => 4 | 46 => 90 | 45 => 89 | 50 => 75 | 5 => 5 | 9 => 9 | 66 => 108 | 70 => 112 | 76 => 119 | 77 => 120 | n => n, fun | n => n⟩
theorem Try.sortI : Go.Proofs.SlLaysF.n6 Try.prog Try.sortI_ren := {
  mixed := by kernel_rfl
  f6 := ⟨Try.f29.name, by decide, Try.func29.trans (congrArg some (by kernel_rfl))⟩
  f14 := ⟨Try.f42.name, by decide, Try.func42.trans (congrArg some (by kernel_rfl))⟩
  f15 := Try.func43.trans (congrArg some (by kernel_rfl))
  f20 := ⟨Try.f50.name, by decide, Try.func50.trans (congrArg some (by kernel_rfl))⟩
  f21 := ⟨Try.f51.name, by decide, Try.func51.trans (congrArg some (by kernel_rfl))⟩
  f22 := ⟨Try.f52.name, by decide, Try.func52.trans (congrArg some (by kernel_rfl))⟩
  f23 := ⟨Try.f53.name, by decide, Try.func53.trans (congrArg some (by kernel_rfl))⟩
  f24 := ⟨Try.f54.name, by decide, Try.func54.trans (congrArg some (by kernel_rfl))⟩
  f25 := ⟨Try.f55.name, by decide, Try.func55.trans (congrArg some (by kernel_rfl))⟩
  f26 := ⟨Try.f56.name, by decide, Try.func56.trans (congrArg some (by kernel_rfl))⟩
  f27 := ⟨Try.f57.name, by decide, Try.func57.trans (congrArg some (by kernel_rfl))⟩
  f28 := Try.func58.trans (congrArg some (by kernel_rfl))
  f29 := Try.func59.trans (congrArg some (by kernel_rfl))
  f46 := ⟨Try.f67.name, by decide, Try.func67.trans (congrArg some (by kernel_rfl))⟩
  f47 := Try.func68.trans (congrArg some (by kernel_rfl))
  f48 := Try.func69.trans (congrArg some (by kernel_rfl))
  f49 := ⟨Try.f70.name, by decide, Try.func70.trans (congrArg some (by kernel_rfl))⟩
  f50 := ⟨Try.f71.name, by decide, Try.func71.trans (congrArg some (by kernel_rfl))⟩
  f57 := ⟨Try.f77.name, by decide, Try.func77.trans (congrArg some (by kernel_rfl))⟩
  t0 := Try.underlying0
  a0 := Try.isAgg0
  z0 := Try.sizeOf0
  v0 := Try.zeroValue0
  t3 := Try.underlying3
  a3 := Try.isAgg3
  z3 := Try.sizeOf3
  v3 := Try.zeroValue3
  t4 := Try.underlying4
  a4 := Try.isAgg4
  z4 := Try.sizeOf4
  v4 := Try.zeroValue4
  t5 := Try.underlying5
  a5 := Try.isAgg5
  z5 := Try.sizeOf5
  v5 := Try.zeroValue5
  t9 := Try.underlying9
  a9 := Try.isAgg9
  z9 := Try.sizeOf9
  v9 := Try.zeroValue9
  t22 := Try.underlying27
  a22 := Try.isAgg27
  z22 := Try.sizeOf27
  v22 := Try.zeroValue27
  a24 := Try.isAgg3
  z24 := Try.sizeOf3
  t25 := Try.underlying69
  a25 := Try.isAgg69
  z25 := Try.sizeOf69
  v25 := Try.zeroValue69
  t39 := Try.underlying79
  a39 := Try.isAgg79
  z39 := Try.sizeOf79
  v39 := Try.zeroValue79
  t45 := Try.underlying89
  a45 := Try.isAgg89
  z45 := Try.sizeOf89
  v45 := Try.zeroValue89
  t46 := Try.underlying90
  a46 := Try.isAgg90
  z46 := Try.sizeOf90
  v46 := Try.zeroValue90
  t50 := Try.underlying75
  a50 := Try.isAgg75
  z50 := Try.sizeOf75
  v50 := Try.zeroValue75
  t53 := Try.underlying96
  a53 := Try.isAgg96
  z53 := Try.sizeOf96
  v53 := Try.zeroValue96
  t55 := Try.underlying84
  a55 := Try.isAgg84
  z55 := Try.sizeOf84
  v55 := Try.zeroValue84
  t66 := Try.underlying108
  a66 := Try.isAgg108
  z66 := Try.sizeOf108
  v66 := Try.zeroValue108
  t70 := Try.underlying112
  a70 := Try.isAgg112
  z70 := Try.sizeOf112
  v70 := Try.zeroValue112
  t76 := Try.underlying119
  a76 := Try.isAgg119
  z76 := Try.sizeOf119
  v76 := Try.zeroValue119
  t77 := Try.underlying120
  a77 := Try.isAgg120
  z77 := Try.sizeOf120
  v77 := Try.zeroValue120 }
def Try.lays264_ren : Go.Shelf.Ren := ⟨fun | 264 => 66 | n => n, fun | 53 => 84 | 46 => 79 | n => n, fun | n => n⟩
theorem Try.lays264 : Go.Proofs.Lays.n264 Try.prog Try.lays264_ren := {
  mixed := by kernel_rfl
  f264 := Try.func66.trans (congrArg some (by kernel_rfl))
  t46 := Try.underlying79
  a46 := Try.isAgg79
  z46 := Try.sizeOf79
  v46 := Try.zeroValue79
  t53 := Try.underlying84
  a53 := Try.isAgg84
  z53 := Try.sizeOf84
  v53 := Try.zeroValue84 }
open Go.RowKit Go.Lib in
theorem Try.bits_Mul64 (x y : Nat) (hx : x < 18446744073709551616) (hy : y < 18446744073709551616) (w : World) :
    Calls Try.prog 66 #[.int .u64 x, .int .u64 y] w fun e w' => e = .returned (.tuple #[.int .u64 ((x * y / 18446744073709551616 : Nat) : Int), .int .u64 ((x * y % 18446744073709551616 : Nat) : Int)]) ∧ w' = w := Any.bits_Mul64 Try.lays264 x y hx hy w
end Go.Proofs
namespace Go.Proofs.B
open Go Go.AH Go.Maps
set_option maxRecDepth 4000
theorem laid : laidOutB Try.prog = true := by kernel_rfl
theorem row_lt {a b : Nat} (h : Nat.ble (a + 1) b = true) : a < b := Nat.le_of_ble_eq_true h
abbrev ranV (v : VT) : Prop := inR v.X ∧ inR v.Y ∧ inR v.Z
abbrev ranB (b : BoxT) : Prop := ranV b.Lo ∧ ranV b.Hi
abbrev ranN (b : NodeT) : Prop := ranB b.Box ∧ inR b.Left ∧ inR b.Right ∧ inR b.First ∧ inR b.Count
abbrev ranF (b : FracT) : Prop := inR b.N ∧ inR b.D
theorem teq24 : TEq Try.prog 24 := TEq.mk' laid (m := 5) (by decide) (row_lt (by kernel_rfl)) (by kernel_rfl) (by kernel_rfl) (by kernel_rfl)
theorem teq37 : TEq Try.prog 37 := TEq.mk' laid (m := 5) (by decide) (row_lt (by kernel_rfl)) (by kernel_rfl) (by kernel_rfl) (by kernel_rfl)
theorem teq42 : TEq Try.prog 42 := TEq.mk' laid (m := 6) (by decide) (row_lt (by kernel_rfl)) (by kernel_rfl) (by kernel_rfl) (by kernel_rfl)
theorem teq46 : TEq Try.prog 46 := TEq.mk' laid (m := 5) (by decide) (row_lt (by kernel_rfl)) (by kernel_rfl) (by kernel_rfl) (by kernel_rfl)
theorem kokV {v : VT} (h : ranV v) : KOK Try.prog 24 (.agg (eV v)) := KOK.flat (xs := [v.X, v.Y, v.Z]) 4 rfl (by kernel_rfl) (by kernel_rfl) (by kernel_rfl) (by kernel_rfl) (by simp [h])
theorem kokF {v : FracT} (h : ranF v) : KOK Try.prog 46 (.agg (eFrac v)) := KOK.flat (xs := [v.N, v.D]) 4 rfl (by kernel_rfl) (by kernel_rfl) (by kernel_rfl) (by kernel_rfl) (by simp [h])
theorem kokB {v : BoxT} (h : ranB v) : KOK Try.prog 37 (.agg (eBox v)) := KOK.flat (xs := [v.Lo.X, v.Lo.Y, v.Lo.Z, v.Hi.X, v.Hi.Y, v.Hi.Z]) 4 rfl (by kernel_rfl) (by kernel_rfl) (by kernel_rfl) (by kernel_rfl) (by simp [h])
theorem kokN {v : NodeT} (h : ranN v) : KOK Try.prog 42 (.agg (eNode v)) := KOK.flat (xs := [v.Box.Lo.X, v.Box.Lo.Y, v.Box.Lo.Z, v.Box.Hi.X, v.Box.Hi.Y, v.Box.Hi.Z, v.Left, v.Right, v.First, v.Count]) 6 rfl (by kernel_rfl) (by kernel_rfl) (by kernel_rfl) (by kernel_rfl) (by simp [h])
def cmpI (x y : Int) : Int := if x < y then -1 else if x > y then 1 else 0
def orL : List Int → Int
  | [] => 0
  | x :: xs => if x = 0 then orL xs else x
theorem drop_at {α : Type} [Inhabited α] {l : List α} {i : Int} (h0 : 0 ≤ i) (h1 : i < l.length) : l.drop i.toNat = at_ l i :: l.drop (i + 1).toNat := by
  have h : i.toNat < l.length := by omega
  have e : (i + 1).toNat = i.toNat + 1 := by omega
  rw [List.drop_eq_getElem_cons h, e]; simp [at_, h]
theorem orL_step {l : List Int} {i : Int} (h0 : 0 ≤ i) (h1 : i < l.length) (hz : at_ l i = 0) : orL (l.drop i.toNat) = orL (l.drop (i + 1).toNat) := by
  rw [drop_at h0 h1, orL, if_pos hz]
theorem orL_hit {l : List Int} {i : Int} (h0 : 0 ≤ i) (h1 : i < l.length) (hz : at_ l i ≠ 0) : orL (l.drop i.toNat) = at_ l i := by
  rw [drop_at h0 h1, orL, if_neg hz]
theorem orL_end {l : List Int} {i : Int} (h1 : (l.length : Int) ≤ i) : orL (l.drop i.toNat) = 0 := by
  rw [List.drop_eq_nil_of_le (by omega)]; rfl
theorem orL_cmp (a b c d : Int) : orL [cmpI a b, cmpI c d] = if a < b ∨ (a = b ∧ c < d) then -1 else if a = b ∧ c = d then 0 else 1 := by
  simp only [orL, cmpI]
  repeat' split
  all_goals first | rfl | omega
/-! ### Products of 128 bits -/
def mulW (a b : Int) : WideT := ⟨a * b / 18446744073709551616, a * b % 18446744073709551616⟩
theorem mul_rng {x k A C : Int} (hx : -A ≤ x ∧ x ≤ A) (hk : -C ≤ k ∧ k ≤ C) : -(A * C) ≤ x * k ∧ x * k ≤ A * C := by
  have hA : 0 ≤ A := by omega
  have hC : 0 ≤ C := by omega
  have h1 : x.natAbs ≤ A.natAbs := by omega
  have h2 : k.natAbs ≤ C.natAbs := by omega
  have h3 := Nat.mul_le_mul h1 h2
  rw [← Int.natAbs_mul, ← Int.natAbs_mul] at h3
  have h4 : ((A * C).natAbs : Int) = A * C := Int.natAbs_of_nonneg (Int.mul_nonneg hA hC)
  omega
def i64R (x : Int) : Prop := -9223372036854775808 ≤ x ∧ x ≤ 9223372036854775807
theorem wrapU (x : Int) : IntKind.wrap .u64 x = x % 18446744073709551616 := by rw [IntKind.wrap_u64]
theorem wrapS {x : Int} (h : -9223372036854775808 ≤ x ∧ x ≤ 9223372036854775807) : IntKind.wrap .i64 (x % 18446744073709551616) = x := by
  simp [IntKind.wrap, IntKind.bits, IntKind.signed]; omega
theorem mul_quo {a b : Int} (ha : i64R a) (hb : i64R b) : -4611686018427387904 ≤ a * b / 18446744073709551616 ∧ a * b / 18446744073709551616 ≤ 4611686018427387904 := by
  have := mul_rng (x := a) (k := b) (A := 9223372036854775808) (C := 9223372036854775808) (by unfold i64R at ha; omega) (by unfold i64R at hb; omega)
  omega
theorem uof {a : Int} (ha : i64R a) : a % 18446744073709551616 = if a < 0 then a + 18446744073709551616 else a := by
  unfold i64R at ha; split <;> omega
theorem mul_uu {a b : Int} (ha : i64R a) (hb : i64R b) :
    ((a % 18446744073709551616) * (b % 18446744073709551616)) / 18446744073709551616 = a * b / 18446744073709551616 + (if a < 0 then b else 0) + (if b < 0 then a else 0) + (if a < 0 ∧ b < 0 then 18446744073709551616 else 0) ∧
    ((a % 18446744073709551616) * (b % 18446744073709551616)) % 18446744073709551616 = a * b % 18446744073709551616 := by
  rw [uof ha, uof hb]
  by_cases h1 : a < 0 <;> by_cases h2 : b < 0 <;> simp only [h1, h2, if_true, if_false, and_true, and_false, true_and, false_and]
  · rw [Int.add_mul, Int.mul_add, Int.mul_add]; omega
  · rw [Int.add_mul]; omega
  · rw [Int.mul_add]; omega
  · omega
theorem mul_hi {a b x : Int} (ha : i64R a) (hb : i64R b) (hx : x = (IntKind.wrap .u64 a * IntKind.wrap .u64 b) / 18446744073709551616)
    {y : Int} (hy : y = if a < 0 then (if b < 0 then IntKind.wrap .u64 (IntKind.wrap .u64 (x - IntKind.wrap .u64 b) - IntKind.wrap .u64 a) else IntKind.wrap .u64 (x - IntKind.wrap .u64 b)) else if b < 0 then IntKind.wrap .u64 (x - IntKind.wrap .u64 a) else x) :
    IntKind.wrap .i64 y = a * b / 18446744073709551616 := by
  have hq := mul_quo ha hb
  have h := (mul_uu ha hb).1
  have e : ∀ z, z = (a * b / 18446744073709551616) % 18446744073709551616 → IntKind.wrap .i64 z = a * b / 18446744073709551616 := by
    rintro z rfl; exact wrapS (by omega)
  refine e _ ?_
  subst hy
  rw [hx, wrapU a, wrapU b, h]
  simp only [wrapU]
  have n1 : a < 0 → 0 ≤ b → a * b ≤ 0 := fun h1 h2 => by have := Int.mul_le_mul_of_nonneg_right (show a ≤ 0 by omega) h2; omega
  have n2 : 0 ≤ a → 0 ≤ b → 0 ≤ a * b := fun h1 h2 => Int.mul_nonneg h1 h2
  by_cases h1 : a < 0 <;> by_cases h2 : b < 0 <;> simp only [h1, h2, if_true, if_false, and_true, and_false, true_and, false_and]
  · omega
  · omega
  · omega
  · have := n2 (by omega) (by omega); omega
theorem c_Mul64 (x y : Int) (hx : 0 ≤ x ∧ x < 18446744073709551616) (hy : 0 ≤ y ∧ y < 18446744073709551616) : PC Try.prog 66 [.int .u64 x, .int .u64 y] (.tup [.int .u64 (x * y / 18446744073709551616), .int .u64 (x * y % 18446744073709551616)]) :=
  .lib fun H μ w vs hr hv => by
    obtain ⟨u, v, rfl, h1, h2⟩ := vs2 hv
    have e1 := h1.int_inv
    have e2 := h2.int_inv
    subst e1; subst e2
    obtain ⟨n, rfl⟩ := Int.eq_ofNat_of_zero_le hx.1
    obtain ⟨m, rfl⟩ := Int.eq_ofNat_of_zero_le hy.1
    refine (Try.bits_Mul64 n m (by omega) (by omega) w).mono ?_
    rintro e w' ⟨rfl, rfl⟩
    refine ⟨_, rfl, Nat.le_refl _, fun _ _ => rfl, ⟨rfl, rfl, rfl, fun _ => Nat.le_refl _⟩, .tup rfl fun j x y hx hy => ?_⟩
    match j, hx, hy with
    | 0, hx, hy => cases hx; cases hy; exact .int _ _
    | 1, hx, hy => cases hx; cases hy; exact .int _ _

/-! ### Fractions that are held against one another -/
theorem lex_lt (x y : Int) : (x / 18446744073709551616 < y / 18446744073709551616 ∨ (x / 18446744073709551616 = y / 18446744073709551616 ∧ x % 18446744073709551616 < y % 18446744073709551616)) ↔ x < y := by omega
theorem cmpW_neg (p q : Int) : (orL [cmpI (p / 18446744073709551616) (q / 18446744073709551616), cmpI (p % 18446744073709551616) (q % 18446744073709551616)] < 0) ↔ p < q := by
  rw [orL_cmp, ← lex_lt p q]
  split
  · simp_all
  · split <;> simp_all
end Go.Proofs.B
namespace Go.Proofs.B
open Go Go.AH
set_option maxRecDepth 4000
set_option linter.unusedSimpArgs false
set_option linter.unusedVariables false
theorem c_isNaN_int (x : Int) : PC Try.prog 44 [.int .i64 x] (.bool false) := by
 intro H0
 refine ACalls.of_body' (n := 6) rfl rfl rfl rfl ?_
 have m0 := Mono.refl H0
 refine AWP.seq ?_
 refine AWP.region (l := [0]) rfl ?_
 refine AOps.cons rfl rfl (AOp.assign (.bool false) rfl rfl ?_)
 refine AOps.nil ?_
 change AWP _ _ _ _ _ _
 refine AWP.seq ?_
 refine AWP.region (l := [0, 1, 2, 3]) rfl ?_
 refine AOps.cons rfl rfl (AOp.move (.int .i64 x) rfl rfl ?_)
 refine AOps.cons rfl rfl (AOp.move (.int .i64 x) rfl rfl ?_)
 refine AOps.cons rfl rfl (AOp.bin (.bool (!decide (x = x))) rfl rfl rfl ine ?_)
 refine AOps.cons rfl rfl (AOp.assign (.bool (!decide (x = x))) rfl rfl ?_)
 refine AOps.nil ?_
 change AWP _ _ _ _ _ _
 refine AWP.ret ?_
 refine ⟨_, _, Ghost.refl, .inr rfl, _, Res.one rfl rfl, ?_, m0⟩
 exact (congrArg AV.bool (show (!decide (x = x) : Bool) = false from by first | rfl | omega | simp_all))
theorem c_isNaN_int64 (x : Int) : PC Try.prog 75 [.int .i64 x] (.bool false) := by
 intro H0
 refine ACalls.of_body' (n := 6) rfl rfl rfl rfl ?_
 have m0 := Mono.refl H0
 refine AWP.seq ?_
 refine AWP.region (l := [0]) rfl ?_
 refine AOps.cons rfl rfl (AOp.assign (.bool false) rfl rfl ?_)
 refine AOps.nil ?_
 change AWP _ _ _ _ _ _
 refine AWP.seq ?_
 refine AWP.region (l := [0, 1, 2, 3]) rfl ?_
 refine AOps.cons rfl rfl (AOp.move (.int .i64 x) rfl rfl ?_)
 refine AOps.cons rfl rfl (AOp.move (.int .i64 x) rfl rfl ?_)
 refine AOps.cons rfl rfl (AOp.bin (.bool (!decide (x = x))) rfl rfl rfl ine ?_)
 refine AOps.cons rfl rfl (AOp.assign (.bool (!decide (x = x))) rfl rfl ?_)
 refine AOps.nil ?_
 change AWP _ _ _ _ _ _
 refine AWP.ret ?_
 refine ⟨_, _, Ghost.refl, .inr rfl, _, Res.one rfl rfl, ?_, m0⟩
 exact (congrArg AV.bool (show (!decide (x = x) : Bool) = false from by first | rfl | omega | simp_all))
theorem c_isNaN_uint64 (x : Int) : PC Try.prog 76 [.int .u64 x] (.bool false) := by
 intro H0
 refine ACalls.of_body' (n := 6) rfl rfl rfl rfl ?_
 have m0 := Mono.refl H0
 refine AWP.seq ?_
 refine AWP.region (l := [0]) rfl ?_
 refine AOps.cons rfl rfl (AOp.assign (.bool false) rfl rfl ?_)
 refine AOps.nil ?_
 change AWP _ _ _ _ _ _
 refine AWP.seq ?_
 refine AWP.region (l := [0, 1, 2, 3]) rfl ?_
 refine AOps.cons rfl rfl (AOp.move (.int .u64 x) rfl rfl ?_)
 refine AOps.cons rfl rfl (AOp.move (.int .u64 x) rfl rfl ?_)
 refine AOps.cons rfl rfl (AOp.bin (.bool (!decide (x = x))) rfl rfl rfl ine ?_)
 refine AOps.cons rfl rfl (AOp.assign (.bool (!decide (x = x))) rfl rfl ?_)
 refine AOps.nil ?_
 change AWP _ _ _ _ _ _
 refine AWP.ret ?_
 refine ⟨_, _, Ghost.refl, .inr rfl, _, Res.one rfl rfl, ?_, m0⟩
 exact (congrArg AV.bool (show (!decide (x = x) : Bool) = false from by first | rfl | omega | simp_all))
theorem c_Compare_int (x y : Int) : PC Try.prog 32 [.int .i64 x, .int .i64 y] (.int .i64 (cmpI x y)) := by
 intro H0
 refine ACalls.of_body' (n := 20) rfl rfl rfl rfl ?_
 have m0 := Mono.refl H0
 refine AWP.seq ?_
 refine AWP.region (l := [0]) rfl ?_
 refine AOps.cons rfl rfl (AOp.assign (.int .i64 0) rfl rfl ?_)
 refine AOps.nil ?_
 change AWP _ _ _ _ _ _
 refine AWP.seq ?_
 refine AWP.region (l := [0, 1, 2]) rfl ?_
 refine AOps.cons rfl rfl (AOp.move (.int .i64 x) rfl rfl ?_)
 refine AOps.cons rfl rfl (AOp.pcall («as» := [.int .i64 x]) rfl rfl (rfl) tf_44 (c_isNaN_int x) ?_)
 intro H1 m2
 have m3 := m0.trans m2
 refine AOps.cons rfl rfl (AOp.assign (.bool false) rfl rfl ?_)
 refine AOps.nil ?_
 change AWP _ _ _ _ _ _
 refine AWP.seq ?_
 refine AWP.region (l := [0, 1, 2]) rfl ?_
 refine AOps.cons rfl rfl (AOp.move (.int .i64 y) rfl rfl ?_)
 refine AOps.cons rfl rfl (AOp.pcall («as» := [.int .i64 y]) rfl rfl (rfl) tf_44 (c_isNaN_int y) ?_)
 intro H4 m5
 have m6 := m3.trans m5
 refine AOps.cons rfl rfl (AOp.assign (.bool false) rfl rfl ?_)
 refine AOps.nil ?_
 change AWP _ _ _ _ _ _
 refine AWP.seq ?_
 refine AWP.seq ?_
 refine AWP.region (l := [0]) rfl ?_
 refine AOps.cons rfl rfl (AOp.move (.bool false) rfl rfl ?_)
 refine AOps.nil ?_
 change AWP _ _ _ _ _ _
 refine AWP.condF rfl rfl ?_
 refine AWP.skip ?_
 change AWP _ _ _ _ _ _
 refine AWP.seq ?_
 refine AWP.seq ?_
 refine AWP.region (l := [0]) rfl ?_
 refine AOps.cons rfl rfl (AOp.move (.bool false) rfl rfl ?_)
 refine AOps.nil ?_
 change AWP _ _ _ _ _ _
 refine AWP.condF rfl rfl ?_
 refine AWP.skip ?_
 change AWP _ _ _ _ _ _
 refine AWP.seq ?_
 refine AWP.seq ?_
 refine AWP.region (l := [0, 1, 2]) rfl ?_
 refine AOps.cons rfl rfl (AOp.move (.int .i64 x) rfl rfl ?_)
 refine AOps.cons rfl rfl (AOp.move (.int .i64 y) rfl rfl ?_)
 refine AOps.cons rfl rfl (AOp.bin (.bool (decide (x < y))) rfl rfl rfl rfl ?_)
 refine AOps.nil ?_
 change AWP _ _ _ _ _ _
 by_cases b7 : x < y
 ·
  refine AWP.condT rfl (decide_eq_true b7) ?_
  refine AWP.seq ?_
  refine AWP.region (l := [0]) rfl ?_
  refine AOps.cons rfl rfl (AOp.assign (.int .i64 (-1)) rfl rfl ?_)
  refine AOps.nil ?_
  change AWP _ _ _ _ _ _
  refine AWP.ret ?_
  refine ⟨_, _, Ghost.refl, .inr rfl, _, Res.one rfl rfl, ?_, m6⟩
  exact (congrArg (AV.int .i64) (show (-1 : Int) = cmpI x y from by unfold cmpI; first | (rw [if_pos (by assumption)]) | (rw [if_neg (by omega), if_pos (by omega)]) | (rw [if_neg (by omega), if_neg (by omega)])))
 ·
  refine AWP.condF rfl (decide_eq_false b7) ?_
  refine AWP.skip ?_
  change AWP _ _ _ _ _ _
  refine AWP.seq ?_
  refine AWP.seq ?_
  refine AWP.region (l := [0, 1, 2]) rfl ?_
  refine AOps.cons rfl rfl (AOp.move (.int .i64 x) rfl rfl ?_)
  refine AOps.cons rfl rfl (AOp.move (.int .i64 y) rfl rfl ?_)
  refine AOps.cons rfl rfl (AOp.bin (.bool (decide (x > y))) rfl rfl rfl rfl ?_)
  refine AOps.nil ?_
  change AWP _ _ _ _ _ _
  by_cases b8 : x > y
  ·
   refine AWP.condT rfl (decide_eq_true b8) ?_
   refine AWP.seq ?_
   refine AWP.region (l := [0]) rfl ?_
   refine AOps.cons rfl rfl (AOp.assign (.int .i64 1) rfl rfl ?_)
   refine AOps.nil ?_
   change AWP _ _ _ _ _ _
   refine AWP.ret ?_
   refine ⟨_, _, Ghost.refl, .inr rfl, _, Res.one rfl rfl, ?_, m6⟩
   exact (congrArg (AV.int .i64) (show (1 : Int) = cmpI x y from by unfold cmpI; first | (rw [if_pos (by assumption)]) | (rw [if_neg (by omega), if_pos (by omega)]) | (rw [if_neg (by omega), if_neg (by omega)])))
  ·
   refine AWP.condF rfl (decide_eq_false b8) ?_
   refine AWP.skip ?_
   change AWP _ _ _ _ _ _
   refine AWP.seq ?_
   refine AWP.region (l := [0]) rfl ?_
   refine AOps.cons rfl rfl (AOp.assign (.int .i64 0) rfl rfl ?_)
   refine AOps.nil ?_
   change AWP _ _ _ _ _ _
   refine AWP.ret ?_
   refine ⟨_, _, Ghost.refl, .inr rfl, _, Res.one rfl rfl, ?_, m6⟩
   exact (congrArg (AV.int .i64) (show (0 : Int) = cmpI x y from by unfold cmpI; first | (rw [if_pos (by assumption)]) | (rw [if_neg (by omega), if_pos (by omega)]) | (rw [if_neg (by omega), if_neg (by omega)])))
theorem c_Compare_int64 (x y : Int) : PC Try.prog 64 [.int .i64 x, .int .i64 y] (.int .i64 (cmpI x y)) := by
 intro H0
 refine ACalls.of_body' (n := 20) rfl rfl rfl rfl ?_
 have m0 := Mono.refl H0
 refine AWP.seq ?_
 refine AWP.region (l := [0]) rfl ?_
 refine AOps.cons rfl rfl (AOp.assign (.int .i64 0) rfl rfl ?_)
 refine AOps.nil ?_
 change AWP _ _ _ _ _ _
 refine AWP.seq ?_
 refine AWP.region (l := [0, 1, 2]) rfl ?_
 refine AOps.cons rfl rfl (AOp.move (.int .i64 x) rfl rfl ?_)
 refine AOps.cons rfl rfl (AOp.pcall («as» := [.int .i64 x]) rfl rfl (rfl) tf_75 (c_isNaN_int64 x) ?_)
 intro H1 m2
 have m3 := m0.trans m2
 refine AOps.cons rfl rfl (AOp.assign (.bool false) rfl rfl ?_)
 refine AOps.nil ?_
 change AWP _ _ _ _ _ _
 refine AWP.seq ?_
 refine AWP.region (l := [0, 1, 2]) rfl ?_
 refine AOps.cons rfl rfl (AOp.move (.int .i64 y) rfl rfl ?_)
 refine AOps.cons rfl rfl (AOp.pcall («as» := [.int .i64 y]) rfl rfl (rfl) tf_75 (c_isNaN_int64 y) ?_)
 intro H4 m5
 have m6 := m3.trans m5
 refine AOps.cons rfl rfl (AOp.assign (.bool false) rfl rfl ?_)
 refine AOps.nil ?_
 change AWP _ _ _ _ _ _
 refine AWP.seq ?_
 refine AWP.seq ?_
 refine AWP.region (l := [0]) rfl ?_
 refine AOps.cons rfl rfl (AOp.move (.bool false) rfl rfl ?_)
 refine AOps.nil ?_
 change AWP _ _ _ _ _ _
 refine AWP.condF rfl rfl ?_
 refine AWP.skip ?_
 change AWP _ _ _ _ _ _
 refine AWP.seq ?_
 refine AWP.seq ?_
 refine AWP.region (l := [0]) rfl ?_
 refine AOps.cons rfl rfl (AOp.move (.bool false) rfl rfl ?_)
 refine AOps.nil ?_
 change AWP _ _ _ _ _ _
 refine AWP.condF rfl rfl ?_
 refine AWP.skip ?_
 change AWP _ _ _ _ _ _
 refine AWP.seq ?_
 refine AWP.seq ?_
 refine AWP.region (l := [0, 1, 2]) rfl ?_
 refine AOps.cons rfl rfl (AOp.move (.int .i64 x) rfl rfl ?_)
 refine AOps.cons rfl rfl (AOp.move (.int .i64 y) rfl rfl ?_)
 refine AOps.cons rfl rfl (AOp.bin (.bool (decide (x < y))) rfl rfl rfl rfl ?_)
 refine AOps.nil ?_
 change AWP _ _ _ _ _ _
 by_cases b7 : x < y
 ·
  refine AWP.condT rfl (decide_eq_true b7) ?_
  refine AWP.seq ?_
  refine AWP.region (l := [0]) rfl ?_
  refine AOps.cons rfl rfl (AOp.assign (.int .i64 (-1)) rfl rfl ?_)
  refine AOps.nil ?_
  change AWP _ _ _ _ _ _
  refine AWP.ret ?_
  refine ⟨_, _, Ghost.refl, .inr rfl, _, Res.one rfl rfl, ?_, m6⟩
  exact (congrArg (AV.int .i64) (show (-1 : Int) = cmpI x y from by unfold cmpI; first | (rw [if_pos (by assumption)]) | (rw [if_neg (by omega), if_pos (by omega)]) | (rw [if_neg (by omega), if_neg (by omega)])))
 ·
  refine AWP.condF rfl (decide_eq_false b7) ?_
  refine AWP.skip ?_
  change AWP _ _ _ _ _ _
  refine AWP.seq ?_
  refine AWP.seq ?_
  refine AWP.region (l := [0, 1, 2]) rfl ?_
  refine AOps.cons rfl rfl (AOp.move (.int .i64 x) rfl rfl ?_)
  refine AOps.cons rfl rfl (AOp.move (.int .i64 y) rfl rfl ?_)
  refine AOps.cons rfl rfl (AOp.bin (.bool (decide (x > y))) rfl rfl rfl rfl ?_)
  refine AOps.nil ?_
  change AWP _ _ _ _ _ _
  by_cases b8 : x > y
  ·
   refine AWP.condT rfl (decide_eq_true b8) ?_
   refine AWP.seq ?_
   refine AWP.region (l := [0]) rfl ?_
   refine AOps.cons rfl rfl (AOp.assign (.int .i64 1) rfl rfl ?_)
   refine AOps.nil ?_
   change AWP _ _ _ _ _ _
   refine AWP.ret ?_
   refine ⟨_, _, Ghost.refl, .inr rfl, _, Res.one rfl rfl, ?_, m6⟩
   exact (congrArg (AV.int .i64) (show (1 : Int) = cmpI x y from by unfold cmpI; first | (rw [if_pos (by assumption)]) | (rw [if_neg (by omega), if_pos (by omega)]) | (rw [if_neg (by omega), if_neg (by omega)])))
  ·
   refine AWP.condF rfl (decide_eq_false b8) ?_
   refine AWP.skip ?_
   change AWP _ _ _ _ _ _
   refine AWP.seq ?_
   refine AWP.region (l := [0]) rfl ?_
   refine AOps.cons rfl rfl (AOp.assign (.int .i64 0) rfl rfl ?_)
   refine AOps.nil ?_
   change AWP _ _ _ _ _ _
   refine AWP.ret ?_
   refine ⟨_, _, Ghost.refl, .inr rfl, _, Res.one rfl rfl, ?_, m6⟩
   exact (congrArg (AV.int .i64) (show (0 : Int) = cmpI x y from by unfold cmpI; first | (rw [if_pos (by assumption)]) | (rw [if_neg (by omega), if_pos (by omega)]) | (rw [if_neg (by omega), if_neg (by omega)])))
theorem c_Compare_uint64 (x y : Int) : PC Try.prog 65 [.int .u64 x, .int .u64 y] (.int .i64 (cmpI x y)) := by
 intro H0
 refine ACalls.of_body' (n := 20) rfl rfl rfl rfl ?_
 have m0 := Mono.refl H0
 refine AWP.seq ?_
 refine AWP.region (l := [0]) rfl ?_
 refine AOps.cons rfl rfl (AOp.assign (.int .i64 0) rfl rfl ?_)
 refine AOps.nil ?_
 change AWP _ _ _ _ _ _
 refine AWP.seq ?_
 refine AWP.region (l := [0, 1, 2]) rfl ?_
 refine AOps.cons rfl rfl (AOp.move (.int .u64 x) rfl rfl ?_)
 refine AOps.cons rfl rfl (AOp.pcall («as» := [.int .u64 x]) rfl rfl (rfl) tf_76 (c_isNaN_uint64 x) ?_)
 intro H1 m2
 have m3 := m0.trans m2
 refine AOps.cons rfl rfl (AOp.assign (.bool false) rfl rfl ?_)
 refine AOps.nil ?_
 change AWP _ _ _ _ _ _
 refine AWP.seq ?_
 refine AWP.region (l := [0, 1, 2]) rfl ?_
 refine AOps.cons rfl rfl (AOp.move (.int .u64 y) rfl rfl ?_)
 refine AOps.cons rfl rfl (AOp.pcall («as» := [.int .u64 y]) rfl rfl (rfl) tf_76 (c_isNaN_uint64 y) ?_)
 intro H4 m5
 have m6 := m3.trans m5
 refine AOps.cons rfl rfl (AOp.assign (.bool false) rfl rfl ?_)
 refine AOps.nil ?_
 change AWP _ _ _ _ _ _
 refine AWP.seq ?_
 refine AWP.seq ?_
 refine AWP.region (l := [0]) rfl ?_
 refine AOps.cons rfl rfl (AOp.move (.bool false) rfl rfl ?_)
 refine AOps.nil ?_
 change AWP _ _ _ _ _ _
 refine AWP.condF rfl rfl ?_
 refine AWP.skip ?_
 change AWP _ _ _ _ _ _
 refine AWP.seq ?_
 refine AWP.seq ?_
 refine AWP.region (l := [0]) rfl ?_
 refine AOps.cons rfl rfl (AOp.move (.bool false) rfl rfl ?_)
 refine AOps.nil ?_
 change AWP _ _ _ _ _ _
 refine AWP.condF rfl rfl ?_
 refine AWP.skip ?_
 change AWP _ _ _ _ _ _
 refine AWP.seq ?_
 refine AWP.seq ?_
 refine AWP.region (l := [0, 1, 2]) rfl ?_
 refine AOps.cons rfl rfl (AOp.move (.int .u64 x) rfl rfl ?_)
 refine AOps.cons rfl rfl (AOp.move (.int .u64 y) rfl rfl ?_)
 refine AOps.cons rfl rfl (AOp.bin (.bool (decide (x < y))) rfl rfl rfl rfl ?_)
 refine AOps.nil ?_
 change AWP _ _ _ _ _ _
 by_cases b7 : x < y
 ·
  refine AWP.condT rfl (decide_eq_true b7) ?_
  refine AWP.seq ?_
  refine AWP.region (l := [0]) rfl ?_
  refine AOps.cons rfl rfl (AOp.assign (.int .i64 (-1)) rfl rfl ?_)
  refine AOps.nil ?_
  change AWP _ _ _ _ _ _
  refine AWP.ret ?_
  refine ⟨_, _, Ghost.refl, .inr rfl, _, Res.one rfl rfl, ?_, m6⟩
  exact (congrArg (AV.int .i64) (show (-1 : Int) = cmpI x y from by unfold cmpI; first | (rw [if_pos (by assumption)]) | (rw [if_neg (by omega), if_pos (by omega)]) | (rw [if_neg (by omega), if_neg (by omega)])))
 ·
  refine AWP.condF rfl (decide_eq_false b7) ?_
  refine AWP.skip ?_
  change AWP _ _ _ _ _ _
  refine AWP.seq ?_
  refine AWP.seq ?_
  refine AWP.region (l := [0, 1, 2]) rfl ?_
  refine AOps.cons rfl rfl (AOp.move (.int .u64 x) rfl rfl ?_)
  refine AOps.cons rfl rfl (AOp.move (.int .u64 y) rfl rfl ?_)
  refine AOps.cons rfl rfl (AOp.bin (.bool (decide (x > y))) rfl rfl rfl rfl ?_)
  refine AOps.nil ?_
  change AWP _ _ _ _ _ _
  by_cases b8 : x > y
  ·
   refine AWP.condT rfl (decide_eq_true b8) ?_
   refine AWP.seq ?_
   refine AWP.region (l := [0]) rfl ?_
   refine AOps.cons rfl rfl (AOp.assign (.int .i64 1) rfl rfl ?_)
   refine AOps.nil ?_
   change AWP _ _ _ _ _ _
   refine AWP.ret ?_
   refine ⟨_, _, Ghost.refl, .inr rfl, _, Res.one rfl rfl, ?_, m6⟩
   exact (congrArg (AV.int .i64) (show (1 : Int) = cmpI x y from by unfold cmpI; first | (rw [if_pos (by assumption)]) | (rw [if_neg (by omega), if_pos (by omega)]) | (rw [if_neg (by omega), if_neg (by omega)])))
  ·
   refine AWP.condF rfl (decide_eq_false b8) ?_
   refine AWP.skip ?_
   change AWP _ _ _ _ _ _
   refine AWP.seq ?_
   refine AWP.region (l := [0]) rfl ?_
   refine AOps.cons rfl rfl (AOp.assign (.int .i64 0) rfl rfl ?_)
   refine AOps.nil ?_
   change AWP _ _ _ _ _ _
   refine AWP.ret ?_
   refine ⟨_, _, Ghost.refl, .inr rfl, _, Res.one rfl rfl, ?_, m6⟩
   exact (congrArg (AV.int .i64) (show (0 : Int) = cmpI x y from by unfold cmpI; first | (rw [if_pos (by assumption)]) | (rw [if_neg (by omega), if_pos (by omega)]) | (rw [if_neg (by omega), if_neg (by omega)])))
def R_vec_Within (a : VT) (most : Int) : Bool :=
  if min (min a.X a.Y) a.Z ≥ -most then decide (max (max a.X a.Y) a.Z ≤ most) else false
theorem c_vec_Within (a : VT) (most : Int) (hm : -9223372036854775807 ≤ most ∧ most ≤ 9223372036854775807) : PC Try.prog 18 [.agg [.int .i64 a.X, .int .i64 a.Y, .int .i64 a.Z], .int .i64 most] (.bool (R_vec_Within a most)) := by
 intro H0
 refine ACalls.of_body' (n := 26) rfl rfl rfl rfl ?_
 have m0 := Mono.refl H0
 refine AWP.seq ?_
 refine AWP.region (l := [0, 1]) rfl ?_
 refine AOps.cons rfl rfl (AOp.box (.agg [.int .i64 a.X, .int .i64 a.Y, .int .i64 a.Z]) rfl rfl rfl ?_)
 intro i1 H2 n3 h4 k5
 have z6 := Mono.free m0 n3
 have m7 := Mono.new m0 n3 k5
 refine AOps.cons rfl rfl (AOp.assign (.bool false) rfl rfl ?_)
 refine AOps.nil ?_
 change AWP _ _ _ _ _ _
 refine AWP.seq ?_
 refine AWP.frzP 2 h4 z6 rfl m7 fun H8 m9 k10 => ?_
 refine AWP.region (l := [0, 1, 2, 3, 4, 5, 6, 7, 8, 9, 10, 11, 12, 13, 14, 15, 16, 17, 18, 19, 20, 21]) rfl ?_
 refine AOps.cons rfl rfl (AOp.fieldAddrF rfl rfl fl_24_0 ?_)
 refine AOps.cons rfl rfl (AOp.loadF (.int .i64 a.X) rfl rfl ty_3 rfl ?_)
 refine AOps.cons rfl rfl (AOp.fieldAddrF rfl rfl fl_24_1 ?_)
 refine AOps.cons rfl rfl (AOp.loadF (.int .i64 a.Y) rfl rfl ty_3 rfl ?_)
 refine AOps.cons rfl rfl (AOp.fieldAddrF rfl rfl fl_24_2 ?_)
 refine AOps.cons rfl rfl (AOp.loadF (.int .i64 a.Z) rfl rfl ty_3 rfl ?_)
 refine AOps.cons rfl rfl (AOp.min3 rfl rfl rfl rfl ?_)
 refine AOps.cons rfl rfl (AOp.move (.int .i64 most) rfl rfl ?_)
 refine AOps.cons rfl rfl (AOp.negP rfl rfl (by omega) ?_)
 refine AOps.cons rfl rfl (AOp.bin (.bool (decide (min (min a.X a.Y) a.Z ≥ -most))) rfl rfl rfl rfl ?_)
 refine AOps.cons rfl rfl (AOp.move (.bool (decide (min (min a.X a.Y) a.Z ≥ -most))) rfl rfl ?_)
 by_cases b11 : min (min a.X a.Y) a.Z ≥ -most
 ·
  refine AOps.yes rfl rfl rfl rfl rfl rfl rfl (decide_eq_true b11) (AOp.fieldAddrF rfl rfl fl_24_0 ?_)
  refine AOps.yes rfl rfl rfl rfl rfl rfl rfl (decide_eq_true b11) (AOp.loadF (.int .i64 a.X) rfl rfl ty_3 rfl ?_)
  refine AOps.yes rfl rfl rfl rfl rfl rfl rfl (decide_eq_true b11) (AOp.fieldAddrF rfl rfl fl_24_1 ?_)
  refine AOps.yes rfl rfl rfl rfl rfl rfl rfl (decide_eq_true b11) (AOp.loadF (.int .i64 a.Y) rfl rfl ty_3 rfl ?_)
  refine AOps.yes rfl rfl rfl rfl rfl rfl rfl (decide_eq_true b11) (AOp.fieldAddrF rfl rfl fl_24_2 ?_)
  refine AOps.yes rfl rfl rfl rfl rfl rfl rfl (decide_eq_true b11) (AOp.loadF (.int .i64 a.Z) rfl rfl ty_3 rfl ?_)
  refine AOps.yes rfl rfl rfl rfl rfl rfl rfl (decide_eq_true b11) (AOp.max3 rfl rfl rfl rfl ?_)
  refine AOps.yes rfl rfl rfl rfl rfl rfl rfl (decide_eq_true b11) (AOp.move (.int .i64 most) rfl rfl ?_)
  refine AOps.yes rfl rfl rfl rfl rfl rfl rfl (decide_eq_true b11) (AOp.bin (.bool (decide (max (max a.X a.Y) a.Z ≤ most))) rfl rfl rfl rfl ?_)
  refine AOps.cons rfl rfl (AOp.pickT (.bool (decide (max (max a.X a.Y) a.Z ≤ most))) rfl rfl (decide_eq_true b11) rfl ?_)
  refine AOps.cons rfl rfl (AOp.assign (.bool (decide (max (max a.X a.Y) a.Z ≤ most))) rfl rfl ?_)
  refine AOps.nil ?_
  change AWP _ _ _ _ _ _
  refine AWP.ret ?_
  refine ⟨_, _, Ghost.refl, .inr rfl, _, Res.one rfl rfl, ?_, m9⟩
  have hR : R_vec_Within a most = decide (max (max a.X a.Y) a.Z ≤ most) := by unfold R_vec_Within; rw [if_pos b11]
  exact (congrArg (fun r : Bool => (.bool r : AV)) hR).symm
 ·
  refine AOps.no rfl rfl rfl rfl rfl rfl rfl (ble_of (decide_eq_false b11) (by decide)) ?_
  refine AOps.no rfl rfl rfl rfl rfl rfl rfl (ble_of (decide_eq_false b11) (by decide)) ?_
  refine AOps.no rfl rfl rfl rfl rfl rfl rfl (ble_of (decide_eq_false b11) (by decide)) ?_
  refine AOps.no rfl rfl rfl rfl rfl rfl rfl (ble_of (decide_eq_false b11) (by decide)) ?_
  refine AOps.no rfl rfl rfl rfl rfl rfl rfl (ble_of (decide_eq_false b11) (by decide)) ?_
  refine AOps.no rfl rfl rfl rfl rfl rfl rfl (ble_of (decide_eq_false b11) (by decide)) ?_
  refine AOps.no rfl rfl rfl rfl rfl rfl rfl (ble_of (decide_eq_false b11) (by decide)) ?_
  refine AOps.no rfl rfl rfl rfl rfl rfl rfl (ble_of (decide_eq_false b11) (by decide)) ?_
  refine AOps.no rfl rfl rfl rfl rfl rfl rfl (ble_of (decide_eq_false b11) (by decide)) ?_
  refine AOps.cons rfl rfl (AOp.pickF (.bool false) rfl rfl (decide_eq_false b11) rfl ?_)
  refine AOps.cons rfl rfl (AOp.assign (.bool false) rfl rfl ?_)
  refine AOps.nil ?_
  change AWP _ _ _ _ _ _
  refine AWP.ret ?_
  refine ⟨_, _, Ghost.refl, .inr rfl, _, Res.one rfl rfl, ?_, m9⟩
  have hR : R_vec_Within a most = false := by unfold R_vec_Within; rw [if_neg b11]
  exact (congrArg (fun r : Bool => (.bool r : AV)) hR).symm
theorem c_Join (a b : BoxT) : PC Try.prog 15 [.agg [.int .i64 a.Lo.X, .int .i64 a.Lo.Y, .int .i64 a.Lo.Z, .int .i64 a.Hi.X, .int .i64 a.Hi.Y, .int .i64 a.Hi.Z], .agg [.int .i64 b.Lo.X, .int .i64 b.Lo.Y, .int .i64 b.Lo.Z, .int .i64 b.Hi.X, .int .i64 b.Hi.Y, .int .i64 b.Hi.Z]] (.agg [.int .i64 (((joinB a b).Lo).X), .int .i64 (((joinB a b).Lo).Y), .int .i64 (((joinB a b).Lo).Z), .int .i64 (((joinB a b).Hi).X), .int .i64 (((joinB a b).Hi).Y), .int .i64 (((joinB a b).Hi).Z)]) := by
 intro H0
 refine ACalls.of_body' (n := 54) rfl rfl rfl rfl ?_
 have m0 := Mono.refl H0
 refine AWP.seq ?_
 refine AWP.region (l := [0, 1, 2]) rfl ?_
 refine AOps.cons rfl rfl (AOp.box (.agg [.int .i64 a.Lo.X, .int .i64 a.Lo.Y, .int .i64 a.Lo.Z, .int .i64 a.Hi.X, .int .i64 a.Hi.Y, .int .i64 a.Hi.Z]) rfl rfl rfl ?_)
 intro i1 H2 n3 h4 k5
 have z6 := Mono.free m0 n3
 have m7 := Mono.new m0 n3 k5
 refine AOps.cons rfl rfl (AOp.box (.agg [.int .i64 b.Lo.X, .int .i64 b.Lo.Y, .int .i64 b.Lo.Z, .int .i64 b.Hi.X, .int .i64 b.Hi.Y, .int .i64 b.Hi.Z]) rfl rfl rfl ?_)
 intro i8 H9 n10 h11 k12
 have e13 := ne_new h4 n10
 have z14 := Mono.free m7 n10
 have h15 := keep k12 (ne_new h4 n10) h4
 have m16 := Mono.new m7 n10 k12
 refine AOps.cons rfl rfl (AOp.alloc rfl tz_37 ?_)
 intro i17 H18 n19 h20 k21
 have e22 := ne_new h15 n19
 have e23 := ne_new h11 n19
 have z24 := Mono.free m16 n19
 have h25 := keep k21 (ne_new h15 n19) h15
 have h26 := keep k21 (ne_new h11 n19) h11
 have m27 := Mono.new m16 n19 k21
 refine AOps.nil ?_
 change AWP _ _ _ _ _ _
 refine AWP.seq ?_
 refine AWP.frzP 2 h25 z6 rfl m27 fun H28 m29 k30 => ?_
 have h31 := (k30 _ (Ne.symm e13)).trans h26
 have h32 := (k30 _ (Ne.symm e22)).trans h20
 refine AWP.frzP 3 h31 z14 rfl m29 fun H33 m34 k35 => ?_
 have h36 := (k35 _ (Ne.symm e23)).trans h32
 refine AWP.region (l := [0, 1, 2, 3, 4, 5, 6, 7, 8, 9, 10, 11, 12, 13, 14, 15, 16, 17, 18, 19, 20, 21, 22, 23]) rfl ?_
 refine AOps.cons rfl rfl (AOp.fieldAddrF rfl rfl fl_37_0 ?_)
 refine AOps.cons rfl rfl (AOp.fieldAddrF rfl rfl fl_24_0 ?_)
 refine AOps.cons rfl rfl (AOp.loadF (.int .i64 a.Lo.X) rfl rfl ty_3 rfl ?_)
 refine AOps.cons rfl rfl (AOp.fieldAddrF rfl rfl fl_37_0 ?_)
 refine AOps.cons rfl rfl (AOp.fieldAddrF rfl rfl fl_24_0 ?_)
 refine AOps.cons rfl rfl (AOp.loadF (.int .i64 b.Lo.X) rfl rfl ty_3 rfl ?_)
 refine AOps.cons rfl rfl (AOp.min2 rfl rfl rfl ?_)
 refine AOps.cons rfl rfl (AOp.fieldAddrF rfl rfl fl_37_0 ?_)
 refine AOps.cons rfl rfl (AOp.fieldAddrF rfl rfl fl_24_1 ?_)
 refine AOps.cons rfl rfl (AOp.loadF (.int .i64 a.Lo.Y) rfl rfl ty_3 rfl ?_)
 refine AOps.cons rfl rfl (AOp.fieldAddrF rfl rfl fl_37_0 ?_)
 refine AOps.cons rfl rfl (AOp.fieldAddrF rfl rfl fl_24_1 ?_)
 refine AOps.cons rfl rfl (AOp.loadF (.int .i64 b.Lo.Y) rfl rfl ty_3 rfl ?_)
 refine AOps.cons rfl rfl (AOp.min2 rfl rfl rfl ?_)
 refine AOps.cons rfl rfl (AOp.fieldAddrF rfl rfl fl_37_0 ?_)
 refine AOps.cons rfl rfl (AOp.fieldAddrF rfl rfl fl_24_2 ?_)
 refine AOps.cons rfl rfl (AOp.loadF (.int .i64 a.Lo.Z) rfl rfl ty_3 rfl ?_)
 refine AOps.cons rfl rfl (AOp.fieldAddrF rfl rfl fl_37_0 ?_)
 refine AOps.cons rfl rfl (AOp.fieldAddrF rfl rfl fl_24_2 ?_)
 refine AOps.cons rfl rfl (AOp.loadF (.int .i64 b.Lo.Z) rfl rfl ty_3 rfl ?_)
 refine AOps.cons rfl rfl (AOp.min2 rfl rfl rfl ?_)
 refine AOps.cons rfl rfl (AOp.build (cells := [.int .i64 (min a.Lo.X b.Lo.X), .int .i64 (min a.Lo.Y b.Lo.Y), .int .i64 (min a.Lo.Z b.Lo.Z)]) rfl tz_24 pl_24 rfl rfl ?_)
 refine AOps.cons rfl rfl (AOp.alloc rfl tz_24 ?_)
 intro i37 H38 n39 h40 k41
 have e42 := ne_new h36 n39
 have z43 := Mono.free m34 n39
 have h44 := keep k41 (ne_new h36 n39) h36
 have m45 := Mono.new m34 n39 k41
 refine AOps.cons rfl rfl (AOp.store' (cells' := [.int .i64 (min a.Lo.X b.Lo.X), .int .i64 (min a.Lo.Y b.Lo.Y), .int .i64 (min a.Lo.Z b.Lo.Z)]) (.agg [.int .i64 (min a.Lo.X b.Lo.X), .int .i64 (min a.Lo.Y b.Lo.Y), .int .i64 (min a.Lo.Z b.Lo.Z)]) rfl rfl ts_24 h40 rfl rfl rfl rfl ?_)
 intro H46 h47 k48
 have h49 := keep k48 e42 h44
 have m51 := Mono.set m45 z43 k48
 refine AOps.nil ?_
 change AWP _ _ _ _ _ _
 refine AWP.seq ?_
 refine AWP.frzP 5 h47 z43 rfl m51 fun H52 m53 k54 => ?_
 have h55 := (k54 _ e42).trans h49
 refine AWP.region (l := [0, 1, 2, 3, 4, 5, 6, 7, 8, 9, 10, 11, 12, 13, 14, 15, 16, 17, 18, 19, 20, 21, 22, 23]) rfl ?_
 refine AOps.cons rfl rfl (AOp.fieldAddrF rfl rfl fl_37_1 ?_)
 refine AOps.cons rfl rfl (AOp.fieldAddrF rfl rfl fl_24_0 ?_)
 refine AOps.cons rfl rfl (AOp.loadF (.int .i64 a.Hi.X) rfl rfl ty_3 rfl ?_)
 refine AOps.cons rfl rfl (AOp.fieldAddrF rfl rfl fl_37_1 ?_)
 refine AOps.cons rfl rfl (AOp.fieldAddrF rfl rfl fl_24_0 ?_)
 refine AOps.cons rfl rfl (AOp.loadF (.int .i64 b.Hi.X) rfl rfl ty_3 rfl ?_)
 refine AOps.cons rfl rfl (AOp.max2 rfl rfl rfl ?_)
 refine AOps.cons rfl rfl (AOp.fieldAddrF rfl rfl fl_37_1 ?_)
 refine AOps.cons rfl rfl (AOp.fieldAddrF rfl rfl fl_24_1 ?_)
 refine AOps.cons rfl rfl (AOp.loadF (.int .i64 a.Hi.Y) rfl rfl ty_3 rfl ?_)
 refine AOps.cons rfl rfl (AOp.fieldAddrF rfl rfl fl_37_1 ?_)
 refine AOps.cons rfl rfl (AOp.fieldAddrF rfl rfl fl_24_1 ?_)
 refine AOps.cons rfl rfl (AOp.loadF (.int .i64 b.Hi.Y) rfl rfl ty_3 rfl ?_)
 refine AOps.cons rfl rfl (AOp.max2 rfl rfl rfl ?_)
 refine AOps.cons rfl rfl (AOp.fieldAddrF rfl rfl fl_37_1 ?_)
 refine AOps.cons rfl rfl (AOp.fieldAddrF rfl rfl fl_24_2 ?_)
 refine AOps.cons rfl rfl (AOp.loadF (.int .i64 a.Hi.Z) rfl rfl ty_3 rfl ?_)
 refine AOps.cons rfl rfl (AOp.fieldAddrF rfl rfl fl_37_1 ?_)
 refine AOps.cons rfl rfl (AOp.fieldAddrF rfl rfl fl_24_2 ?_)
 refine AOps.cons rfl rfl (AOp.loadF (.int .i64 b.Hi.Z) rfl rfl ty_3 rfl ?_)
 refine AOps.cons rfl rfl (AOp.max2 rfl rfl rfl ?_)
 refine AOps.cons rfl rfl (AOp.build (cells := [.int .i64 (max a.Hi.X b.Hi.X), .int .i64 (max a.Hi.Y b.Hi.Y), .int .i64 (max a.Hi.Z b.Hi.Z)]) rfl tz_24 pl_24 rfl rfl ?_)
 refine AOps.cons rfl rfl (AOp.alloc rfl tz_24 ?_)
 intro i56 H57 n58 h59 k60
 have e61 := ne_new h55 n58
 have z62 := Mono.free m53 n58
 have h63 := keep k60 (ne_new h55 n58) h55
 have m64 := Mono.new m53 n58 k60
 refine AOps.cons rfl rfl (AOp.store' (cells' := [.int .i64 (max a.Hi.X b.Hi.X), .int .i64 (max a.Hi.Y b.Hi.Y), .int .i64 (max a.Hi.Z b.Hi.Z)]) (.agg [.int .i64 (max a.Hi.X b.Hi.X), .int .i64 (max a.Hi.Y b.Hi.Y), .int .i64 (max a.Hi.Z b.Hi.Z)]) rfl rfl ts_24 h59 rfl rfl rfl rfl ?_)
 intro H65 h66 k67
 have h68 := keep k67 e61 h63
 have m70 := Mono.set m64 z62 k67
 refine AOps.nil ?_
 change AWP _ _ _ _ _ _
 refine AWP.seq ?_
 refine AWP.frzP 6 h66 z62 rfl m70 fun H71 m72 k73 => ?_
 have h74 := (k73 _ e61).trans h68
 refine AWP.region (l := [0, 1, 2, 3]) rfl ?_
 refine AOps.cons rfl rfl (AOp.loadF (.agg [.int .i64 (min a.Lo.X b.Lo.X), .int .i64 (min a.Lo.Y b.Lo.Y), .int .i64 (min a.Lo.Z b.Lo.Z)]) rfl rfl ty_24 rfl ?_)
 refine AOps.cons rfl rfl (AOp.loadF (.agg [.int .i64 (max a.Hi.X b.Hi.X), .int .i64 (max a.Hi.Y b.Hi.Y), .int .i64 (max a.Hi.Z b.Hi.Z)]) rfl rfl ty_24 rfl ?_)
 refine AOps.cons rfl rfl (AOp.build (cells := [.int .i64 (min a.Lo.X b.Lo.X), .int .i64 (min a.Lo.Y b.Lo.Y), .int .i64 (min a.Lo.Z b.Lo.Z), .int .i64 (max a.Hi.X b.Hi.X), .int .i64 (max a.Hi.Y b.Hi.Y), .int .i64 (max a.Hi.Z b.Hi.Z)]) rfl tz_37 pl_37 rfl rfl ?_)
 refine AOps.cons rfl rfl (AOp.store' (cells' := [.int .i64 (min a.Lo.X b.Lo.X), .int .i64 (min a.Lo.Y b.Lo.Y), .int .i64 (min a.Lo.Z b.Lo.Z), .int .i64 (max a.Hi.X b.Hi.X), .int .i64 (max a.Hi.Y b.Hi.Y), .int .i64 (max a.Hi.Z b.Hi.Z)]) (.agg [.int .i64 (min a.Lo.X b.Lo.X), .int .i64 (min a.Lo.Y b.Lo.Y), .int .i64 (min a.Lo.Z b.Lo.Z), .int .i64 (max a.Hi.X b.Hi.X), .int .i64 (max a.Hi.Y b.Hi.Y), .int .i64 (max a.Hi.Z b.Hi.Z)]) rfl rfl ts_37 h74 rfl rfl rfl rfl ?_)
 intro H75 h76 k77
 have m79 := Mono.set m72 z24 k77
 refine AOps.nil ?_
 change AWP _ _ _ _ _ _
 refine AWP.ret ?_
 refine ⟨_, _, Ghost.refl, .inr rfl, _, Res.list1 rfl (.cell (v := .agg [.int .i64 (min a.Lo.X b.Lo.X), .int .i64 (min a.Lo.Y b.Lo.Y), .int .i64 (min a.Lo.Z b.Lo.Z), .int .i64 (max a.Hi.X b.Hi.X), .int .i64 (max a.Hi.Y b.Hi.Y), .int .i64 (max a.Hi.Z b.Hi.Z)]) rfl ty_37 h76 rfl (.nil)), ?_, m79⟩
 exact (congrArg AV.agg (lc (congrArg (AV.int .i64) (show (min a.Lo.X b.Lo.X : Int) = ((joinB a b).Lo).X from by rfl)) (lc (congrArg (AV.int .i64) (show (min a.Lo.Y b.Lo.Y : Int) = ((joinB a b).Lo).Y from by rfl)) (lc (congrArg (AV.int .i64) (show (min a.Lo.Z b.Lo.Z : Int) = ((joinB a b).Lo).Z from by rfl)) (lc (congrArg (AV.int .i64) (show (max a.Hi.X b.Hi.X : Int) = ((joinB a b).Hi).X from by rfl)) (lc (congrArg (AV.int .i64) (show (max a.Hi.Y b.Hi.Y : Int) = ((joinB a b).Hi).Y from by rfl)) (lc (congrArg (AV.int .i64) (show (max a.Hi.Z b.Hi.Z : Int) = ((joinB a b).Hi).Z from by rfl)) rfl)))))))
end Go.Proofs.B
