/- A part of the proof that a law answers true for every input of its row: own work, by an AI agent. -/
import Derived.Test.YtfgfalidpbbkhaaDoorB00
import Derived.Maps.RangeRun
import Derived.OpenShut
import Derived.Deep.Slices
import Derived.Lib.LaidTab
import Derived.Deep.OwnRows
import Derived.WideKeyArgs
import Derived.Test.YtfgfalidpbbkhaaDoorProg
set_option linter.unusedSimpArgs false
set_option linter.unusedVariables false
set_option linter.defProp false
namespace Go.AH
variable [Globs]
set_option linter.unusedSectionVars false
open Go Go.Maps Go.ChangeMaps
section
variable {P : Program} {n : Nat} {f : Nat → AV} {H : Heap} {K : (Nat → AV) → Heap → Prop} {ty : TypeId} {pos : String} {after : Array Edge} {guard : Option (Nat × Bool)} {d : Nat}
theorem AOp.values {op : Op} (hn : Nat.ble (d + 1) n = true)
    (h : ∀ μ a w, SR n w μ f H a → ∃ x H' v w' μ', (execOp a.eval ⟨some d, op, ty, pos, after, guard⟩).run P w = .ok (.value v) w' ∧ Ext w μ H w' μ' H' ∧ HR w' μ' H' ∧ VR w' μ' H' x v ∧ K (upd f d x) H') :
    AOp P n ⟨some d, op, ty, pos, after, guard⟩ K f H := by
  intro μ a w hs Q
  obtain ⟨x, H', v, w', μ', h1, h2, h3, h4, hK⟩ := h μ a w hs
  unfold Oper.wp
  rw [h1]
  exact ⟨μ', _, H', hs.put h2 h3 hn h4, h2, hK⟩
theorem newiter {w : World} {μ : Nat → Nat} (hr : HR w μ H) {id m k : Nat} {es : List (AV × AV)} (hid : H id = none ∨ H id = some .res) (hm : H m = some (.map es)) :
    HR { w with heap := w.heap.push (.mapIter (some (μ m)) k #[] k) } (updN μ id w.heap.size) (updH H id (.iter (.map m k []))) := by
  have he := newblock hr hid (o := .mapIter (some (μ m)) k #[] k) (B := .iter (.map m k []))
  have hmi : m ≠ id := by rintro rfl; rcases hid with h | h <;> rw [h] at hm <;> cases hm
  refine hr.change he (fun i => updH_eq _ _ _ _) (fun i hi => by simp [updN, hi]) ?_ ?_ ?_ ?_ ?_ ?_
  · intro _ i C _ hi hC
    have := hr.lt hi hC
    simp only [updN, if_true]; omega
  · intro i C _ hi hC
    have := hr.lt hi hC
    rw [Array.getElem?_push, if_neg (Nat.ne_of_lt this)]
  · intro ver c hB; cases hB
  · intro es h; cases h
  · intro es _ _ h; cases h
  · intro it h
    cases h
    refine ⟨by simp [updN, It.obj, hmi], fun m' n' seen' e => ?_⟩
    cases e
    exact ⟨es, by rw [updH_eq, if_neg hmi]; exact hm⟩
theorem AOp.range {t kt et : TypeId} {x : Operand} {m : Nat} {es : List (AV × AV)} (hn : Nat.ble (d + 1) n = true) (hx : ev f x = .map m) (hm : H m = some (.map es)) (ht : P.underlying t = some (.map kt et))
    (hK : ∀ id H', H id = none → H' id = some (.iter (.map m es.length [])) → (∀ i, i ≠ id → H' i = H i) → K (upd f d (.it id)) H') : AOp P n ⟨some d, .range t x, ty, pos, after, guard⟩ K f H :=
  .fresh fun id hid => .value _ _ hn (fun μ a w hs => by
    have h1 := hs.ev x
    rw [hx] at h1
    generalize hzz : a.eval x = zz at h1
    cases h1
    obtain ⟨hd, ents, clock, g1, g2, g3⟩ := hs.hr.maps m es hm
    have hb := hs.hr.born m es ents clock hm g1
    have hc : clock = es.length := by rw [hb.1, g2]
    subst hc
    refine ⟨.pointer (some ⟨w.heap.size, 0, none⟩), { w with heap := w.heap.push (.mapIter (some (μ m)) es.length #[] es.length) }, updN μ id w.heap.size, ?_, newblock hs.hr (.inl hid), newiter hs.hr (.inl hid) hm, ?_⟩
    · simp [execOp, hzz, Instr.range, run_under ht, getObj, Sem.run, g1, newObj]
    · have := VR.iter (w := { w with heap := w.heap.push (.mapIter (some (μ m)) es.length #[] es.length) }) (μ := updN μ id w.heap.size) (H := updH H id (.iter (.map m es.length []))) (id := id) ⟨_, by rw [updH_eq, if_pos rfl]⟩
      simpa [updN] using this) (hK id _ hid (updH_same _ _ _) fun _ h => updH_ne _ _ h)
theorem AOp.entry {x : Operand} {id m j : Nat} {seen : List Nat} {es : List (AV × AV)} {e : AV × AV} (hn : Nat.ble (d + 1) n = true) (hx : ev f x = .it id) (hid : H id = some (.iter (.map m es.length (seen ++ [j])))) (hm : H m = some (.map es)) (he : es[j]? = some e)
    (hK : K (upd f d (.tup [e.1, e.2])) H) : AOp P n ⟨some d, .entry x, ty, pos, after, guard⟩ K f H :=
  .pureV _ hn (fun μ a w hs => by
    have h1 := hs.ev x
    rw [hx] at h1
    have hp : a.eval x = .pointer (some ⟨μ id, 0, none⟩) := by
      generalize a.eval x = zz at h1
      cases h1
      rfl
    obtain ⟨hd, ents, clock, g1, g2, g3⟩ := hs.hr.maps m es hm
    have hb := hs.hr.born m es ents clock hm g1
    have hc : clock = es.length := by rw [hb.1, g2]
    subst hc
    obtain ⟨i1, _⟩ := hs.hr.iters id _ hid
    have hje : j < es.length := (List.getElem?_eq_some_iff.1 he).1
    have hj : j < ents.size := by omega
    have hjb := hb.2 j ents[j] (Array.getElem?_eq_getElem hj)
    obtain ⟨v1, v2⟩ := g3 j _ _ he (Array.getElem?_eq_getElem hj)
    have hnd : (ents.toList.map (·.born)).Nodup := by
      rw [List.nodup_iff_pairwise_ne, List.pairwise_map, List.pairwise_iff_getElem]
      intro a b ha hb' hab e
      have h1 := hb.2 a ents[a] (Array.getElem?_eq_getElem (by simpa using ha))
      have h2 := hb.2 b ents[b] (Array.getElem?_eq_getElem (by simpa using hb'))
      simp only [Array.getElem_toList] at e
      omega
    have hr : w.heap[μ id]? = some (.mapIter (some (μ m)) es.length (seen.toArray.push ents[j].born) es.length) := by
      rw [i1, hjb]; simp [It.obj]
    have := run_entry_at (P := P) w (μ id) (μ m) es.length seen.toArray ents es.length ents[j] hr g1 (by simp) hnd
    refine ⟨_, by simp only [execOp, hp, this, Sem.run_map, Sem.run_bind, Result.andThen_ok]; rfl, .tup (cells := [e.1, e.2]) rfl ?_⟩
    intro k x y hx hy
    match k, hx, hy with
    | 0, hx, hy => simp at hx hy; subst hx hy; exact v1
    | 1, hx, hy => simp at hx hy; subst hx hy; exact v2
    | k + 2, hx, _ => simp at hx) hK
end
end Go.AH
namespace Go.AH
variable [Globs]
set_option linter.unusedSectionVars false
open Go Go.Maps
section
variable {P : Program} {n : Nat} {f : Nat → AV} {H : Heap} {K : (Nat → AV) → Heap → Prop} {ty : TypeId} {pos : String} {after : Array Edge} {guard : Option (Nat × Bool)} {d : Nat}
theorem AOp.lookup' {t kt et : TypeId} {x ix : Operand} {id : Nat} {es : List (AV × AV)} {kv z r : AV} (hn : Nat.ble (d + 1) n = true) (hx : ev f x = .map id) (hid : H id = some (.map es)) (hk : ev f ix = kv) (hkv : KOK P kt kv) (hes : ∀ e ∈ es, KOK P kt e.1)
    (ht : TMap P t kt et) (hz : TZeroV P et z) (hr : (mget es kv).getD z = r) (hK : K (upd f d r) H) : AOp P n ⟨some d, .lookup t x ix false, ty, pos, after, guard⟩ K f H :=
  .lookup hn hx hid hk hkv hes ht hz (by rw [hr]; exact hK)
theorem AOp.mapUpdate2 {t kt et : TypeId} {m ix y : Operand} {id : Nat} {es es' : List (AV × AV)} {kv v : AV} (hx : ev f m = .map id) (hid : H id = some (.map es)) (hk : ev f ix = kv) (hkv : KOK P kt kv) (hes : ∀ e ∈ es, KOK P kt e.1)
    (ht : TMap P t kt et) (hy : ev f y = v) (hput : mput es kv v = es') (hK : ∀ H', H' id = some (.map es') → (∀ i, i ≠ id → H' i = H i) → K f H') : AOp P n ⟨none, .mapUpdate t m ix y, ty, pos, after, guard⟩ K f H :=
  .mapUpdate' hx hid hk hkv hes ht hy (by rw [hput]; exact hK)
end
end Go.AH
namespace Go.AH
variable [Globs]
set_option linter.unusedSectionVars false
open Go
theorem AOp.xcall {P : Program} {n : Nat} {f : Nat → AV} {H : Heap} {K : (Nat → AV) → Heap → Prop} {ty : TypeId} {pos : String} {after : Array Edge} {guard : Option (Nat × Bool)} {d : Nat} {g : FuncId} {c : Operand} {args : Array Operand} {at_ : Array TypeId} {caps «as» : List AV} {R : AV → Heap → Prop} (hn : Nat.ble (d + 1) n = true) (hc : ev f c = .fn g caps) (has : args.toList.map (ev f) ++ caps = «as») (ht : TFun P g)
    (hC : ACalls P g «as» H R) (hK : ∀ r H', R r H' → K (upd f d r) H') : AOp P n ⟨some d, .call { callee := .value c, args, argTypes := at_ }, ty, pos, after, guard⟩ K f H :=
  .call hn hc rfl ht (by rw [has]; exact hC) hK
end Go.AH
namespace Go.AH
variable [Globs]
set_option linter.unusedSectionVars false
open Go
theorem Own.base {H0 H H' : Heap} {es len : Nat} {v : AV} {cells : List AV} (h : Own H H' es v len cells) (hm : Mono H0 H) : Own H0 H' es v len cells := by
  rcases h with h | ⟨id, ver, h1, h2, h3, h4⟩
  · exact .inl h
  · exact .inr ⟨id, ver, h1, h2, hm.free h3, h4⟩
theorem Sep.fresh {H0 H H' : Heap} {es es' len len' : Nat} {v w : AV} {cells cells' : List AV} (hw : Own H0 H es w len cells) (hv : Own H H' es' v len' cells') : Sep w v := by
  rcases hw with ⟨rfl, _, _⟩ | ⟨id, ver, rfl, h2, h3, h4⟩
  · exact Sep.nilL _
  · rcases hv with ⟨rfl, _, _⟩ | ⟨id', ver', rfl, g2, g3, g4⟩
    · exact Sep.nilR _
    · intro i a b c d i' a' b' c' d' e1 e2 e
      cases e1; cases e2; subst e
      rw [h2] at g3; cases g3
end Go.AH
namespace Go.AH
variable [Globs]
set_option linter.unusedSectionVars false
open Go
theorem loadv_if {ag : Bool} {sz off : Nat} {cells : List AV} : loadv ag sz off cells = if ag = true then (if off + sz ≤ cells.length then some (.agg ((cells.drop off).take sz)) else none) else cells[off]? := by
  unfold loadv
  cases ag
  · rfl
  · simp only [if_true]
    cases h : Nat.ble (off + sz) cells.length
    · rw [if_neg fun g => by rw [Nat.ble_eq_true_of_le g] at h; cases h]
    · rw [if_pos (Nat.le_of_ble_eq_true h)]
theorem ld_skip {A B : List AV} {ag : Bool} {sz n off off' : Nat} {r : Option AV} (hA : A.length = n) (ho : off = n + off') (h : loadv ag sz off' B = r) : loadv ag sz off (A ++ B) = r := by
  subst ho hA
  rw [← h, loadv_if, loadv_if]
  cases ag
  · simp only [Bool.false_eq_true, if_false]
    rw [List.getElem?_append_right (by omega)]; congr 1; omega
  · simp only [if_true, List.length_append]
    rw [List.drop_append, List.drop_of_length_le (show A.length ≤ A.length + off' by omega)]
    simp only [Nat.add_sub_cancel_left, List.nil_append]
    by_cases g : off' + sz ≤ B.length
    · rw [if_pos (by omega), if_pos g]
    · rw [if_neg (by omega), if_neg g]
theorem ld_fst {A B : List AV} {ag : Bool} {sz off : Nat} {v : AV} (hs : ag = false → sz = 1) (h : loadv ag sz off A = some v) : loadv ag sz off (A ++ B) = some v := by
  rw [loadv_if] at h ⊢
  cases ag
  · simp only [Bool.false_eq_true, if_false] at h ⊢
    have : off < A.length := by
      rcases Nat.lt_or_ge off A.length with g | g
      · exact g
      · rw [List.getElem?_eq_none g] at h; cases h
    rw [List.getElem?_append_left this]; exact h
  · simp only [if_true, List.length_append] at h ⊢
    split at h
    · rename_i g
      rw [if_pos (by omega), List.drop_append_of_le_length (by omega), List.take_append_of_le_length (by rw [List.length_drop]; omega)]
      exact h
    · cases h
theorem ld_all {A : List AV} {n : Nat} (h : A.length = n) : loadv true n 0 A = some (.agg A) := by
  subst h; rw [loadv_if]; simp
theorem len1 {α : Type} {xs : List α} {e : α → AV} {n : Nat} (h : xs.length = n) : (xs.map e).length = n := by rw [List.length_map]; exact h
theorem lenM {α : Type} {xs : List α} {e : α → List AV} {m n k : Nat} (he : ∀ x, (e x).length = m) (h : xs.length = n) (hk : n * m = k) : (xs.flatMap e).length = k := by rw [flatMap_length he, h]; exact hk
theorem len_app {A B : List AV} {m n k : Nat} (hA : A.length = m) (hB : B.length = n) (hk : m + n = k) : (A ++ B).length = k := by rw [List.length_append, hA, hB]; exact hk
def SubAt (cells : List AV) (off : Nat) (sub : List AV) : Prop := ∀ (j : Nat) (x : AV), sub[j]? = some x → cells[off + j]? = some x
theorem SubAt.all {A : List AV} : SubAt A 0 A := fun j x h => by rw [Nat.zero_add]; exact h
theorem SubAt.fst {A B S : List AV} {off : Nat} (h : SubAt A off S) : SubAt (A ++ B) off S := fun j x hx => by
  have := h j x hx
  have hl : off + j < A.length := (List.getElem?_eq_some_iff.1 this).1
  rw [List.getElem?_append_left hl]; exact this
theorem SubAt.skip {A B S : List AV} {n off off' : Nat} (hA : A.length = n) (ho : off = n + off') (h : SubAt B off' S) : SubAt (A ++ B) off S := fun j x hx => by
  subst ho hA
  rw [List.getElem?_append_right (by omega), show A.length + off' + j - A.length = off' + j by omega]
  exact h j x hx
section
variable {P : Program} {n : Nat} {f : Nat → AV} {H : Heap} {K : (Nat → AV) → Heap → Prop} {ty : TypeId} {pos : String} {after : Array Edge} {guard : Option (Nat × Bool)} {d : Nat}
theorem AOp.sliceAF {t : TypeId} {x : Operand} {m' m es off : Nat} {cells sub : List AV} {agg : Bool} (hn : Nat.ble (d + 1) n = true) (hx : ev f x = .fptr cells off) (ht : TArr P t m agg es) (hm : m' = m) (hs : SubAt cells off sub)
    (hK : K (upd f d (.sl m' sub)) H) : AOp P n ⟨some d, .slice t x none none none, ty, pos, after, guard⟩ K f H :=
  .pureV _ hn (fun μ a w hsr => by
    subst hm
    have g1 := hsr.ev x; rw [hx] at g1
    obtain ⟨e, t1, t2⟩ := ht
    generalize hz : a.eval x = z at g1
    cases g1 with
    | fptr hb hc hv =>
      rename_i b o ys
      have hbd := run_bounds (P := P) (isS := false) (cap := m') (len := m') (lo := none) (hi := none) (l := 0) (h := m') hsr rfl rfl (by omega) (by omega) (by omega) (Nat.le_refl _)
      simp only [Option.map_none] at hbd
      refine ⟨.slice (some ⟨b, o + off, none⟩) m' m', ?_, .sl (ys := fun j => ys (off + j)) (Nat.le_refl _) hb (fun j x hj => ?_) (fun j x hj => hv _ x (hs j x hj))⟩
      · simp [execOp, hz, Instr.sliceAt, run_under t1, Instr.sureAddr, hbd, t2.size.run]
      · rw [Nat.add_assoc]; exact hc _ x (hs j x hj)) hK
end
theorem freeze_ptr {w : World} {μ : Nat → Nat} {H : Heap} (hr : HR w μ H) {id ver off : Nat} {cells : List AV} (hid : H id = some (.row ver cells)) {v : Value} (hv : VR w μ H (.ptr id ver off) v) : VR w μ (updH H id (.dead ver)) (.fptr cells off) v := by
  obtain ⟨he, _, hf⟩ := freeze hr hid
  have hh := hr.holds hid
  cases hv with
  | ptr hk ha =>
    have := ha ⟨cells, hid⟩
    subst this
    have hex : ∀ j, j < cells.length → ∃ y, w.cell? ⟨μ id, 0 + j, none⟩ = some y ∧ ∀ x, cells[j]? = some x → VR w μ H x y := by
      intro j hj
      obtain ⟨y, h1, h2⟩ := hh j _ (List.getElem?_eq_getElem hj)
      refine ⟨y, h1, fun x hx => ?_⟩
      rw [List.getElem?_eq_getElem hj] at hx; cases hx; exact h2
    let ys : Nat → Value := fun j => if h : j < cells.length then Classical.choose (hex j h) else undef
    have e : (⟨μ id, off, none⟩ : Addr) = ⟨μ id, 0 + off, none⟩ := by rw [Nat.zero_add]
    rw [e]
    refine .fptr (ys := ys) hf (fun j x hx => ?_) (fun j x hx => ?_)
    · have hj := (List.getElem?_eq_some_iff.1 hx).1
      simp only [ys, dif_pos hj]; exact (Classical.choose_spec (hex j hj)).1
    · have hj := (List.getElem?_eq_some_iff.1 hx).1
      simp only [ys, dif_pos hj]; exact ((Classical.choose_spec (hex j hj)).2 x hx).ext he
theorem Ghost.freezeP {n t id ver off : Nat} {f : Nat → AV} {H : Heap} {cells : List AV} (hid : H id = some (.row ver cells)) (ht : f t = .ptr id ver off) : Ghost n f H (upd f t (.fptr cells off)) (updH H id (.dead ver)) := by
  intro μ a w hs
  obtain ⟨h1, h2, h3⟩ := AH.freeze hs.hr hid
  refine ⟨⟨h2, hs.size, fun u => ?_, hs.defers⟩, h1⟩
  rw [upd_eq]
  split
  · rename_i hu; subst hu
    exact freeze_ptr hs.hr hid (ht ▸ hs.slots u)
  · exact (hs.slots u).ext h1
section
variable {P : Program} {n : Nat} {f : Nat → AV} {H H0 : Heap} {K : (Nat → AV) → Heap → Prop} {o : Oper} {c : Code} {Q : Exit → (Nat → AV) → Heap → Prop} {F : (Nat → AV) → Heap → Prop} {id ver off : Nat} {cells : List AV}
theorem AOp.frzP (t : Nat) (hid : H id = some (.row ver cells)) (h0 : H0 id = none) (ht : f t = .ptr id ver off) (hm : Mono H0 H) (hK : ∀ H', Mono H0 H' → (∀ i, i ≠ id → H' i = H i) → AOp P n o K (upd f t (.fptr cells off)) H') : AOp P n o K f H :=
  .ghost (Ghost.freezeP hid ht) (hK _ (hm.set h0 fun _ h => updH_ne _ _ h) fun _ h => updH_ne _ _ h)
theorem AWP.frzP (t : Nat) (hid : H id = some (.row ver cells)) (h0 : H0 id = none) (ht : f t = .ptr id ver off) (hm : Mono H0 H) (hK : ∀ H', Mono H0 H' → (∀ i, i ≠ id → H' i = H i) → AWP P n c Q (upd f t (.fptr cells off)) H') : AWP P n c Q f H :=
  .ghost (Ghost.freezeP hid ht) (hK _ (hm.set h0 fun _ h => updH_ne _ _ h) fun _ h => updH_ne _ _ h)
theorem Fin.frzP (t : Nat) (hid : H id = some (.row ver cells)) (h0 : H0 id = none) (ht : f t = .ptr id ver off) (hm : Mono H0 H) (hK : ∀ H', Mono H0 H' → (∀ i, i ≠ id → H' i = H i) → ∃ f2 H2, Ghost n (upd f t (.fptr cells off)) H' f2 H2 ∧ F f2 H2) : ∃ f2 H2, Ghost n f H f2 H2 ∧ F f2 H2 :=
  let ⟨f2, H2, g2, q⟩ := hK _ (hm.set h0 fun _ h => updH_ne _ _ h) fun _ h => updH_ne _ _ h
  ⟨f2, H2, Ghost.trans (Ghost.freezeP hid ht) g2, q⟩
def UN (P : Program) (n : Nat) (b : Code) (Q : Exit → (Nat → AV) → Heap → Prop) : Nat → (Nat → AV) → Heap → Prop
  | 0, _, _ => False
  | N + 1, f, H => AWP P n b (Then (UN P n b Q N) Q) f H
theorem UN.step {b : Code} {N : Nat} (h : AWP P n b (Then (UN P n b Q N) Q) f H) : UN P n b Q (N + 1) f H := h
theorem AWP.unroll {b : Code} (N : Nat) (h : UN P n b Q N f H) : AWP P n (.loop b) Q f H := by
  refine AWP.loop (fun k f H => UN P n b Q k f H) (k := N) h fun k f H hk => ?_
  cases k with
  | zero => exact hk.elim
  | succ m => exact AWP.mono hk fun e f H q => by cases e <;> first | exact q | exact ⟨m, Nat.lt_succ_self m, q⟩
end
def arrL {α : Type} [Inhabited α] (n : Nat) (xs : List α) : List α := (List.range n).map fun (k : Nat) => at_ xs (k : Int)
theorem arrL_len {α : Type} [Inhabited α] (n : Nat) (xs : List α) : (arrL n xs).length = n := by simp [arrL]
theorem arrL_self {α : Type} [Inhabited α] {n : Nat} {xs : List α} (h : xs.length = n) : arrL n xs = xs := by
  apply List.ext_getElem
  · rw [arrL_len, h]
  · intro i h1 h2
    simp [arrL, at_, h2]
theorem ld_off {cells : List AV} {ag : Bool} {sz o o' : Nat} {v : AV} (e : o = o') (h : loadv ag sz o' cells = some v) : loadv ag sz o cells = some v := e ▸ h
theorem wr_skip {A B C vs : List AV} {n off off' : Nat} (hA : A.length = n) (ho : off = n + off') (hw : writeL B off' vs = C) : writeL (A ++ B) off vs = A ++ C := by
  subst hw ho hA
  unfold writeL
  rw [List.take_append, List.take_of_length_le (by omega), List.drop_append, List.drop_of_length_le (show A.length ≤ A.length + off' + vs.length by omega)]
  simp only [Nat.add_sub_cancel_left, List.nil_append, List.append_assoc]
  congr 3
  congr 1
  omega
theorem wr_all {A vs : List AV} {n : Nat} (hA : A.length = n) (hv : vs.length = n) : writeL A 0 vs = vs := by
  unfold writeL; rw [List.drop_of_length_le (by omega)]; simp
theorem blelen {A : List AV} {n o : Nat} (h : A.length = n) (ho : o ≤ n) : Nat.ble o A.length = true := Nat.ble_eq_true_of_le (by omega)
theorem all_one1 {α : Type} {e : α → AV} (he : ∀ x, (e x).one = true) (xs : List α) : (xs.map e).all AV.one = true := List.all_eq_true.2 (one_map he)
theorem ff {b : Bool} (h : b = false) : ¬ b = true := fun e => by rw [e] at h; cases h
section
variable {P : Program} {n : Nat} {f : Nat → AV} {H : Heap} {K : (Nat → AV) → Heap → Prop} {ty : TypeId} {pos : String} {after : Array Edge} {guard : Option (Nat × Bool)} {d : Nat}
theorem AOp.shrK {t t' : TypeId} {x y : Operand} {k k' : IntKind} {p q D : Int} (hn : Nat.ble (d + 1) n = true) (hx : ev f x = .int k p) (hy : ev f y = .int k' q) (hq : 0 ≤ q) (hk : Nat.ble q.toNat k.bits = true) (hD : (2 : Int) ^ q.toNat = D)
    (hK : K (upd f d (.int k (p / D))) H) : AOp P n ⟨some d, .binOp .shr t x y t', ty, pos, after, guard⟩ K f H :=
  .shr hn hx hy hq (by
    rw [Nat.min_eq_left (Nat.le_of_ble_eq_true hk), hD, Int.fdiv_eq_ediv_of_nonneg _ (by rw [← hD]; exact Int.le_of_lt (Int.pow_pos (by decide)))]; exact hK)
theorem AOp.quoT {t t' : TypeId} {x y : Operand} {p q : Int} (hn : Nat.ble (d + 1) n = true) (hx : ev f x = .int .i64 p) (hy : ev f y = .int .i64 q) (hq : q ≠ 0) (hr : -9223372036854775808 ≤ p.tdiv q ∧ p.tdiv q ≤ 9223372036854775807)
    (hK : K (upd f d (.int .i64 (p.tdiv q))) H) : AOp P n ⟨some d, .binOp .quo t x y t', ty, pos, after, guard⟩ K f H :=
  .quo hn hx hy hq (by rw [IntWalk.i64_in _ hr]; exact hK)
theorem AOp.max4 {x y z u : Operand} {at_ : Array TypeId} {k : IntKind} {p q r s : Int} (hn : Nat.ble (d + 1) n = true) (hx : ev f x = .int k p) (hy : ev f y = .int k q) (hz : ev f z = .int k r) (hu : ev f u = .int k s) (hK : K (upd f d (.int k (max (max (max p q) r) s))) H) :
    AOp P n ⟨some d, .call { callee := .builtin .max, args := #[x, y, z, u], argTypes := at_ }, ty, pos, after, guard⟩ K f H :=
  .pureV _ hn (fun μ a w hs => by
    have h1 := hs.ev x; rw [hx] at h1
    have h2 := hs.ev y; rw [hy] at h2
    have h3 := hs.ev z; rw [hz] at h3
    have h4 := hs.ev u; rw [hu] at h4
    refine ⟨.int k (max (max (max p q) r) s), ?_, .int _ _⟩
    rw [run_call_builtin (r := .ok (.int k (max (max (max p q) r) s)) w) w ?_ rfl]
    · rfl
    · simp only [List.map_toArray, List.map_cons, List.map_nil, h1.int_inv, h2.int_inv, h3.int_inv, h4.int_inv, Builtin.max_, List.foldlM_cons, List.foldlM_nil, Builtin.max2, Sem.run_bind, Sem.run_pure, Result.andThen_ok]
      have e : ∀ a b : Int, (if b > a then b else a) = max a b := fun a b => by
        by_cases h : b > a
        · rw [if_pos h, Int.max_eq_right (by omega)]
        · rw [if_neg h, Int.max_eq_left (by omega)]
      rw [e, e, e]) hK
end
end Go.AH
namespace Go.AH
variable [Globs]
set_option linter.unusedSectionVars false
open Go Go.Maps
def flatI (P : Program) : Nat → TypeId → Bool
  | 0, _ => false
  | d + 1, t =>
    match P.underlying t with
    | some (.int .i64) => P.cellsOf t == 1
    | some (.array n e) => flatI P d e && P.cellsOf t == n * P.cellsOf e
    | some (.struct fs) => fs.all (·.name != "_") && fs.toList.all fun f => flatI P d f.type && Nat.ble (f.offset + P.cellsOf f.type) (P.cellsOf t)
    | _ => false
theorem mapM_ex {α β : Type} {f : α → Option β} : ∀ {l : List α}, (∀ x ∈ l, ∃ y, f x = some y) → ∃ ys, l.mapM f = some ys
  | [], _ => ⟨[], rfl⟩
  | x :: l, h => by
    obtain ⟨y, hy⟩ := h x (.head _)
    obtain ⟨ys, hys⟩ := mapM_ex fun z hz => h z (.tail _ hz)
    exact ⟨y :: ys, by rw [List.mapM_cons, hy, hys]; rfl⟩
theorem flat_lits {P : Program} : ∀ (k d : Nat) (t : TypeId), k ≤ d → flatI P k t = true → ∀ xs : List Int, xs.length = P.cellsOf t → (∀ x ∈ xs, inR x) → ∃ ls, P.keyLits d t (xs.map fun x => .int .i64 x) = some ls
  | 0, _, _, _, h, _, _, _ => by cases h
  | k + 1, d, t, hd, h, xs, hl, hx => by
    obtain ⟨d, rfl⟩ : ∃ e, d = e + 1 := ⟨d - 1, by omega⟩
    have cut : ∀ o c, o + c ≤ xs.length → ((xs.map fun x => Value.int .i64 x).drop o).take c = ((xs.drop o).take c).map fun x => Value.int .i64 x := fun o c _ => by rw [← List.map_drop, ← List.map_take]
    have cl : ∀ o c, o + c ≤ xs.length → ((xs.drop o).take c).length = c := fun o c h => by rw [List.length_take, List.length_drop]; omega
    have ci : ∀ o c, ∀ x ∈ (xs.drop o).take c, inR x := fun o c x hxx => hx x (List.mem_of_mem_drop (List.mem_of_mem_take hxx))
    unfold flatI at h
    rw [Program.keyLits.eq_def]
    cases hu : P.underlying t with
    | none => rw [hu] at h; cases h
    | some u =>
      rw [hu] at h
      cases u <;> try (cases h; done)
      · rename_i q
        cases q <;> try (cases h; done)
        simp only at h
        rw [beq_iff_eq] at h
        match xs, hl, hx with
        | [], hl, _ => simp at hl; omega
        | [x], _, hx => exact ⟨[.int .i64 x], by simp [hu, wf_of (hx x (.head _))]⟩
        | _ :: _ :: _, hl, _ => simp at hl; omega
      · rename_i n e
        simp only [Bool.and_eq_true, beq_iff_eq] at h
        obtain ⟨ys, hys⟩ := mapM_ex (f := fun i => P.keyLits d e (((xs.map fun x => Value.int .i64 x).drop (i * P.cellsOf e)).take (P.cellsOf e))) (l := List.range n) fun i hi => by
          rw [List.mem_range] at hi
          have hle : i * P.cellsOf e + P.cellsOf e ≤ xs.length := by
            rw [hl, h.2]
            have := Nat.mul_le_mul_right (P.cellsOf e) (show i + 1 ≤ n from hi)
            rw [Nat.add_mul] at this; omega
          simp only [cut _ _ hle]
          exact flat_lits k d e (by omega) h.1 _ (cl _ _ hle) (ci _ _)
        refine ⟨ys.flatten, ?_⟩
        simp only [hu, List.length_map, hl, if_true]
        rw [hys]; rfl
      · rename_i fs
        simp only [Bool.and_eq_true] at h
        obtain ⟨ys, hys⟩ := mapM_ex (f := fun f : Field => P.keyLits d f.type (((xs.map fun x => Value.int .i64 x).drop f.offset).take (P.cellsOf f.type))) (l := fs.toList) fun f hf => by
          have g := List.all_eq_true.1 h.2 f hf
          simp only [Bool.and_eq_true] at g
          have hle : f.offset + P.cellsOf f.type ≤ xs.length := by rw [hl]; exact Nat.le_of_ble_eq_true g.2
          simp only [cut _ _ hle]
          exact flat_lits k d f.type (by omega) g.1 _ (cl _ _ hle) (ci _ _)
        refine ⟨ys.flatten, ?_⟩
        simp only [hu, List.length_map, hl, h.1, and_self, if_true]
        rw [hys]; rfl
theorem KOK.flat {P : Program} {t : TypeId} {xs : List Int} (k : Nat) (hw : (match P.underlying t with | some (.array _ _) | some (.struct _) => true | _ => false) = true) (hk : P.keyType t = true) (hs : Nat.ble k P.types.size = true) (hf : flatI P k t = true) (hc : P.cellsOf t = xs.length) (h : ∀ x ∈ xs, inR x) : KOK P t (.agg (xs.map fun x => .int .i64 x)) := by
  obtain ⟨ls, hl⟩ := flat_lits k (P.types.size + 1) t (by have := Nat.le_of_ble_eq_true hs; omega) hf xs hc.symm h
  refine ⟨.agg (xs.map fun x => Value.int .i64 x).toArray, .string (keyBytes ls), by simp only [conc, concs, Option.map_some], ?_⟩
  unfold keyOf
  cases hu : P.underlying t with
  | none => rw [hu] at hw; cases hw
  | some u =>
    rw [hu] at hw
    have h1 : Value.formed P t (.agg (xs.map fun x => Value.int .i64 x).toArray) = true := by
      cases u <;> first | (cases hw; done) | simp [Value.formed, hu, hc]
    cases u <;> first | (cases hw; done) | (simp only [h1, hk, Bool.and_self, if_true, Value.cells, hl, Option.map_some])
section
variable {P : Program} {n : Nat} {f : Nat → AV} {H : Heap} {K : (Nat → AV) → Heap → Prop} {ty : TypeId} {pos : String} {after : Array Edge} {guard : Option (Nat × Bool)} {d : Nat}
theorem AOp.sliceSDM {α : Type} {xs : List α} {e : α → List AV} {m : Nat} {t : TypeId} {x : Operand} {lo hi : Option Operand} {l h : Int} (he : ∀ x, (e x).length = m) (hn : Nat.ble (d + 1) n = true) (hx : ev f x = .sl xs.length (xs.flatMap e)) (ht : TSlice P t m)
    (hl : loOf f lo = some l) (hh : hiOf f xs.length hi = some h) (h0 : 0 ≤ l) (h1 : l ≤ h) (h2 : h ≤ xs.length) (h3 : h = xs.length)
    (hK : K (upd f d (.sl (xs.drop l.toNat).length ((xs.drop l.toNat).flatMap e))) H) : AOp P n ⟨some d, .slice t x lo hi none, ty, pos, after, guard⟩ K f H := by
  subst h3
  refine .sliceS (es := m) hn hx (flatMap_length he xs) ht hl hh h0 h1 h2 ?_
  have e1 : (xs.length : Int).toNat - l.toNat = (xs.drop l.toNat).length := by simp
  rw [flatMap_drop he, e1, List.take_of_length_le (by rw [flatMap_length he]; omega)]
  exact hK
end
end Go.AH
namespace Go.AH
variable [Globs]
set_option linter.unusedSectionVars false
open Go
section
variable {P : Program} {n : Nat} {Q : Exit → (Nat → AV) → Heap → Prop} {f : Nat → AV} {H : Heap}
theorem AWP.fresh {c : Code} (h : ∀ id, H id = none → AWP P n c Q f H) : AWP P n c Q f H := by
  intro μ a w hs
  obtain ⟨N, hN⟩ := hs.hr.fin
  exact h N (hN N (Nat.le_refl _)) μ a w hs
theorem AWP.reserve {c : Code} {id : Nat} (hid : H id = none) (h : AWP P n c Q f (updH H id .res)) : AWP P n c Q f H := by
  refine AWP.ghost (fun μ a w hs => ?_) h
  have he : Ext w μ H w μ (updH H id .res) := by
    refine ⟨Nat.le_refl _, fun b hb => ⟨rfl, ?_⟩, fun i v hk => ?_, fun i v hk ha => ?_, fun i hm => ?_, fun i hm => ?_, .refl w⟩
    · rintro ⟨i, B, h1, h2, h3⟩
      rw [updH_eq] at h1
      by_cases g : i = id
      · rw [if_pos g] at h1; cases h1; cases h2
      · rw [if_neg g] at h1; exact hb.2 ⟨i, B, h1, h2, h3⟩
    · obtain ⟨B, v', h1, h2⟩ := hk
      exact ⟨B, v', by rw [updH_eq, if_neg (by rintro rfl; rw [hid] at h1; cases h1)]; exact h1, h2⟩
    · obtain ⟨cc, ha⟩ := ha
      rw [updH_eq] at ha
      by_cases g : i = id
      · rw [if_pos g] at ha; cases ha
      · rw [if_neg g] at ha; exact ⟨⟨cc, ha⟩, rfl, rfl⟩
    · obtain ⟨es, hm⟩ := hm
      exact ⟨⟨es, by rw [updH_eq, if_neg (by rintro rfl; rw [hid] at hm; cases hm)]; exact hm⟩, rfl⟩
    · obtain ⟨it, hm⟩ := hm
      exact ⟨⟨it, by rw [updH_eq, if_neg (by rintro rfl; rw [hid] at hm; cases hm)]; exact hm⟩, rfl⟩
  exact ⟨hs.stay he (hs.hr.change he (fun i => updH_eq _ _ _ _) (fun _ _ => rfl) (fun h => by cases h) (fun _ _ _ _ _ => rfl) (fun _ _ h => by cases h) (fun _ h => by cases h) (fun _ _ _ h => by cases h) (fun _ h => by cases h)), he⟩
def QOpA (P : Program) (n : Nat) (ops : Array Oper) (o : Oper) (d : Nat) (v : AV) (H : Heap) (f : Nat → AV) : Prop :=
  (o.guard = none ∧ ∀ H1 f' H', (∀ t, (tmpsOf o).elem t = true → f' t = f t) → Mono H1 H' → Mono H H' → AOp P n o (fun f2 H2 => f2 = upd f' d v ∧ Mono H1 H2) f' H') ∨
  (∃ j want oj dj b, o.guard = some (j, want) ∧ ops[j]? = some oj ∧ oj.dst = some dj ∧ f dj = gAV b ∧
    (b = some want → ∀ H1 f' H', (∀ t, (tmpsOf o).elem t = true → f' t = f t) → Mono H1 H' → Mono H H' → AOp P n o (fun f2 H2 => f2 = upd f' d v ∧ Mono H1 H2) f' H') ∧
    (b ≠ some want → v = .tup [] ∧ Nat.ble (d + 1) n = true))
theorem QOpA.yes {ops : Array Oper} {o oj : Oper} {d j dj : Nat} {v : AV} {b want : Bool} (hg : o.guard = some (j, want)) (hj : ops[j]? = some oj) (hd : oj.dst = some dj) (hf : f dj = .bool b) (hb : b = want)
    (h : ∀ H1 f' H', (∀ t, (tmpsOf o).elem t = true → f' t = f t) → Mono H1 H' → Mono H H' → AOp P n o (fun f2 H2 => f2 = upd f' d v ∧ Mono H1 H2) f' H') : QOpA P n ops o d v H f :=
  .inr ⟨j, want, oj, dj, some b, hg, hj, hd, hf, fun _ => h, fun e => absurd (congrArg some hb) e⟩
theorem QOpA.no {ops : Array Oper} {o oj : Oper} {d j dj : Nat} {b want : Bool} (hg : o.guard = some (j, want)) (hj : ops[j]? = some oj) (hd : oj.dst = some dj) (hf : f dj = .bool b) (hb : b ≠ want) (hn : Nat.ble (d + 1) n = true) : QOpA P n ops o d (.tup []) H f :=
  .inr ⟨j, want, oj, dj, some b, hg, hj, hd, hf, fun e => absurd (Option.some.inj e) hb, fun _ => ⟨rfl, hn⟩⟩
theorem QOpA.un {ops : Array Oper} {o oj : Oper} {d j dj : Nat} {want : Bool} (hg : o.guard = some (j, want)) (hj : ops[j]? = some oj) (hd : oj.dst = some dj) (hf : f dj = .tup []) (hn : Nat.ble (d + 1) n = true) : QOpA P n ops o d (.tup []) H f :=
  .inr ⟨j, want, oj, dj, none, hg, hj, hd, hf, fun e => (by cases e), fun _ => ⟨rfl, hn⟩⟩
inductive QPA (P : Program) (n : Nat) (ops : Array Oper) (a id : Nat) (B : AB) (va : AV) (H : Heap) (T : (Nat → AV) → Prop) (k : Nat) : Nat → (Nat → AV) → List (Nat × AV) → Prop
  | done {f : Nat → AV} (h : T f) : QPA P n ops a id B va H T k k f []
  | op {i d : Nat} {f : Nat → AV} {v : AV} {L : List (Nat × AV)} {o : Oper} (hi : i ≠ a) (ho : ops[i]? = some o) (hd : o.dst = some d) (h : QOpA P n ops o d v H f) (rest : QPA P n ops a id B va H T k (i + 1) (upd f d v) L) : QPA P n ops a id B va H T k i f ((d, v) :: L)
  | new {d : Nat} {f : Nat → AV} {L : List (Nat × AV)} {o : Oper} (ho : ops[a]? = some o) (hd : o.dst = some d) (hg : o.guard = none) (hn : Nat.ble (d + 1) n = true) (hop : ∀ f' H', (∀ t, (tmpsOf o).elem t = true → f' t = f t) → H' id = some .res → AOp P n o (fun f2 H2 => f2 = upd f' d va ∧ H2 = updH H' id B) f' H') (rest : QPA P n ops a id B va H T k (a + 1) (upd f d va) L) : QPA P n ops a id B va H T k a f ((d, va) :: L)
theorem QPA.len {ops : Array Oper} {a id : Nat} {B : AB} {va : AV} {T : (Nat → AV) → Prop} {k b : Nat} {L : List (Nat × AV)} (h : QPA P n ops a id B va H T k b f L) : b + L.length = k := by
  induction h with
  | done h => rfl
  | op hi ho hd h rest ih => simp only [List.length_cons]; omega
  | new ho hd hg hn hop rest ih => simp only [List.length_cons]; omega
def QEA (P : Program) (n : Nat) (ops : Array Oper) (a id : Nat) (B : AB) (va : AV) (H : Heap) (T : (Nat → AV) → Prop) (k i : Nat) (f : Nat → AV) : Prop := ∃ L, QPA P n ops a id B va H T k i f L
theorem QEA.done {ops : Array Oper} {a id : Nat} {B : AB} {va : AV} {T : (Nat → AV) → Prop} {k : Nat} (h : T f) : QEA P n ops a id B va H T k k f := ⟨_, .done h⟩
theorem QEA.op {ops : Array Oper} {a id : Nat} {B : AB} {va : AV} {T : (Nat → AV) → Prop} {k i d : Nat} {v : AV} {o : Oper} (hi : Nat.beq i a = false) (ho : ops[i]? = some o) (hd : o.dst = some d) (h : QOpA P n ops o d v H f) (rest : QEA P n ops a id B va H T k (i + 1) (upd f d v)) : QEA P n ops a id B va H T k i f :=
  let ⟨_, r⟩ := rest; ⟨_, .op (by rintro rfl; simp at hi) ho hd h r⟩
theorem QEA.alloc {ops : Array Oper} {a id : Nat} {Z : List AV} {T : (Nat → AV) → Prop} {k d : Nat} {o : Oper} {t : TypeId} (ho : ops[a]? = some o) (hd : o.dst = some d) (hg : o.guard = none) (hop : o.op = .alloc t) (hn : Nat.ble (d + 1) n = true) (hz : TZero P t Z) (rest : QEA P n ops a id (.row 0 Z) (.ptr id 0 0) H T k (a + 1) (upd f d (.ptr id 0 0))) : QEA P n ops a id (.row 0 Z) (.ptr id 0 0) H T k a f :=
  let ⟨_, r⟩ := rest; ⟨_, .new ho hd hg hn (fun f' H' _ hr => by
      obtain ⟨dst, op, ty, pos, after, guard⟩ := o
      simp only at hd hop
      subst hd hop
      exact AOp.alloc_at id (.inr hr) hn hz ⟨rfl, rfl⟩) r⟩
theorem QEA.makeMap {ops : Array Oper} {a id : Nat} {T : (Nat → AV) → Prop} {k d : Nat} {o : Oper} {t : TypeId} (ho : ops[a]? = some o) (hd : o.dst = some d) (hg : o.guard = none) (hop : o.op = .makeMap t none) (hn : Nat.ble (d + 1) n = true) (rest : QEA P n ops a id (.map []) (.map id) H T k (a + 1) (upd f d (.map id))) : QEA P n ops a id (.map []) (.map id) H T k a f :=
  let ⟨_, r⟩ := rest; ⟨_, .new ho hd hg hn (fun f' H' _ hr => by
      obtain ⟨dst, op, ty, pos, after, guard⟩ := o
      simp only at hd hop
      subst hd hop
      exact AOp.makeMap_at id (.inr hr) hn ⟨rfl, rfl⟩) r⟩
theorem QEA.new {ops : Array Oper} {a id : Nat} {B : AB} {va : AV} {T : (Nat → AV) → Prop} {k d : Nat} {o : Oper} (ho : ops[a]? = some o) (hd : o.dst = some d) (hg : o.guard = none) (hn : Nat.ble (d + 1) n = true) (hop : ∀ f' H', (∀ t, (tmpsOf o).elem t = true → f' t = f t) → H' id = some .res → AOp P n o (fun f2 H2 => f2 = upd f' d va ∧ H2 = updH H' id B) f' H') (rest : QEA P n ops a id B va H T k (a + 1) (upd f d va)) : QEA P n ops a id B va H T k a f :=
  let ⟨_, r⟩ := rest; ⟨_, .new ho hd hg hn hop r⟩
def EntA (P : Program) (n : Nat) (ops : Array Oper) (a id : Nat) (B : AB) (va : AV) (H : Heap) (i : Nat) (o : Oper) (d : Nat) (v : AV) (f : Nat → AV) : Prop :=
  (i ≠ a ∧ QOpA P n ops o d v H f) ∨ (i = a ∧ (∀ f' H', (∀ t, (tmpsOf o).elem t = true → f' t = f t) → H' id = some .res → AOp P n o (fun f2 H2 => f2 = upd f' d va ∧ H2 = updH H' id B) f' H') ∧ o.guard = none ∧ v = va ∧ Nat.ble (d + 1) n = true)
theorem QPA.get {ops : Array Oper} {a id : Nat} {B : AB} {va : AV} {T : (Nat → AV) → Prop} {k b : Nat} {L : List (Nat × AV)} (h : QPA P n ops a id B va H T k b f L) : T (cur L b (fun _ => true) f) ∧
    ∀ m d v, L[m]? = some (d, v) → ∃ o, ops[b + m]? = some o ∧ o.dst = some d ∧ EntA P n ops a id B va H (b + m) o d v (cur (L.take m) b (fun _ => true) f) := by
  induction h with
  | done h => exact ⟨h, fun m d v hm => by simp at hm⟩
  | op hi ho hd h rest ih =>
    rename_i i d0 f v0 L o
    refine ⟨by rw [cur, if_pos rfl]; exact ih.1, fun m d v hm => ?_⟩
    cases m with
    | zero =>
      simp only [List.getElem?_cons_zero, Option.some.injEq, Prod.mk.injEq] at hm
      obtain ⟨rfl, rfl⟩ := hm
      exact ⟨o, ho, hd, .inl ⟨hi, h⟩⟩
    | succ m =>
      obtain ⟨o', h1, h2, h3⟩ := ih.2 m d v (by simpa using hm)
      rw [show i + 1 + m = i + (m + 1) by omega] at h1 h3
      refine ⟨o', h1, h2, ?_⟩
      rw [List.take_succ_cons, cur, if_pos rfl]; exact h3
  | new ho hd hg hn hop rest ih =>
    rename_i d0 f L o
    refine ⟨by rw [cur, if_pos rfl]; exact ih.1, fun m d v hm => ?_⟩
    cases m with
    | zero =>
      simp only [List.getElem?_cons_zero, Option.some.injEq, Prod.mk.injEq] at hm
      obtain ⟨rfl, rfl⟩ := hm
      exact ⟨o, ho, hd, .inr ⟨rfl, hop, hg, rfl, hn⟩⟩
    | succ m =>
      obtain ⟨o', h1, h2, h3⟩ := ih.2 m d v (by simpa using hm)
      rw [show a + 1 + m = a + (m + 1) by omega] at h1 h3
      refine ⟨o', h1, h2, ?_⟩
      rw [List.take_succ_cons, cur, if_pos rfl]; exact h3
end
end Go.AH
namespace Go.AH
variable [Globs]
set_option linter.unusedSectionVars false
open Go
theorem AOp.inline {P : Program} {n n' : Nat} {f : Nat → AV} {H : Heap} {K : (Nat → AV) → Heap → Prop} {ty : TypeId} {pos : String} {after : Array Edge} {guard : Option (Nat × Bool)} {d : Nat} {g : FuncId} {fn : Func} {body : Code} {c : Operand} {args : Array Operand} {at_ : Array TypeId} {caps «as» : List AV} (hn : Nat.ble (d + 1) n = true) (hc : ev f c = .fn g caps) (has : args.toList.map (ev f) ++ caps = «as») (ht : TFun P g)
    (hf : P.funcs[g]? = some fn) (hb : fn.body = some body) (hn' : fn.ntmps = n') (hle : Nat.ble «as».length n' = true)
    (h : AWP P n' body (fun e f1 H1 => ∃ f' H', Ghost n' f1 H1 f' H' ∧ (e = .normal ∨ e = .ret) ∧ ∃ r, Res P n' fn f' H' r ∧ K (upd f d r) H') (Go.AH.entry «as») H) : AOp P n ⟨some d, .call { callee := .value c, args, argTypes := at_ }, ty, pos, after, guard⟩ K f H :=
  .xcall (R := fun r H' => K (upd f d r) H') hn hc has ht (.of_body' hf hb hn' hle h) fun _ _ h => h
theorem fill_step {pl : Nat → Option (Nat × Nat)} {cells c' : List AV} {i off size : Nat} {v : AV} {rest : List (Nat × AV)} {r : Option (List AV)} (hp : pl i = some (off, size)) (hb : v.plainB = true) (hl : v.cells.length = size) (hle : Nat.ble (off + size) cells.length = true) (hw : writeL cells off v.cells = c') (h : fillA pl c' rest = r) : fillA pl cells ((i, v) :: rest) = r := by
  subst hl hw
  simp only [fillA, hp, hb, hle, Bool.true_and, Nat.beq_refl]
  exact h
theorem wr_pre {Z vs : List AV} {n : Nat} (h : vs.length = n) : writeL Z 0 vs = vs ++ Z.drop n := by
  subst h; simp [writeL]
end Go.AH
namespace Go.AH
variable [Globs]
set_option linter.unusedSectionVars false
open Go
abbrev Ent := Nat × Option Nat × AV
def updO (f : Nat → AV) : Option Nat → AV → Nat → AV
  | none, _ => f
  | some d, v => upd f d v
def ov (S : Nat → Bool) : List Ent → (Nat → AV) → Nat → AV
  | [], f => f
  | e :: L, f => ov S L (if S e.1 = true then updO f e.2.1 e.2.2 else f)
theorem ov_app {S : Nat → Bool} : ∀ (L M : List Ent) (f : Nat → AV), ov S (L ++ M) f = ov S M (ov S L f)
  | [], _, _ => rfl
  | e :: L, M, f => by rw [List.cons_append, ov, ov_app L M, ov]
theorem ov_slot {S S' : Nat → Bool} {t : Nat} : ∀ (L : List Ent) (f f' : Nat → AV), f t = f' t → (∀ e ∈ L, e.2.1 = some t → S e.1 = S' e.1) → ov S L f t = ov S' L f' t
  | [], _, _, h, _ => h
  | e :: L, f, f', h, hs => by
    rw [ov, ov]
    refine ov_slot L _ _ ?_ fun x hx => hs x (.tail _ hx)
    by_cases ht : e.2.1 = some t
    · rw [hs e (.head _) ht]
      by_cases hS : S' e.1 = true
      · rw [if_pos hS, if_pos hS, ht]; simp [updO, upd_eq]
      · rw [if_neg hS, if_neg hS]; exact h
    · have a : ∀ g : Nat → AV, updO g e.2.1 e.2.2 t = g t := fun g => by
        cases hd : e.2.1 with
        | none => rfl
        | some d => simp only [updO]; rw [upd_eq, if_neg (fun h => ht (by rw [hd, h]))]
      have b : ∀ (c : Prop) [Decidable c] (g : Nat → AV), (if c then updO g e.2.1 e.2.2 else g) t = g t := fun c _ g => by by_cases hc : c <;> simp [hc, a]
      rw [b, b]; exact h
theorem ov_none {S : Nat → Bool} : ∀ (L : List Ent) (f : Nat → AV), (∀ e ∈ L, S e.1 = false) → ov S L f = f
  | [], _, _ => rfl
  | e :: L, f, h => by rw [ov, if_neg (by rw [h e (.head _)]; decide)]; exact ov_none L f fun x hx => h x (.tail _ hx)
theorem ov_congr {S S' : Nat → Bool} (L : List Ent) (f : Nat → AV) (h : ∀ e ∈ L, S e.1 = S' e.1) : ov S L f = ov S' L f := funext fun _ => ov_slot L f f rfl fun e he _ => h e he
def prs {α : Type} (p : α → α → Bool) : List α → Bool
  | [] => true
  | a :: l => l.all (p a) && prs p l
theorem prs_spec {α : Type} {p : α → α → Bool} : ∀ {A : List α} {a : α} {B : List α}, prs p (A ++ a :: B) = true → (∀ b ∈ B, p a b = true) ∧ ∀ c ∈ A, p c a = true
  | [], a, B, h => by
    rw [List.nil_append, prs, Bool.and_eq_true, List.all_eq_true] at h
    exact ⟨h.1, fun _ h => by cases h⟩
  | x :: A, a, B, h => by
    rw [List.cons_append, prs, Bool.and_eq_true, List.all_eq_true] at h
    obtain ⟨h1, h2⟩ := prs_spec h.2
    refine ⟨h1, fun c hc => ?_⟩
    rcases List.mem_cons.1 hc with rfl | hc
    · exact h.1 a (by simp)
    · exact h2 c hc
abbrev Item := Nat × Option (List Nat)
def bfB (ops : Array Oper) (i j : Nat) : Bool := ((befL ops.toList []).getD i 0).testBit j
def dstOf (ops : Array Oper) (i : Nat) : Option Nat := (ops[i]?).bind (·.dst)
def touch (ops : Array Oper) (i : Nat) : List Nat := match ops[i]? with | some o => tmpsOf o ++ guardSlot ops o ++ o.dst.toList | none => []
def pairB (ops : Array Oper) (x y : Item) : Bool :=
  !Nat.beq x.1 y.1 &&
  ((touch ops x.1).all fun t => (match dstOf ops y.1 with | some d => !Nat.beq d t | none => true) || bfB ops y.1 x.1) &&
  ((touch ops y.1).all fun t => (match dstOf ops x.1 with | some d => !Nat.beq d t | none => true) || bfB ops y.1 x.1) &&
  (match x.2 with | some _ => bfB ops y.1 x.1 | none => true) &&
  (match y.2 with | some R => bfB ops y.1 x.1 || R.elem x.1 | none => true)
def stgB (ops : Array Oper) (ord : List Item) (tail : List Nat) : Bool :=
  ((List.range ops.size).all fun i => (ord.map (·.1)).elem i || tail.elem i) &&
  (ord.all fun x => Nat.blt x.1 ops.size) && (tail.all fun c => Nat.blt c ops.size) &&
  prs (pairB ops) ord && prs (fun c c' => !Nat.beq c c' && bfB ops c' c) tail &&
  (tail.all fun c => ord.all fun x => !Nat.beq c x.1 && bfB ops c x.1)
section
variable {P : Program} {n : Nat} {Q : Exit → (Nat → AV) → Heap → Prop} {f : Nat → AV} {H : Heap}
theorem QOpA.mono {ops : Array Oper} {o : Oper} {d : Nat} {v : AV} {H2 : Heap} (hm : Mono H H2) (h : QOpA P n ops o d v H f) : QOpA P n ops o d v H2 f := by
  rcases h with ⟨hg, h⟩ | ⟨j, want, oj, dj, b, h1, h2, h3, h4, h5, h6⟩
  · exact .inl ⟨hg, fun H1 f' H' a b c => h H1 f' H' a b (hm.trans c)⟩
  · exact .inr ⟨j, want, oj, dj, b, h1, h2, h3, h4, fun e H1 f' H' a b c => h5 e H1 f' H' a b (hm.trans c), h6⟩
def Reval (P : Program) (n : Nat) (ops : Array Oper) (R : List Nat) (H2 : Heap) : List Ent → (Nat → AV) → Prop
  | [], _ => True
  | e :: L, g => (R.elem e.1 = true → ∃ o d, ops[e.1]? = some o ∧ e.2.1 = some d ∧ QOpA P n ops o d e.2.2 H2 g) ∧ Reval P n ops R H2 L (updO g e.2.1 e.2.2)
theorem Reval.nil {ops : Array Oper} {R : List Nat} {H2 : Heap} {g : Nat → AV} : Reval P n ops R H2 [] g := trivial
theorem Reval.cons {ops : Array Oper} {R : List Nat} {H2 : Heap} {e : Ent} {L : List Ent} {g : Nat → AV} (h : R.elem e.1 = true → ∃ o d, ops[e.1]? = some o ∧ e.2.1 = some d ∧ QOpA P n ops o d e.2.2 H2 g) (r : Reval P n ops R H2 L (updO g e.2.1 e.2.2)) : Reval P n ops R H2 (e :: L) g := ⟨h, r⟩
theorem Reval.none {ops : Array Oper} {H2 : Heap} : ∀ {L : List Ent} {g : Nat → AV}, Reval P n ops [] H2 L g
  | [], _ => trivial
  | _ :: _, _ => ⟨fun h => by simp at h, Reval.none⟩
abbrev top : Nat → Bool := fun _ => true
theorem ov_top_cons {e : Ent} {L : List Ent} {g : Nat → AV} : ov top (e :: L) g = ov top L (updO g e.2.1 e.2.2) := by rw [ov, if_pos rfl]
theorem Reval.spec {ops : Array Oper} {R : List Nat} {H2 : Heap} : ∀ {L : List Ent} {g : Nat → AV}, Reval P n ops R H2 L g → ∀ A e B, L = A ++ e :: B → R.elem e.1 = true → ∃ o d, ops[e.1]? = some o ∧ e.2.1 = some d ∧ QOpA P n ops o d e.2.2 H2 (ov top A g)
  | [], _, _, A, e, B, h, _ => by simp at h
  | x :: L, g, h, A, e, B, hL, hR => by
    cases A with
    | nil => rw [List.nil_append, List.cons.injEq] at hL; obtain ⟨rfl, rfl⟩ := hL; exact h.1 hR
    | cons a A =>
      rw [List.cons_append, List.cons.injEq] at hL
      obtain ⟨rfl, hL⟩ := hL
      rw [ov_top_cons]; exact Reval.spec h.2 A e B hL hR
def STQ (P : Program) (n : Nat) (ops : Array Oper) (f0 : Nat → AV) (T : (Nat → AV) → Heap → Prop) : List Item → List Ent → Heap → (Nat → AV) → Prop
  | [], _, Hs, g => ∀ H', Mono Hs H' → T g H'
  | (i, none) :: r, L, Hs, g => ∃ o d v, ops[i]? = some o ∧ o.dst = some d ∧ QOpA P n ops o d v Hs g ∧ STQ P n ops f0 T r (L ++ [(i, some d, v)]) Hs (upd g d v)
  | (e, some R) :: r, L, Hs, g => ∃ o, ops[e]? = some o ∧ o.guard = none ∧ ∀ f' H', (∀ t, (tmpsOf o).elem t = true → f' t = g t) → Mono Hs H' →
      AOp P n o (fun f2 H2 => ∃ v, f2 = updO f' o.dst v ∧ (Mono H' H2 ∨ Reval P n ops R H2 L f0) ∧ STQ P n ops f0 T r (L ++ [(e, o.dst, v)]) H2 (updO g o.dst v)) f' H'
theorem STQ.op {ops : Array Oper} {f0 g : Nat → AV} {T : (Nat → AV) → Heap → Prop} {r : List Item} {L : List Ent} {i d : Nat} {v : AV} {o : Oper} (ho : ops[i]? = some o) (hd : o.dst = some d) (h : QOpA P n ops o d v H g) (rest : STQ P n ops f0 T r (L ++ [(i, some d, v)]) H (upd g d v)) : STQ P n ops f0 T ((i, none) :: r) L H g := ⟨o, d, v, ho, hd, h, rest⟩
theorem STQ.eff {ops : Array Oper} {f0 g : Nat → AV} {T : (Nat → AV) → Heap → Prop} {r : List Item} {R : List Nat} {L : List Ent} {e d : Nat} {o : Oper} (ho : ops[e]? = some o) (hd : o.dst = some d) (hg : o.guard = none)
    (h : ∀ f' H', (∀ t, (tmpsOf o).elem t = true → f' t = g t) → Mono H H' → AOp P n o (fun f2 H2 => ∃ v, f2 = upd f' d v ∧ (Mono H' H2 ∨ Reval P n ops R H2 L f0) ∧ STQ P n ops f0 T r (L ++ [(e, some d, v)]) H2 (upd g d v)) f' H') : STQ P n ops f0 T ((e, some R) :: r) L H g := ⟨o, ho, hg, by rw [hd]; exact h⟩
theorem STQ.st {ops : Array Oper} {f0 g : Nat → AV} {T : (Nat → AV) → Heap → Prop} {r : List Item} {R : List Nat} {L : List Ent} {e : Nat} {o : Oper} (ho : ops[e]? = some o) (hd : o.dst = none) (hg : o.guard = none)
    (h : ∀ f' H', (∀ t, (tmpsOf o).elem t = true → f' t = g t) → Mono H H' → AOp P n o (fun f2 H2 => f2 = f' ∧ (Mono H' H2 ∨ Reval P n ops R H2 L f0) ∧ STQ P n ops f0 T r (L ++ [(e, none, .undef)]) H2 g) f' H') : STQ P n ops f0 T ((e, some R) :: r) L H g := ⟨o, ho, hg, fun f' H' a b μ c w hs E => by
      rw [hd]
      exact Oper.wp_mono (fun a' w' ⟨μ', f2, H2, g1, g2, g3⟩ => ⟨μ', f2, H2, g1, g2, .undef, g3⟩) (fun _ _ _ _ h => h) (h f' H' a b μ c w hs E)⟩
theorem STQ.done {ops : Array Oper} {f0 g : Nat → AV} {T : (Nat → AV) → Heap → Prop} {L : List Ent} (h : ∀ H', Mono H H' → T g H') : STQ P n ops f0 T [] L H g := h
def Vld (P : Program) (n : Nat) (ops : Array Oper) (L : List Ent) (Hs : Heap) (S : Nat → Bool) (f : Nat → AV) : Prop :=
  ∀ A e B, L = A ++ e :: B → S e.1 = false → ∃ o d, ops[e.1]? = some o ∧ o.dst = some d ∧ e.2.1 = some d ∧ QOpA P n ops o d e.2.2 Hs (ov top A f)
def Dst (ops : Array Oper) (L : List Ent) : Prop := ∀ e ∈ L, dstOf ops e.1 = e.2.1
theorem STQ.norm {ops : Array Oper} {T : (Nat → AV) → Heap → Prop} {Hs : Heap} {S : Nat → Bool} : ∀ {r : List Item} {L : List Ent}, Vld P n ops L Hs S f → Dst ops L → STQ P n ops f T r L Hs (ov top L f) →
    ∃ p q M, r = p ++ q ∧ (∀ x ∈ p, x.2 = none) ∧ (∀ x ∈ q.head?, x.2 ≠ none) ∧ M.map (·.1) = p.map (·.1) ∧ Vld P n ops (L ++ M) Hs S f ∧ Dst ops (L ++ M) ∧ STQ P n ops f T q (L ++ M) Hs (ov top (L ++ M) f)
  | [], L, hv, hd, h => ⟨[], [], [], rfl, fun _ h => (by cases h), fun _ h => (by cases h), rfl, by rwa [List.append_nil], by rwa [List.append_nil], by rwa [List.append_nil]⟩
  | (e, some R) :: r, L, hv, hd, h => ⟨[], (e, some R) :: r, [], rfl, fun _ h => (by cases h), fun x hx => by simp at hx; subst hx; simp, rfl, by rwa [List.append_nil], by rwa [List.append_nil], by rwa [List.append_nil]⟩
  | (i, none) :: r, L, hv, hd, h => by
    obtain ⟨o, d, v, h1, h2, h3, h4⟩ := h
    have hv' : Vld P n ops (L ++ [(i, some d, v)]) Hs S f := by
      intro A e B hL hS
      rcases List.append_eq_append_iff.1 hL with ⟨C, g1, g2⟩ | ⟨C, g1, g2⟩
      · cases C with
        | nil =>
          simp only [List.nil_append, List.cons.injEq] at g2
          obtain ⟨rfl, _⟩ := g2
          rw [List.append_nil] at g1; subst g1
          exact ⟨o, d, h1, h2, rfl, h3⟩
        | cons c C => simp at g2
      · cases C with
        | nil =>
          simp only [List.nil_append, List.cons.injEq] at g2
          obtain ⟨rfl, _⟩ := g2
          rw [List.append_nil] at g1; subst g1
          exact ⟨o, d, h1, h2, rfl, h3⟩
        | cons c C =>
          simp only [List.cons_append, List.cons.injEq] at g2
          obtain ⟨rfl, g2⟩ := g2
          exact hv A e C g1 hS
    have hd' : Dst ops (L ++ [(i, some d, v)]) := by
      intro e he
      rcases List.mem_append.1 he with he | he
      · exact hd e he
      · simp at he; subst he; simp [dstOf, h1, h2]
    have h4' : STQ P n ops f T r (L ++ [(i, some d, v)]) Hs (ov top (L ++ [(i, some d, v)]) f) := by
      rw [ov_app]; exact h4
    obtain ⟨p, q, M, g1, g2, g3, g4, g5, g6, g7⟩ := STQ.norm hv' hd' h4'
    refine ⟨(i, none) :: p, q, (i, some d, v) :: M, by rw [g1]; rfl, fun x hx => ?_, g3, by simp [g4], ?_, ?_, ?_⟩
    · rcases List.mem_cons.1 hx with rfl | hx
      · rfl
      · exact g2 x hx
    · simpa using g5
    · simpa using g6
    · simpa using g7
theorem mem_split {α : Type} {a : α} {l : List α} (h : a ∈ l) : ∃ A B, l = A ++ a :: B := List.append_of_mem h
theorem AWP.region_stg {rid : Nat} {ops : Array Oper} (hm : P.follows .mixedOrders = true) (hback : backB ops = true) (ord : List Item) (tail : List Nat) (hq : stgB ops ord tail = true)
    (h : STQ P n ops f (fun g H' => AOps P n ops (Q .normal) tail g H') ord [] H f) : AWP P n (.region rid ops true) Q f H := by
  simp only [stgB, Bool.and_eq_true, List.all_eq_true, List.mem_range] at hq
  obtain ⟨⟨⟨⟨⟨q1, q2⟩, q3⟩, q4⟩, q5⟩, q6⟩ := hq
  have beqf : ∀ x y : Nat, x ≠ y → Nat.beq x y = false := fun x y h => by
    cases hb : Nat.beq x y with
    | false => rfl
    | true => exact absurd (Nat.eq_of_beq_eq_true hb) h
  let I : (Nat → Bool) → (Nat → AV) → Heap → Prop := fun S f' H' => Dn ops S ∧
    ((∃ pre rest L Hs, ord = pre ++ rest ∧ (∀ x ∈ rest.head?, x.2 ≠ none) ∧ L.map (·.1) = pre.map (·.1) ∧ (∀ x ∈ rest, S x.1 = false) ∧ (∀ c ∈ tail, S c = false) ∧ Vld P n ops L Hs S f ∧ Dst ops L ∧ (∀ t, f' t = ov S L f t) ∧ Mono Hs H' ∧ STQ P n ops f (fun g H' => AOps P n ops (Q .normal) tail g H') rest L Hs (ov top L f)) ∨
     (∃ A B, tail = A ++ B ∧ (∀ x ∈ ord, S x.1 = true) ∧ (∀ c ∈ A, S c = true) ∧ (∀ c ∈ B, S c = false) ∧ AOps P n ops (Q .normal) B f' H'))
  have hdn : ∀ (S : Nat → Bool) i o, Dn ops S → ops[i]? = some o → (∀ e ∈ o.after, Region.binds .any e = true → S e.on = true) → Dn ops (fun k => Nat.beq k i || S k) := by
    intro S i o hD ho hr j oj hj hS e he hb
    by_cases hji : j = i
    · subst hji
      rw [ho] at hj; cases hj
      simp [hr e he hb]
    · have hS : (Nat.beq j i || S j) = true := hS
      rw [beqf _ _ hji, Bool.false_or] at hS
      simp [hD j oj hj hS e he hb]
  have befD : ∀ (S : Nat → Bool), Dn ops S → ∀ i j, bfB ops i j = true → S i = true → S j = true := by
    intro S hD i j hb hS
    unfold bfB at hb
    rcases Nat.lt_or_ge i (befL ops.toList []).length with h | h
    · rw [List.getD_eq_getElem?_getD, List.getElem?_eq_getElem h, Option.getD_some] at hb
      exact bef_spec hD ops.toList [] (fun j => by simp) (fun i m j hi => by simp at hi) i _ j (List.getElem?_eq_getElem h) hb hS
    · rw [List.getD_eq_getElem?_getD, List.getElem?_eq_none h, Option.getD_none] at hb
      simp at hb
  -- into the first phase
  have enter : ∀ S f' H' pre r L Hs, Dn ops S → ord = pre ++ r → L.map (·.1) = pre.map (·.1) → (∀ x ∈ r, S x.1 = false) → (∀ c ∈ tail, S c = false) → Vld P n ops L Hs S f → Dst ops L → (∀ t, f' t = ov S L f t) → Mono Hs H' → STQ P n ops f (fun g H' => AOps P n ops (Q .normal) tail g H') r L Hs (ov top L f) → I S f' H' := by
    intro S f' H' pre r L Hs hD e1 e2 e3 e4 e5 e6 e7 e8 e9
    obtain ⟨p, q, M, g1, g2, g3, g4, g5, g6, g7⟩ := STQ.norm e5 e6 e9
    subst g1
    refine ⟨hD, .inl ⟨pre ++ p, q, L ++ M, Hs, by rw [e1, List.append_assoc], g3, by rw [List.map_append, List.map_append, e2, g4], fun x hx => e3 x (by simp [hx]), e4, g5, g6, fun t => ?_, e8, g7⟩⟩
    rw [e7 t, ov_app, ov_none M]
    intro e he
    have : e.1 ∈ M.map (·.1) := List.mem_map_of_mem he
    rw [g4] at this
    obtain ⟨x, hx, h⟩ := List.mem_map.1 this
    rw [← h]; exact e3 x (by simp [hx])
  refine AWP.region_any hm hback I (enter _ _ _ [] ord [] H (fun _ _ _ h => (by cases h)) rfl rfl (fun _ _ => rfl) (fun _ _ => rfl) (fun A e B h => by simp at h) (fun _ h => by cases h) (fun _ => rfl) (Mono.refl _) h) ?_ ?_
  · -- a step
    intro S i o ho hSi hr f' H' ⟨hD, hcase⟩
    have hi : i < ops.size := by
      rcases Nat.lt_or_ge i ops.size with h' | h'
      · exact h'
      · rw [Array.getElem?_eq_none h'] at ho; cases ho
    have hD' := hdn S i o hD ho hr
    have hSi' : (fun k => Nat.beq k i || S k) i = true := by simp
    have hbef : ∀ j, j ≠ i → bfB ops i j = true → S j = true := fun j hj hb => by
      have : (Nat.beq j i || S j) = true := befD _ hD' i j hb hSi'
      rwa [beqf _ _ hj, Bool.false_or] at this
    have hoth : ∀ x, x ≠ i → (fun k => Nat.beq k i || S k) x = S x := fun x hx => by show (Nat.beq x i || S x) = S x; rw [beqf _ _ hx, Bool.false_or]
    have mono : ∀ {K K' : (Nat → AV) → Heap → Prop}, (∀ f H, K f H → K' f H) → AOp P n o K f' H' → AOp P n o K' f' H' := fun hk h μ a w hs E =>
      Oper.wp_mono (fun a' w' ⟨μ', f2, H2, g1, g2, g3⟩ => ⟨μ', f2, H2, g1, g2, hk _ _ g3⟩) (fun _ _ _ _ h => h) (h μ a w hs E)
    -- the first of what is left of the tail
    have tailstep : ∀ A B, tail = A ++ i :: B → (∀ x ∈ ord, S x.1 = true) → (∀ c ∈ A, S c = true) → (∀ c ∈ B, S c = false) → (∀ c ∈ B, c ≠ i) → AOps P n ops (Q .normal) (i :: B) f' H' →
        (o.guard = none ∧ AOp P n o (I (fun k => Nat.beq k i || S k)) f' H') ∨
        (∃ j want oj d b, o.guard = some (j, want) ∧ ops[j]? = some oj ∧ oj.dst = some d ∧ f' d = gAV b ∧ (b = some want → AOp P n o (I (fun k => Nat.beq k i || S k)) f' H') ∧ (b ≠ some want → ∃ d', o.dst = some d' ∧ Nat.ble (d' + 1) n = true ∧ I (fun k => Nat.beq k i || S k) (upd f' d' (.tup [])) H')) := by
      intro A B hT hO hA hB hne hAO
      obtain ⟨o', ho', hAO⟩ := hAO
      rw [ho] at ho'; cases ho'
      have hI : ∀ f2 H2, AOps P n ops (Q .normal) B f2 H2 → I (fun k => Nat.beq k i || S k) f2 H2 := fun f2 H2 h =>
        ⟨hD', .inr ⟨A ++ [i], B, by rw [hT]; simp, fun x hx => by simp [hO x hx], fun c hc => by
          rcases List.mem_append.1 hc with hc | hc
          · simp [hA c hc]
          · simp at hc; simp [hc], fun c hc => by exact (hoth c (hne c hc)).trans (hB c hc), h⟩⟩
      rcases hAO with ⟨hg, hAO⟩ | ⟨j, want, oj, d, b, hg, hj, hd, hfb, h1, h2⟩
      · exact .inl ⟨hg, mono hI hAO⟩
      · refine .inr ⟨j, want, oj, d, b, hg, hj, hd, hfb, fun e => mono hI (h1 e), fun e => ?_⟩
        obtain ⟨d', hd', hn', h3⟩ := h2 e
        exact ⟨d', hd', hn', hI _ _ h3⟩
    have nb : ∀ {x y : Nat}, (!Nat.beq x y) = true → x ≠ y := fun h e => by subst e; simp at h
    rcases hcase with ⟨pre, rest, L, Hs, e1, e2, e3, e4, e5, e6, e7, e8, e9, e10⟩ | ⟨A, B, t1, t2, t3, t4, t5⟩
    · have hLord : ∀ e ∈ L, ∃ x ∈ pre, x.1 = e.1 := fun e he => by
        have : e.1 ∈ L.map (·.1) := List.mem_map_of_mem he
        rw [e3] at this
        exact List.mem_map.1 this
      by_cases hLi : ∃ e ∈ L, e.1 = i
      · -- an operation that is known
        obtain ⟨⟨i', dd, v⟩, hmem, rfl⟩ := hLi
        obtain ⟨A, B, hL⟩ := mem_split hmem
        obtain ⟨o', d, ho', hd, hdd, hop⟩ := e6 A (i', dd, v) B hL hSi
        simp only at hdd
        subst hdd
        simp only at ho hSi hr hi hD' hSi' hbef hoth tailstep ho' hd hop ⊢
        rw [ho] at ho'; cases ho'
        -- the items of the order
        obtain ⟨PA, x, PB, hp, hPA, hx, hPB⟩ : ∃ PA x PB, pre = PA ++ x :: PB ∧ PA.map (·.1) = A.map (·.1) ∧ x.1 = i' ∧ PB.map (·.1) = B.map (·.1) := by
          rw [hL, List.map_append, List.map_cons] at e3
          obtain ⟨P1, P2, k1, k2, k3⟩ := List.map_eq_append_iff.1 e3.symm
          obtain ⟨x, P3, k4, k5, k6⟩ := List.map_eq_cons_iff.1 k3
          exact ⟨P1, x, P3, by rw [k1, k4], k2, k5, k6⟩
        have hpair := prs_spec (p := pairB ops) (A := PA) (a := x) (B := PB ++ rest) (by rw [e1, hp] at q4; simpa using q4)
        have hA : ∀ e ∈ A, e.1 ≠ i' ∧ ∀ t ∈ touch ops i', e.2.1 = some t → S e.1 = true := fun e he => by
          have : e.1 ∈ A.map (·.1) := List.mem_map_of_mem he
          rw [← hPA] at this
          obtain ⟨y, hy, hy1⟩ := List.mem_map.1 this
          have hb := hpair.2 y hy
          simp only [pairB, Bool.and_eq_true, List.all_eq_true] at hb
          obtain ⟨⟨⟨⟨b1, b2⟩, b3⟩, b4⟩, b5⟩ := hb
          rw [hy1, hx] at b1 b2 b3
          have hne := nb b1
          refine ⟨hne, fun t ht hd => ?_⟩
          have h3 := b3 t ht
          have hds : dstOf ops e.1 = e.2.1 := e7 e (by rw [hL]; simp [he])
          rw [hds] at h3
          simp only [hd, Nat.beq_refl, Bool.not_true, Bool.false_or] at h3
          exact hbef e.1 hne h3
        have hB : ∀ e ∈ B, e.1 ≠ i' ∧ ∀ t ∈ touch ops i', e.2.1 = some t → S e.1 = false := fun e he => by
          have : e.1 ∈ B.map (·.1) := List.mem_map_of_mem he
          rw [← hPB] at this
          obtain ⟨y, hy, hy1⟩ := List.mem_map.1 this
          have hb := hpair.1 y (by simp [hy])
          simp only [pairB, Bool.and_eq_true, List.all_eq_true] at hb
          obtain ⟨⟨⟨⟨b1, b2⟩, b3⟩, b4⟩, b5⟩ := hb
          rw [hy1, hx] at b1 b2 b3
          have hne := nb b1
          refine ⟨hne.symm, fun t ht hd => ?_⟩
          have h2 := b2 t ht
          have hds : dstOf ops e.1 = e.2.1 := e7 e (by rw [hL]; simp [he])
          rw [hds] at h2
          simp only [hd, Nat.beq_refl, Bool.not_true, Bool.false_or] at h2
          cases hSe : S e.1 with
          | false => rfl
          | true => have := befD S hD e.1 i' h2 hSe; rw [hSi] at this; cases this
        have htouch : ∀ t, t ∈ tmpsOf o ++ guardSlot ops o ++ [d] → t ∈ touch ops i' := fun t ht => by
          simp only [touch, ho, hd, Option.toList]; exact ht
        have hval : ∀ t, t ∈ tmpsOf o ++ guardSlot ops o ++ [d] → f' t = ov top A f t := by
          intro t ht
          rw [e8 t, hL, ov_app]
          rw [ov_slot (S := S) (S' := fun _ => false) ((i', some d, v) :: B) _ (ov top A f) (ov_slot A f f rfl fun e he hd => (hA e he).2 t (htouch t ht) hd) fun e he hd => ?_]
          · exact congrFun (ov_none _ _ fun _ _ => rfl) t
          · rcases List.mem_cons.1 he with rfl | he
            · exact hSi
            · exact (hB e he).2 t (htouch t ht) hd
        have hnew : ∀ t, upd f' d v t = ov (fun k => Nat.beq k i' || S k) L f t := by
          intro t
          have hAc : ov (fun k => Nat.beq k i' || S k) A f = ov S A f := ov_congr A f fun e he => hoth e.1 (hA e he).1
          rw [hL, ov_app, hAc, ov, if_pos hSi']
          by_cases htd : t = d
          · subst htd
            rw [upd_eq, if_pos rfl]
            rw [ov_slot (S' := fun _ => false) B _ _ rfl fun e he hd => by
              exact (hoth e.1 (hB e he).1).trans ((hB e he).2 t (htouch t (by simp)) hd)]
            rw [ov_none B _ fun _ _ => rfl]; simp [updO, upd_eq]
          · rw [upd_eq, if_neg htd, e8 t, hL, ov_app, ov, if_neg (by rw [hSi]; decide)]
            exact (ov_slot B _ _ (by simp only [updO]; rw [upd_eq, if_neg htd]) fun e he _ => hoth e.1 (hB e he).1).symm
        have hneO : ∀ x ∈ rest, x.1 ≠ i' := fun y hy he => by
          have hb := hpair.1 y (by simp [hy])
          simp only [pairB, Bool.and_eq_true] at hb
          exact nb hb.1.1.1.1 (by rw [hx, he])
        have hneT : ∀ c ∈ tail, c ≠ i' := fun c hc he => by
          have := q6 c hc x (by rw [e1, hp]; simp)
          exact nb this.1 (by rw [he, hx])
        have hI : ∀ f2 H2, f2 = upd f' d v ∧ Mono Hs H2 → I (fun k => Nat.beq k i' || S k) f2 H2 := fun f2 H2 ⟨e, m⟩ =>
          ⟨hD', .inl ⟨pre, rest, L, Hs, e1, e2, e3, fun y hy => (hoth _ (hneO y hy)).trans (e4 y hy), fun c hc => (hoth _ (hneT c hc)).trans (e5 c hc), fun A' e' B' hL' hS' => by
            refine e6 A' e' B' hL' ?_
            have hS' : (Nat.beq e'.1 i' || S e'.1) = false := hS'
            rw [Bool.or_eq_false_iff] at hS'; exact hS'.2, e7, by rw [e]; exact hnew, m, e10⟩⟩
        rcases hop with ⟨hg, hop⟩ | ⟨j, want, oj, dj, b, hg, hj, hdj, hfb, hyes, hno⟩
        · exact .inl ⟨hg, mono (fun f2 H2 h => hI f2 H2 ⟨h.1, e9.trans h.2⟩) (hop H' f' H' (fun t ht => hval t (by have := List.elem_iff.1 ht; simp [this])) (Mono.refl _) e9)⟩
        · refine .inr ⟨j, want, oj, dj, b, hg, hj, hdj, ?_, fun hb => mono (fun f2 H2 h => hI f2 H2 ⟨h.1, e9.trans h.2⟩) (hyes hb H' f' H' (fun t ht => hval t (by have := List.elem_iff.1 ht; simp [this])) (Mono.refl _) e9), fun hb => ?_⟩
          · rw [hval dj (by simp [guardSlot, hg, hj, hdj])]; exact hfb
          · obtain ⟨hv, hn⟩ := hno hb
            exact ⟨d, hd, hn, hI _ _ ⟨by rw [hv], e9⟩⟩
      · have hnp : ∀ x ∈ pre, x.1 ≠ i := fun x hx he => by
          have : x.1 ∈ pre.map (·.1) := List.mem_map_of_mem hx
          rw [← e3] at this
          obtain ⟨e, h1, h2⟩ := List.mem_map.1 this
          exact hLi ⟨e, h1, by rw [h2, he]⟩
        rcases Bool.or_eq_true _ _ ▸ q1 i hi with hio | hit
        · -- an effect
          obtain ⟨x, hx, hxi⟩ := List.mem_map.1 (List.elem_iff.1 hio)
          have hxr : x ∈ rest := by
            rw [e1] at hx
            rcases List.mem_append.1 hx with hx | hx
            · exact absurd hxi (hnp x hx)
            · exact hx
          match rest, hxr, e2, e4, e10, e1 with
          | y :: r, hxr, e2, e4, e10, e1 =>
            obtain ⟨ye, yR⟩ := y
            cases yR with
            | none => exact absurd rfl (e2 (ye, none) (by simp))
            | some R =>
              have hpair := prs_spec (p := pairB ops) (A := pre) (a := (ye, some R)) (B := r) (by rw [e1] at q4; exact q4)
              have hye : ye = i := by
                rcases List.mem_cons.1 hxr with rfl | hxr
                · exact hxi
                · have hb := hpair.1 x hxr
                  simp only [pairB, Bool.and_eq_true] at hb
                  obtain ⟨⟨⟨⟨b1, b2⟩, b3⟩, b4⟩, b5⟩ := hb
                  rw [hxi] at b1 b4
                  have h1 := hbef ye (nb b1) b4
                  have h2 := e4 (ye, some R) (by simp)
                  simp only at h2
                  rw [h1] at h2; cases h2
              subst hye
              obtain ⟨o', ho', hg, hE⟩ := e10
              rw [ho] at ho'; cases ho'
              have hpre : ∀ e ∈ L, e.1 ≠ ye ∧ (∀ t ∈ touch ops ye, e.2.1 = some t → S e.1 = true) ∧ (S e.1 = false → R.elem e.1 = true) := fun e he => by
                obtain ⟨z, hz, hz1⟩ := hLord e he
                have hb := hpair.2 z hz
                simp only [pairB, Bool.and_eq_true, List.all_eq_true] at hb
                obtain ⟨⟨⟨⟨b1, b2⟩, b3⟩, b4⟩, b5⟩ := hb
                rw [hz1] at b1 b3 b5
                have hne := nb b1
                refine ⟨hne, fun t ht hd => ?_, fun hSe => ?_⟩
                · have h3 := b3 t ht
                  rw [e7 e he] at h3
                  simp only [hd, Nat.beq_refl, Bool.not_true, Bool.false_or] at h3
                  exact hbef e.1 hne h3
                · rw [Bool.or_eq_true] at b5
                  rcases b5 with b5 | b5
                  · rw [hbef e.1 hne b5] at hSe; cases hSe
                  · exact b5
              have hval : ∀ t, (tmpsOf o).elem t = true → f' t = ov top L f t := fun t ht => by
                rw [e8 t]
                exact ov_slot L f f rfl fun e he hd => (hpre e he).2.1 t (by simp only [touch, ho]; have := List.elem_iff.1 ht; simp [this]) hd
              refine .inl ⟨hg, mono (fun f2 H2 h => ?_) (hE f' H' hval e9)⟩
              obtain ⟨v, hf2, hmr, hrest⟩ := h
              refine enter _ _ _ (pre ++ [(ye, some R)]) r (L ++ [(ye, o.dst, v)]) H2 hD' (by rw [e1]; simp) (by rw [List.map_append, List.map_append, e3]; rfl) (fun z hz => ?_) (fun c hc => ?_) ?_ ?_ (fun t => ?_) (Mono.refl _) (by rw [ov_app]; exact hrest)
              · have hb := hpair.1 z hz
                simp only [pairB, Bool.and_eq_true] at hb
                exact (hoth z.1 (nb hb.1.1.1.1).symm).trans (e4 z (by simp [hz]))
              · have := q6 c hc (ye, some R) (by rw [e1]; simp)
                exact (hoth c (nb this.1)).trans (e5 c hc)
              · intro A e B hL hS
                have hS2 : (Nat.beq e.1 ye || S e.1) = false := hS
                rw [Bool.or_eq_false_iff] at hS2
                have hLe : ∃ C, L = A ++ e :: C := by
                  rcases List.append_eq_append_iff.1 hL with ⟨C, g1, g2⟩ | ⟨C, g1, g2⟩
                  · cases C with
                    | nil => simp only [List.nil_append, List.cons.injEq] at g2; rw [← g2.1] at hS2; simp at hS2
                    | cons c C => simp at g2
                  · cases C with
                    | nil => simp only [List.nil_append, List.cons.injEq] at g2; rw [g2.1] at hS2; simp at hS2
                    | cons c C => simp only [List.cons_append, List.cons.injEq] at g2; obtain ⟨rfl, g2⟩ := g2; exact ⟨C, g1⟩
                obtain ⟨C, hLe⟩ := hLe
                obtain ⟨oe, de, k1, k2, kd, k3⟩ := e6 A e C hLe hS2.2
                rcases hmr with hmr | hmr
                · exact ⟨oe, de, k1, k2, kd, k3.mono (e9.trans hmr)⟩
                · obtain ⟨oe', de', k4, kd', k5⟩ := hmr.spec A e C hLe ((hpre e (by rw [hLe]; simp)).2.2 hS2.2)
                  rw [k1] at k4; cases k4
                  rw [kd] at kd'; cases kd'
                  exact ⟨oe, de, k1, k2, kd, k5⟩
              · intro e he
                rcases List.mem_append.1 he with he | he
                · exact e7 e he
                · simp at he; subst he; simp [dstOf, ho]
              · rw [hf2, ov_app, ov_congr L f fun e he => hoth e.1 (hpre e he).1, ov, if_pos hSi', ov]
                cases hdo : o.dst with
                | none => exact e8 t
                | some d => simp only [updO]; rw [upd_eq, upd_eq, e8 t]
        · -- the tail begins
          have hmt := List.elem_iff.1 hit
          have hall : ∀ x ∈ ord, S x.1 = true := fun x hx => by
            have := q6 i hmt x hx
            exact hbef x.1 (nb this.1).symm this.2
          have hrest : rest = [] := by
            cases rest with
            | nil => rfl
            | cons y r => have h1 := hall y (by rw [e1]; simp); rw [e4 y (by simp)] at h1; cases h1
          subst hrest
          obtain ⟨A, B, hT⟩ := mem_split hmt
          have hp := prs_spec (p := fun c c' => !Nat.beq c c' && bfB ops c' c) (A := A) (a := i) (B := B) (by rw [hT] at q5; exact q5)
          have hA0 : A = [] := by
            cases A with
            | nil => rfl
            | cons c A =>
              have := hp.2 c (by simp)
              rw [Bool.and_eq_true] at this
              have h1 := hbef c (nb this.1) this.2
              rw [e5 c (by rw [hT]; simp)] at h1; cases h1
          subst hA0
          have hff : f' = ov top L f := by
            funext t
            rw [e8 t]
            exact ov_slot L f f rfl fun e he _ => by
              obtain ⟨z, hz, hz1⟩ := hLord e he
              rw [← hz1]; exact hall z (by rw [e1]; simp [hz])
          have hA := e10 H' e9
          rw [← hff, hT] at hA
          exact tailstep [] B hT hall (fun _ h => by cases h) (fun c hc => e5 c (by rw [hT]; simp [hc])) (fun c hc he => by
            have := hp.1 c hc
            rw [Bool.and_eq_true] at this
            exact nb this.1 he.symm) hA
    · -- the tail goes on
      have hit : i ∈ tail := by
        rcases Bool.or_eq_true _ _ ▸ q1 i hi with h | h
        · obtain ⟨x, hx, hxi⟩ := List.mem_map.1 (List.elem_iff.1 h)
          have := t2 x hx
          rw [hxi, hSi] at this; cases this
        · exact List.elem_iff.1 h
      have hiB : i ∈ B := by
        rw [t1] at hit
        rcases List.mem_append.1 hit with h | h
        · rw [t3 i h] at hSi; cases hSi
        · exact h
      obtain ⟨C, D, hB⟩ := mem_split hiB
      have hp := prs_spec (p := fun c c' => !Nat.beq c c' && bfB ops c' c) (A := A ++ C) (a := i) (B := D) (by rw [t1, hB] at q5; simpa using q5)
      have hC : C = [] := by
        cases C with
        | nil => rfl
        | cons c C =>
          have := hp.2 c (by simp)
          rw [Bool.and_eq_true] at this
          have h1 := hbef c (nb this.1) this.2
          rw [t4 c (by rw [hB]; simp)] at h1; cases h1
      subst hC
      rw [List.nil_append] at hB
      subst hB
      exact tailstep A D t1 t2 t3 (fun c hc => t4 c (by simp [hc])) (fun c hc he => by
        have := hp.1 c hc
        rw [Bool.and_eq_true] at this
        exact nb this.1 he.symm) t5
  · -- the end
    intro S f' H' hall ⟨hD, hcase⟩
    rcases hcase with ⟨pre, rest, L, Hs, e1, e2, e3, e4, e5, e6, e7, e8, e9, e10⟩ | ⟨A, B, t1, t2, t3, t4, t5⟩
    · have hrest : rest = [] := by
        cases rest with
        | nil => rfl
        | cons y r =>
          have h1 := e4 y (by simp)
          rw [hall y.1 (Nat.blt_eq ▸ (q2 y (by rw [e1]; simp)))] at h1; cases h1
      have htail : tail = [] := by
        cases tail with
        | nil => rfl
        | cons c B =>
          have h1 := e5 c (by simp)
          rw [hall c (Nat.blt_eq ▸ (q3 c (by simp)))] at h1; cases h1
      subst hrest htail
      have hff : f' = ov top L f := by
        funext t
        rw [e8 t]
        refine ov_slot L f f rfl fun e he _ => ?_
        have : e.1 ∈ L.map (·.1) := List.mem_map_of_mem he
        rw [e3] at this
        obtain ⟨z, hz, hz1⟩ := List.mem_map.1 this
        rw [← hz1]; exact hall z.1 (Nat.blt_eq ▸ (q2 z (by rw [e1]; simp [hz])))
      have := e10 H' e9
      rw [← hff] at this
      exact this
    · have hB : B = [] := by
        cases B with
        | nil => rfl
        | cons c B =>
          have h1 := t4 c (by simp)
          rw [hall c (Nat.blt_eq ▸ (q3 c (by rw [t1]; simp)))] at h1; cases h1
      subst hB
      exact t5
def ovR : List Ent → (Nat → AV) → Nat → AV
  | [], f => f
  | e :: L, f => updO (ovR L f) e.2.1 e.2.2
theorem ovR_eq : ∀ (L : List Ent) (f : Nat → AV), ovR L f = ov top L.reverse f
  | [], _ => rfl
  | e :: L, f => by rw [List.reverse_cons, ov_app, ← ovR_eq L f]; rfl
def RevR (P : Program) (n : Nat) (ops : Array Oper) (R : List Nat) (H2 : Heap) : List Ent → (Nat → AV) → Prop
  | [], _ => True
  | e :: L, f0 => (R.elem e.1 = true → ∃ o d, ops[e.1]? = some o ∧ e.2.1 = some d ∧ QOpA P n ops o d e.2.2 H2 (ovR L f0)) ∧ RevR P n ops R H2 L f0
theorem RevR.nil {ops : Array Oper} {R : List Nat} {H2 : Heap} {f0 : Nat → AV} : RevR P n ops R H2 [] f0 := trivial
theorem RevR.skip {ops : Array Oper} {R : List Nat} {H2 : Heap} {i : Nat} {dv : Option Nat × AV} {L : List Ent} {f0 : Nat → AV} (h : R.elem i = false) (r : RevR P n ops R H2 L f0) : RevR P n ops R H2 ((i, dv) :: L) f0 := ⟨fun h2 => (by simp only at h2; rw [h] at h2; cases h2), r⟩
theorem RevR.cons {ops : Array Oper} {R : List Nat} {H2 : Heap} {i d : Nat} {v : AV} {o : Oper} {L : List Ent} {f0 : Nat → AV} (ho : ops[i]? = some o) (h : QOpA P n ops o d v H2 (ovR L f0)) (r : RevR P n ops R H2 L f0) : RevR P n ops R H2 ((i, some d, v) :: L) f0 := ⟨fun _ => ⟨o, d, ho, rfl, h⟩, r⟩
theorem RevR.none {ops : Array Oper} {H2 : Heap} : ∀ {L : List Ent} {f0 : Nat → AV}, RevR P n ops [] H2 L f0
  | [], _ => trivial
  | _ :: _, _ => ⟨fun h => by simp at h, RevR.none⟩
theorem Reval.snoc {ops : Array Oper} {R : List Nat} {H2 : Heap} {e : Ent} : ∀ {L : List Ent} {g : Nat → AV}, Reval P n ops R H2 L g → (R.elem e.1 = true → ∃ o d, ops[e.1]? = some o ∧ e.2.1 = some d ∧ QOpA P n ops o d e.2.2 H2 (ov top L g)) → Reval P n ops R H2 (L ++ [e]) g
  | [], _, _, h => ⟨h, trivial⟩
  | x :: L, g, h, h2 => ⟨h.1, Reval.snoc h.2 fun hR => by have := h2 hR; rw [ov_top_cons] at this; exact this⟩
theorem RevR.to {ops : Array Oper} {R : List Nat} {H2 : Heap} : ∀ {L : List Ent} {f0 : Nat → AV}, RevR P n ops R H2 L f0 → Reval P n ops R H2 L.reverse f0
  | [], _, _ => trivial
  | e :: L, f0, h => by
    rw [List.reverse_cons]
    exact Reval.snoc h.2.to fun hR => by have := h.1 hR; rw [ovR_eq] at this; exact this
def STR (P : Program) (n : Nat) (ops : Array Oper) (f0 : Nat → AV) (T : (Nat → AV) → Heap → Prop) : List Item → List Ent → Heap → (Nat → AV) → Prop
  | [], _, Hs, g => ∀ H', Mono Hs H' → T g H'
  | (i, none) :: r, L, Hs, g => ∃ o d v, ops[i]? = some o ∧ o.dst = some d ∧ QOpA P n ops o d v Hs g ∧ STR P n ops f0 T r ((i, some d, v) :: L) Hs (upd g d v)
  | (e, some R) :: r, L, Hs, g => ∃ o, ops[e]? = some o ∧ o.guard = none ∧ ∀ f' H', (∀ t, (tmpsOf o).elem t = true → f' t = g t) → Mono Hs H' →
      AOp P n o (fun f2 H2 => ∃ v, f2 = updO f' o.dst v ∧ (Mono H' H2 ∨ RevR P n ops R H2 L f0) ∧ STR P n ops f0 T r ((e, o.dst, v) :: L) H2 (updO g o.dst v)) f' H'
theorem STR.to {ops : Array Oper} {f0 : Nat → AV} {T : (Nat → AV) → Heap → Prop} : ∀ {r : List Item} {L : List Ent} {Hs : Heap} {g : Nat → AV}, STR P n ops f0 T r L Hs g → STQ P n ops f0 T r L.reverse Hs g
  | [], _, _, _, h => h
  | (i, none) :: r, L, Hs, g, ⟨o, d, v, h1, h2, h3, h4⟩ => ⟨o, d, v, h1, h2, h3, by have := STR.to h4; rwa [List.reverse_cons] at this⟩
  | (e, some R) :: r, L, Hs, g, ⟨o, ho, hg, h⟩ => by
    refine ⟨o, ho, hg, fun f' H' a b μ c w hs E => Oper.wp_mono (fun a' w' hx => ?_) (fun _ _ _ _ h => h) (h f' H' a b μ c w hs E)⟩
    obtain ⟨μ', f2, H2, g1, g2, v, k1, k2, k3⟩ := hx
    have k4 := STR.to k3
    rw [List.reverse_cons] at k4
    exact ⟨μ', f2, H2, g1, g2, v, k1, k2.imp id RevR.to, k4⟩
theorem STR.op {ops : Array Oper} {f0 g : Nat → AV} {T : (Nat → AV) → Heap → Prop} {r : List Item} {L : List Ent} {i d : Nat} {v : AV} {o : Oper} (ho : ops[i]? = some o) (hd : o.dst = some d) (h : QOpA P n ops o d v H g) (rest : STR P n ops f0 T r ((i, some d, v) :: L) H (upd g d v)) : STR P n ops f0 T ((i, none) :: r) L H g := ⟨o, d, v, ho, hd, h, rest⟩
theorem STR.eff {ops : Array Oper} {f0 g : Nat → AV} {T : (Nat → AV) → Heap → Prop} {r : List Item} {R : List Nat} {L : List Ent} {e d : Nat} {o : Oper} (ho : ops[e]? = some o) (hd : o.dst = some d) (hg : o.guard = none)
    (h : ∀ f' H', (∀ t, (tmpsOf o).elem t = true → f' t = g t) → Mono H H' → AOp P n o (fun f2 H2 => ∃ v, f2 = upd f' d v ∧ (Mono H' H2 ∨ RevR P n ops R H2 L f0) ∧ STR P n ops f0 T r ((e, some d, v) :: L) H2 (upd g d v)) f' H') : STR P n ops f0 T ((e, some R) :: r) L H g := ⟨o, ho, hg, by rw [hd]; exact h⟩
theorem STR.st {ops : Array Oper} {f0 g : Nat → AV} {T : (Nat → AV) → Heap → Prop} {r : List Item} {R : List Nat} {L : List Ent} {e : Nat} {o : Oper} (ho : ops[e]? = some o) (hd : o.dst = none) (hg : o.guard = none)
    (h : ∀ f' H', (∀ t, (tmpsOf o).elem t = true → f' t = g t) → Mono H H' → AOp P n o (fun f2 H2 => f2 = f' ∧ (Mono H' H2 ∨ RevR P n ops R H2 L f0) ∧ STR P n ops f0 T r ((e, none, .undef) :: L) H2 g) f' H') : STR P n ops f0 T ((e, some R) :: r) L H g := ⟨o, ho, hg, fun f' H' a b μ c w hs E => by
      rw [hd]
      exact Oper.wp_mono (fun a' w' ⟨μ', f2, H2, g1, g2, g3⟩ => ⟨μ', f2, H2, g1, g2, .undef, g3⟩) (fun _ _ _ _ h => h) (h f' H' a b μ c w hs E)⟩
theorem STR.done {ops : Array Oper} {f0 g : Nat → AV} {T : (Nat → AV) → Heap → Prop} {L : List Ent} (h : ∀ H', Mono H H' → T g H') : STR P n ops f0 T [] L H g := h
theorem AWP.region_str {rid : Nat} {ops : Array Oper} (hm : P.follows .mixedOrders = true) (hback : backB ops = true) (ord : List Item) (tail : List Nat) (hq : stgB ops ord tail = true)
    (h : STR P n ops f (fun g H' => AOps P n ops (Q .normal) tail g H') ord [] H f) : AWP P n (.region rid ops true) Q f H :=
  .region_stg hm hback ord tail hq h.to
end
end Go.AH
namespace Go.AH
variable [Globs]
set_option linter.unusedSectionVars false
open Go
theorem ACalls.nilArg {P : Program} {g : FuncId} {pre post : List AV} {H : Heap} {R : AV → Heap → Prop} (h : ACalls P g (pre ++ AV.sl 0 [] :: post) H R) : ACalls P g (pre ++ AV.snil :: post) H R := by
  intro μ w vs hr hv
  refine h μ w vs hr ⟨?_, ?_⟩
  · have := hv.1; simpa using this
  · intro j x y hx hy
    rcases Nat.lt_trichotomy j pre.length with hj | hj | hj
    · rw [List.getElem?_append_left hj] at hx
      exact hv.2 j x y (by rw [List.getElem?_append_left hj]; exact hx) hy
    · subst hj
      rw [List.getElem?_append_right (Nat.le_refl _), Nat.sub_self] at hx
      simp at hx
      subst hx
      exact VR.nil_sl (hv.2 _ .snil y (by rw [List.getElem?_append_right (Nat.le_refl _), Nat.sub_self]; rfl) hy)
    · have e : (pre ++ AV.snil :: post)[j]? = (pre ++ AV.sl 0 [] :: post)[j]? := by
        rw [List.getElem?_append_right (by omega), List.getElem?_append_right (by omega)]
        obtain ⟨k, hk⟩ : ∃ k, j - pre.length = k + 1 := ⟨j - pre.length - 1, by omega⟩
        rw [hk]; rfl
      exact hv.2 j x y (by rw [e]; exact hx) hy
theorem PC.nilArg {P : Program} {g : FuncId} {pre post : List AV} {r : AV} (h : PC P g (pre ++ AV.sl 0 [] :: post) r) : PC P g (pre ++ AV.snil :: post) r := fun H => (h H).nilArg
end Go.AH
namespace Go.AH
variable [Globs]
set_option linter.unusedSectionVars false
open Go Go.Deep
def nH : Heap := fun _ => none
abbrev idM : Nat → Nat := fun i => i
theorem nH_owned {μ : Nat → Nat} {b : Nat} : ¬ Owned μ nH b := by
  rintro ⟨_, _, h, _⟩; cases h
theorem nH_HR {w : World} {μ : Nat → Nat} (hg : GOK w μ nH) : HR w μ nH where
  glob := hg
  rows := fun _ _ _ h => by cases h
  maps := fun _ _ h => by cases h
  born := fun _ _ _ _ h => by cases h
  iters := fun _ _ h => by cases h
  inj := fun _ _ _ _ h => by cases h
  fin := ⟨0, fun _ _ => rfl⟩
theorem glob_tab {P : Program} {w : World} {name : String} {k : IntKind} {zs : List Int} {g : Nat} (h : Lib.TabIs P w name k zs) (hg : P.globalNamed name = some g) (h0 : 0 < zs.length) :
    VR w idM nH (.fptr (zs.map fun z => .int k z) 0) (.pointer (some ⟨g, 0, none⟩)) := by
  have hc := h.cell hg
  have hb : g < w.heap.size := by
    have := hc 0 h0
    unfold World.cell? at this
    split at this
    · rename_i c e fr hb; exact (Array.getElem?_eq_some_iff.1 hb).1
    · cases this
  have key := VR.fptr (w := w) (μ := idM) (H := nH) (cells := zs.map fun z => .int k z) (off := 0) (b := g) (o := 0) (ys := fun j => .int k (zs.getD j 0)) ⟨hb, nH_owned⟩ (fun j x hx => by
    have hj : j < zs.length := by
      rcases Nat.lt_or_ge j zs.length with h | h
      · exact h
      · rw [List.getElem?_eq_none (by simpa using h)] at hx; cases hx
    have := hc j hj
    simpa [List.getD, hj] using this) (fun j x hx => by
    rw [List.getElem?_map, Option.map_eq_some_iff] at hx
    obtain ⟨z, hz, rfl⟩ := hx
    have : zs.getD j 0 = z := by simp [List.getD, hz]
    rw [this]; exact .int _ _)
  simpa using key
theorem Ext.since0 {W W' : World} {μ μ' : Nat → Nat} {H' : Heap} (h : Ext W μ nH W' μ' H') : World.Since W.heap.size W W' :=
  ⟨h.rest.2.1, h.rest.1, h.rest.2.2.1, h.size, fun k hk => (h.frz k ⟨hk, nH_owned⟩).1⟩
theorem cell_spot0 {W : World} {a : Addr} {v : Value} (h : W.cell? a = some v) : a = ⟨a.block, a.off, none⟩ ∧ a.block < W.heap.size := by
  unfold World.cell? at h
  split at h
  · rename_i c e fr hb
    have hlt : a.block < W.heap.size := (Array.getElem?_eq_some_iff.1 hb).1
    split at h
    · cases h
    · rename_i hs
      refine ⟨?_, hlt⟩
      cases a with
      | mk b o s => cases s with
        | none => rfl
        | some s => simp at hs
  · cases h
section
variable {w : World} {μ : Nat → Nat} {H : Heap}
theorem VRs.nil : VRs w μ H [] [] := ⟨rfl, fun j x y h => by simp at h⟩
theorem VRs.one {x : AV} {v : Value} (h : VR w μ H x v) : VRs w μ H [x] [v] := ⟨rfl, fun j a b h1 h2 => by
  match j with
  | 0 => simp at h1 h2; subst h1 h2; exact h
  | j + 1 => simp at h1⟩
theorem VRs.app {xs ys : List AV} {«as» bs : List Value} (h : VRs w μ H xs «as») (g : VRs w μ H ys bs) : VRs w μ H (xs ++ ys) («as» ++ bs) := by
  refine ⟨by simp [h.1, g.1], fun j x y hx hy => ?_⟩
  rcases Nat.lt_or_ge j xs.length with hj | hj
  · rw [List.getElem?_append_left hj] at hx
    rw [List.getElem?_append_left (by rw [← h.1]; exact hj)] at hy
    exact h.2 j x y hx hy
  · rw [List.getElem?_append_right hj] at hx
    rw [List.getElem?_append_right (by rw [← h.1]; exact hj), ← h.1] at hy
    exact g.2 _ x y hx hy
theorem VRs.glue {xs ys : List AV} {cs : List Value} {o o' a b n : Nat} (h : VRs w μ H xs ((cs.drop o).take a)) (g : VRs w μ H ys ((cs.drop o').take b)) (ho : o' = o + a) (hn : n = a + b) : VRs w μ H (xs ++ ys) ((cs.drop o).take n) := by
  subst ho hn
  have e : (cs.drop o).take (a + b) = (cs.drop o).take a ++ (cs.drop (o + a)).take b := by
    rw [List.take_add, List.drop_drop]
  rw [e]; exact h.app g
theorem VRs.whole {xs : List AV} {cs : List Value} {n : Nat} (h : VRs w μ H xs ((cs.drop 0).take n)) (hn : cs.length = n) : VRs w μ H xs cs := by
  subst hn; simpa using h
theorem VRs.part {xs : List AV} {cs : List Value} {n : Nat} (h : VRs w μ H xs cs) (hn : cs.length = n) : VRs w μ H xs ((cs.drop 0).take n) := by
  subst hn; simpa using h
theorem VRs.agg {xs : List AV} {cs : Array Value} (h : VRs w μ H xs cs.toList) : VR w μ H (.agg xs) (.agg cs) := .agg (by simpa using h.1) fun j x y hx hy => h.2 j x y hx (by simpa using hy)
theorem VRs.get1 {x : AV} {v : Value} (h : VRs w μ H [x] [v]) : VR w μ H x v := h.2 0 x v rfl rfl
end
section
variable {D : Type} {enc : TypeId × Value → D} {P : Program} {W : World}
def Opn (enc : TypeId × Value → D) (P : Program) (W : World) (t : TypeId) {α : Type} (e : α → List AV) (Q : α → DataW D → Prop) : Prop :=
  ∀ (sp : Nat → Bool) (held : Bool) (fuel : Nat) (cs : List Value) (x : DataW D × List MemPlace), DataW.trod enc P W 0 sp held fuel t cs = some x → ∃ v, VRs W idM nH (e v) cs ∧ Q v x.1
theorem Opn.int {t : TypeId} {k : IntKind} (ht : P.underlying t = some (.int k)) : Opn enc P W t (fun n : Int => [.int k n]) (fun n _ => (Lit.int k n).wf = true) := fun sp held fuel cs x h => by
  obtain ⟨n, rfl, rfl, hw⟩ := DataW.trod_int ht h
  exact ⟨n, .one (.int _ _), hw⟩
theorem Opn.str {t : TypeId} (ht : P.underlying t = some .string) : Opn enc P W t (fun s : ByteArray => [.str s]) (fun s d => d = .lit (.string s.data.toList)) := fun sp held fuel cs x h => by
  obtain ⟨s, rfl, rfl, hw⟩ := DataW.trod_string ht h
  exact ⟨s, .one (.str _), rfl⟩
theorem Opn.bool {t : TypeId} (ht : P.underlying t = some .bool) : Opn enc P W t (fun s : Bool => [.bool s]) (fun _ _ => True) := fun sp held fuel cs x h => by
  obtain ⟨s, rfl, rfl⟩ := DataW.trod_bool ht h
  exact ⟨s, .one (.bool _), trivial⟩
theorem Opn.imp {t : TypeId} {α : Type} {e : α → List AV} {Q Q' : α → DataW D → Prop} (h : Opn enc P W t e Q) (hq : ∀ v d, Q v d → Q' v d) : Opn enc P W t e Q' := fun sp held fuel cs x hx => by
  obtain ⟨v, h1, h2⟩ := h sp held fuel cs x hx
  exact ⟨v, h1, hq _ _ h2⟩
theorem Opn.arr {t el : TypeId} {n m : Nat} {α : Type} {e : α → List AV} {Q : α → DataW D → Prop} (ht : P.underlying t = some (.array n el)) (hm : P.cellsOf el = m) (hn : P.cellsOf t = n * m) (he : Opn enc P W el e Q) :
    Opn enc P W t (fun l : List α => l.flatMap e) (fun l d => l.length = n ∧ ∃ ds, d = .agg ds ∧ ∀ x ∈ l, ∃ y ∈ ds, Q x y) := fun sp held fuel cs x h => by
  obtain ⟨xs, f, _, rfl, hl, hxl, hel⟩ := DataW.trod_array ht h
  rw [hm] at hel
  have key : ∀ k, k ≤ n → ∃ l : List α, l.length = k ∧ VRs W idM nH (l.flatMap e) ((cs.drop 0).take (k * m)) ∧ ∀ x ∈ l, ∃ y ∈ xs.map (·.1), Q x y := by
    intro k
    induction k with
    | zero => intro _; exact ⟨[], rfl, by simp; exact .nil, fun _ h => by cases h⟩
    | succ k ih =>
      intro hk
      obtain ⟨l, h1, h2, h3⟩ := ih (by omega)
      have hk' : k < xs.length := by omega
      have h4 := hel k (by omega)
      rw [List.getElem?_eq_getElem hk'] at h4
      obtain ⟨v, h5, h6⟩ := he _ _ _ _ _ h4
      refine ⟨l ++ [v], by simp [h1], ?_, fun x hx => ?_⟩
      · rw [List.flatMap_append, List.flatMap_singleton]
        exact h2.glue h5 (by omega) (by rw [Nat.add_mul]; omega)
      · rcases List.mem_append.1 hx with hx | hx
        · exact h3 x hx
        · simp at hx; subst hx
          exact ⟨_, List.mem_map_of_mem (List.getElem_mem hk'), h6⟩
  obtain ⟨l, h1, h2, h3⟩ := key n (Nat.le_refl _)
  exact ⟨l, h2.whole (by rw [hl, hn]), h1, _, rfl, h3⟩
theorem Opn.slice {t el : TypeId} {m : Nat} {α : Type} {e : α → List AV} {Q : α → DataW D → Prop} (ht : P.underlying t = some (.slice el)) (hm : P.cellsOf el = m) (hm0 : 0 < m) (he : Opn enc P W el e Q) :
    Opn enc P W t (fun l : List α => [.sl l.length (l.flatMap e)]) (fun l d => (l = [] ∧ d = .nil) ∨ ∃ ds sp, d = .slice ds sp ∧ l.length = ds.length ∧ ∀ x ∈ l, ∃ y ∈ ds, Q x y) := fun sp held fuel cs x h => by
  rcases Go.Deep.open_slice ht h with ⟨rfl, rfl⟩ | ⟨a, len, cap, mm, n, Dd, Pl, rfl, hb, hl, hcm, hmm, rfl, hx⟩
  · exact ⟨[], .one (.sl0 _ _), .inl ⟨rfl, rfl⟩⟩
  · rw [hm] at hx
    have hle : len ≤ mm := by rw [hmm]; split <;> omega
    have key : ∀ k, k ≤ len → ∃ l : List α, l.length = k ∧ (l.flatMap e).length = k * m ∧ (∃ ys : Nat → Value, ∀ j x, (l.flatMap e)[j]? = some x → W.cell? (a.add j) = some (ys j) ∧ VR W idM nH x (ys j)) ∧ ∀ x ∈ l, ∃ y ∈ (List.range len).map Dd, Q x y := by
      intro k
      induction k with
      | zero => intro _; exact ⟨[], rfl, by simp, ⟨fun _ => default, fun j x h => by simp at h⟩, fun _ h => by cases h⟩
      | succ k ih =>
        intro hk
        obtain ⟨l, h1, h2, ⟨ys, h3⟩, h4⟩ := ih (by omega)
        obtain ⟨cs', h5, h6⟩ := hx k (by omega)
        obtain ⟨v, h7, h8⟩ := he _ _ _ _ _ h6
        obtain ⟨_, hlen, hcell⟩ := World.cells?_some h5
        have hvl : (e v).length = m := by rw [h7.1, hlen]
        refine ⟨l ++ [v], by simp [h1], ?_, ⟨fun j => if j < k * m then ys j else cs'.getD (j - k * m) default, fun j x hj => ?_⟩, fun x hx => ?_⟩
        · rw [List.flatMap_append, List.flatMap_singleton, List.length_append, h2, hvl, Nat.add_mul]; omega
        · rw [List.flatMap_append, List.flatMap_singleton] at hj
          by_cases hjk : j < k * m
          · rw [List.getElem?_append_left (by omega)] at hj
            simp only [hjk, if_true]
            exact h3 j x hj
          · rw [List.getElem?_append_right (by omega), h2] at hj
            simp only [hjk, if_false]
            have hjl : j - k * m < cs'.length := by
              rcases Nat.lt_or_ge (j - k * m) (e v).length with g | g
              · omega
              · rw [List.getElem?_eq_none g] at hj; cases hj
            have hc := hcell (j - k * m) (by omega)
            rw [Go.Deep.add_add, show k * m + (j - k * m) = j by omega] at hc
            have hg : cs'.getD (j - k * m) default = cs'[j - k * m] := by simp [List.getD, hjl]
            refine ⟨?_, h7.2 _ _ _ hj (by rw [hg]; exact List.getElem?_eq_getElem hjl)⟩
            rw [hg, hc]; exact List.getElem?_eq_getElem hjl
        · rcases List.mem_append.1 hx with hx | hx
          · exact h4 x hx
          · simp at hx; subst hx
            exact ⟨_, List.mem_map_of_mem (List.mem_range.2 (by omega)), h8⟩
    obtain ⟨l, h1, h2, ⟨ys, h3⟩, h4⟩ := key len (Nat.le_refl _)
    refine ⟨l, .one ?_, .inr ⟨_, _, rfl, by simp [h1], h4⟩⟩
    rw [h1]
    by_cases h0 : len = 0
    · subst h0
      have : l = [] := List.eq_nil_of_length_eq_zero h1
      subst this
      exact .sl0 _ _
    · have hpos : 0 < (l.flatMap e).length := by rw [h2]; exact Nat.mul_pos (by omega) hm0
      have hc0 := (h3 0 _ (List.getElem?_eq_getElem hpos)).1
      obtain ⟨e0, hlt⟩ := cell_spot0 hc0
      have e2 : a = ⟨a.block, a.off, none⟩ := by
        have := congrArg Addr.spot e0
        cases a; simp [Addr.add] at this; subst this; rfl
      rw [e2]
      refine .sl (ys := ys) hl ⟨by simpa [Addr.add] using hlt, nH_owned⟩ (fun j x hx => ?_) (fun j x hx => (h3 j x hx).2)
      have := (h3 j x hx).1
      rw [e2] at this
      have e3 : (⟨a.block, a.off, none⟩ : Addr).add j = ⟨a.block, a.off + j, none⟩ := by
        by_cases hj : j = 0 <;> simp [Addr.add, hj]
      rw [e3] at this
      exact this
end
end Go.AH
namespace Go.AH
variable [Globs]
set_option linter.unusedSectionVars false
open Go
abbrev New := Nat × Nat × AB
def NeA (e : New) : List New → Prop
  | [] => True
  | x :: l => (Nat.beq x.1 e.1 = false ∧ x.2.1 ≠ e.2.1) ∧ NeA e l
def FrA (H : Heap) : List New → Prop
  | [] => True
  | e :: l => H e.2.1 = none ∧ NeA e l ∧ FrA H l
def HSf (A : List New) (H : Heap) (S : Nat → Bool) : Heap := fun j => match A.find? fun e => Nat.beq e.2.1 j with | some e => some (if S e.1 = true then e.2.2 else .res) | none => H j
theorem NeA.mem {e x : New} : ∀ {l : List New}, NeA e l → x ∈ l → Nat.beq x.1 e.1 = false ∧ x.2.1 ≠ e.2.1
  | _ :: l, h, hx => by
    rcases List.mem_cons.1 hx with rfl | hx
    · exact h.1
    · exact NeA.mem h.2 hx
theorem FrA.none {H : Heap} {e : New} : ∀ {A : List New}, FrA H A → e ∈ A → H e.2.1 = none
  | _ :: _, h, hx => by
    rcases List.mem_cons.1 hx with rfl | hx
    · exact h.1
    · exact FrA.none h.2.2 hx
theorem FrA.inj {H : Heap} {e x : New} : ∀ {A : List New}, FrA H A → e ∈ A → x ∈ A → (e.2.1 = x.2.1 ∨ e.1 = x.1) → e = x
  | a :: l, h, he, hx, hh => by
    rcases List.mem_cons.1 he with rfl | he2
    · rcases List.mem_cons.1 hx with rfl | hx2
      · rfl
      · have := NeA.mem h.2.1 hx2
        rcases hh with hh | hh
        · exact absurd hh.symm this.2
        · rw [hh] at this; simp at this
    · rcases List.mem_cons.1 hx with rfl | hx2
      · have := NeA.mem h.2.1 he2
        rcases hh with hh | hh
        · exact absurd hh this.2
        · rw [hh] at this; simp at this
      · exact FrA.inj h.2.2 he2 hx2 hh
theorem HSf_mem {A : List New} {H : Heap} (hA : FrA H A) {S : Nat → Bool} {e : New} (he : e ∈ A) : HSf A H S e.2.1 = some (if S e.1 = true then e.2.2 else .res) := by
  unfold HSf
  cases hf : A.find? fun x => Nat.beq x.2.1 e.2.1 with
  | none => have := List.find?_eq_none.1 hf e he; simp at this
  | some x =>
    have h1 := List.find?_some hf
    have h2 := List.mem_of_find?_eq_some hf
    have := hA.inj h2 he (.inl (by simpa using h1))
    subst this; rfl
theorem HSf_not {A : List New} {H : Heap} {S : Nat → Bool} {j : Nat} (h : ∀ e ∈ A, e.2.1 ≠ j) : HSf A H S j = H j := by
  unfold HSf
  cases hf : A.find? fun x => Nat.beq x.2.1 j with
  | none => rfl
  | some x =>
    have h1 := List.find?_some hf
    exact absurd (by simpa using h1) (h x (List.mem_of_find?_eq_some hf))
theorem HSf_mono {A : List New} {H : Heap} (hA : FrA H A) {S : Nat → Bool} {H' : Heap} (m : Mono (HSf A H S) H') : Mono H H' := fun j C hj => m j C (by
  rw [HSf_not]; exact hj
  intro e he h
  rw [← h, hA.none he] at hj; cases hj)
theorem HSf_same {A : List New} {H : Heap} {S S' : Nat → Bool} (h : ∀ e ∈ A, S' e.1 = S e.1) : HSf A H S' = HSf A H S := by
  funext j
  unfold HSf
  cases hf : A.find? fun x => Nat.beq x.2.1 j with
  | none => rfl
  | some x => simp only [h x (List.mem_of_find?_eq_some hf)]
section
variable {P : Program} {n : Nat} {Q : Exit → (Nat → AV) → Heap → Prop} {f : Nat → AV} {H : Heap}
theorem AWP.freshN {c : Code} (h : ∀ b, (∀ j, H (b + j) = none) → AWP P n c Q f H) : AWP P n c Q f H := by
  intro μ a w hs
  obtain ⟨N, hN⟩ := hs.hr.fin
  exact h N (fun j => hN _ (Nat.le_add_right _ _)) μ a w hs
theorem AWP.reserveA {c : Code} : ∀ {A : List New} {H : Heap}, FrA H A → AWP P n c Q f (HSf A H fun _ => false) → AWP P n c Q f H
  | [], _, _, h => h
  | e :: l, H, hA, h => by
    refine AWP.reserveA hA.2.2 ?_
    refine AWP.reserve (id := e.2.1) ?_ ?_
    · rw [HSf_not]
      · exact hA.1
      · intro x hx; exact (NeA.mem hA.2.1 hx).2
    · have e1 : updH (HSf l H fun _ => false) e.2.1 .res = HSf (e :: l) H fun _ => false := by
        funext j
        rw [updH_eq]
        by_cases hj : j = e.2.1
        · subst hj
          rw [if_pos rfl]
          have := HSf_mem hA (S := fun _ => false) (e := e) (.head _)
          rw [this]; rfl
        · rw [if_neg hj]
          unfold HSf
          rw [List.find?_cons_of_neg (by simp; exact fun g => hj g.symm)]
      rw [e1]; exact h
def NewOp (P : Program) (n : Nat) (o : Oper) (id : Nat) (B : AB) (d : Nat) (v : AV) (f : Nat → AV) : Prop :=
  ∀ f' H', (∀ t, (tmpsOf o).elem t = true → f' t = f t) → H' id = some .res → AOp P n o (fun f2 H2 => f2 = upd f' d v ∧ H2 = updH H' id B) f' H'
inductive QPAs (P : Program) (n : Nat) (ops : Array Oper) (A : List New) (H : Heap) (T : (Nat → AV) → Prop) (k : Nat) : Nat → (Nat → AV) → List (Nat × AV) → Prop
  | done {f : Nat → AV} (h : T f) : QPAs P n ops A H T k k f []
  | op {i d : Nat} {f : Nat → AV} {v : AV} {L : List (Nat × AV)} {o : Oper} (hi : ∀ e ∈ A, e.1 ≠ i) (ho : ops[i]? = some o) (hd : o.dst = some d) (h : QOpA P n ops o d v H f) (rest : QPAs P n ops A H T k (i + 1) (upd f d v) L) : QPAs P n ops A H T k i f ((d, v) :: L)
  | new {i d id : Nat} {f : Nat → AV} {v : AV} {B : AB} {L : List (Nat × AV)} {o : Oper} (hi : (i, id, B) ∈ A) (ho : ops[i]? = some o) (hd : o.dst = some d) (hg : o.guard = none) (hop : NewOp P n o id B d v f) (rest : QPAs P n ops A H T k (i + 1) (upd f d v) L) : QPAs P n ops A H T k i f ((d, v) :: L)
theorem QPAs.len {ops : Array Oper} {A : List New} {T : (Nat → AV) → Prop} {k b : Nat} {L : List (Nat × AV)} (h : QPAs P n ops A H T k b f L) : b + L.length = k := by
  induction h with
  | done h => rfl
  | op hi ho hd h rest ih => simp only [List.length_cons]; omega
  | new hi ho hd hg hop rest ih => simp only [List.length_cons]; omega
def QEAs (P : Program) (n : Nat) (ops : Array Oper) (A : List New) (H : Heap) (T : (Nat → AV) → Prop) (k i : Nat) (f : Nat → AV) : Prop := ∃ L, QPAs P n ops A H T k i f L
theorem QEAs.done {ops : Array Oper} {A : List New} {T : (Nat → AV) → Prop} {k : Nat} (h : T f) : QEAs P n ops A H T k k f := ⟨_, .done h⟩
def notinB (A : List New) (i : Nat) : Bool := A.all fun e => !Nat.beq e.1 i
theorem QEAs.op {ops : Array Oper} {A : List New} {T : (Nat → AV) → Prop} {k i d : Nat} {v : AV} {o : Oper} (hi : notinB A i = true) (ho : ops[i]? = some o) (hd : o.dst = some d) (h : QOpA P n ops o d v H f) (rest : QEAs P n ops A H T k (i + 1) (upd f d v)) : QEAs P n ops A H T k i f :=
  let ⟨_, r⟩ := rest; ⟨_, .op (fun e he g => by
    have := List.all_eq_true.1 hi e he
    rw [g] at this; simp at this) ho hd h r⟩
theorem QEAs.alloc {ops : Array Oper} {A : List New} {Z : List AV} {T : (Nat → AV) → Prop} {k i d id : Nat} {o : Oper} {t : TypeId} (hi : (i, id, .row 0 Z) ∈ A) (ho : ops[i]? = some o) (hd : o.dst = some d) (hg : o.guard = none) (hop : o.op = .alloc t) (hn : Nat.ble (d + 1) n = true) (hz : TZero P t Z) (rest : QEAs P n ops A H T k (i + 1) (upd f d (.ptr id 0 0))) : QEAs P n ops A H T k i f :=
  let ⟨_, r⟩ := rest; ⟨_, .new hi ho hd hg (fun f' H' _ hr => by
      obtain ⟨dst, op, ty, pos, after, guard⟩ := o
      simp only at hd hop
      subst hd hop
      exact AOp.alloc_at id (.inr hr) hn hz ⟨rfl, rfl⟩) r⟩
def EntAs (P : Program) (n : Nat) (ops : Array Oper) (A : List New) (H : Heap) (i : Nat) (o : Oper) (d : Nat) (v : AV) (f : Nat → AV) : Prop :=
  ((∀ e ∈ A, e.1 ≠ i) ∧ QOpA P n ops o d v H f) ∨ (∃ id B, (i, id, B) ∈ A ∧ NewOp P n o id B d v f ∧ o.guard = none)
theorem QPAs.get {ops : Array Oper} {A : List New} {T : (Nat → AV) → Prop} {k b : Nat} {L : List (Nat × AV)} (h : QPAs P n ops A H T k b f L) : T (cur L b (fun _ => true) f) ∧
    ∀ m d v, L[m]? = some (d, v) → ∃ o, ops[b + m]? = some o ∧ o.dst = some d ∧ EntAs P n ops A H (b + m) o d v (cur (L.take m) b (fun _ => true) f) := by
  induction h with
  | done h => exact ⟨h, fun m d v hm => by simp at hm⟩
  | op hi ho hd h rest ih =>
    rename_i i d0 f v0 L o
    refine ⟨by rw [cur, if_pos rfl]; exact ih.1, fun m d v hm => ?_⟩
    cases m with
    | zero =>
      simp only [List.getElem?_cons_zero, Option.some.injEq, Prod.mk.injEq] at hm
      obtain ⟨rfl, rfl⟩ := hm
      exact ⟨o, ho, hd, .inl ⟨hi, h⟩⟩
    | succ m =>
      obtain ⟨o', h1, h2, h3⟩ := ih.2 m d v (by simpa using hm)
      rw [show i + 1 + m = i + (m + 1) by omega] at h1 h3
      refine ⟨o', h1, h2, ?_⟩
      rw [List.take_succ_cons, cur, if_pos rfl]; exact h3
  | new hi ho hd hg hop rest ih =>
    rename_i i d0 id f v0 B L o
    refine ⟨by rw [cur, if_pos rfl]; exact ih.1, fun m d v hm => ?_⟩
    cases m with
    | zero =>
      simp only [List.getElem?_cons_zero, Option.some.injEq, Prod.mk.injEq] at hm
      obtain ⟨rfl, rfl⟩ := hm
      exact ⟨o, ho, hd, .inr ⟨id, B, hi, hop, hg⟩⟩
    | succ m =>
      obtain ⟨o', h1, h2, h3⟩ := ih.2 m d v (by simpa using hm)
      rw [show i + 1 + m = i + (m + 1) by omega] at h1 h3
      refine ⟨o', h1, h2, ?_⟩
      rw [List.take_succ_cons, cur, if_pos rfl]; exact h3
end
end Go.AH
namespace Go.AH
variable [Globs]
set_option linter.unusedSectionVars false
open Go
section
variable {P : Program} {n : Nat} {Q : Exit → (Nat → AV) → Heap → Prop} {f : Nat → AV} {H : Heap}
def StgI (P : Program) (n : Nat) (ops : Array Oper) (ord : List Item) (tail : List Nat) (Q : Exit → (Nat → AV) → Heap → Prop) (f : Nat → AV) (S : Nat → Bool) (f' : Nat → AV) (H' : Heap) : Prop := Dn ops S ∧
    ((∃ pre rest L Hs, ord = pre ++ rest ∧ (∀ x ∈ rest.head?, x.2 ≠ none) ∧ L.map (·.1) = pre.map (·.1) ∧ (∀ x ∈ rest, S x.1 = false) ∧ (∀ c ∈ tail, S c = false) ∧ Vld P n ops L Hs S f ∧ Dst ops L ∧ (∀ t, f' t = ov S L f t) ∧ Mono Hs H' ∧ STQ P n ops f (fun g H' => AOps P n ops (Q .normal) tail g H') rest L Hs (ov top L f)) ∨
     (∃ A B, tail = A ++ B ∧ (∀ x ∈ ord, S x.1 = true) ∧ (∀ c ∈ A, S c = true) ∧ (∀ c ∈ B, S c = false) ∧ AOps P n ops (Q .normal) B f' H'))
theorem stg_all {ops : Array Oper} (ord : List Item) (tail : List Nat) (hq : stgB ops ord tail = true) :
    (∀ S i o, ops[i]? = some o → S i = false → (∀ e ∈ o.after, Region.binds .any e = true → S e.on = true) → ∀ f' H', StgI P n ops ord tail Q f S f' H' → (o.guard = none ∧ AOp P n o (StgI P n ops ord tail Q f (fun k => Nat.beq k i || S k)) f' H') ∨
      (∃ j want oj d b, o.guard = some (j, want) ∧ ops[j]? = some oj ∧ oj.dst = some d ∧ f' d = gAV b ∧
        (b = some want → AOp P n o (StgI P n ops ord tail Q f (fun k => Nat.beq k i || S k)) f' H') ∧
        (b ≠ some want → ∃ d', o.dst = some d' ∧ Nat.ble (d' + 1) n = true ∧ StgI P n ops ord tail Q f (fun k => Nat.beq k i || S k) (upd f' d' (.tup [])) H'))) ∧
    (∀ S f' H', (∀ i, i < ops.size → S i = true) → StgI P n ops ord tail Q f S f' H' → Q .normal f' H') := by
  simp only [stgB, Bool.and_eq_true, List.all_eq_true, List.mem_range] at hq
  obtain ⟨⟨⟨⟨⟨q1, q2⟩, q3⟩, q4⟩, q5⟩, q6⟩ := hq
  have beqf : ∀ x y : Nat, x ≠ y → Nat.beq x y = false := fun x y h => by
    cases hb : Nat.beq x y with
    | false => rfl
    | true => exact absurd (Nat.eq_of_beq_eq_true hb) h
  let I : (Nat → Bool) → (Nat → AV) → Heap → Prop := StgI P n ops ord tail Q f
  have hdn : ∀ (S : Nat → Bool) i o, Dn ops S → ops[i]? = some o → (∀ e ∈ o.after, Region.binds .any e = true → S e.on = true) → Dn ops (fun k => Nat.beq k i || S k) := by
    intro S i o hD ho hr j oj hj hS e he hb
    by_cases hji : j = i
    · subst hji
      rw [ho] at hj; cases hj
      simp [hr e he hb]
    · have hS : (Nat.beq j i || S j) = true := hS
      rw [beqf _ _ hji, Bool.false_or] at hS
      simp [hD j oj hj hS e he hb]
  have befD : ∀ (S : Nat → Bool), Dn ops S → ∀ i j, bfB ops i j = true → S i = true → S j = true := by
    intro S hD i j hb hS
    unfold bfB at hb
    rcases Nat.lt_or_ge i (befL ops.toList []).length with h | h
    · rw [List.getD_eq_getElem?_getD, List.getElem?_eq_getElem h, Option.getD_some] at hb
      exact bef_spec hD ops.toList [] (fun j => by simp) (fun i m j hi => by simp at hi) i _ j (List.getElem?_eq_getElem h) hb hS
    · rw [List.getD_eq_getElem?_getD, List.getElem?_eq_none h, Option.getD_none] at hb
      simp at hb
  -- into the first phase
  have enter : ∀ S f' H' pre r L Hs, Dn ops S → ord = pre ++ r → L.map (·.1) = pre.map (·.1) → (∀ x ∈ r, S x.1 = false) → (∀ c ∈ tail, S c = false) → Vld P n ops L Hs S f → Dst ops L → (∀ t, f' t = ov S L f t) → Mono Hs H' → STQ P n ops f (fun g H' => AOps P n ops (Q .normal) tail g H') r L Hs (ov top L f) → I S f' H' := by
    intro S f' H' pre r L Hs hD e1 e2 e3 e4 e5 e6 e7 e8 e9
    obtain ⟨p, q, M, g1, g2, g3, g4, g5, g6, g7⟩ := STQ.norm e5 e6 e9
    subst g1
    refine ⟨hD, .inl ⟨pre ++ p, q, L ++ M, Hs, by rw [e1, List.append_assoc], g3, by rw [List.map_append, List.map_append, e2, g4], fun x hx => e3 x (by simp [hx]), e4, g5, g6, fun t => ?_, e8, g7⟩⟩
    rw [e7 t, ov_app, ov_none M]
    intro e he
    have : e.1 ∈ M.map (·.1) := List.mem_map_of_mem he
    rw [g4] at this
    obtain ⟨x, hx, h⟩ := List.mem_map.1 this
    rw [← h]; exact e3 x (by simp [hx])
  refine ⟨?_, ?_⟩
  · -- a step
    intro S i o ho hSi hr f' H' ⟨hD, hcase⟩
    have hi : i < ops.size := by
      rcases Nat.lt_or_ge i ops.size with h' | h'
      · exact h'
      · rw [Array.getElem?_eq_none h'] at ho; cases ho
    have hD' := hdn S i o hD ho hr
    have hSi' : (fun k => Nat.beq k i || S k) i = true := by simp
    have hbef : ∀ j, j ≠ i → bfB ops i j = true → S j = true := fun j hj hb => by
      have : (Nat.beq j i || S j) = true := befD _ hD' i j hb hSi'
      rwa [beqf _ _ hj, Bool.false_or] at this
    have hoth : ∀ x, x ≠ i → (fun k => Nat.beq k i || S k) x = S x := fun x hx => by show (Nat.beq x i || S x) = S x; rw [beqf _ _ hx, Bool.false_or]
    have mono : ∀ {K K' : (Nat → AV) → Heap → Prop}, (∀ f H, K f H → K' f H) → AOp P n o K f' H' → AOp P n o K' f' H' := fun hk h μ a w hs E =>
      Oper.wp_mono (fun a' w' ⟨μ', f2, H2, g1, g2, g3⟩ => ⟨μ', f2, H2, g1, g2, hk _ _ g3⟩) (fun _ _ _ _ h => h) (h μ a w hs E)
    -- the first of what is left of the tail
    have tailstep : ∀ A B, tail = A ++ i :: B → (∀ x ∈ ord, S x.1 = true) → (∀ c ∈ A, S c = true) → (∀ c ∈ B, S c = false) → (∀ c ∈ B, c ≠ i) → AOps P n ops (Q .normal) (i :: B) f' H' →
        (o.guard = none ∧ AOp P n o (I (fun k => Nat.beq k i || S k)) f' H') ∨
        (∃ j want oj d b, o.guard = some (j, want) ∧ ops[j]? = some oj ∧ oj.dst = some d ∧ f' d = gAV b ∧ (b = some want → AOp P n o (I (fun k => Nat.beq k i || S k)) f' H') ∧ (b ≠ some want → ∃ d', o.dst = some d' ∧ Nat.ble (d' + 1) n = true ∧ I (fun k => Nat.beq k i || S k) (upd f' d' (.tup [])) H')) := by
      intro A B hT hO hA hB hne hAO
      obtain ⟨o', ho', hAO⟩ := hAO
      rw [ho] at ho'; cases ho'
      have hI : ∀ f2 H2, AOps P n ops (Q .normal) B f2 H2 → I (fun k => Nat.beq k i || S k) f2 H2 := fun f2 H2 h =>
        ⟨hD', .inr ⟨A ++ [i], B, by rw [hT]; simp, fun x hx => by simp [hO x hx], fun c hc => by
          rcases List.mem_append.1 hc with hc | hc
          · simp [hA c hc]
          · simp at hc; simp [hc], fun c hc => by exact (hoth c (hne c hc)).trans (hB c hc), h⟩⟩
      rcases hAO with ⟨hg, hAO⟩ | ⟨j, want, oj, d, b, hg, hj, hd, hfb, h1, h2⟩
      · exact .inl ⟨hg, mono hI hAO⟩
      · refine .inr ⟨j, want, oj, d, b, hg, hj, hd, hfb, fun e => mono hI (h1 e), fun e => ?_⟩
        obtain ⟨d', hd', hn', h3⟩ := h2 e
        exact ⟨d', hd', hn', hI _ _ h3⟩
    have nb : ∀ {x y : Nat}, (!Nat.beq x y) = true → x ≠ y := fun h e => by subst e; simp at h
    rcases hcase with ⟨pre, rest, L, Hs, e1, e2, e3, e4, e5, e6, e7, e8, e9, e10⟩ | ⟨A, B, t1, t2, t3, t4, t5⟩
    · have hLord : ∀ e ∈ L, ∃ x ∈ pre, x.1 = e.1 := fun e he => by
        have : e.1 ∈ L.map (·.1) := List.mem_map_of_mem he
        rw [e3] at this
        exact List.mem_map.1 this
      by_cases hLi : ∃ e ∈ L, e.1 = i
      · -- an operation that is known
        obtain ⟨⟨i', dd, v⟩, hmem, rfl⟩ := hLi
        obtain ⟨A, B, hL⟩ := mem_split hmem
        obtain ⟨o', d, ho', hd, hdd, hop⟩ := e6 A (i', dd, v) B hL hSi
        simp only at hdd
        subst hdd
        simp only at ho hSi hr hi hD' hSi' hbef hoth tailstep ho' hd hop ⊢
        rw [ho] at ho'; cases ho'
        -- the items of the order
        obtain ⟨PA, x, PB, hp, hPA, hx, hPB⟩ : ∃ PA x PB, pre = PA ++ x :: PB ∧ PA.map (·.1) = A.map (·.1) ∧ x.1 = i' ∧ PB.map (·.1) = B.map (·.1) := by
          rw [hL, List.map_append, List.map_cons] at e3
          obtain ⟨P1, P2, k1, k2, k3⟩ := List.map_eq_append_iff.1 e3.symm
          obtain ⟨x, P3, k4, k5, k6⟩ := List.map_eq_cons_iff.1 k3
          exact ⟨P1, x, P3, by rw [k1, k4], k2, k5, k6⟩
        have hpair := prs_spec (p := pairB ops) (A := PA) (a := x) (B := PB ++ rest) (by rw [e1, hp] at q4; simpa using q4)
        have hA : ∀ e ∈ A, e.1 ≠ i' ∧ ∀ t ∈ touch ops i', e.2.1 = some t → S e.1 = true := fun e he => by
          have : e.1 ∈ A.map (·.1) := List.mem_map_of_mem he
          rw [← hPA] at this
          obtain ⟨y, hy, hy1⟩ := List.mem_map.1 this
          have hb := hpair.2 y hy
          simp only [pairB, Bool.and_eq_true, List.all_eq_true] at hb
          obtain ⟨⟨⟨⟨b1, b2⟩, b3⟩, b4⟩, b5⟩ := hb
          rw [hy1, hx] at b1 b2 b3
          have hne := nb b1
          refine ⟨hne, fun t ht hd => ?_⟩
          have h3 := b3 t ht
          have hds : dstOf ops e.1 = e.2.1 := e7 e (by rw [hL]; simp [he])
          rw [hds] at h3
          simp only [hd, Nat.beq_refl, Bool.not_true, Bool.false_or] at h3
          exact hbef e.1 hne h3
        have hB : ∀ e ∈ B, e.1 ≠ i' ∧ ∀ t ∈ touch ops i', e.2.1 = some t → S e.1 = false := fun e he => by
          have : e.1 ∈ B.map (·.1) := List.mem_map_of_mem he
          rw [← hPB] at this
          obtain ⟨y, hy, hy1⟩ := List.mem_map.1 this
          have hb := hpair.1 y (by simp [hy])
          simp only [pairB, Bool.and_eq_true, List.all_eq_true] at hb
          obtain ⟨⟨⟨⟨b1, b2⟩, b3⟩, b4⟩, b5⟩ := hb
          rw [hy1, hx] at b1 b2 b3
          have hne := nb b1
          refine ⟨hne.symm, fun t ht hd => ?_⟩
          have h2 := b2 t ht
          have hds : dstOf ops e.1 = e.2.1 := e7 e (by rw [hL]; simp [he])
          rw [hds] at h2
          simp only [hd, Nat.beq_refl, Bool.not_true, Bool.false_or] at h2
          cases hSe : S e.1 with
          | false => rfl
          | true => have := befD S hD e.1 i' h2 hSe; rw [hSi] at this; cases this
        have htouch : ∀ t, t ∈ tmpsOf o ++ guardSlot ops o ++ [d] → t ∈ touch ops i' := fun t ht => by
          simp only [touch, ho, hd, Option.toList]; exact ht
        have hval : ∀ t, t ∈ tmpsOf o ++ guardSlot ops o ++ [d] → f' t = ov top A f t := by
          intro t ht
          rw [e8 t, hL, ov_app]
          rw [ov_slot (S := S) (S' := fun _ => false) ((i', some d, v) :: B) _ (ov top A f) (ov_slot A f f rfl fun e he hd => (hA e he).2 t (htouch t ht) hd) fun e he hd => ?_]
          · exact congrFun (ov_none _ _ fun _ _ => rfl) t
          · rcases List.mem_cons.1 he with rfl | he
            · exact hSi
            · exact (hB e he).2 t (htouch t ht) hd
        have hnew : ∀ t, upd f' d v t = ov (fun k => Nat.beq k i' || S k) L f t := by
          intro t
          have hAc : ov (fun k => Nat.beq k i' || S k) A f = ov S A f := ov_congr A f fun e he => hoth e.1 (hA e he).1
          rw [hL, ov_app, hAc, ov, if_pos hSi']
          by_cases htd : t = d
          · subst htd
            rw [upd_eq, if_pos rfl]
            rw [ov_slot (S' := fun _ => false) B _ _ rfl fun e he hd => by
              exact (hoth e.1 (hB e he).1).trans ((hB e he).2 t (htouch t (by simp)) hd)]
            rw [ov_none B _ fun _ _ => rfl]; simp [updO, upd_eq]
          · rw [upd_eq, if_neg htd, e8 t, hL, ov_app, ov, if_neg (by rw [hSi]; decide)]
            exact (ov_slot B _ _ (by simp only [updO]; rw [upd_eq, if_neg htd]) fun e he _ => hoth e.1 (hB e he).1).symm
        have hneO : ∀ x ∈ rest, x.1 ≠ i' := fun y hy he => by
          have hb := hpair.1 y (by simp [hy])
          simp only [pairB, Bool.and_eq_true] at hb
          exact nb hb.1.1.1.1 (by rw [hx, he])
        have hneT : ∀ c ∈ tail, c ≠ i' := fun c hc he => by
          have := q6 c hc x (by rw [e1, hp]; simp)
          exact nb this.1 (by rw [he, hx])
        have hI : ∀ f2 H2, f2 = upd f' d v ∧ Mono Hs H2 → I (fun k => Nat.beq k i' || S k) f2 H2 := fun f2 H2 ⟨e, m⟩ =>
          ⟨hD', .inl ⟨pre, rest, L, Hs, e1, e2, e3, fun y hy => (hoth _ (hneO y hy)).trans (e4 y hy), fun c hc => (hoth _ (hneT c hc)).trans (e5 c hc), fun A' e' B' hL' hS' => by
            refine e6 A' e' B' hL' ?_
            have hS' : (Nat.beq e'.1 i' || S e'.1) = false := hS'
            rw [Bool.or_eq_false_iff] at hS'; exact hS'.2, e7, by rw [e]; exact hnew, m, e10⟩⟩
        rcases hop with ⟨hg, hop⟩ | ⟨j, want, oj, dj, b, hg, hj, hdj, hfb, hyes, hno⟩
        · exact .inl ⟨hg, mono (fun f2 H2 h => hI f2 H2 ⟨h.1, e9.trans h.2⟩) (hop H' f' H' (fun t ht => hval t (by have := List.elem_iff.1 ht; simp [this])) (Mono.refl _) e9)⟩
        · refine .inr ⟨j, want, oj, dj, b, hg, hj, hdj, ?_, fun hb => mono (fun f2 H2 h => hI f2 H2 ⟨h.1, e9.trans h.2⟩) (hyes hb H' f' H' (fun t ht => hval t (by have := List.elem_iff.1 ht; simp [this])) (Mono.refl _) e9), fun hb => ?_⟩
          · rw [hval dj (by simp [guardSlot, hg, hj, hdj])]; exact hfb
          · obtain ⟨hv, hn⟩ := hno hb
            exact ⟨d, hd, hn, hI _ _ ⟨by rw [hv], e9⟩⟩
      · have hnp : ∀ x ∈ pre, x.1 ≠ i := fun x hx he => by
          have : x.1 ∈ pre.map (·.1) := List.mem_map_of_mem hx
          rw [← e3] at this
          obtain ⟨e, h1, h2⟩ := List.mem_map.1 this
          exact hLi ⟨e, h1, by rw [h2, he]⟩
        rcases Bool.or_eq_true _ _ ▸ q1 i hi with hio | hit
        · -- an effect
          obtain ⟨x, hx, hxi⟩ := List.mem_map.1 (List.elem_iff.1 hio)
          have hxr : x ∈ rest := by
            rw [e1] at hx
            rcases List.mem_append.1 hx with hx | hx
            · exact absurd hxi (hnp x hx)
            · exact hx
          match rest, hxr, e2, e4, e10, e1 with
          | y :: r, hxr, e2, e4, e10, e1 =>
            obtain ⟨ye, yR⟩ := y
            cases yR with
            | none => exact absurd rfl (e2 (ye, none) (by simp))
            | some R =>
              have hpair := prs_spec (p := pairB ops) (A := pre) (a := (ye, some R)) (B := r) (by rw [e1] at q4; exact q4)
              have hye : ye = i := by
                rcases List.mem_cons.1 hxr with rfl | hxr
                · exact hxi
                · have hb := hpair.1 x hxr
                  simp only [pairB, Bool.and_eq_true] at hb
                  obtain ⟨⟨⟨⟨b1, b2⟩, b3⟩, b4⟩, b5⟩ := hb
                  rw [hxi] at b1 b4
                  have h1 := hbef ye (nb b1) b4
                  have h2 := e4 (ye, some R) (by simp)
                  simp only at h2
                  rw [h1] at h2; cases h2
              subst hye
              obtain ⟨o', ho', hg, hE⟩ := e10
              rw [ho] at ho'; cases ho'
              have hpre : ∀ e ∈ L, e.1 ≠ ye ∧ (∀ t ∈ touch ops ye, e.2.1 = some t → S e.1 = true) ∧ (S e.1 = false → R.elem e.1 = true) := fun e he => by
                obtain ⟨z, hz, hz1⟩ := hLord e he
                have hb := hpair.2 z hz
                simp only [pairB, Bool.and_eq_true, List.all_eq_true] at hb
                obtain ⟨⟨⟨⟨b1, b2⟩, b3⟩, b4⟩, b5⟩ := hb
                rw [hz1] at b1 b3 b5
                have hne := nb b1
                refine ⟨hne, fun t ht hd => ?_, fun hSe => ?_⟩
                · have h3 := b3 t ht
                  rw [e7 e he] at h3
                  simp only [hd, Nat.beq_refl, Bool.not_true, Bool.false_or] at h3
                  exact hbef e.1 hne h3
                · rw [Bool.or_eq_true] at b5
                  rcases b5 with b5 | b5
                  · rw [hbef e.1 hne b5] at hSe; cases hSe
                  · exact b5
              have hval : ∀ t, (tmpsOf o).elem t = true → f' t = ov top L f t := fun t ht => by
                rw [e8 t]
                exact ov_slot L f f rfl fun e he hd => (hpre e he).2.1 t (by simp only [touch, ho]; have := List.elem_iff.1 ht; simp [this]) hd
              refine .inl ⟨hg, mono (fun f2 H2 h => ?_) (hE f' H' hval e9)⟩
              obtain ⟨v, hf2, hmr, hrest⟩ := h
              refine enter _ _ _ (pre ++ [(ye, some R)]) r (L ++ [(ye, o.dst, v)]) H2 hD' (by rw [e1]; simp) (by rw [List.map_append, List.map_append, e3]; rfl) (fun z hz => ?_) (fun c hc => ?_) ?_ ?_ (fun t => ?_) (Mono.refl _) (by rw [ov_app]; exact hrest)
              · have hb := hpair.1 z hz
                simp only [pairB, Bool.and_eq_true] at hb
                exact (hoth z.1 (nb hb.1.1.1.1).symm).trans (e4 z (by simp [hz]))
              · have := q6 c hc (ye, some R) (by rw [e1]; simp)
                exact (hoth c (nb this.1)).trans (e5 c hc)
              · intro A e B hL hS
                have hS2 : (Nat.beq e.1 ye || S e.1) = false := hS
                rw [Bool.or_eq_false_iff] at hS2
                have hLe : ∃ C, L = A ++ e :: C := by
                  rcases List.append_eq_append_iff.1 hL with ⟨C, g1, g2⟩ | ⟨C, g1, g2⟩
                  · cases C with
                    | nil => simp only [List.nil_append, List.cons.injEq] at g2; rw [← g2.1] at hS2; simp at hS2
                    | cons c C => simp at g2
                  · cases C with
                    | nil => simp only [List.nil_append, List.cons.injEq] at g2; rw [g2.1] at hS2; simp at hS2
                    | cons c C => simp only [List.cons_append, List.cons.injEq] at g2; obtain ⟨rfl, g2⟩ := g2; exact ⟨C, g1⟩
                obtain ⟨C, hLe⟩ := hLe
                obtain ⟨oe, de, k1, k2, kd, k3⟩ := e6 A e C hLe hS2.2
                rcases hmr with hmr | hmr
                · exact ⟨oe, de, k1, k2, kd, k3.mono (e9.trans hmr)⟩
                · obtain ⟨oe', de', k4, kd', k5⟩ := hmr.spec A e C hLe ((hpre e (by rw [hLe]; simp)).2.2 hS2.2)
                  rw [k1] at k4; cases k4
                  rw [kd] at kd'; cases kd'
                  exact ⟨oe, de, k1, k2, kd, k5⟩
              · intro e he
                rcases List.mem_append.1 he with he | he
                · exact e7 e he
                · simp at he; subst he; simp [dstOf, ho]
              · rw [hf2, ov_app, ov_congr L f fun e he => hoth e.1 (hpre e he).1, ov, if_pos hSi', ov]
                cases hdo : o.dst with
                | none => exact e8 t
                | some d => simp only [updO]; rw [upd_eq, upd_eq, e8 t]
        · -- the tail begins
          have hmt := List.elem_iff.1 hit
          have hall : ∀ x ∈ ord, S x.1 = true := fun x hx => by
            have := q6 i hmt x hx
            exact hbef x.1 (nb this.1).symm this.2
          have hrest : rest = [] := by
            cases rest with
            | nil => rfl
            | cons y r => have h1 := hall y (by rw [e1]; simp); rw [e4 y (by simp)] at h1; cases h1
          subst hrest
          obtain ⟨A, B, hT⟩ := mem_split hmt
          have hp := prs_spec (p := fun c c' => !Nat.beq c c' && bfB ops c' c) (A := A) (a := i) (B := B) (by rw [hT] at q5; exact q5)
          have hA0 : A = [] := by
            cases A with
            | nil => rfl
            | cons c A =>
              have := hp.2 c (by simp)
              rw [Bool.and_eq_true] at this
              have h1 := hbef c (nb this.1) this.2
              rw [e5 c (by rw [hT]; simp)] at h1; cases h1
          subst hA0
          have hff : f' = ov top L f := by
            funext t
            rw [e8 t]
            exact ov_slot L f f rfl fun e he _ => by
              obtain ⟨z, hz, hz1⟩ := hLord e he
              rw [← hz1]; exact hall z (by rw [e1]; simp [hz])
          have hA := e10 H' e9
          rw [← hff, hT] at hA
          exact tailstep [] B hT hall (fun _ h => by cases h) (fun c hc => e5 c (by rw [hT]; simp [hc])) (fun c hc he => by
            have := hp.1 c hc
            rw [Bool.and_eq_true] at this
            exact nb this.1 he.symm) hA
    · -- the tail goes on
      have hit : i ∈ tail := by
        rcases Bool.or_eq_true _ _ ▸ q1 i hi with h | h
        · obtain ⟨x, hx, hxi⟩ := List.mem_map.1 (List.elem_iff.1 h)
          have := t2 x hx
          rw [hxi, hSi] at this; cases this
        · exact List.elem_iff.1 h
      have hiB : i ∈ B := by
        rw [t1] at hit
        rcases List.mem_append.1 hit with h | h
        · rw [t3 i h] at hSi; cases hSi
        · exact h
      obtain ⟨C, D, hB⟩ := mem_split hiB
      have hp := prs_spec (p := fun c c' => !Nat.beq c c' && bfB ops c' c) (A := A ++ C) (a := i) (B := D) (by rw [t1, hB] at q5; simpa using q5)
      have hC : C = [] := by
        cases C with
        | nil => rfl
        | cons c C =>
          have := hp.2 c (by simp)
          rw [Bool.and_eq_true] at this
          have h1 := hbef c (nb this.1) this.2
          rw [t4 c (by rw [hB]; simp)] at h1; cases h1
      subst hC
      rw [List.nil_append] at hB
      subst hB
      exact tailstep A D t1 t2 t3 (fun c hc => t4 c (by simp [hc])) (fun c hc he => by
        have := hp.1 c hc
        rw [Bool.and_eq_true] at this
        exact nb this.1 he.symm) t5
  · -- the end
    intro S f' H' hall ⟨hD, hcase⟩
    rcases hcase with ⟨pre, rest, L, Hs, e1, e2, e3, e4, e5, e6, e7, e8, e9, e10⟩ | ⟨A, B, t1, t2, t3, t4, t5⟩
    · have hrest : rest = [] := by
        cases rest with
        | nil => rfl
        | cons y r =>
          have h1 := e4 y (by simp)
          rw [hall y.1 (Nat.blt_eq ▸ (q2 y (by rw [e1]; simp)))] at h1; cases h1
      have htail : tail = [] := by
        cases tail with
        | nil => rfl
        | cons c B =>
          have h1 := e5 c (by simp)
          rw [hall c (Nat.blt_eq ▸ (q3 c (by simp)))] at h1; cases h1
      subst hrest htail
      have hff : f' = ov top L f := by
        funext t
        rw [e8 t]
        refine ov_slot L f f rfl fun e he _ => ?_
        have : e.1 ∈ L.map (·.1) := List.mem_map_of_mem he
        rw [e3] at this
        obtain ⟨z, hz, hz1⟩ := List.mem_map.1 this
        rw [← hz1]; exact hall z.1 (Nat.blt_eq ▸ (q2 z (by rw [e1]; simp [hz])))
      have := e10 H' e9
      rw [← hff] at this
      exact this
    · have hB : B = [] := by
        cases B with
        | nil => rfl
        | cons c B =>
          have h1 := t4 c (by simp)
          rw [hall c (Nat.blt_eq ▸ (q3 c (by rw [t1]; simp)))] at h1; cases h1
      subst hB
      exact t5
end
end Go.AH
namespace Go.AH
variable [Globs]
set_option linter.unusedSectionVars false
set_option linter.unusedVariables false
set_option linter.unusedSimpArgs false
open Go
section
variable {P : Program} {n : Nat} {Q : Exit → (Nat → AV) → Heap → Prop} {f : Nat → AV} {H : Heap}
def STRN (P : Program) (n : Nat) (ops : Array Oper) (A : List New) (H : Heap) (K : List Ent → (Nat → AV) → Prop) : List Nat → List Ent → (Nat → AV) → Prop
  | [], L, g => K L g
  | i :: r, L, g => ∃ o d v, ops[i]? = some o ∧ o.dst = some d ∧ EntAs P n ops A H i o d v g ∧ STRN P n ops A H K r ((i, some d, v) :: L) (upd g d v)
theorem STRN.done {ops : Array Oper} {A : List New} {K : List Ent → (Nat → AV) → Prop} {L : List Ent} {g : Nat → AV} (h : K L g) : STRN P n ops A H K [] L g := h
theorem STRN.op {ops : Array Oper} {A : List New} {K : List Ent → (Nat → AV) → Prop} {r : List Nat} {L : List Ent} {g : Nat → AV} {i d : Nat} {v : AV} {o : Oper} (hi : notinB A i = true) (ho : ops[i]? = some o) (hd : o.dst = some d) (h : QOpA P n ops o d v H g) (rest : STRN P n ops A H K r ((i, some d, v) :: L) (upd g d v)) : STRN P n ops A H K (i :: r) L g :=
  ⟨o, d, v, ho, hd, .inl ⟨fun e he g => by
    have := List.all_eq_true.1 hi e he
    rw [g] at this; simp at this, h⟩, rest⟩
theorem STRN.alloc {ops : Array Oper} {A : List New} {K : List Ent → (Nat → AV) → Prop} {r : List Nat} {L : List Ent} {g : Nat → AV} {i d id : Nat} {Z : List AV} {o : Oper} {t : TypeId} (hi : (i, id, .row 0 Z) ∈ A) (ho : ops[i]? = some o) (hd : o.dst = some d) (hg : o.guard = none) (hop : o.op = .alloc t) (hn : Nat.ble (d + 1) n = true) (hz : TZero P t Z) (rest : STRN P n ops A H K r ((i, some d, .ptr id 0 0) :: L) (upd g d (.ptr id 0 0))) : STRN P n ops A H K (i :: r) L g :=
  ⟨o, d, _, ho, hd, .inr ⟨id, _, hi, (fun f' H' _ hr => by
      obtain ⟨dst, op, ty, pos, after, guard⟩ := o
      simp only at hd hop
      subst hd hop
      exact AOp.alloc_at id (.inr hr) hn hz ⟨rfl, rfl⟩), hg⟩, rest⟩
def VldN (P : Program) (n : Nat) (ops : Array Oper) (A : List New) (H : Heap) (f : Nat → AV) (L : List Ent) : Prop :=
  ∀ A' e B, L = A' ++ e :: B → ∃ o d, ops[e.1]? = some o ∧ o.dst = some d ∧ e.2.1 = some d ∧ EntAs P n ops A H e.1 o d e.2.2 (ov top A' f)
theorem STRN.get {ops : Array Oper} {A : List New} {K : List Ent → (Nat → AV) → Prop} : ∀ {r : List Nat} {L : List Ent}, VldN P n ops A H f L.reverse → Dst ops L.reverse → STRN P n ops A H K r L (ovR L f) →
    ∃ M, M.reverse.map (·.1) = L.reverse.map (·.1) ++ r ∧ VldN P n ops A H f M.reverse ∧ Dst ops M.reverse ∧ K M (ovR M f)
  | [], L, hv, hd, h => ⟨L, by simp, hv, hd, h⟩
  | i :: r, L, hv, hd, ⟨o, d, v, h1, h2, h3, h4⟩ => by
    have hv' : VldN P n ops A H f ((i, some d, v) :: L).reverse := by
      intro A' e B hL
      rw [List.reverse_cons] at hL
      rcases List.append_eq_append_iff.1 hL with ⟨C, g1, g2⟩ | ⟨C, g1, g2⟩
      · cases C with
        | nil =>
          simp only [List.nil_append, List.cons.injEq] at g2
          obtain ⟨rfl, _⟩ := g2
          rw [List.append_nil] at g1; subst g1
          refine ⟨o, d, h1, h2, rfl, ?_⟩
          rw [← ovR_eq]; exact h3
        | cons c C => simp at g2
      · cases C with
        | nil =>
          simp only [List.nil_append, List.cons.injEq] at g2
          obtain ⟨rfl, _⟩ := g2
          rw [List.append_nil] at g1; subst g1
          refine ⟨o, d, h1, h2, rfl, ?_⟩
          rw [← ovR_eq]; exact h3
        | cons c C =>
          simp only [List.cons_append, List.cons.injEq] at g2
          obtain ⟨rfl, g2⟩ := g2
          exact hv A' e C g1
    have hd' : Dst ops ((i, some d, v) :: L).reverse := by
      intro e he
      rw [List.reverse_cons] at he
      rcases List.mem_append.1 he with he | he
      · exact hd e he
      · simp at he; subst he; simp [dstOf, h1, h2]
    obtain ⟨M, m1, m2, m3, m4⟩ := STRN.get hv' hd' h4
    exact ⟨M, by rw [m1]; simp, m2, m3, m4⟩
def headB (ops : Array Oper) (A : List New) (ord1 : List Nat) (ord2 : List Item) : Bool :=
  (A.all fun e => ord1.elem e.1) && (ord2.all fun x => A.all fun e => bfB ops x.1 e.1) && (match ord2.head? with | some x => x.2.isSome | none => true)
theorem AWP.region_strA {rid : Nat} {ops : Array Oper} (hm : P.follows .mixedOrders = true) (hback : backB ops = true) (A : List New) (ord1 : List Nat) (ord2 : List Item) (tail : List Nat) (hq : stgB ops ((ord1.map fun i => ((i, none) : Item)) ++ ord2) tail = true) (hh : headB ops A ord1 ord2 = true) (hA : FrA H A)
    (h : STRN P n ops A H (fun L g => ∀ H1, Mono H H1 → (∀ e ∈ A, H1 e.2.1 = some e.2.2) → STR P n ops f (fun g H' => AOps P n ops (Q .normal) tail g H') ord2 L H1 g) ord1 [] f) : AWP P n (.region rid ops true) Q f H := by
  have hall := stg_all (P := P) (n := n) (Q := Q) (f := f) ((ord1.map fun i => ((i, none) : Item)) ++ ord2) tail hq
  simp only [headB, Bool.and_eq_true, List.all_eq_true] at hh
  obtain ⟨⟨hh1, hh2⟩, hh3⟩ := hh
  obtain ⟨M, e3, e6, e7, hK⟩ := STRN.get (f := f) (L := []) (fun A' e B h => by simp at h) (fun _ h => by simp at h) h
  simp only [List.reverse_nil, List.map_nil, List.nil_append] at e3
  have hK' : ∀ H1, Mono H H1 → (∀ e ∈ A, H1 e.2.1 = some e.2.2) → STQ P n ops f (fun g H' => AOps P n ops (Q .normal) tail g H') ord2 M.reverse H1 (ov top M.reverse f) := fun H1 m1 m2 => by
    have := (hK H1 m1 m2).to
    rw [ovR_eq] at this; exact this
  clear hK h
  generalize M.reverse = L at *
  let ord : List Item := (ord1.map fun i => ((i, none) : Item)) ++ ord2
  simp only [stgB, Bool.and_eq_true, List.all_eq_true, List.mem_range] at hq
  obtain ⟨⟨⟨⟨⟨q1, q2⟩, q3⟩, q4⟩, q5⟩, q6⟩ := hq
  have beqf : ∀ x y : Nat, x ≠ y → Nat.beq x y = false := fun x y h => by
    cases hb : Nat.beq x y with
    | false => rfl
    | true => exact absurd (Nat.eq_of_beq_eq_true hb) h
  have hdn : ∀ (S : Nat → Bool) i o, Dn ops S → ops[i]? = some o → (∀ e ∈ o.after, Region.binds .any e = true → S e.on = true) → Dn ops (fun k => Nat.beq k i || S k) := by
    intro S i o hD ho hr j oj hj hS e he hb
    by_cases hji : j = i
    · subst hji
      rw [ho] at hj; cases hj
      simp [hr e he hb]
    · have hS : (Nat.beq j i || S j) = true := hS
      rw [beqf _ _ hji, Bool.false_or] at hS
      simp [hD j oj hj hS e he hb]
  have befD : ∀ (S : Nat → Bool), Dn ops S → ∀ i j, bfB ops i j = true → S i = true → S j = true := by
    intro S hD i j hb hS
    unfold bfB at hb
    rcases Nat.lt_or_ge i (befL ops.toList []).length with h | h
    · rw [List.getD_eq_getElem?_getD, List.getElem?_eq_getElem h, Option.getD_some] at hb
      exact bef_spec hD ops.toList [] (fun j => by simp) (fun i m j hi => by simp at hi) i _ j (List.getElem?_eq_getElem h) hb hS
    · rw [List.getD_eq_getElem?_getD, List.getElem?_eq_none h, Option.getD_none] at hb
      simp at hb
  have nb : ∀ {x y : Nat}, (!Nat.beq x y) = true → x ≠ y := fun h e => by subst e; simp at h
  have e3' : L.map (·.1) = (ord1.map fun i => ((i, none) : Item)).map (·.1) := by rw [e3, List.map_map]; exact (List.map_id ord1).symm
  let Ph : (Nat → Bool) → (Nat → AV) → Heap → Prop := fun S f' H' => Dn ops S ∧ (∀ x ∈ ord2, S x.1 = false) ∧ (∀ c ∈ tail, S c = false) ∧ (∀ t, f' t = ov S L f t) ∧ Mono (HSf A H S) H'
  have conv : ∀ S f' H', Ph S f' H' → (∀ e ∈ A, S e.1 = true) → StgI P n ops ((ord1.map fun i => ((i, none) : Item)) ++ ord2) tail Q f S f' H' := by
    intro S f' H' ⟨hD, p1, p2, p3, p4⟩ hS
    have hs : HSf A H S = HSf A H top := HSf_same fun e he => by rw [hS e he]
    rw [hs] at p4
    have hHm : Mono H (HSf A H top) := HSf_mono hA (Mono.refl _)
    refine ⟨hD, .inl ⟨ord1.map fun i => ((i, none) : Item), ord2, L, HSf A H top, rfl, ?_, e3', p1, p2, ?_, e7, p3, p4, hK' _ hHm fun e he => HSf_mem hA he⟩⟩
    · intro x hx
      have hx : ord2.head? = some x := hx
      rw [hx] at hh3
      intro e
      have hh3 : x.2.isSome = true := hh3
      rw [e] at hh3; cases hh3
    · intro A' e B hL hSe
      obtain ⟨o, d, k1, k2, k3, k4⟩ := e6 A' e B hL
      rcases k4 with ⟨_, k4⟩ | ⟨id, B', k4, _⟩
      · exact ⟨o, d, k1, k2, k3, k4.mono hHm⟩
      · rw [hS _ k4] at hSe; cases hSe
  refine AWP.reserveA hA ?_
  refine AWP.region_any hm hback (fun S f' H' => Ph S f' H' ∨ StgI P n ops ((ord1.map fun i => ((i, none) : Item)) ++ ord2) tail Q f S f' H') (.inl ⟨fun _ _ _ h => (by cases h), fun _ _ => rfl, fun _ _ => rfl, fun t => by rw [ov_none L f fun _ _ => rfl], Mono.refl _⟩) ?_ ?_
  · intro S i o ho hSi hr f' H' hcase
    have mono : ∀ {K K' : (Nat → AV) → Heap → Prop}, (∀ f H, K f H → K' f H) → AOp P n o K f' H' → AOp P n o K' f' H' := fun hk h μ a w hs E =>
      Oper.wp_mono (fun a' w' ⟨μ', f2, H2, g1, g2, g3⟩ => ⟨μ', f2, H2, g1, g2, hk _ _ g3⟩) (fun _ _ _ _ h => h) (h μ a w hs E)
    have viaI : StgI P n ops ((ord1.map fun i => ((i, none) : Item)) ++ ord2) tail Q f S f' H' → _ := fun hI => hall.1 S i o ho hSi hr f' H' hI
    have up : ∀ {f2 H2}, StgI P n ops ((ord1.map fun i => ((i, none) : Item)) ++ ord2) tail Q f (fun k => Nat.beq k i || S k) f2 H2 → (Ph (fun k => Nat.beq k i || S k) f2 H2 ∨ StgI P n ops ((ord1.map fun i => ((i, none) : Item)) ++ ord2) tail Q f (fun k => Nat.beq k i || S k) f2 H2) := .inr
    have fin2 : StgI P n ops ((ord1.map fun i => ((i, none) : Item)) ++ ord2) tail Q f S f' H' → (o.guard = none ∧ AOp P n o (fun f2 H2 => Ph (fun k => Nat.beq k i || S k) f2 H2 ∨ StgI P n ops ((ord1.map fun i => ((i, none) : Item)) ++ ord2) tail Q f (fun k => Nat.beq k i || S k) f2 H2) f' H') ∨
      (∃ j want oj d b, o.guard = some (j, want) ∧ ops[j]? = some oj ∧ oj.dst = some d ∧ f' d = gAV b ∧
        (b = some want → AOp P n o (fun f2 H2 => Ph (fun k => Nat.beq k i || S k) f2 H2 ∨ StgI P n ops ((ord1.map fun i => ((i, none) : Item)) ++ ord2) tail Q f (fun k => Nat.beq k i || S k) f2 H2) f' H') ∧
        (b ≠ some want → ∃ d', o.dst = some d' ∧ Nat.ble (d' + 1) n = true ∧ (Ph (fun k => Nat.beq k i || S k) (upd f' d' (.tup [])) H' ∨ StgI P n ops ((ord1.map fun i => ((i, none) : Item)) ++ ord2) tail Q f (fun k => Nat.beq k i || S k) (upd f' d' (.tup [])) H'))) := fun hI => by
      rcases viaI hI with ⟨g1, g2⟩ | ⟨j, want, oj, d, b, g1, g2, g3, g4, g5, g6⟩
      · exact .inl ⟨g1, mono (fun _ _ h => up h) g2⟩
      · refine .inr ⟨j, want, oj, d, b, g1, g2, g3, g4, fun e => mono (fun _ _ h => up h) (g5 e), fun e => ?_⟩
        obtain ⟨d', k1, k2, k3⟩ := g6 e
        exact ⟨d', k1, k2, up k3⟩
    rcases hcase with hP | hI
    · by_cases hdone : ∀ e ∈ A, S e.1 = true
      · exact fin2 (conv S f' H' hP hdone)
      · obtain ⟨hD, p1, p2, e8, e9⟩ := hP
        have hi : i < ops.size := by
          rcases Nat.lt_or_ge i ops.size with h' | h'
          · exact h'
          · rw [Array.getElem?_eq_none h'] at ho; cases ho
        have hD' := hdn S i o hD ho hr
        have hSi' : (fun k => Nat.beq k i || S k) i = true := by simp
        have hbef : ∀ j, j ≠ i → bfB ops i j = true → S j = true := fun j hj hb => by
          have : (Nat.beq j i || S j) = true := befD _ hD' i j hb hSi'
          rwa [beqf _ _ hj, Bool.false_or] at this
        have hoth : ∀ x, x ≠ i → (fun k => Nat.beq k i || S k) x = S x := fun x hx => by show (Nat.beq x i || S x) = S x; rw [beqf _ _ hx, Bool.false_or]
        have mono2 : ∀ {K K' : (Nat → AV) → Heap → Prop}, (∀ f H, K f H → K' f H) → AOp P n o K f' H' → AOp P n o K' f' H' := fun hk h μ a w hs E =>
          Oper.wp_mono (fun a' w' ⟨μ', f2, H2, g1, g2, g3⟩ => ⟨μ', f2, H2, g1, g2, hk _ _ g3⟩) (fun _ _ _ _ h => h) (h μ a w hs E)
        have hi1 : i ∈ ord1 := by
          apply Classical.byContradiction
          intro hni
          apply hdone
          intro e he
          have he1 : e.1 ∈ ord1 := List.elem_iff.1 (hh1 e he)
          have hne : e.1 ≠ i := fun g => hni (g ▸ he1)
          refine hbef e.1 hne ?_
          rcases Bool.or_eq_true _ _ ▸ q1 i hi with hio | hit
          · obtain ⟨x, hx, hxi⟩ := List.mem_map.1 (List.elem_iff.1 hio)
            rcases List.mem_append.1 hx with hx | hx
            · obtain ⟨y, hy, rfl⟩ := List.mem_map.1 hx
              simp only at hxi; subst hxi; exact absurd hy hni
            · rw [← hxi]; exact hh2 x hx e he
          · have := q6 i (List.elem_iff.1 hit) (e.1, none) (by simp [he1])
            exact this.2
        have hLi : ∃ e ∈ L, e.1 = i := by
          have : i ∈ L.map (·.1) := by rw [e3]; exact hi1
          obtain ⟨e, h1, h2⟩ := List.mem_map.1 this
          exact ⟨e, h1, h2⟩
        have e3 := e3'
        obtain ⟨⟨i', dd, v⟩, hmem, rfl⟩ := hLi
        obtain ⟨AL, BL, hL⟩ := mem_split hmem
        obtain ⟨o', d, ho', hd, hdd, hop⟩ := e6 AL (i', dd, v) BL hL
        simp only at hdd
        subst hdd
        simp only at ho hSi hr hi hD' hSi' hbef hoth ho' hd hop fin2 ⊢
        rw [ho] at ho'; cases ho'
        -- the items of the order
        obtain ⟨PA, x, PB, hp, hPA, hx, hPB⟩ : ∃ PA x PB, (ord1.map fun i => ((i, none) : Item)) = PA ++ x :: PB ∧ PA.map (·.1) = AL.map (·.1) ∧ x.1 = i' ∧ PB.map (·.1) = BL.map (·.1) := by
          rw [hL, List.map_append, List.map_cons] at e3
          obtain ⟨P1, P2, k1, k2, k3⟩ := List.map_eq_append_iff.1 e3.symm
          obtain ⟨x, P3, k4, k5, k6⟩ := List.map_eq_cons_iff.1 k3
          exact ⟨P1, x, P3, by rw [k1, k4], k2, k5, k6⟩
        have hpair := prs_spec (p := pairB ops) (A := PA) (a := x) (B := PB ++ ord2) (by rw [hp] at q4; simpa using q4)
        have hAe : ∀ e ∈ AL, e.1 ≠ i' ∧ ∀ t ∈ touch ops i', e.2.1 = some t → S e.1 = true := fun e he => by
          have : e.1 ∈ AL.map (·.1) := List.mem_map_of_mem he
          rw [← hPA] at this
          obtain ⟨y, hy, hy1⟩ := List.mem_map.1 this
          have hb := hpair.2 y hy
          simp only [pairB, Bool.and_eq_true, List.all_eq_true] at hb
          obtain ⟨⟨⟨⟨b1, b2⟩, b3⟩, b4⟩, b5⟩ := hb
          rw [hy1, hx] at b1 b2 b3
          have hne := nb b1
          refine ⟨hne, fun t ht hd => ?_⟩
          have h3 := b3 t ht
          have hds : dstOf ops e.1 = e.2.1 := e7 e (by rw [hL]; simp [he])
          rw [hds] at h3
          simp only [hd, Nat.beq_refl, Bool.not_true, Bool.false_or] at h3
          exact hbef e.1 hne h3
        have hBe : ∀ e ∈ BL, e.1 ≠ i' ∧ ∀ t ∈ touch ops i', e.2.1 = some t → S e.1 = false := fun e he => by
          have : e.1 ∈ BL.map (·.1) := List.mem_map_of_mem he
          rw [← hPB] at this
          obtain ⟨y, hy, hy1⟩ := List.mem_map.1 this
          have hb := hpair.1 y (by simp [hy])
          simp only [pairB, Bool.and_eq_true, List.all_eq_true] at hb
          obtain ⟨⟨⟨⟨b1, b2⟩, b3⟩, b4⟩, b5⟩ := hb
          rw [hy1, hx] at b1 b2 b3
          have hne := nb b1
          refine ⟨hne.symm, fun t ht hd => ?_⟩
          have h2 := b2 t ht
          have hds : dstOf ops e.1 = e.2.1 := e7 e (by rw [hL]; simp [he])
          rw [hds] at h2
          simp only [hd, Nat.beq_refl, Bool.not_true, Bool.false_or] at h2
          cases hSe : S e.1 with
          | false => rfl
          | true => have := befD S hD e.1 i' h2 hSe; rw [hSi] at this; cases this
        have htouch : ∀ t, t ∈ tmpsOf o ++ guardSlot ops o ++ [d] → t ∈ touch ops i' := fun t ht => by
          simp only [touch, ho, hd, Option.toList]; exact ht
        have hval : ∀ t, t ∈ tmpsOf o ++ guardSlot ops o ++ [d] → f' t = ov top AL f t := by
          intro t ht
          rw [e8 t, hL, ov_app]
          rw [ov_slot (S := S) (S' := fun _ => false) ((i', some d, v) :: BL) _ (ov top AL f) (ov_slot AL f f rfl fun e he hd => (hAe e he).2 t (htouch t ht) hd) fun e he hd => ?_]
          · exact congrFun (ov_none _ _ fun _ _ => rfl) t
          · rcases List.mem_cons.1 he with rfl | he
            · exact hSi
            · exact (hBe e he).2 t (htouch t ht) hd
        have hnew : ∀ t, upd f' d v t = ov (fun k => Nat.beq k i' || S k) L f t := by
          intro t
          have hAc : ov (fun k => Nat.beq k i' || S k) AL f = ov S AL f := ov_congr AL f fun e he => hoth e.1 (hAe e he).1
          rw [hL, ov_app, hAc, ov, if_pos hSi']
          by_cases htd : t = d
          · subst htd
            rw [upd_eq, if_pos rfl]
            rw [ov_slot (S' := fun _ => false) BL _ _ rfl fun e he hd => by
              exact (hoth e.1 (hBe e he).1).trans ((hBe e he).2 t (htouch t (by simp)) hd)]
            rw [ov_none BL _ fun _ _ => rfl]; simp [updO, upd_eq]
          · rw [upd_eq, if_neg htd, e8 t, hL, ov_app, ov, if_neg (by rw [hSi]; decide)]
            exact (ov_slot BL _ _ (by simp only [updO]; rw [upd_eq, if_neg htd]) fun e he _ => hoth e.1 (hBe e he).1).symm
        have hneO : ∀ x ∈ ord2, x.1 ≠ i' := fun y hy he => by
          have hb := hpair.1 y (by simp [hy])
          simp only [pairB, Bool.and_eq_true] at hb
          exact nb hb.1.1.1.1 (by rw [hx, he])
        have hneT : ∀ c ∈ tail, c ≠ i' := fun c hc he => by
          have := q6 c hc x (by rw [hp]; simp)
          exact nb this.1 (by rw [he, hx])
        have hI : ∀ f2 H2, f2 = upd f' d v ∧ Mono (HSf A H fun k => Nat.beq k i' || S k) H2 → (Ph (fun k => Nat.beq k i' || S k) f2 H2 ∨ StgI P n ops ((ord1.map fun i => ((i, none) : Item)) ++ ord2) tail Q f (fun k => Nat.beq k i' || S k) f2 H2) := fun f2 H2 ⟨e, m⟩ =>
          .inl ⟨hD', fun y hy => (hoth _ (hneO y hy)).trans (p1 y hy), fun c hc => (hoth _ (hneT c hc)).trans (p2 c hc), by rw [e]; exact hnew, m⟩
        rcases hop with ⟨hia, hop⟩ | ⟨id, B, hiA, hov, hg⟩
        · have hSame : HSf A H (fun k => Nat.beq k i' || S k) = HSf A H S := HSf_same fun e he => by rw [beqf _ _ (hia e he), Bool.false_or]
          rw [hSame] at hI
          have hMH := HSf_mono hA e9
          rcases hop with ⟨hg, hop⟩ | ⟨j, want, oj, dj, b, hg, hj, hdj, hfb, hyes, hno⟩
          · exact .inl ⟨hg, mono (fun f2 H2 h => hI f2 H2 ⟨h.1, e9.trans h.2⟩) (hop H' f' H' (fun t ht => hval t (by have := List.elem_iff.1 ht; simp [this])) (Mono.refl _) hMH)⟩
          · refine .inr ⟨j, want, oj, dj, b, hg, hj, hdj, ?_, fun hb => mono (fun f2 H2 h => hI f2 H2 ⟨h.1, e9.trans h.2⟩) (hyes hb H' f' H' (fun t ht => hval t (by have := List.elem_iff.1 ht; simp [this])) (Mono.refl _) hMH), fun hb => ?_⟩
            · rw [hval dj (by simp [guardSlot, hg, hj, hdj])]; exact hfb
            · obtain ⟨hv, hn⟩ := hno hb
              exact ⟨d, hd, hn, hI _ _ ⟨by rw [hv], e9⟩⟩
        · refine .inl ⟨hg, ?_⟩
          have hres : H' id = some .res := e9 id .res (by have := HSf_mem hA (S := S) hiA; simp only [hSi] at this; exact this)
          refine mono (fun f2 H2 h => hI f2 H2 ?_) (hov f' H' (fun t ht => hval t (by have := List.elem_iff.1 ht; simp [this])) hres)
          obtain ⟨e, e2⟩ := h
          refine ⟨e, ?_⟩
          intro j C hj
          rw [e2, updH_eq]
          by_cases c : j = id
          · rw [if_pos c]
            have h1 := HSf_mem hA (S := fun k => Nat.beq k i' || S k) hiA
            simp only [hSi', if_true] at h1
            rw [c, h1] at hj
            exact hj
          · rw [if_neg c]
            refine e9 j C ?_
            by_cases g : ∃ e ∈ A, e.2.1 = j
            · obtain ⟨e, he, rfl⟩ := g
              have h1 := HSf_mem hA (S := fun k => Nat.beq k i' || S k) he
              have h2 := HSf_mem hA (S := S) he
              have hne : e.1 ≠ i' := fun g => c (congrArg (fun x : New => x.2.1) (hA.inj he hiA (.inr g)))
              rw [beqf _ _ hne, Bool.false_or] at h1
              rw [h1, ← h2] at hj
              exact hj
            · have h1 : ∀ e ∈ A, e.2.1 ≠ j := fun e he h => g ⟨e, he, h⟩
              rw [HSf_not h1] at hj
              rw [HSf_not h1]; exact hj
    · exact fin2 hI
  · intro S f' H' hS hcase
    rcases hcase with hP | hI
    · refine hall.2 S f' H' hS (conv S f' H' hP fun e he => ?_)
      have := q2 (e.1, none) (by simp [List.elem_iff.1 (hh1 e he)])
      exact hS _ (Nat.blt_eq ▸ this)
    · exact hall.2 S f' H' hS hI
end
end Go.AH
namespace Go.AH
variable [Globs]
set_option linter.unusedSectionVars false
open Go
section
variable {P : Program} {n : Nat} {f : Nat → AV} {H : Heap} {K : (Nat → AV) → Heap → Prop} {ops : Array Oper} {i : Nat} {l : List Nat}
def gdOf (ops : Array Oper) (i : Nat) : Option (Nat × Bool × Nat) := (ops[i]?).bind fun o => o.guard.bind fun g => (ops[g.1]?).bind fun oj => oj.dst.bind fun d => o.dst.map fun d' => (d, g.2, d')
theorem gdOf_spec {d d' : Nat} {want : Bool} (h : gdOf ops i = some (d, want, d')) : ∃ o oj j, ops[i]? = some o ∧ o.guard = some (j, want) ∧ ops[j]? = some oj ∧ oj.dst = some d ∧ o.dst = some d' := by
  unfold gdOf at h
  simp only [Option.bind_eq_some_iff, Option.map_eq_some_iff] at h
  obtain ⟨o, h1, g, h2, oj, h3, d0, h4, d1, h5, h6⟩ := h
  cases h6
  exact ⟨o, oj, g.1, h1, h2, h3, h4, h5⟩
theorem N {d d' : Nat} {b want : Bool} (hc : gdOf ops i = some (d, want, d')) (hf : f d = .bool b) (hb : b = !want) (h : AOps P n ops K l (upd f d' (.tup [])) H) (hn : Nat.ble (d' + 1) n = true := by rfl) : AOps P n ops K (i :: l) f H :=
  let ⟨_, _, _, h1, h2, h3, h4, h5⟩ := gdOf_spec hc; .no h1 h2 h3 h4 h5 hn hf (by rw [hb]; cases want <;> simp) h
theorem Y {o : Oper} {d d' : Nat} {b want : Bool} (ho : ops[i]? = some o) (hc : gdOf ops i = some (d, want, d')) (hf : f d = .bool b) (hb : b = want) (h : AOp P n o (AOps P n ops K l) f H) (hn : Nat.ble (d' + 1) n = true := by rfl) : AOps P n ops K (i :: l) f H := by
  obtain ⟨o', _, _, h1, h2, h3, h4, h5⟩ := gdOf_spec hc
  rw [ho] at h1
  cases h1
  exact .yes ho h2 h3 h4 h5 hn hf hb h
theorem C {o : Oper} (ho : ops[i]? = some o) (h : AOp P n o (AOps P n ops K l) f H) (hg : o.guard = none := by rfl) : AOps P n ops K (i :: l) f H := .cons ho hg h
theorem Q {M : Heap → Prop} {T : (Nat → AV) → Prop} {k d : Nat} {v : AV} {o : Oper} (ho : ops[i]? = some o) (h : ∀ f' H', (∀ t, (tmpsOf o).elem t = true → f' t = f t) → M H' → AOp P n o (fun f2 H2 => f2 = upd f' d v ∧ M H2) f' H')
    (rest : QE P n ops M T k (i + 1) (upd f d v)) (hg : o.guard = none := by rfl) (hd : o.dst = some d := by rfl) : QE P n ops M T k i f := .op ho hd (.inl ⟨hg, h⟩) rest
theorem Sw {t : TypeId} {x y : Operand} {size id ver : Nat} {cells L : List AV} {ty : TypeId} {pos : String} {after : Array Edge} {guard : Option (Nat × Bool)} (hx : ev f x = .ptr id ver 0) (hy : ev f y = .agg L) (ht : TSize P t size) (hid : H id = some (.row ver cells))
    (hone : L.all AV.one = true) (hl : L.length = size) (hc : cells.length = size) (hK : ∀ H', H' id = some (.row ver L) → (∀ i, i ≠ id → H' i = H i) → K f H') : AOp P n ⟨none, .store t x y, ty, pos, after, guard⟩ K f H :=
  .store' (.agg L) hx hy ht hid hone hl (Nat.ble_eq_true_of_le (by omega)) (wr_all hc hl) hK
end
section
variable {P : Program} {n : Nat} {f : Nat → AV} {H : Heap} {K : (Nat → AV) → Heap → Prop} {ops : Array Oper} {l : List Nat} {ty : TypeId} {pos : String} {after : Array Edge} {d j : Nat}
theorem V {x : Operand} {v : AV} (ho : ops[j]? = some ⟨some d, .move x, ty, pos, after, none⟩) (hx : ev f x = v) (h : AOps P n ops K l (upd f d v) H) (hn : Nat.ble (d + 1) n = true := by rfl) : AOps P n ops K (j :: l) f H := .cons ho rfl (.move v hn hx h)
theorem A {x : Operand} {v : AV} (ho : ops[j]? = some ⟨some d, .assign x, ty, pos, after, none⟩) (hx : ev f x = v) (h : AOps P n ops K l (upd f d v) H) (hn : Nat.ble (d + 1) n = true := by rfl) : AOps P n ops K (j :: l) f H := .cons ho rfl (.assign v hn hx h)
theorem E {x : Operand} {i : Nat} {v : AV} {vs : List AV} (ho : ops[j]? = some ⟨some d, .extract x i, ty, pos, after, none⟩) (hx : ev f x = .tup vs) (hv : vs[i]? = some v) (h : AOps P n ops K l (upd f d v) H) (hn : Nat.ble (d + 1) n = true := by rfl) : AOps P n ops K (j :: l) f H := .cons ho rfl (.extract v hn hx hv h)
theorem L {t : TypeId} {x : Operand} {agg : Bool} {size off : Nat} {cells : List AV} {v : AV} (ho : ops[j]? = some ⟨some d, .load t x, ty, pos, after, none⟩) (hx : ev f x = .fptr cells off) (ht : TY P t agg size) (hv : loadv agg size off cells = some v) (h : AOps P n ops K l (upd f d v) H) (hn : Nat.ble (d + 1) n = true := by rfl) : AOps P n ops K (j :: l) f H := .cons ho rfl (.loadF v hn hx ht hv h)
theorem F {s : TypeId} {x : Operand} {i off o size : Nat} {cells : List AV} {agg : Bool} (ho : ops[j]? = some ⟨some d, .fieldAddr s x i, ty, pos, after, none⟩) (hx : ev f x = .fptr cells off) (ht : TField P s i o agg size) (h : AOps P n ops K l (upd f d (.fptr cells (off + o))) H) (hn : Nat.ble (d + 1) n = true := by rfl) : AOps P n ops K (j :: l) f H := .cons ho rfl (.fieldAddrF hn hx ht h)
theorem B {op : BinOp} {t t' : TypeId} {x y : Operand} {k : IntKind} {p q : Int} {v : AV} (ho : ops[j]? = some ⟨some d, .binOp op t x y t', ty, pos, after, none⟩) (hx : ev f x = .int k p) (hy : ev f y = .int k q) (hv : intBin op k p q = some v) (h : AOps P n ops K l (upd f d v) H) (hn : Nat.ble (d + 1) n = true := by rfl) : AOps P n ops K (j :: l) f H := .cons ho rfl (.bin v hn hx hy hv h)
end
theorem Sr {P : Program} {n : Nat} {Q : Exit → (Nat → AV) → Heap → Prop} {f : Nat → AV} {H : Heap} {id : Nat} {ops : Array Oper} {y : Code} {l : List Nat} (h : AOps P n ops (fun f H => AWP P n y Q f H) l f H) (hl : List.range ops.size = l := by rfl) : AWP P n (.seq (.region id ops false) y) Q f H := .seq_region l hl h
theorem Rr {P : Program} {n : Nat} {fn : Func} {f : Nat → AV} {H H0 : Heap} {r v : AV} {e : Exit} (h : Res P n fn f H r) (hv : r = v) (m : Mono H0 H) (he : e = .normal ∨ e = .ret := by exact .inr rfl) : ∃ f' H', Ghost n f H f' H' ∧ (e = .normal ∨ e = .ret) ∧ ∃ r, Res P n fn f' H' r ∧ (r = v ∧ Mono H0 H') := ⟨_, _, Ghost.refl, he, _, h, hv, m⟩
theorem ev_same {f f' : Nat → AV} {x : Operand} (h : ∀ t, x = .tmp t → f' t = f t) : ev f' x = ev f x := by
  cases x with
  | tmp t => exact h t rfl
  | _ => rfl
section
variable {P : Program} {n : Nat} {f : Nat → AV} {ops : Array Oper} {M : Heap → Prop} {T : (Nat → AV) → Prop} {k : Nat} {ty : TypeId} {pos : String} {after : Array Edge} {d j : Nat}
theorem QV {x : Operand} {v : AV} (ho : ops[j]? = some ⟨some d, .move x, ty, pos, after, none⟩) (hx : ev f x = v) (rest : QE P n ops M T k (j + 1) (upd f d v)) (hn : Nat.ble (d + 1) n = true := by rfl) : QE P n ops M T k j f :=
  .op ho rfl (.inl ⟨rfl, fun _ _ hf hM => .move v hn ((ev_same fun t e => hf t (by subst e; simp [tmpsOf, Op.operands])).trans hx) ⟨rfl, hM⟩⟩) rest
theorem QL {t : TypeId} {x : Operand} {agg : Bool} {size off : Nat} {cells : List AV} {v : AV} (ho : ops[j]? = some ⟨some d, .load t x, ty, pos, after, none⟩) (hx : ev f x = .fptr cells off) (ht : TY P t agg size) (hv : loadv agg size off cells = some v) (rest : QE P n ops M T k (j + 1) (upd f d v)) (hn : Nat.ble (d + 1) n = true := by rfl) : QE P n ops M T k j f :=
  .op ho rfl (.inl ⟨rfl, fun _ _ hf hM => .loadF v hn ((ev_same fun t e => hf t (by subst e; simp [tmpsOf, Op.operands])).trans hx) ht hv ⟨rfl, hM⟩⟩) rest
theorem QF {s : TypeId} {x : Operand} {i off o size : Nat} {cells : List AV} {agg : Bool} (ho : ops[j]? = some ⟨some d, .fieldAddr s x i, ty, pos, after, none⟩) (hx : ev f x = .fptr cells off) (ht : TField P s i o agg size) (rest : QE P n ops M T k (j + 1) (upd f d (.fptr cells (off + o)))) (hn : Nat.ble (d + 1) n = true := by rfl) : QE P n ops M T k j f :=
  .op ho rfl (.inl ⟨rfl, fun _ _ hf hM => .fieldAddrF hn ((ev_same fun t e => hf t (by subst e; simp [tmpsOf, Op.operands])).trans hx) ht ⟨rfl, hM⟩⟩) rest
theorem QB {op : BinOp} {t t' : TypeId} {x y : Operand} {kk : IntKind} {p q : Int} {v : AV} (ho : ops[j]? = some ⟨some d, .binOp op t x y t', ty, pos, after, none⟩) (hx : ev f x = .int kk p) (hy : ev f y = .int kk q) (hv : intBin op kk p q = some v) (rest : QE P n ops M T k (j + 1) (upd f d v)) (hn : Nat.ble (d + 1) n = true := by rfl) : QE P n ops M T k j f :=
  .op ho rfl (.inl ⟨rfl, fun _ _ hf hM => .bin v hn ((ev_same fun t e => hf t (by subst e; simp [tmpsOf, Op.operands])).trans hx) ((ev_same fun t e => hf t (by subst e; simp [tmpsOf, Op.operands])).trans hy) hv ⟨rfl, hM⟩⟩) rest
end
def Mv := @AOp.move
def As := @AOp.assign
def Bi := @AOp.bin
def Ex := @AOp.extract
def Lf := @AOp.loadF
def Ff := @AOp.fieldAddrF
def Ld := @AOp.load
def Fa := @AOp.fieldAddr
def Bl := @AOp.build
def So := @AOp.store'
def Pc := @AOp.pcall
def Pt := @AOp.pickT
def Pf := @AOp.pickF
def ct_ := @AWP.condT
def cf_ := @AWP.condF
def rt_ := @AWP.ret
def bk_ := @AWP.block
def fz_ := @AWP.frzP
def iF_ := @AOp.indexAddrFA
def iA_ := @AOp.indexAddrA
def iS_ := @AOp.indexAddrS
def al_ := @AOp.alloc
def bx_ := @AOp.box
def nc_ := @AOp.nilCheck
end Go.AH
namespace Go.Proofs.M
open Go Go.AH
set_option maxRecDepth 4000
instance : Globs := { val := fun g => if g = 0 then some [.int .i64 0, .int .i64 3, .int .i64 15, .int .i64 12] else none }
def eI (x : Int) : AV := .int .i64 x
theorem eI_one (x : Int) : (eI x).one = true := rfl
structure VT where
  X : Int
  Y : Int
  Z : Int
  deriving DecidableEq, Inhabited
def eV (x : VT) : List AV := [.int .i64 x.X, .int .i64 x.Y, .int .i64 x.Z]
theorem eV_len (x : VT) : (eV x).length = 3 := rfl
theorem eV_iff (a b : VT) : a = b ↔ eV a = eV b := by
  refine ⟨fun h => by rw [h], fun h => ?_⟩
  obtain ⟨_, _, _⟩ := a; obtain ⟨_, _, _⟩ := b
  simp [eV] at h
  simp [h]
structure BoxT where
  Lo : VT
  Hi : VT
  deriving DecidableEq, Inhabited
def eBox (x : BoxT) : List AV := [.int .i64 x.Lo.X, .int .i64 x.Lo.Y, .int .i64 x.Lo.Z, .int .i64 x.Hi.X, .int .i64 x.Hi.Y, .int .i64 x.Hi.Z]
theorem eBox_iff (a b : BoxT) : a = b ↔ eBox a = eBox b := by
  refine ⟨fun h => by rw [h], fun h => ?_⟩
  obtain ⟨⟨_, _, _⟩, ⟨_, _, _⟩⟩ := a; obtain ⟨⟨_, _, _⟩, ⟨_, _, _⟩⟩ := b
  simp [eBox] at h
  simp [h]
structure TriT where
  A : VT
  B : VT
  C : VT
  deriving DecidableEq, Inhabited
def eTri (x : TriT) : List AV := [.int .i64 x.A.X, .int .i64 x.A.Y, .int .i64 x.A.Z, .int .i64 x.B.X, .int .i64 x.B.Y, .int .i64 x.B.Z, .int .i64 x.C.X, .int .i64 x.C.Y, .int .i64 x.C.Z]
theorem eTri_iff (a b : TriT) : a = b ↔ eTri a = eTri b := by
  refine ⟨fun h => by rw [h], fun h => ?_⟩
  obtain ⟨⟨_, _, _⟩, ⟨_, _, _⟩, ⟨_, _, _⟩⟩ := a; obtain ⟨⟨_, _, _⟩, ⟨_, _, _⟩, ⟨_, _, _⟩⟩ := b
  simp [eTri] at h
  simp [h]
structure KeyT where
  Kind : Int
  Of : Int
  A : Int
  B : Int
  N : Int
  deriving DecidableEq, Inhabited
def eKey (x : KeyT) : List AV := [.int .i64 x.Kind, .int .i64 x.Of, .int .i64 x.A, .int .i64 x.B, .int .i64 x.N]
theorem eKey_len (x : KeyT) : (eKey x).length = 5 := rfl
theorem eKey_iff (a b : KeyT) : a = b ↔ eKey a = eKey b := by
  refine ⟨fun h => by rw [h], fun h => ?_⟩
  obtain ⟨_, _, _, _, _⟩ := a; obtain ⟨_, _, _, _, _⟩ := b
  simp [eKey] at h
  simp [h]
structure SpotT where
  Kind : Int
  A : Int
  B : Int
  deriving DecidableEq, Inhabited
def eSpot (x : SpotT) : List AV := [.int .i64 x.Kind, .int .i64 x.A, .int .i64 x.B]
theorem eSpot_len (x : SpotT) : (eSpot x).length = 3 := rfl
theorem eSpot_iff (a b : SpotT) : a = b ↔ eSpot a = eSpot b := by
  refine ⟨fun h => by rw [h], fun h => ?_⟩
  obtain ⟨_, _, _⟩ := a; obtain ⟨_, _, _⟩ := b
  simp [eSpot] at h
  simp [h]
structure I3T where
  x0 : Int
  x1 : Int
  x2 : Int
  deriving DecidableEq, Inhabited
def eI3 (x : I3T) : List AV := [.int .i64 x.x0, .int .i64 x.x1, .int .i64 x.x2]
theorem eI3_len (x : I3T) : (eI3 x).length = 3 := rfl
theorem eI3_iff (a b : I3T) : a = b ↔ eI3 a = eI3 b := by
  refine ⟨fun h => by rw [h], fun h => ?_⟩
  obtain ⟨_, _, _⟩ := a; obtain ⟨_, _, _⟩ := b
  simp [eI3] at h
  simp [h]
structure I2T where
  x0 : Int
  x1 : Int
  deriving DecidableEq, Inhabited
def eI2 (x : I2T) : List AV := [.int .i64 x.x0, .int .i64 x.x1]
theorem eI2_len (x : I2T) : (eI2 x).length = 2 := rfl
structure VertexT where
  atF : VT
  up : VT
  key : KeyT
  deriving DecidableEq, Inhabited
structure PatchT where
  P : (List VT)
  Corners : (List Int)
  Normals : (List VT)
  Skin : Int
  deriving DecidableEq, Inhabited
def PatchT.aP (x : PatchT) : (List VT) := arrL 16 x.P
theorem PatchT.lP (x : PatchT) : x.aP.length = 16 := arrL_len _ _
def PatchT.aCorners (x : PatchT) : (List Int) := arrL 4 x.Corners
theorem PatchT.lCorners (x : PatchT) : x.aCorners.length = 4 := arrL_len _ _
def PatchT.aNormals (x : PatchT) : (List VT) := arrL 4 x.Normals
theorem PatchT.lNormals (x : PatchT) : x.aNormals.length = 4 := arrL_len _ _
def ePatch (x : PatchT) : List AV := x.aP.flatMap eV ++ (x.aCorners.map eI ++ (x.aNormals.flatMap eV ++ [.int .i64 x.Skin]))
structure SkinT where
  Name : ByteArray
  Mat : Int
  Levels : Int
  Unit : Int
  Tex : Int
  Height : Int
  deriving Inhabited
def eSkin (x : SkinT) : List AV := [.str x.Name, .int .i64 x.Mat, .int .i64 x.Levels, .int .i64 x.Unit, .int .i64 x.Tex, .int .i64 x.Height]
structure TexT where
  Name : ByteArray
  W : Int
  H : Int
  Rows : (List Int)
  deriving Inhabited
def eTex (x : TexT) : List AV := [.str x.Name, .int .i64 x.W, .int .i64 x.H, .sl x.Rows.length (x.Rows.map eI)]
theorem eTex_len (x : TexT) : (eTex x).length = 4 := rfl
structure MeshT where
  Verts : (List VT)
  Keys : (List KeyT)
  Tris : (List I3T)
  deriving DecidableEq, Inhabited
structure DicerT where
  Patch : PatchT
  cage : Int
  patch : Int
  rates : (List Int)
  most : Int
  deriving DecidableEq, Inhabited
theorem u_3 : Tryd.prog.underlying 3 = some (.int .i64) := rfl
theorem ty_3 : TY Tryd.prog 3 false 1 := ⟨⟨_, rfl, rfl⟩, _, rfl, rfl⟩
theorem ts_3 : TSize Tryd.prog 3 1 := ty_3.size
theorem tzv_3 : TZeroV Tryd.prog 3 (.int .i64 0) := ⟨_, _, rfl, rfl, rfl⟩
theorem u_4 : Tryd.prog.underlying 4 = some (.bool) := rfl
theorem ty_9 : TY Tryd.prog 9 false 1 := ⟨⟨_, rfl, rfl⟩, _, rfl, rfl⟩
theorem ts_9 : TSize Tryd.prog 9 1 := ty_9.size
theorem ty_23 : TY Tryd.prog 23 true 3 := ⟨⟨_, rfl, rfl⟩, _, rfl, rfl⟩
theorem ts_23 : TSize Tryd.prog 23 3 := ty_23.size
theorem tz_23 : TZero Tryd.prog 23 [.int .i64 0, .int .i64 0, .int .i64 0] := ⟨_, _, rfl, rfl, rfl⟩
theorem tzn_23 : TZn Tryd.prog 23 3 := ⟨_, _, rfl, rfl, rfl, rfl⟩
theorem tb_23 : TBytes Tryd.prog 23 24 := ⟨_, rfl, Nat.le_refl _⟩
theorem fl_23_0 : TField Tryd.prog 23 0 0 false 1 := ⟨_, _, rfl, rfl, rfl, ty_3, by decide⟩
theorem fl_23_1 : TField Tryd.prog 23 1 1 false 1 := ⟨_, _, rfl, rfl, rfl, ty_3, by decide⟩
theorem fl_23_2 : TField Tryd.prog 23 2 2 false 1 := ⟨_, _, rfl, rfl, rfl, ty_3, by decide⟩
theorem pl_23 : TPlaces Tryd.prog 23 (lookupL [(0, 1), (1, 1), (2, 1)]) := .inl ⟨_, rfl, fun j => match j with
    | 0 => .inr ⟨_, _, rfl, ts_3, rfl⟩
    | 1 => .inr ⟨_, _, rfl, ts_3, rfl⟩
    | 2 => .inr ⟨_, _, rfl, ts_3, rfl⟩
    | j + 3 => .inl ⟨rfl, by simp⟩⟩
theorem u_24 : Tryd.prog.underlying 24 = some (.array 16 23) := rfl
theorem ty_24 : TY Tryd.prog 24 true 48 := ⟨⟨_, rfl, rfl⟩, _, rfl, rfl⟩
theorem ts_24 : TSize Tryd.prog 24 48 := ty_24.size
theorem ar_24 : TArr Tryd.prog 24 16 true 3 := ⟨_, rfl, ty_23⟩
theorem u_25 : Tryd.prog.underlying 25 = some (.array 4 3) := rfl
theorem ty_25 : TY Tryd.prog 25 true 4 := ⟨⟨_, rfl, rfl⟩, _, rfl, rfl⟩
theorem ts_25 : TSize Tryd.prog 25 4 := ty_25.size
theorem tz_25 : TZero Tryd.prog 25 [.int .i64 0, .int .i64 0, .int .i64 0, .int .i64 0] := ⟨_, _, rfl, rfl, rfl⟩
theorem ar_25 : TArr Tryd.prog 25 4 false 1 := ⟨_, rfl, ty_3⟩
theorem pl_25 : TPlaces Tryd.prog 25 (fun i => some (i * 1, 1)) := .inr ⟨_, _, _, rfl, ts_3, fun _ => rfl⟩
theorem u_26 : Tryd.prog.underlying 26 = some (.array 4 23) := rfl
theorem ty_26 : TY Tryd.prog 26 true 12 := ⟨⟨_, rfl, rfl⟩, _, rfl, rfl⟩
theorem ts_26 : TSize Tryd.prog 26 12 := ty_26.size
theorem tz_26 : TZero Tryd.prog 26 [.int .i64 0, .int .i64 0, .int .i64 0, .int .i64 0, .int .i64 0, .int .i64 0, .int .i64 0, .int .i64 0, .int .i64 0, .int .i64 0, .int .i64 0, .int .i64 0] := ⟨_, _, rfl, rfl, rfl⟩
theorem ar_26 : TArr Tryd.prog 26 4 true 3 := ⟨_, rfl, ty_23⟩
theorem pl_26 : TPlaces Tryd.prog 26 (fun i => some (i * 3, 3)) := .inr ⟨_, _, _, rfl, ts_23, fun _ => rfl⟩
theorem ty_28 : TY Tryd.prog 28 true 65 := ⟨⟨_, rfl, rfl⟩, _, rfl, rfl⟩
theorem ts_28 : TSize Tryd.prog 28 65 := ty_28.size
theorem tz_28 : TZero Tryd.prog 28 [.int .i64 0, .int .i64 0, .int .i64 0, .int .i64 0, .int .i64 0, .int .i64 0, .int .i64 0, .int .i64 0, .int .i64 0, .int .i64 0, .int .i64 0, .int .i64 0, .int .i64 0, .int .i64 0, .int .i64 0, .int .i64 0, .int .i64 0, .int .i64 0, .int .i64 0, .int .i64 0, .int .i64 0, .int .i64 0, .int .i64 0, .int .i64 0, .int .i64 0, .int .i64 0, .int .i64 0, .int .i64 0, .int .i64 0, .int .i64 0, .int .i64 0, .int .i64 0, .int .i64 0, .int .i64 0, .int .i64 0, .int .i64 0, .int .i64 0, .int .i64 0, .int .i64 0, .int .i64 0, .int .i64 0, .int .i64 0, .int .i64 0, .int .i64 0, .int .i64 0, .int .i64 0, .int .i64 0, .int .i64 0, .int .i64 0, .int .i64 0, .int .i64 0, .int .i64 0, .int .i64 0, .int .i64 0, .int .i64 0, .int .i64 0, .int .i64 0, .int .i64 0, .int .i64 0, .int .i64 0, .int .i64 0, .int .i64 0, .int .i64 0, .int .i64 0, .int .i64 0] := ⟨_, _, rfl, rfl, rfl⟩
theorem fl_28_0 : TField Tryd.prog 28 0 0 true 48 := ⟨_, _, rfl, rfl, rfl, ty_24, by decide⟩
theorem fl_28_1 : TField Tryd.prog 28 1 48 true 4 := ⟨_, _, rfl, rfl, rfl, ty_25, by decide⟩
theorem fl_28_2 : TField Tryd.prog 28 2 52 true 12 := ⟨_, _, rfl, rfl, rfl, ty_26, by decide⟩
theorem pl_28 : TPlaces Tryd.prog 28 (lookupL [(0, 48), (48, 4), (52, 12), (64, 1)]) := .inl ⟨_, rfl, fun j => match j with
    | 0 => .inr ⟨_, _, rfl, ts_24, rfl⟩
    | 1 => .inr ⟨_, _, rfl, ts_25, rfl⟩
    | 2 => .inr ⟨_, _, rfl, ts_26, rfl⟩
    | 3 => .inr ⟨_, _, rfl, ts_3, rfl⟩
    | j + 4 => .inl ⟨rfl, by simp⟩⟩
theorem ty_30 : TY Tryd.prog 30 true 6 := ⟨⟨_, rfl, rfl⟩, _, rfl, rfl⟩
theorem tz_30 : TZero Tryd.prog 30 [.str ⟨#[]⟩, .int .i64 0, .int .i64 0, .int .i64 0, .int .i64 0, .int .i64 0] := ⟨_, _, rfl, rfl, rfl⟩
theorem fl_30_3 : TField Tryd.prog 30 3 3 false 1 := ⟨_, _, rfl, rfl, rfl, ty_3, by decide⟩
theorem fl_30_4 : TField Tryd.prog 30 4 4 false 1 := ⟨_, _, rfl, rfl, rfl, ty_3, by decide⟩
theorem fl_30_5 : TField Tryd.prog 30 5 5 false 1 := ⟨_, _, rfl, rfl, rfl, ty_3, by decide⟩
theorem pl_30 : TPlaces Tryd.prog 30 (lookupL [(0, 1), (1, 1), (2, 1), (3, 1), (4, 1), (5, 1)]) := .inl ⟨_, rfl, fun j => match j with
    | 0 => .inr ⟨_, _, rfl, ts_9, rfl⟩
    | 1 => .inr ⟨_, _, rfl, ts_3, rfl⟩
    | 2 => .inr ⟨_, _, rfl, ts_3, rfl⟩
    | 3 => .inr ⟨_, _, rfl, ts_3, rfl⟩
    | 4 => .inr ⟨_, _, rfl, ts_3, rfl⟩
    | 5 => .inr ⟨_, _, rfl, ts_3, rfl⟩
    | j + 6 => .inl ⟨rfl, by simp⟩⟩
theorem u_31 : Tryd.prog.underlying 31 = some (.slice 65) := rfl
theorem sl_31 : TSlice Tryd.prog 31 4 := ⟨65, rfl, _, rfl, rfl⟩
theorem u_34 : Tryd.prog.underlying 34 = some (.slice 23) := rfl
theorem ty_34 : TY Tryd.prog 34 false 1 := ⟨⟨_, rfl, rfl⟩, _, rfl, rfl⟩
theorem ts_34 : TSize Tryd.prog 34 1 := ty_34.size
theorem ni_34 : NotInt Tryd.prog 34 := ⟨_, rfl, rfl⟩
theorem sl_34 : TSlice Tryd.prog 34 3 := ⟨23, rfl, _, rfl, rfl⟩
theorem u_35 : Tryd.prog.underlying 35 = some (.slice 58) := rfl
theorem ty_35 : TY Tryd.prog 35 false 1 := ⟨⟨_, rfl, rfl⟩, _, rfl, rfl⟩
theorem ts_35 : TSize Tryd.prog 35 1 := ty_35.size
theorem ni_35 : NotInt Tryd.prog 35 := ⟨_, rfl, rfl⟩
theorem sl_35 : TSlice Tryd.prog 35 5 := ⟨58, rfl, _, rfl, rfl⟩
theorem u_36 : Tryd.prog.underlying 36 = some (.slice 59) := rfl
theorem ty_36 : TY Tryd.prog 36 false 1 := ⟨⟨_, rfl, rfl⟩, _, rfl, rfl⟩
theorem ts_36 : TSize Tryd.prog 36 1 := ty_36.size
theorem ni_36 : NotInt Tryd.prog 36 := ⟨_, rfl, rfl⟩
theorem sl_36 : TSlice Tryd.prog 36 3 := ⟨59, rfl, _, rfl, rfl⟩
theorem ty_38 : TY Tryd.prog 38 true 3 := ⟨⟨_, rfl, rfl⟩, _, rfl, rfl⟩
theorem ts_38 : TSize Tryd.prog 38 3 := ty_38.size
theorem tz_38 : TZero Tryd.prog 38 [.snil, .snil, .snil] := ⟨_, _, rfl, rfl, rfl⟩
theorem fl_38_0 : TField Tryd.prog 38 0 0 false 1 := ⟨_, _, rfl, rfl, rfl, ty_34, by decide⟩
theorem fl_38_1 : TField Tryd.prog 38 1 1 false 1 := ⟨_, _, rfl, rfl, rfl, ty_35, by decide⟩
theorem fl_38_2 : TField Tryd.prog 38 2 2 false 1 := ⟨_, _, rfl, rfl, rfl, ty_36, by decide⟩
theorem pl_38 : TPlaces Tryd.prog 38 (lookupL [(0, 1), (1, 1), (2, 1)]) := .inl ⟨_, rfl, fun j => match j with
    | 0 => .inr ⟨_, _, rfl, ts_34, rfl⟩
    | 1 => .inr ⟨_, _, rfl, ts_35, rfl⟩
    | 2 => .inr ⟨_, _, rfl, ts_36, rfl⟩
    | j + 3 => .inl ⟨rfl, by simp⟩⟩
theorem ty_43 : TY Tryd.prog 43 true 6 := ⟨⟨_, rfl, rfl⟩, _, rfl, rfl⟩
theorem ts_43 : TSize Tryd.prog 43 6 := ty_43.size
theorem tz_43 : TZero Tryd.prog 43 [.int .i64 0, .int .i64 0, .int .i64 0, .int .i64 0, .int .i64 0, .int .i64 0] := ⟨_, _, rfl, rfl, rfl⟩
theorem fl_43_0 : TField Tryd.prog 43 0 0 true 3 := ⟨_, _, rfl, rfl, rfl, ty_23, by decide⟩
theorem fl_43_1 : TField Tryd.prog 43 1 3 true 3 := ⟨_, _, rfl, rfl, rfl, ty_23, by decide⟩
theorem pl_43 : TPlaces Tryd.prog 43 (lookupL [(0, 3), (3, 3)]) := .inl ⟨_, rfl, fun j => match j with
    | 0 => .inr ⟨_, _, rfl, ts_23, rfl⟩
    | 1 => .inr ⟨_, _, rfl, ts_23, rfl⟩
    | j + 2 => .inl ⟨rfl, by simp⟩⟩
theorem ty_47 : TY Tryd.prog 47 true 9 := ⟨⟨_, rfl, rfl⟩, _, rfl, rfl⟩
theorem ts_47 : TSize Tryd.prog 47 9 := ty_47.size
theorem tz_47 : TZero Tryd.prog 47 [.int .i64 0, .int .i64 0, .int .i64 0, .int .i64 0, .int .i64 0, .int .i64 0, .int .i64 0, .int .i64 0, .int .i64 0] := ⟨_, _, rfl, rfl, rfl⟩
theorem fl_47_1 : TField Tryd.prog 47 1 3 true 3 := ⟨_, _, rfl, rfl, rfl, ty_23, by decide⟩
theorem pl_47 : TPlaces Tryd.prog 47 (lookupL [(0, 3), (3, 3), (6, 3)]) := .inl ⟨_, rfl, fun j => match j with
    | 0 => .inr ⟨_, _, rfl, ts_23, rfl⟩
    | 1 => .inr ⟨_, _, rfl, ts_23, rfl⟩
    | 2 => .inr ⟨_, _, rfl, ts_23, rfl⟩
    | j + 3 => .inl ⟨rfl, by simp⟩⟩
theorem ty_58 : TY Tryd.prog 58 true 5 := ⟨⟨_, rfl, rfl⟩, _, rfl, rfl⟩
theorem ts_58 : TSize Tryd.prog 58 5 := ty_58.size
theorem tz_58 : TZero Tryd.prog 58 [.int .i64 0, .int .i64 0, .int .i64 0, .int .i64 0, .int .i64 0] := ⟨_, _, rfl, rfl, rfl⟩
theorem tzn_58 : TZn Tryd.prog 58 5 := ⟨_, _, rfl, rfl, rfl, rfl⟩
theorem tb_58 : TBytes Tryd.prog 58 40 := ⟨_, rfl, Nat.le_refl _⟩
theorem pl_58 : TPlaces Tryd.prog 58 (lookupL [(0, 1), (1, 1), (2, 1), (3, 1), (4, 1)]) := .inl ⟨_, rfl, fun j => match j with
    | 0 => .inr ⟨_, _, rfl, ts_3, rfl⟩
    | 1 => .inr ⟨_, _, rfl, ts_3, rfl⟩
    | 2 => .inr ⟨_, _, rfl, ts_3, rfl⟩
    | 3 => .inr ⟨_, _, rfl, ts_3, rfl⟩
    | 4 => .inr ⟨_, _, rfl, ts_3, rfl⟩
    | j + 5 => .inl ⟨rfl, by simp⟩⟩
theorem ty_59 : TY Tryd.prog 59 true 3 := ⟨⟨_, rfl, rfl⟩, _, rfl, rfl⟩
theorem ts_59 : TSize Tryd.prog 59 3 := ty_59.size
theorem tz_59 : TZero Tryd.prog 59 [.int .i64 0, .int .i64 0, .int .i64 0] := ⟨_, _, rfl, rfl, rfl⟩
theorem tzn_59 : TZn Tryd.prog 59 3 := ⟨_, _, rfl, rfl, rfl, rfl⟩
theorem tb_59 : TBytes Tryd.prog 59 24 := ⟨_, rfl, Nat.le_refl _⟩
theorem ar_59 : TArr Tryd.prog 59 3 false 1 := ⟨_, rfl, ty_3⟩
theorem pl_59 : TPlaces Tryd.prog 59 (fun i => some (i * 1, 1)) := .inr ⟨_, _, _, rfl, ts_3, fun _ => rfl⟩
theorem u_63 : Tryd.prog.underlying 63 = some (.slice 3) := rfl
theorem ty_63 : TY Tryd.prog 63 false 1 := ⟨⟨_, rfl, rfl⟩, _, rfl, rfl⟩
theorem sl_63 : TSlice Tryd.prog 63 1 := ⟨3, rfl, _, rfl, rfl⟩
theorem ty_65 : TY Tryd.prog 65 true 4 := ⟨⟨_, rfl, rfl⟩, _, rfl, rfl⟩
theorem fl_65_1 : TField Tryd.prog 65 1 1 false 1 := ⟨_, _, rfl, rfl, rfl, ty_3, by decide⟩
theorem fl_65_2 : TField Tryd.prog 65 2 2 false 1 := ⟨_, _, rfl, rfl, rfl, ty_3, by decide⟩
theorem fl_65_3 : TField Tryd.prog 65 3 3 false 1 := ⟨_, _, rfl, rfl, rfl, ty_63, by decide⟩
theorem u_68 : Tryd.prog.underlying 68 = some (.slice 76) := rfl
theorem ty_68 : TY Tryd.prog 68 false 1 := ⟨⟨_, rfl, rfl⟩, _, rfl, rfl⟩
theorem ts_68 : TSize Tryd.prog 68 1 := ty_68.size
theorem ni_68 : NotInt Tryd.prog 68 := ⟨_, rfl, rfl⟩
theorem sl_68 : TSlice Tryd.prog 68 3 := ⟨76, rfl, _, rfl, rfl⟩
theorem tz_74 : TZero Tryd.prog 74 [.int .i64 0, .int .i64 0, .int .i64 0, .int .i64 0, .int .i64 0, .int .i64 0, .int .i64 0, .int .i64 0, .int .i64 0, .int .i64 0, .int .i64 0, .int .i64 0, .int .i64 0, .int .i64 0, .int .i64 0, .int .i64 0, .int .i64 0, .int .i64 0, .int .i64 0, .int .i64 0, .int .i64 0, .int .i64 0, .int .i64 0, .int .i64 0, .int .i64 0, .int .i64 0, .int .i64 0, .int .i64 0, .int .i64 0, .int .i64 0, .int .i64 0, .int .i64 0, .int .i64 0, .int .i64 0, .int .i64 0, .int .i64 0, .int .i64 0, .int .i64 0, .int .i64 0, .int .i64 0, .int .i64 0, .int .i64 0, .int .i64 0, .int .i64 0, .int .i64 0, .int .i64 0, .int .i64 0, .int .i64 0, .int .i64 0, .int .i64 0, .int .i64 0, .int .i64 0, .int .i64 0, .int .i64 0, .int .i64 0, .int .i64 0, .int .i64 0, .int .i64 0, .int .i64 0, .int .i64 0, .int .i64 0, .int .i64 0, .int .i64 0, .int .i64 0, .int .i64 0, .int .i64 0, .int .i64 0, .int .i64 0, .int .i64 0, .int .i64 0, .int .i64 0, .int .i64 0] := ⟨_, _, rfl, rfl, rfl⟩
theorem fl_74_0 : TField Tryd.prog 74 0 0 true 65 := ⟨_, _, rfl, rfl, rfl, ty_28, by decide⟩
theorem fl_74_1 : TField Tryd.prog 74 1 65 false 1 := ⟨_, _, rfl, rfl, rfl, ty_3, by decide⟩
theorem fl_74_2 : TField Tryd.prog 74 2 66 false 1 := ⟨_, _, rfl, rfl, rfl, ty_3, by decide⟩
theorem fl_74_3 : TField Tryd.prog 74 3 67 true 4 := ⟨_, _, rfl, rfl, rfl, ty_25, by decide⟩
theorem fl_74_4 : TField Tryd.prog 74 4 71 false 1 := ⟨_, _, rfl, rfl, rfl, ty_3, by decide⟩
theorem pl_74 : TPlaces Tryd.prog 74 (lookupL [(0, 65), (65, 1), (66, 1), (67, 4), (71, 1)]) := .inl ⟨_, rfl, fun j => match j with
    | 0 => .inr ⟨_, _, rfl, ts_28, rfl⟩
    | 1 => .inr ⟨_, _, rfl, ts_3, rfl⟩
    | 2 => .inr ⟨_, _, rfl, ts_3, rfl⟩
    | 3 => .inr ⟨_, _, rfl, ts_25, rfl⟩
    | 4 => .inr ⟨_, _, rfl, ts_3, rfl⟩
    | j + 5 => .inl ⟨rfl, by simp⟩⟩
theorem ty_76 : TY Tryd.prog 76 true 3 := ⟨⟨_, rfl, rfl⟩, _, rfl, rfl⟩
theorem ts_76 : TSize Tryd.prog 76 3 := ty_76.size
theorem tz_76 : TZero Tryd.prog 76 [.int .i64 0, .int .i64 0, .int .i64 0] := ⟨_, _, rfl, rfl, rfl⟩
theorem tzn_76 : TZn Tryd.prog 76 3 := ⟨_, _, rfl, rfl, rfl, rfl⟩
theorem tb_76 : TBytes Tryd.prog 76 24 := ⟨_, rfl, Nat.le_refl _⟩
theorem fl_76_0 : TField Tryd.prog 76 0 0 false 1 := ⟨_, _, rfl, rfl, rfl, ty_3, by decide⟩
theorem fl_76_1 : TField Tryd.prog 76 1 1 false 1 := ⟨_, _, rfl, rfl, rfl, ty_3, by decide⟩
theorem fl_76_2 : TField Tryd.prog 76 2 2 false 1 := ⟨_, _, rfl, rfl, rfl, ty_3, by decide⟩
theorem pl_76 : TPlaces Tryd.prog 76 (lookupL [(0, 1), (1, 1), (2, 1)]) := .inl ⟨_, rfl, fun j => match j with
    | 0 => .inr ⟨_, _, rfl, ts_3, rfl⟩
    | 1 => .inr ⟨_, _, rfl, ts_3, rfl⟩
    | 2 => .inr ⟨_, _, rfl, ts_3, rfl⟩
    | j + 3 => .inl ⟨rfl, by simp⟩⟩
theorem ty_78 : TY Tryd.prog 78 true 11 := ⟨⟨_, rfl, rfl⟩, _, rfl, rfl⟩
theorem ts_78 : TSize Tryd.prog 78 11 := ty_78.size
theorem tz_78 : TZero Tryd.prog 78 [.int .i64 0, .int .i64 0, .int .i64 0, .int .i64 0, .int .i64 0, .int .i64 0, .int .i64 0, .int .i64 0, .int .i64 0, .int .i64 0, .int .i64 0] := ⟨_, _, rfl, rfl, rfl⟩
theorem fl_78_0 : TField Tryd.prog 78 0 0 true 3 := ⟨_, _, rfl, rfl, rfl, ty_23, by decide⟩
theorem fl_78_1 : TField Tryd.prog 78 1 3 true 3 := ⟨_, _, rfl, rfl, rfl, ty_23, by decide⟩
theorem fl_78_2 : TField Tryd.prog 78 2 6 true 5 := ⟨_, _, rfl, rfl, rfl, ty_58, by decide⟩
theorem pl_78 : TPlaces Tryd.prog 78 (lookupL [(0, 3), (3, 3), (6, 5)]) := .inl ⟨_, rfl, fun j => match j with
    | 0 => .inr ⟨_, _, rfl, ts_23, rfl⟩
    | 1 => .inr ⟨_, _, rfl, ts_23, rfl⟩
    | 2 => .inr ⟨_, _, rfl, ts_58, rfl⟩
    | j + 3 => .inl ⟨rfl, by simp⟩⟩
theorem ty_96 : TY Tryd.prog 96 false 1 := ⟨⟨_, rfl, rfl⟩, _, rfl, rfl⟩
theorem ts_96 : TSize Tryd.prog 96 1 := ty_96.size
theorem tz_98 : TZero Tryd.prog 98 [.int .i64 0, .int .i64 0, .int .i64 0, .int .i64 0, .int .i64 0, .snil, .mapnil, .snil] := ⟨_, _, rfl, rfl, rfl⟩
theorem fl_98_0 : TField Tryd.prog 98 0 0 true 4 := ⟨_, _, rfl, rfl, rfl, ty_25, by decide⟩
theorem fl_98_1 : TField Tryd.prog 98 1 4 false 1 := ⟨_, _, rfl, rfl, rfl, ty_3, by decide⟩
theorem fl_98_2 : TField Tryd.prog 98 2 5 false 1 := ⟨_, _, rfl, rfl, rfl, ty_68, by decide⟩
theorem fl_98_3 : TField Tryd.prog 98 3 6 false 1 := ⟨_, _, rfl, rfl, rfl, ty_96, by decide⟩
theorem fl_98_4 : TField Tryd.prog 98 4 7 false 1 := ⟨_, _, rfl, rfl, rfl, ty_36, by decide⟩
theorem pl_98 : TPlaces Tryd.prog 98 (lookupL [(0, 4), (4, 1), (5, 1), (6, 1), (7, 1)]) := .inl ⟨_, rfl, fun j => match j with
    | 0 => .inr ⟨_, _, rfl, ts_25, rfl⟩
    | 1 => .inr ⟨_, _, rfl, ts_3, rfl⟩
    | 2 => .inr ⟨_, _, rfl, ts_68, rfl⟩
    | 3 => .inr ⟨_, _, rfl, ts_96, rfl⟩
    | 4 => .inr ⟨_, _, rfl, ts_36, rfl⟩
    | j + 5 => .inl ⟨rfl, by simp⟩⟩
theorem ty_119 : TY Tryd.prog 119 true 2 := ⟨⟨_, rfl, rfl⟩, _, rfl, rfl⟩
theorem ts_119 : TSize Tryd.prog 119 2 := ty_119.size
theorem tz_119 : TZero Tryd.prog 119 [.int .i64 0, .int .i64 0] := ⟨_, _, rfl, rfl, rfl⟩
theorem ar_119 : TArr Tryd.prog 119 2 false 1 := ⟨_, rfl, ty_3⟩
theorem pl_119 : TPlaces Tryd.prog 119 (fun i => some (i * 1, 1)) := .inr ⟨_, _, _, rfl, ts_3, fun _ => rfl⟩
theorem ty_120 : TY Tryd.prog 120 true 8 := ⟨⟨_, rfl, rfl⟩, _, rfl, rfl⟩
theorem ts_120 : TSize Tryd.prog 120 8 := ty_120.size
theorem tz_120 : TZero Tryd.prog 120 [.int .i64 0, .int .i64 0, .int .i64 0, .int .i64 0, .int .i64 0, .int .i64 0, .int .i64 0, .int .i64 0] := ⟨_, _, rfl, rfl, rfl⟩
theorem ar_120 : TArr Tryd.prog 120 4 true 2 := ⟨_, rfl, ty_119⟩
theorem pl_120 : TPlaces Tryd.prog 120 (fun i => some (i * 2, 2)) := .inr ⟨_, _, _, rfl, ts_119, fun _ => rfl⟩
theorem tf_9 : TFun Tryd.prog 9 := ⟨_, rfl, rfl, rfl⟩
theorem tf_10 : TFun Tryd.prog 10 := ⟨_, rfl, rfl, rfl⟩
theorem tf_11 : TFun Tryd.prog 11 := ⟨_, rfl, rfl, rfl⟩
theorem tf_12 : TFun Tryd.prog 12 := ⟨_, rfl, rfl, rfl⟩
theorem tf_13 : TFun Tryd.prog 13 := ⟨_, rfl, rfl, rfl⟩
theorem tf_14 : TFun Tryd.prog 14 := ⟨_, rfl, rfl, rfl⟩
theorem tf_15 : TFun Tryd.prog 15 := ⟨_, rfl, rfl, rfl⟩
theorem tf_16 : TFun Tryd.prog 16 := ⟨_, rfl, rfl, rfl⟩
theorem tf_17 : TFun Tryd.prog 17 := ⟨_, rfl, rfl, rfl⟩
theorem tf_18 : TFun Tryd.prog 18 := ⟨_, rfl, rfl, rfl⟩
theorem tf_19 : TFun Tryd.prog 19 := ⟨_, rfl, rfl, rfl⟩
theorem tf_20 : TFun Tryd.prog 20 := ⟨_, rfl, rfl, rfl⟩
theorem tf_22 : TFun Tryd.prog 22 := ⟨_, rfl, rfl, rfl⟩
theorem tf_23 : TFun Tryd.prog 23 := ⟨_, rfl, rfl, rfl⟩
theorem tf_24 : TFun Tryd.prog 24 := ⟨_, rfl, rfl, rfl⟩
theorem tf_25 : TFun Tryd.prog 25 := ⟨_, rfl, rfl, rfl⟩
theorem tf_26 : TFun Tryd.prog 26 := ⟨_, rfl, rfl, rfl⟩
theorem tf_27 : TFun Tryd.prog 27 := ⟨_, rfl, rfl, rfl⟩
theorem tf_28 : TFun Tryd.prog 28 := ⟨_, rfl, rfl, rfl⟩
theorem tf_29 : TFun Tryd.prog 29 := ⟨_, rfl, rfl, rfl⟩
theorem tf_30 : TFun Tryd.prog 30 := ⟨_, rfl, rfl, rfl⟩
theorem tf_31 : TFun Tryd.prog 31 := ⟨_, rfl, rfl, rfl⟩
theorem tf_32 : TFun Tryd.prog 32 := ⟨_, rfl, rfl, rfl⟩
theorem tf_33 : TFun Tryd.prog 33 := ⟨_, rfl, rfl, rfl⟩
theorem tf_34 : TFun Tryd.prog 34 := ⟨_, rfl, rfl, rfl⟩
theorem tf_35 : TFun Tryd.prog 35 := ⟨_, rfl, rfl, rfl⟩
theorem tf_36 : TFun Tryd.prog 36 := ⟨_, rfl, rfl, rfl⟩
theorem tf_37 : TFun Tryd.prog 37 := ⟨_, rfl, rfl, rfl⟩
theorem tf_38 : TFun Tryd.prog 38 := ⟨_, rfl, rfl, rfl⟩
theorem tf_39 : TFun Tryd.prog 39 := ⟨_, rfl, rfl, rfl⟩
theorem tf_40 : TFun Tryd.prog 40 := ⟨_, rfl, rfl, rfl⟩
theorem tf_41 : TFun Tryd.prog 41 := ⟨_, rfl, rfl, rfl⟩
theorem tf_43 : TFun Tryd.prog 43 := ⟨_, rfl, rfl, rfl⟩
theorem tf_44 : TFun Tryd.prog 44 := ⟨_, rfl, rfl, rfl⟩
theorem tf_45 : TFun Tryd.prog 45 := ⟨_, rfl, rfl, rfl⟩
theorem tf_46 : TFun Tryd.prog 46 := ⟨_, rfl, rfl, rfl⟩
theorem tf_47 : TFun Tryd.prog 47 := ⟨_, rfl, rfl, rfl⟩
theorem tf_48 : TFun Tryd.prog 48 := ⟨_, rfl, rfl, rfl⟩
theorem tf_49 : TFun Tryd.prog 49 := ⟨_, rfl, rfl, rfl⟩
theorem tf_50 : TFun Tryd.prog 50 := ⟨_, rfl, rfl, rfl⟩
theorem tf_51 : TFun Tryd.prog 51 := ⟨_, rfl, rfl, rfl⟩
theorem tf_52 : TFun Tryd.prog 52 := ⟨_, rfl, rfl, rfl⟩
theorem tf_53 : TFun Tryd.prog 53 := ⟨_, rfl, rfl, rfl⟩
theorem tf_54 : TFun Tryd.prog 54 := ⟨_, rfl, rfl, rfl⟩
theorem tf_55 : TFun Tryd.prog 55 := ⟨_, rfl, rfl, rfl⟩
theorem tf_56 : TFun Tryd.prog 56 := ⟨_, rfl, rfl, rfl⟩
theorem tf_57 : TFun Tryd.prog 57 := ⟨_, rfl, rfl, rfl⟩
theorem tf_58 : TFun Tryd.prog 58 := ⟨_, rfl, rfl, rfl⟩
theorem tf_59 : TFun Tryd.prog 59 := ⟨_, rfl, rfl, rfl⟩
theorem tf_60 : TFun Tryd.prog 60 := ⟨_, rfl, rfl, rfl⟩
theorem tf_61 : TFun Tryd.prog 61 := ⟨_, rfl, rfl, rfl⟩
theorem tf_62 : TFun Tryd.prog 62 := ⟨_, rfl, rfl, rfl⟩
theorem tf_63 : TFun Tryd.prog 63 := ⟨_, rfl, rfl, rfl⟩
theorem tf_64 : TFun Tryd.prog 64 := ⟨_, rfl, rfl, rfl⟩
theorem tf_65 : TFun Tryd.prog 65 := ⟨_, rfl, rfl, rfl⟩
theorem tf_66 : TFun Tryd.prog 66 := ⟨_, rfl, rfl, rfl⟩
theorem tf_67 : TFun Tryd.prog 67 := ⟨_, rfl, rfl, rfl⟩
theorem tf_68 : TFun Tryd.prog 68 := ⟨_, rfl, rfl, rfl⟩
theorem tf_69 : TFun Tryd.prog 69 := ⟨_, rfl, rfl, rfl⟩
theorem tf_70 : TFun Tryd.prog 70 := ⟨_, rfl, rfl, rfl⟩
theorem tf_71 : TFun Tryd.prog 71 := ⟨_, rfl, rfl, rfl⟩
theorem tf_72 : TFun Tryd.prog 72 := ⟨_, rfl, rfl, rfl⟩
theorem tf_73 : TFun Tryd.prog 73 := ⟨_, rfl, rfl, rfl⟩
theorem tf_74 : TFun Tryd.prog 74 := ⟨_, rfl, rfl, rfl⟩
theorem tf_75 : TFun Tryd.prog 75 := ⟨_, rfl, rfl, rfl⟩
theorem tf_76 : TFun Tryd.prog 76 := ⟨_, rfl, rfl, rfl⟩
theorem tf_77 : TFun Tryd.prog 77 := ⟨_, rfl, rfl, rfl⟩
theorem tf_78 : TFun Tryd.prog 78 := ⟨_, rfl, rfl, rfl⟩
theorem tf_79 : TFun Tryd.prog 79 := ⟨_, rfl, rfl, rfl⟩
theorem tf_80 : TFun Tryd.prog 80 := ⟨_, rfl, rfl, rfl⟩
theorem tf_81 : TFun Tryd.prog 81 := ⟨_, rfl, rfl, rfl⟩
theorem tf_82 : TFun Tryd.prog 82 := ⟨_, rfl, rfl, rfl⟩
theorem tf_83 : TFun Tryd.prog 83 := ⟨_, rfl, rfl, rfl⟩
theorem tf_84 : TFun Tryd.prog 84 := ⟨_, rfl, rfl, rfl⟩
theorem tf_85 : TFun Tryd.prog 85 := ⟨_, rfl, rfl, rfl⟩
theorem tf_86 : TFun Tryd.prog 86 := ⟨_, rfl, rfl, rfl⟩
theorem tf_87 : TFun Tryd.prog 87 := ⟨_, rfl, rfl, rfl⟩
theorem tf_88 : TFun Tryd.prog 88 := ⟨_, rfl, rfl, rfl⟩
theorem tf_89 : TFun Tryd.prog 89 := ⟨_, rfl, rfl, rfl⟩
theorem tf_90 : TFun Tryd.prog 90 := ⟨_, rfl, rfl, rfl⟩
theorem tf_91 : TFun Tryd.prog 91 := ⟨_, rfl, rfl, rfl⟩
theorem tf_92 : TFun Tryd.prog 92 := ⟨_, rfl, rfl, rfl⟩
theorem tf_93 : TFun Tryd.prog 93 := ⟨_, rfl, rfl, rfl⟩
theorem tf_94 : TFun Tryd.prog 94 := ⟨_, rfl, rfl, rfl⟩
theorem tf_95 : TFun Tryd.prog 95 := ⟨_, rfl, rfl, rfl⟩
theorem tf_96 : TFun Tryd.prog 96 := ⟨_, rfl, rfl, rfl⟩
theorem mixed : Tryd.prog.follows .mixedOrders = true := rfl
end Go.Proofs.M
namespace Go.Proofs.M
open Go Go.AH
abbrev inV (B : Int) (v : VT) : Prop := -B ≤ v.X ∧ v.X ≤ B ∧ -B ≤ v.Y ∧ v.Y ≤ B ∧ -B ≤ v.Z ∧ v.Z ≤ B
abbrev mulV (v : VT) (k : Int) : Prop := -4611686018427387904 ≤ v.X * k ∧ v.X * k ≤ 4611686018427387904 ∧ -4611686018427387904 ≤ v.Y * k ∧ v.Y * k ≤ 4611686018427387904 ∧ -4611686018427387904 ≤ v.Z * k ∧ v.Z * k ≤ 4611686018427387904
theorem inV_le {A B : Int} {v : VT} (h : inV A v) (hb : A ≤ B) : inV B v := by obtain ⟨h1, h2, h3, h4, h5, h6⟩ := h; exact ⟨by omega, by omega, by omega, by omega, by omega, by omega⟩
theorem mul_rng {x k A C : Int} (hx : -A ≤ x ∧ x ≤ A) (hk : -C ≤ k ∧ k ≤ C) : -(A * C) ≤ x * k ∧ x * k ≤ A * C := by
  have hA : 0 ≤ A := by omega
  have hC : 0 ≤ C := by omega
  have h1 : x.natAbs ≤ A.natAbs := by omega
  have h2 : k.natAbs ≤ C.natAbs := by omega
  have h3 := Nat.mul_le_mul h1 h2
  rw [← Int.natAbs_mul, ← Int.natAbs_mul] at h3
  have h4 : ((A * C).natAbs : Int) = A * C := Int.natAbs_of_nonneg (Int.mul_nonneg hA hC)
  omega
theorem mulV_of {A C : Int} {v : VT} {k : Int} (h : inV A v) (hk : -C ≤ k ∧ k ≤ C) (hD : A * C ≤ 4611686018427387904) : mulV v k := by
  obtain ⟨h1, h2, h3, h4, h5, h6⟩ := h
  have a := mul_rng ⟨h1, h2⟩ hk
  have b := mul_rng ⟨h3, h4⟩ hk
  have c := mul_rng ⟨h5, h6⟩ hk
  exact ⟨by omega, by omega, by omega, by omega, by omega, by omega⟩
theorem tdiv_rng {n d B : Int} (hn : -B ≤ n ∧ n ≤ B) (hd : 1 ≤ d) : -B ≤ n.tdiv d ∧ n.tdiv d ≤ B := by
  have h : (n.tdiv d).natAbs ≤ n.natAbs := by
    rw [Int.natAbs_tdiv]; exact Nat.div_le_self _ _
  omega
theorem tmod_rng {n d : Int} (hd : 1 ≤ d) : -d < n.tmod d ∧ n.tmod d < d := by
  have h := Int.natAbs_tmod n d
  have h2 : (n.natAbs % d.natAbs) < d.natAbs := Nat.mod_lt _ (by omega)
  omega
end Go.Proofs.M
namespace Go.AH
abbrev J (x : Int) : AV := .int .i64 x
end Go.AH
namespace Go.Proofs.M
open Go Go.AH
set_option maxRecDepth 4000
set_option linter.unusedSimpArgs false
set_option linter.unusedVariables false
def R_vec_Add (v : VT) (w : VT) : VT :=
  (VT.mk (v.X + w.X) (v.Y + w.Y) (v.Z + w.Z))
theorem c_vec_Add (v : VT) (w : VT) (hv : inV 1152921504606846976 v) (hw : inV 1152921504606846976 w) : PC Tryd.prog 38 [.agg [J v.X, J v.Y, J v.Z], .agg [J w.X, J w.Y, J w.Z]] (.agg [J ((R_vec_Add v w).X), J ((R_vec_Add v w).Y), J ((R_vec_Add v w).Z)]) := by
 intro H0
 refine ACalls.of_body' (n := 21) rfl rfl rfl rfl ?_
 have m0 := Mono.refl H0
 refine Sr ?_
 refine C rfl (bx_ (.agg [J v.X, J v.Y, J v.Z]) rfl rfl rfl ?_)
 intro i1 H2 n3 h4 k5
 have z6 := Mono.free m0 n3
 have m7 := Mono.new m0 n3 k5
 refine C rfl (bx_ (.agg [J w.X, J w.Y, J w.Z]) rfl rfl rfl ?_)
 intro i8 H9 n10 h11 k12
 have e13 := ne_new h4 n10
 have z14 := Mono.free m7 n10
 have h15 := keep k12 (ne_new h4 n10) h4
 have m16 := Mono.new m7 n10 k12
 refine C rfl (al_ rfl tz_23 ?_)
 intro i17 H18 n19 h20 k21
 have e22 := ne_new h15 n19
 have e23 := ne_new h11 n19
 have z24 := Mono.free m16 n19
 have h25 := keep k21 (ne_new h15 n19) h15
 have h26 := keep k21 (ne_new h11 n19) h11
 have m27 := Mono.new m16 n19 k21
 refine AWP.seq ?_
 refine fz_ 2 h25 z6 rfl m27 fun H28 m29 k30 => ?_
 have h31 := (k30 _ (Ne.symm e13)).trans h26
 have h32 := (k30 _ (Ne.symm e22)).trans h20
 refine fz_ 3 h31 z14 rfl m29 fun H33 m34 k35 => ?_
 have h36 := (k35 _ (Ne.symm e23)).trans h32
 refine AWP.region rfl ?_
 refine F rfl rfl fl_23_0 (L rfl rfl ty_3 rfl (F rfl rfl fl_23_0 (L rfl rfl ty_3 rfl (B rfl rfl rfl (iadd (by omega)) (F rfl rfl fl_23_1 (L rfl rfl ty_3 rfl (F rfl rfl fl_23_1 (L rfl rfl ty_3 rfl (B rfl rfl rfl (iadd (by omega)) (F rfl rfl fl_23_2 (L rfl rfl ty_3 rfl (F rfl rfl fl_23_2 (L rfl rfl ty_3 rfl (B rfl rfl rfl (iadd (by omega)) (C rfl (Bl (cells := [J (v.X + w.X), J (v.Y + w.Y), J (v.Z + w.Z)]) rfl tz_23 pl_23 rfl rfl (C rfl (Sw rfl rfl ts_23 h36 rfl rfl rfl ?_))))))))))))))))))
 intro H37 h38 k39
 have m41 := Mono.set m34 z24 k39
 refine rt_ ?_
 refine Rr (Res.list1 rfl (.cell (v := .agg [J (v.X + w.X), J (v.Y + w.Y), J (v.Z + w.Z)]) rfl ty_23 h38 rfl (.nil))) ?_ m41
 have hR : R_vec_Add v w = (VT.mk (v.X + w.X) (v.Y + w.Y) (v.Z + w.Z)) := rfl
 exact (congrArg (fun r : VT => (.agg [J r.X, J r.Y, J r.Z] : AV)) hR).symm
def R_vec_Sub (v : VT) (w : VT) : VT :=
  (VT.mk (v.X - w.X) (v.Y - w.Y) (v.Z - w.Z))
theorem c_vec_Sub (v : VT) (w : VT) (hv : inV 1152921504606846976 v) (hw : inV 1152921504606846976 w) : PC Tryd.prog 37 [.agg [J v.X, J v.Y, J v.Z], .agg [J w.X, J w.Y, J w.Z]] (.agg [J ((R_vec_Sub v w).X), J ((R_vec_Sub v w).Y), J ((R_vec_Sub v w).Z)]) := by
 intro H0
 refine ACalls.of_body' (n := 21) rfl rfl rfl rfl ?_
 have m0 := Mono.refl H0
 refine Sr ?_
 refine C rfl (bx_ (.agg [J v.X, J v.Y, J v.Z]) rfl rfl rfl ?_)
 intro i1 H2 n3 h4 k5
 have z6 := Mono.free m0 n3
 have m7 := Mono.new m0 n3 k5
 refine C rfl (bx_ (.agg [J w.X, J w.Y, J w.Z]) rfl rfl rfl ?_)
 intro i8 H9 n10 h11 k12
 have e13 := ne_new h4 n10
 have z14 := Mono.free m7 n10
 have h15 := keep k12 (ne_new h4 n10) h4
 have m16 := Mono.new m7 n10 k12
 refine C rfl (al_ rfl tz_23 ?_)
 intro i17 H18 n19 h20 k21
 have e22 := ne_new h15 n19
 have e23 := ne_new h11 n19
 have z24 := Mono.free m16 n19
 have h25 := keep k21 (ne_new h15 n19) h15
 have h26 := keep k21 (ne_new h11 n19) h11
 have m27 := Mono.new m16 n19 k21
 refine AWP.seq ?_
 refine fz_ 2 h25 z6 rfl m27 fun H28 m29 k30 => ?_
 have h31 := (k30 _ (Ne.symm e13)).trans h26
 have h32 := (k30 _ (Ne.symm e22)).trans h20
 refine fz_ 3 h31 z14 rfl m29 fun H33 m34 k35 => ?_
 have h36 := (k35 _ (Ne.symm e23)).trans h32
 refine AWP.region rfl ?_
 refine F rfl rfl fl_23_0 (L rfl rfl ty_3 rfl (F rfl rfl fl_23_0 (L rfl rfl ty_3 rfl (B rfl rfl rfl (isub (by omega)) (F rfl rfl fl_23_1 (L rfl rfl ty_3 rfl (F rfl rfl fl_23_1 (L rfl rfl ty_3 rfl (B rfl rfl rfl (isub (by omega)) (F rfl rfl fl_23_2 (L rfl rfl ty_3 rfl (F rfl rfl fl_23_2 (L rfl rfl ty_3 rfl (B rfl rfl rfl (isub (by omega)) (C rfl (Bl (cells := [J (v.X - w.X), J (v.Y - w.Y), J (v.Z - w.Z)]) rfl tz_23 pl_23 rfl rfl (C rfl (Sw rfl rfl ts_23 h36 rfl rfl rfl ?_))))))))))))))))))
 intro H37 h38 k39
 have m41 := Mono.set m34 z24 k39
 refine rt_ ?_
 refine Rr (Res.list1 rfl (.cell (v := .agg [J (v.X - w.X), J (v.Y - w.Y), J (v.Z - w.Z)]) rfl ty_23 h38 rfl (.nil))) ?_ m41
 have hR : R_vec_Sub v w = (VT.mk (v.X - w.X) (v.Y - w.Y) (v.Z - w.Z)) := rfl
 exact (congrArg (fun r : VT => (.agg [J r.X, J r.Y, J r.Z] : AV)) hR).symm
def R_vec_Scale (v : VT) (k : Int) : VT :=
  (VT.mk (v.X * k) (v.Y * k) (v.Z * k))
theorem c_vec_Scale (v : VT) (k : Int) (h : mulV v k) : PC Tryd.prog 59 [.agg [J v.X, J v.Y, J v.Z], J k] (.agg [J ((R_vec_Scale v k).X), J ((R_vec_Scale v k).Y), J ((R_vec_Scale v k).Z)]) := by
 intro H0
 refine ACalls.of_body' (n := 18) rfl rfl rfl rfl ?_
 have m0 := Mono.refl H0
 refine Sr ?_
 refine C rfl (bx_ (.agg [J v.X, J v.Y, J v.Z]) rfl rfl rfl ?_)
 intro i1 H2 n3 h4 k5
 have z6 := Mono.free m0 n3
 have m7 := Mono.new m0 n3 k5
 refine C rfl (al_ rfl tz_23 ?_)
 intro i8 H9 n10 h11 k12
 have e13 := ne_new h4 n10
 have z14 := Mono.free m7 n10
 have h15 := keep k12 (ne_new h4 n10) h4
 have m16 := Mono.new m7 n10 k12
 refine AWP.seq ?_
 refine fz_ 2 h15 z6 rfl m16 fun H17 m18 k19 => ?_
 have h20 := (k19 _ (Ne.symm e13)).trans h11
 refine AWP.region rfl ?_
 refine F rfl rfl fl_23_0 (L rfl rfl ty_3 rfl (V rfl rfl (B rfl rfl rfl (imul (by omega)) (F rfl rfl fl_23_1 (L rfl rfl ty_3 rfl (V rfl rfl (B rfl rfl rfl (imul (by omega)) (F rfl rfl fl_23_2 (L rfl rfl ty_3 rfl (V rfl rfl (B rfl rfl rfl (imul (by omega)) (C rfl (Bl (cells := [J (v.X * k), J (v.Y * k), J (v.Z * k)]) rfl tz_23 pl_23 rfl rfl (C rfl (Sw rfl rfl ts_23 h20 rfl rfl rfl ?_)))))))))))))))
 intro H21 h22 k23
 have m25 := Mono.set m18 z14 k23
 refine rt_ ?_
 refine Rr (Res.list1 rfl (.cell (v := .agg [J (v.X * k), J (v.Y * k), J (v.Z * k)]) rfl ty_23 h22 rfl (.nil))) ?_ m25
 have hR : R_vec_Scale v k = (VT.mk (v.X * k) (v.Y * k) (v.Z * k)) := rfl
 exact (congrArg (fun r : VT => (.agg [J r.X, J r.Y, J r.Z] : AV)) hR).symm
def R_ref02_Add (v : VT) (w : VT) : VT :=
  (VT.mk (v.X + w.X) (v.Y + w.Y) (v.Z + w.Z))
theorem c_ref02_Add (v : VT) (w : VT) (hv : inV 1152921504606846976 v) (hw : inV 1152921504606846976 w) : PC Tryd.prog 20 [.agg [J v.X, J v.Y, J v.Z], .agg [J w.X, J w.Y, J w.Z]] (.agg [J ((R_ref02_Add v w).X), J ((R_ref02_Add v w).Y), J ((R_ref02_Add v w).Z)]) := by
 intro H0
 refine ACalls.of_body' (n := 21) rfl rfl rfl rfl ?_
 have m0 := Mono.refl H0
 refine Sr ?_
 refine C rfl (bx_ (.agg [J v.X, J v.Y, J v.Z]) rfl rfl rfl ?_)
 intro i1 H2 n3 h4 k5
 have z6 := Mono.free m0 n3
 have m7 := Mono.new m0 n3 k5
 refine C rfl (bx_ (.agg [J w.X, J w.Y, J w.Z]) rfl rfl rfl ?_)
 intro i8 H9 n10 h11 k12
 have e13 := ne_new h4 n10
 have z14 := Mono.free m7 n10
 have h15 := keep k12 (ne_new h4 n10) h4
 have m16 := Mono.new m7 n10 k12
 refine C rfl (al_ rfl tz_23 ?_)
 intro i17 H18 n19 h20 k21
 have e22 := ne_new h15 n19
 have e23 := ne_new h11 n19
 have z24 := Mono.free m16 n19
 have h25 := keep k21 (ne_new h15 n19) h15
 have h26 := keep k21 (ne_new h11 n19) h11
 have m27 := Mono.new m16 n19 k21
 refine AWP.seq ?_
 refine fz_ 2 h25 z6 rfl m27 fun H28 m29 k30 => ?_
 have h31 := (k30 _ (Ne.symm e13)).trans h26
 have h32 := (k30 _ (Ne.symm e22)).trans h20
 refine fz_ 3 h31 z14 rfl m29 fun H33 m34 k35 => ?_
 have h36 := (k35 _ (Ne.symm e23)).trans h32
 refine AWP.region rfl ?_
 refine F rfl rfl fl_23_0 (L rfl rfl ty_3 rfl (F rfl rfl fl_23_0 (L rfl rfl ty_3 rfl (B rfl rfl rfl (iadd (by omega)) (F rfl rfl fl_23_1 (L rfl rfl ty_3 rfl (F rfl rfl fl_23_1 (L rfl rfl ty_3 rfl (B rfl rfl rfl (iadd (by omega)) (F rfl rfl fl_23_2 (L rfl rfl ty_3 rfl (F rfl rfl fl_23_2 (L rfl rfl ty_3 rfl (B rfl rfl rfl (iadd (by omega)) (C rfl (Bl (cells := [J (v.X + w.X), J (v.Y + w.Y), J (v.Z + w.Z)]) rfl tz_23 pl_23 rfl rfl (C rfl (Sw rfl rfl ts_23 h36 rfl rfl rfl ?_))))))))))))))))))
 intro H37 h38 k39
 have m41 := Mono.set m34 z24 k39
 refine rt_ ?_
 refine Rr (Res.list1 rfl (.cell (v := .agg [J (v.X + w.X), J (v.Y + w.Y), J (v.Z + w.Z)]) rfl ty_23 h38 rfl (.nil))) ?_ m41
 have hR : R_ref02_Add v w = (VT.mk (v.X + w.X) (v.Y + w.Y) (v.Z + w.Z)) := rfl
 exact (congrArg (fun r : VT => (.agg [J r.X, J r.Y, J r.Z] : AV)) hR).symm
def R_ref02_Sub (v : VT) (w : VT) : VT :=
  (VT.mk (v.X - w.X) (v.Y - w.Y) (v.Z - w.Z))
theorem c_ref02_Sub (v : VT) (w : VT) (hv : inV 1152921504606846976 v) (hw : inV 1152921504606846976 w) : PC Tryd.prog 19 [.agg [J v.X, J v.Y, J v.Z], .agg [J w.X, J w.Y, J w.Z]] (.agg [J ((R_ref02_Sub v w).X), J ((R_ref02_Sub v w).Y), J ((R_ref02_Sub v w).Z)]) := by
 intro H0
 refine ACalls.of_body' (n := 21) rfl rfl rfl rfl ?_
 have m0 := Mono.refl H0
 refine Sr ?_
 refine C rfl (bx_ (.agg [J v.X, J v.Y, J v.Z]) rfl rfl rfl ?_)
 intro i1 H2 n3 h4 k5
 have z6 := Mono.free m0 n3
 have m7 := Mono.new m0 n3 k5
 refine C rfl (bx_ (.agg [J w.X, J w.Y, J w.Z]) rfl rfl rfl ?_)
 intro i8 H9 n10 h11 k12
 have e13 := ne_new h4 n10
 have z14 := Mono.free m7 n10
 have h15 := keep k12 (ne_new h4 n10) h4
 have m16 := Mono.new m7 n10 k12
 refine C rfl (al_ rfl tz_23 ?_)
 intro i17 H18 n19 h20 k21
 have e22 := ne_new h15 n19
 have e23 := ne_new h11 n19
 have z24 := Mono.free m16 n19
 have h25 := keep k21 (ne_new h15 n19) h15
 have h26 := keep k21 (ne_new h11 n19) h11
 have m27 := Mono.new m16 n19 k21
 refine AWP.seq ?_
 refine fz_ 2 h25 z6 rfl m27 fun H28 m29 k30 => ?_
 have h31 := (k30 _ (Ne.symm e13)).trans h26
 have h32 := (k30 _ (Ne.symm e22)).trans h20
 refine fz_ 3 h31 z14 rfl m29 fun H33 m34 k35 => ?_
 have h36 := (k35 _ (Ne.symm e23)).trans h32
 refine AWP.region rfl ?_
 refine F rfl rfl fl_23_0 (L rfl rfl ty_3 rfl (F rfl rfl fl_23_0 (L rfl rfl ty_3 rfl (B rfl rfl rfl (isub (by omega)) (F rfl rfl fl_23_1 (L rfl rfl ty_3 rfl (F rfl rfl fl_23_1 (L rfl rfl ty_3 rfl (B rfl rfl rfl (isub (by omega)) (F rfl rfl fl_23_2 (L rfl rfl ty_3 rfl (F rfl rfl fl_23_2 (L rfl rfl ty_3 rfl (B rfl rfl rfl (isub (by omega)) (C rfl (Bl (cells := [J (v.X - w.X), J (v.Y - w.Y), J (v.Z - w.Z)]) rfl tz_23 pl_23 rfl rfl (C rfl (Sw rfl rfl ts_23 h36 rfl rfl rfl ?_))))))))))))))))))
 intro H37 h38 k39
 have m41 := Mono.set m34 z24 k39
 refine rt_ ?_
 refine Rr (Res.list1 rfl (.cell (v := .agg [J (v.X - w.X), J (v.Y - w.Y), J (v.Z - w.Z)]) rfl ty_23 h38 rfl (.nil))) ?_ m41
 have hR : R_ref02_Sub v w = (VT.mk (v.X - w.X) (v.Y - w.Y) (v.Z - w.Z)) := rfl
 exact (congrArg (fun r : VT => (.agg [J r.X, J r.Y, J r.Z] : AV)) hR).symm
def R_ref02_Scale (v : VT) (k : Int) : VT :=
  (VT.mk (v.X * k) (v.Y * k) (v.Z * k))
theorem c_ref02_Scale (v : VT) (k : Int) (h : mulV v k) : PC Tryd.prog 75 [.agg [J v.X, J v.Y, J v.Z], J k] (.agg [J ((R_ref02_Scale v k).X), J ((R_ref02_Scale v k).Y), J ((R_ref02_Scale v k).Z)]) := by
 intro H0
 refine ACalls.of_body' (n := 18) rfl rfl rfl rfl ?_
 have m0 := Mono.refl H0
 refine Sr ?_
 refine C rfl (bx_ (.agg [J v.X, J v.Y, J v.Z]) rfl rfl rfl ?_)
 intro i1 H2 n3 h4 k5
 have z6 := Mono.free m0 n3
 have m7 := Mono.new m0 n3 k5
 refine C rfl (al_ rfl tz_23 ?_)
 intro i8 H9 n10 h11 k12
 have e13 := ne_new h4 n10
 have z14 := Mono.free m7 n10
 have h15 := keep k12 (ne_new h4 n10) h4
 have m16 := Mono.new m7 n10 k12
 refine AWP.seq ?_
 refine fz_ 2 h15 z6 rfl m16 fun H17 m18 k19 => ?_
 have h20 := (k19 _ (Ne.symm e13)).trans h11
 refine AWP.region rfl ?_
 refine F rfl rfl fl_23_0 (L rfl rfl ty_3 rfl (V rfl rfl (B rfl rfl rfl (imul (by omega)) (F rfl rfl fl_23_1 (L rfl rfl ty_3 rfl (V rfl rfl (B rfl rfl rfl (imul (by omega)) (F rfl rfl fl_23_2 (L rfl rfl ty_3 rfl (V rfl rfl (B rfl rfl rfl (imul (by omega)) (C rfl (Bl (cells := [J (v.X * k), J (v.Y * k), J (v.Z * k)]) rfl tz_23 pl_23 rfl rfl (C rfl (Sw rfl rfl ts_23 h20 rfl rfl rfl ?_)))))))))))))))
 intro H21 h22 k23
 have m25 := Mono.set m18 z14 k23
 refine rt_ ?_
 refine Rr (Res.list1 rfl (.cell (v := .agg [J (v.X * k), J (v.Y * k), J (v.Z * k)]) rfl ty_23 h22 rfl (.nil))) ?_ m25
 have hR : R_ref02_Scale v k = (VT.mk (v.X * k) (v.Y * k) (v.Z * k)) := rfl
 exact (congrArg (fun r : VT => (.agg [J r.X, J r.Y, J r.Z] : AV)) hR).symm
def R_vec_Within (v : VT) (m : Int) : Bool :=
  if min (min v.X v.Y) v.Z ≥ -m then decide (max (max v.X v.Y) v.Z ≤ m) else false
theorem c_vec_Within (v : VT) (m : Int) (hm : 0 ≤ m ∧ m ≤ 1000000) : PC Tryd.prog 18 [.agg [J v.X, J v.Y, J v.Z], J m] (.bool (R_vec_Within v m)) := by
 intro H0
 refine ACalls.of_body' (n := 26) rfl rfl rfl rfl ?_
 have m0 := Mono.refl H0
 refine Sr ?_
 refine C rfl (bx_ (.agg [J v.X, J v.Y, J v.Z]) rfl rfl rfl ?_)
 intro i1 H2 n3 h4 k5
 have z6 := Mono.free m0 n3
 have m7 := Mono.new m0 n3 k5
 refine A rfl rfl ?_
 refine AWP.seq ?_
 refine fz_ 2 h4 z6 rfl m7 fun H8 m9 k10 => ?_
 refine AWP.region rfl ?_
 refine F rfl rfl fl_23_0 (L rfl rfl ty_3 rfl (F rfl rfl fl_23_1 (L rfl rfl ty_3 rfl (F rfl rfl fl_23_2 (L rfl rfl ty_3 rfl (C rfl (AOp.min3 rfl rfl rfl rfl (V rfl rfl (C rfl (AOp.negP rfl rfl (by omega) (B rfl rfl rfl rfl (V rfl rfl ?_))))))))))))
 by_cases b11 : min (min v.X v.Y) v.Z ≥ -m
 refine Y rfl rfl rfl (decide_eq_true b11) (Ff rfl rfl fl_23_0 (Y rfl rfl rfl (decide_eq_true b11) (Lf _ rfl rfl ty_3 rfl (Y rfl rfl rfl (decide_eq_true b11) (Ff rfl rfl fl_23_1 (Y rfl rfl rfl (decide_eq_true b11) (Lf _ rfl rfl ty_3 rfl (Y rfl rfl rfl (decide_eq_true b11) (Ff rfl rfl fl_23_2 (Y rfl rfl rfl (decide_eq_true b11) (Lf _ rfl rfl ty_3 rfl (Y rfl rfl rfl (decide_eq_true b11) (AOp.max3 rfl rfl rfl rfl (Y rfl rfl rfl (decide_eq_true b11) (Mv _ rfl rfl (Y rfl rfl rfl (decide_eq_true b11) (Bi _ rfl rfl rfl rfl (C rfl (Pt _ rfl rfl (decide_eq_true b11) rfl (A rfl rfl ?_))))))))))))))))))))
 refine rt_ ?_
 refine Rr (Res.one rfl rfl) ?_ m9
 have hR : R_vec_Within v m = decide (max (max v.X v.Y) v.Z ≤ m) := by unfold R_vec_Within; rw [if_pos b11]
 exact (congrArg (fun r : Bool => (.bool r : AV)) hR).symm
 refine N rfl rfl (decide_eq_false b11) (N rfl rfl (decide_eq_false b11) (N rfl rfl (decide_eq_false b11) (N rfl rfl (decide_eq_false b11) (N rfl rfl (decide_eq_false b11) (N rfl rfl (decide_eq_false b11) (N rfl rfl (decide_eq_false b11) (N rfl rfl (decide_eq_false b11) (N rfl rfl (decide_eq_false b11) (C rfl (Pf _ rfl rfl (decide_eq_false b11) rfl (A rfl rfl ?_)))))))))))
 refine rt_ ?_
 refine Rr (Res.one rfl rfl) ?_ m9
 have hR : R_vec_Within v m = false := by unfold R_vec_Within; rw [if_neg b11]
 exact (congrArg (fun r : Bool => (.bool r : AV)) hR).symm
def R_ref00_Within (v : VT) (m : Int) : Bool :=
  if v.X ≥ -m then (if v.X ≤ m then (if v.Y ≥ -m then (if v.Y ≤ m then (if v.Z ≥ -m then decide (v.Z ≤ m) else false) else false) else false) else false) else false
def Tref00_Within (r : Bool) : AV := .bool r
theorem c_ref00_Within (v : VT) (m : Int) (hm : 0 ≤ m ∧ m ≤ 1000000) : PC Tryd.prog 60 [.agg [J v.X, J v.Y, J v.Z], J m] (.bool (R_ref00_Within v m)) := by
 intro H0
 refine ACalls.of_body' (n := 42) rfl rfl rfl rfl ?_
 have m0 := Mono.refl H0
 refine Sr ?_
 refine C rfl (bx_ (.agg [J v.X, J v.Y, J v.Z]) rfl rfl rfl ?_)
 intro i1 H2 n3 h4 k5
 have z6 := Mono.free m0 n3
 have m7 := Mono.new m0 n3 k5
 refine A rfl rfl ?_
 refine AWP.seq ?_
 refine fz_ 2 h4 z6 rfl m7 fun H8 m9 k10 => ?_
 refine AWP.region rfl ?_
 refine F rfl rfl fl_23_0 (L rfl rfl ty_3 rfl (V rfl rfl (C rfl (AOp.negP rfl rfl (by omega) (B rfl rfl rfl rfl (V rfl rfl ?_))))))
 by_cases b11 : v.X ≥ -m
 refine Y rfl rfl rfl (decide_eq_true b11) (Ff rfl rfl fl_23_0 (Y rfl rfl rfl (decide_eq_true b11) (Lf _ rfl rfl ty_3 rfl (Y rfl rfl rfl (decide_eq_true b11) (Mv _ rfl rfl (Y rfl rfl rfl (decide_eq_true b11) (Bi _ rfl rfl rfl rfl (C rfl (Pt _ rfl rfl (decide_eq_true b11) rfl (V rfl rfl ?_))))))))))
 by_cases b12 : v.X ≤ m
 refine Y rfl rfl rfl (decide_eq_true b12) (Ff rfl rfl fl_23_1 (Y rfl rfl rfl (decide_eq_true b12) (Lf _ rfl rfl ty_3 rfl (Y rfl rfl rfl (decide_eq_true b12) (Mv _ rfl rfl (Y rfl rfl rfl (decide_eq_true b12) (AOp.negP rfl rfl (by omega) (Y rfl rfl rfl (decide_eq_true b12) (Bi _ rfl rfl rfl rfl (C rfl (Pt _ rfl rfl (decide_eq_true b12) rfl (V rfl rfl ?_))))))))))))
 by_cases b13 : v.Y ≥ -m
 refine Y rfl rfl rfl (decide_eq_true b13) (Ff rfl rfl fl_23_1 (Y rfl rfl rfl (decide_eq_true b13) (Lf _ rfl rfl ty_3 rfl (Y rfl rfl rfl (decide_eq_true b13) (Mv _ rfl rfl (Y rfl rfl rfl (decide_eq_true b13) (Bi _ rfl rfl rfl rfl (C rfl (Pt _ rfl rfl (decide_eq_true b13) rfl (V rfl rfl ?_))))))))))
 by_cases b14 : v.Y ≤ m
 refine Y rfl rfl rfl (decide_eq_true b14) (Ff rfl rfl fl_23_2 (Y rfl rfl rfl (decide_eq_true b14) (Lf _ rfl rfl ty_3 rfl (Y rfl rfl rfl (decide_eq_true b14) (Mv _ rfl rfl (Y rfl rfl rfl (decide_eq_true b14) (AOp.negP rfl rfl (by omega) (Y rfl rfl rfl (decide_eq_true b14) (Bi _ rfl rfl rfl rfl (C rfl (Pt _ rfl rfl (decide_eq_true b14) rfl (V rfl rfl ?_))))))))))))
 by_cases b15 : v.Z ≥ -m
 refine Y rfl rfl rfl (decide_eq_true b15) (Ff rfl rfl fl_23_2 (Y rfl rfl rfl (decide_eq_true b15) (Lf _ rfl rfl ty_3 rfl (Y rfl rfl rfl (decide_eq_true b15) (Mv _ rfl rfl (Y rfl rfl rfl (decide_eq_true b15) (Bi _ rfl rfl rfl rfl (C rfl (Pt _ rfl rfl (decide_eq_true b15) rfl (A rfl rfl ?_))))))))))
 refine rt_ ?_
 refine Rr (Res.one rfl rfl) ?_ m9
 have hR : R_ref00_Within v m = decide (v.Z ≤ m) := by unfold R_ref00_Within; rw [if_pos b11, if_pos b12, if_pos b13, if_pos b14, if_pos b15]
 exact (congrArg Tref00_Within hR).symm
 refine N rfl rfl (decide_eq_false b15) (N rfl rfl (decide_eq_false b15) (N rfl rfl (decide_eq_false b15) (N rfl rfl (decide_eq_false b15) (C rfl (Pf _ rfl rfl (decide_eq_false b15) rfl (A rfl rfl ?_))))))
 refine rt_ ?_
 refine Rr (Res.one rfl rfl) ?_ m9
 have hR : R_ref00_Within v m = false := by unfold R_ref00_Within; rw [if_pos b11, if_pos b12, if_pos b13, if_pos b14, if_neg b15]
 exact (congrArg Tref00_Within hR).symm
 refine N rfl rfl (decide_eq_false b14) (N rfl rfl (decide_eq_false b14) (N rfl rfl (decide_eq_false b14) (N rfl rfl (decide_eq_false b14) (N rfl rfl (decide_eq_false b14) (C rfl (Pf _ rfl rfl (decide_eq_false b14) rfl (V rfl rfl (N rfl rfl rfl (N rfl rfl rfl (N rfl rfl rfl (N rfl rfl rfl (C rfl (Pf _ rfl rfl rfl rfl (A rfl rfl ?_))))))))))))))
 refine rt_ ?_
 refine Rr (Res.one rfl rfl) ?_ m9
 have hR : R_ref00_Within v m = false := by unfold R_ref00_Within; rw [if_pos b11, if_pos b12, if_pos b13, if_neg b14]
 exact (congrArg Tref00_Within hR).symm
 refine N rfl rfl (decide_eq_false b13) (N rfl rfl (decide_eq_false b13) (N rfl rfl (decide_eq_false b13) (N rfl rfl (decide_eq_false b13) (C rfl (Pf _ rfl rfl (decide_eq_false b13) rfl (V rfl rfl (N rfl rfl rfl (N rfl rfl rfl (N rfl rfl rfl (N rfl rfl rfl (N rfl rfl rfl (C rfl (Pf _ rfl rfl rfl rfl (V rfl rfl (N rfl rfl rfl (N rfl rfl rfl (N rfl rfl rfl (N rfl rfl rfl (C rfl (Pf _ rfl rfl rfl rfl ?_))))))))))))))))))))
 refine A rfl rfl ?_
 refine rt_ ?_
 refine Rr (Res.one rfl rfl) ?_ m9
 have hR : R_ref00_Within v m = false := by unfold R_ref00_Within; rw [if_pos b11, if_pos b12, if_neg b13]
 exact (congrArg Tref00_Within hR).symm
 refine N rfl rfl (decide_eq_false b12) (N rfl rfl (decide_eq_false b12) (N rfl rfl (decide_eq_false b12) (N rfl rfl (decide_eq_false b12) (N rfl rfl (decide_eq_false b12) (C rfl (Pf _ rfl rfl (decide_eq_false b12) rfl (V rfl rfl (N rfl rfl rfl (N rfl rfl rfl (N rfl rfl rfl (N rfl rfl rfl (C rfl (Pf _ rfl rfl rfl rfl (V rfl rfl (N rfl rfl rfl (N rfl rfl rfl (N rfl rfl rfl (N rfl rfl rfl (N rfl rfl rfl ?_)))))))))))))))))))
 refine C rfl (Pf _ rfl rfl rfl rfl (V rfl rfl (N rfl rfl rfl (N rfl rfl rfl (N rfl rfl rfl (N rfl rfl rfl (C rfl (Pf _ rfl rfl rfl rfl (A rfl rfl ?_)))))))))
 refine rt_ ?_
 refine Rr (Res.one rfl rfl) ?_ m9
 have hR : R_ref00_Within v m = false := by unfold R_ref00_Within; rw [if_pos b11, if_neg b12]
 exact (congrArg Tref00_Within hR).symm
 refine N rfl rfl (decide_eq_false b11) (N rfl rfl (decide_eq_false b11) (N rfl rfl (decide_eq_false b11) (N rfl rfl (decide_eq_false b11) (C rfl (Pf _ rfl rfl (decide_eq_false b11) rfl (V rfl rfl (N rfl rfl rfl (N rfl rfl rfl (N rfl rfl rfl (N rfl rfl rfl (N rfl rfl rfl (C rfl (Pf _ rfl rfl rfl rfl (V rfl rfl (N rfl rfl rfl (N rfl rfl rfl (N rfl rfl rfl (N rfl rfl rfl (C rfl (Pf _ rfl rfl rfl rfl ?_))))))))))))))))))))
 refine V rfl rfl (N rfl rfl rfl (N rfl rfl rfl (N rfl rfl rfl (N rfl rfl rfl (N rfl rfl rfl (C rfl (Pf _ rfl rfl rfl rfl (V rfl rfl (N rfl rfl rfl (N rfl rfl rfl (N rfl rfl rfl (N rfl rfl rfl (C rfl (Pf _ rfl rfl rfl rfl (A rfl rfl ?_)))))))))))))))
 refine rt_ ?_
 refine Rr (Res.one rfl rfl) ?_ m9
 have hR : R_ref00_Within v m = false := by unfold R_ref00_Within; rw [if_neg b11]
 exact (congrArg Tref00_Within hR).symm
def R_vec_Round (n : Int) (d : Int) : Int :=
  if d < 1 then 0 else (if max (max d n) (-n) > 2305843009213693952 then 0 else (if n < -2305843009213693952 then 0 else (if Int.tmod n d < 0 then (if Int.tmod n d + d ≥ d - (Int.tmod n d + d) then Int.tdiv n d - 1 + 1 else Int.tdiv n d - 1) else (if Int.tmod n d ≥ d - (Int.tmod n d) then Int.tdiv n d + 1 else Int.tdiv n d))))
def Tvec_Round (r : Int) : AV := J r
theorem c_vec_Round (n : Int) (d : Int) (hn : -2305843009213693952 ≤ n ∧ n ≤ 2305843009213693952) (hd : d ≤ 2305843009213693952) : PC Tryd.prog 57 [J n, J d] (J (R_vec_Round n d)) := by
 intro H0
 refine ACalls.of_body' (n := 42) rfl rfl rfl rfl ?_
 have m0 := Mono.refl H0
 refine Sr ?_
 refine A rfl rfl ?_
 refine AWP.seq ?_
 refine Sr ?_
 refine V rfl rfl (B rfl rfl rfl rfl (V rfl rfl ?_))
 by_cases b1 : d < 1
 refine N rfl rfl (decide_eq_true b1) (N rfl rfl (decide_eq_true b1) (N rfl rfl (decide_eq_true b1) (N rfl rfl (decide_eq_true b1) (N rfl rfl (decide_eq_true b1) (N rfl rfl (decide_eq_true b1) (C rfl (Pt _ rfl rfl (decide_eq_true b1) rfl (V rfl rfl (N rfl rfl rfl (N rfl rfl rfl (C rfl (Pt _ rfl rfl rfl rfl ?_))))))))))))
 refine ct_ rfl rfl ?_
 refine Sr ?_
 refine A rfl rfl ?_
 refine rt_ ?_
 refine Rr (Res.one rfl rfl) ?_ m0
 have hR : R_vec_Round n d = 0 := by unfold R_vec_Round; rw [if_pos b1]
 exact (congrArg Tvec_Round hR).symm
 refine Y rfl rfl rfl (decide_eq_false b1) (Mv _ rfl rfl (Y rfl rfl rfl (decide_eq_false b1) (Mv _ rfl rfl (Y rfl rfl rfl (decide_eq_false b1) (Mv _ rfl rfl (Y rfl rfl rfl (decide_eq_false b1) (AOp.negP rfl rfl (by omega) (Y rfl rfl rfl (decide_eq_false b1) (AOp.max3 rfl rfl rfl rfl (Y rfl rfl rfl (decide_eq_false b1) (Bi _ rfl rfl rfl rfl (C rfl (Pf _ rfl rfl (decide_eq_false b1) rfl (V rfl rfl ?_))))))))))))))
 by_cases b2 : max (max d n) (-n) > 2305843009213693952
 refine N rfl rfl (decide_eq_true b2) (N rfl rfl (decide_eq_true b2) (C rfl (Pt _ rfl rfl (decide_eq_true b2) rfl ?_)))
 refine ct_ rfl rfl ?_
 refine Sr ?_
 refine A rfl rfl ?_
 refine rt_ ?_
 refine Rr (Res.one rfl rfl) ?_ m0
 have hR : R_vec_Round n d = 0 := by unfold R_vec_Round; rw [if_neg b1, if_pos b2]
 exact (congrArg Tvec_Round hR).symm
 refine Y rfl rfl rfl (decide_eq_false b2) (Mv _ rfl rfl (Y rfl rfl rfl (decide_eq_false b2) (Bi _ rfl rfl rfl rfl (C rfl (Pf _ rfl rfl (decide_eq_false b2) rfl ?_)))))
 refine AOps.nil ?_
 change AWP _ _ _ _ _ _
 by_cases b3 : n < -2305843009213693952
 refine ct_ rfl (decide_eq_true b3) ?_
 refine Sr ?_
 refine A rfl rfl ?_
 refine rt_ ?_
 refine Rr (Res.one rfl rfl) ?_ m0
 have hR : R_vec_Round n d = 0 := by unfold R_vec_Round; rw [if_neg b1, if_neg b2, if_pos b3]
 exact (congrArg Tvec_Round hR).symm
 refine cf_ rfl (decide_eq_false b3) ?_
 refine AWP.skip ?_
 refine AWP.seq ?_
 refine AWP.region_quiet mixed (by kernel_rfl) 8 [] rfl (by kernel_rfl) (Mono H0) (Mono.refl _) ?_
 refine QV rfl rfl (QV rfl rfl (Q rfl (fun _ _ φ ψ => AOp.quoT rfl (φ 21 rfl) (φ 22 rfl) (by omega) (by have := tdiv_rng (d := d) hn (by omega); omega) ⟨rfl, ψ⟩) (QV rfl rfl (QV rfl rfl (Q rfl (fun _ _ φ ψ => AOp.rem rfl (φ 24 rfl) (φ 25 rfl) (by omega) ⟨rfl, ψ⟩) (Q rfl (fun _ _ φ ψ => As _ rfl (φ 23 rfl) ⟨rfl, ψ⟩) (Q rfl (fun _ _ φ ψ => As _ rfl (φ 26 rfl) ⟨rfl, ψ⟩) ?_)))))))
 refine QE.done fun H4 m5 => ?_
 have m6 := m0.trans m5
 refine AWP.seq ?_
 refine AWP.seq ?_
 have hq := tdiv_rng hn (show 1 ≤ d by omega)
 have hr := tmod_rng (n := n) (show 1 ≤ d by omega)
 refine AWP.region rfl ?_
 refine V rfl rfl (B rfl rfl rfl rfl ?_)
 refine AOps.nil ?_
 change AWP _ _ _ _ _ _
 by_cases b7 : Int.tmod n d < 0
 refine ct_ rfl (decide_eq_true b7) ?_
 refine AWP.region rfl ?_
 refine V rfl rfl (B rfl rfl rfl (isub (by omega)) (V rfl rfl (V rfl rfl (B rfl rfl rfl (iadd (by omega)) (A rfl rfl (A rfl rfl ?_))))))
 refine AWP.seq ?_
 refine Sr ?_
 refine V rfl rfl (V rfl rfl (V rfl rfl (B rfl rfl rfl (isub (by omega)) (B rfl rfl rfl rfl ?_))))
 refine AOps.nil ?_
 change AWP _ _ _ _ _ _
 by_cases b8 : Int.tmod n d + d ≥ d - (Int.tmod n d + d)
 refine ct_ rfl (decide_eq_true b8) ?_
 refine AWP.region rfl ?_
 refine V rfl rfl (B rfl rfl rfl (iadd (by omega)) (A rfl rfl ?_))
 refine Sr ?_
 refine V rfl rfl (A rfl rfl ?_)
 refine rt_ ?_
 refine Rr (Res.one rfl rfl) ?_ m6
 have hR : R_vec_Round n d = Int.tdiv n d - 1 + 1 := by unfold R_vec_Round; rw [if_neg b1, if_neg b2, if_neg b3, if_pos b7, if_pos b8]
 exact (congrArg Tvec_Round hR).symm
 refine cf_ rfl (decide_eq_false b8) ?_
 refine AWP.skip ?_
 refine Sr ?_
 refine V rfl rfl (A rfl rfl ?_)
 refine rt_ ?_
 refine Rr (Res.one rfl rfl) ?_ m6
 have hR : R_vec_Round n d = Int.tdiv n d - 1 := by unfold R_vec_Round; rw [if_neg b1, if_neg b2, if_neg b3, if_pos b7, if_neg b8]
 exact (congrArg Tvec_Round hR).symm
 refine cf_ rfl (decide_eq_false b7) ?_
 refine AWP.skip ?_
 refine AWP.seq ?_
 refine Sr ?_
 refine V rfl rfl (V rfl rfl (V rfl rfl (B rfl rfl rfl (isub (by omega)) (B rfl rfl rfl rfl ?_))))
 refine AOps.nil ?_
 change AWP _ _ _ _ _ _
 by_cases b9 : Int.tmod n d ≥ d - (Int.tmod n d)
 refine ct_ rfl (decide_eq_true b9) ?_
 refine AWP.region rfl ?_
 refine V rfl rfl (B rfl rfl rfl (iadd (by omega)) (A rfl rfl ?_))
 refine Sr ?_
 refine V rfl rfl (A rfl rfl ?_)
 refine rt_ ?_
 refine Rr (Res.one rfl rfl) ?_ m6
 have hR : R_vec_Round n d = Int.tdiv n d + 1 := by unfold R_vec_Round; rw [if_neg b1, if_neg b2, if_neg b3, if_neg b7, if_pos b9]
 exact (congrArg Tvec_Round hR).symm
 refine cf_ rfl (decide_eq_false b9) ?_
 refine AWP.skip ?_
 refine Sr ?_
 refine V rfl rfl (A rfl rfl ?_)
 refine rt_ ?_
 refine Rr (Res.one rfl rfl) ?_ m6
 have hR : R_vec_Round n d = Int.tdiv n d := by unfold R_vec_Round; rw [if_neg b1, if_neg b2, if_neg b3, if_neg b7, if_neg b9]
 exact (congrArg Tvec_Round hR).symm
def R_ref02_Round (n : Int) (d : Int) : Int :=
  if d < 1 then 0 else (if d > 2305843009213693952 then 0 else (if n < -2305843009213693952 then 0 else (if n > 2305843009213693952 then 0 else (if Int.tmod n d < 0 then (if Int.tmod n d + d ≥ d - (Int.tmod n d + d) then Int.tdiv n d - 1 + 1 else Int.tdiv n d - 1) else (if Int.tmod n d ≥ d - (Int.tmod n d) then Int.tdiv n d + 1 else Int.tdiv n d)))))
def Tref02_Round (r : Int) : AV := J r
theorem c_ref02_Round (n : Int) (d : Int) (hn : -2305843009213693952 ≤ n ∧ n ≤ 2305843009213693952) (hd : d ≤ 2305843009213693952) : PC Tryd.prog 73 [J n, J d] (J (R_ref02_Round n d)) := by
 intro H0
 refine ACalls.of_body' (n := 42) rfl rfl rfl rfl ?_
 have m0 := Mono.refl H0
 refine Sr ?_
 refine A rfl rfl ?_
 refine AWP.seq ?_
 refine Sr ?_
 refine V rfl rfl (B rfl rfl rfl rfl (V rfl rfl ?_))
 by_cases b1 : d < 1
 refine N rfl rfl (decide_eq_true b1) (N rfl rfl (decide_eq_true b1) (C rfl (Pt _ rfl rfl (decide_eq_true b1) rfl (V rfl rfl (N rfl rfl rfl (N rfl rfl rfl (C rfl (Pt _ rfl rfl rfl rfl (V rfl rfl (N rfl rfl rfl (N rfl rfl rfl (C rfl (Pt _ rfl rfl rfl rfl ?_)))))))))))))
 refine ct_ rfl rfl ?_
 refine Sr ?_
 refine A rfl rfl ?_
 refine rt_ ?_
 refine Rr (Res.one rfl rfl) ?_ m0
 have hR : R_ref02_Round n d = 0 := by unfold R_ref02_Round; rw [if_pos b1]
 exact (congrArg Tref02_Round hR).symm
 refine Y rfl rfl rfl (decide_eq_false b1) (Mv _ rfl rfl (Y rfl rfl rfl (decide_eq_false b1) (Bi _ rfl rfl rfl rfl (C rfl (Pf _ rfl rfl (decide_eq_false b1) rfl (V rfl rfl ?_))))))
 by_cases b2 : d > 2305843009213693952
 refine N rfl rfl (decide_eq_true b2) (N rfl rfl (decide_eq_true b2) (C rfl (Pt _ rfl rfl (decide_eq_true b2) rfl (V rfl rfl (N rfl rfl rfl (N rfl rfl rfl (C rfl (Pt _ rfl rfl rfl rfl ?_))))))))
 refine ct_ rfl rfl ?_
 refine Sr ?_
 refine A rfl rfl ?_
 refine rt_ ?_
 refine Rr (Res.one rfl rfl) ?_ m0
 have hR : R_ref02_Round n d = 0 := by unfold R_ref02_Round; rw [if_neg b1, if_pos b2]
 exact (congrArg Tref02_Round hR).symm
 refine Y rfl rfl rfl (decide_eq_false b2) (Mv _ rfl rfl (Y rfl rfl rfl (decide_eq_false b2) (Bi _ rfl rfl rfl rfl (C rfl (Pf _ rfl rfl (decide_eq_false b2) rfl (V rfl rfl ?_))))))
 by_cases b3 : n < -2305843009213693952
 refine N rfl rfl (decide_eq_true b3) (N rfl rfl (decide_eq_true b3) (C rfl (Pt _ rfl rfl (decide_eq_true b3) rfl ?_)))
 refine ct_ rfl rfl ?_
 refine Sr ?_
 refine A rfl rfl ?_
 refine rt_ ?_
 refine Rr (Res.one rfl rfl) ?_ m0
 have hR : R_ref02_Round n d = 0 := by unfold R_ref02_Round; rw [if_neg b1, if_neg b2, if_pos b3]
 exact (congrArg Tref02_Round hR).symm
 refine Y rfl rfl rfl (decide_eq_false b3) (Mv _ rfl rfl (Y rfl rfl rfl (decide_eq_false b3) (Bi _ rfl rfl rfl rfl (C rfl (Pf _ rfl rfl (decide_eq_false b3) rfl ?_)))))
 refine AOps.nil ?_
 change AWP _ _ _ _ _ _
 by_cases b4 : n > 2305843009213693952
 refine ct_ rfl (decide_eq_true b4) ?_
 refine Sr ?_
 refine A rfl rfl ?_
 refine rt_ ?_
 refine Rr (Res.one rfl rfl) ?_ m0
 have hR : R_ref02_Round n d = 0 := by unfold R_ref02_Round; rw [if_neg b1, if_neg b2, if_neg b3, if_pos b4]
 exact (congrArg Tref02_Round hR).symm
 refine cf_ rfl (decide_eq_false b4) ?_
 refine AWP.skip ?_
 refine Sr ?_
 refine V rfl rfl (V rfl rfl (C rfl (AOp.quoT rfl rfl rfl (by omega) (by have := tdiv_rng (d := d) hn (by omega); omega) (A rfl rfl ?_))))
 refine AWP.seq ?_
 have hq := tdiv_rng hn (show 1 ≤ d by omega)
 have hr := tmod_rng (n := n) (show 1 ≤ d by omega)
 refine AWP.region rfl ?_
 refine V rfl rfl (V rfl rfl (C rfl (AOp.rem rfl rfl rfl (by omega) (A rfl rfl ?_))))
 refine AWP.seq ?_
 refine Sr ?_
 refine V rfl rfl (B rfl rfl rfl rfl ?_)
 refine AOps.nil ?_
 change AWP _ _ _ _ _ _
 by_cases b5 : Int.tmod n d < 0
 refine ct_ rfl (decide_eq_true b5) ?_
 refine Sr ?_
 refine V rfl rfl (V rfl rfl (B rfl rfl rfl (iadd (by omega)) (A rfl rfl ?_)))
 refine AWP.region rfl ?_
 refine V rfl rfl (B rfl rfl rfl (isub (by omega)) (A rfl rfl ?_))
 refine AWP.seq ?_
 refine Sr ?_
 refine V rfl rfl (V rfl rfl (V rfl rfl (B rfl rfl rfl (isub (by omega)) (B rfl rfl rfl rfl ?_))))
 refine AOps.nil ?_
 change AWP _ _ _ _ _ _
 by_cases b6 : Int.tmod n d + d ≥ d - (Int.tmod n d + d)
 refine ct_ rfl (decide_eq_true b6) ?_
 refine AWP.region rfl ?_
 refine V rfl rfl (B rfl rfl rfl (iadd (by omega)) (A rfl rfl ?_))
 refine Sr ?_
 refine V rfl rfl (A rfl rfl ?_)
 refine rt_ ?_
 refine Rr (Res.one rfl rfl) ?_ m0
 have hR : R_ref02_Round n d = Int.tdiv n d - 1 + 1 := by unfold R_ref02_Round; rw [if_neg b1, if_neg b2, if_neg b3, if_neg b4, if_pos b5, if_pos b6]
 exact (congrArg Tref02_Round hR).symm
 refine cf_ rfl (decide_eq_false b6) ?_
 refine AWP.skip ?_
 refine Sr ?_
 refine V rfl rfl (A rfl rfl ?_)
 refine rt_ ?_
 refine Rr (Res.one rfl rfl) ?_ m0
 have hR : R_ref02_Round n d = Int.tdiv n d - 1 := by unfold R_ref02_Round; rw [if_neg b1, if_neg b2, if_neg b3, if_neg b4, if_pos b5, if_neg b6]
 exact (congrArg Tref02_Round hR).symm
 refine cf_ rfl (decide_eq_false b5) ?_
 refine AWP.skip ?_
 refine AWP.seq ?_
 refine Sr ?_
 refine V rfl rfl (V rfl rfl (V rfl rfl (B rfl rfl rfl (isub (by omega)) (B rfl rfl rfl rfl ?_))))
 refine AOps.nil ?_
 change AWP _ _ _ _ _ _
 by_cases b7 : Int.tmod n d ≥ d - (Int.tmod n d)
 refine ct_ rfl (decide_eq_true b7) ?_
 refine AWP.region rfl ?_
 refine V rfl rfl (B rfl rfl rfl (iadd (by omega)) (A rfl rfl ?_))
 refine Sr ?_
 refine V rfl rfl (A rfl rfl ?_)
 refine rt_ ?_
 refine Rr (Res.one rfl rfl) ?_ m0
 have hR : R_ref02_Round n d = Int.tdiv n d + 1 := by unfold R_ref02_Round; rw [if_neg b1, if_neg b2, if_neg b3, if_neg b4, if_neg b5, if_pos b7]
 exact (congrArg Tref02_Round hR).symm
 refine cf_ rfl (decide_eq_false b7) ?_
 refine AWP.skip ?_
 refine Sr ?_
 refine V rfl rfl (A rfl rfl ?_)
 refine rt_ ?_
 refine Rr (Res.one rfl rfl) ?_ m0
 have hR : R_ref02_Round n d = Int.tdiv n d := by unfold R_ref02_Round; rw [if_neg b1, if_neg b2, if_neg b3, if_neg b4, if_neg b5, if_neg b7]
 exact (congrArg Tref02_Round hR).symm
def R_vec_Join (a : BoxT) (b : BoxT) : BoxT :=
  (BoxT.mk (VT.mk (min a.Lo.X b.Lo.X) (min a.Lo.Y b.Lo.Y) (min a.Lo.Z b.Lo.Z)) (VT.mk (max a.Hi.X b.Hi.X) (max a.Hi.Y b.Hi.Y) (max a.Hi.Z b.Hi.Z)))
theorem c_vec_Join (a : BoxT) (b : BoxT) : PC Tryd.prog 76 [.agg [J a.Lo.X, J a.Lo.Y, J a.Lo.Z, J a.Hi.X, J a.Hi.Y, J a.Hi.Z], .agg [J b.Lo.X, J b.Lo.Y, J b.Lo.Z, J b.Hi.X, J b.Hi.Y, J b.Hi.Z]] (.agg [J (((R_vec_Join a b).Lo).X), J (((R_vec_Join a b).Lo).Y), J (((R_vec_Join a b).Lo).Z), J (((R_vec_Join a b).Hi).X), J (((R_vec_Join a b).Hi).Y), J (((R_vec_Join a b).Hi).Z)]) := by
 intro H0
 refine ACalls.of_body' (n := 54) rfl rfl rfl rfl ?_
 have m0 := Mono.refl H0
 refine Sr ?_
 refine C rfl (bx_ (.agg [J a.Lo.X, J a.Lo.Y, J a.Lo.Z, J a.Hi.X, J a.Hi.Y, J a.Hi.Z]) rfl rfl rfl ?_)
 intro i1 H2 n3 h4 k5
 have z6 := Mono.free m0 n3
 have m7 := Mono.new m0 n3 k5
 refine C rfl (bx_ (.agg [J b.Lo.X, J b.Lo.Y, J b.Lo.Z, J b.Hi.X, J b.Hi.Y, J b.Hi.Z]) rfl rfl rfl ?_)
 intro i8 H9 n10 h11 k12
 have e13 := ne_new h4 n10
 have z14 := Mono.free m7 n10
 have h15 := keep k12 (ne_new h4 n10) h4
 have m16 := Mono.new m7 n10 k12
 refine C rfl (al_ rfl tz_43 ?_)
 intro i17 H18 n19 h20 k21
 have e22 := ne_new h15 n19
 have e23 := ne_new h11 n19
 have z24 := Mono.free m16 n19
 have h25 := keep k21 (ne_new h15 n19) h15
 have h26 := keep k21 (ne_new h11 n19) h11
 have m27 := Mono.new m16 n19 k21
 refine AWP.seq ?_
 refine fz_ 2 h25 z6 rfl m27 fun H28 m29 k30 => ?_
 have h31 := (k30 _ (Ne.symm e13)).trans h26
 have h32 := (k30 _ (Ne.symm e22)).trans h20
 refine fz_ 3 h31 z14 rfl m29 fun H33 m34 k35 => ?_
 have h36 := (k35 _ (Ne.symm e23)).trans h32
 refine AWP.region rfl ?_
 refine F rfl rfl fl_43_0 (F rfl rfl fl_23_0 (L rfl rfl ty_3 rfl (F rfl rfl fl_43_0 (F rfl rfl fl_23_0 (L rfl rfl ty_3 rfl (C rfl (AOp.min2 rfl rfl rfl (F rfl rfl fl_43_0 (F rfl rfl fl_23_1 (L rfl rfl ty_3 rfl (F rfl rfl fl_43_0 (F rfl rfl fl_23_1 (L rfl rfl ty_3 rfl (C rfl (AOp.min2 rfl rfl rfl (F rfl rfl fl_43_0 (F rfl rfl fl_23_2 (L rfl rfl ty_3 rfl (F rfl rfl fl_43_0 ?_)))))))))))))))))))
 refine F rfl rfl fl_23_2 (L rfl rfl ty_3 rfl (C rfl (AOp.min2 rfl rfl rfl (C rfl (Bl (cells := [J (min a.Lo.X b.Lo.X), J (min a.Lo.Y b.Lo.Y), J (min a.Lo.Z b.Lo.Z)]) rfl tz_23 pl_23 rfl rfl (C rfl (al_ rfl tz_23 ?_)))))))
 intro i37 H38 n39 h40 k41
 have e42 := ne_new h36 n39
 have z43 := Mono.free m34 n39
 have h44 := keep k41 (ne_new h36 n39) h36
 have m45 := Mono.new m34 n39 k41
 refine C rfl (Sw rfl rfl ts_23 h40 rfl rfl rfl ?_)
 intro H46 h47 k48
 have h49 := keep k48 e42 h44
 have m51 := Mono.set m45 z43 k48
 refine AWP.seq ?_
 refine fz_ 5 h47 z43 rfl m51 fun H52 m53 k54 => ?_
 have h55 := (k54 _ e42).trans h49
 refine AWP.region rfl ?_
 refine F rfl rfl fl_43_1 (F rfl rfl fl_23_0 (L rfl rfl ty_3 rfl (F rfl rfl fl_43_1 (F rfl rfl fl_23_0 (L rfl rfl ty_3 rfl (C rfl (AOp.max2 rfl rfl rfl (F rfl rfl fl_43_1 (F rfl rfl fl_23_1 (L rfl rfl ty_3 rfl (F rfl rfl fl_43_1 (F rfl rfl fl_23_1 (L rfl rfl ty_3 rfl (C rfl (AOp.max2 rfl rfl rfl (F rfl rfl fl_43_1 (F rfl rfl fl_23_2 (L rfl rfl ty_3 rfl (F rfl rfl fl_43_1 ?_)))))))))))))))))))
 refine F rfl rfl fl_23_2 (L rfl rfl ty_3 rfl (C rfl (AOp.max2 rfl rfl rfl (C rfl (Bl (cells := [J (max a.Hi.X b.Hi.X), J (max a.Hi.Y b.Hi.Y), J (max a.Hi.Z b.Hi.Z)]) rfl tz_23 pl_23 rfl rfl (C rfl (al_ rfl tz_23 ?_)))))))
 intro i56 H57 n58 h59 k60
 have e61 := ne_new h55 n58
 have z62 := Mono.free m53 n58
 have h63 := keep k60 (ne_new h55 n58) h55
 have m64 := Mono.new m53 n58 k60
 refine C rfl (Sw rfl rfl ts_23 h59 rfl rfl rfl ?_)
 intro H65 h66 k67
 have h68 := keep k67 e61 h63
 have m70 := Mono.set m64 z62 k67
 refine AWP.seq ?_
 refine fz_ 6 h66 z62 rfl m70 fun H71 m72 k73 => ?_
 have h74 := (k73 _ e61).trans h68
 refine AWP.region rfl ?_
 refine L rfl rfl ty_23 rfl (L rfl rfl ty_23 rfl (C rfl (Bl (cells := [J (min a.Lo.X b.Lo.X), J (min a.Lo.Y b.Lo.Y), J (min a.Lo.Z b.Lo.Z), J (max a.Hi.X b.Hi.X), J (max a.Hi.Y b.Hi.Y), J (max a.Hi.Z b.Hi.Z)]) rfl tz_43 pl_43 rfl rfl (C rfl (Sw rfl rfl ts_43 h74 rfl rfl rfl ?_)))))
 intro H75 h76 k77
 have m79 := Mono.set m72 z24 k77
 refine rt_ ?_
 refine Rr (Res.list1 rfl (.cell (v := .agg [J (min a.Lo.X b.Lo.X), J (min a.Lo.Y b.Lo.Y), J (min a.Lo.Z b.Lo.Z), J (max a.Hi.X b.Hi.X), J (max a.Hi.Y b.Hi.Y), J (max a.Hi.Z b.Hi.Z)]) rfl ty_43 h76 rfl (.nil))) ?_ m79
 have hR : R_vec_Join a b = (BoxT.mk (VT.mk (min a.Lo.X b.Lo.X) (min a.Lo.Y b.Lo.Y) (min a.Lo.Z b.Lo.Z)) (VT.mk (max a.Hi.X b.Hi.X) (max a.Hi.Y b.Hi.Y) (max a.Hi.Z b.Hi.Z))) := rfl
 exact (congrArg (fun r : BoxT => (.agg [J r.Lo.X, J r.Lo.Y, J r.Lo.Z, J r.Hi.X, J r.Hi.Y, J r.Hi.Z] : AV)) hR).symm
def R_ref02_Join (a : BoxT) (b : BoxT) : BoxT :=
  (BoxT.mk (VT.mk (min a.Lo.X b.Lo.X) (min a.Lo.Y b.Lo.Y) (min a.Lo.Z b.Lo.Z)) (VT.mk (max a.Hi.X b.Hi.X) (max a.Hi.Y b.Hi.Y) (max a.Hi.Z b.Hi.Z)))
theorem c_ref02_Join (a : BoxT) (b : BoxT) : PC Tryd.prog 77 [.agg [J a.Lo.X, J a.Lo.Y, J a.Lo.Z, J a.Hi.X, J a.Hi.Y, J a.Hi.Z], .agg [J b.Lo.X, J b.Lo.Y, J b.Lo.Z, J b.Hi.X, J b.Hi.Y, J b.Hi.Z]] (.agg [J (((R_ref02_Join a b).Lo).X), J (((R_ref02_Join a b).Lo).Y), J (((R_ref02_Join a b).Lo).Z), J (((R_ref02_Join a b).Hi).X), J (((R_ref02_Join a b).Hi).Y), J (((R_ref02_Join a b).Hi).Z)]) := by
 intro H0
 refine ACalls.of_body' (n := 50) rfl rfl rfl rfl ?_
 have m0 := Mono.refl H0
 refine Sr ?_
 refine C rfl (bx_ (.agg [J a.Lo.X, J a.Lo.Y, J a.Lo.Z, J a.Hi.X, J a.Hi.Y, J a.Hi.Z]) rfl rfl rfl ?_)
 intro i1 H2 n3 h4 k5
 have z6 := Mono.free m0 n3
 have m7 := Mono.new m0 n3 k5
 refine C rfl (bx_ (.agg [J b.Lo.X, J b.Lo.Y, J b.Lo.Z, J b.Hi.X, J b.Hi.Y, J b.Hi.Z]) rfl rfl rfl ?_)
 intro i8 H9 n10 h11 k12
 have e13 := ne_new h4 n10
 have z14 := Mono.free m7 n10
 have h15 := keep k12 (ne_new h4 n10) h4
 have m16 := Mono.new m7 n10 k12
 refine C rfl (al_ rfl tz_43 ?_)
 intro i17 H18 n19 h20 k21
 have e22 := ne_new h15 n19
 have e23 := ne_new h11 n19
 have z24 := Mono.free m16 n19
 have h25 := keep k21 (ne_new h15 n19) h15
 have h26 := keep k21 (ne_new h11 n19) h11
 have m27 := Mono.new m16 n19 k21
 refine AWP.seq ?_
 refine fz_ 2 h25 z6 rfl m27 fun H28 m29 k30 => ?_
 have h31 := (k30 _ (Ne.symm e13)).trans h26
 have h32 := (k30 _ (Ne.symm e22)).trans h20
 refine fz_ 3 h31 z14 rfl m29 fun H33 m34 k35 => ?_
 have h36 := (k35 _ (Ne.symm e23)).trans h32
 refine AWP.region rfl ?_
 refine F rfl rfl fl_43_0 (F rfl rfl fl_23_0 (L rfl rfl ty_3 rfl (F rfl rfl fl_43_0 (F rfl rfl fl_23_0 (L rfl rfl ty_3 rfl (C rfl (AOp.min2 rfl rfl rfl (F rfl rfl fl_43_0 (F rfl rfl fl_23_1 (L rfl rfl ty_3 rfl (F rfl rfl fl_43_0 (F rfl rfl fl_23_1 (L rfl rfl ty_3 rfl (C rfl (AOp.min2 rfl rfl rfl (F rfl rfl fl_43_0 (F rfl rfl fl_23_2 (L rfl rfl ty_3 rfl (F rfl rfl fl_43_0 ?_)))))))))))))))))))
 refine F rfl rfl fl_23_2 (L rfl rfl ty_3 rfl (C rfl (AOp.min2 rfl rfl rfl (C rfl (Bl (cells := [J (min a.Lo.X b.Lo.X), J (min a.Lo.Y b.Lo.Y), J (min a.Lo.Z b.Lo.Z)]) rfl tz_23 pl_23 rfl rfl (F rfl rfl fl_43_1 (F rfl rfl fl_23_0 (L rfl rfl ty_3 rfl (F rfl rfl fl_43_1 (F rfl rfl fl_23_0 (L rfl rfl ty_3 rfl (C rfl (AOp.max2 rfl rfl rfl (F rfl rfl fl_43_1 (F rfl rfl fl_23_1 (L rfl rfl ty_3 rfl (F rfl rfl fl_43_1 (F rfl rfl fl_23_1 (L rfl rfl ty_3 rfl (C rfl (AOp.max2 rfl rfl rfl ?_)))))))))))))))))))))
 refine F rfl rfl fl_43_1 (F rfl rfl fl_23_2 (L rfl rfl ty_3 rfl (F rfl rfl fl_43_1 (F rfl rfl fl_23_2 (L rfl rfl ty_3 rfl (C rfl (AOp.max2 rfl rfl rfl (C rfl (Bl (cells := [J (max a.Hi.X b.Hi.X), J (max a.Hi.Y b.Hi.Y), J (max a.Hi.Z b.Hi.Z)]) rfl tz_23 pl_23 rfl rfl (C rfl (Bl (cells := [J (min a.Lo.X b.Lo.X), J (min a.Lo.Y b.Lo.Y), J (min a.Lo.Z b.Lo.Z), J (max a.Hi.X b.Hi.X), J (max a.Hi.Y b.Hi.Y), J (max a.Hi.Z b.Hi.Z)]) rfl tz_43 pl_43 rfl rfl (C rfl (Sw rfl rfl ts_43 h36 rfl rfl rfl ?_)))))))))))))
 intro H37 h38 k39
 have m41 := Mono.set m34 z24 k39
 refine rt_ ?_
 refine Rr (Res.list1 rfl (.cell (v := .agg [J (min a.Lo.X b.Lo.X), J (min a.Lo.Y b.Lo.Y), J (min a.Lo.Z b.Lo.Z), J (max a.Hi.X b.Hi.X), J (max a.Hi.Y b.Hi.Y), J (max a.Hi.Z b.Hi.Z)]) rfl ty_43 h38 rfl (.nil))) ?_ m41
 have hR : R_ref02_Join a b = (BoxT.mk (VT.mk (min a.Lo.X b.Lo.X) (min a.Lo.Y b.Lo.Y) (min a.Lo.Z b.Lo.Z)) (VT.mk (max a.Hi.X b.Hi.X) (max a.Hi.Y b.Hi.Y) (max a.Hi.Z b.Hi.Z))) := rfl
 exact (congrArg (fun r : BoxT => (.agg [J r.Lo.X, J r.Lo.Y, J r.Lo.Z, J r.Hi.X, J r.Hi.Y, J r.Hi.Z] : AV)) hR).symm
end Go.Proofs.M
namespace Go.Proofs.M
open Go Go.AH
section
variable {v w : VT} {m A B C k : Int}
theorem withinvec_iff : R_vec_Within v m = true ↔ inV m v := by
  unfold R_vec_Within
  split
  · rw [decide_eq_true_eq]; constructor
    · intro h; exact ⟨by omega, by omega, by omega, by omega, by omega, by omega⟩
    · intro h; omega
  · constructor
    · intro h; cases h
    · intro h; omega
theorem withinref00_iff : R_ref00_Within v m = true ↔ inV m v := by
  unfold R_ref00_Within
  constructor
  · intro h
    refine ⟨?_, ?_, ?_, ?_, ?_, ?_⟩ <;> (repeat' split at h) <;> first | omega | (simp at h; omega) | (simp at h)
  · intro h
    rw [if_pos (by omega), if_pos (by omega), if_pos (by omega), if_pos (by omega), if_pos (by omega), decide_eq_true_eq]; omega
theorem withinvec_in (h : R_vec_Within v m = true) : inV m v := withinvec_iff.1 h
theorem withinref00_in (h : R_ref00_Within v m = true) : inV m v := withinref00_iff.1 h
theorem within_same (v : VT) (m : Int) : R_ref00_Within v m = R_vec_Within v m := Bool.eq_iff_iff.2 (withinref00_iff.trans withinvec_iff.symm)
theorem inV_vec_Add (h : inV A v) (g : inV B w) : inV (A + B) (R_vec_Add v w) := by
  obtain ⟨h1, h2, h3, h4, h5, h6⟩ := h; obtain ⟨g1, g2, g3, g4, g5, g6⟩ := g
  exact ⟨by simp only [R_vec_Add]; omega, by simp only [R_vec_Add]; omega, by simp only [R_vec_Add]; omega, by simp only [R_vec_Add]; omega, by simp only [R_vec_Add]; omega, by simp only [R_vec_Add]; omega⟩
theorem inV_vec_Sub (h : inV A v) (g : inV B w) : inV (A + B) (R_vec_Sub v w) := by
  obtain ⟨h1, h2, h3, h4, h5, h6⟩ := h; obtain ⟨g1, g2, g3, g4, g5, g6⟩ := g
  exact ⟨by simp only [R_vec_Sub]; omega, by simp only [R_vec_Sub]; omega, by simp only [R_vec_Sub]; omega, by simp only [R_vec_Sub]; omega, by simp only [R_vec_Sub]; omega, by simp only [R_vec_Sub]; omega⟩
theorem inV_vec_Scale (h : inV A v) (hk : -C ≤ k ∧ k ≤ C) : inV (A * C) (R_vec_Scale v k) := by
  obtain ⟨h1, h2, h3, h4, h5, h6⟩ := h
  have a := mul_rng ⟨h1, h2⟩ hk
  have b := mul_rng ⟨h3, h4⟩ hk
  have c := mul_rng ⟨h5, h6⟩ hk
  exact ⟨a.1, a.2, b.1, b.2, c.1, c.2⟩
theorem add_same (v w : VT) : R_ref02_Add v w = R_vec_Add v w := rfl
theorem scale_same (v : VT) (k : Int) : R_ref02_Scale v k = R_vec_Scale v k := rfl
theorem inV_ref02_Add (h : inV A v) (g : inV B w) : inV (A + B) (R_ref02_Add v w) := inV_vec_Add h g
theorem inV_ref02_Scale (h : inV A v) (hk : -C ≤ k ∧ k ≤ C) : inV (A * C) (R_ref02_Scale v k) := inV_vec_Scale h hk
end
def rnd (n d : Int) : Int := (2 * n + d) / (2 * d)
theorem rnd_iff {n d q : Int} (hd : 1 ≤ d) : rnd n d = q ↔ 2 * d * q ≤ 2 * n + d ∧ 2 * n + d < 2 * d * q + 2 * d := by
  have h1 := Int.emod_add_mul_ediv (2 * n + d) (2 * d)
  have h2 := Int.emod_nonneg (2 * n + d) (show 2 * d ≠ 0 by omega)
  have h3 := Int.emod_lt_of_pos (2 * n + d) (show 0 < 2 * d by omega)
  unfold rnd
  constructor
  · intro e; rw [e] at h1; omega
  · rintro ⟨g1, g2⟩
    have ha : 2 * d * ((2 * n + d) / (2 * d) - q) < 2 * d * 1 := by rw [Int.mul_sub]; omega
    have hb : 2 * d * (-1) < 2 * d * ((2 * n + d) / (2 * d) - q) := by rw [Int.mul_sub]; omega
    have ha := Int.lt_of_mul_lt_mul_left ha (by omega)
    have hb := Int.lt_of_mul_lt_mul_left hb (by omega)
    omega
theorem tmod_cases {n d : Int} (hd : 1 ≤ d) : n.tmod d + d * n.tdiv d = n ∧ -d < n.tmod d ∧ n.tmod d < d := ⟨Int.tmod_add_mul_tdiv n d, tmod_rng hd⟩
theorem vround_eq {n d : Int} (hn : -2305843009213693952 ≤ n ∧ n ≤ 2305843009213693952) (h1 : 1 ≤ d) (hd : d ≤ 2305843009213693952) : R_vec_Round n d = rnd n d := by
  obtain ⟨e, r1, r2⟩ := tmod_cases (n := n) h1
  symm
  unfold R_vec_Round
  rw [if_neg (by omega), if_neg (by omega), if_neg (by omega), rnd_iff h1]
  have k1 : 2 * d * (n.tdiv d - 1 + 1) = 2 * (d * n.tdiv d) := by rw [show n.tdiv d - 1 + 1 = n.tdiv d by omega, Int.mul_assoc]
  have k2 : 2 * d * (n.tdiv d - 1) = 2 * (d * n.tdiv d) - 2 * d := by rw [Int.mul_sub, Int.mul_assoc]; omega
  have k3 : 2 * d * (n.tdiv d + 1) = 2 * (d * n.tdiv d) + 2 * d := by rw [Int.mul_add, Int.mul_assoc]; omega
  have k4 : 2 * d * n.tdiv d = 2 * (d * n.tdiv d) := Int.mul_assoc _ _ _
  split <;> split <;> omega
theorem rround_eq {n d : Int} (hn : -2305843009213693952 ≤ n ∧ n ≤ 2305843009213693952) (h1 : 1 ≤ d) (hd : d ≤ 2305843009213693952) : R_ref02_Round n d = rnd n d := by
  rw [← vround_eq hn h1 hd]
  unfold R_vec_Round R_ref02_Round
  rw [if_neg (show ¬ d < 1 by omega), if_neg (show ¬ d > 2305843009213693952 by omega), if_neg (show ¬ n < -2305843009213693952 by omega), if_neg (show ¬ n > 2305843009213693952 by omega), if_neg (show ¬ d < 1 by omega), if_neg (show ¬ max (max d n) (-n) > 2305843009213693952 by omega), if_neg (show ¬ n < -2305843009213693952 by omega)]
theorem rnd_rng {n d B : Int} (hn : -B ≤ n ∧ n ≤ B) (h1 : 1 ≤ d) : -B ≤ rnd n d ∧ rnd n d ≤ B := by
  have h := (rnd_iff (n := n) (q := rnd n d) h1).1 rfl
  have h3 : 2 * d * (rnd n d - B) < 2 * d * 1 := by
    rw [Int.mul_sub]
    have : (2 * d - 2) * B ≥ 0 := Int.mul_nonneg (by omega) (by omega)
    rw [Int.sub_mul] at this
    omega
  have h4 : 2 * d * (-1) < 2 * d * (rnd n d + B) := by
    rw [Int.mul_add]
    have : (2 * d - 2) * B ≥ 0 := Int.mul_nonneg (by omega) (by omega)
    rw [Int.sub_mul] at this
    omega
  have := Int.lt_of_mul_lt_mul_left h3 (by omega)
  have := Int.lt_of_mul_lt_mul_left h4 (by omega)
  omega
theorem vround_rng {n d B : Int} (hn : -B ≤ n ∧ n ≤ B) (hB : B ≤ 2305843009213693952) (hd : d ≤ 2305843009213693952) : -B ≤ R_vec_Round n d ∧ R_vec_Round n d ≤ B := by
  by_cases h : 1 ≤ d
  · rw [vround_eq (by omega) h hd]; exact rnd_rng hn h
  · unfold R_vec_Round; rw [if_pos (by omega)]; omega
theorem round_same {n d : Int} (hn : -2305843009213693952 ≤ n ∧ n ≤ 2305843009213693952) (hd : d ≤ 2305843009213693952) : R_ref02_Round n d = R_vec_Round n d := by
  by_cases h : 1 ≤ d
  · rw [vround_eq hn h hd, rround_eq hn h hd]
  · unfold R_ref02_Round R_vec_Round; rw [if_pos (by omega), if_pos (by omega)]
theorem rround_rng {n d B : Int} (hn : -B ≤ n ∧ n ≤ B) (hB : B ≤ 2305843009213693952) (hd : d ≤ 2305843009213693952) : -B ≤ R_ref02_Round n d ∧ R_ref02_Round n d ≤ B := by
  rw [round_same (by omega) hd]; exact vround_rng hn hB hd
def minL (l : List Int) : Int := l.foldl min (at_ l 0)
def maxL (l : List Int) : Int := l.foldl max (at_ l 0)
theorem take_step {α : Type} [Inhabited α] {l : List α} {i : Int} (h0 : 0 ≤ i) (h1 : i < l.length) : l.take (i + 1).toNat = l.take i.toNat ++ [at_ l i] := by
  have e : (i + 1).toNat = i.toNat + 1 := by omega
  have h : i.toNat < l.length := by omega
  rw [e, List.take_add_one]
  simp [at_, h]
theorem take_all {α : Type} {l : List α} {i : Int} (h1 : (l.length : Int) ≤ i) : l.take i.toNat = l := List.take_of_length_le (by omega)
theorem at_mem {α : Type} [Inhabited α] {l : List α} {i : Int} (h0 : 0 ≤ i) (h1 : i < l.length) : at_ l i ∈ l := by
  have h : i.toNat < l.length := by omega
  simp [at_, h]
theorem mem_at {α : Type} [Inhabited α] {l : List α} {x : α} (h : x ∈ l) : ∃ i : Int, 0 ≤ i ∧ i < l.length ∧ at_ l i = x := by
  obtain ⟨k, h1, h2⟩ := List.getElem_of_mem h
  exact ⟨k, by omega, by omega, by simp [at_, h1, h2]⟩
theorem fold_step {f : Int → Int → Int} {l : List Int} {i x : Int} (h0 : 0 ≤ i) (h1 : i < l.length) : f ((l.take i.toNat).foldl f x) (at_ l i) = (l.take (i + 1).toNat).foldl f x := by
  rw [take_step h0 h1, List.foldl_append]; rfl
theorem fold_one {f : Int → Int → Int} {l : List Int} (hf : ∀ x, f x x = x) (h1 : 1 ≤ l.length) : at_ l 0 = (l.take (1 : Int).toNat).foldl f (at_ l 0) := by
  cases l with
  | nil => simp at h1
  | cons a l => simp [at_, hf]
theorem fold_all {f : Int → Int → Int} {l : List Int} {i x : Int} (h : (l.length : Int) ≤ i) : (l.take i.toNat).foldl f x = l.foldl f x := by rw [take_all h]
theorem fa_step {p : Int → Prop} {i : Int} (h : ∀ j : Int, 0 ≤ j → j < i → p j) (hi : p i) : ∀ j : Int, 0 ≤ j → j < i + 1 → p j := by
  intro j h1 h2
  by_cases e : j = i
  · subst e; exact hi
  · exact h j h1 (by omega)
end Go.Proofs.M
