/- A part of the proof that a law of the edges and fans of faces answers true for every input of its bulk: own work, by an AI agent. -/
import Derived.Test.YtfgfalidpbbkhaaAH11
import Derived.Maps.RangeRun
set_option linter.unusedVariables false
set_option linter.unusedSimpArgs false
namespace Go.AH
open Go Go.Maps Go.ChangeMaps

section
variable {P : Program} {n : Nat} {f : Nat → AV} {H : Heap} {K : (Nat → AV) → Heap → Prop} {ty : TypeId} {pos : String} {after : Array Edge} {guard : Option (Nat × Bool)} {d : Nat}

theorem AOp.values {op : Op} (hn : Nat.ble (d + 1) n = true)
    (h : ∀ μ a w, SR n w μ f H a → ∃ x H' v w' μ', (execOp a.eval ⟨some d, op, ty, pos, after, guard⟩).run P w = .ok (.value v) w' ∧ Ext w μ H w' μ' H' ∧ HR w' μ' H' ∧ VR w' μ' H' x v ∧ K (upd f d x) H') :
    AOp P n ⟨some d, op, ty, pos, after, guard⟩ K f H := by
  intro μ a w hs Q
  obtain ⟨x, H', v, w', μ', h1, h2, h3, h4, hK⟩ := h μ a w hs
  unfold Oper.wp
  rw [h1]
  exact ⟨μ', _, H', hs.put h2 h3 hn h4, h2, hK⟩

theorem newiter {w : World} {μ : Nat → Nat} (hr : HR w μ H) {id m k : Nat} {es : List (AV × AV)} (hid : H id = none ∨ H id = some .res) (hm : H m = some (.map es)) :
    HR { w with heap := w.heap.push (.mapIter (some (μ m)) k #[] k) } (updN μ id w.heap.size) (updH H id (.iter (.map m k []))) := by
  have he := newblock hr hid (o := .mapIter (some (μ m)) k #[] k) (B := .iter (.map m k []))
  have hmi : m ≠ id := by rintro rfl; rcases hid with h | h <;> rw [h] at hm <;> cases hm
  refine hr.change he (fun i => updH_eq _ _ _ _) (fun i hi => by simp [updN, hi]) ?_ ?_ ?_ ?_ ?_ ?_
  · intro _ i C _ hi hC
    have := hr.lt hi hC
    simp only [updN, if_true]; omega
  · intro i C _ hi hC
    have := hr.lt hi hC
    rw [Array.getElem?_push, if_neg (Nat.ne_of_lt this)]
  · intro ver c hB; cases hB
  · intro es h; cases h
  · intro es _ _ h; cases h
  · intro it h
    cases h
    refine ⟨by simp [updN, It.obj, hmi], fun m' n' seen' e => ?_⟩
    cases e
    exact ⟨es, by rw [updH_eq, if_neg hmi]; exact hm⟩

theorem AOp.range {t kt et : TypeId} {x : Operand} {m : Nat} {es : List (AV × AV)} (hn : Nat.ble (d + 1) n = true) (hx : ev f x = .map m) (hm : H m = some (.map es)) (ht : P.underlying t = some (.map kt et))
    (hK : ∀ id H', H id = none → H' id = some (.iter (.map m es.length [])) → (∀ i, i ≠ id → H' i = H i) → K (upd f d (.it id)) H') : AOp P n ⟨some d, .range t x, ty, pos, after, guard⟩ K f H :=
  .fresh fun id hid => .value _ _ hn (fun μ a w hs => by
    have h1 := hs.ev x
    rw [hx] at h1
    generalize hzz : a.eval x = zz at h1
    cases h1
    obtain ⟨hd, ents, clock, g1, g2, g3⟩ := hs.hr.maps m es hm
    have hb := hs.hr.born m es ents clock hm g1
    have hc : clock = es.length := by rw [hb.1, g2]
    subst hc
    refine ⟨.pointer (some ⟨w.heap.size, 0, none⟩), { w with heap := w.heap.push (.mapIter (some (μ m)) es.length #[] es.length) }, updN μ id w.heap.size, ?_, newblock hs.hr (.inl hid), newiter hs.hr (.inl hid) hm, ?_⟩
    · simp [execOp, hzz, Instr.range, run_under ht, getObj, Sem.run, g1, newObj]
    · have := VR.iter (w := { w with heap := w.heap.push (.mapIter (some (μ m)) es.length #[] es.length) }) (μ := updN μ id w.heap.size) (H := updH H id (.iter (.map m es.length []))) (id := id) ⟨_, by rw [updH_eq, if_pos rfl]⟩
      simpa [updN] using this) (hK id _ hid (updH_same _ _ _) fun _ h => updH_ne _ _ h)

/-- An iterator has gone on. -/
theorem setiter {w : World} {μ : Nat → Nat} (hr : HR w μ H) {id m k : Nat} {seen seen' : List Nat} (hid : H id = some (.iter (.map m k seen))) :
    Ext w μ H (setBlock w (μ id) (.mapIter (some (μ m)) k seen'.toArray k)) μ (updH H id (.iter (.map m k seen'))) ∧ HR (setBlock w (μ id) (.mapIter (some (μ m)) k seen'.toArray k)) μ (updH H id (.iter (.map m k seen'))) := by
  have hoth : ∀ b, b ≠ μ id → (setBlock w (μ id) (.mapIter (some (μ m)) k seen'.toArray k)).heap[b]? = w.heap[b]? := fun b h => by simp [setBlock, Ne.symm h]
  have hlt := hr.lt hid rfl
  have he : Ext w μ H (setBlock w (μ id) (.mapIter (some (μ m)) k seen'.toArray k)) μ (updH H id (.iter (.map m k seen'))) := by
    refine ⟨by simp [setBlock], fun b h => ⟨?_, ?_⟩, fun i v hk => ?_, fun i v hk ha => ?_, fun i hm => ?_, fun i hm => ?_, ⟨rfl, rfl, rfl, Nat.le_refl _⟩⟩
    · exact hoth b fun e => h.2 ⟨id, _, hid, rfl, e.symm⟩
    · rintro ⟨i, B, h1, h2, h3⟩
      rw [updH_eq] at h1
      by_cases g : i = id
      · subst g; exact h.2 ⟨i, _, hid, rfl, h3⟩
      · rw [if_neg g] at h1; exact h.2 ⟨i, B, h1, h2, h3⟩
    · obtain ⟨B, v', h1, h2, h3⟩ := hk
      by_cases g : i = id
      · subst g
        rw [hid] at h1; cases h1
        cases h2
        exact ⟨_, 0, by rw [updH_eq, if_pos rfl], rfl, h3⟩
      · exact ⟨B, v', by rw [updH_eq, if_neg g]; exact h1, h2, h3⟩
    · obtain ⟨c, ha⟩ := ha
      rw [updH_eq] at ha
      by_cases g : i = id
      · rw [if_pos g] at ha; cases ha
      · rw [if_neg g] at ha
        refine ⟨⟨c, ha⟩, rfl, ?_⟩
        have hne : μ i ≠ μ id := fun e => g (hr.inj i id _ _ ha hid rfl rfl e)
        simp [bsize, setBlock, Ne.symm hne]
    · obtain ⟨es0, hm⟩ := hm
      have g : i ≠ id := by rintro rfl; rw [hid] at hm; cases hm
      exact ⟨⟨es0, by rw [updH_eq, if_neg g]; exact hm⟩, rfl⟩
    · obtain ⟨it, hm⟩ := hm
      by_cases g : i = id
      · exact ⟨⟨_, by rw [updH_eq, if_pos g]⟩, rfl⟩
      · exact ⟨⟨it, by rw [updH_eq, if_neg g]; exact hm⟩, rfl⟩
  refine ⟨he, hr.change he (fun i => updH_eq _ _ _ _) (fun _ _ => rfl) ?_ ?_ ?_ ?_ ?_ ?_⟩
  · intro _ i C g hi hC e
    exact g (hr.inj i id C _ hi hid hC rfl e.symm)
  · intro i C g hi hC
    exact hoth _ fun e => g (hr.inj i id C _ hi hid hC rfl e)
  · intro v c hB; cases hB
  · intro e hB; cases hB
  · intro es _ _ h; cases h
  · intro it h
    cases h
    refine ⟨by simp [setBlock, hlt, It.obj], fun m' n' seen2 e => ?_⟩
    cases e
    obtain ⟨es, h⟩ := (hr.iters id _ hid).2 m k seen rfl
    have g : m ≠ id := by rintro rfl; rw [hid] at h; cases h
    exact ⟨es, by rw [updH_eq, if_neg g]; exact h⟩

/-- The next entry: one that has not been seen; none, once all have been. -/
theorem AOp.next {x : Operand} {id m : Nat} {seen : List Nat} {es : List (AV × AV)} (hn : Nat.ble (d + 1) n = true) (hx : ev f x = .it id) (hid : H id = some (.iter (.map m es.length seen))) (hm : H m = some (.map es))
    (hno : (∀ j, j < es.length → j ∈ seen) → K (upd f d (.tup [.bool false])) H)
    (hyes : ∀ j e H', es[j]? = some e → j ∉ seen → H' id = some (.iter (.map m es.length (seen ++ [j]))) → (∀ i, i ≠ id → H' i = H i) → K (upd f d (.tup [.bool true, e.1, e.2])) H') : AOp P n ⟨some d, .next x false, ty, pos, after, guard⟩ K f H :=
  .values hn (fun μ a w hs => by
    have h1 := hs.ev x
    rw [hx] at h1
    have hp : a.eval x = .pointer (some ⟨μ id, 0, none⟩) := by
      generalize a.eval x = zz at h1
      cases h1
      rfl
    obtain ⟨hd, ents, clock, g1, g2, g3⟩ := hs.hr.maps m es hm
    have hb := hs.hr.born m es ents clock hm g1
    have hc : clock = es.length := by rw [hb.1, g2]
    subst hc
    obtain ⟨i1, _⟩ := hs.hr.iters id _ hid
    rcases run_next_at (P := P) w ty (μ id) (μ m) es.length es.length seen.toArray ents es.length i1 g1 (fun y hy => by
        obtain ⟨j, hj, rfl⟩ := List.mem_iff_getElem.1 hy
        have hj' : j < ents.size := by simpa using hj
        have := hb.2 j ents[j] (Array.getElem?_eq_getElem hj')
        simp only [Array.getElem_toList]; omega) (Nat.le_refl _) with ⟨r1, r2⟩ | ⟨e, r1, w1, r2, r3⟩
    · refine ⟨_, H, .tuple #[.bool false], w, μ, by simp [execOp, hp, r2], .refl _ _ _, hs.hr, .tup (cells := [.bool false]) rfl ?_, hno fun j hj => ?_⟩
      · intro j x y hx hy
        cases j with
        | zero => simp at hx hy; subst hx hy; exact .bool _
        | succ j => simp at hx
      · have hj' : j < ents.size := by omega
        have := hb.2 j ents[j] (Array.getElem?_eq_getElem hj')
        have hz := Array.eq_empty_of_size_eq_zero r1
        unfold leftOf at hz
        rw [Array.filter_eq_empty_iff] at hz
        have h2 := hz (ents[j]) (by simp)
        simpa [this] using h2
    · -- an entry
      unfold leftOf at r1
      simp only [Array.toList_filter, List.mem_filter, Array.mem_toList_iff] at r1
      obtain ⟨r0, r1⟩ := r1
      obtain ⟨j, hj, rfl⟩ := Array.mem_iff_getElem.1 r0
      have hjb := hb.2 j ents[j] (Array.getElem?_eq_getElem hj)
      have hje : j < es.length := by omega
      have hnot : j ∉ seen := by simpa [hjb] using r1
      obtain ⟨v1, v2⟩ := g3 j _ _ (List.getElem?_eq_getElem hje) (Array.getElem?_eq_getElem hj)
      have hw1 : w1.heap = w.heap := by rcases r2 with rfl | rfl <;> rfl
      obtain ⟨s1, s2⟩ := setiter (w := w1) (seen' := seen ++ [j]) (hs.hr.heap hw1) hid
      have hE : Ext w μ H (setBlock w1 (μ id) (.mapIter (some (μ m)) es.length (seen ++ [j]).toArray es.length)) μ (updH H id (.iter (.map m es.length (seen ++ [j])))) := (Ext.heap hw1 (by rcases r2 with rfl | rfl; exact .refl _; exact ⟨rfl, rfl, rfl, Nat.le_succ _⟩)).trans s1
      have hp2 : seen.toArray.push ents[j].born = (seen ++ [j]).toArray := by rw [hjb]; simp
      rw [hp2] at r3
      refine ⟨_, _, _, _, μ, by simp only [execOp, hp, r3, Sem.run_map, Sem.run_bind, Result.andThen_ok]; rfl, hE, s2, .tup (cells := [.bool true, es[j].1, es[j].2]) rfl ?_, hyes j es[j] _ (List.getElem?_eq_getElem hje) hnot (updH_same _ _ _) fun _ h => updH_ne _ _ h⟩
      intro k x y hx hy
      match k, hx, hy with
      | 0, hx, hy => simp at hx hy; subst hx hy; exact .bool _
      | 1, hx, hy => simp at hx hy; subst hx hy; exact v1.ext hE
      | 2, hx, hy => simp at hx hy; subst hx hy; exact v2.ext hE
      | k + 3, hx, _ => simp at hx)

/-- The round's key and value. -/
theorem AOp.entry {x : Operand} {id m j : Nat} {seen : List Nat} {es : List (AV × AV)} {e : AV × AV} (hn : Nat.ble (d + 1) n = true) (hx : ev f x = .it id) (hid : H id = some (.iter (.map m es.length (seen ++ [j])))) (hm : H m = some (.map es)) (he : es[j]? = some e)
    (hK : K (upd f d (.tup [e.1, e.2])) H) : AOp P n ⟨some d, .entry x, ty, pos, after, guard⟩ K f H :=
  .pureV _ hn (fun μ a w hs => by
    have h1 := hs.ev x
    rw [hx] at h1
    have hp : a.eval x = .pointer (some ⟨μ id, 0, none⟩) := by
      generalize a.eval x = zz at h1
      cases h1
      rfl
    obtain ⟨hd, ents, clock, g1, g2, g3⟩ := hs.hr.maps m es hm
    have hb := hs.hr.born m es ents clock hm g1
    have hc : clock = es.length := by rw [hb.1, g2]
    subst hc
    obtain ⟨i1, _⟩ := hs.hr.iters id _ hid
    have hje : j < es.length := (List.getElem?_eq_some_iff.1 he).1
    have hj : j < ents.size := by omega
    have hjb := hb.2 j ents[j] (Array.getElem?_eq_getElem hj)
    obtain ⟨v1, v2⟩ := g3 j _ _ he (Array.getElem?_eq_getElem hj)
    have hnd : (ents.toList.map (·.born)).Nodup := by
      rw [List.nodup_iff_pairwise_ne, List.pairwise_map, List.pairwise_iff_getElem]
      intro a b ha hb' hab e
      have h1 := hb.2 a ents[a] (Array.getElem?_eq_getElem (by simpa using ha))
      have h2 := hb.2 b ents[b] (Array.getElem?_eq_getElem (by simpa using hb'))
      simp only [Array.getElem_toList] at e
      omega
    have hr : w.heap[μ id]? = some (.mapIter (some (μ m)) es.length (seen.toArray.push ents[j].born) es.length) := by
      rw [i1, hjb]; simp [It.obj]
    have := run_entry_at (P := P) w (μ id) (μ m) es.length seen.toArray ents es.length ents[j] hr g1 (by simp) hnd
    refine ⟨_, by simp only [execOp, hp, this, Sem.run_map, Sem.run_bind, Result.andThen_ok]; rfl, .tup (cells := [e.1, e.2]) rfl ?_⟩
    intro k x y hx hy
    match k, hx, hy with
    | 0, hx, hy => simp at hx hy; subst hx hy; exact v1
    | 1, hx, hy => simp at hx hy; subst hx hy; exact v2
    | k + 2, hx, _ => simp at hx) hK
end
end Go.AH
