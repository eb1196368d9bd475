/- A part of the proof that a law of the edges and fans of faces answers true for every input of its bulk: own work, by an AI agent. -/
import Derived.Test.YtfgfalidpbbkhaaAH5
import Derived.Maps.Keyed
import Derived.DeepKeys5
import Derived.Laws.StructEq
set_option linter.unusedVariables false
set_option linter.unusedSimpArgs false
namespace Go.AH
open Go Go.Maps

/-! ### Plain values -/
def concA : AV → Option Value
  | .int k m => some (.int k m)
  | .bool b => some (.bool b)
  | .str s => some (.string s)
  | _ => none
def conc : AV → Option Value
  | .agg cs => (cs.mapM concA).map fun l => .agg l.toArray
  | v => concA v

theorem concA_VR {w : World} {μ : Nat → Nat} {H : Heap} {x : AV} {v u : Value} (h : VR w μ H x v) (hu : concA x = some u) : v = u := by
  cases h <;> simp [concA] at hu <;> exact hu

theorem concA_inj {x y : AV} {u : Value} (hx : concA x = some u) (hy : concA y = some u) : x = y := by
  cases x <;> simp [concA] at hx <;> subst hx <;> cases y <;> simp [concA] at hy
  · rw [hy.1, hy.2]
  · rw [hy]
  · rw [hy]

theorem mapM_get {xs : List AV} {us : List Value} (h : xs.mapM concA = some us) : xs.length = us.length ∧ ∀ (j : Nat) (x : AV), xs[j]? = some x → ∃ u, us[j]? = some u ∧ concA x = some u := by
  induction xs generalizing us with
  | nil => simp at h; subst h; exact ⟨rfl, fun j x hx => by simp at hx⟩
  | cons a xs ih =>
    simp only [List.mapM_cons, Option.pure_def, Option.bind_eq_bind, Option.bind_eq_some_iff, Option.some.injEq] at h
    obtain ⟨u, h1, us', h2, rfl⟩ := h
    obtain ⟨g1, g2⟩ := ih h2
    refine ⟨by simp [g1], fun j x hx => ?_⟩
    cases j with
    | zero => simp only [List.getElem?_cons_zero, Option.some.injEq] at hx; subst hx; exact ⟨u, rfl, h1⟩
    | succ j => simpa using g2 j x (by simpa using hx)

theorem conc_VR {w : World} {μ : Nat → Nat} {H : Heap} {x : AV} {v u : Value} (h : VR w μ H x v) (hu : conc x = some u) : v = u := by
  by_cases hx : ∃ cs, x = .agg cs
  · obtain ⟨cells, rfl⟩ := hx
    cases h with
    | agg hl h =>
      rename_i vs
      simp only [conc, Option.map_eq_some_iff] at hu
      obtain ⟨us, h1, rfl⟩ := hu
      obtain ⟨g1, g2⟩ := mapM_get h1
      congr 1
      apply Array.ext
      · simp; omega
      · intro j hj1 hj2
        have hj : j < cells.length := by omega
        obtain ⟨u, e1, e2⟩ := g2 j _ (List.getElem?_eq_getElem hj)
        have := concA_VR (h j _ _ (List.getElem?_eq_getElem hj) (Array.getElem?_eq_getElem hj1)) e2
        rw [this]
        simp only [List.getElem?_eq_some_iff] at e1
        obtain ⟨_, e1⟩ := e1
        simp [← e1]
  · have : conc x = concA x := by cases x <;> first | rfl | exact absurd ⟨_, rfl⟩ hx
    rw [this] at hu
    exact concA_VR h hu

theorem conc_inj {x y : AV} {u : Value} (hx : conc x = some u) (hy : conc y = some u) : x = y := by
  have agg : ∀ {cs : List AV} {z : Value}, conc (.agg cs) = some z → ∃ us, cs.mapM concA = some us ∧ z = .agg us.toArray := by
    intro cs z h
    simp only [conc, Option.map_eq_some_iff] at h
    obtain ⟨us, h1, h2⟩ := h
    exact ⟨us, h1, h2.symm⟩
  have notagg : ∀ {a : AV} {us : List Value}, concA a ≠ some (.agg us.toArray) := by
    intro a us h; cases a <;> simp [concA] at h
  have other : ∀ a : AV, (∀ cs, a ≠ .agg cs) → conc a = concA a := by
    intro a h; cases a <;> first | rfl | exact absurd rfl (h _)
  by_cases h1 : ∃ cs, x = .agg cs
  · obtain ⟨cs, rfl⟩ := h1
    obtain ⟨us, e1, rfl⟩ := agg hx
    by_cases h2 : ∃ ds, y = .agg ds
    · obtain ⟨ds, rfl⟩ := h2
      obtain ⟨vs, e2, e3⟩ := agg hy
      have : us = vs := by simpa using e3
      subst this
      obtain ⟨g1, g2⟩ := mapM_get e1
      obtain ⟨k1, k2⟩ := mapM_get e2
      congr 1
      apply List.ext_getElem?
      intro j
      cases hj : cs[j]? with
      | none =>
        rw [List.getElem?_eq_none_iff] at hj
        exact (List.getElem?_eq_none (by omega)).symm
      | some a =>
        have hjl : j < ds.length := by
          have := (List.getElem?_eq_some_iff.1 hj).1
          omega
        obtain ⟨u, f1, f2⟩ := g2 j a hj
        obtain ⟨v, f3, f4⟩ := k2 j _ (List.getElem?_eq_getElem hjl)
        rw [f1] at f3; cases f3
        rw [List.getElem?_eq_getElem hjl, concA_inj f2 f4]
    · rw [other y (fun ds e => h2 ⟨ds, e⟩)] at hy
      exact absurd hy notagg
  · rw [other x (fun cs e => h1 ⟨cs, e⟩)] at hx
    by_cases h2 : ∃ ds, y = .agg ds
    · obtain ⟨ds, rfl⟩ := h2
      obtain ⟨vs, e2, rfl⟩ := agg hy
      exact absurd hx notagg
    · rw [other y (fun ds e => h2 ⟨ds, e⟩)] at hy
      exact concA_inj hx hy

/-- A value that can be a key of this type. -/
def KOK (P : Program) (t : TypeId) (k : AV) : Prop := ∃ v l, conc k = some v ∧ keyOf P t v = some l

/-! ### Maps -/
open Classical in
noncomputable def mget (es : List (AV × AV)) (k : AV) : Option AV := (es.find? fun e => decide (e.1 = k)).map (·.2)
open Classical in
noncomputable def mput (es : List (AV × AV)) (k v : AV) : List (AV × AV) :=
  if (mget es k).isSome then es.map fun e => if e.1 = k then (k, v) else e else es ++ [(k, v)]

theorem mget_some {es : List (AV × AV)} (hd : es.Pairwise fun a b => a.1 ≠ b.1) {j : Nat} {e : AV × AV} (h : es[j]? = some e) : mget es e.1 = some e.2 := by
  induction es generalizing j with
  | nil => simp at h
  | cons a es ih =>
    rw [List.pairwise_cons] at hd
    unfold mget
    cases j with
    | zero => simp only [List.getElem?_cons_zero, Option.some.injEq] at h; subst h; simp
    | succ j =>
      have h' : es[j]? = some e := by simpa using h
      have hne : a.1 ≠ e.1 := hd.1 e (List.mem_of_getElem? h')
      rw [List.find?_cons_of_neg (by simp [hne])]
      exact ih hd.2 h'

theorem mget_none {es : List (AV × AV)} {k : AV} (h : ∀ e ∈ es, e.1 ≠ k) : mget es k = none := by
  unfold mget
  rw [List.find?_eq_none.2 (fun e he => by simp [h e he])]
  rfl

theorem mget_mem {es : List (AV × AV)} {k v : AV} (h : mget es k = some v) : (k, v) ∈ es := by
  unfold mget at h
  simp only [Option.map_eq_some_iff] at h
  obtain ⟨e, h1, h2⟩ := h
  have h3 := List.find?_some h1
  simp only [decide_eq_true_eq] at h3
  have := List.mem_of_find?_eq_some h1
  subst h2 h3
  exact this

def zeroAV : Value → AV
  | .agg cs => .agg (cs.toList.map cst)
  | v => cst v
theorem zeroAV_VR (w : World) (μ : Nat → Nat) (H : Heap) (v : Value) : VR w μ H (zeroAV v) v := by
  unfold zeroAV
  split
  · refine .agg (by simp) fun j x y hx hy => ?_
    simp only [List.getElem?_map, Array.getElem?_toList, Option.map_eq_some_iff] at hx
    obtain ⟨z, h1, rfl⟩ := hx
    rw [h1] at hy; cases hy
    exact cst_VR w μ H y
  · exact cst_VR w μ H v

def TZeroV (P : Program) (t : TypeId) (z : AV) : Prop := ∃ i v, P.info? t = some i ∧ i.zero = some v ∧ zeroAV v = z
def TMap (P : Program) (t kt et : TypeId) : Prop := P.underlying t = some (.map kt et) ∧ Keyed P kt

section
variable {P : Program} {n : Nat} {f : Nat → AV} {H : Heap} {K : (Nat → AV) → Heap → Prop} {ty : TypeId} {pos : String} {after : Array Edge} {guard : Option (Nat × Bool)} {d : Nat}

theorem AOp.makeMap_at {t : TypeId} (id : Nat) (hid : H id = none ∨ H id = some .res) (hn : Nat.ble (d + 1) n = true) (hK : K (upd f d (.map id)) (updH H id (.map []))) :
    AOp P n ⟨some d, .makeMap t none, ty, pos, after, guard⟩ K f H :=
  .value _ _ hn (fun μ a w hs =>
    ⟨.map (some w.heap.size), { w with heap := w.heap.push (.map #[] 0) }, updN μ id w.heap.size, by simp [execOp, Instr.makeMap], newblock hs.hr hid, newmap hs.hr hid,
      by have := VR.map (w := { w with heap := w.heap.push (.map #[] 0) }) (μ := updN μ id w.heap.size) (H := updH H id (.map [])) (id := id) ⟨[], by rw [updH_eq, if_pos rfl]⟩
         simpa [updN] using this⟩) hK

theorem AOp.makeMap {t : TypeId} (hn : Nat.ble (d + 1) n = true) (hK : ∀ id H', H id = none → H' id = some (.map []) → (∀ i, i ≠ id → H' i = H i) → K (upd f d (.map id)) H') :
    AOp P n ⟨some d, .makeMap t none, ty, pos, after, guard⟩ K f H :=
  .fresh fun id hid => .makeMap_at id (.inl hid) hn (hK id _ hid (updH_same _ _ _) fun _ h => updH_ne _ _ h)

/-- What the search for a key finds. -/
theorem find_key {w : World} {μ : Nat → Nat} (hr : HR w μ H) {id : Nat} {es : List (AV × AV)} (hid : H id = some (.map es)) {kt : TypeId} (hk : Keyed P kt) {kv : AV} {x : Value} (hx : VR w μ H kv x) (hkv : KOK P kt kv) (hes : ∀ e ∈ es, KOK P kt e.1) :
    ∃ (ents : Array MapEntry) (clock : Nat) (l : Lit), w.heap[μ id]? = some (.map ents clock) ∧ keyOf P kt x = some l ∧ es.length = ents.size ∧ (∀ (j : Nat) (x : AV × AV) (e : MapEntry), es[j]? = some x → ents[j]? = some e → VR w μ H x.1 e.key ∧ VR w μ H x.2 e.val) ∧
      (((Instr.findKey kt x ents.toList).run P w = .ok none w ∧ ∀ e ∈ es, e.1 ≠ kv) ∨
       ∃ j e p, (Instr.findKey kt x ents.toList).run P w = .ok (some (j, e.val)) w ∧ ents[j]? = some e ∧ e.key = x ∧ es[j]? = some p ∧ p.1 = kv ∧ VR w μ H p.2 e.val) := by
  obtain ⟨hd, ents, clock, h1, h2, h3⟩ := hr.maps id es hid
  obtain ⟨v, l, k1, k2⟩ := hkv
  have hxv := conc_VR hx k1
  subst hxv
  have hall : ∀ e ∈ ents.toList, ∃ l, keyOf P kt e.key = some l := by
    intro e he
    obtain ⟨j, hj, rfl⟩ := List.mem_iff_getElem.1 he
    have hj1 : j < ents.size := by simpa using hj
    have hj2 : j < es.length := by omega
    obtain ⟨u, l', c1, c2⟩ := hes es[j] (List.getElem_mem hj2)
    have := conc_VR (h3 j _ _ (List.getElem?_eq_getElem hj2) (Array.getElem?_eq_getElem hj1)).1 c1
    simp only [Array.getElem_toList]
    rw [this]; exact ⟨l', c2⟩
  refine ⟨ents, clock, l, h1, k2, h2, h3, ?_⟩
  rcases hk.find w k2 ents.toList hall with ⟨f1, f2⟩ | ⟨j, e, f1, f2, f3⟩
  · refine .inl ⟨f1, fun e he heq => ?_⟩
    obtain ⟨j, hj, rfl⟩ := List.mem_iff_getElem.1 he
    have hj1 : j < ents.size := by omega
    have hv := (h3 j _ _ (List.getElem?_eq_getElem hj) (Array.getElem?_eq_getElem hj1)).1
    rw [heq] at hv
    exact f2 ents[j] (by simp) (conc_VR hv k1)
  · have hj1 : j < ents.size := by
      have := (List.getElem?_eq_some_iff.1 f2).1
      simpa using this
    have hj2 : j < es.length := by omega
    have hej : ents[j]? = some e := by simpa using f2
    obtain ⟨g1, g2⟩ := h3 j _ _ (List.getElem?_eq_getElem hj2) hej
    obtain ⟨u, l', c1, c2⟩ := hes es[j] (List.getElem_mem hj2)
    have := conc_VR g1 c1
    refine .inr ⟨j, e, es[j], f1, hej, f3, List.getElem?_eq_getElem hj2, ?_, g2⟩
    rw [← f3, this] at k1
    exact conc_inj c1 k1

theorem AOp.lookup {t kt et : TypeId} {x ix : Operand} {id : Nat} {es : List (AV × AV)} {kv z : AV} (hn : Nat.ble (d + 1) n = true) (hx : ev f x = .map id) (hid : H id = some (.map es)) (hk : ev f ix = kv) (hkv : KOK P kt kv) (hes : ∀ e ∈ es, KOK P kt e.1)
    (ht : TMap P t kt et) (hz : TZeroV P et z) (hK : K (upd f d ((mget es kv).getD z)) H) : AOp P n ⟨some d, .lookup t x ix false, ty, pos, after, guard⟩ K f H :=
  .pureV _ hn (fun μ a w hs => by
    have h1 := hs.ev x; rw [hx] at h1
    have h2 := hs.ev ix; rw [hk] at h2
    obtain ⟨i, zv, z1, z2, rfl⟩ := hz
    obtain ⟨ents, clock, l, g1, g2, _, _, g3⟩ := find_key (P := P) hs.hr hid ht.2 h2 hkv hes
    generalize hzz : a.eval x = zz at h1
    cases h1
    obtain ⟨hd, _⟩ := hs.hr.maps id es hid
    have hobj : (getObj (μ id)).run P w = .ok (.map ents clock) w := by simp [getObj, Sem.run, g1]
    rcases g3 with ⟨f1, f2⟩ | ⟨j, e, p, f1, f2, f3, f4, f5, f6⟩
    · rw [mget_none f2]
      refine ⟨zv, ?_, zeroAV_VR w μ H zv⟩
      simp [execOp, hzz, Instr.lookup, run_under ht.1, hobj, ht.2.check w _ g2, f1, zeroValue, run_info z1, z2]
    · rw [← f5, mget_some hd f4]
      refine ⟨e.val, ?_, f6⟩
      simp [execOp, hzz, Instr.lookup, run_under ht.1, hobj, ht.2.check w _ g2, f1]) hK

theorem AOp.lookupOk {t kt et : TypeId} {x ix : Operand} {id : Nat} {es : List (AV × AV)} {kv z : AV} (hn : Nat.ble (d + 1) n = true) (hx : ev f x = .map id) (hid : H id = some (.map es)) (hk : ev f ix = kv) (hkv : KOK P kt kv) (hes : ∀ e ∈ es, KOK P kt e.1)
    (ht : TMap P t kt et) (hz : TZeroV P et z) (hK : K (upd f d (.tup [(mget es kv).getD z, .bool (mget es kv).isSome])) H) : AOp P n ⟨some d, .lookup t x ix true, ty, pos, after, guard⟩ K f H :=
  .pureV _ hn (fun μ a w hs => by
    have h1 := hs.ev x; rw [hx] at h1
    have h2 := hs.ev ix; rw [hk] at h2
    obtain ⟨i, zv, z1, z2, rfl⟩ := hz
    obtain ⟨ents, clock, l, g1, g2, _, _, g3⟩ := find_key (P := P) hs.hr hid ht.2 h2 hkv hes
    generalize hzz : a.eval x = zz at h1
    cases h1
    obtain ⟨hd, _⟩ := hs.hr.maps id es hid
    have hobj : (getObj (μ id)).run P w = .ok (.map ents clock) w := by simp [getObj, Sem.run, g1]
    have two : ∀ {p q : AV} {u v : Value}, VR w μ H p u → VR w μ H q v → VR w μ H (.tup [p, q]) (.tuple #[u, v]) := fun hp hq => .tup rfl fun j x y hx hy => by
      match j with
      | 0 => simp at hx hy; subst hx hy; exact hp
      | 1 => simp at hx hy; subst hx hy; exact hq
      | j + 2 => simp at hx
    rcases g3 with ⟨f1, f2⟩ | ⟨j, e, p, f1, f2, f3, f4, f5, f6⟩
    · rw [mget_none f2]
      refine ⟨.tuple #[zv, .bool false], ?_, two (zeroAV_VR w μ H zv) (.bool _)⟩
      simp [execOp, hzz, Instr.lookup, run_under ht.1, hobj, ht.2.check w _ g2, f1, zeroValue, run_info z1, z2]
    · rw [← f5, mget_some hd f4]
      refine ⟨.tuple #[e.val, .bool true], ?_, two f6 (.bool _)⟩
      simp [execOp, hzz, Instr.lookup, run_under ht.1, hobj, ht.2.check w _ g2, f1]) hK

theorem mput_pairwise {es : List (AV × AV)} (hd : es.Pairwise fun a b => a.1 ≠ b.1) (k v : AV) : (mput es k v).Pairwise fun a b => a.1 ≠ b.1 := by
  unfold mput
  split
  · refine List.pairwise_map.2 (hd.imp fun {a b} h => ?_)
    split
    · rename_i h1
      split
      · rename_i h2; exact absurd (h1.trans h2.symm) h
      · rename_i h2; exact fun e => h2 e.symm
    · rename_i h1
      split
      · rename_i h2; exact h1
      · exact h
  · rename_i hn
    refine List.pairwise_append.2 ⟨hd, by simp, fun a ha b hb => ?_⟩
    simp only [List.mem_singleton] at hb
    subst hb
    intro he
    apply hn
    obtain ⟨j, hj, rfl⟩ := List.mem_iff_getElem.1 ha
    have := mget_some hd (List.getElem?_eq_getElem hj)
    rw [he] at this
    simp [this]

/-- A map has changed. -/
theorem setmap {w : World} {μ : Nat → Nat} (hr : HR w μ H) {id : Nat} {es es' : List (AV × AV)} (hid : H id = some (.map es)) {ents : Array MapEntry} {clock : Nat} (hd : es'.Pairwise fun a b => a.1 ≠ b.1) (hl : es'.length = ents.size)
    (hb : clock = ents.size ∧ ∀ (j : Nat) (e : MapEntry), ents[j]? = some e → e.born = j)
    (hv : ∀ (j : Nat) (x : AV × AV) (e : MapEntry), es'[j]? = some x → ents[j]? = some e → VR w μ H x.1 e.key ∧ VR w μ H x.2 e.val) :
    Ext w μ H { w with heap := w.heap.setIfInBounds (μ id) (.map ents clock) } μ (updH H id (.map es')) ∧ HR { w with heap := w.heap.setIfInBounds (μ id) (.map ents clock) } μ (updH H id (.map es')) := by
  have hoth : ∀ b, b ≠ μ id → (w.heap.setIfInBounds (μ id) (.map ents clock))[b]? = w.heap[b]? := fun b h => by simp [Ne.symm h]
  have hlt := hr.lt hid rfl
  have he : Ext w μ H { w with heap := w.heap.setIfInBounds (μ id) (.map ents clock) } μ (updH H id (.map es')) := by
    refine ⟨by simp, fun b h => ⟨?_, ?_⟩, fun i v hk => ?_, fun i v hk ha => ?_, fun i hm => ?_, fun i hm => ?_, ⟨rfl, rfl, rfl, Nat.le_refl _⟩⟩
    · exact hoth b fun e => h.2 ⟨id, _, hid, rfl, e.symm⟩
    · rintro ⟨i, B, h1, h2, h3⟩
      rw [updH_eq] at h1
      by_cases g : i = id
      · subst g; exact h.2 ⟨i, _, hid, rfl, h3⟩
      · rw [if_neg g] at h1; exact h.2 ⟨i, B, h1, h2, h3⟩
    · obtain ⟨B, v', h1, h2, h3⟩ := hk
      by_cases g : i = id
      · subst g
        rw [hid] at h1; cases h1
        cases h2
        exact ⟨_, 0, by rw [updH_eq, if_pos rfl], rfl, h3⟩
      · exact ⟨B, v', by rw [updH_eq, if_neg g]; exact h1, h2, h3⟩
    · obtain ⟨c, ha⟩ := ha
      rw [updH_eq] at ha
      by_cases g : i = id
      · rw [if_pos g] at ha; cases ha
      · rw [if_neg g] at ha
        refine ⟨⟨c, ha⟩, rfl, ?_⟩
        have hne : μ i ≠ μ id := fun e => g (hr.inj i id _ _ ha hid rfl rfl e)
        simp [bsize, Ne.symm hne]
    · obtain ⟨es0, hm⟩ := hm
      by_cases g : i = id
      · exact ⟨⟨es', by rw [updH_eq, if_pos g]⟩, rfl⟩
      · exact ⟨⟨es0, by rw [updH_eq, if_neg g]; exact hm⟩, rfl⟩
    · obtain ⟨it, hm⟩ := hm
      have g : i ≠ id := by rintro rfl; rw [hid] at hm; cases hm
      exact ⟨⟨it, by rw [updH_eq, if_neg g]; exact hm⟩, rfl⟩
  refine ⟨he, hr.change he (fun i => updH_eq _ _ _ _) (fun _ _ => rfl) ?_ ?_ ?_ ?_ ?_ ?_⟩
  · intro _ i C g hi hC e
    exact g (hr.inj i id C _ hi hid hC rfl e.symm)
  · intro i C g hi hC
    exact hoth _ fun e => g (hr.inj i id C _ hi hid hC rfl e)
  · intro v c hB; cases hB
  · intro e hB
    cases hB
    exact ⟨hd, ents, clock, by simp [hlt], hl, fun j x e hx hy => ⟨(hv j x e hx hy).1.ext he, (hv j x e hx hy).2.ext he⟩⟩
  · intro es ents2 clock2 _ hw
    simp only [Array.getElem?_setIfInBounds, if_true, hlt, Option.some.injEq, Obj.map.injEq] at hw
    obtain ⟨rfl, rfl⟩ := hw
    exact hb
  · intro it h; cases h

theorem AOp.mapUpdate {t kt et : TypeId} {m ix y : Operand} {id : Nat} {es : List (AV × AV)} {kv v : AV} (hx : ev f m = .map id) (hid : H id = some (.map es)) (hk : ev f ix = kv) (hkv : KOK P kt kv) (hes : ∀ e ∈ es, KOK P kt e.1)
    (ht : TMap P t kt et) (hy : ev f y = v) (hK : K f (updH H id (.map (mput es kv v)))) : AOp P n ⟨none, .mapUpdate t m ix y, ty, pos, after, guard⟩ K f H :=
  .unit _ rfl (fun μ a w hs => by
    have h1 := hs.ev m; rw [hx] at h1
    have h2 := hs.ev ix; rw [hk] at h2
    have h3 := hs.ev y; rw [hy] at h3
    obtain ⟨ents, clock, l, g1, g2, g4, g5, g3⟩ := find_key (P := P) hs.hr hid ht.2 h2 hkv hes
    generalize hzz : a.eval m = zz at h1
    cases h1
    obtain ⟨hd, _⟩ := hs.hr.maps id es hid
    have hobj : (getObj (μ id)).run P w = .ok (.map ents clock) w := by simp [getObj, Sem.run, g1]
    have hset : ∀ o, (setObj (μ id) o).run P w = .ok () { w with heap := w.heap.setIfInBounds (μ id) o } := fun o => by simp [setObj, Sem.run, g1]
    rcases g3 with ⟨f1, f2⟩ | ⟨j, e, p, f1, f2, f3, f4, f5, f6⟩
    · have hput : mput es kv v = es ++ [(kv, v)] := by unfold mput; rw [mget_none f2]; rfl
      obtain ⟨s1, s2⟩ := setmap (es' := mput es kv v) (ents := ents.push { key := a.eval ix, val := a.eval y, born := clock }) (clock := clock + 1) hs.hr hid (mput_pairwise hd _ _) (by rw [hput]; simp [g4]) ⟨by rw [(hs.hr.born id es ents clock hid g1).1]; simp, fun j e he => by
        obtain ⟨b1, b2⟩ := hs.hr.born id es ents clock hid g1
        rw [Array.getElem?_push] at he
        split at he
        · cases he; rename_i h; rw [h]; exact b1
        · exact b2 j e he⟩ (fun j x e hx he => by
        rw [hput] at hx
        rcases Nat.lt_or_ge j es.length with h | h
        · rw [List.getElem?_append_left h] at hx
          rw [Array.getElem?_push, if_neg (by omega)] at he
          exact g5 j x e hx he
        · rw [List.getElem?_append_right h] at hx
          have hj : j = es.length := by
            rcases Nat.lt_or_ge (j - es.length) 1 with h' | h'
            · omega
            · rw [List.getElem?_eq_none (by simpa using h')] at hx; cases hx
          subst hj
          simp only [Nat.sub_self, List.getElem?_cons_zero, Option.some.injEq] at hx
          rw [g4, Array.getElem?_push_size] at he
          cases he
          subst hx
          exact ⟨h2, h3⟩)
      refine ⟨_, μ, ?_, s1, s2⟩
      simp [execOp, hzz, Instr.mapUpdate, run_under ht.1, hobj, ht.2.check w _ g2, f1, hset]
    · have hget := mget_some hd f4
      rw [f5] at hget
      have hput : mput es kv v = es.map fun e => open Classical in if e.1 = kv then (kv, v) else e := by unfold mput; rw [hget]; rfl
      have hj1 : j < ents.size := by
        rcases Nat.lt_or_ge j ents.size with h | h
        · exact h
        · rw [Array.getElem?_eq_none h] at f2; cases f2
      have hst := ht.2.stays w g2
      obtain ⟨s1, s2⟩ := setmap (es' := mput es kv v) (ents := ents.modify j fun e => { e with key := a.eval ix, val := a.eval y }) (clock := clock) hs.hr hid (mput_pairwise hd _ _) (by rw [hput]; simp [g4]) ⟨by rw [(hs.hr.born id es ents clock hid g1).1]; simp, fun i e' he => by
        obtain ⟨b1, b2⟩ := hs.hr.born id es ents clock hid g1
        rw [Array.getElem?_modify] at he
        split at he
        · rw [Option.map_eq_some_iff] at he; obtain ⟨z, z1, rfl⟩ := he; exact b2 i z z1
        · exact b2 i e' he⟩ (fun i x e' hx he => by
        rw [hput] at hx
        simp only [List.getElem?_map, Option.map_eq_some_iff] at hx
        obtain ⟨q, q1, rfl⟩ := hx
        rw [Array.getElem?_modify] at he
        by_cases hij : j = i
        · subst hij
          rw [f4] at q1; cases q1
          rw [if_pos rfl, f2] at he
          simp only [Option.map_some, Option.some.injEq] at he
          subst he
          rw [if_pos f5]
          exact ⟨h2, h3⟩
        · rw [if_neg hij] at he
          have hne : q.1 ≠ kv := by
            intro e
            rw [← f5] at e
            have hp := List.pairwise_iff_getElem.1 hd
            have hi2 := List.getElem?_eq_some_iff.1 q1
            have hj2 := List.getElem?_eq_some_iff.1 f4
            obtain ⟨hi2, hi3⟩ := hi2
            obtain ⟨hj2, hj3⟩ := hj2
            rcases Nat.lt_or_gt_of_ne hij with h | h
            · exact hp j i hj2 hi2 h (by rw [hi3, hj3]; exact e.symm)
            · exact hp i j hi2 hj2 h (by rw [hi3, hj3]; exact e)
          rw [if_neg hne]
          exact g5 i q e' q1 he)
      refine ⟨_, μ, ?_, s1, s2⟩
      have hkey : ((ents[j]?).map (·.key)).getD (a.eval ix) = a.eval ix := by rw [f2]; exact f3
      simp only [execOp, hzz, Instr.mapUpdate, Sem.run_bind, run_under ht.1, Result.andThen_ok, hobj, ht.2.check w _ g2, f1]
      rw [hkey]
      simp only [hst, Result.andThen_ok, hset]
      rfl) hK

theorem AOp.lenMap {t kt et : TypeId} {x : Operand} {id : Nat} {es : List (AV × AV)} (hn : Nat.ble (d + 1) n = true) (hx : ev f x = .map id) (hid : H id = some (.map es)) (ht : P.underlying t = some (.map kt et)) (hK : K (upd f d (.int .i64 es.length)) H) :
    AOp P n ⟨some d, .call { callee := .builtin .len, args := #[x], argTypes := #[t] }, ty, pos, after, guard⟩ K f H :=
  .pureV _ hn (fun μ a w hs => by
    have h1 := hs.ev x; rw [hx] at h1
    generalize hzz : a.eval x = zz at h1
    cases h1
    obtain ⟨_, ents, clock, g1, g2, _⟩ := hs.hr.maps id es hid
    have hobj : (getObj (μ id)).run P w = .ok (.map ents clock) w := by simp [getObj, Sem.run, g1]
    refine ⟨.int .i64 es.length, ?_, .int _ _⟩
    rw [run_call_builtin (r := .ok (.int .i64 es.length) w) w ?_ rfl]
    · rfl
    · simp [Builtin.len_, hzz, run_under ht, hobj, goInt, g2]) hK

/-! ### Equality of aggregates -/
def TEq (P : Program) (t : TypeId) : Prop :=
  Keyed P t ∧ P.eqGuardType P.depth t = false ∧ ∀ (w : World) (x y : Value) (lx ly : Lit), keyOf P t x = some lx → keyOf P t y = some ly → ∃ r : Bool, (Op.equal t x y).run P w = .ok r w ∧ (r = true ↔ lx = ly)

theorem TEq.mk' (hl : laidOutB P = true) {m : Nat} (hm : m + 1 ≤ 10000) {k : TypeId} (hrow : k < P.types.size) (hk : P.keyTypeAt m k = true)
    (hwide : (match P.underlying k with | some (.array _ _) | some (.struct _) => true | _ => false) = true) (hg : P.eqGuardType P.depth k = false) : TEq P k :=
  ⟨.of_law (deep_law_laid hl hm hrow hk hwide), hg, fun w _ _ _ _ hx hy => run_equal_deep w (by omega) hk hwide hx hy⟩

theorem TMap.mk' (hl : laidOutB P = true) {m : Nat} (hm : m + 1 ≤ 10000) {t k e : TypeId} (ht : P.underlying t = some (.map k e)) (hrow : k < P.types.size) (hk : P.keyTypeAt m k = true)
    (hwide : (match P.underlying k with | some (.array _ _) | some (.struct _) => true | _ => false) = true) : TMap P t k e :=
  ⟨ht, .of_law (deep_law_laid hl hm hrow hk hwide)⟩

theorem run_eqAgg {t : TypeId} (ht : TEq P t) {w : World} {μ : Nat → Nat} {xs ys : List AV} {x y : Value} (hx : VR w μ H (.agg xs) x) (hy : VR w μ H (.agg ys) y) (hkx : KOK P t (.agg xs)) (hky : KOK P t (.agg ys)) :
    ∃ r : Bool, (Op.equal t x y).run P w = .ok r w ∧ (r = true ↔ xs = ys) := by
  obtain ⟨u, lx, k1, k2⟩ := hkx
  obtain ⟨v, ly, k3, k4⟩ := hky
  have e1 := conc_VR hx k1
  have e2 := conc_VR hy k3
  subst e1 e2
  obtain ⟨r, h1, h2⟩ := ht.2.2 w x y lx ly k2 k4
  refine ⟨r, h1, h2.trans ⟨fun e => ?_, fun e => ?_⟩⟩
  · subst e
    have := ht.1.inj k2 k4
    subst this
    have := conc_inj k1 k3
    simpa using this
  · subst e
    rw [k1] at k3
    cases k3
    rw [k2] at k4
    cases k4
    rfl

theorem AOp.eqAgg {t t' : TypeId} {x y : Operand} {xs ys : List AV} (hn : Nat.ble (d + 1) n = true) (hx : ev f x = .agg xs) (hy : ev f y = .agg ys) (ht : TEq P t) (hkx : KOK P t (.agg xs)) (hky : KOK P t (.agg ys))
    (hK : ∀ b : Bool, (b = true ↔ xs = ys) → K (upd f d (.bool b)) H) : AOp P n ⟨some d, .binOp .eql t x y t', ty, pos, after, guard⟩ K f H := by
  intro μ a w hs Q
  have h1 := hs.ev x; rw [hx] at h1
  have h2 := hs.ev y; rw [hy] at h2
  obtain ⟨r, r1, r2⟩ := run_eqAgg ht h1 h2 hkx hky
  have : (execOp a.eval ⟨some d, .binOp .eql t x y t', ty, pos, after, guard⟩).run P w = .ok (.value (.bool r)) w := by
    generalize hzx : a.eval x = zx at *
    generalize hzy : a.eval y = zy at *
    cases h1
    cases h2
    simp only [execOp, hzx, hzy, Sem.run_bind, run_eqGuard_agg w _ t x y _ _ ht.2.1, Result.andThen_ok, binOp, r1, Sem.run_pure]
  unfold Oper.wp
  rw [this]
  exact ⟨μ, _, H, hs.put (.refl _ _ _) hs.hr hn (.bool r), .refl _ _ _, hK r r2⟩

theorem AOp.neAgg {t t' : TypeId} {x y : Operand} {xs ys : List AV} (hn : Nat.ble (d + 1) n = true) (hx : ev f x = .agg xs) (hy : ev f y = .agg ys) (ht : TEq P t) (hkx : KOK P t (.agg xs)) (hky : KOK P t (.agg ys))
    (hK : ∀ b : Bool, (b = true ↔ xs ≠ ys) → K (upd f d (.bool b)) H) : AOp P n ⟨some d, .binOp .neq t x y t', ty, pos, after, guard⟩ K f H := by
  intro μ a w hs Q
  have h1 := hs.ev x; rw [hx] at h1
  have h2 := hs.ev y; rw [hy] at h2
  obtain ⟨r, r1, r2⟩ := run_eqAgg ht h1 h2 hkx hky
  have : (execOp a.eval ⟨some d, .binOp .neq t x y t', ty, pos, after, guard⟩).run P w = .ok (.value (.bool !r)) w := by
    generalize hzx : a.eval x = zx at *
    generalize hzy : a.eval y = zy at *
    cases h1
    cases h2
    simp only [execOp, hzx, hzy, Sem.run_bind, run_eqGuard_agg w _ t x y _ _ ht.2.1, Result.andThen_ok, binOp, r1, Sem.run_pure]
  unfold Oper.wp
  rw [this]
  refine ⟨μ, _, H, hs.put (.refl _ _ _) hs.hr hn (.bool !r), .refl _ _ _, hK (!r) ?_⟩
  cases r with
  | true => simp [r2.1 rfl]
  | false => simpa using fun e => by have := r2.2 e; cases this

end

/-! ### Freezing: an owned row becomes a value -/
theorem freeze {w : World} {μ : Nat → Nat} {H : Heap} (hr : HR w μ H) {id ver : Nat} {cells : List AV} (hid : H id = some (.row ver cells)) :
    Ext w μ H w μ (updH H id (.dead ver)) ∧ HR w μ (updH H id (.dead ver)) ∧ Frz w μ (updH H id (.dead ver)) (μ id) := by
  have hno : ∀ b, Owned μ (updH H id (.dead ver)) b → Owned μ H b := by
    rintro b ⟨i, B, h1, h2, h3⟩
    rw [updH_eq] at h1
    by_cases g : i = id
    · rw [if_pos g] at h1; cases h1; cases h2
    · rw [if_neg g] at h1; exact ⟨i, B, h1, h2, h3⟩
  have he : Ext w μ H w μ (updH H id (.dead ver)) := by
    refine ⟨Nat.le_refl _, fun b h => ⟨rfl, fun h' => h.2 (hno b h')⟩, fun i v hk => ?_, fun i v hk ha => ?_, fun i hm => ?_, fun i hm => ?_, ⟨rfl, rfl, rfl, Nat.le_refl _⟩⟩
    · obtain ⟨B, v', h1, h2, h3⟩ := hk
      by_cases g : i = id
      · subst g
        rw [hid] at h1; cases h1
        cases h2
        exact ⟨_, ver, by rw [updH_eq, if_pos rfl], rfl, h3⟩
      · exact ⟨B, v', by rw [updH_eq, if_neg g]; exact h1, h2, h3⟩
    · obtain ⟨c, ha⟩ := ha
      rw [updH_eq] at ha
      by_cases g : i = id
      · rw [if_pos g] at ha; cases ha
      · rw [if_neg g] at ha; exact ⟨⟨c, ha⟩, rfl, rfl⟩
    · obtain ⟨es, hm⟩ := hm
      have g : i ≠ id := by rintro rfl; rw [hid] at hm; cases hm
      exact ⟨⟨es, by rw [updH_eq, if_neg g]; exact hm⟩, rfl⟩
    · obtain ⟨it, hm⟩ := hm
      have g : i ≠ id := by rintro rfl; rw [hid] at hm; cases hm
      exact ⟨⟨it, by rw [updH_eq, if_neg g]; exact hm⟩, rfl⟩
  refine ⟨he, hr.change he (fun i => updH_eq _ _ _ _) (fun _ _ => rfl) (fun h => by cases h) (fun _ _ _ _ _ => rfl) (fun _ _ h => by cases h) (fun _ h => by cases h) (fun _ _ _ h => by cases h) (fun _ h => by cases h), hr.lt hid rfl, ?_⟩
  rintro ⟨i, B, h1, h2, h3⟩
  rw [updH_eq] at h1
  by_cases g : i = id
  · rw [if_pos g] at h1; cases h1; cases h2
  · rw [if_neg g] at h1
    exact g (hr.inj i id _ _ h1 hid h2 rfl h3)

/-- A slice over a row that is frozen now. -/
theorem freeze_VR {w : World} {μ : Nat → Nat} {H : Heap} (hr : HR w μ H) {id ver : Nat} {cells : List AV} (hid : H id = some (.row ver cells)) {es off len : Nat} (hle : off + len * es ≤ cells.length) {v : Value} (hv : VR w μ H (.slm id ver es off len) v) :
    VR w μ (updH H id (.dead ver)) (.sl len ((cells.drop off).take (len * es))) v := by
  obtain ⟨he, _, hf⟩ := freeze hr hid
  obtain ⟨cap, rfl, hl, _, _⟩ := hv.slm_inv ⟨cells, hid⟩
  have hh := hr.holds hid
  have hex : ∀ j, j < len * es → ∃ y, w.cell? ⟨μ id, off + j, none⟩ = some y ∧ ∀ x, cells[off + j]? = some x → VR w μ H x y := by
    intro j hj
    have hlt : off + j < cells.length := by omega
    obtain ⟨y, h1, h2⟩ := hh (off + j) _ (List.getElem?_eq_getElem hlt)
    refine ⟨y, by simpa using h1, fun x hx => ?_⟩
    rw [List.getElem?_eq_getElem hlt] at hx; cases hx; exact h2
  let ys : Nat → Value := fun j => if h : j < len * es then Classical.choose (hex j h) else undef
  have hj : ∀ (j : Nat) (x : AV), ((cells.drop off).take (len * es))[j]? = some x → j < len * es ∧ cells[off + j]? = some x := by
    intro j x hx
    have hj : j < len * es := by
      rcases Nat.lt_or_ge j (len * es) with h' | h'
      · exact h'
      · rw [List.getElem?_eq_none (by simp; omega)] at hx; cases hx
    simp only [List.getElem?_take, hj, if_true, List.getElem?_drop] at hx
    exact ⟨hj, hx⟩
  refine .sl (ys := ys) hl hf (fun j x hx => ?_) (fun j x hx => ?_)
  · obtain ⟨h1, _⟩ := hj j x hx
    simp only [ys, dif_pos h1]; exact (Classical.choose_spec (hex j h1)).1
  · obtain ⟨h1, h2⟩ := hj j x hx
    simp only [ys, dif_pos h1]; exact ((Classical.choose_spec (hex j h1)).2 x h2).ext he

end Go.AH
