/- A part of the proof that a law of the edges and fans of faces answers true for every input of its bulk: own work, by an AI agent. -/
import Derived.Test.YtfgfalidpbbkhaaAH3
import Derived.IntWalk
set_option linter.unusedVariables false
set_option linter.unusedSimpArgs false
namespace Go.AH
open Go

def TZn (P : Program) (t : TypeId) (size : Nat) : Prop := ∃ i z, P.info? t = some i ∧ i.zero = some z ∧ i.size = size ∧ z.cells.size = size
def TBytes (P : Program) (t : TypeId) (m : Nat) : Prop := ∃ i, P.info? t = some i ∧ i.bytes ≤ m

/-- Rows of cells that stand for one another, place by place. -/
def CR (w : World) (μ : Nat → Nat) (H : Heap) (xs : List AV) (vs : Array Value) : Prop :=
  xs.length = vs.size ∧ ∀ (j : Nat) (x : AV), xs[j]? = some x → ∃ y, vs[j]? = some y ∧ VR w μ H x y

theorem foldl_set (off : Nat) : ∀ (l : List Value) (k : Nat) (cs : Array Value), off + k + l.length ≤ cs.size →
    ((l.zipIdx k).foldl (fun cs (c, j) => cs.setIfInBounds (off + j) c) cs).size = cs.size ∧
    ∀ j, ((l.zipIdx k).foldl (fun cs (c, j) => cs.setIfInBounds (off + j) c) cs)[j]? = if off + k ≤ j ∧ j < off + k + l.length then l[j - (off + k)]? else cs[j]?
  | [], k, cs, _ => ⟨rfl, fun j => by rw [if_neg (by simp <;> omega)]; rfl⟩
  | v :: l, k, cs, h => by
    simp only [List.length_cons] at h
    simp only [List.zipIdx_cons, List.foldl_cons]
    obtain ⟨h1, h2⟩ := foldl_set off l (k + 1) (cs.setIfInBounds (off + k) v) (by rw [Array.size_setIfInBounds]; omega)
    refine ⟨by rw [h1, Array.size_setIfInBounds], fun j => ?_⟩
    rw [h2 j]
    by_cases hj : off + (k + 1) ≤ j ∧ j < off + (k + 1) + l.length
    · rw [if_pos hj, if_pos ⟨by omega, by simp only [List.length_cons]; omega⟩, show j - (off + k) = (j - (off + (k + 1))) + 1 by omega]; rfl
    · rw [if_neg hj]
      by_cases he : j = off + k
      · subst he
        rw [if_pos ⟨by omega, by simp⟩]
        simp [show off + k < cs.size by omega]
      · rw [if_neg (by simp only [List.length_cons]; omega)]
        simp [Ne.symm he]

/-- Parts put into a row of cells. -/
def fillA (places : Nat → Option (Nat × Nat)) (cells : List AV) : List (Nat × AV) → Option (List AV)
  | [] => some cells
  | (i, v) :: rest =>
    match places i with
    | none => none
    | some (off, size) =>
      match v.plainB && Nat.beq v.cells.length size && Nat.ble (off + size) cells.length with
      | true => fillA places (writeL cells off v.cells) rest
      | false => none

theorem fill_rel {w : World} {μ : Nat → Nat} {H : Heap} {pl : Nat → Option (Nat × Nat)} : ∀ (ps : List (Nat × AV)) (qs : List (Nat × Value)) (cells cells' : List AV) (cs : Array Value),
    ps.length = qs.length → (∀ (j : Nat) p q, ps[j]? = some p → qs[j]? = some q → p.1 = q.1 ∧ VR w μ H p.2 q.2) → CR w μ H cells cs → fillA pl cells ps = some cells' →
    ∃ cs', Instr.fill pl cs qs = some cs' ∧ CR w μ H cells' cs'
  | [], [], cells, cells', cs, _, _, hc, h => by
    simp only [fillA, Option.some.injEq] at h
    exact ⟨cs, rfl, h ▸ hc⟩
  | [], _ :: _, _, _, _, hl, _, _, _ => by simp at hl
  | _ :: _, [], _, _, _, hl, _, _, _ => by simp at hl
  | (i, v) :: ps, (i', u) :: qs, cells, cells', cs, hl, hv, hc, h => by
    obtain ⟨rfl, hvu⟩ := hv 0 _ _ rfl rfl
    rw [fillA] at h
    rw [Instr.fill]
    dsimp only at h hvu
    cases hp : pl i with
    | none => rw [hp] at h; cases h
    | some os =>
      obtain ⟨off, size⟩ := os
      rw [hp] at h
      dsimp only at h ⊢
      cases hb : (v.plainB && Nat.beq v.cells.length size && Nat.ble (off + size) cells.length) with
      | false => rw [hb] at h; cases h
      | true =>
        rw [hb] at h
        dsimp only at h
        simp only [Bool.and_eq_true] at hb
        obtain ⟨⟨hb1, hb2⟩, hb3⟩ := hb
        have hb2 := Nat.eq_of_beq_eq_true hb2
        have hb3 := Nat.le_of_ble_eq_true hb3
        obtain ⟨g1, g2⟩ := hvu.cells (plainB_spec hb1)
        have hsz : u.cells.size = size := by omega
        have hle : off + size ≤ cs.size := by have := hc.1; omega
        rw [if_neg (by simp [hsz]; omega)]
        have hf := foldl_set off u.cells.toList 0 cs (by simp; omega)
        have hz : u.cells.zipIdx.foldl (fun cs (c, j) => cs.setIfInBounds (off + j) c) cs = (u.cells.toList.zipIdx 0).foldl (fun cs (c, j) => cs.setIfInBounds (off + j) c) cs := by
          rw [← Array.foldl_toList, Array.toList_zipIdx]
        refine fill_rel ps qs (writeL cells off v.cells) cells' _ (by simpa using hl) (fun j p q hp hq => hv (j + 1) p q hp hq) ?_ h
        rw [hz]
        refine ⟨by rw [hf.1, writeL_len (by omega)]; exact hc.1, fun j x hx => ?_⟩
        rw [hf.2 j]
        rw [writeL_get (by omega)] at hx
        by_cases hj : off ≤ j ∧ j < off + v.cells.length
        · rw [if_pos hj] at hx
          rw [if_pos (by simp; omega)]
          obtain ⟨y, e1, e2⟩ := g2 _ x hx
          exact ⟨y, by simpa using e1, e2⟩
        · rw [if_neg hj] at hx
          rw [if_neg (by simp; omega)]
          exact hc.2 j x hx

/-- Where the parts of a struct or an array lie. -/
def TPlaces (P : Program) (t : TypeId) (places : Nat → Option (Nat × Nat)) : Prop :=
  (∃ fs, P.underlying t = some (.struct fs) ∧ ∀ j, places j = none ∧ fs.size ≤ j ∨ ∃ fl size, fs[j]? = some fl ∧ TSize P fl.type size ∧ places j = some (fl.offset, size)) ∨
  (∃ len e es, P.underlying t = some (.array len e) ∧ TSize P e es ∧ ∀ j, places j = some (j * es, es))

def lookupL (l : List (Nat × Nat)) : Nat → Option (Nat × Nat) := fun j => l[j]?

section
variable {P : Program} {n : Nat} {f : Nat → AV} {H : Heap} {K : (Nat → AV) → Heap → Prop} {ty : TypeId} {pos : String} {after : Array Edge} {guard : Option (Nat × Bool)} {d : Nat}

theorem zero_rel {w : World} {μ : Nat → Nat} {t : TypeId} {Z : List AV} (ht : TZero P t Z) : ∃ i z, P.info? t = some i ∧ i.zero = some z ∧ CR w μ H Z z.cells := by
  obtain ⟨i, z, t1, t2, t3⟩ := ht
  refine ⟨i, z, t1, t2, by rw [← t3]; simp, fun j x hx => ?_⟩
  rw [← t3] at hx
  simp only [List.getElem?_map, Array.getElem?_toList, Option.map_eq_some_iff] at hx
  obtain ⟨y, h1, h2⟩ := hx
  exact ⟨y, h1, h2 ▸ cst_VR w μ H y⟩

theorem mapM_sizes {fs : List Field} {g : Field → Nat} (w : World) (h : ∀ f ∈ fs, TSize P f.type (g f)) : (fs.mapM (m := Sem) fun f => do pure (f.offset, ← sizeOf f.type)).run P w = .ok (fs.map fun f => (f.offset, g f)) w := by
  induction fs with
  | nil => rfl
  | cons x fs ih =>
    rw [List.mapM_cons]
    simp only [Sem.run_bind, (h x List.mem_cons_self).run, Result.andThen_ok, Sem.run_pure]
    rw [ih fun f hf => h f (List.mem_cons_of_mem _ hf)]
    rfl

theorem parts_rel {w : World} {μ : Nat → Nat} {a : Act} (hs : SR n w μ f H a) {parts : Array (Nat × Operand)} {ps : List (Nat × AV)} (hps : parts.toList.map (fun p => (p.1, ev f p.2)) = ps) :
    ps.length = (parts.map fun (i, x) => (i, a.eval x)).toList.length ∧ ∀ (j : Nat) p q, ps[j]? = some p → (parts.map fun (i, x) => (i, a.eval x)).toList[j]? = some q → p.1 = q.1 ∧ VR w μ H p.2 q.2 := by
  subst hps
  refine ⟨by simp, fun j p q hp hq => ?_⟩
  simp only [List.getElem?_map, Array.toList_map, Option.map_eq_some_iff] at hp hq
  obtain ⟨x, h1, rfl⟩ := hp
  obtain ⟨y, h2, rfl⟩ := hq
  rw [h1] at h2; cases h2
  exact ⟨rfl, hs.ev _⟩

theorem AOp.build {t : TypeId} {parts : Array (Nat × Operand)} {ps : List (Nat × AV)} {Z cells : List AV} {places : Nat → Option (Nat × Nat)} (hn : Nat.ble (d + 1) n = true) (ht : TZero P t Z) (hpl : TPlaces P t places)
    (hps : parts.toList.map (fun p => (p.1, ev f p.2)) = ps) (hf : fillA places Z ps = some cells) (hK : K (upd f d (.agg cells)) H) : AOp P n ⟨some d, .build t parts, ty, pos, after, guard⟩ K f H :=
  .pureV _ hn (fun μ a w hs => by
    obtain ⟨i, z, t1, t2, hz⟩ := zero_rel (w := w) (μ := μ) (H := H) ht
    obtain ⟨hl, hv⟩ := parts_rel hs hps
    obtain ⟨cs', h1, h2⟩ := fill_rel ps _ Z cells z.cells hl hv hz hf
    refine ⟨.agg cs', ?_, .agg h2.1 fun j x y hx hy => ?_⟩
    · rcases hpl with ⟨fs, u1, u2⟩ | ⟨len, e, es, u1, u2, u3⟩
      · have hg : ∀ fl ∈ fs.toList, TSize P fl.type (((P.info? fl.type).map (·.size)).getD 0) := by
          intro fl hfl
          obtain ⟨j, hj, rfl⟩ := List.mem_iff_getElem.1 hfl
          have hj' : j < fs.size := by simpa using hj
          rcases u2 j with ⟨_, h⟩ | ⟨fl, size, g1, g2, g3⟩
          · omega
          · rw [Array.getElem?_eq_getElem hj'] at g1
            simp only [Option.some.injEq] at g1
            subst g1
            obtain ⟨i', e1, e2⟩ := g2
            simp only [Array.getElem_toList]
            exact ⟨i', e1, by simp [e1]⟩
        have hm := mapM_sizes w hg
        have hplaces : (fun j => ((fs.toList.map fun fl => (fl.offset, ((P.info? fl.type).map (·.size)).getD 0)).toArray)[j]?) = places := by
          funext j
          rcases u2 j with ⟨h, hj⟩ | ⟨fl, size, g1, g2, g3⟩
          · rw [h]; simp [hj]
          · rw [g3]
            obtain ⟨i', e1, e2⟩ := g2
            simp [g1, e1, e2]
        simp only [execOp, Instr.build, Sem.run_bind, zeroValue, run_info t1, Result.andThen_ok, t2, Sem.run_pure, run_under u1]
        rw [Array.mapM_eq_mapM_toList]
        simp only [Sem.run_map, hm, Result.andThen_ok]
        rw [hplaces, h1]
        rfl
      · have hplaces : (fun i => some (i * es, es)) = places := funext fun j => (u3 j).symm
        simp only [execOp, Instr.build, Sem.run_bind, zeroValue, run_info t1, Result.andThen_ok, t2, Sem.run_pure, run_under u1, u2.run]
        rw [hplaces, h1]
        rfl
    · obtain ⟨y', g1, g2⟩ := h2.2 j x hx
      rw [g1] at hy; cases hy; exact g2) hK

/-- A slice that is written out. -/
def zeroRow (Z : List AV) (m : Nat) : List AV := (List.range m).map fun k => Z.getD (k % Z.length) .undef

theorem zeroRow_rel {w : World} {μ : Nat → Nat} {Z : List AV} {z : Array Value} (h : CR w μ H Z z) (m : Nat) : CR w μ H (zeroRow Z m) ((Array.range m).map (z[· % z.size]!)) := by
  refine ⟨by simp [zeroRow], fun j x hx => ?_⟩
  have hj : j < m := by
    rcases Nat.lt_or_ge j m with h' | h'
    · exact h'
    · rw [List.getElem?_eq_none (by simp [zeroRow]; omega)] at hx; cases hx
  simp only [zeroRow, List.getElem?_map, List.getElem?_range hj, Option.map_some, Option.some.injEq] at hx
  refine ⟨z[j % z.size]!, by simp [hj], ?_⟩
  subst hx
  rw [h.1]
  by_cases hz : z.size = 0
  · have : Z.length = 0 := by have := h.1; omega
    have hZ : Z = [] := List.eq_nil_of_length_eq_zero this
    subst hZ
    exact .undef _
  · have hlt : j % z.size < z.size := Nat.mod_lt _ (Nat.pos_of_ne_zero hz)
    have hlt' : j % z.size < Z.length := by have := h.1; omega
    obtain ⟨y, g1, g2⟩ := h.2 (j % z.size) Z[j % z.size] (List.getElem?_eq_getElem hlt')
    have e1 : Z.getD (j % z.size) .undef = Z[j % z.size] := by simp [hlt']
    have e2 : z[j % z.size]! = y := by
      rw [Array.getElem?_eq_getElem hlt] at g1
      simp only [Option.some.injEq] at g1
      rw [getElem!_pos z _ hlt, g1]
    rw [e1, e2]; exact g2

theorem AOp.buildSlice_at {t e : TypeId} {len es : Nat} {parts : Array (Nat × Operand)} {ps : List (Nat × AV)} {Z cells : List AV} (id : Nat) (hid : H id = none ∨ H id = some .res) (hn : Nat.ble (d + 1) n = true)
    (ht : P.underlying t = some (.slice e)) (hs' : TSize P e es) (hz : TZero P e Z) (hbig : Nat.ble (len * es) 16777216 = true)
    (hps : parts.toList.map (fun p => (p.1, ev f p.2)) = ps) (hf : fillA (fun i => some (i * es, es)) (zeroRow Z (len * es)) ps = some cells)
    (hK : K (upd f d (.slm id 0 es 0 len)) (updH H id (.row 0 cells))) : AOp P n ⟨some d, .buildSlice t len parts, ty, pos, after, guard⟩ K f H :=
  .value _ _ hn (fun μ a w hs => by
    obtain ⟨i, z, t1, t2, hz⟩ := zero_rel (w := w) (μ := μ) (H := H) hz
    obtain ⟨hl, hv⟩ := parts_rel hs hps
    have hbig' : ¬ len * es > 2 ^ 24 := by have := Nat.le_of_ble_eq_true hbig; omega
    let zz : Array Value := if len * es = 0 then #[] else z.cells
    have hzz : CR w μ H (zeroRow Z (len * es)) ((Array.range (len * es)).map (zz[· % zz.size]!)) := by
      by_cases h0 : len * es = 0
      · rw [h0]; exact ⟨by simp [zeroRow], fun j x hx => by simp [zeroRow] at hx⟩
      · simp only [zz, if_neg h0]; exact zeroRow_rel hz _
    obtain ⟨cs', h1, h2⟩ := fill_rel ps _ (zeroRow Z (len * es)) cells _ hl hv hzz hf
    refine ⟨.slice (some ⟨w.heap.size, 0, none⟩) len len, { w with heap := w.heap.push (.cells cs' e) }, updN μ id w.heap.size, ?_, newblock hs.hr hid, newrow hs.hr hid (Nat.le_of_eq h2.1) h2.2, ?_⟩
    · simp only [execOp, Instr.buildSlice, Sem.run_bind, run_under ht, Result.andThen_ok, hs'.run, if_neg hbig']
      by_cases h0 : len * es = 0
      · have hz0 : zz = #[] := by simp only [zz, if_pos h0]
        rw [hz0] at h1
        simp only [if_pos h0, Sem.run_bind, Sem.run_pure, Result.andThen_ok]
        rw [h1]; simp [newRow]
      · have hz0 : zz = z.cells := by simp only [zz, if_neg h0]
        rw [hz0] at h1
        simp only [if_neg h0, Sem.run_bind, zeroValue, run_info t1, t2, Sem.run_pure, Result.andThen_ok]
        rw [h1]; simp [newRow]
    · refine .slm ⟨_, 0, by rw [updH_eq, if_pos rfl], rfl, Nat.le_refl _⟩ (Nat.le_refl _) fun _ => ⟨by simp [updN], ?_⟩
      have hsz : cells.length = len * es := by
        have : ∀ (ps : List (Nat × AV)) (c c' : List AV), fillA (fun i => some (i * es, es)) c ps = some c' → c'.length = c.length := by
          intro ps
          induction ps with
          | nil => intro c c' h; simp only [fillA, Option.some.injEq] at h; rw [h]
          | cons p ps ih =>
            intro c c' h
            obtain ⟨i, v⟩ := p
            rw [fillA] at h
            dsimp only at h
            split at h
            · rename_i hb
              simp only [Bool.and_eq_true] at hb
              have hb2 := Nat.eq_of_beq_eq_true hb.1.2
              have hb3 := Nat.le_of_ble_eq_true hb.2
              rw [ih _ _ h, writeL_len (by omega)]
            · cases h
        rw [this _ _ _ hf]; simp [zeroRow]
      simp [updN, bsize, osize, ← h2.1, hsz]) hK

theorem AOp.buildSlice {t e : TypeId} {len es : Nat} {parts : Array (Nat × Operand)} {ps : List (Nat × AV)} {Z cells : List AV} (hn : Nat.ble (d + 1) n = true)
    (ht : P.underlying t = some (.slice e)) (hs' : TSize P e es) (hz : TZero P e Z) (hbig : Nat.ble (len * es) 16777216 = true)
    (hps : parts.toList.map (fun p => (p.1, ev f p.2)) = ps) (hf : fillA (fun i => some (i * es, es)) (zeroRow Z (len * es)) ps = some cells)
    (hK : ∀ id H', H id = none → H' id = some (.row 0 cells) → (∀ i, i ≠ id → H' i = H i) → K (upd f d (.slm id 0 es 0 len)) H') : AOp P n ⟨some d, .buildSlice t len parts, ty, pos, after, guard⟩ K f H :=
  .fresh fun id hid => .buildSlice_at id (.inl hid) hn ht hs' hz hbig hps hf (hK id _ hid (updH_same _ _ _) fun _ h => updH_ne _ _ h)

theorem wrap_small {m : Int} (h0 : 0 ≤ m) (h1 : m ≤ 9223372036854775807) : IntKind.i64.wrap m = m := IntWalk.i64_in m ⟨by omega, h1⟩

/-- 'make([]T, l, c)'. -/
theorem AOp.makeSlice_at {t e : TypeId} {x y : Operand} {k k' : IntKind} {l c : Int} {es bm : Nat} {Z : List AV} (id : Nat) (hid : H id = none ∨ H id = some .res) (hn : Nat.ble (d + 1) n = true)
    (ht : P.underlying t = some (.slice e)) (hs' : TSize P e es) (hz : TZero P e Z) (hb : TBytes P e bm) (hbm : bm ≤ 1024) (hx : ev f x = .int k l) (hy : ev f y = .int k' c) (h0 : 0 ≤ l) (h1 : l ≤ c) (h2 : c ≤ 4294967296)
    (hK : K (upd f d (.slm id 0 es 0 l.toNat)) (updH H id (.row 0 (zeroRow Z (l.toNat * es))))) : AOp P n ⟨some d, .makeSlice t x y, ty, pos, after, guard⟩ K f H :=
  .value _ _ hn (fun μ a w hs => by
    obtain ⟨i, z, t1, t2, hz⟩ := zero_rel (w := w) (μ := μ) (H := H) hz
    have e1 := (hx ▸ hs.ev x).int_inv
    have e2 := (hy ▸ hs.ev y).int_inv
    obtain ⟨ib, b1, b2⟩ := hb
    rw [t1] at b1; cases b1
    have wl := wrap_small h0 (by omega)
    have wc := wrap_small (show 0 ≤ c by omega) (by omega)
    let m := c.toNat * es
    let zz : Array Value := if m = 0 then #[] else z.cells
    let cs : Array Value := (Array.range m).map (zz[· % zz.size]!)
    have hle : l.toNat * es ≤ m := Nat.mul_le_mul_right _ (by omega)
    have hzz : CR w μ H (zeroRow Z m) cs := by
      by_cases h0 : m = 0
      · simp only [cs]; rw [h0]; exact ⟨by simp [zeroRow], fun j x hx => by simp [zeroRow] at hx⟩
      · simp only [cs, zz, if_neg h0]; exact zeroRow_rel hz _
    have hcells : ∀ (j : Nat) (x : AV), (zeroRow Z (l.toNat * es))[j]? = some x → ∃ y, cs[j]? = some y ∧ VR w μ H x y := fun j x hx => by
      refine hzz.2 j x ?_
      have hj : j < l.toNat * es := by
        rcases Nat.lt_or_ge j (l.toNat * es) with h' | h'
        · exact h'
        · rw [List.getElem?_eq_none (by simp [zeroRow]; omega)] at hx; cases hx
      simp only [zeroRow, List.getElem?_map, List.getElem?_range hj, Option.map_some] at hx
      simp only [zeroRow, List.getElem?_map, List.getElem?_range (show j < m by omega), Option.map_some]
      exact hx
    have hsz : cs.size = m := by simp [cs]
    refine ⟨.slice (some ⟨w.heap.size, 0, none⟩) l.toNat c.toNat, { w with heap := w.heap.push (.cells cs e) }, updN μ id w.heap.size, ?_, newblock hs.hr hid, newrow hs.hr hid (by rw [hsz]; simpa [zeroRow] using hle) hcells, ?_⟩
    · have hbytes : ¬ ((i.bytes : Int) * c > 2 ^ 48) := by
        have h3 : (i.bytes : Int) ≤ 1024 := by omega
        have h4 : (i.bytes : Int) * c ≤ 1024 * 4294967296 := Int.mul_le_mul h3 h2 (by omega) (by omega)
        omega
      have hc0 : ¬ c < 0 := by omega
      have hl0 : ¬ l < 0 := by omega
      have hlc : ¬ l > c := by omega
      simp only [execOp, Instr.makeSlice, Sem.run_bind, run_under ht, Result.andThen_ok, e1, e2, asInt, asIntOf, Sem.run_pure, run_info t1, wl, wc]
      rw [if_neg (by simp [hc0, hl0, hlc]; omega)]
      simp only [Sem.run_bind, run_askRoom, Result.andThen_ok, hs'.run]
      by_cases h0 : c.toNat * es = 0
      · have hz0 : zz = #[] := by simp only [zz, m, if_pos h0]
        simp only [if_pos h0, Sem.run_bind, Sem.run_pure, Result.andThen_ok]
        simp [newRow, cs, m, hz0]
      · have hz0 : zz = z.cells := by simp only [zz, m, if_neg h0]
        simp only [if_neg h0, Sem.run_bind, zeroValue, run_info t1, t2, Sem.run_pure, Result.andThen_ok]
        simp [newRow, cs, m, hz0]
    · refine .slm ⟨_, 0, by rw [updH_eq, if_pos rfl], rfl, Nat.le_refl _⟩ (by omega) fun _ => ⟨by simp [updN], ?_⟩
      simp [updN, bsize, osize, hsz, m]) hK

theorem AOp.makeSlice {t e : TypeId} {x y : Operand} {k k' : IntKind} {l c : Int} {es bm : Nat} {Z : List AV} (hn : Nat.ble (d + 1) n = true)
    (ht : P.underlying t = some (.slice e)) (hs' : TSize P e es) (hz : TZero P e Z) (hb : TBytes P e bm) (hbm : bm ≤ 1024) (hx : ev f x = .int k l) (hy : ev f y = .int k' c) (h0 : 0 ≤ l) (h1 : l ≤ c) (h2 : c ≤ 4294967296)
    (hK : ∀ id H', H id = none → H' id = some (.row 0 (zeroRow Z (l.toNat * es))) → (∀ i, i ≠ id → H' i = H i) → K (upd f d (.slm id 0 es 0 l.toNat)) H') : AOp P n ⟨some d, .makeSlice t x y, ty, pos, after, guard⟩ K f H :=
  .fresh fun id hid => .makeSlice_at id (.inl hid) hn ht hs' hz hb hbm hx hy h0 h1 h2 (hK id _ hid (updH_same _ _ _) fun _ h => updH_ne _ _ h)

end
end Go.AH
