/- A part of the proof that a law answers true for every input of its row: own work, by an AI agent. -/
import Derived.Test.YtcpepibkopbhgaaDoorB00
import Derived.OpenShut
import Derived.Deep.Slices
import Derived.Lib.LaidTab
import Derived.Deep.OwnRows
import Derived.WideKeyArgs
import Derived.Lib.OthersKept
import Derived.Laws.BytesString
import Derived.Lib.ConvBytes
import Derived.Lib.Space
import Derived.Test.YtcpepibkopbhgaaDoorProg
import Derived.Shelf.Strconv.Atoi
import Derived.Shelf.LaysC
import Derived.Shelf.Strconv.AtoiErr
import Derived.Shelf.Strings.Cut
import Derived.Ground.GgwProg
import Derived.Shelf.GgClosure.StringsIndexFuncTop
import Derived.Shelf.Strings.Prefix
import Derived.Shelf.Strings.Split
import Derived.Shelf.Strings.Fields
import Derived.Lib.SplitLaws
import Derived.Test.YtcpepibkopbhgaaDoorCards
import Derived.Test.YtcpepibkopbhgaaDoorTie
import Derived.WalkKit
import Derived.ProofKit
import Derived.Deep.DeepHandedRow
import Derived.Deep.DeepWitnessRowRef
import Derived.Lay
import Derived.LaidSub
import Derived.MakeChecks
import Derived.Shelf.Vars
import Derived.Stop.LaidErr
import Derived.KernelRfl
import Derived.Shelf.GgClosure.StringsIndexFunc
set_option linter.unusedSimpArgs false
set_option linter.unusedVariables false
namespace Go.AH
variable [Globs]
set_option linter.unusedSectionVars false
open Go Go.Deep
def nH : Heap := fun _ => none
abbrev idM : Nat → Nat := fun i => i
theorem nH_owned {μ : Nat → Nat} {b : Nat} : ¬ Owned μ nH b := by
  rintro ⟨_, _, h, _⟩; cases h
theorem nH_HR {w : World} {μ : Nat → Nat} (hg : GOK w μ nH) : HR w μ nH where
  glob := hg
  rows := fun _ _ _ h => by cases h
  maps := fun _ _ h => by cases h
  born := fun _ _ _ _ h => by cases h
  iters := fun _ _ h => by cases h
  inj := fun _ _ _ _ h => by cases h
  fin := ⟨0, fun _ _ => rfl⟩
theorem Ext.since0 {W W' : World} {μ μ' : Nat → Nat} {H' : Heap} (h : Ext W μ nH W' μ' H') : World.Since W.heap.size W W' :=
  ⟨h.rest.2.1, h.rest.1, h.rest.2.2.1, h.size, fun k hk => (h.frz k ⟨hk, nH_owned⟩).1⟩
theorem cell_spot0 {W : World} {a : Addr} {v : Value} (h : W.cell? a = some v) : a = ⟨a.block, a.off, none⟩ ∧ a.block < W.heap.size := by
  unfold World.cell? at h
  split at h
  · rename_i c e fr hb
    have hlt : a.block < W.heap.size := (Array.getElem?_eq_some_iff.1 hb).1
    split at h
    · cases h
    · rename_i hs
      refine ⟨?_, hlt⟩
      cases a with
      | mk b o s => cases s with
        | none => rfl
        | some s => simp at hs
  · cases h
section
variable {w : World} {μ : Nat → Nat} {H : Heap}
theorem VRs.nil : VRs w μ H [] [] := ⟨rfl, fun j x y h => by simp at h⟩
theorem VRs.one {x : AV} {v : Value} (h : VR w μ H x v) : VRs w μ H [x] [v] := ⟨rfl, fun j a b h1 h2 => by
  match j with
  | 0 => simp at h1 h2; subst h1 h2; exact h
  | j + 1 => simp at h1⟩
theorem VRs.whole {xs : List AV} {cs : List Value} {n : Nat} (h : VRs w μ H xs ((cs.drop 0).take n)) (hn : cs.length = n) : VRs w μ H xs cs := by
  subst hn; simpa using h
theorem VRs.part {xs : List AV} {cs : List Value} {n : Nat} (h : VRs w μ H xs cs) (hn : cs.length = n) : VRs w μ H xs ((cs.drop 0).take n) := by
  subst hn; simpa using h
theorem VRs.agg {xs : List AV} {cs : Array Value} (h : VRs w μ H xs cs.toList) : VR w μ H (.agg xs) (.agg cs) := .agg (by simpa using h.1) fun j x y hx hy => h.2 j x y hx (by simpa using hy)
end
section
variable {D : Type} {enc : TypeId × Value → D} {P : Program} {W : World}
/-- What is read at a type stands for an abstract value of one kind. -/
def Opn (enc : TypeId × Value → D) (P : Program) (W : World) (t : TypeId) {α : Type} (e : α → List AV) (Q : α → DataW D → Prop) : Prop :=
  ∀ (sp : Nat → Bool) (held : Bool) (fuel : Nat) (cs : List Value) (x : DataW D × List MemPlace), DataW.trod enc P W 0 sp held fuel t cs = some x → ∃ v, VRs W idM nH (e v) cs ∧ Q v x.1
theorem Opn.int {t : TypeId} {k : IntKind} (ht : P.underlying t = some (.int k)) : Opn enc P W t (fun n : Int => [.int k n]) (fun n _ => (Lit.int k n).wf = true) := fun sp held fuel cs x h => by
  obtain ⟨n, rfl, rfl, hw⟩ := DataW.trod_int ht h
  exact ⟨n, .one (.int _ _), hw⟩
theorem Opn.str {t : TypeId} (ht : P.underlying t = some .string) : Opn enc P W t (fun s : ByteArray => [.str s]) (fun s d => d = .lit (.string s.data.toList)) := fun sp held fuel cs x h => by
  obtain ⟨s, rfl, rfl, hw⟩ := DataW.trod_string ht h
  exact ⟨s, .one (.str _), rfl⟩
theorem Opn.bool {t : TypeId} (ht : P.underlying t = some .bool) : Opn enc P W t (fun s : Bool => [.bool s]) (fun _ _ => True) := fun sp held fuel cs x h => by
  obtain ⟨s, rfl, rfl⟩ := DataW.trod_bool ht h
  exact ⟨s, .one (.bool _), trivial⟩
theorem Opn.imp {t : TypeId} {α : Type} {e : α → List AV} {Q Q' : α → DataW D → Prop} (h : Opn enc P W t e Q) (hq : ∀ v d, Q v d → Q' v d) : Opn enc P W t e Q' := fun sp held fuel cs x hx => by
  obtain ⟨v, h1, h2⟩ := h sp held fuel cs x hx
  exact ⟨v, h1, hq _ _ h2⟩
/-- A slice, by value. -/
theorem Opn.slice {t el : TypeId} {m : Nat} {α : Type} {e : α → List AV} {Q : α → DataW D → Prop} (ht : P.underlying t = some (.slice el)) (hm : P.cellsOf el = m) (hm0 : 0 < m) (he : Opn enc P W el e Q) :
    Opn enc P W t (fun l : List α => [.sl l.length (l.flatMap e)]) (fun l d => (l = [] ∧ d = .nil) ∨ ∃ ds sp, d = .slice ds sp ∧ l.length = ds.length ∧ ∀ x ∈ l, ∃ y ∈ ds, Q x y) := fun sp held fuel cs x h => by
  rcases Go.Deep.open_slice ht h with ⟨rfl, rfl⟩ | ⟨a, len, cap, mm, n, Dd, Pl, rfl, hb, hl, hcm, hmm, rfl, hx⟩
  · exact ⟨[], .one (.sl0 _ _), .inl ⟨rfl, rfl⟩⟩
  · rw [hm] at hx
    have hle : len ≤ mm := by rw [hmm]; split <;> omega
    have key : ∀ k, k ≤ len → ∃ l : List α, l.length = k ∧ (l.flatMap e).length = k * m ∧ (∃ ys : Nat → Value, ∀ j x, (l.flatMap e)[j]? = some x → W.cell? (a.add j) = some (ys j) ∧ VR W idM nH x (ys j)) ∧ ∀ x ∈ l, ∃ y ∈ (List.range len).map Dd, Q x y := by
      intro k
      induction k with
      | zero => intro _; exact ⟨[], rfl, by simp, ⟨fun _ => default, fun j x h => by simp at h⟩, fun _ h => by cases h⟩
      | succ k ih =>
        intro hk
        obtain ⟨l, h1, h2, ⟨ys, h3⟩, h4⟩ := ih (by omega)
        obtain ⟨cs', h5, h6⟩ := hx k (by omega)
        obtain ⟨v, h7, h8⟩ := he _ _ _ _ _ h6
        obtain ⟨_, hlen, hcell⟩ := World.cells?_some h5
        have hvl : (e v).length = m := by rw [h7.1, hlen]
        refine ⟨l ++ [v], by simp [h1], ?_, ⟨fun j => if j < k * m then ys j else cs'.getD (j - k * m) default, fun j x hj => ?_⟩, fun x hx => ?_⟩
        · rw [List.flatMap_append, List.flatMap_singleton, List.length_append, h2, hvl, Nat.add_mul]; omega
        · rw [List.flatMap_append, List.flatMap_singleton] at hj
          by_cases hjk : j < k * m
          · rw [List.getElem?_append_left (by omega)] at hj
            simp only [hjk, if_true]
            exact h3 j x hj
          · rw [List.getElem?_append_right (by omega), h2] at hj
            simp only [hjk, if_false]
            have hjl : j - k * m < cs'.length := by
              rcases Nat.lt_or_ge (j - k * m) (e v).length with g | g
              · omega
              · rw [List.getElem?_eq_none g] at hj; cases hj
            have hc := hcell (j - k * m) (by omega)
            rw [Go.Deep.add_add, show k * m + (j - k * m) = j by omega] at hc
            have hg : cs'.getD (j - k * m) default = cs'[j - k * m] := by simp [List.getD, hjl]
            refine ⟨?_, h7.2 _ _ _ hj (by rw [hg]; exact List.getElem?_eq_getElem hjl)⟩
            rw [hg, hc]; exact List.getElem?_eq_getElem hjl
        · rcases List.mem_append.1 hx with hx | hx
          · exact h4 x hx
          · simp at hx; subst hx
            exact ⟨_, List.mem_map_of_mem (List.mem_range.2 (by omega)), h8⟩
    obtain ⟨l, h1, h2, ⟨ys, h3⟩, h4⟩ := key len (Nat.le_refl _)
    refine ⟨l, .one ?_, .inr ⟨_, _, rfl, by simp [h1], h4⟩⟩
    rw [h1]
    by_cases h0 : len = 0
    · subst h0
      have : l = [] := List.eq_nil_of_length_eq_zero h1
      subst this
      exact .sl0 _ _
    · have hpos : 0 < (l.flatMap e).length := by rw [h2]; exact Nat.mul_pos (by omega) hm0
      have hc0 := (h3 0 _ (List.getElem?_eq_getElem hpos)).1
      obtain ⟨e0, hlt⟩ := cell_spot0 hc0
      have e2 : a = ⟨a.block, a.off, none⟩ := by
        have := congrArg Addr.spot e0
        cases a; simp [Addr.add] at this; subst this; rfl
      rw [e2]
      refine .sl (ys := ys) hl ⟨by simpa [Addr.add] using hlt, nH_owned⟩ (fun j x hx => ?_) (fun j x hx => (h3 j x hx).2)
      have := (h3 j x hx).1
      rw [e2] at this
      have e3 : (⟨a.block, a.off, none⟩ : Addr).add j = ⟨a.block, a.off + j, none⟩ := by
        by_cases hj : j = 0 <;> simp [Addr.add, hj]
      rw [e3] at this
      exact this
end
end Go.AH
namespace Go.AH
variable [Globs]
set_option linter.unusedSectionVars false
open Go Go.Lib

/-! ### Worlds that only go on -/
theorem old_Ext {w w' : World} {μ : Nat → Nat} {H : Heap} (hr : HR w μ H) (hs : w.heap.size ≤ w'.heap.size) (hold : ∀ b, b < w.heap.size → w'.heap[b]? = w.heap[b]?) (hrest : Rest w w') : Ext w μ H w' μ H ∧ HR w' μ H := by
  have hlt : ∀ id B, H id = some B → B.live = true → μ id < w.heap.size := fun id B h1 h2 => hr.lt h1 h2
  have he : Ext w μ H w' μ H := by
    refine ⟨hs, fun b hb => ⟨hold b hb.1, hb.2⟩, fun _ _ h => h, fun id ver _ ha => ⟨ha, rfl, ?_⟩, fun _ h => ⟨h, rfl⟩, fun _ h => ⟨h, rfl⟩, hrest⟩
    obtain ⟨c, hc⟩ := ha
    simp only [bsize, hold _ (hlt _ _ hc rfl)]
  refine ⟨he, ⟨fun id ver cells hi => ?_, fun id es hi => ?_, fun id es ents clock hi hw => ?_, fun id it hi => ?_, hr.inj, hr.fin, hr.glob.ext he⟩⟩
  · obtain ⟨cs, T, h1, h2, h3⟩ := hr.rows id ver cells hi
    exact ⟨cs, T, by rw [hold _ (hlt _ _ hi rfl)]; exact h1, h2, fun j x hx => let ⟨y, g1, g2⟩ := h3 j x hx; ⟨y, g1, g2.ext he⟩⟩
  · obtain ⟨h0, en, c, h1, h2, h3⟩ := hr.maps id es hi
    exact ⟨h0, en, c, by rw [hold _ (hlt _ _ hi rfl)]; exact h1, h2, fun j x e hx hy => ⟨(h3 j x e hx hy).1.ext he, (h3 j x e hx hy).2.ext he⟩⟩
  · rw [hold _ (hlt _ _ hi rfl)] at hw
    exact hr.born id es ents clock hi hw
  · rw [hold _ (hlt _ _ hi rfl)]
    exact hr.iters id it hi
theorem PC.lib {P : Program} {g : FuncId} {args : List AV} {r : AV}
    (h : ∀ (H : Heap) μ w (vs : Array Value), HR w μ H → VRs w μ H args vs.toList → Calls P g vs w fun e w' => ∃ v, e = .returned v ∧ w.heap.size ≤ w'.heap.size ∧ (∀ b, b < w.heap.size → w'.heap[b]? = w.heap[b]?) ∧ Rest w w' ∧ VR w' μ H r v) : PC P g args r :=
  fun H μ w vs hr hv => (h H μ w vs hr hv).mono fun e w' ⟨v, he, h1, h2, h3, h4⟩ => by
    obtain ⟨e1, e2⟩ := old_Ext hr h1 h2 h3
    exact ⟨v, he, μ, H, r, e2, h4, e1, rfl, .refl _⟩
theorem vs1 {w : World} {μ : Nat → Nat} {H : Heap} {x : AV} {vs : Array Value} (h : VRs w μ H [x] vs.toList) : ∃ v, vs = #[v] ∧ VR w μ H x v := by
  obtain ⟨h1, h2⟩ := h
  match vs, h1, h2 with
  | ⟨[a]⟩, _, h2 => exact ⟨a, rfl, h2 0 _ _ rfl rfl⟩
theorem vs2 {w : World} {μ : Nat → Nat} {H : Heap} {x y : AV} {vs : Array Value} (h : VRs w μ H [x, y] vs.toList) : ∃ u v, vs = #[u, v] ∧ VR w μ H x u ∧ VR w μ H y v := by
  obtain ⟨h1, h2⟩ := h
  match vs, h1, h2 with
  | ⟨[a, b]⟩, _, h2 => exact ⟨a, b, rfl, h2 0 _ _ rfl rfl, h2 1 _ _ rfl rfl⟩
theorem vstr {w : World} {μ : Nat → Nat} {H : Heap} {s : ByteArray} {v : Value} (h : VR w μ H (.str s) v) : v = .string s := by cases h; rfl
/-- A new row of strings behind all there is. -/
theorem VR.strs {w w' : World} {μ : Nat → Nat} {H : Heap} (hr : HR w μ H) {l : List ByteArray} {T : TypeId} {fr : Nat × Nat} (h : w'.heap[w.heap.size]? = some (.cells (l.map Value.string).toArray T fr)) :
    VR w' μ H (.sl l.length (l.map fun x => .str x)) (.slice (some ⟨w.heap.size, 0, none⟩) l.length l.length) := by
  refine .sl (ys := fun j => .string (l.getD j ByteArray.empty)) (Nat.le_refl _) ⟨(Array.getElem?_eq_some_iff.1 h).1, fun ⟨id, B, h1, h2, h3⟩ => ?_⟩ (fun j x hx => ?_) fun j x hx => ?_
  · have := hr.lt h1 h2; omega
  · rw [List.getElem?_map, Option.map_eq_some_iff] at hx
    obtain ⟨z, hz, rfl⟩ := hx
    simp only [World.cell?, h, Option.isSome_none, Bool.false_eq_true, if_false]
    simp [hz, List.getD]
  · rw [List.getElem?_map, Option.map_eq_some_iff] at hx
    obtain ⟨z, hz, rfl⟩ := hx
    have : l.getD j ByteArray.empty = z := by simp [List.getD, hz]
    rw [this]; exact .str _

section
variable {P : Program} {n : Nat} {f : Nat → AV} {H : Heap} {K : (Nat → AV) → Heap → Prop} {ty : TypeId} {pos : String} {after : Array Edge} {guard : Option (Nat × Bool)} {d : Nat}

/-! ### Strings: operations -/
/-- A byte. -/
def byt (s : ByteArray) (i : Int) : Int := ((s.data.toList.getD i.toNat 0).toNat : Int)
theorem byt_rng (s : ByteArray) (i : Int) : 0 ≤ byt s i ∧ byt s i ≤ 255 := by
  unfold byt
  have := (s.data.toList.getD i.toNat 0).toNat_lt
  omega
theorem byt_at {s : ByteArray} {i : Int} (h : i.toNat < s.size) : byt s i = (s[i.toNat]'h).toNat := by
  have hh : i.toNat < s.data.size := h
  unfold byt
  rw [List.getD_eq_getElem?_getD, Array.getElem?_toList, Array.getElem?_eq_getElem hh]
  rfl
theorem AOp.indexB {t : TypeId} {x ix : Operand} {k : IntKind} {i : Int} {s : ByteArray} (hn : Nat.ble (d + 1) n = true) (hx : ev f x = .str s) (hi : ev f ix = .int k i)
    (ht : P.underlying t = some .string) (h0 : 0 ≤ i) (h1 : i < s.size) (hK : K (upd f d (.int .u8 (byt s i))) H) : AOp P n ⟨some d, .index t x ix, ty, pos, after, guard⟩ K f H :=
  .indexStr hn hx hi ht h0 (by omega) (by rw [← byt_at]; exact hK)
theorem toList_eq {p q : ByteArray} : (p.toList == q.toList) = decide (p = q) := by
  by_cases h : p = q
  · subst h; simp
  · rw [decide_eq_false h]
    refine beq_eq_false_iff_ne.2 fun e => h ?_
    have e2 : p.data.toList = q.data.toList := by
      rw [← ByteArray.toList_eq, ← ByteArray.toList_eq]; exact e
    cases p; cases q
    simp only [ByteArray.mk.injEq]
    exact Array.toList_inj.1 e2
theorem AOp.sneD {t t' : TypeId} {x y : Operand} {p q : ByteArray} (hn : Nat.ble (d + 1) n = true) (hx : ev f x = .str p) (hy : ev f y = .str q)
    (hK : K (upd f d (.bool (!decide (p = q)))) H) : AOp P n ⟨some d, .binOp .neq t x y t', ty, pos, after, guard⟩ K f H := .sne hn hx hy (by rw [toList_eq]; exact hK)
theorem wrap8 {p : Int} (h : 0 ≤ p ∧ p ≤ 255) : IntKind.wrap .u8 p = p := by simp [IntKind.wrap, IntKind.bits, IntKind.signed]; omega
theorem run_ifnil {w : World} {t : TypeId} (h : ∃ ms, P.underlying t = some (.interface ms)) (b : Bool) (v : Value) (hv : (v = .nilIface ∧ b = false) ∨ ∃ T y, v = .iface T y ∧ b = true) : (Op.equal t v .nilIface).run P w = .ok (!b) w := by
  obtain ⟨ms, h⟩ := h
  have e : Op.equal t v .nilIface = Op.equalIn (9999 + 1) t v .nilIface := rfl
  rw [e, Op.equalIn]
  rcases hv with ⟨rfl, rfl⟩ | ⟨T, y, rfl, rfl⟩ <;> (rw [Sem.run_bind, run_under h]; rfl)
theorem AOp.ifnil {t t' : TypeId} {x : Operand} {v : AV} {b : Bool} (hn : Nat.ble (d + 1) n = true) (hx : ev f x = v) (ht : ∃ ms, P.underlying t = some (.interface ms)) (hv : (v = .nilIface ∧ b = false) ∨ ∃ T y, v = .iface T y ∧ b = true)
    (hK : K (upd f d (.bool b)) H) : AOp P n ⟨some d, .binOp .neq t x (.const .nilIface) t', ty, pos, after, guard⟩ K f H :=
  .pureV _ hn (fun μ a w hs => by
    have h1 := hs.ev x; rw [hx] at h1
    rcases hv with ⟨rfl, rfl⟩ | ⟨T, y, rfl, rfl⟩
    · generalize hz : a.eval x = z at h1
      cases h1
      have h2 := run_ifnil (P := P) (w := w) ht false .nilIface (.inl ⟨rfl, rfl⟩)
      refine ⟨.bool false, ?_, .bool _⟩
      have hc : a.eval (.const .nilIface) = .nilIface := rfl
      simp [execOp, hz, hc, binOp, h2, eqGuard_nil_constR]
    · generalize hz : a.eval x = z at h1
      cases h1
      rename_i vv _
      have h2 := run_ifnil (P := P) (w := w) ht true (.iface T vv) (.inr ⟨_, _, rfl, rfl⟩)
      have hc : a.eval (.const .nilIface) = .nilIface := rfl
      exact ⟨.bool true, by simp [execOp, hz, hc, binOp, h2, eqGuard_at_iface], .bool _⟩) hK

/-! ### Bytes to a string -/
def bytesB (l : List Int) : ByteArray := ⟨(l.map fun n => UInt8.ofNat n.toNat).toArray⟩
theorem bytesB_fold (l : List Int) : ∀ s : ByteArray, l.foldl (fun r n => r.push (UInt8.ofNat n.toNat)) s = ⟨s.data ++ (l.map fun n => UInt8.ofNat n.toNat).toArray⟩ := by
  induction l with
  | nil => intro s; simp
  | cons a l ih => intro s; rw [List.foldl_cons, ih]; simp [ByteArray.push]
theorem CR.ints {w : World} {μ : Nat → Nat} {H : Heap} {k : IntKind} {l : List Int} {vs : Array Value} (h : CR w μ H (l.map fun x => .int k x) vs) : vs = (l.map (Value.int k)).toArray := by
  obtain ⟨h1, h2⟩ := h
  apply Array.ext_getElem?
  intro j
  have hl : l.length = vs.size := by simpa using h1
  rcases Nat.lt_or_ge j l.length with hj | hj
  · obtain ⟨y, y1, y2⟩ := h2 j (.int k l[j]) (by simp [hj])
    rw [y1]
    cases y2
    simp [hj]
  · rw [Array.getElem?_eq_none (by omega)]; simp [hj]
theorem AOp.bytesS {s t e : TypeId} {x : Operand} {l : List Int} {v : AV} (hn : Nat.ble (d + 1) n = true) (hx : ev f x = v) (hv : Src H 1 v l.length (l.map fun x => .int .u8 x))
    (hs' : P.underlying s = some (.slice e)) (he : P.underlying e = some (.int .u8)) (ht : P.underlying t = some .string)
    (hK : K (upd f d (.str (bytesB l))) H) : AOp P n ⟨some d, .convert s t x, ty, pos, after, guard⟩ K f H :=
  .pureV _ hn (fun μ a w hs => by
    have h1 := hs.ev x; rw [hx] at h1
    obtain ⟨e1, e2, vs, e3, e4⟩ := hv.run (P := P) hs.hr h1
    have := CR.ints e4
    subst this
    refine ⟨.string (bytesB l), ?_, .str _⟩
    generalize hz : a.eval x = z at h1 e1 e3
    have hz' : ∃ a len cap, z = .slice a len cap := by
      clear e2 e4 hK e1 e3
      generalize l.length = m at hv
      generalize l.map (fun x => AV.int .u8 x) = cs at hv
      cases hv <;> cases h1 <;> exact ⟨_, _, _, rfl⟩
    obtain ⟨b, len, cap, rfl⟩ := hz'
    have hlen : len = l.length := by
      simp only [Builtin.lenOf, Sem.run_pure, Result.ok.injEq] at e1
      exact e1.1
    subst hlen
    have key : (convert s t (.slice b l.length cap)).run P w = .ok (.string (bytesB l)) w := by
      rw [run_convert_bytes_string w s t e _ _ _ hs' he ht]
      cases b with
      | none =>
        simp only [Builtin.firstCells, Sem.run_pure, Result.ok.injEq] at e3
        have : l = [] := by
          have h := congrArg Array.size e3.1
          cases l with
          | nil => rfl
          | cons => simp at h
        subst this
        rfl
      | some b =>
        simp only [Builtin.firstCells, Nat.mul_one] at e3
        rw [run_bytesToString w _ _ _ l e3, bytesB_fold]
        simp [bytesB]
    simp [execOp, hz, key]) hK
theorem Own.src {H0 H : Heap} {es : Nat} {v : AV} {len : Nat} {cells : List AV} (h : Own H0 H es v len cells) : Src H es v len cells := by
  rcases h with ⟨rfl, rfl, rfl⟩ | ⟨id, ver, rfl, h2, _, h4⟩
  · exact .nil
  · have := Src.slm (es := es) (off := 0) (m := len) h2 (Nat.ble_eq_true_of_le (by omega))
    rw [List.drop_zero, List.take_of_length_le (by omega)] at this
    exact this

/-! ### Ranging over a string -/
theorem newiterS {w : World} {μ : Nat → Nat} (hr : HR w μ H) {id p : Nat} {s : ByteArray} (hid : H id = none ∨ H id = some .res) :
    HR { w with heap := w.heap.push (.stringIter s p) } (updN μ id w.heap.size) (updH H id (.iter (.str s p))) := by
  have he := newblock hr hid (o := .stringIter s p) (B := .iter (.str s p))
  refine hr.change he (fun i => updH_eq _ _ _ _) (fun i hi => by simp [updN, hi]) ?_ ?_ ?_ ?_ ?_ ?_
  · intro _ i C _ hi hC
    have := hr.lt hi hC
    simp only [updN, if_true]; omega
  · intro i C _ hi hC
    have := hr.lt hi hC
    rw [Array.getElem?_push, if_neg (Nat.ne_of_lt this)]
  · intro ver c hB; cases hB
  · intro es h; cases h
  · intro es _ _ h; cases h
  · intro it h
    cases h
    exact ⟨by simp [updN, It.obj], fun m' n' seen' e => by cases e⟩
theorem AOp.rangeS {t : TypeId} {x : Operand} {s : ByteArray} (hn : Nat.ble (d + 1) n = true) (hx : ev f x = .str s) (ht : P.underlying t = some .string)
    (hK : ∀ id H', H id = none → H' id = some (.iter (.str s 0)) → (∀ i, i ≠ id → H' i = H i) → K (upd f d (.it id)) H') : AOp P n ⟨some d, .range t x, ty, pos, after, guard⟩ K f H :=
  .fresh fun id hid => .value _ _ hn (fun μ a w hs => by
    have h1 := hs.ev x
    rw [hx] at h1
    have h2 := vstr h1
    refine ⟨.pointer (some ⟨w.heap.size, 0, none⟩), { w with heap := w.heap.push (.stringIter s 0) }, updN μ id w.heap.size, ?_, newblock hs.hr (.inl hid), newiterS hs.hr (.inl hid), ?_⟩
    · have e := run_range_string w t s ht
      simp only [execOp, h2, Sem.run_bind, e, Result.andThen_ok]
      rfl
    · have := VR.iter (w := { w with heap := w.heap.push (.stringIter s 0) }) (μ := updN μ id w.heap.size) (H := updH H id (.iter (.str s 0))) (id := id) ⟨_, by rw [updH_eq, if_pos rfl]⟩
      simpa [updN] using this) (hK id _ hid (updH_same _ _ _) fun _ h => updH_ne _ _ h)
theorem setiterS {w : World} {μ : Nat → Nat} (hr : HR w μ H) {id p p' : Nat} {s : ByteArray} (hid : H id = some (.iter (.str s p))) :
    Ext w μ H (w.iterAt (μ id) s p') μ (updH H id (.iter (.str s p'))) ∧ HR (w.iterAt (μ id) s p') μ (updH H id (.iter (.str s p'))) := by
  have hoth : ∀ b, b ≠ μ id → (w.iterAt (μ id) s p').heap[b]? = w.heap[b]? := fun b h => iterAt_other w _ b s p' h
  have hlt := hr.lt hid rfl
  have he : Ext w μ H (w.iterAt (μ id) s p') μ (updH H id (.iter (.str s p'))) := by
    refine ⟨by rw [iterAt_size]; exact Nat.le_refl _, fun b h => ⟨?_, ?_⟩, fun i v hk => ?_, fun i v hk ha => ?_, fun i hm => ?_, fun i hm => ?_, ⟨rfl, rfl, rfl, fun _ => Nat.le_refl _⟩⟩
    · exact hoth b fun e => h.2 ⟨id, _, hid, rfl, e.symm⟩
    · rintro ⟨i, B, h1, h2, h3⟩
      rw [updH_eq] at h1
      by_cases g : i = id
      · subst g; exact h.2 ⟨i, _, hid, rfl, h3⟩
      · rw [if_neg g] at h1; exact h.2 ⟨i, B, h1, h2, h3⟩
    · obtain ⟨B, v', h1, h2, h3⟩ := hk
      by_cases g : i = id
      · subst g
        rw [hid] at h1; cases h1
        cases h2
        exact ⟨_, 0, by rw [updH_eq, if_pos rfl], rfl, h3⟩
      · exact ⟨B, v', by rw [updH_eq, if_neg g]; exact h1, h2, h3⟩
    · obtain ⟨c, ha⟩ := ha
      rw [updH_eq] at ha
      by_cases g : i = id
      · rw [if_pos g] at ha; cases ha
      · rw [if_neg g] at ha
        refine ⟨⟨c, ha⟩, rfl, ?_⟩
        have hne : μ i ≠ μ id := fun e => g (hr.inj i id _ _ ha hid rfl rfl e)
        simp only [bsize, hoth _ hne]
    · obtain ⟨es0, hm⟩ := hm
      have g : i ≠ id := by rintro rfl; rw [hid] at hm; cases hm
      exact ⟨⟨es0, by rw [updH_eq, if_neg g]; exact hm⟩, rfl⟩
    · obtain ⟨it, hm⟩ := hm
      by_cases g : i = id
      · exact ⟨⟨_, by rw [updH_eq, if_pos g]⟩, rfl⟩
      · exact ⟨⟨it, by rw [updH_eq, if_neg g]; exact hm⟩, rfl⟩
  refine ⟨he, hr.change he (fun i => updH_eq _ _ _ _) (fun _ _ => rfl) ?_ ?_ ?_ ?_ ?_ ?_⟩
  · intro _ i C g hi hC e
    exact g (hr.inj i id C _ hi hid hC rfl e.symm)
  · intro i C g hi hC
    exact hoth _ fun e => g (hr.inj i id C _ hi hid hC rfl e)
  · intro v c hB; cases hB
  · intro e hB; cases hB
  · intro es _ _ h; cases h
  · intro it h
    cases h
    exact ⟨iterAt_heap w _ s p p' (hr.iters id _ hid).1, fun m' n' seen2 e => by cases e⟩
theorem AOp.nextS {x : Operand} {id p : Nat} {s : ByteArray} (hn : Nat.ble (d + 1) n = true) (hx : ev f x = .it id) (hid : H id = some (.iter (.str s p)))
    (hno : s.size ≤ p → K (upd f d (.tup [.bool false])) H)
    (hyes : ∀ H', p < s.size → H' id = some (.iter (.str s (p + (Utf8.decode s p).2))) → (∀ i, i ≠ id → H' i = H i) → K (upd f d (.tup [.bool true, .int .i64 p, .int .i32 (Utf8.decode s p).1])) H') : AOp P n ⟨some d, .next x true, ty, pos, after, guard⟩ K f H :=
  .values hn (fun μ a w hs => by
    have h1 := hs.ev x
    rw [hx] at h1
    have hp : a.eval x = .pointer (some ⟨μ id, 0, none⟩) := by
      generalize a.eval x = zz at h1
      cases h1
      rfl
    have i1 := (hs.hr.iters id _ hid).1
    by_cases hlt : p < s.size
    · obtain ⟨s1, s2⟩ := setiterS (p' := p + (Utf8.decode s p).2) hs.hr hid
      refine ⟨_, _, _, _, μ, by simp only [execOp, hp, Sem.run_map, Sem.run_bind, run_next_any_at (P := P) w (μ id) s p ty i1 hlt, Result.andThen_ok]; rfl, s1, s2, .tup (cells := [.bool true, .int .i64 p, .int .i32 (Utf8.decode s p).1]) rfl ?_, hyes _ hlt (updH_same _ _ _) fun _ h => updH_ne _ _ h⟩
      intro k x y hx hy
      match k, hx, hy with
      | 0, hx, hy => cases hx; cases hy; exact .bool _
      | 1, hx, hy => cases hx; cases hy; exact .int _ _
      | 2, hx, hy => cases hx; cases hy; exact .int _ _
      | n + 3, hx, _ => simp at hx
    · refine ⟨_, H, .tuple #[.bool false], w, μ, by simp [execOp, hp, run_next_end_at (P := P) w (μ id) s p ty i1 hlt], .refl _ _ _, hs.hr, .tup (cells := [.bool false]) rfl ?_, hno (by omega)⟩
      intro k x y hx hy
      match k, hx, hy with
      | 0, hx, hy => cases hx; cases hy; exact .bool _
      | n + 1, hx, _ => simp at hx)
end
end Go.AH
namespace Go.Proofs.L
open Go Go.AH
set_option maxRecDepth 4000
set_option linter.unusedSectionVars false
/-- What the library's variables hold. -/
class LexG where
  cm : Array Value
  m : Int
  hm : cm[0]? = some (.int .i64 m)
  ce : Array Value
  e : Value
  hce : ce[0]? = some e
  he : e = .nilIface ∨ ∃ te pe, e = .iface te pe
def lexBlk [LexG] : Nat → Option (Array Value) := fun g => if g = 0 then some (Lib.asciiSpaceTab.map fun z => Value.int .u8 z).toArray else if g = 2 then some LexG.cm else if g = 3 then some LexG.ce else none
instance instG [LexG] : Globs := { val := fun _ => none, blk := lexBlk }
variable [LexG]
def eStr (x : ByteArray) : AV := .str x
def eI_u8 (x : Int) : AV := .int .u8 x
theorem ui48 : ∃ ms, Tryd.prog.underlying 48 = some (.interface ms) := ⟨_, rfl⟩
structure LineT where
  No : Int
  Words : (List ByteArray)
  deriving Inhabited
def eLine (x : LineT) : List AV := [.int .i64 x.No, .sl x.Words.length (x.Words.map eStr)]
theorem eLine_len (x : LineT) : (eLine x).length = 2 := rfl
theorem u_3 : Tryd.prog.underlying 3 = some (.int .i64) := rfl
theorem ty_3 : TY Tryd.prog 3 false 1 := ⟨⟨_, rfl, rfl⟩, _, rfl, rfl⟩
theorem ts_3 : TSize Tryd.prog 3 1 := ty_3.size
theorem u_4 : Tryd.prog.underlying 4 = some (.bool) := rfl
theorem u_5 : Tryd.prog.underlying 5 = some (.int .u8) := rfl
theorem ty_5 : TY Tryd.prog 5 false 1 := ⟨⟨_, rfl, rfl⟩, _, rfl, rfl⟩
theorem ts_5 : TSize Tryd.prog 5 1 := ty_5.size
theorem tz_5 : TZero Tryd.prog 5 [.int .u8 0] := ⟨_, _, rfl, rfl, rfl⟩
theorem tzn_5 : TZn Tryd.prog 5 1 := ⟨_, _, rfl, rfl, rfl, rfl⟩
theorem tb_5 : TBytes Tryd.prog 5 1 := ⟨_, rfl, Nat.le_refl _⟩
theorem u_9 : Tryd.prog.underlying 9 = some (.string) := rfl
theorem ty_9 : TY Tryd.prog 9 false 1 := ⟨⟨_, rfl, rfl⟩, _, rfl, rfl⟩
theorem ts_9 : TSize Tryd.prog 9 1 := ty_9.size
theorem tz_9 : TZero Tryd.prog 9 [.str ⟨#[]⟩] := ⟨_, _, rfl, rfl, rfl⟩
theorem u_23 : Tryd.prog.underlying 23 = some (.slice 35) := rfl
theorem ni_23 : NotInt Tryd.prog 23 := ⟨_, rfl, rfl⟩
theorem sl_23 : TSlice Tryd.prog 23 2 := ⟨35, rfl, _, rfl, rfl⟩
theorem u_33 : Tryd.prog.underlying 33 = some (.slice 9) := rfl
theorem ty_33 : TY Tryd.prog 33 false 1 := ⟨⟨_, rfl, rfl⟩, _, rfl, rfl⟩
theorem ts_33 : TSize Tryd.prog 33 1 := ty_33.size
theorem sl_33 : TSlice Tryd.prog 33 1 := ⟨9, rfl, _, rfl, rfl⟩
theorem ty_35 : TY Tryd.prog 35 true 2 := ⟨⟨_, rfl, rfl⟩, _, rfl, rfl⟩
theorem ts_35 : TSize Tryd.prog 35 2 := ty_35.size
theorem tz_35 : TZero Tryd.prog 35 [.int .i64 0, .snil] := ⟨_, _, rfl, rfl, rfl⟩
theorem tzn_35 : TZn Tryd.prog 35 2 := ⟨_, _, rfl, rfl, rfl, rfl⟩
theorem tb_35 : TBytes Tryd.prog 35 32 := ⟨_, rfl, Nat.le_refl _⟩
theorem fl_35_0 : TField Tryd.prog 35 0 0 false 1 := ⟨_, _, rfl, rfl, rfl, ty_3, by decide⟩
theorem fl_35_1 : TField Tryd.prog 35 1 1 false 1 := ⟨_, _, rfl, rfl, rfl, ty_33, by decide⟩
theorem pl_35 : TPlaces Tryd.prog 35 (lookupL [(0, 1), (1, 1)]) := .inl ⟨_, rfl, fun j => match j with
    | 0 => .inr ⟨_, _, rfl, ts_3, rfl⟩
    | 1 => .inr ⟨_, _, rfl, ts_33, rfl⟩
    | j + 2 => .inl ⟨rfl, by simp⟩⟩
theorem u_45 : Tryd.prog.underlying 45 = some (.slice 5) := rfl
theorem ni_45 : NotInt Tryd.prog 45 := ⟨_, rfl, rfl⟩
theorem sl_45 : TSlice Tryd.prog 45 1 := ⟨5, rfl, _, rfl, rfl⟩
theorem tf_9 : TFun Tryd.prog 9 := ⟨_, rfl, rfl, rfl⟩
theorem tf_10 : TFun Tryd.prog 10 := ⟨_, rfl, rfl, rfl⟩
theorem tf_13 : TFun Tryd.prog 13 := ⟨_, rfl, rfl, rfl⟩
theorem tf_15 : TFun Tryd.prog 15 := ⟨_, rfl, rfl, rfl⟩
theorem tf_17 : TFun Tryd.prog 17 := ⟨_, rfl, rfl, rfl⟩
theorem tf_18 : TFun Tryd.prog 18 := ⟨_, rfl, rfl, rfl⟩
theorem tf_20 : TFun Tryd.prog 20 := ⟨_, rfl, rfl, rfl⟩
theorem tf_21 : TFun Tryd.prog 21 := ⟨_, rfl, rfl, rfl⟩
theorem tf_27 : TFun Tryd.prog 27 := ⟨_, rfl, rfl, rfl⟩
theorem mixed : Tryd.prog.follows .mixedOrders = true := rfl
theorem tf_19 : TFun Tryd.prog 19 := ⟨_, rfl, rfl, rfl⟩
theorem tf_22 : TFun Tryd.prog 22 := ⟨_, rfl, rfl, rfl⟩
theorem tf_23 : TFun Tryd.prog 23 := ⟨_, rfl, rfl, rfl⟩
theorem tf_24 : TFun Tryd.prog 24 := ⟨_, rfl, rfl, rfl⟩
theorem tf_25 : TFun Tryd.prog 25 := ⟨_, rfl, rfl, rfl⟩
end Go.Proofs.L
namespace Go.Proofs
open Go.Shelf
def Tryd.lays172_ren : Go.Shelf.Ren := ⟨fun | 172 => 25 | 244 => 32 | 245 => 33 | 247 => 40 | 279 => 41 | 280 => 42 | 281 => 43 | 282 => 44 | 287 => 54 | 316 => 55 | 171 => 57 | 205 => 56 | 321 => 61 | 322 => 62 | 243 => 63 | 246 => 64 | 283 => 65 | 284 => 66 | 285 => 67 | 286 => 68 | 129 => 70 | 317 => 69 | 318 => 71 | 319 => 72 | 320 => 73 | 337 => 74 | 338 => 75 | n => n, fun | 9 => 9 | 3 => 3 | 75 => 48 | 76 => 49 | 4 => 4 | 5 => 5 | 167 => 64 | 37 => 45 | 0 => 0 | 85 => 65 | 2 => 2 | 168 => 67 | 53 => 87 | 175 => 88 | 46 => 75 | 210 => 92 | 127 => 99 | 145 => 102 | 143 => 100 | 21 => 21 | 171 => 107 | 173 => 110 | 212 => 113 | 51 => 61 | 20 => 20 | 213 => 114 | 232 => 117 | 233 => 118 | 80 => 119 | n => n, fun | 15 => 3 | 16 => 4 | 17 => 7 | 18 => 8 | 19 => 9 | n => n⟩
theorem Tryd.lays172 : Go.Proofs.Lays.n172 Tryd.prog Tryd.lays172_ren := {
  mixed := by kernel_rfl
  f129 := Tryd.func70.trans (congrArg some (by kernel_rfl))
  f171 := Tryd.func57.trans (congrArg some (by kernel_rfl))
  f172 := Tryd.func25.trans (congrArg some (by kernel_rfl))
  f205 := Tryd.func56.trans (congrArg some (by kernel_rfl))
  f243 := Tryd.func63.trans (congrArg some (by kernel_rfl))
  f244 := Tryd.func32.trans (congrArg some (by kernel_rfl))
  f245 := Tryd.func33.trans (congrArg some (by kernel_rfl))
  f246 := Tryd.func64.trans (congrArg some (by kernel_rfl))
  f247 := Tryd.func40.trans (congrArg some (by kernel_rfl))
  f279 := Tryd.func41.trans (congrArg some (by kernel_rfl))
  f280 := Tryd.func42.trans (congrArg some (by kernel_rfl))
  f281 := Tryd.func43.trans (congrArg some (by kernel_rfl))
  f282 := Tryd.func44.trans (congrArg some (by kernel_rfl))
  f283 := Tryd.func65.trans (congrArg some (by kernel_rfl))
  f284 := Tryd.func66.trans (congrArg some (by kernel_rfl))
  f285 := Tryd.func67.trans (congrArg some (by kernel_rfl))
  f286 := Tryd.func68.trans (congrArg some (by kernel_rfl))
  f287 := Tryd.func54.trans (congrArg some (by kernel_rfl))
  f316 := Tryd.func55.trans (congrArg some (by kernel_rfl))
  f317 := Tryd.func69.trans (congrArg some (by kernel_rfl))
  f318 := Tryd.func71.trans (congrArg some (by kernel_rfl))
  f319 := Tryd.func72.trans (congrArg some (by kernel_rfl))
  f320 := Tryd.func73.trans (congrArg some (by kernel_rfl))
  f321 := Tryd.func61.trans (congrArg some (by kernel_rfl))
  f322 := Tryd.func62.trans (congrArg some (by kernel_rfl))
  f337 := Tryd.func74.trans (congrArg some (by kernel_rfl))
  f338 := Tryd.func75.trans (congrArg some (by kernel_rfl))
  t0 := Tryd.underlying0
  a0 := Tryd.isAgg0
  z0 := Tryd.sizeOf0
  v0 := Tryd.zeroValue0
  t2 := Tryd.underlying2
  a2 := Tryd.isAgg2
  z2 := Tryd.sizeOf2
  v2 := Tryd.zeroValue2
  t3 := Tryd.underlying3
  a3 := Tryd.isAgg3
  z3 := Tryd.sizeOf3
  v3 := Tryd.zeroValue3
  t4 := Tryd.underlying4
  a4 := Tryd.isAgg4
  z4 := Tryd.sizeOf4
  v4 := Tryd.zeroValue4
  t5 := Tryd.underlying5
  a5 := Tryd.isAgg5
  z5 := Tryd.sizeOf5
  v5 := Tryd.zeroValue5
  t9 := Tryd.underlying9
  a9 := Tryd.isAgg9
  z9 := Tryd.sizeOf9
  v9 := Tryd.zeroValue9
  t20 := Tryd.underlying20
  a20 := Tryd.isAgg20
  z20 := Tryd.sizeOf20
  v20 := Tryd.zeroValue20
  t21 := Tryd.underlying21
  a21 := Tryd.isAgg21
  z21 := Tryd.sizeOf21
  v21 := Tryd.zeroValue21
  t37 := Tryd.underlying45
  a37 := Tryd.isAgg45
  z37 := Tryd.sizeOf45
  v37 := Tryd.zeroValue45
  t46 := Tryd.underlying75
  a46 := Tryd.isAgg75
  z46 := Tryd.sizeOf75
  v46 := Tryd.zeroValue75
  t51 := Tryd.underlying61
  a51 := Tryd.isAgg61
  z51 := Tryd.sizeOf61
  v51 := Tryd.zeroValue61
  t53 := Tryd.underlying87
  a53 := Tryd.isAgg87
  z53 := Tryd.sizeOf87
  v53 := Tryd.zeroValue87
  t75 := Tryd.underlying48
  a75 := Tryd.isAgg48
  z75 := Tryd.sizeOf48
  v75 := Tryd.zeroValue48
  t76 := Tryd.underlying49
  a76 := Tryd.isAgg49
  z76 := Tryd.sizeOf49
  v76 := Tryd.zeroValue49
  t85 := Tryd.underlying65
  a85 := Tryd.isAgg65
  z85 := Tryd.sizeOf65
  v85 := Tryd.zeroValue65
  t127 := Tryd.underlying99
  a127 := Tryd.isAgg99
  z127 := Tryd.sizeOf99
  v127 := Tryd.zeroValue99
  t143 := Tryd.underlying100
  a143 := Tryd.isAgg100
  z143 := Tryd.sizeOf100
  v143 := Tryd.zeroValue100
  t145 := Tryd.underlying102
  a145 := Tryd.isAgg102
  z145 := Tryd.sizeOf102
  v145 := Tryd.zeroValue102
  t167 := Tryd.underlying64
  a167 := Tryd.isAgg64
  z167 := Tryd.sizeOf64
  v167 := Tryd.zeroValue64
  t168 := Tryd.underlying67
  a168 := Tryd.isAgg67
  z168 := Tryd.sizeOf67
  v168 := Tryd.zeroValue67
  t171 := Tryd.underlying107
  a171 := Tryd.isAgg107
  z171 := Tryd.sizeOf107
  v171 := Tryd.zeroValue107
  t173 := Tryd.underlying110
  a173 := Tryd.isAgg110
  z173 := Tryd.sizeOf110
  v173 := Tryd.zeroValue110
  t175 := Tryd.underlying88
  a175 := Tryd.isAgg88
  z175 := Tryd.sizeOf88
  v175 := Tryd.zeroValue88
  t210 := Tryd.underlying92
  a210 := Tryd.isAgg92
  z210 := Tryd.sizeOf92
  v210 := Tryd.zeroValue92
  t212 := Tryd.underlying113
  a212 := Tryd.isAgg113
  z212 := Tryd.sizeOf113
  v212 := Tryd.zeroValue113
  t213 := Tryd.underlying114
  a213 := Tryd.isAgg114
  z213 := Tryd.sizeOf114
  t232 := Tryd.underlying117
  a232 := Tryd.isAgg117
  z232 := Tryd.sizeOf117
  v232 := Tryd.zeroValue117
  t233 := Tryd.underlying118
  a233 := Tryd.isAgg118
  z233 := Tryd.sizeOf118
  v233 := Tryd.zeroValue118
  g15 := by kernel_rfl
  g16 := by kernel_rfl
  g17 := by kernel_rfl
  g18 := by kernel_rfl
  g19 := by kernel_rfl }
open Go.RowKit in
/-- strconv.Atoi: "Atoi is equivalent to ParseInt(s, 10, 0), converted to type int.": AT A DECIMAL NUMERAL OF AT MOST 18 BYTES: its value, and a nil error. The world behind the call: the one new row that the library's '[]byte(s)' lays. (LAID: no walk: one application.) -/
theorem Tryd.strconv_Atoi (s : ByteArray) (n : Int) (hl : s.size ≤ 18) (h : Lib.atoi s.data.toList = some n) (w : World) :
    Calls Tryd.prog 25 #[.string s] w fun e w' => e = .returned (.tuple #[.int .i64 n, .nilIface]) ∧ ∃ t, w' = Lib.bytesWorld w 5 t := Any.strconv_Atoi Tryd.lays172 s n hl h w
def Tryd.laysC172_ren : Go.Shelf.Ren := ⟨fun | 172 => 25 | 244 => 32 | 245 => 33 | 247 => 40 | 279 => 41 | 280 => 42 | 281 => 43 | 282 => 44 | 287 => 54 | 316 => 55 | 171 => 57 | 205 => 56 | 321 => 61 | 322 => 62 | 243 => 63 | 246 => 64 | 283 => 65 | 284 => 66 | 285 => 67 | 286 => 68 | 129 => 70 | 317 => 69 | 318 => 71 | 319 => 72 | 320 => 73 | 337 => 74 | 338 => 75 | n => n, fun | 9 => 9 | 3 => 3 | 75 => 48 | 76 => 49 | 4 => 4 | 5 => 5 | 167 => 64 | 37 => 45 | 0 => 0 | 85 => 65 | 2 => 2 | 168 => 67 | 53 => 87 | 175 => 88 | 46 => 75 | 210 => 92 | 127 => 99 | 145 => 102 | 143 => 100 | 21 => 21 | 171 => 107 | 173 => 110 | 212 => 113 | 51 => 61 | 20 => 20 | 213 => 114 | 232 => 117 | 233 => 118 | 80 => 119 | n => n, fun | 15 => 3 | 16 => 4 | 17 => 7 | 18 => 8 | 19 => 9 | n => n⟩
theorem Tryd.laysC172 : Go.Proofs.LaysC.n172 Tryd.prog Tryd.laysC172_ren := {
  mixed := by kernel_rfl
  f129 := Tryd.func70.trans (congrArg some (by kernel_rfl))
  f171 := Tryd.func57.trans (congrArg some (by kernel_rfl))
  f172 := Tryd.func25.trans (congrArg some (by kernel_rfl))
  f205 := Tryd.func56.trans (congrArg some (by kernel_rfl))
  f243 := Tryd.func63.trans (congrArg some (by kernel_rfl))
  f244 := Tryd.func32.trans (congrArg some (by kernel_rfl))
  f245 := Tryd.func33.trans (congrArg some (by kernel_rfl))
  f246 := Tryd.func64.trans (congrArg some (by kernel_rfl))
  f247 := Tryd.func40.trans (congrArg some (by kernel_rfl))
  f279 := Tryd.func41.trans (congrArg some (by kernel_rfl))
  f280 := Tryd.func42.trans (congrArg some (by kernel_rfl))
  f281 := Tryd.func43.trans (congrArg some (by kernel_rfl))
  f282 := Tryd.func44.trans (congrArg some (by kernel_rfl))
  f283 := Tryd.func65.trans (congrArg some (by kernel_rfl))
  f284 := Tryd.func66.trans (congrArg some (by kernel_rfl))
  f285 := Tryd.func67.trans (congrArg some (by kernel_rfl))
  f286 := Tryd.func68.trans (congrArg some (by kernel_rfl))
  f287 := Tryd.func54.trans (congrArg some (by kernel_rfl))
  f316 := Tryd.func55.trans (congrArg some (by kernel_rfl))
  f317 := Tryd.func69.trans (congrArg some (by kernel_rfl))
  f318 := Tryd.func71.trans (congrArg some (by kernel_rfl))
  f319 := Tryd.func72.trans (congrArg some (by kernel_rfl))
  f320 := Tryd.func73.trans (congrArg some (by kernel_rfl))
  f321 := Tryd.func61.trans (congrArg some (by kernel_rfl))
  f322 := Tryd.func62.trans (congrArg some (by kernel_rfl))
  f337 := Tryd.func74.trans (congrArg some (by kernel_rfl))
  f338 := Tryd.func75.trans (congrArg some (by kernel_rfl))
  t0 := Tryd.underlying0
  a0 := Tryd.isAgg0
  z0 := Tryd.sizeOf0
  v0 := Tryd.zeroValue0
  t2 := Tryd.underlying2
  a2 := Tryd.isAgg2
  z2 := Tryd.sizeOf2
  v2 := Tryd.zeroValue2
  t3 := Tryd.underlying3
  a3 := Tryd.isAgg3
  z3 := Tryd.sizeOf3
  v3 := Tryd.zeroValue3
  t4 := Tryd.underlying4
  a4 := Tryd.isAgg4
  z4 := Tryd.sizeOf4
  v4 := Tryd.zeroValue4
  t5 := Tryd.underlying5
  a5 := Tryd.isAgg5
  z5 := Tryd.sizeOf5
  v5 := Tryd.zeroValue5
  t9 := Tryd.underlying9
  a9 := Tryd.isAgg9
  z9 := Tryd.sizeOf9
  v9 := Tryd.zeroValue9
  t20 := Tryd.underlying20
  a20 := Tryd.isAgg20
  z20 := Tryd.sizeOf20
  v20 := Tryd.zeroValue20
  t21 := Tryd.underlying21
  a21 := Tryd.isAgg21
  z21 := Tryd.sizeOf21
  v21 := Tryd.zeroValue21
  t37 := Tryd.underlying45
  a37 := Tryd.isAgg45
  z37 := Tryd.sizeOf45
  v37 := Tryd.zeroValue45
  t46 := Tryd.underlying75
  a46 := Tryd.isAgg75
  z46 := Tryd.sizeOf75
  v46 := Tryd.zeroValue75
  t51 := Tryd.underlying61
  a51 := Tryd.isAgg61
  z51 := Tryd.sizeOf61
  v51 := Tryd.zeroValue61
  t53 := Tryd.underlying87
  a53 := Tryd.isAgg87
  z53 := Tryd.sizeOf87
  v53 := Tryd.zeroValue87
  t75 := Tryd.underlying48
  a75 := Tryd.isAgg48
  z75 := Tryd.sizeOf48
  v75 := Tryd.zeroValue48
  t76 := Tryd.underlying49
  a76 := Tryd.isAgg49
  z76 := Tryd.sizeOf49
  v76 := Tryd.zeroValue49
  t85 := Tryd.underlying65
  a85 := Tryd.isAgg65
  z85 := Tryd.sizeOf65
  v85 := Tryd.zeroValue65
  t127 := Tryd.underlying99
  a127 := Tryd.isAgg99
  z127 := Tryd.sizeOf99
  v127 := Tryd.zeroValue99
  t143 := Tryd.underlying100
  a143 := Tryd.isAgg100
  z143 := Tryd.sizeOf100
  v143 := Tryd.zeroValue100
  t145 := Tryd.underlying102
  a145 := Tryd.isAgg102
  z145 := Tryd.sizeOf102
  v145 := Tryd.zeroValue102
  t167 := Tryd.underlying64
  a167 := Tryd.isAgg64
  z167 := Tryd.sizeOf64
  v167 := Tryd.zeroValue64
  t168 := Tryd.underlying67
  a168 := Tryd.isAgg67
  z168 := Tryd.sizeOf67
  v168 := Tryd.zeroValue67
  t171 := Tryd.underlying107
  a171 := Tryd.isAgg107
  z171 := Tryd.sizeOf107
  v171 := Tryd.zeroValue107
  t173 := Tryd.underlying110
  a173 := Tryd.isAgg110
  z173 := Tryd.sizeOf110
  v173 := Tryd.zeroValue110
  t175 := Tryd.underlying88
  a175 := Tryd.isAgg88
  z175 := Tryd.sizeOf88
  v175 := Tryd.zeroValue88
  t210 := Tryd.underlying92
  a210 := Tryd.isAgg92
  z210 := Tryd.sizeOf92
  v210 := Tryd.zeroValue92
  t212 := Tryd.underlying113
  a212 := Tryd.isAgg113
  z212 := Tryd.sizeOf113
  v212 := Tryd.zeroValue113
  t213 := Tryd.underlying114
  a213 := Tryd.isAgg114
  z213 := Tryd.sizeOf114
  t232 := Tryd.underlying117
  a232 := Tryd.isAgg117
  z232 := Tryd.sizeOf117
  v232 := Tryd.zeroValue117
  t233 := Tryd.underlying118
  a233 := Tryd.isAgg118
  z233 := Tryd.sizeOf118
  v233 := Tryd.zeroValue118
  g15 := by kernel_rfl
  g16 := by kernel_rfl
  g17 := by kernel_rfl
  g18 := by kernel_rfl
  g19 := by kernel_rfl
  t80 := Tryd.underlying119
  a80 := Tryd.isAgg119
  z80 := Tryd.sizeOf119
  v80 := Tryd.zeroValue119
  i0 := by kernel_rfl
  i2 := by kernel_rfl
  i3 := by kernel_rfl
  i4 := by kernel_rfl
  i5 := by kernel_rfl
  i9 := by kernel_rfl
  i20 := by kernel_rfl
  i21 := by kernel_rfl
  i37 := by kernel_rfl
  i46 := by kernel_rfl
  i51 := by kernel_rfl
  i53 := by kernel_rfl
  i75 := by kernel_rfl
  i76 := by kernel_rfl
  i80 := by kernel_rfl
  i85 := by kernel_rfl
  i127 := by kernel_rfl
  i143 := by kernel_rfl
  i145 := by kernel_rfl
  i167 := by kernel_rfl
  i168 := by kernel_rfl
  i171 := by kernel_rfl
  i173 := by kernel_rfl
  i175 := by kernel_rfl
  i210 := by kernel_rfl
  i212 := by kernel_rfl
  i232 := by kernel_rfl
  i233 := by kernel_rfl
  m15 := by kernel_rfl
  m16 := by kernel_rfl
  m17 := by kernel_rfl
  m18 := by kernel_rfl
  m19 := by kernel_rfl
  c0 := by kernel_rfl
  c2 := by kernel_rfl
  c3 := by kernel_rfl
  c4 := by kernel_rfl
  c5 := by kernel_rfl
  c9 := by kernel_rfl
  c20 := by kernel_rfl
  c21 := by kernel_rfl
  c37 := by kernel_rfl
  c46 := by kernel_rfl
  c51 := by kernel_rfl
  c53 := by kernel_rfl
  c75 := by kernel_rfl
  c76 := by kernel_rfl
  c80 := by kernel_rfl
  c85 := by kernel_rfl
  c127 := by kernel_rfl
  c143 := by kernel_rfl
  c145 := by kernel_rfl
  c167 := by kernel_rfl
  c168 := by kernel_rfl
  c171 := by kernel_rfl
  c173 := by kernel_rfl
  c175 := by kernel_rfl
  c210 := by kernel_rfl
  c212 := by kernel_rfl
  c213 := by kernel_rfl
  c232 := by kernel_rfl
  c233 := by kernel_rfl }
open Go.RowKit in
/-- strconv.Atoi, AT EVERY STRING OF AT MOST 18 BYTES THAT IS NO DECIMAL NUMERAL (the empty one too): 0, AND AN ERROR THAT IS NOT nil: a *NumError in a new block N: {Func: "Atoi", Num: s's bytes, Err: what the variable ErrSyntax holds}. Of what was there nothing has turned. (LAID: no walk: one application.) -/
theorem Tryd.strconv_Atoi_err (s : ByteArray) (hl : s.size ≤ 18) (h : Lib.atoi s.data.toList = none) (ev : Value) (w : World) (hv : w.cell? ⟨3, 0, none⟩ = some ev) (hev : ev = .nilIface ∨ ∃ te pe, ev = .iface te pe) :
    Calls Tryd.prog 25 #[.string s] w fun e w' => ∃ N, e = .returned (.tuple #[.int .i64 0, .iface 67 (.pointer (some ⟨N, 0, none⟩))]) ∧ w.heap.size ≤ N ∧ w'.heap[N]? = some (.cells #[.string ⟨#[65, 116, 111, 105]⟩, .string s, ev] 92 (0, 0)) ∧ Below w.heap.size w w' := Any.strconv_Atoi_err Tryd.laysC172 s hl h ev w hv hev
def Tryd.lays145_ren : Go.Shelf.Ren := ⟨fun | 145 => 22 | 220 => 28 | 219 => 37 | 217 => 48 | 225 => 49 | 224 => 50 | 267 => 51 | 266 => 59 | 314 => 60 | n => n, fun | 9 => 9 | 4 => 4 | 59 => 42 | 3 => 3 | 5 => 5 | 46 => 75 | 146 => 94 | 51 => 61 | n => n, fun | 1 => 2 | n => n⟩
theorem Tryd.lays145 : Go.Proofs.Lays.n145 Tryd.prog Tryd.lays145_ren := {
  mixed := by kernel_rfl
  f145 := Tryd.func22.trans (congrArg some (by kernel_rfl))
  f217 := Tryd.func48.trans (congrArg some (by kernel_rfl))
  f219 := Tryd.func37.trans (congrArg some (by kernel_rfl))
  f220 := Tryd.func28.trans (congrArg some (by kernel_rfl))
  f224 := Tryd.func50.trans (congrArg some (by kernel_rfl))
  f225 := Tryd.func49.trans (congrArg some (by kernel_rfl))
  f266 := Tryd.func59.trans (congrArg some (by kernel_rfl))
  f267 := Tryd.func51.trans (congrArg some (by kernel_rfl))
  f314 := Tryd.func60.trans (congrArg some (by kernel_rfl))
  t3 := Tryd.underlying3
  a3 := Tryd.isAgg3
  z3 := Tryd.sizeOf3
  v3 := Tryd.zeroValue3
  t4 := Tryd.underlying4
  a4 := Tryd.isAgg4
  z4 := Tryd.sizeOf4
  v4 := Tryd.zeroValue4
  t5 := Tryd.underlying5
  a5 := Tryd.isAgg5
  z5 := Tryd.sizeOf5
  v5 := Tryd.zeroValue5
  t9 := Tryd.underlying9
  a9 := Tryd.isAgg9
  z9 := Tryd.sizeOf9
  v9 := Tryd.zeroValue9
  t46 := Tryd.underlying75
  a46 := Tryd.isAgg75
  z46 := Tryd.sizeOf75
  v46 := Tryd.zeroValue75
  t51 := Tryd.underlying61
  a51 := Tryd.isAgg61
  z51 := Tryd.sizeOf61
  v51 := Tryd.zeroValue61
  t59 := Tryd.underlying42
  a59 := Tryd.isAgg42
  z59 := Tryd.sizeOf42
  v59 := Tryd.zeroValue42
  t146 := Tryd.underlying94
  a146 := Tryd.isAgg94
  z146 := Tryd.sizeOf94
  v146 := Tryd.zeroValue94
  g1 := by kernel_rfl }
open Go.RowKit Go.Lib in
/-- strings.Cut: "Cut slices s around the first instance of sep, returning the text before and after sep. The found result reports whether sep appears in s. If sep does not appear in s, cut returns s, "", false.": IT RETURNS 'Lib.cut s sep'; the world is as it was but for the count of draws. (LAID: no walk: one application.) -/
theorem Tryd.strings_Cut (s sep : ByteArray) (m : Int) (w : World) (hs : s.size < 4294967281) (hm : w.cell? ⟨2, 0, none⟩ = some (.int .i64 m)) :
    Calls Tryd.prog 22 #[.string s, .string sep] w fun e w' => e = .returned (.tuple #[.string ⟨(Lib.cut s.data.toList sep.data.toList).1.toArray⟩, .string ⟨(Lib.cut s.data.toList sep.data.toList).2.1.toArray⟩, .bool (Lib.cut s.data.toList sep.data.toList).2.2]) ∧ ∃ n, w' = w.drewN n := Any.strings_Cut Tryd.lays145 s sep m w hs hm
def Tryd.lays101_ren : Go.Shelf.Ren := ⟨fun | 101 => 24 | 208 => 31 | 206 => 39 | n => n, fun | 9 => 9 | 4 => 4 | 3 => 3 | n => n, fun | n => n⟩
theorem Tryd.lays101 : Go.Proofs.Lays.n101 Tryd.prog Tryd.lays101_ren := {
  mixed := by kernel_rfl
  f101 := Tryd.func24.trans (congrArg some (by kernel_rfl))
  f206 := Tryd.func39.trans (congrArg some (by kernel_rfl))
  f208 := Tryd.func31.trans (congrArg some (by kernel_rfl))
  t3 := Tryd.underlying3
  a3 := Tryd.isAgg3
  z3 := Tryd.sizeOf3
  v3 := Tryd.zeroValue3
  t4 := Tryd.underlying4
  a4 := Tryd.isAgg4
  z4 := Tryd.sizeOf4
  v4 := Tryd.zeroValue4
  t9 := Tryd.underlying9
  a9 := Tryd.isAgg9
  z9 := Tryd.sizeOf9
  v9 := Tryd.zeroValue9 }
open Go.RowKit Go.Lib in
/-- strings.TrimPrefix: "TrimPrefix returns s without the provided leading prefix string. If s doesn't start with prefix, s is returned unchanged.": IT RETURNS 'Lib.trimPrefix s prefix'; the world is as it was. (LAID: no walk: one application.) -/
theorem Tryd.strings_TrimPrefix (s p : ByteArray) (w : World) :
    Calls Tryd.prog 24 #[.string s, .string p] w fun e w' => e = .returned (.string ⟨(Lib.trimPrefix s.data.toList p.data.toList).toArray⟩) ∧ w' = w := Any.strings_TrimPrefix Tryd.lays101 s p w
def Tryd.lays146_ren : Go.Shelf.Ren := ⟨fun | 146 => 19 | 221 => 26 | 268 => 34 | 138 => 35 | 143 => 36 | 195 => 45 | 197 => 46 | 218 => 47 | 219 => 37 | 260 => 58 | 217 => 48 | 225 => 49 | 224 => 50 | 267 => 51 | 266 => 59 | 314 => 60 | n => n, fun | 9 => 9 | 31 => 33 | 3 => 3 | 4 => 4 | 0 => 0 | 105 => 71 | 21 => 21 | 5 => 5 | 46 => 75 | 119 => 53 | 139 => 105 | 138 => 104 | 146 => 94 | 51 => 61 | n => n, fun | 1 => 2 | 3 => 5 | 4 => 6 | n => n⟩
theorem Tryd.lays146 : Go.Proofs.Lays.n146 Tryd.prog Tryd.lays146_ren := {
  mixed := by kernel_rfl
  f138 := Tryd.func35.trans (congrArg some (by kernel_rfl))
  f143 := Tryd.func36.trans (congrArg some (by kernel_rfl))
  f146 := Tryd.func19.trans (congrArg some (by kernel_rfl))
  f195 := Tryd.func45.trans (congrArg some (by kernel_rfl))
  f197 := Tryd.func46.trans (congrArg some (by kernel_rfl))
  f217 := Tryd.func48.trans (congrArg some (by kernel_rfl))
  f218 := Tryd.func47.trans (congrArg some (by kernel_rfl))
  f219 := Tryd.func37.trans (congrArg some (by kernel_rfl))
  f221 := Tryd.func26.trans (congrArg some (by kernel_rfl))
  f224 := Tryd.func50.trans (congrArg some (by kernel_rfl))
  f225 := Tryd.func49.trans (congrArg some (by kernel_rfl))
  f260 := Tryd.func58.trans (congrArg some (by kernel_rfl))
  f266 := Tryd.func59.trans (congrArg some (by kernel_rfl))
  f267 := Tryd.func51.trans (congrArg some (by kernel_rfl))
  f268 := Tryd.func34.trans (congrArg some (by kernel_rfl))
  f314 := Tryd.func60.trans (congrArg some (by kernel_rfl))
  t0 := Tryd.underlying0
  a0 := Tryd.isAgg0
  z0 := Tryd.sizeOf0
  v0 := Tryd.zeroValue0
  t3 := Tryd.underlying3
  a3 := Tryd.isAgg3
  z3 := Tryd.sizeOf3
  v3 := Tryd.zeroValue3
  t4 := Tryd.underlying4
  a4 := Tryd.isAgg4
  z4 := Tryd.sizeOf4
  v4 := Tryd.zeroValue4
  t5 := Tryd.underlying5
  a5 := Tryd.isAgg5
  z5 := Tryd.sizeOf5
  v5 := Tryd.zeroValue5
  t9 := Tryd.underlying9
  a9 := Tryd.isAgg9
  z9 := Tryd.sizeOf9
  v9 := Tryd.zeroValue9
  t21 := Tryd.underlying21
  a21 := Tryd.isAgg21
  z21 := Tryd.sizeOf21
  v21 := Tryd.zeroValue21
  t31 := Tryd.underlying33
  a31 := Tryd.isAgg33
  z31 := Tryd.sizeOf33
  v31 := Tryd.zeroValue33
  t46 := Tryd.underlying75
  a46 := Tryd.isAgg75
  z46 := Tryd.sizeOf75
  v46 := Tryd.zeroValue75
  t51 := Tryd.underlying61
  a51 := Tryd.isAgg61
  z51 := Tryd.sizeOf61
  v51 := Tryd.zeroValue61
  t105 := Tryd.underlying71
  a105 := Tryd.isAgg71
  z105 := Tryd.sizeOf71
  v105 := Tryd.zeroValue71
  t119 := Tryd.underlying53
  a119 := Tryd.isAgg53
  z119 := Tryd.sizeOf53
  t138 := Tryd.underlying104
  a138 := Tryd.isAgg104
  z138 := Tryd.sizeOf104
  v138 := Tryd.zeroValue104
  t139 := Tryd.underlying105
  a139 := Tryd.isAgg105
  z139 := Tryd.sizeOf105
  v139 := Tryd.zeroValue105
  t146 := Tryd.underlying94
  a146 := Tryd.isAgg94
  z146 := Tryd.sizeOf94
  v146 := Tryd.zeroValue94
  g1 := by kernel_rfl
  g3 := by kernel_rfl
  g4 := by kernel_rfl }
open Go.RowKit Go.Lib in
/-- strings.Split. (LAID: no walk: one application.) -/
theorem Tryd.strings_Split (s sep : ByteArray) (m : Int) (w : World) (hs : s.size < 4294967281) (hm : w.cell? ⟨2, 0, none⟩ = some (.int .i64 m)) (h1 : 1 ≤ sep.size) :
    Calls Tryd.prog 19 #[.string s, .string sep] w fun e w' =>
      e = .returned (.slice (some ⟨w.heap.size, 0, none⟩) (Lib.countB s sep + 1) (Lib.countB s sep + 1)) ∧ w' = w.alloc (.cells ((Lib.splitB sep 0 (Lib.countB s sep) s).map Value.string).toArray 9) := Any.strings_Split Tryd.lays146 (by kernel_rfl) s sep m w hs hm h1
def Tryd.lays157_ren : Go.Shelf.Ren := ⟨fun | 157 => 23 | 229 => 29 | 199 => 30 | 261 => 38 | 311 => 52 | 312 => 53 | n => n, fun | 9 => 9 | 31 => 33 | 3 => 3 | 5 => 5 | 4 => 4 | 119 => 53 | 0 => 0 | 40 => 41 | 152 => 58 | 21 => 21 | 154 => 60 | 51 => 61 | 141 => 63 | 196 => 79 | 193 => 76 | 198 => 82 | 49 => 80 | 194 => 77 | 201 => 85 | 226 => 96 | 46 => 75 | 227 => 97 | n => n, fun | 0 => 0 | 6 => 1 | n => n⟩
theorem Tryd.lays157 : Go.Proofs.Lays.n157 Tryd.prog Tryd.lays157_ren := {
  mixed := by kernel_rfl
  f157 := Tryd.func23.trans (congrArg some (by kernel_rfl))
  f199 := Tryd.func30.trans (congrArg some (by kernel_rfl))
  f229 := Tryd.func29.trans (congrArg some (by kernel_rfl))
  f261 := Tryd.func38.trans (congrArg some (by kernel_rfl))
  f311 := Tryd.func52.trans (congrArg some (by kernel_rfl))
  f312 := Tryd.func53.trans (congrArg some (by kernel_rfl))
  t0 := Tryd.underlying0
  a0 := Tryd.isAgg0
  z0 := Tryd.sizeOf0
  v0 := Tryd.zeroValue0
  t3 := Tryd.underlying3
  a3 := Tryd.isAgg3
  z3 := Tryd.sizeOf3
  v3 := Tryd.zeroValue3
  t4 := Tryd.underlying4
  a4 := Tryd.isAgg4
  z4 := Tryd.sizeOf4
  v4 := Tryd.zeroValue4
  t5 := Tryd.underlying5
  a5 := Tryd.isAgg5
  z5 := Tryd.sizeOf5
  v5 := Tryd.zeroValue5
  t9 := Tryd.underlying9
  a9 := Tryd.isAgg9
  z9 := Tryd.sizeOf9
  v9 := Tryd.zeroValue9
  t21 := Tryd.underlying21
  a21 := Tryd.isAgg21
  z21 := Tryd.sizeOf21
  v21 := Tryd.zeroValue21
  t31 := Tryd.underlying33
  a31 := Tryd.isAgg33
  z31 := Tryd.sizeOf33
  v31 := Tryd.zeroValue33
  t40 := Tryd.underlying41
  a40 := Tryd.isAgg41
  z40 := Tryd.sizeOf41
  v40 := Tryd.zeroValue41
  t46 := Tryd.underlying75
  a46 := Tryd.isAgg75
  z46 := Tryd.sizeOf75
  v46 := Tryd.zeroValue75
  t49 := Tryd.underlying80
  a49 := Tryd.isAgg80
  z49 := Tryd.sizeOf80
  v49 := Tryd.zeroValue80
  t51 := Tryd.underlying61
  a51 := Tryd.isAgg61
  z51 := Tryd.sizeOf61
  v51 := Tryd.zeroValue61
  t119 := Tryd.underlying53
  a119 := Tryd.isAgg53
  z119 := Tryd.sizeOf53
  t141 := Tryd.underlying63
  a141 := Tryd.isAgg63
  z141 := Tryd.sizeOf63
  v141 := Tryd.zeroValue63
  t152 := Tryd.underlying58
  a152 := Tryd.isAgg58
  z152 := Tryd.sizeOf58
  v152 := Tryd.zeroValue58
  t154 := Tryd.underlying60
  a154 := Tryd.isAgg60
  z154 := Tryd.sizeOf60
  v154 := Tryd.zeroValue60
  t193 := Tryd.underlying76
  a193 := Tryd.isAgg76
  z193 := Tryd.sizeOf76
  v193 := Tryd.zeroValue76
  t194 := Tryd.underlying77
  a194 := Tryd.isAgg77
  z194 := Tryd.sizeOf77
  v194 := Tryd.zeroValue77
  t196 := Tryd.underlying79
  a196 := Tryd.isAgg79
  z196 := Tryd.sizeOf79
  v196 := Tryd.zeroValue79
  t198 := Tryd.underlying82
  a198 := Tryd.isAgg82
  z198 := Tryd.sizeOf82
  v198 := Tryd.zeroValue82
  t201 := Tryd.underlying85
  a201 := Tryd.isAgg85
  z201 := Tryd.sizeOf85
  v201 := Tryd.zeroValue85
  t226 := Tryd.underlying96
  a226 := Tryd.isAgg96
  z226 := Tryd.sizeOf96
  v226 := Tryd.zeroValue96
  t227 := Tryd.underlying97
  a227 := Tryd.isAgg97
  z227 := Tryd.sizeOf97
  v227 := Tryd.zeroValue97
  g0 := by kernel_rfl
  g6 := by kernel_rfl }
open Go.RowKit Go.Lib in
/-- strings.Fields, the table by 'Lib.TabIs' (as strings.TrimSpace's contract). 'hg': the table's number, by its name: at a dump 'by kernel_rfl'. (LAID: no walk: one application.) -/
theorem Tryd.strings_Fields (s : ByteArray) (w : World) (hs : s.size < 4294967281) (hascii : ∀ (j : Nat) b, s.data.toList[j]? = some b → b.toNat < 128) (htab : Lib.TabIs Tryd.prog w "strings.asciiSpace" .u8 Lib.asciiSpaceTab) :
    Calls Tryd.prog 23 #[.string s] w fun e w' =>
      e = .returned (.slice (some ⟨w.heap.size, 0, none⟩) (Lib.fields s.data.toList).length (Lib.fields s.data.toList).length) ∧ w' = w.alloc (.cells ((Lib.fields s.data.toList).map fun l => Value.string ⟨l.toArray⟩).toArray 9) := Any.strings_Fields Tryd.lays157 (by kernel_rfl) (by kernel_rfl) s w hs hascii htab
end Go.Proofs
namespace Go.Proofs.L
open Go Go.AH Go.Lib
set_option maxRecDepth 4000
set_option linter.unusedSectionVars false
variable [LexG]
/-! ### What the library's functions compute -/
def nlB : ByteArray := ⟨#[10]⟩
def hashB : ByteArray := ⟨#[35]⟩
def pieces (s : ByteArray) : List ByteArray := splitB nlB 0 (countB s nlB) s
def cut1 (s : ByteArray) : ByteArray := ⟨(cut s.data.toList [35]).1.toArray⟩
def cut2 (s : ByteArray) : ByteArray := ⟨(cut s.data.toList [35]).2.1.toArray⟩
def cut3 (s : ByteArray) : Bool := (cut s.data.toList [35]).2.2
def wordsB (s : ByteArray) : List ByteArray := (fields s.data.toList).map fun l => ⟨l.toArray⟩
def trimM (s : ByteArray) : ByteArray := ⟨(trimPrefix s.data.toList [45]).toArray⟩
def atoiV (s : ByteArray) : Int := (atoi s.data.toList).getD 0
def atoiE (s : ByteArray) : AV := if atoi s.data.toList = none then .iface 67 .undef else .nilIface
theorem atoiE_or (s : ByteArray) : (atoiE s = .nilIface ∧ decide (atoi s.data.toList = none) = false) ∨ ∃ T y, atoiE s = .iface T y ∧ decide (atoi s.data.toList = none) = true := by
  unfold atoiE
  by_cases h : atoi s.data.toList = none
  · exact .inr ⟨_, _, by rw [if_pos h], decide_eq_true h⟩
  · exact .inl ⟨by rw [if_neg h], decide_eq_false h⟩
theorem pieces_length (s : ByteArray) : (pieces s).length = countB s nlB + 1 := splitB_all nlB (by decide) 0 _ s rfl

/-! ### Their contracts -/
theorem blk_cell {w : World} {μ : Nat → Nat} {H : Heap} (hr : HR w μ H) {g : Nat} {cs : Array Value} (h : lexBlk g = some cs) (j : Nat) : w.cell? ⟨g, j, none⟩ = cs[j]? := by
  obtain ⟨_, T, fr, e⟩ := hr.glob.blk g cs h
  simp only [World.cell?, e, Option.isSome_none, Bool.false_eq_true, if_false]
theorem alloc_at (w : World) (o : Obj) : (w.alloc o).heap[w.heap.size]? = some o := by
  show (w.heap.push o)[w.heap.size]? = _
  simp
theorem alloc_old (w : World) (o : Obj) (b : Nat) (hb : b < w.heap.size) : (w.alloc o).heap[b]? = w.heap[b]? := by
  show (w.heap.push o)[b]? = _
  rw [Array.getElem?_push, if_neg (by omega)]
theorem alloc_size (w : World) (o : Obj) : w.heap.size ≤ (w.alloc o).heap.size := by
  show _ ≤ (w.heap.push o).size
  simp
theorem lib_alloc {w : World} {μ : Nat → Nat} {H : Heap} (hr : HR w μ H) (l : List ByteArray) {r : AV} (h : r = .sl l.length (l.map eStr)) {v : Value} (hv : v = .slice (some ⟨w.heap.size, 0, none⟩) l.length l.length) {w' : World} (hw : w' = w.alloc (.cells (l.map Value.string).toArray 9)) :
    w.heap.size ≤ w'.heap.size ∧ (∀ b, b < w.heap.size → w'.heap[b]? = w.heap[b]?) ∧ AH.Rest w w' ∧ VR w' μ H r v := by
  subst h hv hw
  exact ⟨alloc_size _ _, alloc_old _ _, ⟨rfl, rfl, rfl, False.elim⟩, VR.strs hr (alloc_at _ _)⟩
theorem c_Split (s : ByteArray) (h : s.size < 4294967281) : PC Tryd.prog 19 [.str s, .str ⟨#[10]⟩] (.sl (pieces s).length ((pieces s).map eStr)) :=
  .lib fun H μ w vs hr hv => by
    obtain ⟨u, v, rfl, h1, h2⟩ := vs2 hv
    cases vstr h1; cases vstr h2
    refine (Tryd.strings_Split s nlB LexG.m w h ((blk_cell hr (g := 2) rfl 0).trans LexG.hm) (by decide)).mono ?_
    rintro e w' ⟨rfl, hw⟩
    exact ⟨_, rfl, lib_alloc hr (pieces s) rfl (by rw [pieces_length]) hw⟩
theorem c_Cut (s : ByteArray) (h : s.size < 4294967281) : PC Tryd.prog 22 [.str s, .str ⟨#[35]⟩] (.tup [.str (cut1 s), .str (cut2 s), .bool (cut3 s)]) :=
  .lib fun H μ w vs hr hv => by
    obtain ⟨u, v, rfl, h1, h2⟩ := vs2 hv
    cases vstr h1; cases vstr h2
    refine (Tryd.strings_Cut s hashB LexG.m w h ((blk_cell hr (g := 2) rfl 0).trans LexG.hm)).mono ?_
    rintro e w' ⟨rfl, n, rfl⟩
    refine ⟨_, rfl, Nat.le_refl _, fun _ _ => rfl, ⟨rfl, rfl, rfl, False.elim⟩, .tup rfl fun j x y hx hy => ?_⟩
    match j, hx, hy with
    | 0, hx, hy => cases hx; cases hy; exact .str _
    | 1, hx, hy => cases hx; cases hy; exact .str _
    | 2, hx, hy => cases hx; cases hy; exact .bool _
    | n + 3, hx, _ => simp at hx
theorem c_Fields (s : ByteArray) (h : s.size < 4294967281) (ha : ∀ (j : Nat) b, s.data.toList[j]? = some b → b.toNat < 128) : PC Tryd.prog 23 [.str s] (.sl (wordsB s).length ((wordsB s).map eStr)) :=
  .lib fun H μ w vs hr hv => by
    obtain ⟨u, rfl, h1⟩ := vs1 hv
    cases vstr h1
    refine (Tryd.strings_Fields s w h ha ?_).mono ?_
    · obtain ⟨_, T, fr, e⟩ := hr.glob.blk 0 _ rfl
      unfold TabIs World.var?
      rw [show Tryd.prog.globalNamed "strings.asciiSpace" = some 0 by kernel_rfl]
      simp only [Option.bind_some, e]
    · rintro e w' ⟨rfl, hw⟩
      refine ⟨_, rfl, lib_alloc hr (wordsB s) rfl (by simp [wordsB]) (by rw [hw]; simp [wordsB, Function.comp_def])⟩
theorem c_Trim (s : ByteArray) : PC Tryd.prog 24 [.str s, .str ⟨#[45]⟩] (.str (trimM s)) :=
  .lib fun H μ w vs hr hv => by
    obtain ⟨u, v, rfl, h1, h2⟩ := vs2 hv
    cases vstr h1; cases vstr h2
    refine (Tryd.strings_TrimPrefix s ⟨#[45]⟩ w).mono ?_
    rintro e w' ⟨rfl, rfl⟩
    exact ⟨_, rfl, Nat.le_refl _, fun _ _ => rfl, .refl _, .str _⟩
theorem c_Atoi (s : ByteArray) (h : s.size ≤ 18) : PC Tryd.prog 25 [.str s] (.tup [.int .i64 (atoiV s), atoiE s]) :=
  .lib fun H μ w vs hr hv => by
    obtain ⟨u, rfl, h1⟩ := vs1 hv
    cases vstr h1
    cases hq : atoi s.data.toList with
    | some n =>
      refine (Tryd.strconv_Atoi s n h hq w).mono ?_
      rintro e w' ⟨rfl, t, rfl⟩
      refine ⟨_, rfl, by rw [bytesWorld_size]; omega, fun b hb => bytesWorld_at_old w 5 t b hb, ⟨rfl, rfl, rfl, False.elim⟩, .tup rfl fun j x y hx hy => ?_⟩
      match j, hx, hy with
      | 0, hx, hy => cases hx; cases hy; simp only [atoiV, hq]; exact .int _ _
      | 1, hx, hy => cases hx; cases hy; simp only [atoiE, hq]; exact .nilIface
      | n + 2, hx, _ => simp at hx
    | none =>
      refine (Tryd.strconv_Atoi_err s h hq LexG.e w ((blk_cell hr (g := 3) rfl 0).trans LexG.hce) LexG.he).mono ?_
      rintro e w' ⟨N, rfl, _, _, hB⟩
      refine ⟨_, rfl, hB.size, fun b hb => hB.block b hb, ⟨hB.tape, hB.os, hB.output, False.elim⟩, .tup rfl fun j x y hx hy => ?_⟩
      match j, hx, hy with
      | 0, hx, hy => cases hx; cases hy; simp only [atoiV, hq]; exact .int _ _
      | 1, hx, hy => cases hx; cases hy; simp only [atoiE, hq]; exact .iface (.undef _)
      | n + 2, hx, _ => simp at hx
end Go.Proofs.L
namespace Go.Proofs.L
open Go Go.AH Go.ChangeShapes Go.WideShapes Go.ChangeAt Go.RowKit Go.Deep Go.Proofs.YtcpepibkopbhgaaDoor
set_option maxRecDepth 8000
set_option linter.unusedSimpArgs false
set_option linter.unusedVariables false
/-! ### What is listed -/
theorem gSp : Tryd.prog.globalNamed "strings.asciiSpace" = some 0 := by kernel_rfl
theorem gSpT : (Tryd.prog.globals[0]?).map (·.type) = some 53 := by kernel_rfl
theorem gES : Tryd.prog.globalNamed "strconv.ErrSyntax" = some 3 := by kernel_rfl
theorem gEST : (Tryd.prog.globals[3]?).map (·.type) = some 48 := by kernel_rfl
theorem star : "*" ++ "errors.errorString" = "*errors.errorString" := by decide
theorem row100 (u : TypeId) (h : Tryd.prog.typeName? 3 u = some "*errors.errorString") : u = 100 :=
  typeName_ptr_named (nm := "errors.errorString") (by rw [star]; kernel_rfl) (by kernel_rfl) (by decide) u (by rw [star]; exact h)
theorem var_heap {P : Program} {w : World} {name : String} {g : Nat} {cs : Array Value} (h : w.var? P name = some cs) (hg : P.globalNamed name = some g) : ∃ T fr, w.heap[g]? = some (.cells cs T fr) := by
  unfold World.var? at h
  rw [hg] at h
  simp only [Option.bind_some] at h
  split at h
  · rename_i cs' T fr e
    cases h
    exact ⟨T, fr, e⟩
  · cases h
theorem cell_heap {w : World} {g : Nat} {v : Value} (h : w.cell? ⟨g, 0, none⟩ = some v) : ∃ cs T fr, w.heap[g]? = some (.cells cs T fr) ∧ cs[0]? = some v := by
  unfold World.cell? at h
  split at h
  · rename_i cs T fr e
    simp at h
    exact ⟨cs, T, fr, e, h⟩
  · cases h
theorem frz0 [LexG] {W : World} {g : Nat} {o : Obj} (h : W.heap[g]? = some o) : Frz W idM nH g := ⟨(Array.getElem?_eq_some_iff.1 h).1, nH_owned⟩
theorem globs_of {W : World} (hH : laidMetH Tryd.prog Rows.lexLinesUptoRow.laid W) (hS : W.ShapedOpen Tryd.prog) : ∃ I : LexG, @GOK (@instG I) W idM nH := by
  have h : laidMet Tryd.prog Rows.lexLinesUptoRow.laid W := by
    rw [← Go.MakeChecks.laidMetH_plain Tryd.prog _ _ (by kernel_rfl)]; exact hH
  have h1 : laidMet Tryd.prog [("strings.asciiSpace", Lib.tabData .u8 Lib.asciiSpaceTab)] W := by
    have := h.filter fun x => x.1 == "strings.asciiSpace"
    rw [show (Rows.lexLinesUptoRow.laid.filter fun x => x.1 == "strings.asciiSpace") = [("strings.asciiSpace", Lib.tabData .u8 Lib.asciiSpaceTab)] by kernel_rfl] at this
    exact this
  have h2 : laidMet Tryd.prog [("strconv.ErrSyntax", .iface "*errors.errorString" (.ptr (.agg [.lit (.string [105, 110, 118, 97, 108, 105, 100, 32, 115, 121, 110, 116, 97, 120])])))] W := by
    have := h.filter fun x => x.1 == "strconv.ErrSyntax"
    rw [show (Rows.lexLinesUptoRow.laid.filter fun x => x.1 == "strconv.ErrSyntax") = [("strconv.ErrSyntax", .iface "*errors.errorString" (.ptr (.agg [.lit (.string [105, 110, 118, 97, 108, 105, 100, 32, 115, 121, 110, 116, 97, 120])])))] by kernel_rfl] at this
    exact this
  have t1 := Lib.tabIs_of_head (rest := []) gSp gSpT Tryd.underlying53 Tryd.underlying5 (by kernel_rfl) (by kernel_rfl) h1
  obtain ⟨T0, fr0, b0⟩ := var_heap t1 gSp
  obtain ⟨a, s, v3, _⟩ := laid_sentinel h2 gES gEST (Tryd.underlying48.trans rfl) row100 Tryd.underlying100 Tryd.underlying102 rfl rfl Tryd.underlying9 (by kernel_rfl) (by kernel_rfl)
  obtain ⟨T3, fr3, b3⟩ := var_heap v3 gES
  obtain ⟨m, hm⟩ := Proofs.cell_of_shapedOpen_int (P := Tryd.prog) (g := 2) (t := 3) (zero := #[.int .i64 0]) (k := .i64) hS (by decide +kernel) (by kernel_rfl) rfl (by kernel_rfl) (by kernel_rfl) Tryd.underlying3
  obtain ⟨cm, T2, fr2, b2, hcm⟩ := cell_heap hm
  let I : LexG := ⟨cm, m, hcm, #[.iface 100 (.pointer (some a))], .iface 100 (.pointer (some a)), rfl, .inr ⟨_, _, rfl⟩⟩
  refine ⟨I, ⟨fun g c hg => (by cases hg), fun g cs hg => ?_⟩⟩
  have hg : lexBlk g = some cs := hg
  unfold lexBlk at hg
  split at hg
  · rename_i e; subst e; cases hg
    exact ⟨frz0 b0, T0, fr0, b0⟩
  · split at hg
    · rename_i e; subst e; cases hg
      exact ⟨frz0 b2, T2, fr2, b2⟩
    · split at hg
      · rename_i e; subst e; cases hg
        exact ⟨frz0 b3, T3, fr3, b3⟩
      · cases hg
theorem own : ownKnob Tryd.prog.godebug = none := by kernel_rfl
end Go.Proofs.L
namespace Go.Proofs.L
open Go Go.AH
set_option maxRecDepth 4000
set_option linter.unusedSimpArgs false
set_option linter.unusedVariables false
variable [LexG]
def R_lex_foreign (x : Int) : Bool :=
  if x < 32 then true else decide (x > 126)
theorem c_lex_foreign (x : Int) : PC Tryd.prog 21 [.int .i32 x] (.bool (R_lex_foreign x)) := by
 intro H0
 refine ACalls.of_body' (n := 9) rfl rfl rfl rfl ?_
 have m0 := Mono.refl H0
 refine AWP.seq ?_
 refine AWP.region (l := [0]) rfl ?_
 refine AOps.cons rfl rfl (AOp.assign (.bool false) rfl rfl ?_)
 refine AOps.nil ?_
 change AWP _ _ _ _ _ _
 refine AWP.seq ?_
 refine AWP.region (l := [0, 1, 2, 3, 4, 5, 6]) rfl ?_
 refine AOps.cons rfl rfl (AOp.move (.int .i32 x) rfl rfl ?_)
 refine AOps.cons rfl rfl (AOp.bin (.bool (decide (x < 32))) rfl rfl rfl rfl ?_)
 refine AOps.cons rfl rfl (AOp.move (.bool (decide (x < 32))) rfl rfl ?_)
 by_cases b1 : x < 32
 ·
  refine AOps.no rfl rfl rfl rfl rfl rfl rfl (ble_of (decide_eq_true b1) (by decide)) ?_
  refine AOps.no rfl rfl rfl rfl rfl rfl rfl (ble_of (decide_eq_true b1) (by decide)) ?_
  refine AOps.cons rfl rfl (AOp.pickT (.bool true) rfl rfl (decide_eq_true b1) rfl ?_)
  refine AOps.cons rfl rfl (AOp.assign (.bool true) rfl rfl ?_)
  refine AOps.nil ?_
  change AWP _ _ _ _ _ _
  refine AWP.ret ?_
  refine ⟨_, _, Ghost.refl, .inr rfl, _, Res.one rfl rfl, ?_, m0⟩
  have hR : R_lex_foreign x = true := by unfold R_lex_foreign; rw [if_pos b1]
  exact (congrArg (fun r : Bool => (.bool r : AV)) hR).symm
 ·
  refine AOps.yes rfl rfl rfl rfl rfl rfl rfl (decide_eq_false b1) (AOp.move (.int .i32 x) rfl rfl ?_)
  refine AOps.yes rfl rfl rfl rfl rfl rfl rfl (decide_eq_false b1) (AOp.bin (.bool (decide (x > 126))) rfl rfl rfl rfl ?_)
  refine AOps.cons rfl rfl (AOp.pickF (.bool (decide (x > 126))) rfl rfl (decide_eq_false b1) rfl ?_)
  refine AOps.cons rfl rfl (AOp.assign (.bool (decide (x > 126))) rfl rfl ?_)
  refine AOps.nil ?_
  change AWP _ _ _ _ _ _
  refine AWP.ret ?_
  refine ⟨_, _, Ghost.refl, .inr rfl, _, Res.one rfl rfl, ?_, m0⟩
  have hR : R_lex_foreign x = decide (x > 126) := by unfold R_lex_foreign; rw [if_neg b1]
  exact (congrArg (fun r : Bool => (.bool r : AV)) hR).symm
end Go.Proofs.L
namespace Go.Proofs.L
open Go Go.AH Go.Lib
set_option maxRecDepth 4000
set_option linter.unusedSectionVars false
variable [LexG]
theorem decode_lo {s : ByteArray} {p : Nat} (h : p < s.size) : (byt s p < 128 ∧ ((Utf8.decode s p).1 : Int) = byt s p ∧ (Utf8.decode s p).2 = 1) ∨ (128 ≤ byt s p ∧ 128 ≤ ((Utf8.decode s p).1 : Int) ∧ 1 ≤ (Utf8.decode s p).2) := by
  have hb : byt s p = ((s.get! p).toNat : Int) := by
    rw [byt_at (i := (p : Int)) (by simpa using h)]
    simp [ByteArray.get!, getElem!_pos, h]
    rfl
  by_cases ha : (s.get! p).toNat < 128
  · refine .inl ⟨by omega, ?_, ?_⟩ <;> simp [Utf8.decode, ha, hb]
  · refine .inr ⟨by omega, ?_, ?_⟩
    all_goals
      simp only [Utf8.decode, Nat.add_zero, if_neg ha]
      repeat' split
      all_goals (simp_all [Utf8.runeError] <;> omega)
end Go.Proofs.L
namespace Go.Proofs.L
open Go Go.AH Go.Lib
set_option maxRecDepth 4000
set_option linter.unusedSectionVars false
variable [LexG]
def fR (r : Nat) : Bool := R_lex_foreign (r : Int)
def idxR (s : ByteArray) : Int := idxFunc fR true s
theorem dec_pos (s : ByteArray) (p : Nat) : 1 ≤ (Utf8.decode s p).2 := by
  simp only [Utf8.decode]
  repeat' split
  all_goals simp
theorem idx_end {s : ByteArray} {k p : Nat} (h : s.size ≤ p) : idxFuncFrom fR true s k p = -1 := idxFuncFrom_end fR true s k p (by omega)
theorem idx_step {s : ByteArray} {k p : Nat} (h : p < s.size) (hk : s.size ≤ p + k) (hf : R_lex_foreign ((Utf8.decode s p).1 : Int) = false) : idxFuncFrom fR true s k p = idxFuncFrom fR true s (k - 1) (p + (Utf8.decode s p).2) := by
  obtain ⟨k, rfl⟩ : ∃ j, k = j + 1 := ⟨k - 1, by omega⟩
  rw [idxFuncFrom, if_pos h, if_neg (by unfold fR; rw [hf]; simp)]
  rfl
theorem idx_hit {s : ByteArray} {k p : Nat} (h : p < s.size) (hk : s.size ≤ p + k) (hf : R_lex_foreign ((Utf8.decode s p).1 : Int) = true) : idxFuncFrom fR true s k p = p := by
  obtain ⟨k, rfl⟩ : ∃ j, k = j + 1 := ⟨k - 1, by omega⟩
  rw [idxFuncFrom, if_pos h, if_pos (by unfold fR; rw [hf])]
/-- Nothing foreign: printable bytes alone. -/
def okB (s : ByteArray) : Prop := ∀ j : Nat, j < s.size → 32 ≤ byt s j ∧ byt s j ≤ 126
theorem foreign_iff {x : Int} : R_lex_foreign x = false ↔ 32 ≤ x ∧ x ≤ 126 := by
  unfold R_lex_foreign
  split <;> simp <;> omega
theorem idx_from {s : ByteArray} : ∀ k p, s.size ≤ p + k → (idxFuncFrom fR true s k p < 0 ↔ ∀ j : Nat, p ≤ j → j < s.size → 32 ≤ byt s j ∧ byt s j ≤ 126)
  | 0, p, h => by
    simp only [idxFuncFrom]
    exact ⟨fun _ j h1 h2 => by omega, fun _ => by omega⟩
  | k + 1, p, h => by
    by_cases hp : p < s.size
    · have hd := decode_lo hp
      cases hf : R_lex_foreign ((Utf8.decode s p).1 : Int) with
      | true =>
        rw [idx_hit hp h hf]
        refine ⟨fun h => by omega, fun h => ?_⟩
        have := h p (Nat.le_refl _) hp
        have hn : ¬ R_lex_foreign ((Utf8.decode s p).1 : Int) = false := by rw [hf]; simp
        rw [foreign_iff] at hn
        omega
      | false =>
        rw [foreign_iff] at hf
        obtain ⟨d1, d2, d3⟩ : byt s p < 128 ∧ ((Utf8.decode s p).1 : Int) = byt s p ∧ (Utf8.decode s p).2 = 1 := by
          rcases hd with hd | hd
          · exact hd
          · omega
        rw [idx_step hp h (foreign_iff.2 hf), d3, Nat.add_sub_cancel, idx_from k (p + 1) (by omega)]
        refine ⟨fun hh j h1 h2 => ?_, fun hh j h1 h2 => hh j (by omega) h2⟩
        rcases Nat.eq_or_lt_of_le h1 with e | e
        · subst e; omega
        · exact hh j e h2
    · rw [idx_end (by omega)]
      exact ⟨fun _ j h1 h2 => by omega, fun _ => by omega⟩
theorem idxR_neg {s : ByteArray} : idxR s < 0 ↔ okB s := by
  unfold idxR idxFunc okB
  rw [idx_from s.size 0 (by omega)]
  exact ⟨fun h j hj => h j (by omega) hj, fun h j _ hj => h j hj⟩
/-! ### Lists, place by place -/
theorem pre_step {α : Type} [Inhabited α] {a b : List α} {i : Int} (h : ∀ j : Int, 0 ≤ j → j < i → at_ a j = at_ b j) (hi : at_ a i = at_ b i) : ∀ j : Int, 0 ≤ j → j < i + 1 → at_ a j = at_ b j := fun j h1 h2 => by
  rcases Int.lt_or_eq_of_le (show j ≤ i by omega) with e | e
  · exact h j h1 e
  · subst e; exact hi
theorem ext_at {α : Type} [Inhabited α] {a b : List α} (hl : (a.length : Int) = b.length) (h : ∀ j : Int, 0 ≤ j → j < a.length → at_ a j = at_ b j) : a = b := by
  apply List.ext_getElem?
  intro j
  rcases Nat.lt_or_ge j a.length with hj | hj
  · have := h j (by omega) (by omega)
    unfold at_ at this
    simp only [Int.toNat_natCast] at this
    rw [List.getD_eq_getElem?_getD, List.getD_eq_getElem?_getD, List.getElem?_eq_getElem hj, List.getElem?_eq_getElem (by omega : j < b.length)] at this
    rw [List.getElem?_eq_getElem hj, List.getElem?_eq_getElem (by omega : j < b.length)]
    simpa using this
  · rw [List.getElem?_eq_none hj, List.getElem?_eq_none (by omega)]
/-- What the trimmed number is. -/
theorem trimM_size (s : ByteArray) : (trimM s).size ≤ s.size ∧ s.size ≤ (trimM s).size + 1 := by
  have h1 : (trimM s).size = (trimPrefix s.data.toList [45]).length := List.size_toArray
  have h2 : s.size = s.data.toList.length := rfl
  rw [h1, h2]
  generalize s.data.toList = l
  unfold trimPrefix
  split
  · rw [List.length_drop]; simp only [List.length_cons, List.length_nil]; omega
  · omega
end Go.Proofs.L
namespace Go.Proofs.L
open Go Go.AH
set_option maxRecDepth 4000
set_option linter.unusedSimpArgs false
set_option linter.unusedVariables false
variable [LexG]
theorem c_idx (s : ByteArray) (hs : s.size ≤ 4611686018427387904) : PC Tryd.prog 27 [.str s, .fn 21 [], .bool true] (.int .i64 (idxR s)) := by
 intro H0
 refine ACalls.of_body' (n := 21) rfl rfl rfl rfl ?_
 have m0 := Mono.refl H0
 refine AWP.seq ?_
 refine AWP.region (l := [0]) rfl ?_
 refine AOps.cons rfl rfl (AOp.assign (.int .i64 0) rfl rfl ?_)
 refine AOps.nil ?_
 change AWP _ _ _ _ _ _
 refine AWP.seq ?_
 refine AWP.seq ?_
 refine AWP.region (l := [0, 1]) rfl ?_
 refine AOps.cons rfl rfl (AOp.move (.str s) rfl rfl ?_)
 refine AOps.cons rfl rfl (AOp.rangeS rfl rfl u_9 ?_)
 intro i1 H2 n3 h4 k5
 have z6 := Mono.free m0 n3
 have m7 := Mono.new m0 n3 k5
 refine AOps.nil ?_
 change AWP _ _ _ _ _ _
 refine AWP.block ?_
 refine AWP.loop (fun q8 fq Hq => ∃ (p : Nat) (k : Nat), q8 = s.size - p ∧ fq 1 = .fn 21 [] ∧ fq 2 = .bool true ∧ fq 10 = .it i1 ∧ Hq i1 = some (.iter (.str s p)) ∧ Mono H0 Hq ∧ (idxR s = Lib.idxFuncFrom fR true s k p) ∧ (s.size ≤ p + k)) (k := s.size - 0) ?_ ?_
 ·
  exact ⟨0, s.size, rfl, rfl, rfl, rfl, h4, m7, by rfl, by omega⟩
 ·
  rintro _ f10 H9 ⟨p, k, rfl, s11, s12, s13, h14, m15, hf, hk⟩
  refine AWP.seq ?_
  refine AWP.region (l := [0, 1]) rfl ?_
  refine AOps.cons rfl rfl (AOp.nextS rfl s13 h14 ?_ ?_)
  ·
   intro hle16
   refine AOps.cons rfl rfl (AOp.extract (.bool false) rfl rfl rfl ?_)
   refine AOps.nil ?_
   change AWP _ _ _ _ _ _
   refine AWP.seq ?_
   refine AWP.condF rfl rfl ?_
   refine AWP.exit ?_
   change AWP _ _ _ _ _ _
   refine AWP.seq ?_
   refine AWP.region (l := [0]) rfl ?_
   refine AOps.cons rfl rfl (AOp.assign (.int .i64 (-1)) rfl rfl ?_)
   refine AOps.nil ?_
   change AWP _ _ _ _ _ _
   refine AWP.ret ?_
   refine ⟨_, _, Ghost.refl, .inr rfl, _, Res.one rfl rfl, ?_, m15⟩
   exact (congrArg (AV.int .i64) (show (-1 : Int) = idxR s from by rw [hf, idx_end (by omega)]))
  ·
   intro H17 hlt18 h19 k20
   have m22 := Mono.set m15 z6 k20
   refine AOps.cons rfl rfl (AOp.extract (.bool true) rfl rfl rfl ?_)
   refine AOps.nil ?_
   change AWP _ _ _ _ _ _
   refine AWP.seq ?_
   refine AWP.condT rfl rfl ?_
   refine AWP.skip ?_
   change AWP _ _ _ _ _ _
   refine AWP.block ?_
   refine AWP.seq ?_
   have hw := dec_pos s p
   refine AWP.region (l := [0, 1, 2, 3]) rfl ?_
   refine AOps.cons rfl rfl (AOp.extract (.int .i64 (p : Int)) rfl rfl rfl ?_)
   refine AOps.cons rfl rfl (AOp.extract (.int .i32 ((Utf8.decode s p).1 : Int)) rfl rfl rfl ?_)
   refine AOps.cons rfl rfl (AOp.assign (.int .i64 (p : Int)) rfl rfl ?_)
   refine AOps.cons rfl rfl (AOp.assign (.int .i32 ((Utf8.decode s p).1 : Int)) rfl rfl ?_)
   refine AOps.nil ?_
   change AWP _ _ _ _ _ _
   refine AWP.seq ?_
   refine AWP.region (l := [0, 1, 2, 3, 4]) rfl ?_
   refine AOps.cons rfl rfl (AOp.move (.fn 21 []) rfl s11 ?_)
   refine AOps.cons rfl rfl (AOp.move (.int .i32 ((Utf8.decode s p).1 : Int)) rfl rfl ?_)
   refine AOps.cons rfl rfl (AOp.pcall («as» := [.int .i32 ((Utf8.decode s p).1 : Int)]) rfl rfl (rfl) tf_21 (c_lex_foreign ((Utf8.decode s p).1 : Int)) ?_)
   intro H23 m24
   have h25 := m24 _ _ h19
   have m26 := m22.trans m24
   refine AOps.cons rfl rfl (AOp.move (.bool true) rfl s12 ?_)
   refine AOps.cons rfl rfl (AOp.beq rfl rfl rfl u_4 ?_)
   refine AOps.nil ?_
   change AWP _ _ _ _ _ _
   rcases Bool.eq_false_or_eq_true ((R_lex_foreign ((Utf8.decode s p).1 : Int)) == true) with b27 | b27
   ·
    refine AWP.condT rfl b27 ?_
    refine AWP.seq ?_
    refine AWP.region (l := [0, 1]) rfl ?_
    refine AOps.cons rfl rfl (AOp.move (.int .i64 (p : Int)) rfl rfl ?_)
    refine AOps.cons rfl rfl (AOp.assign (.int .i64 (p : Int)) rfl rfl ?_)
    refine AOps.nil ?_
    change AWP _ _ _ _ _ _
    refine AWP.ret ?_
    refine ⟨_, _, Ghost.refl, .inr rfl, _, Res.one rfl rfl, ?_, m26⟩
    exact (congrArg (AV.int .i64) (show ((p : Int) : Int) = idxR s from by rw [hf, idx_hit hlt18 (by omega) (by simpa using b27)]))
   ·
    refine AWP.condF rfl b27 ?_
    refine AWP.skip ?_
    exact ⟨_, by omega, (p + (Utf8.decode s p).2), k - 1, rfl, s11, s12, s13, h25, m26, by rw [hf]; exact idx_step hlt18 (by omega) (by simpa using b27), by omega⟩
theorem c_IndexFunc (s : ByteArray) (hs : s.size ≤ 4611686018427387904) : PC Tryd.prog 20 [.str s, .fn 21 []] (.int .i64 (idxR s)) := by
 intro H0
 refine ACalls.of_body' (n := 8) rfl rfl rfl rfl ?_
 have m0 := Mono.refl H0
 refine AWP.seq ?_
 refine AWP.region (l := [0]) rfl ?_
 refine AOps.cons rfl rfl (AOp.assign (.int .i64 0) rfl rfl ?_)
 refine AOps.nil ?_
 change AWP _ _ _ _ _ _
 refine AWP.seq ?_
 refine AWP.region (l := [0, 1, 2, 3]) rfl ?_
 refine AOps.cons rfl rfl (AOp.move (.str s) rfl rfl ?_)
 refine AOps.cons rfl rfl (AOp.move (.fn 21 []) rfl rfl ?_)
 refine AOps.cons rfl rfl (AOp.pcall («as» := [.str s, .fn 21 [], .bool true]) rfl rfl (rfl) tf_27 (c_idx s (by omega)) ?_)
 intro H1 m2
 have m3 := m0.trans m2
 refine AOps.cons rfl rfl (AOp.assign (.int .i64 (idxR s)) rfl rfl ?_)
 refine AOps.nil ?_
 change AWP _ _ _ _ _ _
 refine AWP.ret ?_
 refine ⟨_, _, Ghost.refl, .inr rfl, _, Res.one rfl rfl, ?_, m3⟩
 exact rfl
def R_lex_Number (s : ByteArray) : Int × Bool :=
  if ((trimM s).size : Int) = 0 then (0, false) else (if ((trimM s).size : Int) > 6 then (0, false) else (if byt (trimM s) 0 < 48 then (0, false) else (if byt (trimM s) 0 > 57 then (0, false) else (if byt (trimM s) 0 = 48 then (if s = ⟨#[48]⟩ then (if Lib.atoi s.data.toList = none then (0, false) else (atoiV s, true)) else (0, false)) else (if Lib.atoi s.data.toList = none then (0, false) else (atoiV s, true))))))
theorem c_lex_Number (s : ByteArray) : PC Tryd.prog 13 [.str s] (.tup [.int .i64 ((R_lex_Number s).1), .bool ((R_lex_Number s).2)]) := by
 intro H0
 refine ACalls.of_body' (n := 44) rfl rfl rfl rfl ?_
 have m0 := Mono.refl H0
 refine AWP.seq ?_
 refine AWP.region (l := [0, 1]) rfl ?_
 refine AOps.cons rfl rfl (AOp.assign (.int .i64 0) rfl rfl ?_)
 refine AOps.cons rfl rfl (AOp.assign (.bool false) rfl rfl ?_)
 refine AOps.nil ?_
 change AWP _ _ _ _ _ _
 refine AWP.seq ?_
 refine AWP.region (l := [0, 1, 2]) rfl ?_
 refine AOps.cons rfl rfl (AOp.move (.str s) rfl rfl ?_)
 refine AOps.cons rfl rfl (AOp.pcall («as» := [.str s, .str ⟨#[45]⟩]) rfl rfl (rfl) tf_24 (c_Trim s) ?_)
 intro H1 m2
 have m3 := m0.trans m2
 refine AOps.cons rfl rfl (AOp.assign (.str (trimM s)) rfl rfl ?_)
 refine AOps.nil ?_
 change AWP _ _ _ _ _ _
 refine AWP.seq ?_
 refine AWP.seq ?_
 refine AWP.region (l := [0, 1, 2, 3, 4, 5, 6, 7, 8, 9, 10, 11, 12, 13, 14, 15, 16, 17, 18, 19, 20, 21, 22, 23, 24, 25, 26]) rfl ?_
 refine AOps.cons rfl rfl (AOp.move (.str (trimM s)) rfl rfl ?_)
 refine AOps.cons rfl rfl (AOp.lenStr rfl rfl u_9 ?_)
 refine AOps.cons rfl rfl (AOp.bin (.bool (decide (((trimM s).size : Int) = 0))) rfl rfl rfl ieq ?_)
 refine AOps.cons rfl rfl (AOp.move (.bool (decide (((trimM s).size : Int) = 0))) rfl rfl ?_)
 by_cases b4 : ((trimM s).size : Int) = 0
 ·
  refine AOps.no rfl rfl rfl rfl rfl rfl rfl (ble_of (decide_eq_true b4) (by decide)) ?_
  refine AOps.no rfl rfl rfl rfl rfl rfl rfl (ble_of (decide_eq_true b4) (by decide)) ?_
  refine AOps.no rfl rfl rfl rfl rfl rfl rfl (ble_of (decide_eq_true b4) (by decide)) ?_
  refine AOps.cons rfl rfl (AOp.pickT (.bool true) rfl rfl (decide_eq_true b4) rfl ?_)
  refine AOps.cons rfl rfl (AOp.move (.bool true) rfl rfl ?_)
  refine AOps.no rfl rfl rfl rfl rfl rfl rfl (ble_of rfl (by decide)) ?_
  refine AOps.no rfl rfl rfl rfl rfl rfl rfl (ble_of rfl (by decide)) ?_
  refine AOps.no rfl rfl rfl rfl rfl rfl rfl (ble_of rfl (by decide)) ?_
  refine AOps.cons rfl rfl (AOp.pickT (.bool true) rfl rfl rfl rfl ?_)
  refine AOps.cons rfl rfl (AOp.move (.bool true) rfl rfl ?_)
  refine AOps.no rfl rfl rfl rfl rfl rfl rfl (ble_of rfl (by decide)) ?_
  refine AOps.no rfl rfl rfl rfl rfl rfl rfl (ble_of rfl (by decide)) ?_
  refine AOps.no rfl rfl rfl rfl rfl rfl rfl (ble_of rfl (by decide)) ?_
  refine AOps.cons rfl rfl (AOp.pickT (.bool true) rfl rfl rfl rfl ?_)
  refine AOps.cons rfl rfl (AOp.move (.bool true) rfl rfl ?_)
  refine AOps.no rfl rfl rfl rfl rfl rfl rfl (ble_of rfl (by decide)) ?_
  refine AOps.no rfl rfl rfl rfl rfl rfl rfl (ble_of rfl (by decide)) ?_
  refine AOps.no rfl rfl rfl rfl rfl rfl rfl (ble_of rfl (by decide)) ?_
  refine AOps.no rfl rfl rfl rfl rfl rfl rfl (ble_of rfl (by decide)) ?_
  refine AOps.un rfl rfl rfl rfl rfl rfl rfl ?_
  refine AOps.un rfl rfl rfl rfl rfl rfl rfl ?_
  refine AOps.no rfl rfl rfl rfl rfl rfl rfl (ble_of rfl (by decide)) ?_
  refine AOps.cons rfl rfl (AOp.pickT (.bool true) rfl rfl rfl rfl ?_)
  refine AOps.nil ?_
  change AWP _ _ _ _ _ _
  refine AWP.condT rfl rfl ?_
  refine AWP.seq ?_
  refine AWP.region (l := [0, 1]) rfl ?_
  refine AOps.cons rfl rfl (AOp.assign (.int .i64 0) rfl rfl ?_)
  refine AOps.cons rfl rfl (AOp.assign (.bool false) rfl rfl ?_)
  refine AOps.nil ?_
  change AWP _ _ _ _ _ _
  refine AWP.ret ?_
  refine ⟨_, _, Ghost.refl, .inr rfl, _, Res.two rfl rfl rfl, ?_, m3⟩
  have hR : R_lex_Number s = (0, false) := by unfold R_lex_Number; rw [if_pos b4]
  exact (congrArg (fun r : Int × Bool => (.tup [.int .i64 r.1, .bool r.2] : AV)) hR).symm
 ·
  refine AOps.yes rfl rfl rfl rfl rfl rfl rfl (decide_eq_false b4) (AOp.move (.str (trimM s)) rfl rfl ?_)
  refine AOps.yes rfl rfl rfl rfl rfl rfl rfl (decide_eq_false b4) (AOp.lenStr rfl rfl u_9 ?_)
  refine AOps.yes rfl rfl rfl rfl rfl rfl rfl (decide_eq_false b4) (AOp.bin (.bool (decide (((trimM s).size : Int) > 6))) rfl rfl rfl rfl ?_)
  refine AOps.cons rfl rfl (AOp.pickF (.bool (decide (((trimM s).size : Int) > 6))) rfl rfl (decide_eq_false b4) rfl ?_)
  refine AOps.cons rfl rfl (AOp.move (.bool (decide (((trimM s).size : Int) > 6))) rfl rfl ?_)
  by_cases b5 : ((trimM s).size : Int) > 6
  ·
   refine AOps.no rfl rfl rfl rfl rfl rfl rfl (ble_of (decide_eq_true b5) (by decide)) ?_
   refine AOps.no rfl rfl rfl rfl rfl rfl rfl (ble_of (decide_eq_true b5) (by decide)) ?_
   refine AOps.no rfl rfl rfl rfl rfl rfl rfl (ble_of (decide_eq_true b5) (by decide)) ?_
   refine AOps.cons rfl rfl (AOp.pickT (.bool true) rfl rfl (decide_eq_true b5) rfl ?_)
   refine AOps.cons rfl rfl (AOp.move (.bool true) rfl rfl ?_)
   refine AOps.no rfl rfl rfl rfl rfl rfl rfl (ble_of rfl (by decide)) ?_
   refine AOps.no rfl rfl rfl rfl rfl rfl rfl (ble_of rfl (by decide)) ?_
   refine AOps.no rfl rfl rfl rfl rfl rfl rfl (ble_of rfl (by decide)) ?_
   refine AOps.cons rfl rfl (AOp.pickT (.bool true) rfl rfl rfl rfl ?_)
   refine AOps.cons rfl rfl (AOp.move (.bool true) rfl rfl ?_)
   refine AOps.no rfl rfl rfl rfl rfl rfl rfl (ble_of rfl (by decide)) ?_
   refine AOps.no rfl rfl rfl rfl rfl rfl rfl (ble_of rfl (by decide)) ?_
   refine AOps.no rfl rfl rfl rfl rfl rfl rfl (ble_of rfl (by decide)) ?_
   refine AOps.no rfl rfl rfl rfl rfl rfl rfl (ble_of rfl (by decide)) ?_
   refine AOps.un rfl rfl rfl rfl rfl rfl rfl ?_
   refine AOps.un rfl rfl rfl rfl rfl rfl rfl ?_
   refine AOps.no rfl rfl rfl rfl rfl rfl rfl (ble_of rfl (by decide)) ?_
   refine AOps.cons rfl rfl (AOp.pickT (.bool true) rfl rfl rfl rfl ?_)
   refine AOps.nil ?_
   change AWP _ _ _ _ _ _
   refine AWP.condT rfl rfl ?_
   refine AWP.seq ?_
   refine AWP.region (l := [0, 1]) rfl ?_
   refine AOps.cons rfl rfl (AOp.assign (.int .i64 0) rfl rfl ?_)
   refine AOps.cons rfl rfl (AOp.assign (.bool false) rfl rfl ?_)
   refine AOps.nil ?_
   change AWP _ _ _ _ _ _
   refine AWP.ret ?_
   refine ⟨_, _, Ghost.refl, .inr rfl, _, Res.two rfl rfl rfl, ?_, m3⟩
   have hR : R_lex_Number s = (0, false) := by unfold R_lex_Number; rw [if_neg b4, if_pos b5]
   exact (congrArg (fun r : Int × Bool => (.tup [.int .i64 r.1, .bool r.2] : AV)) hR).symm
  ·
   refine AOps.yes rfl rfl rfl rfl rfl rfl rfl (decide_eq_false b5) (AOp.move (.str (trimM s)) rfl rfl ?_)
   have hb6 := byt_rng (trimM s) 0
   refine AOps.yes rfl rfl rfl rfl rfl rfl rfl (decide_eq_false b5) (AOp.indexB rfl rfl rfl u_9 (by omega) (by omega) ?_)
   refine AOps.yes rfl rfl rfl rfl rfl rfl rfl (decide_eq_false b5) (AOp.bin (.bool (decide (byt (trimM s) 0 < 48))) rfl rfl rfl rfl ?_)
   refine AOps.cons rfl rfl (AOp.pickF (.bool (decide (byt (trimM s) 0 < 48))) rfl rfl (decide_eq_false b5) rfl ?_)
   refine AOps.cons rfl rfl (AOp.move (.bool (decide (byt (trimM s) 0 < 48))) rfl rfl ?_)
   by_cases b7 : byt (trimM s) 0 < 48
   ·
    refine AOps.no rfl rfl rfl rfl rfl rfl rfl (ble_of (decide_eq_true b7) (by decide)) ?_
    refine AOps.no rfl rfl rfl rfl rfl rfl rfl (ble_of (decide_eq_true b7) (by decide)) ?_
    refine AOps.no rfl rfl rfl rfl rfl rfl rfl (ble_of (decide_eq_true b7) (by decide)) ?_
    refine AOps.cons rfl rfl (AOp.pickT (.bool true) rfl rfl (decide_eq_true b7) rfl ?_)
    refine AOps.cons rfl rfl (AOp.move (.bool true) rfl rfl ?_)
    refine AOps.no rfl rfl rfl rfl rfl rfl rfl (ble_of rfl (by decide)) ?_
    refine AOps.no rfl rfl rfl rfl rfl rfl rfl (ble_of rfl (by decide)) ?_
    refine AOps.no rfl rfl rfl rfl rfl rfl rfl (ble_of rfl (by decide)) ?_
    refine AOps.no rfl rfl rfl rfl rfl rfl rfl (ble_of rfl (by decide)) ?_
    refine AOps.un rfl rfl rfl rfl rfl rfl rfl ?_
    refine AOps.un rfl rfl rfl rfl rfl rfl rfl ?_
    refine AOps.no rfl rfl rfl rfl rfl rfl rfl (ble_of rfl (by decide)) ?_
    refine AOps.cons rfl rfl (AOp.pickT (.bool true) rfl rfl rfl rfl ?_)
    refine AOps.nil ?_
    change AWP _ _ _ _ _ _
    refine AWP.condT rfl rfl ?_
    refine AWP.seq ?_
    refine AWP.region (l := [0, 1]) rfl ?_
    refine AOps.cons rfl rfl (AOp.assign (.int .i64 0) rfl rfl ?_)
    refine AOps.cons rfl rfl (AOp.assign (.bool false) rfl rfl ?_)
    refine AOps.nil ?_
    change AWP _ _ _ _ _ _
    refine AWP.ret ?_
    refine ⟨_, _, Ghost.refl, .inr rfl, _, Res.two rfl rfl rfl, ?_, m3⟩
    have hR : R_lex_Number s = (0, false) := by unfold R_lex_Number; rw [if_neg b4, if_neg b5, if_pos b7]
    exact (congrArg (fun r : Int × Bool => (.tup [.int .i64 r.1, .bool r.2] : AV)) hR).symm
   ·
    refine AOps.yes rfl rfl rfl rfl rfl rfl rfl (decide_eq_false b7) (AOp.move (.str (trimM s)) rfl rfl ?_)
    refine AOps.yes rfl rfl rfl rfl rfl rfl rfl (decide_eq_false b7) (AOp.indexB rfl rfl rfl u_9 (by omega) (by omega) ?_)
    refine AOps.yes rfl rfl rfl rfl rfl rfl rfl (decide_eq_false b7) (AOp.bin (.bool (decide (byt (trimM s) 0 > 57))) rfl rfl rfl rfl ?_)
    refine AOps.cons rfl rfl (AOp.pickF (.bool (decide (byt (trimM s) 0 > 57))) rfl rfl (decide_eq_false b7) rfl ?_)
    refine AOps.cons rfl rfl (AOp.move (.bool (decide (byt (trimM s) 0 > 57))) rfl rfl ?_)
    by_cases b8 : byt (trimM s) 0 > 57
    ·
     refine AOps.no rfl rfl rfl rfl rfl rfl rfl (ble_of (decide_eq_true b8) (by decide)) ?_
     refine AOps.no rfl rfl rfl rfl rfl rfl rfl (ble_of (decide_eq_true b8) (by decide)) ?_
     refine AOps.no rfl rfl rfl rfl rfl rfl rfl (ble_of (decide_eq_true b8) (by decide)) ?_
     refine AOps.no rfl rfl rfl rfl rfl rfl rfl (ble_of (decide_eq_true b8) (by decide)) ?_
     refine AOps.un rfl rfl rfl rfl rfl rfl rfl ?_
     refine AOps.un rfl rfl rfl rfl rfl rfl rfl ?_
     refine AOps.no rfl rfl rfl rfl rfl rfl rfl (ble_of (decide_eq_true b8) (by decide)) ?_
     refine AOps.cons rfl rfl (AOp.pickT (.bool true) rfl rfl (decide_eq_true b8) rfl ?_)
     refine AOps.nil ?_
     change AWP _ _ _ _ _ _
     refine AWP.condT rfl rfl ?_
     refine AWP.seq ?_
     refine AWP.region (l := [0, 1]) rfl ?_
     refine AOps.cons rfl rfl (AOp.assign (.int .i64 0) rfl rfl ?_)
     refine AOps.cons rfl rfl (AOp.assign (.bool false) rfl rfl ?_)
     refine AOps.nil ?_
     change AWP _ _ _ _ _ _
     refine AWP.ret ?_
     refine ⟨_, _, Ghost.refl, .inr rfl, _, Res.two rfl rfl rfl, ?_, m3⟩
     have hR : R_lex_Number s = (0, false) := by unfold R_lex_Number; rw [if_neg b4, if_neg b5, if_neg b7, if_pos b8]
     exact (congrArg (fun r : Int × Bool => (.tup [.int .i64 r.1, .bool r.2] : AV)) hR).symm
    ·
     refine AOps.yes rfl rfl rfl rfl rfl rfl rfl (decide_eq_false b8) (AOp.move (.str (trimM s)) rfl rfl ?_)
     refine AOps.yes rfl rfl rfl rfl rfl rfl rfl (decide_eq_false b8) (AOp.indexB rfl rfl rfl u_9 (by omega) (by omega) ?_)
     refine AOps.yes rfl rfl rfl rfl rfl rfl rfl (decide_eq_false b8) (AOp.bin (.bool (decide (byt (trimM s) 0 = 48))) rfl rfl rfl ieq ?_)
     refine AOps.yes rfl rfl rfl rfl rfl rfl rfl (decide_eq_false b8) (AOp.move (.bool (decide (byt (trimM s) 0 = 48))) rfl rfl ?_)
     by_cases b9 : byt (trimM s) 0 = 48
     ·
      refine AOps.yes rfl rfl rfl rfl rfl rfl rfl (decide_eq_true b9) (AOp.move (.str s) rfl rfl ?_)
      refine AOps.yes rfl rfl rfl rfl rfl rfl rfl (decide_eq_true b9) (AOp.sneD rfl rfl rfl ?_)
      refine AOps.yes rfl rfl rfl rfl rfl rfl rfl (decide_eq_false b8) (AOp.pickT (.bool (!decide (s = ⟨#[48]⟩))) rfl rfl (decide_eq_true b9) rfl ?_)
      refine AOps.cons rfl rfl (AOp.pickF (.bool (!decide (s = ⟨#[48]⟩))) rfl rfl (decide_eq_false b8) rfl ?_)
      refine AOps.nil ?_
      change AWP _ _ _ _ _ _
      by_cases b10 : s = ⟨#[48]⟩
      ·
       refine AWP.condF rfl (nb (decide_eq_true b10)) ?_
       refine AWP.skip ?_
       change AWP _ _ _ _ _ _
       refine AWP.seq ?_
       have htz := trimM_size s
       refine AWP.region (l := [0, 1, 2, 3, 4, 5, 6]) rfl ?_
       refine AOps.cons rfl rfl (AOp.move (.str s) rfl rfl ?_)
       refine AOps.cons rfl rfl (AOp.pcall («as» := [.str s]) rfl rfl (rfl) tf_25 (c_Atoi s (by omega)) ?_)
       intro H11 m12
       have m13 := m3.trans m12
       refine AOps.cons rfl rfl (AOp.move (.tup [.int .i64 (atoiV s), atoiE s]) rfl rfl ?_)
       refine AOps.cons rfl rfl (AOp.extract (.int .i64 (atoiV s)) rfl rfl rfl ?_)
       refine AOps.cons rfl rfl (AOp.extract (atoiE s) rfl rfl rfl ?_)
       refine AOps.cons rfl rfl (AOp.assign (.int .i64 (atoiV s)) rfl rfl ?_)
       refine AOps.cons rfl rfl (AOp.assign (atoiE s) rfl rfl ?_)
       refine AOps.nil ?_
       change AWP _ _ _ _ _ _
       refine AWP.seq ?_
       refine AWP.seq ?_
       refine AWP.region (l := [0, 1]) rfl ?_
       refine AOps.cons rfl rfl (AOp.move (atoiE s) rfl rfl ?_)
       refine AOps.cons rfl rfl (AOp.ifnil rfl rfl ui48 (atoiE_or s) ?_)
       refine AOps.nil ?_
       change AWP _ _ _ _ _ _
       by_cases b14 : Lib.atoi s.data.toList = none
       ·
        refine AWP.condT rfl (decide_eq_true b14) ?_
        refine AWP.seq ?_
        refine AWP.region (l := [0, 1]) rfl ?_
        refine AOps.cons rfl rfl (AOp.assign (.int .i64 0) rfl rfl ?_)
        refine AOps.cons rfl rfl (AOp.assign (.bool false) rfl rfl ?_)
        refine AOps.nil ?_
        change AWP _ _ _ _ _ _
        refine AWP.ret ?_
        refine ⟨_, _, Ghost.refl, .inr rfl, _, Res.two rfl rfl rfl, ?_, m13⟩
        have hR : R_lex_Number s = (0, false) := by unfold R_lex_Number; rw [if_neg b4, if_neg b5, if_neg b7, if_neg b8, if_pos b9, if_pos b10, if_pos b14]
        exact (congrArg (fun r : Int × Bool => (.tup [.int .i64 r.1, .bool r.2] : AV)) hR).symm
       ·
        refine AWP.condF rfl (decide_eq_false b14) ?_
        refine AWP.skip ?_
        change AWP _ _ _ _ _ _
        refine AWP.seq ?_
        refine AWP.region (l := [0, 1, 2]) rfl ?_
        refine AOps.cons rfl rfl (AOp.move (.int .i64 (atoiV s)) rfl rfl ?_)
        refine AOps.cons rfl rfl (AOp.assign (.int .i64 (atoiV s)) rfl rfl ?_)
        refine AOps.cons rfl rfl (AOp.assign (.bool true) rfl rfl ?_)
        refine AOps.nil ?_
        change AWP _ _ _ _ _ _
        refine AWP.ret ?_
        refine ⟨_, _, Ghost.refl, .inr rfl, _, Res.two rfl rfl rfl, ?_, m13⟩
        have hR : R_lex_Number s = (atoiV s, true) := by unfold R_lex_Number; rw [if_neg b4, if_neg b5, if_neg b7, if_neg b8, if_pos b9, if_pos b10, if_neg b14]
        exact (congrArg (fun r : Int × Bool => (.tup [.int .i64 r.1, .bool r.2] : AV)) hR).symm
      ·
       refine AWP.condT rfl (nb (decide_eq_false b10)) ?_
       refine AWP.seq ?_
       refine AWP.region (l := [0, 1]) rfl ?_
       refine AOps.cons rfl rfl (AOp.assign (.int .i64 0) rfl rfl ?_)
       refine AOps.cons rfl rfl (AOp.assign (.bool false) rfl rfl ?_)
       refine AOps.nil ?_
       change AWP _ _ _ _ _ _
       refine AWP.ret ?_
       refine ⟨_, _, Ghost.refl, .inr rfl, _, Res.two rfl rfl rfl, ?_, m3⟩
       have hR : R_lex_Number s = (0, false) := by unfold R_lex_Number; rw [if_neg b4, if_neg b5, if_neg b7, if_neg b8, if_pos b9, if_neg b10]
       exact (congrArg (fun r : Int × Bool => (.tup [.int .i64 r.1, .bool r.2] : AV)) hR).symm
     ·
      refine AOps.no rfl rfl rfl rfl rfl rfl rfl (ble_of (decide_eq_false b9) (by decide)) ?_
      refine AOps.no rfl rfl rfl rfl rfl rfl rfl (ble_of (decide_eq_false b9) (by decide)) ?_
      refine AOps.yes rfl rfl rfl rfl rfl rfl rfl (decide_eq_false b8) (AOp.pickF (.bool false) rfl rfl (decide_eq_false b9) rfl ?_)
      refine AOps.cons rfl rfl (AOp.pickF (.bool false) rfl rfl (decide_eq_false b8) rfl ?_)
      refine AOps.nil ?_
      change AWP _ _ _ _ _ _
      refine AWP.condF rfl rfl ?_
      refine AWP.skip ?_
      change AWP _ _ _ _ _ _
      refine AWP.seq ?_
      have htz := trimM_size s
      refine AWP.region (l := [0, 1, 2, 3, 4, 5, 6]) rfl ?_
      refine AOps.cons rfl rfl (AOp.move (.str s) rfl rfl ?_)
      refine AOps.cons rfl rfl (AOp.pcall («as» := [.str s]) rfl rfl (rfl) tf_25 (c_Atoi s (by omega)) ?_)
      intro H15 m16
      have m17 := m3.trans m16
      refine AOps.cons rfl rfl (AOp.move (.tup [.int .i64 (atoiV s), atoiE s]) rfl rfl ?_)
      refine AOps.cons rfl rfl (AOp.extract (.int .i64 (atoiV s)) rfl rfl rfl ?_)
      refine AOps.cons rfl rfl (AOp.extract (atoiE s) rfl rfl rfl ?_)
      refine AOps.cons rfl rfl (AOp.assign (.int .i64 (atoiV s)) rfl rfl ?_)
      refine AOps.cons rfl rfl (AOp.assign (atoiE s) rfl rfl ?_)
      refine AOps.nil ?_
      change AWP _ _ _ _ _ _
      refine AWP.seq ?_
      refine AWP.seq ?_
      refine AWP.region (l := [0, 1]) rfl ?_
      refine AOps.cons rfl rfl (AOp.move (atoiE s) rfl rfl ?_)
      refine AOps.cons rfl rfl (AOp.ifnil rfl rfl ui48 (atoiE_or s) ?_)
      refine AOps.nil ?_
      change AWP _ _ _ _ _ _
      by_cases b18 : Lib.atoi s.data.toList = none
      ·
       refine AWP.condT rfl (decide_eq_true b18) ?_
       refine AWP.seq ?_
       refine AWP.region (l := [0, 1]) rfl ?_
       refine AOps.cons rfl rfl (AOp.assign (.int .i64 0) rfl rfl ?_)
       refine AOps.cons rfl rfl (AOp.assign (.bool false) rfl rfl ?_)
       refine AOps.nil ?_
       change AWP _ _ _ _ _ _
       refine AWP.ret ?_
       refine ⟨_, _, Ghost.refl, .inr rfl, _, Res.two rfl rfl rfl, ?_, m17⟩
       have hR : R_lex_Number s = (0, false) := by unfold R_lex_Number; rw [if_neg b4, if_neg b5, if_neg b7, if_neg b8, if_neg b9, if_pos b18]
       exact (congrArg (fun r : Int × Bool => (.tup [.int .i64 r.1, .bool r.2] : AV)) hR).symm
      ·
       refine AWP.condF rfl (decide_eq_false b18) ?_
       refine AWP.skip ?_
       change AWP _ _ _ _ _ _
       refine AWP.seq ?_
       refine AWP.region (l := [0, 1, 2]) rfl ?_
       refine AOps.cons rfl rfl (AOp.move (.int .i64 (atoiV s)) rfl rfl ?_)
       refine AOps.cons rfl rfl (AOp.assign (.int .i64 (atoiV s)) rfl rfl ?_)
       refine AOps.cons rfl rfl (AOp.assign (.bool true) rfl rfl ?_)
       refine AOps.nil ?_
       change AWP _ _ _ _ _ _
       refine AWP.ret ?_
       refine ⟨_, _, Ghost.refl, .inr rfl, _, Res.two rfl rfl rfl, ?_, m17⟩
       have hR : R_lex_Number s = (atoiV s, true) := by unfold R_lex_Number; rw [if_neg b4, if_neg b5, if_neg b7, if_neg b8, if_neg b9, if_neg b18]
       exact (congrArg (fun r : Int × Bool => (.tup [.int .i64 r.1, .bool r.2] : AV)) hR).symm
theorem c_SameTexts (a b : List ByteArray) (ha : a.length ≤ 1048576) (hb : b.length ≤ 1048576) : PC Tryd.prog 18 [.sl a.length (a.map eStr), .sl b.length (b.map eStr)] (.bool (decide (a = b))) := by
 intro H0
 refine ACalls.of_body' (n := 26) rfl rfl rfl rfl ?_
 have m0 := Mono.refl H0
 refine AWP.seq ?_
 refine AWP.region (l := [0]) rfl ?_
 refine AOps.cons rfl rfl (AOp.assign (.bool false) rfl rfl ?_)
 refine AOps.nil ?_
 change AWP _ _ _ _ _ _
 refine AWP.seq ?_
 refine AWP.seq ?_
 refine AWP.region (l := [0, 1, 2, 3, 4]) rfl ?_
 refine AOps.cons rfl rfl (AOp.move (.sl a.length (a.map eStr)) rfl rfl ?_)
 refine AOps.cons rfl rfl (AOp.len (m := a.length) rfl rfl (.inr (.inl ⟨_, rfl⟩)) u_33 ?_)
 refine AOps.cons rfl rfl (AOp.move (.sl b.length (b.map eStr)) rfl rfl ?_)
 refine AOps.cons rfl rfl (AOp.len (m := b.length) rfl rfl (.inr (.inl ⟨_, rfl⟩)) u_33 ?_)
 refine AOps.cons rfl rfl (AOp.bin (.bool (!decide ((a.length : Int) = (b.length : Int)))) rfl rfl rfl ine ?_)
 refine AOps.nil ?_
 change AWP _ _ _ _ _ _
 by_cases b1 : (a.length : Int) = (b.length : Int)
 ·
  refine AWP.condF rfl (nb (decide_eq_true b1)) ?_
  refine AWP.skip ?_
  change AWP _ _ _ _ _ _
  refine AWP.seq ?_
  refine AWP.seq ?_
  refine AWP.region (l := [0]) rfl ?_
  refine AOps.cons rfl rfl (AOp.assign (.int .i64 0) rfl rfl ?_)
  refine AOps.nil ?_
  change AWP _ _ _ _ _ _
  refine AWP.block ?_
  refine AWP.loop (fun q2 fq Hq => ∃ (i : Int), q2 = (((a.length : Int) : Int) - i).toNat ∧ fq 5 = .int .i64 i ∧ fq 0 = .sl a.length (a.map eStr) ∧ fq 1 = .sl b.length (b.map eStr) ∧ Mono H0 Hq ∧ (0 ≤ i) ∧ (i ≤ (a.length : Int)) ∧ ((a.length : Int) = b.length) ∧ (∀ j : Int, 0 ≤ j → j < i → at_ a j = at_ b j)) (k := (((a.length : Int) : Int) - 0).toNat) ?_ ?_
  ·
   exact ⟨0, rfl, rfl, rfl, rfl, m0, by omega, by omega, by assumption, by intro j; omega⟩
  ·
   rintro _ f4 H3 ⟨i, rfl, s5, s6, s7, m8, hi0, hi1, hl, pre⟩
   refine AWP.seq ?_
   refine AWP.seq ?_
   refine AWP.region (l := [0, 1, 2, 3]) rfl ?_
   refine AOps.cons rfl rfl (AOp.move (.int .i64 i) rfl s5 ?_)
   refine AOps.cons rfl rfl (AOp.move (.sl a.length (a.map eStr)) rfl s6 ?_)
   refine AOps.cons rfl rfl (AOp.len (m := a.length) rfl rfl (.inr (.inl ⟨_, rfl⟩)) u_33 ?_)
   refine AOps.cons rfl rfl (AOp.bin (.bool (decide (i < (a.length : Int)))) rfl rfl rfl rfl ?_)
   refine AOps.nil ?_
   change AWP _ _ _ _ _ _
   by_cases b9 : i < (a.length : Int)
   ·
    refine AWP.condT rfl (decide_eq_true b9) ?_
    refine AWP.skip ?_
    change AWP _ _ _ _ _ _
    refine AWP.seq ?_
    refine AWP.block ?_
    refine AWP.seq ?_
    refine AWP.region_quiet mixed (by kernel_rfl) 9 [] rfl (by kernel_rfl) (Mono H3) (Mono.refl _) ?_
    refine QE.op rfl rfl (.inl ⟨rfl, fun f' H' hf hM => AOp.move (.sl a.length (a.map eStr)) rfl ((hf 0 rfl).trans s6) ⟨rfl, hM⟩⟩) ?_
    refine QE.op rfl rfl (.inl ⟨rfl, fun f' H' hf hM => AOp.move (.int .i64 i) rfl ((hf 5 rfl).trans s5) ⟨rfl, hM⟩⟩) ?_
    refine QE.op rfl rfl (.inl ⟨rfl, fun f' H' hf hM => AOp.indexAddrS rfl ((hf 17 rfl).trans rfl) ((hf 18 rfl).trans rfl) sl_33 (by omega) (by omega) ⟨rfl, hM⟩⟩) ?_
    refine QE.op rfl rfl (.inl ⟨rfl, fun f' H' hf hM => AOp.loadF (.str (at_ a i)) rfl ((hf 19 rfl).trans rfl) ty_9 (ld1 (by omega) (by omega)) ⟨rfl, hM⟩⟩) ?_
    refine QE.op rfl rfl (.inl ⟨rfl, fun f' H' hf hM => AOp.move (.sl b.length (b.map eStr)) rfl ((hf 1 rfl).trans s7) ⟨rfl, hM⟩⟩) ?_
    refine QE.op rfl rfl (.inl ⟨rfl, fun f' H' hf hM => AOp.move (.int .i64 i) rfl ((hf 5 rfl).trans s5) ⟨rfl, hM⟩⟩) ?_
    refine QE.op rfl rfl (.inl ⟨rfl, fun f' H' hf hM => AOp.indexAddrS rfl ((hf 21 rfl).trans rfl) ((hf 22 rfl).trans rfl) sl_33 (by omega) (by omega) ⟨rfl, hM⟩⟩) ?_
    refine QE.op rfl rfl (.inl ⟨rfl, fun f' H' hf hM => AOp.loadF (.str (at_ b i)) rfl ((hf 23 rfl).trans rfl) ty_9 (ld1 (by omega) (by omega)) ⟨rfl, hM⟩⟩) ?_
    refine QE.op rfl rfl (.inl ⟨rfl, fun f' H' hf hM => AOp.sneD rfl ((hf 20 rfl).trans rfl) ((hf 24 rfl).trans rfl) ⟨rfl, hM⟩⟩) ?_
    refine QE.done fun H10 m11 => ?_
    have m12 := m8.trans m11
    refine AOps.nil ?_
    change AWP _ _ _ _ _ _
    by_cases b13 : (at_ a i) = (at_ b i)
    ·
     refine AWP.condF rfl (nb (decide_eq_true b13)) ?_
     refine AWP.skip ?_
     change AWP _ _ _ _ _ _
     refine AWP.region (l := [0, 1, 2]) rfl ?_
     refine AOps.cons rfl rfl (AOp.move (.int .i64 i) rfl s5 ?_)
     refine AOps.cons rfl rfl (AOp.bin (.int .i64 (i + 1)) rfl rfl rfl (iadd (by omega)) ?_)
     refine AOps.cons rfl rfl (AOp.assign (.int .i64 (i + 1)) rfl rfl ?_)
     refine AOps.nil ?_
     exact ⟨_, by omega, i + 1, rfl, rfl, s6, s7, m12, by omega, by omega, by assumption, by exact pre_step pre (b13)⟩
    ·
     refine AWP.condT rfl (nb (decide_eq_false b13)) ?_
     refine AWP.seq ?_
     refine AWP.region (l := [0]) rfl ?_
     refine AOps.cons rfl rfl (AOp.assign (.bool false) rfl rfl ?_)
     refine AOps.nil ?_
     change AWP _ _ _ _ _ _
     refine AWP.ret ?_
     refine ⟨_, _, Ghost.refl, .inr rfl, _, Res.one rfl rfl, ?_, m12⟩
     exact (congrArg AV.bool (rfl.trans (decide_eq_false (show ¬ (a = b) from by rintro rfl; first | omega | (exact absurd rfl b13))).symm))
   ·
    refine AWP.condF rfl (decide_eq_false b9) ?_
    refine AWP.exit ?_
    change AWP _ _ _ _ _ _
    refine AWP.seq ?_
    refine AWP.region (l := [0]) rfl ?_
    refine AOps.cons rfl rfl (AOp.assign (.bool true) rfl rfl ?_)
    refine AOps.nil ?_
    change AWP _ _ _ _ _ _
    refine AWP.ret ?_
    refine ⟨_, _, Ghost.refl, .inr rfl, _, Res.one rfl rfl, ?_, m8⟩
    exact (congrArg AV.bool (rfl.trans (decide_eq_true (show a = b from by exact ext_at (by omega) (fun j h1 h2 => pre j h1 (by omega)))).symm))
 ·
  refine AWP.condT rfl (nb (decide_eq_false b1)) ?_
  refine AWP.seq ?_
  refine AWP.region (l := [0]) rfl ?_
  refine AOps.cons rfl rfl (AOp.assign (.bool false) rfl rfl ?_)
  refine AOps.nil ?_
  change AWP _ _ _ _ _ _
  refine AWP.ret ?_
  refine ⟨_, _, Ghost.refl, .inr rfl, _, Res.one rfl rfl, ?_, m0⟩
  exact (congrArg AV.bool (rfl.trans (decide_eq_false (show ¬ (a = b) from by rintro rfl; first | omega | (exact absurd rfl b1))).symm))
end Go.Proofs.L
namespace Go.Proofs.L
open Go Go.AH Go.Lib
set_option maxRecDepth 4000
set_option linter.unusedSectionVars false
variable [LexG]
/-! ### Names -/
def okN (s : ByteArray) (j : Int) : Prop := (97 ≤ byt s j ∧ byt s j ≤ 122) ∨ (0 < j ∧ ((48 ≤ byt s j ∧ byt s j ≤ 57) ∨ byt s j = 95 ∨ byt s j = 46))
instance (s : ByteArray) (j : Int) : Decidable (okN s j) := by unfold okN; infer_instance
def nameB (s : ByteArray) : Bool := decide (1 ≤ s.size) && (decide (s.size ≤ 16) && (List.range s.size).all fun j => decide (okN s j))
theorem nameB_iff {s : ByteArray} : nameB s = true ↔ 1 ≤ s.size ∧ s.size ≤ 16 ∧ ∀ j : Int, 0 ≤ j → j < s.size → okN s j := by
  unfold nameB
  simp only [Bool.and_eq_true, decide_eq_true_eq, List.all_eq_true, List.mem_range]
  constructor
  · rintro ⟨a, b, c⟩
    refine ⟨a, b, fun j h1 h2 => ?_⟩
    have := c j.toNat (by omega)
    rwa [show ((j.toNat : Nat) : Int) = j by omega] at this
  · rintro ⟨a, b, c⟩
    exact ⟨a, b, fun j hj => c j (by omega) (by omega)⟩
theorem nameB_of {s : ByteArray} (h1 : 1 ≤ s.size) (h2 : s.size ≤ 16) (h : ∀ j : Int, 0 ≤ j → j < s.size → okN s j) : nameB s = true := nameB_iff.2 ⟨h1, h2, h⟩
theorem nameB_size {s : ByteArray} (h : s.size < 1 ∨ 16 < s.size) : nameB s = false := by
  rw [Bool.eq_false_iff]
  intro e
  obtain ⟨a, b, _⟩ := nameB_iff.1 e
  omega
theorem nameB_at {s : ByteArray} {i : Int} (h0 : 0 ≤ i) (h1 : i < s.size) (h : ¬ okN s i) : nameB s = false := by
  rw [Bool.eq_false_iff]
  intro e
  exact h ((nameB_iff.1 e).2.2 i h0 h1)
theorem okN_step {s : ByteArray} {i : Int} (pre : ∀ j : Int, 0 ≤ j → j < i → okN s j) (h : okN s i) : ∀ j : Int, 0 ≤ j → j < i + 1 → okN s j := fun j h1 h2 => by
  rcases Int.lt_or_eq_of_le (show j ≤ i by omega) with e | e
  · exact pre j h1 e
  · subst e; exact h
theorem name_step {s : ByteArray} {p : Nat} (h : p < s.size) (pre : ∀ j : Int, 0 ≤ j → j < p → okN s j)
    (hc : (97 ≤ ((Utf8.decode s p).1 : Int) ∧ ((Utf8.decode s p).1 : Int) ≤ 122) ∨ ((p : Int) > 0 ∧ ((48 ≤ ((Utf8.decode s p).1 : Int) ∧ ((Utf8.decode s p).1 : Int) ≤ 57) ∨ ((Utf8.decode s p).1 : Int) = 95 ∨ ((Utf8.decode s p).1 : Int) = 46))) :
    ∀ j : Int, 0 ≤ j → j < ((p + (Utf8.decode s p).2 : Nat) : Int) → okN s j := by
  rcases decode_lo h with ⟨d1, d2, d3⟩ | ⟨d1, d2, d3⟩
  · rw [d3]
    have := okN_step pre (i := p) (by unfold okN; omega)
    intro j h1 h2
    exact this j h1 (by omega)
  · omega
theorem name_no {s : ByteArray} {p : Nat} (h : p < s.size)
    (hc : ¬ ((97 ≤ ((Utf8.decode s p).1 : Int) ∧ ((Utf8.decode s p).1 : Int) ≤ 122) ∨ ((p : Int) > 0 ∧ ((48 ≤ ((Utf8.decode s p).1 : Int) ∧ ((Utf8.decode s p).1 : Int) ≤ 57) ∨ ((Utf8.decode s p).1 : Int) = 95 ∨ ((Utf8.decode s p).1 : Int) = 46)))) : nameB s = false := by
  refine nameB_at (i := p) (by omega) (by omega) ?_
  rcases decode_lo h with ⟨d1, d2, d3⟩ | ⟨d1, d2, d3⟩
  · unfold okN; omega
  · unfold okN; omega
/-! ### Numbers, as the document has them -/
def val10 (w : ByteArray) : Nat → Int
  | 0 => 0
  | k + 1 => val10 w k * 10 + (byt w k - 48)
def digP (w : ByteArray) : Prop := ∀ j : Int, 0 ≤ j → j < w.size → 48 ≤ byt w j ∧ byt w j ≤ 57
def digB (w : ByteArray) : Bool := (List.range w.size).all fun j => decide (48 ≤ byt w j ∧ byt w j ≤ 57)
theorem digB_iff {w : ByteArray} : digB w = true ↔ digP w := by
  unfold digB digP
  simp only [List.all_eq_true, List.mem_range, decide_eq_true_eq]
  constructor
  · intro c j h1 h2
    have := c j.toNat (by omega)
    rwa [show ((j.toNat : Nat) : Int) = j by omega] at this
  · intro c j hj
    exact c j (by omega) (by omega)
def num14w (neg : Bool) (w : ByteArray) : Int × Bool :=
  if w = ⟨#[48]⟩ ∧ neg = false then (0, true) else if ¬ (1 ≤ w.size ∧ w.size ≤ 6 ∧ byt w 0 ≠ 48) then (0, false) else if digB w = true then ((if neg = true then - val10 w w.size else val10 w w.size), true) else (0, false)
def num14 (s : ByteArray) : Int × Bool := if 0 < s.size ∧ byt s 0 = 45 then num14w true (s.extract (1 : Int).toNat (s.size : Int).toNat) else num14w false s
theorem num14_T {s : ByteArray} (h : 0 < s.size ∧ byt s 0 = 45) : num14 s = num14w true (s.extract (1 : Int).toNat (s.size : Int).toNat) := if_pos h
theorem num14_F {s : ByteArray} (h : ¬ (0 < s.size ∧ byt s 0 = 45)) : num14 s = num14w false s := if_neg h
theorem w_zero {w : ByteArray} (h : w = ⟨#[48]⟩) : num14w false w = (0, true) := if_pos ⟨h, rfl⟩
theorem w_bad {w : ByteArray} {neg : Bool} (h : ¬ (w = ⟨#[48]⟩ ∧ neg = false)) (hb : ¬ (1 ≤ w.size ∧ w.size ≤ 6 ∧ byt w 0 ≠ 48)) : num14w neg w = (0, false) := by
  unfold num14w; rw [if_neg h, if_pos hb]
theorem w_nodig {w : ByteArray} {neg : Bool} {i : Int} (h : ¬ (w = ⟨#[48]⟩ ∧ neg = false)) (hb : 1 ≤ w.size ∧ w.size ≤ 6 ∧ byt w 0 ≠ 48) (h0 : 0 ≤ i) (h1 : i < w.size) (hx : ¬ (48 ≤ byt w i ∧ byt w i ≤ 57)) : num14w neg w = (0, false) := by
  unfold num14w; rw [if_neg h, if_neg (not_not_intro hb), if_neg fun e => hx (digB_iff.1 e i h0 h1)]
theorem w_ok {w : ByteArray} {neg : Bool} {i : Int} (h : ¬ (w = ⟨#[48]⟩ ∧ neg = false)) (hb : 1 ≤ w.size ∧ w.size ≤ 6 ∧ byt w 0 ≠ 48) (hi : (w.size : Int) ≤ i) (hi2 : i ≤ w.size) (pre : ∀ j : Int, 0 ≤ j → j < i → 48 ≤ byt w j ∧ byt w j ≤ 57) : num14w neg w = ((if neg = true then - val10 w i.toNat else val10 w i.toNat), true) := by
  have e : i.toNat = w.size := by omega
  unfold num14w; rw [if_neg h, if_neg (not_not_intro hb), if_pos (digB_iff.2 fun j h1 h2 => pre j h1 (by omega)), e]
deriving instance DecidableEq for LineT
theorem at_mem {α : Type} [Inhabited α] {l : List α} {i : Int} (h0 : 0 ≤ i) (h1 : i < l.length) : at_ l i ∈ l := by
  unfold at_
  rw [List.getD_eq_getElem?_getD, List.getElem?_eq_getElem (by omega : i.toNat < l.length)]
  exact List.getElem_mem _
end Go.Proofs.L
namespace Go.Proofs.L
open Go Go.AH
set_option maxRecDepth 4000
set_option linter.unusedSimpArgs false
set_option linter.unusedVariables false
variable [LexG]
theorem c_lex_Name (s : ByteArray) : PC Tryd.prog 15 [.str s] (.bool (nameB s)) := by
 intro H0
 refine ACalls.of_body' (n := 45) rfl rfl rfl rfl ?_
 have m0 := Mono.refl H0
 refine AWP.seq ?_
 refine AWP.region (l := [0]) rfl ?_
 refine AOps.cons rfl rfl (AOp.assign (.bool false) rfl rfl ?_)
 refine AOps.nil ?_
 change AWP _ _ _ _ _ _
 refine AWP.seq ?_
 refine AWP.seq ?_
 refine AWP.region (l := [0, 1, 2, 3, 4, 5, 6, 7]) rfl ?_
 refine AOps.cons rfl rfl (AOp.move (.str s) rfl rfl ?_)
 refine AOps.cons rfl rfl (AOp.lenStr rfl rfl u_9 ?_)
 refine AOps.cons rfl rfl (AOp.bin (.bool (decide ((s.size : Int) = 0))) rfl rfl rfl ieq ?_)
 refine AOps.cons rfl rfl (AOp.move (.bool (decide ((s.size : Int) = 0))) rfl rfl ?_)
 by_cases b1 : (s.size : Int) = 0
 ·
  refine AOps.no rfl rfl rfl rfl rfl rfl rfl (ble_of (decide_eq_true b1) (by decide)) ?_
  refine AOps.no rfl rfl rfl rfl rfl rfl rfl (ble_of (decide_eq_true b1) (by decide)) ?_
  refine AOps.no rfl rfl rfl rfl rfl rfl rfl (ble_of (decide_eq_true b1) (by decide)) ?_
  refine AOps.cons rfl rfl (AOp.pickT (.bool true) rfl rfl (decide_eq_true b1) rfl ?_)
  refine AOps.nil ?_
  change AWP _ _ _ _ _ _
  refine AWP.condT rfl rfl ?_
  refine AWP.seq ?_
  refine AWP.region (l := [0]) rfl ?_
  refine AOps.cons rfl rfl (AOp.assign (.bool false) rfl rfl ?_)
  refine AOps.nil ?_
  change AWP _ _ _ _ _ _
  refine AWP.ret ?_
  refine ⟨_, _, Ghost.refl, .inr rfl, _, Res.one rfl rfl, ?_, m0⟩
  exact (congrArg AV.bool (show (false : Bool) = nameB s from by first | exact (nameB_size (by omega)).symm | exact (nameB_of (by omega) (by omega) (fun j h1 h2 => pre j h1 (by omega))).symm))
 ·
  refine AOps.yes rfl rfl rfl rfl rfl rfl rfl (decide_eq_false b1) (AOp.move (.str s) rfl rfl ?_)
  refine AOps.yes rfl rfl rfl rfl rfl rfl rfl (decide_eq_false b1) (AOp.lenStr rfl rfl u_9 ?_)
  refine AOps.yes rfl rfl rfl rfl rfl rfl rfl (decide_eq_false b1) (AOp.bin (.bool (decide ((s.size : Int) > 16))) rfl rfl rfl rfl ?_)
  refine AOps.cons rfl rfl (AOp.pickF (.bool (decide ((s.size : Int) > 16))) rfl rfl (decide_eq_false b1) rfl ?_)
  refine AOps.nil ?_
  change AWP _ _ _ _ _ _
  by_cases b2 : (s.size : Int) > 16
  ·
   refine AWP.condT rfl (decide_eq_true b2) ?_
   refine AWP.seq ?_
   refine AWP.region (l := [0]) rfl ?_
   refine AOps.cons rfl rfl (AOp.assign (.bool false) rfl rfl ?_)
   refine AOps.nil ?_
   change AWP _ _ _ _ _ _
   refine AWP.ret ?_
   refine ⟨_, _, Ghost.refl, .inr rfl, _, Res.one rfl rfl, ?_, m0⟩
   exact (congrArg AV.bool (show (false : Bool) = nameB s from by first | exact (nameB_size (by omega)).symm | exact (nameB_of (by omega) (by omega) (fun j h1 h2 => pre j h1 (by omega))).symm))
  ·
   refine AWP.condF rfl (decide_eq_false b2) ?_
   refine AWP.skip ?_
   change AWP _ _ _ _ _ _
   refine AWP.seq ?_
   refine AWP.seq ?_
   refine AWP.region (l := [0, 1]) rfl ?_
   refine AOps.cons rfl rfl (AOp.move (.str s) rfl rfl ?_)
   refine AOps.cons rfl rfl (AOp.rangeS rfl rfl u_9 ?_)
   intro i3 H4 n5 h6 k7
   have z8 := Mono.free m0 n5
   have m9 := Mono.new m0 n5 k7
   refine AOps.nil ?_
   change AWP _ _ _ _ _ _
   refine AWP.block ?_
   refine AWP.loop (fun q10 fq Hq => ∃ (p : Nat), q10 = s.size - p ∧ fq 14 = .it i3 ∧ Hq i3 = some (.iter (.str s p)) ∧ Mono H0 Hq ∧ (∀ j : Int, 0 ≤ j → j < p → okN s j)) (k := s.size - 0) ?_ ?_
   ·
    exact ⟨0, rfl, rfl, h6, m9, by intro j; omega⟩
   ·
    rintro _ f12 H11 ⟨p, rfl, s13, h14, m15, pre⟩
    refine AWP.seq ?_
    refine AWP.region (l := [0, 1]) rfl ?_
    refine AOps.cons rfl rfl (AOp.nextS rfl s13 h14 ?_ ?_)
    ·
     intro hle16
     refine AOps.cons rfl rfl (AOp.extract (.bool false) rfl rfl rfl ?_)
     refine AOps.nil ?_
     change AWP _ _ _ _ _ _
     refine AWP.seq ?_
     refine AWP.condF rfl rfl ?_
     refine AWP.exit ?_
     change AWP _ _ _ _ _ _
     refine AWP.seq ?_
     refine AWP.region (l := [0]) rfl ?_
     refine AOps.cons rfl rfl (AOp.assign (.bool true) rfl rfl ?_)
     refine AOps.nil ?_
     change AWP _ _ _ _ _ _
     refine AWP.ret ?_
     refine ⟨_, _, Ghost.refl, .inr rfl, _, Res.one rfl rfl, ?_, m15⟩
     exact (congrArg AV.bool (show (true : Bool) = nameB s from by first | exact (nameB_size (by omega)).symm | exact (nameB_of (by omega) (by omega) (fun j h1 h2 => pre j h1 (by omega))).symm))
    ·
     intro H17 hlt18 h19 k20
     have m22 := Mono.set m15 z8 k20
     refine AOps.cons rfl rfl (AOp.extract (.bool true) rfl rfl rfl ?_)
     refine AOps.nil ?_
     change AWP _ _ _ _ _ _
     refine AWP.seq ?_
     refine AWP.condT rfl rfl ?_
     refine AWP.skip ?_
     change AWP _ _ _ _ _ _
     refine AWP.block ?_
     refine AWP.seq ?_
     have hw := dec_pos s p
     refine AWP.region (l := [0, 1, 2, 3]) rfl ?_
     refine AOps.cons rfl rfl (AOp.extract (.int .i64 (p : Int)) rfl rfl rfl ?_)
     refine AOps.cons rfl rfl (AOp.extract (.int .i32 ((Utf8.decode s p).1 : Int)) rfl rfl rfl ?_)
     refine AOps.cons rfl rfl (AOp.assign (.int .i64 (p : Int)) rfl rfl ?_)
     refine AOps.cons rfl rfl (AOp.assign (.int .i32 ((Utf8.decode s p).1 : Int)) rfl rfl ?_)
     refine AOps.nil ?_
     change AWP _ _ _ _ _ _
     refine AWP.block ?_
     refine AWP.seq ?_
     refine AWP.region (l := [0, 1, 2, 3, 4, 5, 6]) rfl ?_
     refine AOps.cons rfl rfl (AOp.move (.int .i32 ((Utf8.decode s p).1 : Int)) rfl rfl ?_)
     refine AOps.cons rfl rfl (AOp.bin (.bool (decide (97 ≤ ((Utf8.decode s p).1 : Int)))) rfl rfl rfl rfl ?_)
     refine AOps.cons rfl rfl (AOp.move (.bool (decide (97 ≤ ((Utf8.decode s p).1 : Int)))) rfl rfl ?_)
     by_cases b23 : 97 ≤ ((Utf8.decode s p).1 : Int)
     ·
      refine AOps.yes rfl rfl rfl rfl rfl rfl rfl (decide_eq_true b23) (AOp.move (.int .i32 ((Utf8.decode s p).1 : Int)) rfl rfl ?_)
      refine AOps.yes rfl rfl rfl rfl rfl rfl rfl (decide_eq_true b23) (AOp.bin (.bool (decide (((Utf8.decode s p).1 : Int) ≤ 122))) rfl rfl rfl rfl ?_)
      refine AOps.cons rfl rfl (AOp.pickT (.bool (decide (((Utf8.decode s p).1 : Int) ≤ 122))) rfl rfl (decide_eq_true b23) rfl ?_)
      refine AOps.cons rfl rfl (AOp.assign (.bool (decide (((Utf8.decode s p).1 : Int) ≤ 122))) rfl rfl ?_)
      refine AOps.nil ?_
      change AWP _ _ _ _ _ _
      by_cases b24 : ((Utf8.decode s p).1 : Int) ≤ 122
      ·
       refine AWP.condT rfl (decide_eq_true b24) ?_
       refine AWP.skip ?_
       exact ⟨_, by omega, (p + (Utf8.decode s p).2), rfl, s13, h19, m22, by exact name_step hlt18 pre (by omega)⟩
      ·
       refine AWP.condF rfl (decide_eq_false b24) ?_
       refine AWP.seq ?_
       refine AWP.region (l := [0, 1, 2, 3, 4, 5, 6, 7, 8, 9, 10, 11, 12, 13, 14, 15, 16, 17, 18]) rfl ?_
       refine AOps.cons rfl rfl (AOp.move (.int .i64 (p : Int)) rfl rfl ?_)
       refine AOps.cons rfl rfl (AOp.bin (.bool (decide ((p : Int) > 0))) rfl rfl rfl rfl ?_)
       refine AOps.cons rfl rfl (AOp.move (.bool (decide ((p : Int) > 0))) rfl rfl ?_)
       by_cases b25 : (p : Int) > 0
       ·
        refine AOps.yes rfl rfl rfl rfl rfl rfl rfl (decide_eq_true b25) (AOp.move (.int .i32 ((Utf8.decode s p).1 : Int)) rfl rfl ?_)
        refine AOps.yes rfl rfl rfl rfl rfl rfl rfl (decide_eq_true b25) (AOp.bin (.bool (decide (48 ≤ ((Utf8.decode s p).1 : Int)))) rfl rfl rfl rfl ?_)
        refine AOps.yes rfl rfl rfl rfl rfl rfl rfl (decide_eq_true b25) (AOp.move (.bool (decide (48 ≤ ((Utf8.decode s p).1 : Int)))) rfl rfl ?_)
        by_cases b26 : 48 ≤ ((Utf8.decode s p).1 : Int)
        ·
         refine AOps.yes rfl rfl rfl rfl rfl rfl rfl (decide_eq_true b26) (AOp.move (.int .i32 ((Utf8.decode s p).1 : Int)) rfl rfl ?_)
         refine AOps.yes rfl rfl rfl rfl rfl rfl rfl (decide_eq_true b26) (AOp.bin (.bool (decide (((Utf8.decode s p).1 : Int) ≤ 57))) rfl rfl rfl rfl ?_)
         refine AOps.yes rfl rfl rfl rfl rfl rfl rfl (decide_eq_true b25) (AOp.pickT (.bool (decide (((Utf8.decode s p).1 : Int) ≤ 57))) rfl rfl (decide_eq_true b26) rfl ?_)
         refine AOps.yes rfl rfl rfl rfl rfl rfl rfl (decide_eq_true b25) (AOp.move (.bool (decide (((Utf8.decode s p).1 : Int) ≤ 57))) rfl rfl ?_)
         by_cases b27 : ((Utf8.decode s p).1 : Int) ≤ 57
         ·
          refine AOps.no rfl rfl rfl rfl rfl rfl rfl (ble_of (decide_eq_true b27) (by decide)) ?_
          refine AOps.no rfl rfl rfl rfl rfl rfl rfl (ble_of (decide_eq_true b27) (by decide)) ?_
          refine AOps.yes rfl rfl rfl rfl rfl rfl rfl (decide_eq_true b25) (AOp.pickT (.bool true) rfl rfl (decide_eq_true b27) rfl ?_)
          refine AOps.yes rfl rfl rfl rfl rfl rfl rfl (decide_eq_true b25) (AOp.move (.bool true) rfl rfl ?_)
          refine AOps.no rfl rfl rfl rfl rfl rfl rfl (ble_of rfl (by decide)) ?_
          refine AOps.no rfl rfl rfl rfl rfl rfl rfl (ble_of rfl (by decide)) ?_
          refine AOps.yes rfl rfl rfl rfl rfl rfl rfl (decide_eq_true b25) (AOp.pickT (.bool true) rfl rfl rfl rfl ?_)
          refine AOps.cons rfl rfl (AOp.pickT (.bool true) rfl rfl (decide_eq_true b25) rfl ?_)
          refine AOps.cons rfl rfl (AOp.assign (.bool true) rfl rfl ?_)
          refine AOps.nil ?_
          change AWP _ _ _ _ _ _
          refine AWP.condT rfl rfl ?_
          refine AWP.skip ?_
          exact ⟨_, by omega, (p + (Utf8.decode s p).2), rfl, s13, h19, m22, by exact name_step hlt18 pre (by omega)⟩
         ·
          refine AOps.yes rfl rfl rfl rfl rfl rfl rfl (decide_eq_false b27) (AOp.move (.int .i32 ((Utf8.decode s p).1 : Int)) rfl rfl ?_)
          refine AOps.yes rfl rfl rfl rfl rfl rfl rfl (decide_eq_false b27) (AOp.bin (.bool (decide (((Utf8.decode s p).1 : Int) = 95))) rfl rfl rfl ieq ?_)
          refine AOps.yes rfl rfl rfl rfl rfl rfl rfl (decide_eq_true b25) (AOp.pickF (.bool (decide (((Utf8.decode s p).1 : Int) = 95))) rfl rfl (decide_eq_false b27) rfl ?_)
          refine AOps.yes rfl rfl rfl rfl rfl rfl rfl (decide_eq_true b25) (AOp.move (.bool (decide (((Utf8.decode s p).1 : Int) = 95))) rfl rfl ?_)
          by_cases b28 : ((Utf8.decode s p).1 : Int) = 95
          ·
           refine AOps.no rfl rfl rfl rfl rfl rfl rfl (ble_of (decide_eq_true b28) (by decide)) ?_
           refine AOps.no rfl rfl rfl rfl rfl rfl rfl (ble_of (decide_eq_true b28) (by decide)) ?_
           refine AOps.yes rfl rfl rfl rfl rfl rfl rfl (decide_eq_true b25) (AOp.pickT (.bool true) rfl rfl (decide_eq_true b28) rfl ?_)
           refine AOps.cons rfl rfl (AOp.pickT (.bool true) rfl rfl (decide_eq_true b25) rfl ?_)
           refine AOps.cons rfl rfl (AOp.assign (.bool true) rfl rfl ?_)
           refine AOps.nil ?_
           change AWP _ _ _ _ _ _
           refine AWP.condT rfl rfl ?_
           refine AWP.skip ?_
           exact ⟨_, by omega, (p + (Utf8.decode s p).2), rfl, s13, h19, m22, by exact name_step hlt18 pre (by omega)⟩
          ·
           refine AOps.yes rfl rfl rfl rfl rfl rfl rfl (decide_eq_false b28) (AOp.move (.int .i32 ((Utf8.decode s p).1 : Int)) rfl rfl ?_)
           refine AOps.yes rfl rfl rfl rfl rfl rfl rfl (decide_eq_false b28) (AOp.bin (.bool (decide (((Utf8.decode s p).1 : Int) = 46))) rfl rfl rfl ieq ?_)
           refine AOps.yes rfl rfl rfl rfl rfl rfl rfl (decide_eq_true b25) (AOp.pickF (.bool (decide (((Utf8.decode s p).1 : Int) = 46))) rfl rfl (decide_eq_false b28) rfl ?_)
           refine AOps.cons rfl rfl (AOp.pickT (.bool (decide (((Utf8.decode s p).1 : Int) = 46))) rfl rfl (decide_eq_true b25) rfl ?_)
           refine AOps.cons rfl rfl (AOp.assign (.bool (decide (((Utf8.decode s p).1 : Int) = 46))) rfl rfl ?_)
           refine AOps.nil ?_
           change AWP _ _ _ _ _ _
           by_cases b29 : ((Utf8.decode s p).1 : Int) = 46
           ·
            refine AWP.condT rfl (decide_eq_true b29) ?_
            refine AWP.skip ?_
            exact ⟨_, by omega, (p + (Utf8.decode s p).2), rfl, s13, h19, m22, by exact name_step hlt18 pre (by omega)⟩
           ·
            refine AWP.condF rfl (decide_eq_false b29) ?_
            refine AWP.seq ?_
            refine AWP.region (l := [0]) rfl ?_
            refine AOps.cons rfl rfl (AOp.assign (.bool false) rfl rfl ?_)
            refine AOps.nil ?_
            change AWP _ _ _ _ _ _
            refine AWP.ret ?_
            refine ⟨_, _, Ghost.refl, .inr rfl, _, Res.one rfl rfl, ?_, m22⟩
            exact (congrArg AV.bool (show (false : Bool) = nameB s from by exact (name_no hlt18 (by omega)).symm))
        ·
         refine AOps.no rfl rfl rfl rfl rfl rfl rfl (ble_of (decide_eq_false b26) (by decide)) ?_
         refine AOps.no rfl rfl rfl rfl rfl rfl rfl (ble_of (decide_eq_false b26) (by decide)) ?_
         refine AOps.yes rfl rfl rfl rfl rfl rfl rfl (decide_eq_true b25) (AOp.pickF (.bool false) rfl rfl (decide_eq_false b26) rfl ?_)
         refine AOps.yes rfl rfl rfl rfl rfl rfl rfl (decide_eq_true b25) (AOp.move (.bool false) rfl rfl ?_)
         refine AOps.yes rfl rfl rfl rfl rfl rfl rfl rfl (AOp.move (.int .i32 ((Utf8.decode s p).1 : Int)) rfl rfl ?_)
         refine AOps.yes rfl rfl rfl rfl rfl rfl rfl rfl (AOp.bin (.bool (decide (((Utf8.decode s p).1 : Int) = 95))) rfl rfl rfl ieq ?_)
         refine AOps.yes rfl rfl rfl rfl rfl rfl rfl (decide_eq_true b25) (AOp.pickF (.bool (decide (((Utf8.decode s p).1 : Int) = 95))) rfl rfl rfl rfl ?_)
         refine AOps.yes rfl rfl rfl rfl rfl rfl rfl (decide_eq_true b25) (AOp.move (.bool (decide (((Utf8.decode s p).1 : Int) = 95))) rfl rfl ?_)
         by_cases b30 : ((Utf8.decode s p).1 : Int) = 95
         ·
          refine AOps.no rfl rfl rfl rfl rfl rfl rfl (ble_of (decide_eq_true b30) (by decide)) ?_
          refine AOps.no rfl rfl rfl rfl rfl rfl rfl (ble_of (decide_eq_true b30) (by decide)) ?_
          refine AOps.yes rfl rfl rfl rfl rfl rfl rfl (decide_eq_true b25) (AOp.pickT (.bool true) rfl rfl (decide_eq_true b30) rfl ?_)
          refine AOps.cons rfl rfl (AOp.pickT (.bool true) rfl rfl (decide_eq_true b25) rfl ?_)
          refine AOps.cons rfl rfl (AOp.assign (.bool true) rfl rfl ?_)
          refine AOps.nil ?_
          change AWP _ _ _ _ _ _
          refine AWP.condT rfl rfl ?_
          refine AWP.skip ?_
          exact ⟨_, by omega, (p + (Utf8.decode s p).2), rfl, s13, h19, m22, by exact name_step hlt18 pre (by omega)⟩
         ·
          refine AOps.yes rfl rfl rfl rfl rfl rfl rfl (decide_eq_false b30) (AOp.move (.int .i32 ((Utf8.decode s p).1 : Int)) rfl rfl ?_)
          refine AOps.yes rfl rfl rfl rfl rfl rfl rfl (decide_eq_false b30) (AOp.bin (.bool (decide (((Utf8.decode s p).1 : Int) = 46))) rfl rfl rfl ieq ?_)
          refine AOps.yes rfl rfl rfl rfl rfl rfl rfl (decide_eq_true b25) (AOp.pickF (.bool (decide (((Utf8.decode s p).1 : Int) = 46))) rfl rfl (decide_eq_false b30) rfl ?_)
          refine AOps.cons rfl rfl (AOp.pickT (.bool (decide (((Utf8.decode s p).1 : Int) = 46))) rfl rfl (decide_eq_true b25) rfl ?_)
          refine AOps.cons rfl rfl (AOp.assign (.bool (decide (((Utf8.decode s p).1 : Int) = 46))) rfl rfl ?_)
          refine AOps.nil ?_
          change AWP _ _ _ _ _ _
          by_cases b31 : ((Utf8.decode s p).1 : Int) = 46
          ·
           refine AWP.condT rfl (decide_eq_true b31) ?_
           refine AWP.skip ?_
           exact ⟨_, by omega, (p + (Utf8.decode s p).2), rfl, s13, h19, m22, by exact name_step hlt18 pre (by omega)⟩
          ·
           refine AWP.condF rfl (decide_eq_false b31) ?_
           refine AWP.seq ?_
           refine AWP.region (l := [0]) rfl ?_
           refine AOps.cons rfl rfl (AOp.assign (.bool false) rfl rfl ?_)
           refine AOps.nil ?_
           change AWP _ _ _ _ _ _
           refine AWP.ret ?_
           refine ⟨_, _, Ghost.refl, .inr rfl, _, Res.one rfl rfl, ?_, m22⟩
           exact (congrArg AV.bool (show (false : Bool) = nameB s from by exact (name_no hlt18 (by omega)).symm))
       ·
        refine AOps.no rfl rfl rfl rfl rfl rfl rfl (ble_of (decide_eq_false b25) (by decide)) ?_
        refine AOps.no rfl rfl rfl rfl rfl rfl rfl (ble_of (decide_eq_false b25) (by decide)) ?_
        refine AOps.no rfl rfl rfl rfl rfl rfl rfl (ble_of (decide_eq_false b25) (by decide)) ?_
        refine AOps.un rfl rfl rfl rfl rfl rfl rfl ?_
        refine AOps.un rfl rfl rfl rfl rfl rfl rfl ?_
        refine AOps.no rfl rfl rfl rfl rfl rfl rfl (ble_of (decide_eq_false b25) (by decide)) ?_
        refine AOps.no rfl rfl rfl rfl rfl rfl rfl (ble_of (decide_eq_false b25) (by decide)) ?_
        refine AOps.un rfl rfl rfl rfl rfl rfl rfl ?_
        refine AOps.un rfl rfl rfl rfl rfl rfl rfl ?_
        refine AOps.no rfl rfl rfl rfl rfl rfl rfl (ble_of (decide_eq_false b25) (by decide)) ?_
        refine AOps.no rfl rfl rfl rfl rfl rfl rfl (ble_of (decide_eq_false b25) (by decide)) ?_
        refine AOps.un rfl rfl rfl rfl rfl rfl rfl ?_
        refine AOps.un rfl rfl rfl rfl rfl rfl rfl ?_
        refine AOps.no rfl rfl rfl rfl rfl rfl rfl (ble_of (decide_eq_false b25) (by decide)) ?_
        refine AOps.cons rfl rfl (AOp.pickF (.bool false) rfl rfl (decide_eq_false b25) rfl ?_)
        refine AOps.cons rfl rfl (AOp.assign (.bool false) rfl rfl ?_)
        refine AOps.nil ?_
        change AWP _ _ _ _ _ _
        refine AWP.condF rfl rfl ?_
        refine AWP.seq ?_
        refine AWP.region (l := [0]) rfl ?_
        refine AOps.cons rfl rfl (AOp.assign (.bool false) rfl rfl ?_)
        refine AOps.nil ?_
        change AWP _ _ _ _ _ _
        refine AWP.ret ?_
        refine ⟨_, _, Ghost.refl, .inr rfl, _, Res.one rfl rfl, ?_, m22⟩
        exact (congrArg AV.bool (show (false : Bool) = nameB s from by exact (name_no hlt18 (by omega)).symm))
     ·
      refine AOps.no rfl rfl rfl rfl rfl rfl rfl (ble_of (decide_eq_false b23) (by decide)) ?_
      refine AOps.no rfl rfl rfl rfl rfl rfl rfl (ble_of (decide_eq_false b23) (by decide)) ?_
      refine AOps.cons rfl rfl (AOp.pickF (.bool false) rfl rfl (decide_eq_false b23) rfl ?_)
      refine AOps.cons rfl rfl (AOp.assign (.bool false) rfl rfl ?_)
      refine AOps.nil ?_
      change AWP _ _ _ _ _ _
      refine AWP.condF rfl rfl ?_
      refine AWP.seq ?_
      refine AWP.region (l := [0, 1, 2, 3, 4, 5, 6, 7, 8, 9, 10, 11, 12, 13, 14, 15, 16, 17, 18]) rfl ?_
      refine AOps.cons rfl rfl (AOp.move (.int .i64 (p : Int)) rfl rfl ?_)
      refine AOps.cons rfl rfl (AOp.bin (.bool (decide ((p : Int) > 0))) rfl rfl rfl rfl ?_)
      refine AOps.cons rfl rfl (AOp.move (.bool (decide ((p : Int) > 0))) rfl rfl ?_)
      by_cases b32 : (p : Int) > 0
      ·
       refine AOps.yes rfl rfl rfl rfl rfl rfl rfl (decide_eq_true b32) (AOp.move (.int .i32 ((Utf8.decode s p).1 : Int)) rfl rfl ?_)
       refine AOps.yes rfl rfl rfl rfl rfl rfl rfl (decide_eq_true b32) (AOp.bin (.bool (decide (48 ≤ ((Utf8.decode s p).1 : Int)))) rfl rfl rfl rfl ?_)
       refine AOps.yes rfl rfl rfl rfl rfl rfl rfl (decide_eq_true b32) (AOp.move (.bool (decide (48 ≤ ((Utf8.decode s p).1 : Int)))) rfl rfl ?_)
       by_cases b33 : 48 ≤ ((Utf8.decode s p).1 : Int)
       ·
        refine AOps.yes rfl rfl rfl rfl rfl rfl rfl (decide_eq_true b33) (AOp.move (.int .i32 ((Utf8.decode s p).1 : Int)) rfl rfl ?_)
        refine AOps.yes rfl rfl rfl rfl rfl rfl rfl (decide_eq_true b33) (AOp.bin (.bool (decide (((Utf8.decode s p).1 : Int) ≤ 57))) rfl rfl rfl rfl ?_)
        refine AOps.yes rfl rfl rfl rfl rfl rfl rfl (decide_eq_true b32) (AOp.pickT (.bool (decide (((Utf8.decode s p).1 : Int) ≤ 57))) rfl rfl (decide_eq_true b33) rfl ?_)
        refine AOps.yes rfl rfl rfl rfl rfl rfl rfl (decide_eq_true b32) (AOp.move (.bool (decide (((Utf8.decode s p).1 : Int) ≤ 57))) rfl rfl ?_)
        by_cases b34 : ((Utf8.decode s p).1 : Int) ≤ 57
        ·
         refine AOps.no rfl rfl rfl rfl rfl rfl rfl (ble_of (decide_eq_true b34) (by decide)) ?_
         refine AOps.no rfl rfl rfl rfl rfl rfl rfl (ble_of (decide_eq_true b34) (by decide)) ?_
         refine AOps.yes rfl rfl rfl rfl rfl rfl rfl (decide_eq_true b32) (AOp.pickT (.bool true) rfl rfl (decide_eq_true b34) rfl ?_)
         refine AOps.yes rfl rfl rfl rfl rfl rfl rfl (decide_eq_true b32) (AOp.move (.bool true) rfl rfl ?_)
         refine AOps.no rfl rfl rfl rfl rfl rfl rfl (ble_of rfl (by decide)) ?_
         refine AOps.no rfl rfl rfl rfl rfl rfl rfl (ble_of rfl (by decide)) ?_
         refine AOps.yes rfl rfl rfl rfl rfl rfl rfl (decide_eq_true b32) (AOp.pickT (.bool true) rfl rfl rfl rfl ?_)
         refine AOps.cons rfl rfl (AOp.pickT (.bool true) rfl rfl (decide_eq_true b32) rfl ?_)
         refine AOps.cons rfl rfl (AOp.assign (.bool true) rfl rfl ?_)
         refine AOps.nil ?_
         change AWP _ _ _ _ _ _
         refine AWP.condT rfl rfl ?_
         refine AWP.skip ?_
         exact ⟨_, by omega, (p + (Utf8.decode s p).2), rfl, s13, h19, m22, by exact name_step hlt18 pre (by omega)⟩
        ·
         refine AOps.yes rfl rfl rfl rfl rfl rfl rfl (decide_eq_false b34) (AOp.move (.int .i32 ((Utf8.decode s p).1 : Int)) rfl rfl ?_)
         refine AOps.yes rfl rfl rfl rfl rfl rfl rfl (decide_eq_false b34) (AOp.bin (.bool (decide (((Utf8.decode s p).1 : Int) = 95))) rfl rfl rfl ieq ?_)
         refine AOps.yes rfl rfl rfl rfl rfl rfl rfl (decide_eq_true b32) (AOp.pickF (.bool (decide (((Utf8.decode s p).1 : Int) = 95))) rfl rfl (decide_eq_false b34) rfl ?_)
         refine AOps.yes rfl rfl rfl rfl rfl rfl rfl (decide_eq_true b32) (AOp.move (.bool (decide (((Utf8.decode s p).1 : Int) = 95))) rfl rfl ?_)
         by_cases b35 : ((Utf8.decode s p).1 : Int) = 95
         ·
          refine AOps.no rfl rfl rfl rfl rfl rfl rfl (ble_of (decide_eq_true b35) (by decide)) ?_
          refine AOps.no rfl rfl rfl rfl rfl rfl rfl (ble_of (decide_eq_true b35) (by decide)) ?_
          refine AOps.yes rfl rfl rfl rfl rfl rfl rfl (decide_eq_true b32) (AOp.pickT (.bool true) rfl rfl (decide_eq_true b35) rfl ?_)
          refine AOps.cons rfl rfl (AOp.pickT (.bool true) rfl rfl (decide_eq_true b32) rfl ?_)
          refine AOps.cons rfl rfl (AOp.assign (.bool true) rfl rfl ?_)
          refine AOps.nil ?_
          change AWP _ _ _ _ _ _
          refine AWP.condT rfl rfl ?_
          refine AWP.skip ?_
          exact ⟨_, by omega, (p + (Utf8.decode s p).2), rfl, s13, h19, m22, by exact name_step hlt18 pre (by omega)⟩
         ·
          refine AOps.yes rfl rfl rfl rfl rfl rfl rfl (decide_eq_false b35) (AOp.move (.int .i32 ((Utf8.decode s p).1 : Int)) rfl rfl ?_)
          refine AOps.yes rfl rfl rfl rfl rfl rfl rfl (decide_eq_false b35) (AOp.bin (.bool (decide (((Utf8.decode s p).1 : Int) = 46))) rfl rfl rfl ieq ?_)
          refine AOps.yes rfl rfl rfl rfl rfl rfl rfl (decide_eq_true b32) (AOp.pickF (.bool (decide (((Utf8.decode s p).1 : Int) = 46))) rfl rfl (decide_eq_false b35) rfl ?_)
          refine AOps.cons rfl rfl (AOp.pickT (.bool (decide (((Utf8.decode s p).1 : Int) = 46))) rfl rfl (decide_eq_true b32) rfl ?_)
          refine AOps.cons rfl rfl (AOp.assign (.bool (decide (((Utf8.decode s p).1 : Int) = 46))) rfl rfl ?_)
          refine AOps.nil ?_
          change AWP _ _ _ _ _ _
          by_cases b36 : ((Utf8.decode s p).1 : Int) = 46
          ·
           refine AWP.condT rfl (decide_eq_true b36) ?_
           refine AWP.skip ?_
           exact ⟨_, by omega, (p + (Utf8.decode s p).2), rfl, s13, h19, m22, by exact name_step hlt18 pre (by omega)⟩
          ·
           refine AWP.condF rfl (decide_eq_false b36) ?_
           refine AWP.seq ?_
           refine AWP.region (l := [0]) rfl ?_
           refine AOps.cons rfl rfl (AOp.assign (.bool false) rfl rfl ?_)
           refine AOps.nil ?_
           change AWP _ _ _ _ _ _
           refine AWP.ret ?_
           refine ⟨_, _, Ghost.refl, .inr rfl, _, Res.one rfl rfl, ?_, m22⟩
           exact (congrArg AV.bool (show (false : Bool) = nameB s from by exact (name_no hlt18 (by omega)).symm))
       ·
        refine AOps.no rfl rfl rfl rfl rfl rfl rfl (ble_of (decide_eq_false b33) (by decide)) ?_
        refine AOps.no rfl rfl rfl rfl rfl rfl rfl (ble_of (decide_eq_false b33) (by decide)) ?_
        refine AOps.yes rfl rfl rfl rfl rfl rfl rfl (decide_eq_true b32) (AOp.pickF (.bool false) rfl rfl (decide_eq_false b33) rfl ?_)
        refine AOps.yes rfl rfl rfl rfl rfl rfl rfl (decide_eq_true b32) (AOp.move (.bool false) rfl rfl ?_)
        refine AOps.yes rfl rfl rfl rfl rfl rfl rfl rfl (AOp.move (.int .i32 ((Utf8.decode s p).1 : Int)) rfl rfl ?_)
        refine AOps.yes rfl rfl rfl rfl rfl rfl rfl rfl (AOp.bin (.bool (decide (((Utf8.decode s p).1 : Int) = 95))) rfl rfl rfl ieq ?_)
        refine AOps.yes rfl rfl rfl rfl rfl rfl rfl (decide_eq_true b32) (AOp.pickF (.bool (decide (((Utf8.decode s p).1 : Int) = 95))) rfl rfl rfl rfl ?_)
        refine AOps.yes rfl rfl rfl rfl rfl rfl rfl (decide_eq_true b32) (AOp.move (.bool (decide (((Utf8.decode s p).1 : Int) = 95))) rfl rfl ?_)
        by_cases b37 : ((Utf8.decode s p).1 : Int) = 95
        ·
         refine AOps.no rfl rfl rfl rfl rfl rfl rfl (ble_of (decide_eq_true b37) (by decide)) ?_
         refine AOps.no rfl rfl rfl rfl rfl rfl rfl (ble_of (decide_eq_true b37) (by decide)) ?_
         refine AOps.yes rfl rfl rfl rfl rfl rfl rfl (decide_eq_true b32) (AOp.pickT (.bool true) rfl rfl (decide_eq_true b37) rfl ?_)
         refine AOps.cons rfl rfl (AOp.pickT (.bool true) rfl rfl (decide_eq_true b32) rfl ?_)
         refine AOps.cons rfl rfl (AOp.assign (.bool true) rfl rfl ?_)
         refine AOps.nil ?_
         change AWP _ _ _ _ _ _
         refine AWP.condT rfl rfl ?_
         refine AWP.skip ?_
         exact ⟨_, by omega, (p + (Utf8.decode s p).2), rfl, s13, h19, m22, by exact name_step hlt18 pre (by omega)⟩
        ·
         refine AOps.yes rfl rfl rfl rfl rfl rfl rfl (decide_eq_false b37) (AOp.move (.int .i32 ((Utf8.decode s p).1 : Int)) rfl rfl ?_)
         refine AOps.yes rfl rfl rfl rfl rfl rfl rfl (decide_eq_false b37) (AOp.bin (.bool (decide (((Utf8.decode s p).1 : Int) = 46))) rfl rfl rfl ieq ?_)
         refine AOps.yes rfl rfl rfl rfl rfl rfl rfl (decide_eq_true b32) (AOp.pickF (.bool (decide (((Utf8.decode s p).1 : Int) = 46))) rfl rfl (decide_eq_false b37) rfl ?_)
         refine AOps.cons rfl rfl (AOp.pickT (.bool (decide (((Utf8.decode s p).1 : Int) = 46))) rfl rfl (decide_eq_true b32) rfl ?_)
         refine AOps.cons rfl rfl (AOp.assign (.bool (decide (((Utf8.decode s p).1 : Int) = 46))) rfl rfl ?_)
         refine AOps.nil ?_
         change AWP _ _ _ _ _ _
         by_cases b38 : ((Utf8.decode s p).1 : Int) = 46
         ·
          refine AWP.condT rfl (decide_eq_true b38) ?_
          refine AWP.skip ?_
          exact ⟨_, by omega, (p + (Utf8.decode s p).2), rfl, s13, h19, m22, by exact name_step hlt18 pre (by omega)⟩
         ·
          refine AWP.condF rfl (decide_eq_false b38) ?_
          refine AWP.seq ?_
          refine AWP.region (l := [0]) rfl ?_
          refine AOps.cons rfl rfl (AOp.assign (.bool false) rfl rfl ?_)
          refine AOps.nil ?_
          change AWP _ _ _ _ _ _
          refine AWP.ret ?_
          refine ⟨_, _, Ghost.refl, .inr rfl, _, Res.one rfl rfl, ?_, m22⟩
          exact (congrArg AV.bool (show (false : Bool) = nameB s from by exact (name_no hlt18 (by omega)).symm))
      ·
       refine AOps.no rfl rfl rfl rfl rfl rfl rfl (ble_of (decide_eq_false b32) (by decide)) ?_
       refine AOps.no rfl rfl rfl rfl rfl rfl rfl (ble_of (decide_eq_false b32) (by decide)) ?_
       refine AOps.no rfl rfl rfl rfl rfl rfl rfl (ble_of (decide_eq_false b32) (by decide)) ?_
       refine AOps.un rfl rfl rfl rfl rfl rfl rfl ?_
       refine AOps.un rfl rfl rfl rfl rfl rfl rfl ?_
       refine AOps.no rfl rfl rfl rfl rfl rfl rfl (ble_of (decide_eq_false b32) (by decide)) ?_
       refine AOps.no rfl rfl rfl rfl rfl rfl rfl (ble_of (decide_eq_false b32) (by decide)) ?_
       refine AOps.un rfl rfl rfl rfl rfl rfl rfl ?_
       refine AOps.un rfl rfl rfl rfl rfl rfl rfl ?_
       refine AOps.no rfl rfl rfl rfl rfl rfl rfl (ble_of (decide_eq_false b32) (by decide)) ?_
       refine AOps.no rfl rfl rfl rfl rfl rfl rfl (ble_of (decide_eq_false b32) (by decide)) ?_
       refine AOps.un rfl rfl rfl rfl rfl rfl rfl ?_
       refine AOps.un rfl rfl rfl rfl rfl rfl rfl ?_
       refine AOps.no rfl rfl rfl rfl rfl rfl rfl (ble_of (decide_eq_false b32) (by decide)) ?_
       refine AOps.cons rfl rfl (AOp.pickF (.bool false) rfl rfl (decide_eq_false b32) rfl ?_)
       refine AOps.cons rfl rfl (AOp.assign (.bool false) rfl rfl ?_)
       refine AOps.nil ?_
       change AWP _ _ _ _ _ _
       refine AWP.condF rfl rfl ?_
       refine AWP.seq ?_
       refine AWP.region (l := [0]) rfl ?_
       refine AOps.cons rfl rfl (AOp.assign (.bool false) rfl rfl ?_)
       refine AOps.nil ?_
       change AWP _ _ _ _ _ _
       refine AWP.ret ?_
       refine ⟨_, _, Ghost.refl, .inr rfl, _, Res.one rfl rfl, ?_, m22⟩
       exact (congrArg AV.bool (show (false : Bool) = nameB s from by exact (name_no hlt18 (by omega)).symm))
end Go.Proofs.L
namespace Go.Proofs.L
open Go Go.AH Go.Lib
set_option maxRecDepth 4000
set_option linter.unusedSectionVars false
variable [LexG]
/-! ### A text's pieces, as lists of bytes -/
def pcs : List UInt8 → List (List UInt8)
  | [] => [[]]
  | b :: l => if b = 10 then [] :: pcs l else (b :: (pcs l).headD []) :: (pcs l).tail
theorem pcs_ne (l : List UInt8) : pcs l ≠ [] := by
  cases l with
  | nil => simp [pcs]
  | cons b l => unfold pcs; split <;> simp
theorem split_miss {l : List UInt8} (h : index l [10] = -1) : pcs l = [l] := by
  induction l with
  | nil => rfl
  | cons b l ih =>
    unfold index at h
    by_cases hb : b = 10
    · subst hb; simp at h
    · have hp : ([10] : List UInt8).isPrefixOf (b :: l) = false := by simp [List.isPrefixOf, Ne.symm hb]
      rw [hp] at h
      simp only [Bool.false_eq_true, if_false] at h
      have h2 : index l [10] = -1 := by
        split at h
        · rename_i g; exact beq_iff_eq.1 g
        · have := index_ge l [10]; omega
      unfold pcs
      rw [if_neg hb, ih h2]
      rfl
theorem split_hit : ∀ {l : List UInt8} {i : Nat}, index l [10] = i → pcs l = l.take i :: pcs (l.drop (i + 1))
  | [], i, h => by simp [index] at h
  | b :: l, i, h => by
    unfold index at h
    by_cases hb : b = 10
    · subst hb
      simp at h
      obtain rfl : i = 0 := by omega
      rw [pcs, if_pos rfl]; simp
    · have hp : ([10] : List UInt8).isPrefixOf (b :: l) = false := by simp [List.isPrefixOf, Ne.symm hb]
      rw [hp] at h
      simp only [Bool.false_eq_true, if_false] at h
      split at h
      · omega
      · have hge := index_ge l [10]
        rename_i hne
        have hne : index l [10] ≠ -1 := fun e => hne (beq_iff_eq.2 e)
        obtain ⟨j, hj⟩ : ∃ j : Nat, index l [10] = j := ⟨(index l [10]).toNat, by omega⟩
        obtain rfl : i = j + 1 := by omega
        rw [pcs, if_neg hb, split_hit hj]
        simp
theorem splitK_pcs : ∀ (k : Nat) (l : List UInt8), count l [10] = k → splitK [10] 0 k l = pcs l
  | 0, l, h => by
    rw [splitK]
    by_cases hi : index l [10] = -1
    · exact (split_miss hi).symm
    · have := index_ge l [10]
      have := count_hit (s := l) (sub := [10]) (i := (index l [10]).toNat) (by simp) (by omega)
      omega
  | k + 1, l, h => by
    by_cases hi : index l [10] = -1
    · rw [count_miss hi] at h; omega
    · have := index_ge l [10]
      obtain ⟨i, hii⟩ : ∃ i : Nat, index l [10] = i := ⟨(index l [10]).toNat, by omega⟩
      have hc := count_hit (s := l) (sub := [10]) (i := i) (by simp) hii
      rw [splitK, if_neg (by simpa using hi), hii, split_hit hii]
      simp only [Int.toNat_natCast, Nat.add_zero, List.length_cons, List.length_nil, Nat.zero_add]
      rw [splitK_pcs k _ (by simp at hc; omega)]
theorem pieces_pcs (s : ByteArray) : (pieces s).map (·.data.toList) = pcs s.data.toList := by
  unfold pieces
  rw [splitB_data]
  exact splitK_pcs _ _ rfl
theorem pcs_length : ∀ l : List UInt8, (pcs l).length ≤ l.length + 1
  | [] => by simp [pcs]
  | b :: l => by
    have := pcs_length l
    unfold pcs; split
    · simp; omega
    · simp; omega
theorem pcs_sub : ∀ (l : List UInt8) (p : List UInt8), p ∈ pcs l → p.length ≤ l.length
  | [], p, h => by simp [pcs] at h; subst h; simp
  | b :: l, p, h => by
    have ih := pcs_sub l
    unfold pcs at h
    split at h
    · rcases List.mem_cons.1 h with e | e
      · subst e; simp
      · have := ih p e; simp; omega
    · rcases List.mem_cons.1 h with e | e
      · subst e
        have := ih ((pcs l).headD []) (by
          have := pcs_ne l
          cases hq : pcs l with
          | nil => exact absurd hq this
          | cons a r => simp)
        simpa using this
      · have := ih p (List.mem_of_mem_tail e); simp; omega
theorem blen (s : ByteArray) : s.data.toList.length = s.size := rfl
theorem pieces_len (s : ByteArray) : (pieces s).length ≤ s.size + 1 := by
  have := pcs_length s.data.toList
  rw [← pieces_pcs, List.length_map] at this
  exact this
theorem piece_size {s : ByteArray} {i : Int} (h0 : 0 ≤ i) (h1 : i < (pieces s).length) : (at_ (pieces s) i).size ≤ s.size := by
  have := pcs_sub s.data.toList (at_ (pieces s) i).data.toList (by rw [← pieces_pcs]; exact List.mem_map.2 ⟨_, at_mem h0 h1, rfl⟩)
  exact this
theorem cut_take (l : List UInt8) (sep : List UInt8) : (cut l sep).1.Sublist l := by
  unfold cut
  split
  · exact List.take_sublist _ _
  · exact List.Sublist.refl _
theorem cut1_size (p : ByteArray) : (cut1 p).size ≤ p.size := by
  have : (cut1 p).size = (cut p.data.toList [35]).1.length := List.size_toArray
  rw [this]
  exact (cut_take _ _).length_le
theorem okB_mem {p : ByteArray} (h : okB p) {b : UInt8} (hb : b ∈ p.data.toList) : 32 ≤ b.toNat ∧ b.toNat ≤ 126 := by
  obtain ⟨j, hj, rfl⟩ := List.mem_iff_getElem.1 hb
  have hj' : j < p.size := hj
  have := h j hj'
  unfold byt at this
  rw [Int.toNat_natCast, List.getD_eq_getElem?_getD, List.getElem?_eq_getElem hj] at this
  simp only [Option.getD_some] at this
  omega
theorem cut1_asc {p : ByteArray} (h : okB p) : ∀ (j : Nat) b, (cut1 p).data.toList[j]? = some b → b.toNat < 128 := fun j b hb => by
  have hm : b ∈ (cut p.data.toList [35]).1 := List.mem_of_getElem? (by simpa [cut1] using hb)
  have := okB_mem h ((cut_take _ _).subset hm)
  omega
/-! ### What the program's Lines answers -/
def lineOf (i : Int) (p : ByteArray) : List LineT := if 0 < ((wordsB (cut1 p)).length : Int) then [⟨i + 1, wordsB (cut1 p)⟩] else []
theorem lineOf_T {i : Int} {p : ByteArray} (h : 0 < ((wordsB (cut1 p)).length : Int)) : lineOf i p = [⟨i + 1, wordsB (cut1 p)⟩] := if_pos h
theorem lineOf_F {i : Int} {p : ByteArray} (h : ¬ 0 < ((wordsB (cut1 p)).length : Int)) : lineOf i p = [] := if_neg h
def scanL : List ByteArray → Int → List LineT → List LineT × Int × Int
  | [], _, out => (out, 0, 0)
  | p :: r, i, out => if 0 ≤ idxR p then ([], i + 1, 10) else scanL r (i + 1) (out ++ lineOf i p)
def linesR (s : ByteArray) : List LineT × Int × Int := if 65536 < (s.size : Int) then ([], 0, 13) else scanL (pieces s) 0 []
theorem lineOf_grow {out : List LineT} {i : Int} (p : ByteArray) (h : (out.length : Int) ≤ i) : ((out ++ lineOf i p).length : Int) ≤ i + 1 := by
  have : (lineOf i p).length ≤ 1 := by unfold lineOf; split <;> simp
  rw [List.length_append]; omega
theorem linesR_big {s : ByteArray} (h : 65536 < (s.size : Int)) : linesR s = ([], 0, 13) := if_pos h
theorem linesR_start {s : ByteArray} (h : ¬ 65536 < (s.size : Int)) : linesR s = scanL ((pieces s).drop (0 : Int).toNat) 0 [] := if_neg h
theorem drop_at {α : Type} [Inhabited α] {l : List α} {i : Int} (h0 : 0 ≤ i) (h1 : i < l.length) : l.drop i.toNat = at_ l i :: l.drop (i + 1).toNat := by
  rw [List.drop_eq_getElem_cons (by omega : i.toNat < l.length), show (i + 1).toNat = i.toNat + 1 by omega]
  unfold at_
  rw [List.getD_eq_getElem?_getD, List.getElem?_eq_getElem (by omega : i.toNat < l.length)]
  rfl
theorem scan_step {l : List ByteArray} {i : Int} {out : List LineT} (h0 : 0 ≤ i) (h1 : i < l.length) (hx : ¬ 0 ≤ idxR (at_ l i)) : scanL (l.drop i.toNat) i out = scanL (l.drop (i + 1).toNat) (i + 1) (out ++ lineOf i (at_ l i)) := by
  rw [drop_at h0 h1, scanL, if_neg hx]
theorem scan_bad {l : List ByteArray} {i : Int} {out : List LineT} (h0 : 0 ≤ i) (h1 : i < l.length) (hx : 0 ≤ idxR (at_ l i)) : scanL (l.drop i.toNat) i out = ([], i + 1, 10) := by
  rw [drop_at h0 h1, scanL, if_pos hx]
theorem scan_end {l : List ByteArray} {i : Int} {out : List LineT} (h : (l.length : Int) ≤ i) : scanL (l.drop i.toNat) i out = (out, 0, 0) := by
  rw [List.drop_of_length_le (by omega)]; rfl
end Go.Proofs.L
namespace Go.Proofs.L
open Go Go.AH
set_option maxRecDepth 4000
set_option linter.unusedSimpArgs false
set_option linter.unusedVariables false
variable [LexG]
theorem c_lex_Lines (s : ByteArray) : PC Tryd.prog 10 [.str s] (.tup [.sl ((linesR s).1).length (((linesR s).1).flatMap eLine), .int .i64 ((linesR s).2.1), .int .i64 ((linesR s).2.2)]) := by
 intro H0
 refine ACalls.of_body' (n := 45) rfl rfl rfl rfl ?_
 have m0 := Mono.refl H0
 refine AWP.seq ?_
 refine AWP.region (l := [0, 1, 2]) rfl ?_
 refine AOps.cons rfl rfl (AOp.assign (.snil) rfl rfl ?_)
 refine AOps.cons rfl rfl (AOp.assign (.int .i64 0) rfl rfl ?_)
 refine AOps.cons rfl rfl (AOp.assign (.int .i64 0) rfl rfl ?_)
 refine AOps.nil ?_
 change AWP _ _ _ _ _ _
 refine AWP.seq ?_
 refine AWP.seq ?_
 refine AWP.region (l := [0, 1, 2]) rfl ?_
 refine AOps.cons rfl rfl (AOp.move (.str s) rfl rfl ?_)
 refine AOps.cons rfl rfl (AOp.lenStr rfl rfl u_9 ?_)
 refine AOps.cons rfl rfl (AOp.bin (.bool (decide ((s.size : Int) > 65536))) rfl rfl rfl rfl ?_)
 refine AOps.nil ?_
 change AWP _ _ _ _ _ _
 by_cases b1 : (s.size : Int) > 65536
 ·
  refine AWP.condT rfl (decide_eq_true b1) ?_
  refine AWP.seq ?_
  refine AWP.region (l := [0, 1, 2]) rfl ?_
  refine AOps.cons rfl rfl (AOp.assign (.snil) rfl rfl ?_)
  refine AOps.cons rfl rfl (AOp.assign (.int .i64 0) rfl rfl ?_)
  refine AOps.cons rfl rfl (AOp.assign (.int .i64 13) rfl rfl ?_)
  refine AOps.nil ?_
  change AWP _ _ _ _ _ _
  refine AWP.ret ?_
  refine Fin.frz 2 (Own.nil H0 H0 1) rfl m0 fun H2 m3 k4 => ?_
  refine ⟨_, _, Ghost.refl, .inr rfl, _, Res.three rfl rfl rfl rfl, ?_, m3⟩
  exact congrArg AV.tup (lc (congrArg (fun l : List LineT => AV.sl l.length (l.flatMap eLine)) (show ([] : List LineT) = (linesR s).1 from by rw [linesR_big (by omega)])) (lc (congrArg (AV.int .i64) (show (0 : Int) = (linesR s).2.1 from by rw [linesR_big (by omega)])) (lc (congrArg (AV.int .i64) (show (13 : Int) = (linesR s).2.2 from by rw [linesR_big (by omega)])) rfl)))
 ·
  refine AWP.condF rfl (decide_eq_false b1) ?_
  refine AWP.skip ?_
  change AWP _ _ _ _ _ _
  refine AWP.seq ?_
  refine AWP.region (l := [0]) rfl ?_
  refine AOps.cons rfl rfl (AOp.assign (.snil) rfl rfl ?_)
  refine AOps.nil ?_
  change AWP _ _ _ _ _ _
  refine AWP.seq ?_
  refine AWP.seq ?_
  refine AWP.region (l := [0, 1, 2, 3]) rfl ?_
  refine AOps.cons rfl rfl (AOp.move (.str s) rfl rfl ?_)
  refine AOps.cons rfl rfl (AOp.pcall («as» := [.str s, .str ⟨#[10]⟩]) rfl rfl (rfl) tf_19 (c_Split s (by omega)) ?_)
  intro H5 m6
  have m7 := m0.trans m6
  refine AOps.cons rfl rfl (AOp.len (m := (pieces s).length) rfl rfl (.inr (.inl ⟨_, rfl⟩)) u_33 ?_)
  refine AOps.cons rfl rfl (AOp.move (.int .i64 0) rfl rfl ?_)
  refine AOps.nil ?_
  change AWP _ _ _ _ _ _
  refine AWP.block ?_
  refine AWP.loop (fun q8 fq Hq => ∃ (i : Int) (out : List LineT) (w5 : AV), q8 = (((pieces s).length : Int) - i).toNat ∧ fq 15 = .int .i64 i ∧ fq 13 = .sl (pieces s).length ((pieces s).map eStr) ∧ fq 14 = .int .i64 (((pieces s).length) : Int) ∧ fq 5 = w5 ∧ Own H0 Hq 2 w5 (out).length ((out).flatMap eLine) ∧ Mono H0 Hq ∧ (0 ≤ i) ∧ (i ≤ (pieces s).length) ∧ (linesR s = scanL ((pieces s).drop i.toNat) i out) ∧ ((out.length : Int) ≤ i)) (k := (((pieces s).length : Int) - 0).toNat) ?_ ?_
  ·
   exact ⟨0, ([] : List LineT), .snil, rfl, rfl, rfl, rfl, rfl, Own.nil _ _ _, m7, by omega, by omega, by exact linesR_start (by omega), by simp⟩
  ·
   rintro _ f10 H9 ⟨i, out, w5, rfl, s11, s12, s13, s14, o15, m16, hi0, hi1, hsc, hol⟩
   refine AWP.seq ?_
   have hpl := pieces_len s
   refine AWP.region (l := [0]) rfl ?_
   refine AOps.cons rfl rfl (AOp.bin (.bool (decide (i < (((pieces s).length) : Int)))) rfl s11 s13 rfl ?_)
   refine AOps.nil ?_
   change AWP _ _ _ _ _ _
   refine AWP.seq ?_
   by_cases b17 : i < (((pieces s).length) : Int)
   ·
    refine AWP.condT rfl (decide_eq_true b17) ?_
    refine AWP.skip ?_
    change AWP _ _ _ _ _ _
    refine AWP.seq ?_
    refine AWP.block ?_
    refine AWP.seq ?_
    have hps := piece_size (s := s) hi0 (by omega)
    refine AWP.region (l := [0, 1, 2, 3, 4]) rfl ?_
    refine AOps.cons rfl rfl (AOp.move (.int .i64 i) rfl s11 ?_)
    refine AOps.cons rfl rfl (AOp.indexAddrS rfl s12 s11 sl_33 (by omega) (by omega) ?_)
    refine AOps.cons rfl rfl (AOp.loadF (.str (at_ (pieces s) i)) rfl rfl ty_9 (ld1 (by omega) (by omega)) ?_)
    refine AOps.cons rfl rfl (AOp.assign (.int .i64 i) rfl rfl ?_)
    refine AOps.cons rfl rfl (AOp.assign (.str (at_ (pieces s) i)) rfl rfl ?_)
    refine AOps.nil ?_
    change AWP _ _ _ _ _ _
    refine AWP.seq ?_
    refine AWP.seq ?_
    refine AWP.region (l := [0, 1, 2]) rfl ?_
    refine AOps.cons rfl rfl (AOp.move (.str (at_ (pieces s) i)) rfl rfl ?_)
    refine AOps.cons rfl rfl (AOp.pcall («as» := [.str (at_ (pieces s) i), .fn 21 []]) rfl rfl (rfl) tf_20 (c_IndexFunc (at_ (pieces s) i) (by omega)) ?_)
    intro H18 m19
    have o20 := Own.mono o15 m19
    have m21 := m16.trans m19
    refine AOps.cons rfl rfl (AOp.bin (.bool (decide (idxR (at_ (pieces s) i) ≥ 0))) rfl rfl rfl rfl ?_)
    refine AOps.nil ?_
    change AWP _ _ _ _ _ _
    by_cases b22 : idxR (at_ (pieces s) i) ≥ 0
    ·
     refine AWP.condT rfl (decide_eq_true b22) ?_
     refine AWP.seq ?_
     refine AWP.region (l := [0, 1, 2, 3, 4]) rfl ?_
     refine AOps.cons rfl rfl (AOp.move (.int .i64 i) rfl rfl ?_)
     refine AOps.cons rfl rfl (AOp.bin (.int .i64 (i + 1)) rfl rfl rfl (iadd (by omega)) ?_)
     refine AOps.cons rfl rfl (AOp.assign (.snil) rfl rfl ?_)
     refine AOps.cons rfl rfl (AOp.assign (.int .i64 (i + 1)) rfl rfl ?_)
     refine AOps.cons rfl rfl (AOp.assign (.int .i64 10) rfl rfl ?_)
     refine AOps.nil ?_
     change AWP _ _ _ _ _ _
     refine AWP.ret ?_
     refine Fin.frz 2 (Own.nil H0 H18 1) rfl m21 fun H23 m24 k25 => ?_
     have o26 := Own.stay o20 (Sep.nilR _) (fun i hi _ => k25 i hi)
     refine ⟨_, _, Ghost.refl, .inr rfl, _, Res.three rfl rfl rfl rfl, ?_, m24⟩
     exact congrArg AV.tup (lc (congrArg (fun l : List LineT => AV.sl l.length (l.flatMap eLine)) (show ([] : List LineT) = (linesR s).1 from by rw [hsc, scan_bad hi0 (by omega) (by omega)])) (lc (congrArg (AV.int .i64) (show (i + 1 : Int) = (linesR s).2.1 from by rw [hsc, scan_bad hi0 (by omega) (by omega)])) (lc (congrArg (AV.int .i64) (show (10 : Int) = (linesR s).2.2 from by rw [hsc, scan_bad hi0 (by omega) (by omega)])) rfl)))
    ·
     refine AWP.condF rfl (decide_eq_false b22) ?_
     refine AWP.skip ?_
     change AWP _ _ _ _ _ _
     refine AWP.seq ?_
     have hok := idxR_neg.1 (show idxR (at_ (pieces s) i) < 0 by omega)
     refine AWP.region (l := [0, 1, 2, 3, 4, 5, 6]) rfl ?_
     refine AOps.cons rfl rfl (AOp.move (.str (at_ (pieces s) i)) rfl rfl ?_)
     refine AOps.cons rfl rfl (AOp.pcall («as» := [.str (at_ (pieces s) i), .str ⟨#[35]⟩]) rfl rfl (rfl) tf_22 (c_Cut (at_ (pieces s) i) (by omega)) ?_)
     intro H27 m28
     have o29 := Own.mono o20 m28
     have m30 := m21.trans m28
     refine AOps.cons rfl rfl (AOp.move (.tup [.str (cut1 (at_ (pieces s) i)), .str (cut2 (at_ (pieces s) i)), .bool (cut3 (at_ (pieces s) i))]) rfl rfl ?_)
     refine AOps.cons rfl rfl (AOp.extract (.str (cut1 (at_ (pieces s) i))) rfl rfl rfl ?_)
     refine AOps.cons rfl rfl (AOp.extract (.str (cut2 (at_ (pieces s) i))) rfl rfl rfl ?_)
     refine AOps.cons rfl rfl (AOp.extract (.bool (cut3 (at_ (pieces s) i))) rfl rfl rfl ?_)
     refine AOps.cons rfl rfl (AOp.assign (.str (cut1 (at_ (pieces s) i))) rfl rfl ?_)
     refine AOps.nil ?_
     change AWP _ _ _ _ _ _
     refine AWP.seq ?_
     have hcs := cut1_size (at_ (pieces s) i)
     refine AWP.region (l := [0, 1, 2]) rfl ?_
     refine AOps.cons rfl rfl (AOp.move (.str (cut1 (at_ (pieces s) i))) rfl rfl ?_)
     refine AOps.cons rfl rfl (AOp.pcall («as» := [.str (cut1 (at_ (pieces s) i))]) rfl rfl (rfl) tf_23 (c_Fields (cut1 (at_ (pieces s) i)) (by omega) (cut1_asc hok)) ?_)
     intro H31 m32
     have o33 := Own.mono o29 m32
     have m34 := m30.trans m32
     refine AOps.cons rfl rfl (AOp.assign (.sl (wordsB (cut1 (at_ (pieces s) i))).length ((wordsB (cut1 (at_ (pieces s) i))).map eStr)) rfl rfl ?_)
     refine AOps.nil ?_
     change AWP _ _ _ _ _ _
     refine AWP.seq ?_
     refine AWP.region (l := [0, 1, 2]) rfl ?_
     refine AOps.cons rfl rfl (AOp.move (.sl (wordsB (cut1 (at_ (pieces s) i))).length ((wordsB (cut1 (at_ (pieces s) i))).map eStr)) rfl rfl ?_)
     refine AOps.cons rfl rfl (AOp.len (m := (wordsB (cut1 (at_ (pieces s) i))).length) rfl rfl (.inr (.inl ⟨_, rfl⟩)) u_33 ?_)
     refine AOps.cons rfl rfl (AOp.bin (.bool (decide ((((wordsB (cut1 (at_ (pieces s) i))).length) : Int) > 0))) rfl rfl rfl rfl ?_)
     refine AOps.nil ?_
     change AWP _ _ _ _ _ _
     by_cases b35 : (((wordsB (cut1 (at_ (pieces s) i))).length) : Int) > 0
     ·
      refine AWP.condT rfl (decide_eq_true b35) ?_
      refine AWP.region (l := [0, 1, 2, 3, 4, 5, 6, 7]) rfl ?_
      refine AOps.cons rfl rfl (AOp.move (w5) rfl s14 ?_)
      refine AOps.cons rfl rfl (AOp.move (.int .i64 i) rfl rfl ?_)
      refine AOps.cons rfl rfl (AOp.bin (.int .i64 (i + 1)) rfl rfl rfl (iadd (by omega)) ?_)
      refine AOps.cons rfl rfl (AOp.move (.sl (wordsB (cut1 (at_ (pieces s) i))).length ((wordsB (cut1 (at_ (pieces s) i))).map eStr)) rfl rfl ?_)
      refine AOps.cons rfl rfl (AOp.build (cells := [.int .i64 (i + 1), .sl (wordsB (cut1 (at_ (pieces s) i))).length ((wordsB (cut1 (at_ (pieces s) i))).map eStr)]) rfl tz_35 pl_35 rfl rfl ?_)
      refine AOps.cons rfl rfl (AOp.buildSlice (cells := [.int .i64 (i + 1), .sl (wordsB (cut1 (at_ (pieces s) i))).length ((wordsB (cut1 (at_ (pieces s) i))).map eStr)]) rfl u_23 ts_35 tz_35 rfl rfl rfl ?_)
      intro i36 H37 n38 h39 k40
      have z41 := Mono.free m34 n38
      have o42 := Own.keep o33 k40 (Own.notnew o33 n38)
      have no43 := Own.notnew o33 n38
      have m44 := Mono.new m34 n38 k40
      refine AOps.cons rfl rfl (AOp.append_own (es := 2) (m := 1) (len := ((out).length)) (old := (out).flatMap eLine) (cells := [.int .i64 (i + 1), .sl (wordsB (cut1 (at_ (pieces s) i))).length ((wordsB (cut1 (at_ (pieces s) i))).map eStr)]) rfl u_23 ts_35 tzn_35 tb_35 (by decide) ni_23 rfl o42 m44 rfl (.slm h39 rfl) (one_of rfl) (by decide) (by first | omega | (simp; omega)) ?_)
      intro v45 H46 o47 m48 k49 j50
      have o51 := Own.snocM (xs := ((out) : List LineT)) (y := (LineT.mk (i + 1) (wordsB (cut1 (at_ (pieces s) i))))) (e := eLine) (by simp) o47
      refine AOps.cons rfl rfl (AOp.assign (v45) rfl rfl ?_)
      refine AOps.nil ?_
      change AWP _ _ _ _ _ _
      refine AWP.region (l := [0, 1]) rfl ?_
      refine AOps.cons rfl rfl (AOp.bin (.int .i64 (i + 1)) rfl s11 rfl (iadd (by omega)) ?_)
      refine AOps.cons rfl rfl (AOp.move (.int .i64 (i + 1)) rfl rfl ?_)
      refine AOps.nil ?_
      exact ⟨_, by omega, i + 1, out ++ lineOf i (at_ (pieces s) i), v45, rfl, rfl, s12, s13, rfl, (have hx : (((out) ++ [(LineT.mk (i + 1) (wordsB (cut1 (at_ (pieces s) i))))]) : List LineT) = (out ++ lineOf i (at_ (pieces s) i)) := (by rw [lineOf_T (by omega)]); Own.re o51 (congrArg List.length hx) (congrArg (fun l : List LineT => l.flatMap eLine) hx)), m48, by omega, by omega, by rw [hsc]; exact scan_step hi0 (by omega) (by omega), by exact lineOf_grow _ hol⟩
     ·
      refine AWP.condF rfl (decide_eq_false b35) ?_
      refine AWP.skip ?_
      change AWP _ _ _ _ _ _
      refine AWP.region (l := [0, 1]) rfl ?_
      refine AOps.cons rfl rfl (AOp.bin (.int .i64 (i + 1)) rfl s11 rfl (iadd (by omega)) ?_)
      refine AOps.cons rfl rfl (AOp.move (.int .i64 (i + 1)) rfl rfl ?_)
      refine AOps.nil ?_
      exact ⟨_, by omega, i + 1, out ++ lineOf i (at_ (pieces s) i), w5, rfl, rfl, s12, s13, s14, (have hx : ((out) : List LineT) = (out ++ lineOf i (at_ (pieces s) i)) := (by rw [lineOf_F (by omega)]; simp); Own.re o33 (congrArg List.length hx) (congrArg (fun l : List LineT => l.flatMap eLine) hx)), m34, by omega, by omega, by rw [hsc]; exact scan_step hi0 (by omega) (by omega), by exact lineOf_grow _ hol⟩
   ·
    refine AWP.condF rfl (decide_eq_false b17) ?_
    refine AWP.exit ?_
    change AWP _ _ _ _ _ _
    refine AWP.seq ?_
    refine AWP.region (l := [0, 1, 2, 3]) rfl ?_
    refine AOps.cons rfl rfl (AOp.move (w5) rfl s14 ?_)
    refine AOps.cons rfl rfl (AOp.assign (w5) rfl rfl ?_)
    refine AOps.cons rfl rfl (AOp.assign (.int .i64 0) rfl rfl ?_)
    refine AOps.cons rfl rfl (AOp.assign (.int .i64 0) rfl rfl ?_)
    refine AOps.nil ?_
    change AWP _ _ _ _ _ _
    refine AWP.ret ?_
    refine Fin.frz 2 o15 rfl m16 fun H52 m53 k54 => ?_
    refine ⟨_, _, Ghost.refl, .inr rfl, _, Res.three rfl rfl rfl rfl, ?_, m53⟩
    exact congrArg AV.tup (lc (congrArg (fun l : List LineT => AV.sl l.length (l.flatMap eLine)) (show ((out) : List LineT) = (linesR s).1 from by rw [hsc, scan_end (by omega)])) (lc (congrArg (AV.int .i64) (show (0 : Int) = (linesR s).2.1 from by rw [hsc, scan_end (by omega)])) (lc (congrArg (AV.int .i64) (show (0 : Int) = (linesR s).2.2 from by rw [hsc, scan_end (by omega)])) rfl)))
end Go.Proofs.L
namespace Go.Proofs.L
open Go Go.AH Go.Lib
set_option maxRecDepth 4000
set_option linter.unusedSectionVars false
variable [LexG]
/-! ### The document's Lines -/
structure RS where
  out : List LineT
  no : Int
  ws : List ByteArray
  wd : List Int
  rem : Bool
def badB (c : Int) : Prop := c ≠ 10 ∧ (c < 32 ∨ 126 < c)
instance (c : Int) : Decidable (badB c) := by unfold badB; infer_instance
end Go.Proofs.L
namespace Go.Proofs.L
open Go Go.AH
set_option maxRecDepth 4000
set_option linter.unusedSimpArgs false
set_option linter.unusedVariables false
variable [LexG]
end Go.Proofs.L
namespace Go.Proofs.L
open Go Go.AH Go.Lib
set_option maxRecDepth 4000
set_option linter.unusedSectionVars false
variable [LexG]
theorem al_lines : linesR ⟨#[10, 97, 32, 32, 98, 35, 99, 10]⟩ = ([⟨2, [⟨#[97]⟩, ⟨#[98]⟩]⟩], 0, 0) := by kernel_rfl
theorem al_num : R_lex_Number ⟨#[45, 49, 50, 48]⟩ = (-120, true) := by kernel_rfl
theorem al_name : nameB ⟨#[97, 95, 49]⟩ = true := by kernel_rfl
end Go.Proofs.L
namespace Go.Proofs.L
open Go Go.AH
set_option maxRecDepth 4000
set_option linter.unusedSimpArgs false
set_option linter.unusedVariables false
variable [LexG]
theorem c_alive : PC Tryd.prog 9 [] (.bool true) := by
 intro H0
 refine ACalls.of_body' (n := 51) rfl rfl rfl rfl ?_
 have m0 := Mono.refl H0
 refine AWP.seq ?_
 refine AWP.region (l := [0]) rfl ?_
 refine AOps.cons rfl rfl (AOp.assign (.bool false) rfl rfl ?_)
 refine AOps.nil ?_
 change AWP _ _ _ _ _ _
 refine AWP.seq ?_
 refine AWP.region (l := [0, 1, 2, 3, 4, 5, 6, 7]) rfl ?_
 refine AOps.cons rfl rfl (AOp.pcall («as» := [.str ⟨#[10, 97, 32, 32, 98, 35, 99, 10]⟩]) rfl rfl (rfl) tf_10 ((by have h := c_lex_Lines ⟨#[10, 97, 32, 32, 98, 35, 99, 10]⟩; rw [al_lines] at h; exact h)) ?_)
 intro H1 m2
 have m3 := m0.trans m2
 refine AOps.cons rfl rfl (AOp.move (.tup [.sl ([⟨2, [⟨#[97]⟩, ⟨#[98]⟩]⟩] : List LineT).length (([⟨2, [⟨#[97]⟩, ⟨#[98]⟩]⟩] : List LineT).flatMap eLine), .int .i64 0, .int .i64 0]) rfl rfl ?_)
 refine AOps.cons rfl rfl (AOp.extract (.sl ([⟨2, [⟨#[97]⟩, ⟨#[98]⟩]⟩] : List LineT).length (([⟨2, [⟨#[97]⟩, ⟨#[98]⟩]⟩] : List LineT).flatMap eLine)) rfl rfl rfl ?_)
 refine AOps.cons rfl rfl (AOp.extract (.int .i64 0) rfl rfl rfl ?_)
 refine AOps.cons rfl rfl (AOp.extract (.int .i64 0) rfl rfl rfl ?_)
 refine AOps.cons rfl rfl (AOp.assign (.sl ([⟨2, [⟨#[97]⟩, ⟨#[98]⟩]⟩] : List LineT).length (([⟨2, [⟨#[97]⟩, ⟨#[98]⟩]⟩] : List LineT).flatMap eLine)) rfl rfl ?_)
 refine AOps.cons rfl rfl (AOp.assign (.int .i64 0) rfl rfl ?_)
 refine AOps.cons rfl rfl (AOp.assign (.int .i64 0) rfl rfl ?_)
 refine AOps.nil ?_
 change AWP _ _ _ _ _ _
 refine AWP.seq ?_
 refine AWP.region (l := [0, 1, 2, 3, 4, 5]) rfl ?_
 refine AOps.cons rfl rfl (AOp.pcall («as» := [.str ⟨#[45, 49, 50, 48]⟩]) rfl rfl (rfl) tf_13 ((by have h := c_lex_Number ⟨#[45, 49, 50, 48]⟩; rw [al_num] at h; exact h)) ?_)
 intro H4 m5
 have m6 := m3.trans m5
 refine AOps.cons rfl rfl (AOp.move (.tup [.int .i64 (-120), .bool true]) rfl rfl ?_)
 refine AOps.cons rfl rfl (AOp.extract (.int .i64 (-120)) rfl rfl rfl ?_)
 refine AOps.cons rfl rfl (AOp.extract (.bool true) rfl rfl rfl ?_)
 refine AOps.cons rfl rfl (AOp.assign (.int .i64 (-120)) rfl rfl ?_)
 refine AOps.cons rfl rfl (AOp.assign (.bool true) rfl rfl ?_)
 refine AOps.nil ?_
 change AWP _ _ _ _ _ _
 refine AWP.seq ?_
 have hl : (([⟨2, [⟨#[97]⟩, ⟨#[98]⟩]⟩] : List LineT).length : Int) = 1 := rfl
 refine AWP.region (l := [0, 1, 2, 3, 4, 5, 6, 7, 8, 9, 10, 11, 12, 13, 14, 15, 16, 17, 18, 19, 20, 21, 22, 23, 24, 25, 26, 27, 28, 29, 30, 31, 32, 33, 34, 35, 36]) rfl ?_
 refine AOps.cons rfl rfl (AOp.move (.int .i64 0) rfl rfl ?_)
 refine AOps.cons rfl rfl (AOp.bin (.bool (decide (0 = 0))) rfl rfl rfl ieq ?_)
 refine AOps.cons rfl rfl (AOp.move (.bool (decide (0 = 0))) rfl rfl ?_)
 refine AOps.yes rfl rfl rfl rfl rfl rfl rfl (decide_eq_true (by decide)) (AOp.move (.int .i64 0) rfl rfl ?_)
 refine AOps.yes rfl rfl rfl rfl rfl rfl rfl (decide_eq_true (by decide)) (AOp.bin (.bool (decide (0 = 0))) rfl rfl rfl ieq ?_)
 refine AOps.cons rfl rfl (AOp.pickT (.bool (decide (0 = 0))) rfl rfl (decide_eq_true (by decide)) rfl ?_)
 refine AOps.cons rfl rfl (AOp.move (.bool (decide (0 = 0))) rfl rfl ?_)
 refine AOps.yes rfl rfl rfl rfl rfl rfl rfl (decide_eq_true (by decide)) (AOp.move (.sl ([⟨2, [⟨#[97]⟩, ⟨#[98]⟩]⟩] : List LineT).length (([⟨2, [⟨#[97]⟩, ⟨#[98]⟩]⟩] : List LineT).flatMap eLine)) rfl rfl ?_)
 refine AOps.yes rfl rfl rfl rfl rfl rfl rfl (decide_eq_true (by decide)) (AOp.len (m := ([⟨2, [⟨#[97]⟩, ⟨#[98]⟩]⟩] : List LineT).length) rfl rfl (.inr (.inl ⟨_, rfl⟩)) u_23 ?_)
 refine AOps.yes rfl rfl rfl rfl rfl rfl rfl (decide_eq_true (by decide)) (AOp.bin (.bool (decide (((([⟨2, [⟨#[97]⟩, ⟨#[98]⟩]⟩] : List LineT).length) : Int) = 1))) rfl rfl rfl ieq ?_)
 refine AOps.cons rfl rfl (AOp.pickT (.bool (decide (((([⟨2, [⟨#[97]⟩, ⟨#[98]⟩]⟩] : List LineT).length) : Int) = 1))) rfl rfl (decide_eq_true (by decide)) rfl ?_)
 refine AOps.cons rfl rfl (AOp.move (.bool (decide (((([⟨2, [⟨#[97]⟩, ⟨#[98]⟩]⟩] : List LineT).length) : Int) = 1))) rfl rfl ?_)
 refine AOps.yes rfl rfl rfl rfl rfl rfl rfl (decide_eq_true (rfl)) (AOp.move (.sl ([⟨2, [⟨#[97]⟩, ⟨#[98]⟩]⟩] : List LineT).length (([⟨2, [⟨#[97]⟩, ⟨#[98]⟩]⟩] : List LineT).flatMap eLine)) rfl rfl ?_)
 refine AOps.yes rfl rfl rfl rfl rfl rfl rfl (decide_eq_true (rfl)) (AOp.indexAddrS rfl rfl rfl sl_23 (by omega) (by omega) ?_)
 refine AOps.yes rfl rfl rfl rfl rfl rfl rfl (decide_eq_true (rfl)) (AOp.fieldAddrF rfl rfl fl_35_0 ?_)
 refine AOps.yes rfl rfl rfl rfl rfl rfl rfl (decide_eq_true (rfl)) (AOp.loadF (.int .i64 ((at_ ([⟨2, [⟨#[97]⟩, ⟨#[98]⟩]⟩] : List LineT) 0).No)) rfl rfl ty_3 (ldF eLine_len (by omega) (by omega) rfl (by decide)) ?_)
 refine AOps.yes rfl rfl rfl rfl rfl rfl rfl (decide_eq_true (rfl)) (AOp.bin (.bool (decide ((at_ ([⟨2, [⟨#[97]⟩, ⟨#[98]⟩]⟩] : List LineT) 0).No = 2))) rfl rfl rfl ieq ?_)
 refine AOps.cons rfl rfl (AOp.pickT (.bool (decide ((at_ ([⟨2, [⟨#[97]⟩, ⟨#[98]⟩]⟩] : List LineT) 0).No = 2))) rfl rfl (decide_eq_true (rfl)) rfl ?_)
 refine AOps.cons rfl rfl (AOp.move (.bool (decide ((at_ ([⟨2, [⟨#[97]⟩, ⟨#[98]⟩]⟩] : List LineT) 0).No = 2))) rfl rfl ?_)
 refine AOps.yes rfl rfl rfl rfl rfl rfl rfl (decide_eq_true (rfl)) (AOp.move (.sl ([⟨2, [⟨#[97]⟩, ⟨#[98]⟩]⟩] : List LineT).length (([⟨2, [⟨#[97]⟩, ⟨#[98]⟩]⟩] : List LineT).flatMap eLine)) rfl rfl ?_)
 refine AOps.yes rfl rfl rfl rfl rfl rfl rfl (decide_eq_true (rfl)) (AOp.indexAddrS rfl rfl rfl sl_23 (by omega) (by omega) ?_)
 refine AOps.yes rfl rfl rfl rfl rfl rfl rfl (decide_eq_true (rfl)) (AOp.fieldAddrF rfl rfl fl_35_1 ?_)
 refine AOps.yes rfl rfl rfl rfl rfl rfl rfl (decide_eq_true (rfl)) (AOp.loadF (.sl ((at_ ([⟨2, [⟨#[97]⟩, ⟨#[98]⟩]⟩] : List LineT) 0).Words).length (((at_ ([⟨2, [⟨#[97]⟩, ⟨#[98]⟩]⟩] : List LineT) 0).Words).map eStr)) rfl rfl ty_33 (ldF eLine_len (by omega) (by omega) rfl (by decide)) ?_)
 refine AOps.yes rfl rfl rfl rfl rfl rfl rfl (decide_eq_true (rfl)) (AOp.buildSlice (cells := [.str ⟨#[97]⟩, .str ⟨#[98]⟩]) rfl u_33 ts_9 tz_9 rfl rfl rfl ?_)
 intro i7 H8 n9 h10 k11
 have z12 := Mono.free m6 n9
 have m13 := Mono.new m6 n9 k11
 obtain ⟨v14, e15⟩ : ∃ v : AV, v = .slm i7 0 1 0 2 := ⟨_, rfl⟩
 have o16 : Own H0 H8 1 v14 2 [.str ⟨#[97]⟩, .str ⟨#[98]⟩] := .inr ⟨_, _, e15, h10, z12, rfl⟩
 refine AOps.yes rfl rfl rfl rfl rfl rfl rfl (decide_eq_true (rfl)) ?_
 refine AOp.frz 38 (o16) e15.symm m13 fun H17 m18 k19 => ?_
 refine AOp.pcall («as» := [.sl ((at_ ([⟨2, [⟨#[97]⟩, ⟨#[98]⟩]⟩] : List LineT) 0).Words).length (((at_ ([⟨2, [⟨#[97]⟩, ⟨#[98]⟩]⟩] : List LineT) 0).Words).map eStr), .sl ([⟨#[97]⟩, ⟨#[98]⟩] : List ByteArray).length (([⟨#[97]⟩, ⟨#[98]⟩] : List ByteArray).map eStr)]) rfl rfl (rfl) tf_18 (c_SameTexts _ _ (by decide) (by decide)) ?_
 intro H20 m21
 have m22 := m18.trans m21
 refine AOps.cons rfl rfl (AOp.pickT (.bool (decide (((at_ ([⟨2, [⟨#[97]⟩, ⟨#[98]⟩]⟩] : List LineT) 0).Words) = ([⟨#[97]⟩, ⟨#[98]⟩] : List ByteArray)))) rfl rfl (decide_eq_true (rfl)) rfl ?_)
 refine AOps.cons rfl rfl (AOp.move (.bool (decide (((at_ ([⟨2, [⟨#[97]⟩, ⟨#[98]⟩]⟩] : List LineT) 0).Words) = ([⟨#[97]⟩, ⟨#[98]⟩] : List ByteArray)))) rfl rfl ?_)
 refine AOps.yes rfl rfl rfl rfl rfl rfl rfl (decide_eq_true (rfl)) (AOp.move (.int .i64 (-120)) rfl rfl ?_)
 refine AOps.yes rfl rfl rfl rfl rfl rfl rfl (decide_eq_true (rfl)) (AOp.bin (.bool (decide (-120 = -120))) rfl rfl rfl ieq ?_)
 refine AOps.cons rfl rfl (AOp.pickT (.bool (decide (-120 = -120))) rfl rfl (decide_eq_true (rfl)) rfl ?_)
 refine AOps.cons rfl rfl (AOp.move (.bool (decide (-120 = -120))) rfl rfl ?_)
 refine AOps.yes rfl rfl rfl rfl rfl rfl rfl (decide_eq_true (by decide)) (AOp.move (.bool true) rfl rfl ?_)
 refine AOps.cons rfl rfl (AOp.pickT (.bool true) rfl rfl (decide_eq_true (by decide)) rfl ?_)
 refine AOps.cons rfl rfl (AOp.move (.bool true) rfl rfl ?_)
 refine AOps.yes rfl rfl rfl rfl rfl rfl rfl rfl (AOp.pcall («as» := [.str ⟨#[97, 95, 49]⟩]) rfl rfl (rfl) tf_15 ((by have h := c_lex_Name ⟨#[97, 95, 49]⟩; rw [al_name] at h; exact h)) ?_)
 intro H23 m24
 have m25 := m22.trans m24
 refine AOps.cons rfl rfl (AOp.pickT (.bool true) rfl rfl rfl rfl ?_)
 refine AOps.cons rfl rfl (AOp.assign (.bool true) rfl rfl ?_)
 refine AOps.nil ?_
 change AWP _ _ _ _ _ _
 refine AWP.ret ?_
 refine ⟨_, _, Ghost.refl, .inr rfl, _, Res.one rfl rfl, ?_, m25⟩
 exact rfl
end Go.Proofs.L
namespace Go.Proofs.L
open Go Go.AH Go.Lib
set_option maxRecDepth 4000
set_option linter.unusedSectionVars false
variable [LexG]
/-! ### The two readings of a number are one -/
theorem digit_iff {b : UInt8} : (48 ≤ (b.toNat : Int) ∧ (b.toNat : Int) ≤ 57) ↔ digitVal b = some (b.toNat - 48) := by
  unfold digitVal
  split <;> simp <;> omega
theorem digit_none {b : UInt8} (h : ¬ (48 ≤ (b.toNat : Int) ∧ (b.toNat : Int) ≤ 57)) : digitVal b = none := by
  unfold digitVal
  rw [if_neg (by omega)]
theorem byt_get {w : ByteArray} {k : Nat} (h : k < w.size) : ∃ b, w.data.toList[k]? = some b ∧ byt w k = b.toNat := by
  have hl : k < w.data.toList.length := h
  refine ⟨_, List.getElem?_eq_getElem hl, ?_⟩
  unfold byt
  rw [Int.toNat_natCast, List.getD_eq_getElem?_getD, List.getElem?_eq_getElem hl]
  rfl
theorem dec_some {w : ByteArray} : ∀ k : Nat, k ≤ w.size → (∀ j : Int, 0 ≤ j → j < k → 48 ≤ byt w j ∧ byt w j ≤ 57) → ∃ n : Nat, decFrom 0 (w.data.toList.take k) = some n ∧ (n : Int) = val10 w k
  | 0, _, _ => ⟨0, rfl, rfl⟩
  | k + 1, hk, pre => by
    obtain ⟨n, h1, h2⟩ := dec_some k (by omega) fun j a b => pre j a (by omega)
    obtain ⟨b, hb, hv⟩ := byt_get (w := w) (k := k) (by omega)
    have hd := pre k (by omega) (by omega)
    rw [hv] at hd
    refine ⟨n * 10 + (b.toNat - 48), decFrom_take _ k 0 n b _ h1 hb (digit_iff.1 hd), ?_⟩
    rw [val10, ← h2, hv]
    omega
theorem dec_none : ∀ (l : List UInt8) (acc : Nat), (∃ b, b ∈ l ∧ digitVal b = none) → decFrom acc l = none
  | [], _, ⟨b, hb, _⟩ => by cases hb
  | a :: l, acc, ⟨b, hb, hd⟩ => by
    rw [decFrom]
    rcases List.mem_cons.1 hb with e | e
    · subst e; rw [hd]
    · cases ha : digitVal a with
      | none => rfl
      | some d => exact dec_none l _ ⟨b, e, hd⟩
theorem dec_all {w : ByteArray} (h : digP w) : ∃ n : Nat, decFrom 0 w.data.toList = some n ∧ (n : Int) = val10 w w.size := by
  have := dec_some (w := w) w.size (Nat.le_refl _) h
  rwa [List.take_of_length_le (Nat.le_of_eq (blen w))] at this
theorem dec_not {w : ByteArray} (h : ¬ digP w) : decFrom 0 w.data.toList = none := by
  have : ∃ j : Nat, j < w.size ∧ ¬ (48 ≤ byt w j ∧ byt w j ≤ 57) := by
    apply Classical.byContradiction
    intro hh
    refine h fun j h0 h1 => ?_
    apply Classical.byContradiction
    intro hx
    exact hh ⟨j.toNat, by omega, by rw [show ((j.toNat : Nat) : Int) = j by omega]; exact hx⟩
  obtain ⟨j, hj, hx⟩ := this
  obtain ⟨b, hb, hv⟩ := byt_get hj
  rw [hv] at hx
  exact dec_none _ _ ⟨b, List.mem_of_getElem? hb, digit_none hx⟩
theorem ba_ext {p q : ByteArray} (h : p.data.toList = q.data.toList) : p = q := by
  cases p; cases q
  simp only [ByteArray.mk.injEq]
  exact Array.toList_inj.1 h
theorem head_minus {s : ByteArray} : (0 < s.size ∧ byt s 0 = 45) ↔ ∃ t, s.data.toList = 45 :: t := by
  constructor
  · rintro ⟨h, hv⟩
    obtain ⟨b, hb, he⟩ := byt_get (w := s) (k := 0) h
    have : b = 45 := by
      apply UInt8.toNat_inj.1
      have h3 : byt s ((0 : Nat) : Int) = byt s 0 := rfl
      rw [h3, hv] at he
      show b.toNat = 45
      omega
    subst this
    cases hl : s.data.toList with
    | nil => rw [hl] at hb; cases hb
    | cons a t => rw [hl] at hb; simp at hb; subst hb; exact ⟨t, rfl⟩
  · rintro ⟨t, h⟩
    have hs : s.size = t.length + 1 := by rw [← blen, h]; rfl
    refine ⟨by omega, ?_⟩
    unfold byt
    rw [h]; rfl
theorem trim_T {s : ByteArray} {t : List UInt8} (h : s.data.toList = 45 :: t) : (trimM s).data.toList = t := by
  simp [trimM, trimPrefix, h, hasPrefix]
theorem trim_F {s : ByteArray} (h : ¬ ∃ t, s.data.toList = 45 :: t) : trimM s = s := by
  apply ba_ext
  have : hasPrefix s.data.toList [45] = false := by
    cases hl : s.data.toList with
    | nil => simp [hasPrefix]
    | cons a r =>
      have : a ≠ 45 := fun e => h ⟨r, by rw [hl, e]⟩
      simp [hasPrefix, List.isPrefixOf, Ne.symm this]
  simp [trimM, trimPrefix, this]
theorem num_zero : R_lex_Number ⟨#[48]⟩ = ((0 : Int), true) := by kernel_rfl
theorem num_core {s w : ByteArray} {neg : Bool} (htr : trimM s = w) (hz : s = ⟨#[48]⟩ ↔ (w = ⟨#[48]⟩ ∧ neg = false))
    (hat : 1 ≤ w.size → 48 ≤ byt w 0 → atoi s.data.toList = (decFrom 0 w.data.toList).map fun m : Nat => if neg = true then -(m : Int) else m) : num14w neg w = R_lex_Number s := by
  by_cases z : s = ⟨#[48]⟩
  · have hw := hz.1 z
    subst z
    rw [hw.2, hw.1, w_zero rfl, num_zero]
  · have hnz : ¬ (w = ⟨#[48]⟩ ∧ neg = false) := fun e => z (hz.2 e)
    unfold R_lex_Number
    rw [htr]
    by_cases h0 : (w.size : Int) = 0
    · rw [if_pos h0, w_bad hnz (by omega)]
    · rw [if_neg h0]
      by_cases h6 : (w.size : Int) > 6
      · rw [if_pos h6, w_bad hnz (by omega)]
      · rw [if_neg h6]
        by_cases hb : byt w 0 < 48
        · rw [if_pos hb, w_nodig (i := 0) hnz (by omega) (by omega) (by omega) (by omega)]
        · rw [if_neg hb]
          by_cases hb2 : byt w 0 > 57
          · rw [if_pos hb2, w_nodig (i := 0) hnz (by omega) (by omega) (by omega) (by omega)]
          · rw [if_neg hb2]
            by_cases he : byt w 0 = 48
            · rw [if_pos he, if_neg z, w_bad hnz (by omega)]
            · rw [if_neg he]
              have ha := hat (by omega) (by omega)
              by_cases hd : digP w
              · obtain ⟨n, e1, e2⟩ := dec_all hd
                rw [e1] at ha
                simp only [Option.map_some] at ha
                rw [if_neg (by rw [ha]; simp), w_ok (i := (w.size : Int)) hnz (by omega) (by omega) (by omega) (fun j a b => hd j a b)]
                unfold atoiV
                rw [ha, Int.toNat_natCast, ← e2]
                rfl
              · rw [dec_not hd] at ha
                simp only [Option.map_none] at ha
                rw [if_pos ha]
                have : ∃ j : Int, 0 ≤ j ∧ j < w.size ∧ ¬ (48 ≤ byt w j ∧ byt w j ≤ 57) := by
                  apply Classical.byContradiction
                  intro hh
                  refine hd fun j h0 h1 => ?_
                  apply Classical.byContradiction
                  intro hx
                  exact hh ⟨j, h0, h1, hx⟩
                obtain ⟨j, j0, j1, jx⟩ := this
                rw [w_nodig hnz (by omega) j0 j1 jx]
theorem num_same (s : ByteArray) : num14 s = R_lex_Number s := by
  by_cases h : 0 < s.size ∧ byt s 0 = 45
  · obtain ⟨t, ht⟩ := head_minus.1 h
    rw [num14_T h]
    have hw : trimM s = s.extract (1 : Int).toNat (s.size : Int).toNat := by
      apply ba_ext
      rw [trim_T ht, Lib.extract_data, ht]
      have : s.size = t.length + 1 := by rw [← blen, ht]; rfl
      simp [this]
    refine num_core hw ⟨fun e => ?_, fun e => by cases e.2⟩ fun h1 h2 => ?_
    · subst e; simp at ht
    · rw [← hw, trim_T ht, ht]
      have hne : t ≠ [] := by
        intro e
        rw [← hw] at h1
        have := blen (trimM s)
        rw [trim_T ht, e] at this
        simp at this
        omega
      simp [atoi, decNat, hne]
  · rw [num14_F h]
    have ht := fun e => h (head_minus.2 e)
    refine num_core (trim_F ht) ⟨fun e => ⟨e, rfl⟩, fun e => e.1⟩ fun h1 h2 => ?_
    cases hl : s.data.toList with
    | nil =>
      have := blen s
      rw [hl] at this
      simp at this
      omega
    | cons a r =>
      have hv : byt s 0 = a.toNat := by unfold byt; rw [hl]; rfl
      have n1 : a ≠ 45 := fun e => ht ⟨r, by rw [hl, e]⟩
      have n2 : a ≠ 43 := fun e => by rw [hv, e] at h2; exact absurd h2 (by decide)
      simp [atoi, decNat, n1, n2]
end Go.Proofs.L
namespace Go.Proofs.L
open Go Go.AH Go.Lib
set_option maxRecDepth 4000
set_option linter.unusedSectionVars false
variable [LexG]
/-! ### The two readings of a text are one -/
/-! ### Words -/
/-! ### How many -/
end Go.Proofs.L
namespace Go.Proofs.L
open Go Go.AH
set_option maxRecDepth 4000
set_option linter.unusedSimpArgs false
set_option linter.unusedVariables false
variable [LexG]
end Go.Proofs.L
namespace Go.Proofs.L
open Go Go.AH Go.Lib
set_option maxRecDepth 4000
set_option linter.unusedSectionVars false
variable [LexG]
/-! ### A number's text -/
theorem tmod_neg (m : Nat) : Int.tmod (-(m : Int)) 10 = -((m % 10 : Nat) : Int) := by
  rw [Int.neg_tmod]; rfl
theorem tdiv_neg (m : Nat) : Int.tdiv (-(m : Int)) 10 = -((m / 10 : Nat) : Int) := by
  rw [Int.neg_tdiv]; rfl
def digR (m : Nat) : List Int := if m < 10 then [48 - Int.tmod (-(m : Int)) 10] else [48 - Int.tmod (-(m : Int)) 10] ++ digR (m / 10)
termination_by m
decreasing_by omega
theorem digR_step {m : Nat} (h : ¬ m < 10) : digR m = [48 - Int.tmod (-(m : Int)) 10] ++ digR (m / 10) := by rw [digR, if_neg h]
theorem digR_last {m : Nat} (h : m < 10) : digR m = [48 - Int.tmod (-(m : Int)) 10] := by rw [digR, if_pos h]
theorem digR_len : ∀ (k m : Nat), m < 10 ^ (k + 1) → (digR m).length ≤ k + 1
  | 0, m, h => by rw [digR_last (by simpa using h)]; simp
  | k + 1, m, h => by
    by_cases h10 : m < 10
    · rw [digR_last h10]; simp
    · rw [digR_step h10]
      have := digR_len k (m / 10) (by rw [Nat.pow_succ] at h; exact Nat.div_lt_of_lt_mul (by rw [Nat.mul_comm]; exact h))
      simp; omega
theorem dig_len {N m : Nat} {ds : List Int} (hd : digR N = ds ++ digR m) (hN : N ≤ 9223372036854775808) : (ds.length : Int) ≤ 19 := by
  have h1 := digR_len 18 N (Nat.lt_of_le_of_lt hN (by decide))
  rw [hd, List.length_append] at h1
  omega
theorem rev_step {l : List Int} {i : Int} (h0 : 0 ≤ i) (h1 : i < l.length) : (l.drop (i + 1).toNat).reverse ++ [at_ l i] = (l.drop (i - 1 + 1).toNat).reverse := by
  rw [show i - 1 + 1 = i by omega, drop_at h0 h1, List.reverse_cons]
theorem rev_start {l : List Int} : ([] : List Int) = (l.drop ((l.length : Int) - 1 + 1).toNat).reverse := by
  rw [List.drop_of_length_le (by omega)]; rfl
def showL (n : Int) : List Int := digR n.natAbs ++ if n < 0 then [45] else []
def showB (n : Int) : ByteArray := bytesB (showL n).reverse
theorem show_pos {n i : Int} {m : Nat} {ds : List Int} (hd : digR n.natAbs = ds ++ digR m) (hm : m < 10) (hi : i = -1) (hn : ¬ n < 0) : bytesB (((ds ++ [48 - Int.tmod (-(m : Int)) 10]).drop (i + 1).toNat).reverse) = showB n := by
  subst hi
  unfold showB showL
  rw [hd, digR_last hm, if_neg hn, List.append_nil]
  rfl
theorem show_neg {n i : Int} {m : Nat} {ds : List Int} (hd : digR n.natAbs = ds ++ digR m) (hm : m < 10) (hi : i = -1) (hn : n < 0) : bytesB (((ds ++ [48 - Int.tmod (-(m : Int)) 10] ++ [45]).drop (i + 1).toNat).reverse) = showB n := by
  subst hi
  unfold showB showL
  rw [hd, digR_last hm, if_pos hn]
  rfl
end Go.Proofs.L
namespace Go.Proofs.L
open Go Go.AH
set_option maxRecDepth 4000
set_option linter.unusedSimpArgs false
set_option linter.unusedVariables false
variable [LexG]
theorem c_Show (n : Int) (hn : -9223372036854775808 ≤ n ∧ n ≤ 9223372036854775807) : PC Tryd.prog 17 [.int .i64 n] (.str (showB n)) := by
 intro H0
 refine ACalls.of_body' (n := 46) rfl rfl rfl rfl ?_
 have m0 := Mono.refl H0
 refine AWP.seq ?_
 refine AWP.region (l := [0]) rfl ?_
 refine AOps.cons rfl rfl (AOp.assign (.str ⟨#[]⟩) rfl rfl ?_)
 refine AOps.nil ?_
 change AWP _ _ _ _ _ _
 refine AWP.seq ?_
 refine AWP.region (l := [0, 1]) rfl ?_
 refine AOps.cons rfl rfl (AOp.move (.int .i64 n) rfl rfl ?_)
 refine AOps.cons rfl rfl (AOp.assign (.int .i64 n) rfl rfl ?_)
 refine AOps.nil ?_
 change AWP _ _ _ _ _ _
 refine AWP.seq ?_
 refine AWP.seq ?_
 refine AWP.region (l := [0, 1]) rfl ?_
 refine AOps.cons rfl rfl (AOp.move (.int .i64 n) rfl rfl ?_)
 refine AOps.cons rfl rfl (AOp.bin (.bool (decide (n > 0))) rfl rfl rfl rfl ?_)
 refine AOps.nil ?_
 change AWP _ _ _ _ _ _
 by_cases b1 : n > 0
 ·
  refine AWP.condT rfl (decide_eq_true b1) ?_
  refine AWP.region (l := [0, 1, 2]) rfl ?_
  refine AOps.cons rfl rfl (AOp.move (.int .i64 n) rfl rfl ?_)
  refine AOps.cons rfl rfl (AOp.negP rfl rfl (by omega) ?_)
  refine AOps.cons rfl rfl (AOp.assign (.int .i64 (-n)) rfl rfl ?_)
  refine AOps.nil ?_
  change AWP _ _ _ _ _ _
  refine AWP.seq ?_
  refine AWP.region (l := [0, 1]) rfl ?_
  refine AOps.cons rfl rfl (AOp.buildSlice (cells := []) rfl u_45 ts_5 tz_5 rfl rfl rfl ?_)
  intro i2 H3 n4 h5 k6
  have z7 := Mono.free m0 n4
  have m8 := Mono.new m0 n4 k6
  obtain ⟨v9, e10⟩ : ∃ v : AV, v = .slm i2 0 1 0 0 := ⟨_, rfl⟩
  have o11 : Own H0 H3 1 v9 0 [] := .inr ⟨_, _, e10, h5, z7, rfl⟩
  refine AOps.cons rfl rfl (AOp.assign (v9) rfl e10.symm ?_)
  refine AOps.nil ?_
  change AWP _ _ _ _ _ _
  refine AWP.seq ?_
  refine AWP.block ?_
  refine AWP.loop (fun q12 fq Hq => ∃ (m : Nat) (ds : List Int) (w4 : AV), q12 = 2 * m ∧ fq 3 = .int .i64 (-(m : Int)) ∧ fq 0 = .int .i64 n ∧ fq 2 = .str ⟨#[]⟩ ∧ fq 4 = w4 ∧ Own H0 Hq 1 w4 (ds).length ((ds).map eI_u8) ∧ Mono H0 Hq ∧ (digR n.natAbs = ds ++ digR m) ∧ (m ≤ 9223372036854775808)) (k := 2 * n.natAbs) ?_ ?_
  ·
   exact ⟨n.natAbs, [], v9, rfl, (congrArg (AV.int .i64) (show (-n : Int) = -(n.natAbs : Int) from by omega)), rfl, rfl, rfl, o11, m8, by simp, by omega⟩
  ·
   rintro _ f14 H13 ⟨m, ds, w4, rfl, s15, s16, s17, s18, o19, m20, hd, hm⟩
   refine AWP.block ?_
   refine AWP.seq ?_
   have ht := tmod_neg m
   have hq := tdiv_neg m
   have hdl := dig_len hd (by omega)
   refine AWP.region (l := [0, 1, 2, 3, 4, 5, 6, 7]) rfl ?_
   refine AOps.cons rfl rfl (AOp.move (w4) rfl s18 ?_)
   refine AOps.cons rfl rfl (AOp.move (.int .i64 (-(m : Int))) rfl s15 ?_)
   refine AOps.cons rfl rfl (AOp.rem rfl rfl rfl (by omega) ?_)
   refine AOps.cons rfl rfl (AOp.bin (.int .i64 (48 - (Int.tmod (-(m : Int)) 10))) rfl rfl rfl (isub (by omega)) ?_)
   refine AOps.cons rfl rfl (AOp.convIntP rfl rfl u_3 u_5 (wrap8 (by omega)) ?_)
   refine AOps.cons rfl rfl (AOp.buildSlice (cells := [.int .u8 (48 - (Int.tmod (-(m : Int)) 10))]) rfl u_45 ts_5 tz_5 rfl rfl rfl ?_)
   intro i21 H22 n23 h24 k25
   have z26 := Mono.free m20 n23
   have o27 := Own.keep o19 k25 (Own.notnew o19 n23)
   have no28 := Own.notnew o19 n23
   have m29 := Mono.new m20 n23 k25
   refine AOps.cons rfl rfl (AOp.append_own (es := 1) (m := 1) (len := ((ds).length)) (old := (ds).map eI_u8) (cells := [.int .u8 (48 - (Int.tmod (-(m : Int)) 10))]) rfl u_45 ts_5 tzn_5 tb_5 (by decide) ni_45 rfl o27 m29 rfl (.slm h24 rfl) (one_of rfl) (by decide) (by first | omega | (simp; omega)) ?_)
   intro v30 H31 o32 m33 k34 j35
   have o36 := Own.snoc1 (xs := ((ds) : List Int)) (y := 48 - (Int.tmod (-(m : Int)) 10)) (e := eI_u8) (by simp) o32
   refine AOps.cons rfl rfl (AOp.assign (v30) rfl rfl ?_)
   refine AOps.nil ?_
   change AWP _ _ _ _ _ _
   refine AWP.seq ?_
   refine AWP.region (l := [0, 1, 2]) rfl ?_
   refine AOps.cons rfl rfl (AOp.move (.int .i64 (-(m : Int))) rfl s15 ?_)
   refine AOps.cons rfl rfl (AOp.quoT rfl rfl rfl (by omega) (by omega) ?_)
   refine AOps.cons rfl rfl (AOp.assign (.int .i64 (Int.tdiv (-(m : Int)) 10)) rfl rfl ?_)
   refine AOps.nil ?_
   change AWP _ _ _ _ _ _
   refine AWP.seq ?_
   refine AWP.region (l := [0, 1]) rfl ?_
   refine AOps.cons rfl rfl (AOp.move (.int .i64 (Int.tdiv (-(m : Int)) 10)) rfl rfl ?_)
   refine AOps.cons rfl rfl (AOp.bin (.bool (decide (Int.tdiv (-(m : Int)) 10 = 0))) rfl rfl rfl ieq ?_)
   refine AOps.nil ?_
   change AWP _ _ _ _ _ _
   by_cases b37 : Int.tdiv (-(m : Int)) 10 = 0
   ·
    refine AWP.condT rfl (decide_eq_true b37) ?_
    refine AWP.exit ?_
    change AWP _ _ _ _ _ _
    refine AWP.seq ?_
    refine AWP.seq ?_
    refine AWP.region (l := [0, 1]) rfl ?_
    refine AOps.cons rfl rfl (AOp.move (.int .i64 n) rfl s16 ?_)
    refine AOps.cons rfl rfl (AOp.bin (.bool (decide (n < 0))) rfl rfl rfl rfl ?_)
    refine AOps.nil ?_
    change AWP _ _ _ _ _ _
    by_cases b38 : n < 0
    ·
     refine AWP.condT rfl (decide_eq_true b38) ?_
     have hxn : ((((ds) ++ [48 - (Int.tmod (-(m : Int)) 10)] : List Int)).length : Int) ≤ 20 := by simp; omega
     refine AWP.region (l := [0, 1, 2, 3]) rfl ?_
     refine AOps.cons rfl rfl (AOp.move (v30) rfl rfl ?_)
     refine AOps.cons rfl rfl (AOp.buildSlice (cells := [.int .u8 45]) rfl u_45 ts_5 tz_5 rfl rfl rfl ?_)
     intro i39 H40 n41 h42 k43
     have z44 := Mono.free m33 n41
     have o45 := Own.keep o36 k43 (Own.notnew o36 n41)
     have no46 := Own.notnew o36 n41
     have m47 := Mono.new m33 n41 k43
     refine AOps.cons rfl rfl (AOp.append_own (es := 1) (m := 1) (len := (((ds) ++ [48 - (Int.tmod (-(m : Int)) 10)]).length)) (old := ((ds) ++ [48 - (Int.tmod (-(m : Int)) 10)]).map eI_u8) (cells := [.int .u8 45]) rfl u_45 ts_5 tzn_5 tb_5 (by decide) ni_45 rfl o45 m47 rfl (.slm h42 rfl) (one_of rfl) (by decide) (by first | omega | (simp; omega)) ?_)
     intro v48 H49 o50 m51 k52 j53
     have o54 := Own.snoc1 (xs := (((ds) ++ [48 - (Int.tmod (-(m : Int)) 10)]) : List Int)) (y := 45) (e := eI_u8) (by simp) o50
     refine AOps.cons rfl rfl (AOp.assign (v48) rfl rfl ?_)
     refine AOps.nil ?_
     change AWP _ _ _ _ _ _
     refine AWP.seq ?_
     refine AWP.region (l := [0, 1]) rfl ?_
     refine AOps.cons rfl rfl (AOp.buildSlice (cells := []) rfl u_45 ts_5 tz_5 rfl rfl rfl ?_)
     intro i55 H56 n57 h58 k59
     have z60 := Mono.free m51 n57
     have o61 := Own.keep o54 k59 (Own.notnew o54 n57)
     have no62 := Own.notnew o54 n57
     have m63 := Mono.new m51 n57 k59
     obtain ⟨v64, e65⟩ : ∃ v : AV, v = .slm i55 0 1 0 0 := ⟨_, rfl⟩
     have o66 : Own H0 H56 1 v64 0 [] := .inr ⟨_, _, e65, h58, z60, rfl⟩
     have sp67 : Sep v64 v48 := by rw [e65]; exact Sep.ofNotId no62
     refine AOps.cons rfl rfl (AOp.assign (v64) rfl e65.symm ?_)
     refine AOps.nil ?_
     change AWP _ _ _ _ _ _
     refine AWP.seq ?_
     refine AWP.seq ?_
     have hxl : (((((ds) ++ [48 - (Int.tmod (-(m : Int)) 10)]) ++ [45] : List Int)).length : Int) ≤ 21 := by simp; omega
     refine AWP.region (l := [0, 1, 2, 3]) rfl ?_
     refine AOps.cons rfl rfl (AOp.move (v48) rfl rfl ?_)
     refine AOps.cons rfl rfl (AOp.len_own (m := ((((ds) ++ [48 - (Int.tmod (-(m : Int)) 10)]) ++ [45]).length)) rfl rfl o61 u_45 ?_)
     refine AOps.cons rfl rfl (AOp.bin (.int .i64 ((((((ds) ++ [48 - (Int.tmod (-(m : Int)) 10)]) ++ [45]).length) : Int) - 1)) rfl rfl rfl (isub (by omega)) ?_)
     refine AOps.cons rfl rfl (AOp.assign (.int .i64 ((((((ds) ++ [48 - (Int.tmod (-(m : Int)) 10)]) ++ [45]).length) : Int) - 1)) rfl rfl ?_)
     refine AOps.nil ?_
     change AWP _ _ _ _ _ _
     refine AWP.block ?_
     refine AWP.loop (fun q68 fq Hq => ∃ (i : Int) (w5 : AV), q68 = (i + 1).toNat ∧ fq 6 = .int .i64 i ∧ fq 2 = .str ⟨#[]⟩ ∧ fq 4 = v48 ∧ fq 5 = w5 ∧ Own H0 Hq 1 w5 ((((((ds) ++ [48 - (Int.tmod (-(m : Int)) 10)]) ++ [45] : List Int)).drop (i + 1).toNat).reverse).length (((((((ds) ++ [48 - (Int.tmod (-(m : Int)) 10)]) ++ [45] : List Int)).drop (i + 1).toNat).reverse).map eI_u8) ∧ Own H0 Hq 1 v48 ((((ds) ++ [48 - (Int.tmod (-(m : Int)) 10)]) ++ [45]).length) ((((ds) ++ [48 - (Int.tmod (-(m : Int)) 10)]) ++ [45]).map eI_u8) ∧ Sep w5 v48 ∧ Mono H0 Hq ∧ (-1 ≤ i) ∧ (i < ((((ds) ++ [48 - (Int.tmod (-(m : Int)) 10)]) ++ [45] : List Int)).length)) (k := (((((((ds) ++ [48 - (Int.tmod (-(m : Int)) 10)]) ++ [45] : List Int)).length : Int) - 1) + 1).toNat) ?_ ?_
     ·
      exact ⟨((((((ds) ++ [48 - (Int.tmod (-(m : Int)) 10)]) ++ [45] : List Int)).length : Int) - 1), v64, rfl, by first | rfl | (show AV.int _ _ = AV.int _ _; congr 1; omega), s17, rfl, rfl, (have hx : ([] : List Int) = (((((ds) ++ [48 - (Int.tmod (-(m : Int)) 10)]) ++ [45] : List Int)).drop (((((((ds) ++ [48 - (Int.tmod (-(m : Int)) 10)]) ++ [45] : List Int)).length : Int) - 1) + 1).toNat).reverse := (by exact rev_start); Own.re o66 (congrArg List.length hx) (congrArg (fun l : List Int => l.map eI_u8) hx)), o61, sp67, m63, by omega, by omega⟩
     ·
      rintro _ f70 H69 ⟨i, w5, rfl, s71, s72, s73, s74, o75, o76, sp77, m78, hi0, hi1⟩
      refine AWP.seq ?_
      refine AWP.seq ?_
      refine AWP.region (l := [0, 1]) rfl ?_
      refine AOps.cons rfl rfl (AOp.move (.int .i64 i) rfl s71 ?_)
      refine AOps.cons rfl rfl (AOp.bin (.bool (decide (i ≥ 0))) rfl rfl rfl rfl ?_)
      refine AOps.nil ?_
      change AWP _ _ _ _ _ _
      by_cases b79 : i ≥ 0
      ·
       refine AWP.condT rfl (decide_eq_true b79) ?_
       refine AWP.skip ?_
       change AWP _ _ _ _ _ _
       refine AWP.seq ?_
       refine AWP.block ?_
       refine AWP.region (l := [0, 1, 2, 3, 4, 5, 6, 7]) rfl ?_
       refine AOps.cons rfl rfl (AOp.move (w5) rfl s74 ?_)
       refine AOps.cons rfl rfl (AOp.move (v48) rfl s73 ?_)
       refine AOps.cons rfl rfl (AOp.move (.int .i64 i) rfl s71 ?_)
       obtain ⟨i80, ver81, e82, h83, _, _⟩ := Own.pos o76 (by omega)
       refine AOps.cons rfl rfl (AOp.indexAddrO rfl (Eq.trans rfl e82) rfl sl_45 (by omega) (by omega) h83 ?_)
       refine AOps.cons rfl rfl (AOp.load (.int .u8 (at_ (((ds) ++ [48 - (Int.tmod (-(m : Int)) 10)]) ++ [45]) i)) rfl rfl ty_5 h83 (ld1 (by omega) (by omega)) ?_)
       refine AOps.cons rfl rfl (AOp.buildSlice (cells := [.int .u8 (at_ (((ds) ++ [48 - (Int.tmod (-(m : Int)) 10)]) ++ [45]) i)]) rfl u_45 ts_5 tz_5 rfl rfl rfl ?_)
       intro i84 H85 n86 h87 k88
       have z89 := Mono.free m78 n86
       have o90 := Own.keep o75 k88 (Own.notnew o75 n86)
       have no91 := Own.notnew o75 n86
       have o92 := Own.keep o76 k88 (Own.notnew o76 n86)
       have no93 := Own.notnew o76 n86
       have m94 := Mono.new m78 n86 k88
       refine AOps.cons rfl rfl (AOp.append_own (es := 1) (m := 1) (len := (((((((ds) ++ [48 - (Int.tmod (-(m : Int)) 10)]) ++ [45] : List Int)).drop (i + 1).toNat).reverse).length)) (old := ((((((ds) ++ [48 - (Int.tmod (-(m : Int)) 10)]) ++ [45] : List Int)).drop (i + 1).toNat).reverse).map eI_u8) (cells := [.int .u8 (at_ (((ds) ++ [48 - (Int.tmod (-(m : Int)) 10)]) ++ [45]) i)]) rfl u_45 ts_5 tzn_5 tb_5 (by decide) ni_45 rfl o90 m94 rfl (.slm h87 rfl) (one_of rfl) (by decide) (by first | omega | (simp; omega)) ?_)
       intro v95 H96 o97 m98 k99 j100
       have o101 := Own.snoc1 (xs := (((((((ds) ++ [48 - (Int.tmod (-(m : Int)) 10)]) ++ [45] : List Int)).drop (i + 1).toNat).reverse) : List Int)) (y := at_ (((ds) ++ [48 - (Int.tmod (-(m : Int)) 10)]) ++ [45]) i) (e := eI_u8) (by simp) o97
       have sp103 := Own.sep o92 (Sep.symm sp77) j100
       have o102 := Own.stay o92 (Sep.symm sp77) k99
       refine AOps.cons rfl rfl (AOp.assign (v95) rfl rfl ?_)
       refine AOps.nil ?_
       change AWP _ _ _ _ _ _
       refine AWP.region (l := [0, 1, 2]) rfl ?_
       refine AOps.cons rfl rfl (AOp.move (.int .i64 i) rfl s71 ?_)
       refine AOps.cons rfl rfl (AOp.bin (.int .i64 (i - 1)) rfl rfl rfl (isub (by omega)) ?_)
       refine AOps.cons rfl rfl (AOp.assign (.int .i64 (i - 1)) rfl rfl ?_)
       refine AOps.nil ?_
       exact ⟨_, by omega, i - 1, v95, rfl, rfl, s72, s73, rfl, (have hx : ((((((((ds) ++ [48 - (Int.tmod (-(m : Int)) 10)]) ++ [45] : List Int)).drop (i + 1).toNat).reverse) ++ [at_ (((ds) ++ [48 - (Int.tmod (-(m : Int)) 10)]) ++ [45]) i]) : List Int) = (((((ds) ++ [48 - (Int.tmod (-(m : Int)) 10)]) ++ [45] : List Int)).drop ((i - 1) + 1).toNat).reverse := (by exact rev_step (by omega) (by omega)); Own.re o101 (congrArg List.length hx) (congrArg (fun l : List Int => l.map eI_u8) hx)), o102, (Sep.symm sp103), m98, by omega, by omega⟩
      ·
       refine AWP.condF rfl (decide_eq_false b79) ?_
       refine AWP.exit ?_
       change AWP _ _ _ _ _ _
       refine AWP.seq ?_
       refine AWP.region (l := [0, 1, 2]) rfl ?_
       refine AOps.cons rfl rfl (AOp.move (w5) rfl s74 ?_)
       refine AOps.cons rfl rfl (AOp.bytesS (l := (((((((ds) ++ [48 - (Int.tmod (-(m : Int)) 10)]) ++ [45] : List Int)).drop (i + 1).toNat).reverse) : List Int)) rfl rfl o75.src u_45 u_5 u_9 ?_)
       refine AOps.cons rfl rfl (AOp.assign (.str (bytesB ((((((ds) ++ [48 - (Int.tmod (-(m : Int)) 10)]) ++ [45] : List Int)).drop (i + 1).toNat).reverse))) rfl rfl ?_)
       refine AOps.nil ?_
       change AWP _ _ _ _ _ _
       refine AWP.ret ?_
       refine ⟨_, _, Ghost.refl, .inr rfl, _, Res.one rfl rfl, ?_, m78⟩
       exact (by exact congrArg AV.str (show_neg hd (by omega) (by omega) (by omega)))
    ·
     refine AWP.condF rfl (decide_eq_false b38) ?_
     refine AWP.skip ?_
     change AWP _ _ _ _ _ _
     refine AWP.seq ?_
     refine AWP.region (l := [0, 1]) rfl ?_
     refine AOps.cons rfl rfl (AOp.buildSlice (cells := []) rfl u_45 ts_5 tz_5 rfl rfl rfl ?_)
     intro i104 H105 n106 h107 k108
     have z109 := Mono.free m33 n106
     have o110 := Own.keep o36 k108 (Own.notnew o36 n106)
     have no111 := Own.notnew o36 n106
     have m112 := Mono.new m33 n106 k108
     obtain ⟨v113, e114⟩ : ∃ v : AV, v = .slm i104 0 1 0 0 := ⟨_, rfl⟩
     have o115 : Own H0 H105 1 v113 0 [] := .inr ⟨_, _, e114, h107, z109, rfl⟩
     have sp116 : Sep v113 v30 := by rw [e114]; exact Sep.ofNotId no111
     refine AOps.cons rfl rfl (AOp.assign (v113) rfl e114.symm ?_)
     refine AOps.nil ?_
     change AWP _ _ _ _ _ _
     refine AWP.seq ?_
     refine AWP.seq ?_
     have hxl : ((((ds) ++ [48 - (Int.tmod (-(m : Int)) 10)] : List Int)).length : Int) ≤ 21 := by simp; omega
     refine AWP.region (l := [0, 1, 2, 3]) rfl ?_
     refine AOps.cons rfl rfl (AOp.move (v30) rfl rfl ?_)
     refine AOps.cons rfl rfl (AOp.len_own (m := (((ds) ++ [48 - (Int.tmod (-(m : Int)) 10)]).length)) rfl rfl o110 u_45 ?_)
     refine AOps.cons rfl rfl (AOp.bin (.int .i64 (((((ds) ++ [48 - (Int.tmod (-(m : Int)) 10)]).length) : Int) - 1)) rfl rfl rfl (isub (by omega)) ?_)
     refine AOps.cons rfl rfl (AOp.assign (.int .i64 (((((ds) ++ [48 - (Int.tmod (-(m : Int)) 10)]).length) : Int) - 1)) rfl rfl ?_)
     refine AOps.nil ?_
     change AWP _ _ _ _ _ _
     refine AWP.block ?_
     refine AWP.loop (fun q117 fq Hq => ∃ (i : Int) (w5 : AV), q117 = (i + 1).toNat ∧ fq 6 = .int .i64 i ∧ fq 2 = .str ⟨#[]⟩ ∧ fq 4 = v30 ∧ fq 5 = w5 ∧ Own H0 Hq 1 w5 (((((ds) ++ [48 - (Int.tmod (-(m : Int)) 10)] : List Int)).drop (i + 1).toNat).reverse).length ((((((ds) ++ [48 - (Int.tmod (-(m : Int)) 10)] : List Int)).drop (i + 1).toNat).reverse).map eI_u8) ∧ Own H0 Hq 1 v30 (((ds) ++ [48 - (Int.tmod (-(m : Int)) 10)]).length) (((ds) ++ [48 - (Int.tmod (-(m : Int)) 10)]).map eI_u8) ∧ Sep w5 v30 ∧ Mono H0 Hq ∧ (-1 ≤ i) ∧ (i < (((ds) ++ [48 - (Int.tmod (-(m : Int)) 10)] : List Int)).length)) (k := ((((((ds) ++ [48 - (Int.tmod (-(m : Int)) 10)] : List Int)).length : Int) - 1) + 1).toNat) ?_ ?_
     ·
      exact ⟨(((((ds) ++ [48 - (Int.tmod (-(m : Int)) 10)] : List Int)).length : Int) - 1), v113, rfl, by first | rfl | (show AV.int _ _ = AV.int _ _; congr 1; omega), s17, rfl, rfl, (have hx : ([] : List Int) = ((((ds) ++ [48 - (Int.tmod (-(m : Int)) 10)] : List Int)).drop ((((((ds) ++ [48 - (Int.tmod (-(m : Int)) 10)] : List Int)).length : Int) - 1) + 1).toNat).reverse := (by exact rev_start); Own.re o115 (congrArg List.length hx) (congrArg (fun l : List Int => l.map eI_u8) hx)), o110, sp116, m112, by omega, by omega⟩
     ·
      rintro _ f119 H118 ⟨i, w5, rfl, s120, s121, s122, s123, o124, o125, sp126, m127, hi0, hi1⟩
      refine AWP.seq ?_
      refine AWP.seq ?_
      refine AWP.region (l := [0, 1]) rfl ?_
      refine AOps.cons rfl rfl (AOp.move (.int .i64 i) rfl s120 ?_)
      refine AOps.cons rfl rfl (AOp.bin (.bool (decide (i ≥ 0))) rfl rfl rfl rfl ?_)
      refine AOps.nil ?_
      change AWP _ _ _ _ _ _
      by_cases b128 : i ≥ 0
      ·
       refine AWP.condT rfl (decide_eq_true b128) ?_
       refine AWP.skip ?_
       change AWP _ _ _ _ _ _
       refine AWP.seq ?_
       refine AWP.block ?_
       refine AWP.region (l := [0, 1, 2, 3, 4, 5, 6, 7]) rfl ?_
       refine AOps.cons rfl rfl (AOp.move (w5) rfl s123 ?_)
       refine AOps.cons rfl rfl (AOp.move (v30) rfl s122 ?_)
       refine AOps.cons rfl rfl (AOp.move (.int .i64 i) rfl s120 ?_)
       obtain ⟨i129, ver130, e131, h132, _, _⟩ := Own.pos o125 (by omega)
       refine AOps.cons rfl rfl (AOp.indexAddrO rfl (Eq.trans rfl e131) rfl sl_45 (by omega) (by omega) h132 ?_)
       refine AOps.cons rfl rfl (AOp.load (.int .u8 (at_ ((ds) ++ [48 - (Int.tmod (-(m : Int)) 10)]) i)) rfl rfl ty_5 h132 (ld1 (by omega) (by omega)) ?_)
       refine AOps.cons rfl rfl (AOp.buildSlice (cells := [.int .u8 (at_ ((ds) ++ [48 - (Int.tmod (-(m : Int)) 10)]) i)]) rfl u_45 ts_5 tz_5 rfl rfl rfl ?_)
       intro i133 H134 n135 h136 k137
       have z138 := Mono.free m127 n135
       have o139 := Own.keep o124 k137 (Own.notnew o124 n135)
       have no140 := Own.notnew o124 n135
       have o141 := Own.keep o125 k137 (Own.notnew o125 n135)
       have no142 := Own.notnew o125 n135
       have m143 := Mono.new m127 n135 k137
       refine AOps.cons rfl rfl (AOp.append_own (es := 1) (m := 1) (len := ((((((ds) ++ [48 - (Int.tmod (-(m : Int)) 10)] : List Int)).drop (i + 1).toNat).reverse).length)) (old := (((((ds) ++ [48 - (Int.tmod (-(m : Int)) 10)] : List Int)).drop (i + 1).toNat).reverse).map eI_u8) (cells := [.int .u8 (at_ ((ds) ++ [48 - (Int.tmod (-(m : Int)) 10)]) i)]) rfl u_45 ts_5 tzn_5 tb_5 (by decide) ni_45 rfl o139 m143 rfl (.slm h136 rfl) (one_of rfl) (by decide) (by first | omega | (simp; omega)) ?_)
       intro v144 H145 o146 m147 k148 j149
       have o150 := Own.snoc1 (xs := ((((((ds) ++ [48 - (Int.tmod (-(m : Int)) 10)] : List Int)).drop (i + 1).toNat).reverse) : List Int)) (y := at_ ((ds) ++ [48 - (Int.tmod (-(m : Int)) 10)]) i) (e := eI_u8) (by simp) o146
       have sp152 := Own.sep o141 (Sep.symm sp126) j149
       have o151 := Own.stay o141 (Sep.symm sp126) k148
       refine AOps.cons rfl rfl (AOp.assign (v144) rfl rfl ?_)
       refine AOps.nil ?_
       change AWP _ _ _ _ _ _
       refine AWP.region (l := [0, 1, 2]) rfl ?_
       refine AOps.cons rfl rfl (AOp.move (.int .i64 i) rfl s120 ?_)
       refine AOps.cons rfl rfl (AOp.bin (.int .i64 (i - 1)) rfl rfl rfl (isub (by omega)) ?_)
       refine AOps.cons rfl rfl (AOp.assign (.int .i64 (i - 1)) rfl rfl ?_)
       refine AOps.nil ?_
       exact ⟨_, by omega, i - 1, v144, rfl, rfl, s121, s122, rfl, (have hx : (((((((ds) ++ [48 - (Int.tmod (-(m : Int)) 10)] : List Int)).drop (i + 1).toNat).reverse) ++ [at_ ((ds) ++ [48 - (Int.tmod (-(m : Int)) 10)]) i]) : List Int) = ((((ds) ++ [48 - (Int.tmod (-(m : Int)) 10)] : List Int)).drop ((i - 1) + 1).toNat).reverse := (by exact rev_step (by omega) (by omega)); Own.re o150 (congrArg List.length hx) (congrArg (fun l : List Int => l.map eI_u8) hx)), o151, (Sep.symm sp152), m147, by omega, by omega⟩
      ·
       refine AWP.condF rfl (decide_eq_false b128) ?_
       refine AWP.exit ?_
       change AWP _ _ _ _ _ _
       refine AWP.seq ?_
       refine AWP.region (l := [0, 1, 2]) rfl ?_
       refine AOps.cons rfl rfl (AOp.move (w5) rfl s123 ?_)
       refine AOps.cons rfl rfl (AOp.bytesS (l := ((((((ds) ++ [48 - (Int.tmod (-(m : Int)) 10)] : List Int)).drop (i + 1).toNat).reverse) : List Int)) rfl rfl o124.src u_45 u_5 u_9 ?_)
       refine AOps.cons rfl rfl (AOp.assign (.str (bytesB (((((ds) ++ [48 - (Int.tmod (-(m : Int)) 10)] : List Int)).drop (i + 1).toNat).reverse))) rfl rfl ?_)
       refine AOps.nil ?_
       change AWP _ _ _ _ _ _
       refine AWP.ret ?_
       refine ⟨_, _, Ghost.refl, .inr rfl, _, Res.one rfl rfl, ?_, m127⟩
       exact (by exact congrArg AV.str (show_pos hd (by omega) (by omega) (by omega)))
   ·
    refine AWP.condF rfl (decide_eq_false b37) ?_
    refine AWP.skip ?_
    exact ⟨_, by omega, m / 10, (ds) ++ [48 - (Int.tmod (-(m : Int)) 10)], v30, rfl, (congrArg (AV.int .i64) (show (Int.tdiv (-(m : Int)) 10 : Int) = -((m / 10) : Int) from by omega)), s16, s17, rfl, o36, m33, by rw [hd, digR_step (by omega), List.append_assoc], by omega⟩
 ·
  refine AWP.condF rfl (decide_eq_false b1) ?_
  refine AWP.skip ?_
  change AWP _ _ _ _ _ _
  refine AWP.seq ?_
  refine AWP.region (l := [0, 1]) rfl ?_
  refine AOps.cons rfl rfl (AOp.buildSlice (cells := []) rfl u_45 ts_5 tz_5 rfl rfl rfl ?_)
  intro i153 H154 n155 h156 k157
  have z158 := Mono.free m0 n155
  have m159 := Mono.new m0 n155 k157
  obtain ⟨v160, e161⟩ : ∃ v : AV, v = .slm i153 0 1 0 0 := ⟨_, rfl⟩
  have o162 : Own H0 H154 1 v160 0 [] := .inr ⟨_, _, e161, h156, z158, rfl⟩
  refine AOps.cons rfl rfl (AOp.assign (v160) rfl e161.symm ?_)
  refine AOps.nil ?_
  change AWP _ _ _ _ _ _
  refine AWP.seq ?_
  refine AWP.block ?_
  refine AWP.loop (fun q163 fq Hq => ∃ (m : Nat) (ds : List Int) (w4 : AV), q163 = 2 * m ∧ fq 3 = .int .i64 (-(m : Int)) ∧ fq 0 = .int .i64 n ∧ fq 2 = .str ⟨#[]⟩ ∧ fq 4 = w4 ∧ Own H0 Hq 1 w4 (ds).length ((ds).map eI_u8) ∧ Mono H0 Hq ∧ (digR n.natAbs = ds ++ digR m) ∧ (m ≤ 9223372036854775808)) (k := 2 * n.natAbs) ?_ ?_
  ·
   exact ⟨n.natAbs, [], v160, rfl, (congrArg (AV.int .i64) (show (n : Int) = -(n.natAbs : Int) from by omega)), rfl, rfl, rfl, o162, m159, by simp, by omega⟩
  ·
   rintro _ f165 H164 ⟨m, ds, w4, rfl, s166, s167, s168, s169, o170, m171, hd, hm⟩
   refine AWP.block ?_
   refine AWP.seq ?_
   have ht := tmod_neg m
   have hq := tdiv_neg m
   have hdl := dig_len hd (by omega)
   refine AWP.region (l := [0, 1, 2, 3, 4, 5, 6, 7]) rfl ?_
   refine AOps.cons rfl rfl (AOp.move (w4) rfl s169 ?_)
   refine AOps.cons rfl rfl (AOp.move (.int .i64 (-(m : Int))) rfl s166 ?_)
   refine AOps.cons rfl rfl (AOp.rem rfl rfl rfl (by omega) ?_)
   refine AOps.cons rfl rfl (AOp.bin (.int .i64 (48 - (Int.tmod (-(m : Int)) 10))) rfl rfl rfl (isub (by omega)) ?_)
   refine AOps.cons rfl rfl (AOp.convIntP rfl rfl u_3 u_5 (wrap8 (by omega)) ?_)
   refine AOps.cons rfl rfl (AOp.buildSlice (cells := [.int .u8 (48 - (Int.tmod (-(m : Int)) 10))]) rfl u_45 ts_5 tz_5 rfl rfl rfl ?_)
   intro i172 H173 n174 h175 k176
   have z177 := Mono.free m171 n174
   have o178 := Own.keep o170 k176 (Own.notnew o170 n174)
   have no179 := Own.notnew o170 n174
   have m180 := Mono.new m171 n174 k176
   refine AOps.cons rfl rfl (AOp.append_own (es := 1) (m := 1) (len := ((ds).length)) (old := (ds).map eI_u8) (cells := [.int .u8 (48 - (Int.tmod (-(m : Int)) 10))]) rfl u_45 ts_5 tzn_5 tb_5 (by decide) ni_45 rfl o178 m180 rfl (.slm h175 rfl) (one_of rfl) (by decide) (by first | omega | (simp; omega)) ?_)
   intro v181 H182 o183 m184 k185 j186
   have o187 := Own.snoc1 (xs := ((ds) : List Int)) (y := 48 - (Int.tmod (-(m : Int)) 10)) (e := eI_u8) (by simp) o183
   refine AOps.cons rfl rfl (AOp.assign (v181) rfl rfl ?_)
   refine AOps.nil ?_
   change AWP _ _ _ _ _ _
   refine AWP.seq ?_
   refine AWP.region (l := [0, 1, 2]) rfl ?_
   refine AOps.cons rfl rfl (AOp.move (.int .i64 (-(m : Int))) rfl s166 ?_)
   refine AOps.cons rfl rfl (AOp.quoT rfl rfl rfl (by omega) (by omega) ?_)
   refine AOps.cons rfl rfl (AOp.assign (.int .i64 (Int.tdiv (-(m : Int)) 10)) rfl rfl ?_)
   refine AOps.nil ?_
   change AWP _ _ _ _ _ _
   refine AWP.seq ?_
   refine AWP.region (l := [0, 1]) rfl ?_
   refine AOps.cons rfl rfl (AOp.move (.int .i64 (Int.tdiv (-(m : Int)) 10)) rfl rfl ?_)
   refine AOps.cons rfl rfl (AOp.bin (.bool (decide (Int.tdiv (-(m : Int)) 10 = 0))) rfl rfl rfl ieq ?_)
   refine AOps.nil ?_
   change AWP _ _ _ _ _ _
   by_cases b188 : Int.tdiv (-(m : Int)) 10 = 0
   ·
    refine AWP.condT rfl (decide_eq_true b188) ?_
    refine AWP.exit ?_
    change AWP _ _ _ _ _ _
    refine AWP.seq ?_
    refine AWP.seq ?_
    refine AWP.region (l := [0, 1]) rfl ?_
    refine AOps.cons rfl rfl (AOp.move (.int .i64 n) rfl s167 ?_)
    refine AOps.cons rfl rfl (AOp.bin (.bool (decide (n < 0))) rfl rfl rfl rfl ?_)
    refine AOps.nil ?_
    change AWP _ _ _ _ _ _
    by_cases b189 : n < 0
    ·
     refine AWP.condT rfl (decide_eq_true b189) ?_
     have hxn : ((((ds) ++ [48 - (Int.tmod (-(m : Int)) 10)] : List Int)).length : Int) ≤ 20 := by simp; omega
     refine AWP.region (l := [0, 1, 2, 3]) rfl ?_
     refine AOps.cons rfl rfl (AOp.move (v181) rfl rfl ?_)
     refine AOps.cons rfl rfl (AOp.buildSlice (cells := [.int .u8 45]) rfl u_45 ts_5 tz_5 rfl rfl rfl ?_)
     intro i190 H191 n192 h193 k194
     have z195 := Mono.free m184 n192
     have o196 := Own.keep o187 k194 (Own.notnew o187 n192)
     have no197 := Own.notnew o187 n192
     have m198 := Mono.new m184 n192 k194
     refine AOps.cons rfl rfl (AOp.append_own (es := 1) (m := 1) (len := (((ds) ++ [48 - (Int.tmod (-(m : Int)) 10)]).length)) (old := ((ds) ++ [48 - (Int.tmod (-(m : Int)) 10)]).map eI_u8) (cells := [.int .u8 45]) rfl u_45 ts_5 tzn_5 tb_5 (by decide) ni_45 rfl o196 m198 rfl (.slm h193 rfl) (one_of rfl) (by decide) (by first | omega | (simp; omega)) ?_)
     intro v199 H200 o201 m202 k203 j204
     have o205 := Own.snoc1 (xs := (((ds) ++ [48 - (Int.tmod (-(m : Int)) 10)]) : List Int)) (y := 45) (e := eI_u8) (by simp) o201
     refine AOps.cons rfl rfl (AOp.assign (v199) rfl rfl ?_)
     refine AOps.nil ?_
     change AWP _ _ _ _ _ _
     refine AWP.seq ?_
     refine AWP.region (l := [0, 1]) rfl ?_
     refine AOps.cons rfl rfl (AOp.buildSlice (cells := []) rfl u_45 ts_5 tz_5 rfl rfl rfl ?_)
     intro i206 H207 n208 h209 k210
     have z211 := Mono.free m202 n208
     have o212 := Own.keep o205 k210 (Own.notnew o205 n208)
     have no213 := Own.notnew o205 n208
     have m214 := Mono.new m202 n208 k210
     obtain ⟨v215, e216⟩ : ∃ v : AV, v = .slm i206 0 1 0 0 := ⟨_, rfl⟩
     have o217 : Own H0 H207 1 v215 0 [] := .inr ⟨_, _, e216, h209, z211, rfl⟩
     have sp218 : Sep v215 v199 := by rw [e216]; exact Sep.ofNotId no213
     refine AOps.cons rfl rfl (AOp.assign (v215) rfl e216.symm ?_)
     refine AOps.nil ?_
     change AWP _ _ _ _ _ _
     refine AWP.seq ?_
     refine AWP.seq ?_
     have hxl : (((((ds) ++ [48 - (Int.tmod (-(m : Int)) 10)]) ++ [45] : List Int)).length : Int) ≤ 21 := by simp; omega
     refine AWP.region (l := [0, 1, 2, 3]) rfl ?_
     refine AOps.cons rfl rfl (AOp.move (v199) rfl rfl ?_)
     refine AOps.cons rfl rfl (AOp.len_own (m := ((((ds) ++ [48 - (Int.tmod (-(m : Int)) 10)]) ++ [45]).length)) rfl rfl o212 u_45 ?_)
     refine AOps.cons rfl rfl (AOp.bin (.int .i64 ((((((ds) ++ [48 - (Int.tmod (-(m : Int)) 10)]) ++ [45]).length) : Int) - 1)) rfl rfl rfl (isub (by omega)) ?_)
     refine AOps.cons rfl rfl (AOp.assign (.int .i64 ((((((ds) ++ [48 - (Int.tmod (-(m : Int)) 10)]) ++ [45]).length) : Int) - 1)) rfl rfl ?_)
     refine AOps.nil ?_
     change AWP _ _ _ _ _ _
     refine AWP.block ?_
     refine AWP.loop (fun q219 fq Hq => ∃ (i : Int) (w5 : AV), q219 = (i + 1).toNat ∧ fq 6 = .int .i64 i ∧ fq 2 = .str ⟨#[]⟩ ∧ fq 4 = v199 ∧ fq 5 = w5 ∧ Own H0 Hq 1 w5 ((((((ds) ++ [48 - (Int.tmod (-(m : Int)) 10)]) ++ [45] : List Int)).drop (i + 1).toNat).reverse).length (((((((ds) ++ [48 - (Int.tmod (-(m : Int)) 10)]) ++ [45] : List Int)).drop (i + 1).toNat).reverse).map eI_u8) ∧ Own H0 Hq 1 v199 ((((ds) ++ [48 - (Int.tmod (-(m : Int)) 10)]) ++ [45]).length) ((((ds) ++ [48 - (Int.tmod (-(m : Int)) 10)]) ++ [45]).map eI_u8) ∧ Sep w5 v199 ∧ Mono H0 Hq ∧ (-1 ≤ i) ∧ (i < ((((ds) ++ [48 - (Int.tmod (-(m : Int)) 10)]) ++ [45] : List Int)).length)) (k := (((((((ds) ++ [48 - (Int.tmod (-(m : Int)) 10)]) ++ [45] : List Int)).length : Int) - 1) + 1).toNat) ?_ ?_
     ·
      exact ⟨((((((ds) ++ [48 - (Int.tmod (-(m : Int)) 10)]) ++ [45] : List Int)).length : Int) - 1), v215, rfl, by first | rfl | (show AV.int _ _ = AV.int _ _; congr 1; omega), s168, rfl, rfl, (have hx : ([] : List Int) = (((((ds) ++ [48 - (Int.tmod (-(m : Int)) 10)]) ++ [45] : List Int)).drop (((((((ds) ++ [48 - (Int.tmod (-(m : Int)) 10)]) ++ [45] : List Int)).length : Int) - 1) + 1).toNat).reverse := (by exact rev_start); Own.re o217 (congrArg List.length hx) (congrArg (fun l : List Int => l.map eI_u8) hx)), o212, sp218, m214, by omega, by omega⟩
     ·
      rintro _ f221 H220 ⟨i, w5, rfl, s222, s223, s224, s225, o226, o227, sp228, m229, hi0, hi1⟩
      refine AWP.seq ?_
      refine AWP.seq ?_
      refine AWP.region (l := [0, 1]) rfl ?_
      refine AOps.cons rfl rfl (AOp.move (.int .i64 i) rfl s222 ?_)
      refine AOps.cons rfl rfl (AOp.bin (.bool (decide (i ≥ 0))) rfl rfl rfl rfl ?_)
      refine AOps.nil ?_
      change AWP _ _ _ _ _ _
      by_cases b230 : i ≥ 0
      ·
       refine AWP.condT rfl (decide_eq_true b230) ?_
       refine AWP.skip ?_
       change AWP _ _ _ _ _ _
       refine AWP.seq ?_
       refine AWP.block ?_
       refine AWP.region (l := [0, 1, 2, 3, 4, 5, 6, 7]) rfl ?_
       refine AOps.cons rfl rfl (AOp.move (w5) rfl s225 ?_)
       refine AOps.cons rfl rfl (AOp.move (v199) rfl s224 ?_)
       refine AOps.cons rfl rfl (AOp.move (.int .i64 i) rfl s222 ?_)
       obtain ⟨i231, ver232, e233, h234, _, _⟩ := Own.pos o227 (by omega)
       refine AOps.cons rfl rfl (AOp.indexAddrO rfl (Eq.trans rfl e233) rfl sl_45 (by omega) (by omega) h234 ?_)
       refine AOps.cons rfl rfl (AOp.load (.int .u8 (at_ (((ds) ++ [48 - (Int.tmod (-(m : Int)) 10)]) ++ [45]) i)) rfl rfl ty_5 h234 (ld1 (by omega) (by omega)) ?_)
       refine AOps.cons rfl rfl (AOp.buildSlice (cells := [.int .u8 (at_ (((ds) ++ [48 - (Int.tmod (-(m : Int)) 10)]) ++ [45]) i)]) rfl u_45 ts_5 tz_5 rfl rfl rfl ?_)
       intro i235 H236 n237 h238 k239
       have z240 := Mono.free m229 n237
       have o241 := Own.keep o226 k239 (Own.notnew o226 n237)
       have no242 := Own.notnew o226 n237
       have o243 := Own.keep o227 k239 (Own.notnew o227 n237)
       have no244 := Own.notnew o227 n237
       have m245 := Mono.new m229 n237 k239
       refine AOps.cons rfl rfl (AOp.append_own (es := 1) (m := 1) (len := (((((((ds) ++ [48 - (Int.tmod (-(m : Int)) 10)]) ++ [45] : List Int)).drop (i + 1).toNat).reverse).length)) (old := ((((((ds) ++ [48 - (Int.tmod (-(m : Int)) 10)]) ++ [45] : List Int)).drop (i + 1).toNat).reverse).map eI_u8) (cells := [.int .u8 (at_ (((ds) ++ [48 - (Int.tmod (-(m : Int)) 10)]) ++ [45]) i)]) rfl u_45 ts_5 tzn_5 tb_5 (by decide) ni_45 rfl o241 m245 rfl (.slm h238 rfl) (one_of rfl) (by decide) (by first | omega | (simp; omega)) ?_)
       intro v246 H247 o248 m249 k250 j251
       have o252 := Own.snoc1 (xs := (((((((ds) ++ [48 - (Int.tmod (-(m : Int)) 10)]) ++ [45] : List Int)).drop (i + 1).toNat).reverse) : List Int)) (y := at_ (((ds) ++ [48 - (Int.tmod (-(m : Int)) 10)]) ++ [45]) i) (e := eI_u8) (by simp) o248
       have sp254 := Own.sep o243 (Sep.symm sp228) j251
       have o253 := Own.stay o243 (Sep.symm sp228) k250
       refine AOps.cons rfl rfl (AOp.assign (v246) rfl rfl ?_)
       refine AOps.nil ?_
       change AWP _ _ _ _ _ _
       refine AWP.region (l := [0, 1, 2]) rfl ?_
       refine AOps.cons rfl rfl (AOp.move (.int .i64 i) rfl s222 ?_)
       refine AOps.cons rfl rfl (AOp.bin (.int .i64 (i - 1)) rfl rfl rfl (isub (by omega)) ?_)
       refine AOps.cons rfl rfl (AOp.assign (.int .i64 (i - 1)) rfl rfl ?_)
       refine AOps.nil ?_
       exact ⟨_, by omega, i - 1, v246, rfl, rfl, s223, s224, rfl, (have hx : ((((((((ds) ++ [48 - (Int.tmod (-(m : Int)) 10)]) ++ [45] : List Int)).drop (i + 1).toNat).reverse) ++ [at_ (((ds) ++ [48 - (Int.tmod (-(m : Int)) 10)]) ++ [45]) i]) : List Int) = (((((ds) ++ [48 - (Int.tmod (-(m : Int)) 10)]) ++ [45] : List Int)).drop ((i - 1) + 1).toNat).reverse := (by exact rev_step (by omega) (by omega)); Own.re o252 (congrArg List.length hx) (congrArg (fun l : List Int => l.map eI_u8) hx)), o253, (Sep.symm sp254), m249, by omega, by omega⟩
      ·
       refine AWP.condF rfl (decide_eq_false b230) ?_
       refine AWP.exit ?_
       change AWP _ _ _ _ _ _
       refine AWP.seq ?_
       refine AWP.region (l := [0, 1, 2]) rfl ?_
       refine AOps.cons rfl rfl (AOp.move (w5) rfl s225 ?_)
       refine AOps.cons rfl rfl (AOp.bytesS (l := (((((((ds) ++ [48 - (Int.tmod (-(m : Int)) 10)]) ++ [45] : List Int)).drop (i + 1).toNat).reverse) : List Int)) rfl rfl o226.src u_45 u_5 u_9 ?_)
       refine AOps.cons rfl rfl (AOp.assign (.str (bytesB ((((((ds) ++ [48 - (Int.tmod (-(m : Int)) 10)]) ++ [45] : List Int)).drop (i + 1).toNat).reverse))) rfl rfl ?_)
       refine AOps.nil ?_
       change AWP _ _ _ _ _ _
       refine AWP.ret ?_
       refine ⟨_, _, Ghost.refl, .inr rfl, _, Res.one rfl rfl, ?_, m229⟩
       exact (by exact congrArg AV.str (show_neg hd (by omega) (by omega) (by omega)))
    ·
     refine AWP.condF rfl (decide_eq_false b189) ?_
     refine AWP.skip ?_
     change AWP _ _ _ _ _ _
     refine AWP.seq ?_
     refine AWP.region (l := [0, 1]) rfl ?_
     refine AOps.cons rfl rfl (AOp.buildSlice (cells := []) rfl u_45 ts_5 tz_5 rfl rfl rfl ?_)
     intro i255 H256 n257 h258 k259
     have z260 := Mono.free m184 n257
     have o261 := Own.keep o187 k259 (Own.notnew o187 n257)
     have no262 := Own.notnew o187 n257
     have m263 := Mono.new m184 n257 k259
     obtain ⟨v264, e265⟩ : ∃ v : AV, v = .slm i255 0 1 0 0 := ⟨_, rfl⟩
     have o266 : Own H0 H256 1 v264 0 [] := .inr ⟨_, _, e265, h258, z260, rfl⟩
     have sp267 : Sep v264 v181 := by rw [e265]; exact Sep.ofNotId no262
     refine AOps.cons rfl rfl (AOp.assign (v264) rfl e265.symm ?_)
     refine AOps.nil ?_
     change AWP _ _ _ _ _ _
     refine AWP.seq ?_
     refine AWP.seq ?_
     have hxl : ((((ds) ++ [48 - (Int.tmod (-(m : Int)) 10)] : List Int)).length : Int) ≤ 21 := by simp; omega
     refine AWP.region (l := [0, 1, 2, 3]) rfl ?_
     refine AOps.cons rfl rfl (AOp.move (v181) rfl rfl ?_)
     refine AOps.cons rfl rfl (AOp.len_own (m := (((ds) ++ [48 - (Int.tmod (-(m : Int)) 10)]).length)) rfl rfl o261 u_45 ?_)
     refine AOps.cons rfl rfl (AOp.bin (.int .i64 (((((ds) ++ [48 - (Int.tmod (-(m : Int)) 10)]).length) : Int) - 1)) rfl rfl rfl (isub (by omega)) ?_)
     refine AOps.cons rfl rfl (AOp.assign (.int .i64 (((((ds) ++ [48 - (Int.tmod (-(m : Int)) 10)]).length) : Int) - 1)) rfl rfl ?_)
     refine AOps.nil ?_
     change AWP _ _ _ _ _ _
     refine AWP.block ?_
     refine AWP.loop (fun q268 fq Hq => ∃ (i : Int) (w5 : AV), q268 = (i + 1).toNat ∧ fq 6 = .int .i64 i ∧ fq 2 = .str ⟨#[]⟩ ∧ fq 4 = v181 ∧ fq 5 = w5 ∧ Own H0 Hq 1 w5 (((((ds) ++ [48 - (Int.tmod (-(m : Int)) 10)] : List Int)).drop (i + 1).toNat).reverse).length ((((((ds) ++ [48 - (Int.tmod (-(m : Int)) 10)] : List Int)).drop (i + 1).toNat).reverse).map eI_u8) ∧ Own H0 Hq 1 v181 (((ds) ++ [48 - (Int.tmod (-(m : Int)) 10)]).length) (((ds) ++ [48 - (Int.tmod (-(m : Int)) 10)]).map eI_u8) ∧ Sep w5 v181 ∧ Mono H0 Hq ∧ (-1 ≤ i) ∧ (i < (((ds) ++ [48 - (Int.tmod (-(m : Int)) 10)] : List Int)).length)) (k := ((((((ds) ++ [48 - (Int.tmod (-(m : Int)) 10)] : List Int)).length : Int) - 1) + 1).toNat) ?_ ?_
     ·
      exact ⟨(((((ds) ++ [48 - (Int.tmod (-(m : Int)) 10)] : List Int)).length : Int) - 1), v264, rfl, by first | rfl | (show AV.int _ _ = AV.int _ _; congr 1; omega), s168, rfl, rfl, (have hx : ([] : List Int) = ((((ds) ++ [48 - (Int.tmod (-(m : Int)) 10)] : List Int)).drop ((((((ds) ++ [48 - (Int.tmod (-(m : Int)) 10)] : List Int)).length : Int) - 1) + 1).toNat).reverse := (by exact rev_start); Own.re o266 (congrArg List.length hx) (congrArg (fun l : List Int => l.map eI_u8) hx)), o261, sp267, m263, by omega, by omega⟩
     ·
      rintro _ f270 H269 ⟨i, w5, rfl, s271, s272, s273, s274, o275, o276, sp277, m278, hi0, hi1⟩
      refine AWP.seq ?_
      refine AWP.seq ?_
      refine AWP.region (l := [0, 1]) rfl ?_
      refine AOps.cons rfl rfl (AOp.move (.int .i64 i) rfl s271 ?_)
      refine AOps.cons rfl rfl (AOp.bin (.bool (decide (i ≥ 0))) rfl rfl rfl rfl ?_)
      refine AOps.nil ?_
      change AWP _ _ _ _ _ _
      by_cases b279 : i ≥ 0
      ·
       refine AWP.condT rfl (decide_eq_true b279) ?_
       refine AWP.skip ?_
       change AWP _ _ _ _ _ _
       refine AWP.seq ?_
       refine AWP.block ?_
       refine AWP.region (l := [0, 1, 2, 3, 4, 5, 6, 7]) rfl ?_
       refine AOps.cons rfl rfl (AOp.move (w5) rfl s274 ?_)
       refine AOps.cons rfl rfl (AOp.move (v181) rfl s273 ?_)
       refine AOps.cons rfl rfl (AOp.move (.int .i64 i) rfl s271 ?_)
       obtain ⟨i280, ver281, e282, h283, _, _⟩ := Own.pos o276 (by omega)
       refine AOps.cons rfl rfl (AOp.indexAddrO rfl (Eq.trans rfl e282) rfl sl_45 (by omega) (by omega) h283 ?_)
       refine AOps.cons rfl rfl (AOp.load (.int .u8 (at_ ((ds) ++ [48 - (Int.tmod (-(m : Int)) 10)]) i)) rfl rfl ty_5 h283 (ld1 (by omega) (by omega)) ?_)
       refine AOps.cons rfl rfl (AOp.buildSlice (cells := [.int .u8 (at_ ((ds) ++ [48 - (Int.tmod (-(m : Int)) 10)]) i)]) rfl u_45 ts_5 tz_5 rfl rfl rfl ?_)
       intro i284 H285 n286 h287 k288
       have z289 := Mono.free m278 n286
       have o290 := Own.keep o275 k288 (Own.notnew o275 n286)
       have no291 := Own.notnew o275 n286
       have o292 := Own.keep o276 k288 (Own.notnew o276 n286)
       have no293 := Own.notnew o276 n286
       have m294 := Mono.new m278 n286 k288
       refine AOps.cons rfl rfl (AOp.append_own (es := 1) (m := 1) (len := ((((((ds) ++ [48 - (Int.tmod (-(m : Int)) 10)] : List Int)).drop (i + 1).toNat).reverse).length)) (old := (((((ds) ++ [48 - (Int.tmod (-(m : Int)) 10)] : List Int)).drop (i + 1).toNat).reverse).map eI_u8) (cells := [.int .u8 (at_ ((ds) ++ [48 - (Int.tmod (-(m : Int)) 10)]) i)]) rfl u_45 ts_5 tzn_5 tb_5 (by decide) ni_45 rfl o290 m294 rfl (.slm h287 rfl) (one_of rfl) (by decide) (by first | omega | (simp; omega)) ?_)
       intro v295 H296 o297 m298 k299 j300
       have o301 := Own.snoc1 (xs := ((((((ds) ++ [48 - (Int.tmod (-(m : Int)) 10)] : List Int)).drop (i + 1).toNat).reverse) : List Int)) (y := at_ ((ds) ++ [48 - (Int.tmod (-(m : Int)) 10)]) i) (e := eI_u8) (by simp) o297
       have sp303 := Own.sep o292 (Sep.symm sp277) j300
       have o302 := Own.stay o292 (Sep.symm sp277) k299
       refine AOps.cons rfl rfl (AOp.assign (v295) rfl rfl ?_)
       refine AOps.nil ?_
       change AWP _ _ _ _ _ _
       refine AWP.region (l := [0, 1, 2]) rfl ?_
       refine AOps.cons rfl rfl (AOp.move (.int .i64 i) rfl s271 ?_)
       refine AOps.cons rfl rfl (AOp.bin (.int .i64 (i - 1)) rfl rfl rfl (isub (by omega)) ?_)
       refine AOps.cons rfl rfl (AOp.assign (.int .i64 (i - 1)) rfl rfl ?_)
       refine AOps.nil ?_
       exact ⟨_, by omega, i - 1, v295, rfl, rfl, s272, s273, rfl, (have hx : (((((((ds) ++ [48 - (Int.tmod (-(m : Int)) 10)] : List Int)).drop (i + 1).toNat).reverse) ++ [at_ ((ds) ++ [48 - (Int.tmod (-(m : Int)) 10)]) i]) : List Int) = ((((ds) ++ [48 - (Int.tmod (-(m : Int)) 10)] : List Int)).drop ((i - 1) + 1).toNat).reverse := (by exact rev_step (by omega) (by omega)); Own.re o301 (congrArg List.length hx) (congrArg (fun l : List Int => l.map eI_u8) hx)), o302, (Sep.symm sp303), m298, by omega, by omega⟩
      ·
       refine AWP.condF rfl (decide_eq_false b279) ?_
       refine AWP.exit ?_
       change AWP _ _ _ _ _ _
       refine AWP.seq ?_
       refine AWP.region (l := [0, 1, 2]) rfl ?_
       refine AOps.cons rfl rfl (AOp.move (w5) rfl s274 ?_)
       refine AOps.cons rfl rfl (AOp.bytesS (l := ((((((ds) ++ [48 - (Int.tmod (-(m : Int)) 10)] : List Int)).drop (i + 1).toNat).reverse) : List Int)) rfl rfl o275.src u_45 u_5 u_9 ?_)
       refine AOps.cons rfl rfl (AOp.assign (.str (bytesB (((((ds) ++ [48 - (Int.tmod (-(m : Int)) 10)] : List Int)).drop (i + 1).toNat).reverse))) rfl rfl ?_)
       refine AOps.nil ?_
       change AWP _ _ _ _ _ _
       refine AWP.ret ?_
       refine ⟨_, _, Ghost.refl, .inr rfl, _, Res.one rfl rfl, ?_, m278⟩
       exact (by exact congrArg AV.str (show_pos hd (by omega) (by omega) (by omega)))
   ·
    refine AWP.condF rfl (decide_eq_false b188) ?_
    refine AWP.skip ?_
    exact ⟨_, by omega, m / 10, (ds) ++ [48 - (Int.tmod (-(m : Int)) 10)], v181, rfl, (congrArg (AV.int .i64) (show (Int.tdiv (-(m : Int)) 10 : Int) = -((m / 10) : Int) from by omega)), s167, s168, rfl, o187, m184, by rw [hd, digR_step (by omega), List.append_assoc], by omega⟩
end Go.Proofs.L
namespace Go.Proofs.L
open Go Go.AH Go.Lib
set_option maxRecDepth 4000
set_option linter.unusedSectionVars false
variable [LexG]
/-! ### A number's text is read as the number -/
theorem dig_one (m : Nat) : (48 : Int) - Int.tmod (-(m : Int)) 10 = 48 + ((m % 10 : Nat) : Int) := by rw [tmod_neg]; omega
theorem digR_rng : ∀ (m : Nat) (d : Int), d ∈ digR m → 48 ≤ d ∧ d ≤ 57 := by
  intro m
  induction m using Nat.strongRecOn with
  | ind m ih =>
    intro d hd
    by_cases h : m < 10
    · rw [digR_last h, dig_one, List.mem_singleton] at hd
      omega
    · rw [digR_step h, dig_one, List.mem_append, List.mem_singleton] at hd
      rcases hd with e | e
      · omega
      · exact ih (m / 10) (by omega) d e
def valL (l : List Int) : Int := l.foldl (fun a d => a * 10 + (d - 48)) 0
theorem valL_snoc (l : List Int) (d : Int) : valL (l ++ [d]) = valL l * 10 + (d - 48) := by simp [valL]
theorem digR_val : ∀ m : Nat, valL (digR m).reverse = m := by
  intro m
  induction m using Nat.strongRecOn with
  | ind m ih =>
    by_cases h : m < 10
    · rw [digR_last h, dig_one]
      simp [valL]; omega
    · rw [digR_step h, dig_one, List.reverse_append, List.reverse_singleton, valL_snoc, ih (m / 10) (by omega)]
      omega
theorem digR_head : ∀ m : Nat, 0 < m → ∃ d r, (digR m).reverse = d :: r ∧ d ≠ 48 := by
  intro m
  induction m using Nat.strongRecOn with
  | ind m ih =>
    intro h0
    by_cases h : m < 10
    · rw [digR_last h, dig_one]
      exact ⟨_, [], rfl, by omega⟩
    · rw [digR_step h, List.reverse_append]
      obtain ⟨d, r, e, hd⟩ := ih (m / 10) (by omega) (by omega)
      rw [e]
      exact ⟨d, _, rfl, hd⟩
theorem digR_long : ∀ (k m : Nat), 10 ^ k ≤ m → k + 1 ≤ (digR m).length
  | 0, m, _ => by
    by_cases h : m < 10
    · rw [digR_last h]; simp
    · rw [digR_step h]; simp
  | k + 1, m, hk => by
    have h1 : 10 ≤ m := Nat.le_trans (by have := Nat.one_le_pow k 10 (by omega); rw [Nat.pow_succ]; omega) hk
    rw [digR_step (by omega)]
    have := digR_long k (m / 10) (by rw [Nat.le_div_iff_mul_le (by omega), ← Nat.pow_succ]; exact hk)
    simp; omega
theorem bytesB_size (l : List Int) : (bytesB l).size = l.length := by
  rw [← blen]; simp [bytesB]
theorem byt_bytesB {l : List Int} (h : ∀ d ∈ l, 0 ≤ d ∧ d ≤ 255) {j : Nat} (hj : j < l.length) : byt (bytesB l) j = l[j] := by
  have := h l[j] (List.getElem_mem hj)
  unfold byt bytesB
  rw [Int.toNat_natCast, List.getD_eq_getElem?_getD]
  simp [hj]
  omega
theorem val10_bytesB {l : List Int} (h : ∀ d ∈ l, 0 ≤ d ∧ d ≤ 255) : ∀ k, k ≤ l.length → val10 (bytesB l) k = valL (l.take k)
  | 0, _ => rfl
  | k + 1, hk => by
    rw [val10, val10_bytesB h k (by omega), byt_bytesB h (by omega), List.take_succ_eq_append_getElem (by omega), valL_snoc]
theorem show_core (neg : Bool) (k : Nat) (hk : neg = true → 0 < k) : num14w neg (bytesB (digR k).reverse) = if k ≤ 999999 then ((if neg = true then -(k : Int) else k), true) else (0, false) := by
  have hr : ∀ d ∈ (digR k).reverse, 0 ≤ d ∧ d ≤ 255 := fun d hd => by
    have := digR_rng k d (List.mem_reverse.1 hd)
    omega
  have hs : (bytesB (digR k).reverse).size = (digR k).length := by rw [bytesB_size, List.length_reverse]
  by_cases h0 : k = 0
  · subst h0
    cases neg with
    | true => exact absurd (hk rfl) (by omega)
    | false =>
      have : bytesB (digR 0).reverse = ⟨#[48]⟩ := by rw [digR_last (by omega)]; rfl
      rw [this, w_zero rfl]; rfl
  · obtain ⟨d, r, e, hd⟩ := digR_head k (by omega)
    have hl : 0 < (digR k).length := by
      have := congrArg List.length e
      simp at this; omega
    have hb0 : byt (bytesB (digR k).reverse) 0 = d := by
      have h1 : byt (bytesB (digR k).reverse) ((0 : Nat) : Int) = (digR k).reverse[0]'(by rw [List.length_reverse]; exact hl) := byt_bytesB hr (by rw [List.length_reverse]; exact hl)
      have h2 : (digR k).reverse[0]'(by rw [List.length_reverse]; exact hl) = d := by simp only [e, List.getElem_cons_zero]
      exact h1.trans h2
    have hz : ¬ (bytesB (digR k).reverse = ⟨#[48]⟩ ∧ neg = false) := fun e => by
      have h3 : byt (⟨#[48]⟩ : ByteArray) 0 = 48 := by kernel_rfl
      rw [e.1, h3] at hb0
      exact hd hb0.symm
    by_cases h6 : k ≤ 999999
    · have hlen := digR_len 5 k (by omega)
      have hdig : ∀ j : Int, 0 ≤ j → j < ((bytesB (digR k).reverse).size : Int) → 48 ≤ byt (bytesB (digR k).reverse) j ∧ byt (bytesB (digR k).reverse) j ≤ 57 := fun j j0 j1 => by
        have hj : j.toNat < (digR k).reverse.length := by rw [List.length_reverse]; omega
        have h1 := byt_bytesB hr hj
        rw [show ((j.toNat : Nat) : Int) = j by omega] at h1
        rw [h1]
        exact digR_rng k _ (List.mem_reverse.1 (List.getElem_mem hj))
      rw [if_pos h6, w_ok (i := ((bytesB (digR k).reverse).size : Int)) hz ⟨by omega, by omega, by rw [hb0]; exact hd⟩ (by omega) (by omega) hdig]
      have hv : val10 (bytesB (digR k).reverse) ((bytesB (digR k).reverse).size : Int).toNat = k := by
        rw [Int.toNat_natCast, bytesB_size, val10_bytesB hr _ (Nat.le_refl _), List.take_length, digR_val]
      rw [hv]
    · have hlen := digR_long 6 k (by omega)
      rw [if_neg h6, w_bad hz (by omega)]
theorem num_show (n : Int) : R_lex_Number (showB n) = if n.natAbs ≤ 999999 then (n, true) else (0, false) := by
  rw [← num_same]
  by_cases hn : n < 0
  · have e : (showL n).reverse = 45 :: (digR n.natAbs).reverse := by
      unfold showL
      rw [if_pos hn, List.reverse_append]; rfl
    have hd : (showB n).data.toList = 45 :: (bytesB (digR n.natAbs).reverse).data.toList := by
      unfold showB
      rw [e]; simp [bytesB]
    have h1 := head_minus.2 ⟨_, hd⟩
    have hx : (showB n).extract (1 : Int).toNat ((showB n).size : Int).toNat = bytesB (digR n.natAbs).reverse := by
      apply ba_ext
      rw [Lib.extract_data, hd]
      have : (showB n).size = (bytesB (digR n.natAbs).reverse).data.toList.length + 1 := by rw [← blen, hd]; rfl
      rw [this]
      simp only [Int.toNat_natCast, show (1 : Int).toNat = 1 from rfl, List.drop_succ_cons, List.drop_zero, Nat.add_sub_cancel]
      exact List.take_of_length_le (Nat.le_refl _)
    rw [num14_T h1, hx, show_core true _ fun _ => by omega]
    split
    · rw [if_pos rfl]
      congr 1
      omega
    · rfl
  · have e : (showL n).reverse = (digR n.natAbs).reverse := by
      unfold showL
      rw [if_neg hn, List.append_nil]
    have hx : showB n = bytesB (digR n.natAbs).reverse := by unfold showB; rw [e]
    have h1 : ¬ (0 < (showB n).size ∧ byt (showB n) 0 = 45) := fun h => by
      rw [hx] at h
      have hl : 0 < (digR n.natAbs).reverse.length := by rw [← bytesB_size]; exact h.1
      have h2 : byt (bytesB (digR n.natAbs).reverse) ((0 : Nat) : Int) = (digR n.natAbs).reverse[0] := byt_bytesB (fun d hd => by have := digR_rng _ d (List.mem_reverse.1 hd); omega) hl
      have h3 := digR_rng n.natAbs _ (List.mem_reverse.1 (List.getElem_mem hl))
      rw [← h2] at h3
      have h4 : byt (bytesB (digR n.natAbs).reverse) ((0 : Nat) : Int) = 45 := h.2
      omega
    rw [num14_F h1, hx, show_core false _ fun h => by cases h]
    split
    · rw [if_neg (by simp)]
      congr 1
      omega
    · rfl
theorem num_big {n : Int} (h : n > 999999 ∨ n < -999999) : R_lex_Number (showB n) = (0, false) := by rw [num_show, if_neg (by omega)]
theorem num_in {n : Int} (h : ¬ (n > 999999 ∨ n < -999999)) : R_lex_Number (showB n) = (n, true) := by rw [num_show, if_pos (by omega)]
end Go.Proofs.L
namespace Go.Proofs.L
open Go Go.AH
set_option maxRecDepth 4000
set_option linter.unusedSimpArgs false
set_option linter.unusedVariables false
variable [LexG]
theorem c_LexNumbers (n : Int) (hn : -9223372036854775808 ≤ n ∧ n ≤ 9223372036854775807) : PC Tryd.prog 5 [.int .i64 n] (.bool true) := by
 intro H0
 refine ACalls.of_body' (n := 31) rfl rfl rfl rfl ?_
 have m0 := Mono.refl H0
 refine AWP.seq ?_
 refine AWP.region (l := [0]) rfl ?_
 refine AOps.cons rfl rfl (AOp.assign (.bool false) rfl rfl ?_)
 refine AOps.nil ?_
 change AWP _ _ _ _ _ _
 refine AWP.seq ?_
 refine AWP.seq ?_
 refine AWP.region (l := [0, 1]) rfl ?_
 refine AOps.cons rfl rfl (AOp.pcall («as» := []) rfl rfl (rfl) tf_9 (c_alive) ?_)
 intro H1 m2
 have m3 := m0.trans m2
 refine AOps.cons rfl rfl (AOp.not rfl rfl ?_)
 refine AOps.nil ?_
 change AWP _ _ _ _ _ _
 refine AWP.condF rfl rfl ?_
 refine AWP.skip ?_
 change AWP _ _ _ _ _ _
 refine AWP.seq ?_
 refine AWP.region (l := [0, 1, 2, 3, 4, 5, 6, 7]) rfl ?_
 refine AOps.cons rfl rfl (AOp.move (.int .i64 n) rfl rfl ?_)
 refine AOps.cons rfl rfl (AOp.pcall («as» := [.int .i64 n]) rfl rfl (rfl) tf_17 (c_Show n (by omega)) ?_)
 intro H4 m5
 have m6 := m3.trans m5
 refine AOps.cons rfl rfl (AOp.pcall («as» := [.str (showB n)]) rfl rfl (rfl) tf_13 (c_lex_Number (showB n)) ?_)
 intro H7 m8
 have m9 := m6.trans m8
 refine AOps.cons rfl rfl (AOp.move (.tup [.int .i64 ((R_lex_Number (showB n)).1), .bool ((R_lex_Number (showB n)).2)]) rfl rfl ?_)
 refine AOps.cons rfl rfl (AOp.extract (.int .i64 ((R_lex_Number (showB n)).1)) rfl rfl rfl ?_)
 refine AOps.cons rfl rfl (AOp.extract (.bool ((R_lex_Number (showB n)).2)) rfl rfl rfl ?_)
 refine AOps.cons rfl rfl (AOp.assign (.int .i64 ((R_lex_Number (showB n)).1)) rfl rfl ?_)
 refine AOps.cons rfl rfl (AOp.assign (.bool ((R_lex_Number (showB n)).2)) rfl rfl ?_)
 refine AOps.nil ?_
 change AWP _ _ _ _ _ _
 refine AWP.seq ?_
 refine AWP.seq ?_
 refine AWP.region (l := [0, 1, 2, 3, 4, 5]) rfl ?_
 refine AOps.cons rfl rfl (AOp.move (.int .i64 n) rfl rfl ?_)
 refine AOps.cons rfl rfl (AOp.bin (.bool (decide (n > 999999))) rfl rfl rfl rfl ?_)
 refine AOps.cons rfl rfl (AOp.move (.bool (decide (n > 999999))) rfl rfl ?_)
 by_cases b10 : n > 999999
 ·
  refine AOps.no rfl rfl rfl rfl rfl rfl rfl (ble_of (decide_eq_true b10) (by decide)) ?_
  refine AOps.no rfl rfl rfl rfl rfl rfl rfl (ble_of (decide_eq_true b10) (by decide)) ?_
  refine AOps.cons rfl rfl (AOp.pickT (.bool true) rfl rfl (decide_eq_true b10) rfl ?_)
  refine AOps.nil ?_
  change AWP _ _ _ _ _ _
  refine AWP.condT rfl rfl ?_
  refine AWP.seq ?_
  have hbg := num_big (n := n) (by omega)
  have hb1 : (R_lex_Number (showB n)).1 = 0 := by rw [hbg]
  have hb2 : (R_lex_Number (showB n)).2 = false := by rw [hbg]
  refine AWP.region (l := [0, 1, 2, 3, 4, 5, 6]) rfl ?_
  refine AOps.cons rfl rfl (AOp.move (.bool ((R_lex_Number (showB n)).2)) rfl rfl ?_)
  refine AOps.cons rfl rfl (AOp.not rfl rfl ?_)
  refine AOps.cons rfl rfl (AOp.move (.bool (!((R_lex_Number (showB n)).2))) rfl rfl ?_)
  rcases Bool.eq_false_or_eq_true ((R_lex_Number (showB n)).2) with b11 | b11
  ·
   refine AOps.no rfl rfl rfl rfl rfl rfl rfl (ble_of (nb b11) (by decide)) ?_
   refine AOps.no rfl rfl rfl rfl rfl rfl rfl (ble_of (nb b11) (by decide)) ?_
   refine AOps.cons rfl rfl (AOp.pickF (.bool false) rfl rfl (nb b11) rfl ?_)
   refine AOps.cons rfl rfl (AOp.assign (.bool false) rfl rfl ?_)
   refine AOps.nil ?_
   change AWP _ _ _ _ _ _
   refine AWP.ret ?_
   refine ⟨_, _, Ghost.refl, .inr rfl, _, Res.one rfl rfl, ?_, m9⟩
   exact (congrArg AV.bool (show (false : Bool) = true from by first | rfl | exact decide_eq_true hb1 | (exfalso; simp_all)))
  ·
   refine AOps.yes rfl rfl rfl rfl rfl rfl rfl (nb b11) (AOp.move (.int .i64 ((R_lex_Number (showB n)).1)) rfl rfl ?_)
   refine AOps.yes rfl rfl rfl rfl rfl rfl rfl (nb b11) (AOp.bin (.bool (decide ((R_lex_Number (showB n)).1 = 0))) rfl rfl rfl ieq ?_)
   refine AOps.cons rfl rfl (AOp.pickT (.bool (decide ((R_lex_Number (showB n)).1 = 0))) rfl rfl (nb b11) rfl ?_)
   refine AOps.cons rfl rfl (AOp.assign (.bool (decide ((R_lex_Number (showB n)).1 = 0))) rfl rfl ?_)
   refine AOps.nil ?_
   change AWP _ _ _ _ _ _
   refine AWP.ret ?_
   refine ⟨_, _, Ghost.refl, .inr rfl, _, Res.one rfl rfl, ?_, m9⟩
   exact (congrArg AV.bool (show (decide ((R_lex_Number (showB n)).1 = 0) : Bool) = true from by first | rfl | exact decide_eq_true hb1 | (exfalso; simp_all)))
 ·
  refine AOps.yes rfl rfl rfl rfl rfl rfl rfl (decide_eq_false b10) (AOp.move (.int .i64 n) rfl rfl ?_)
  refine AOps.yes rfl rfl rfl rfl rfl rfl rfl (decide_eq_false b10) (AOp.bin (.bool (decide (n < -999999))) rfl rfl rfl rfl ?_)
  refine AOps.cons rfl rfl (AOp.pickF (.bool (decide (n < -999999))) rfl rfl (decide_eq_false b10) rfl ?_)
  refine AOps.nil ?_
  change AWP _ _ _ _ _ _
  by_cases b12 : n < -999999
  ·
   refine AWP.condT rfl (decide_eq_true b12) ?_
   refine AWP.seq ?_
   have hbg := num_big (n := n) (by omega)
   have hb1 : (R_lex_Number (showB n)).1 = 0 := by rw [hbg]
   have hb2 : (R_lex_Number (showB n)).2 = false := by rw [hbg]
   refine AWP.region (l := [0, 1, 2, 3, 4, 5, 6]) rfl ?_
   refine AOps.cons rfl rfl (AOp.move (.bool ((R_lex_Number (showB n)).2)) rfl rfl ?_)
   refine AOps.cons rfl rfl (AOp.not rfl rfl ?_)
   refine AOps.cons rfl rfl (AOp.move (.bool (!((R_lex_Number (showB n)).2))) rfl rfl ?_)
   rcases Bool.eq_false_or_eq_true ((R_lex_Number (showB n)).2) with b13 | b13
   ·
    refine AOps.no rfl rfl rfl rfl rfl rfl rfl (ble_of (nb b13) (by decide)) ?_
    refine AOps.no rfl rfl rfl rfl rfl rfl rfl (ble_of (nb b13) (by decide)) ?_
    refine AOps.cons rfl rfl (AOp.pickF (.bool false) rfl rfl (nb b13) rfl ?_)
    refine AOps.cons rfl rfl (AOp.assign (.bool false) rfl rfl ?_)
    refine AOps.nil ?_
    change AWP _ _ _ _ _ _
    refine AWP.ret ?_
    refine ⟨_, _, Ghost.refl, .inr rfl, _, Res.one rfl rfl, ?_, m9⟩
    exact (congrArg AV.bool (show (false : Bool) = true from by first | rfl | exact decide_eq_true hb1 | (exfalso; simp_all)))
   ·
    refine AOps.yes rfl rfl rfl rfl rfl rfl rfl (nb b13) (AOp.move (.int .i64 ((R_lex_Number (showB n)).1)) rfl rfl ?_)
    refine AOps.yes rfl rfl rfl rfl rfl rfl rfl (nb b13) (AOp.bin (.bool (decide ((R_lex_Number (showB n)).1 = 0))) rfl rfl rfl ieq ?_)
    refine AOps.cons rfl rfl (AOp.pickT (.bool (decide ((R_lex_Number (showB n)).1 = 0))) rfl rfl (nb b13) rfl ?_)
    refine AOps.cons rfl rfl (AOp.assign (.bool (decide ((R_lex_Number (showB n)).1 = 0))) rfl rfl ?_)
    refine AOps.nil ?_
    change AWP _ _ _ _ _ _
    refine AWP.ret ?_
    refine ⟨_, _, Ghost.refl, .inr rfl, _, Res.one rfl rfl, ?_, m9⟩
    exact (congrArg AV.bool (show (decide ((R_lex_Number (showB n)).1 = 0) : Bool) = true from by first | rfl | exact decide_eq_true hb1 | (exfalso; simp_all)))
  ·
   refine AWP.condF rfl (decide_eq_false b12) ?_
   refine AWP.skip ?_
   change AWP _ _ _ _ _ _
   refine AWP.seq ?_
   have hbg := num_in (n := n) (by omega)
   have hb1 : (R_lex_Number (showB n)).1 = n := by rw [hbg]
   have hb2 : (R_lex_Number (showB n)).2 = true := by rw [hbg]
   refine AWP.region (l := [0, 1, 2, 3, 4, 5, 6]) rfl ?_
   refine AOps.cons rfl rfl (AOp.move (.bool ((R_lex_Number (showB n)).2)) rfl rfl ?_)
   refine AOps.cons rfl rfl (AOp.move (.bool ((R_lex_Number (showB n)).2)) rfl rfl ?_)
   rcases Bool.eq_false_or_eq_true ((R_lex_Number (showB n)).2) with b14 | b14
   ·
    refine AOps.yes rfl rfl rfl rfl rfl rfl rfl b14 (AOp.move (.int .i64 ((R_lex_Number (showB n)).1)) rfl rfl ?_)
    refine AOps.yes rfl rfl rfl rfl rfl rfl rfl b14 (AOp.move (.int .i64 n) rfl rfl ?_)
    refine AOps.yes rfl rfl rfl rfl rfl rfl rfl b14 (AOp.bin (.bool (decide ((R_lex_Number (showB n)).1 = n))) rfl rfl rfl ieq ?_)
    refine AOps.cons rfl rfl (AOp.pickT (.bool (decide ((R_lex_Number (showB n)).1 = n))) rfl rfl b14 rfl ?_)
    refine AOps.cons rfl rfl (AOp.assign (.bool (decide ((R_lex_Number (showB n)).1 = n))) rfl rfl ?_)
    refine AOps.nil ?_
    change AWP _ _ _ _ _ _
    refine AWP.ret ?_
    refine ⟨_, _, Ghost.refl, .inr rfl, _, Res.one rfl rfl, ?_, m9⟩
    exact (congrArg AV.bool (show (decide ((R_lex_Number (showB n)).1 = n) : Bool) = true from by first | rfl | exact decide_eq_true hb1 | (exfalso; simp_all)))
   ·
    refine AOps.no rfl rfl rfl rfl rfl rfl rfl (ble_of b14 (by decide)) ?_
    refine AOps.no rfl rfl rfl rfl rfl rfl rfl (ble_of b14 (by decide)) ?_
    refine AOps.no rfl rfl rfl rfl rfl rfl rfl (ble_of b14 (by decide)) ?_
    refine AOps.cons rfl rfl (AOp.pickF (.bool false) rfl rfl b14 rfl ?_)
    refine AOps.cons rfl rfl (AOp.assign (.bool false) rfl rfl ?_)
    refine AOps.nil ?_
    change AWP _ _ _ _ _ _
    refine AWP.ret ?_
    refine ⟨_, _, Ghost.refl, .inr rfl, _, Res.one rfl rfl, ?_, m9⟩
    exact (congrArg AV.bool (show (false : Bool) = true from by first | rfl | exact decide_eq_true hb1 | (exfalso; simp_all)))
end Go.Proofs.L
