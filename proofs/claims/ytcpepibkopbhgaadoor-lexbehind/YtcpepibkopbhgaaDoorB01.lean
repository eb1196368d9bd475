/- A part of the proof that a law answers true for every input of its row: own work, by an AI agent. -/
import Derived.Test.YtcpepibkopbhgaaDoorB00
import Derived.OpenShut
import Derived.Deep.Slices
import Derived.Lib.LaidTab
import Derived.Deep.OwnRows
import Derived.WideKeyArgs
import Derived.Lib.OthersKept
import Derived.Laws.BytesString
import Derived.Lib.ConvBytes
import Derived.Lib.Space
import Derived.Test.YtcpepibkopbhgaaDoorProg
import Derived.Shelf.Strconv.Atoi
import Derived.Shelf.LaysC
import Derived.Shelf.Strconv.AtoiErr
import Derived.Shelf.Strings.Cut
import Derived.Ground.GgwProg
import Derived.Shelf.GgClosure.StringsIndexFuncTop
import Derived.Shelf.Strings.Prefix
import Derived.Shelf.Strings.Split
import Derived.Shelf.Strings.Fields
import Derived.Lib.SplitLaws
import Derived.Test.YtcpepibkopbhgaaDoorCards
import Derived.Test.YtcpepibkopbhgaaDoorTie
import Derived.WalkKit
import Derived.ProofKit
import Derived.Deep.DeepHandedRow
import Derived.Deep.DeepWitnessRowRef
import Derived.Lay
import Derived.LaidSub
import Derived.MakeChecks
import Derived.Shelf.Vars
import Derived.Stop.LaidErr
import Derived.KernelRfl
import Derived.Shelf.GgClosure.StringsIndexFunc
set_option linter.unusedSimpArgs false
set_option linter.unusedVariables false
namespace Go.AH
variable [Globs]
set_option linter.unusedSectionVars false
open Go Go.Deep
def nH : Heap := fun _ => none
abbrev idM : Nat → Nat := fun i => i
theorem nH_owned {μ : Nat → Nat} {b : Nat} : ¬ Owned μ nH b := by
  rintro ⟨_, _, h, _⟩; cases h
theorem nH_HR {w : World} {μ : Nat → Nat} (hg : GOK w μ nH) : HR w μ nH where
  glob := hg
  rows := fun _ _ _ h => by cases h
  maps := fun _ _ h => by cases h
  born := fun _ _ _ _ h => by cases h
  iters := fun _ _ h => by cases h
  inj := fun _ _ _ _ h => by cases h
  fin := ⟨0, fun _ _ => rfl⟩
theorem Ext.since0 {W W' : World} {μ μ' : Nat → Nat} {H' : Heap} (h : Ext W μ nH W' μ' H') : World.Since W.heap.size W W' :=
  ⟨h.rest.2.1, h.rest.1, h.rest.2.2.1, h.size, fun k hk => (h.frz k ⟨hk, nH_owned⟩).1⟩
theorem cell_spot0 {W : World} {a : Addr} {v : Value} (h : W.cell? a = some v) : a = ⟨a.block, a.off, none⟩ ∧ a.block < W.heap.size := by
  unfold World.cell? at h
  split at h
  · rename_i c e fr hb
    have hlt : a.block < W.heap.size := (Array.getElem?_eq_some_iff.1 hb).1
    split at h
    · cases h
    · rename_i hs
      refine ⟨?_, hlt⟩
      cases a with
      | mk b o s => cases s with
        | none => rfl
        | some s => simp at hs
  · cases h
section
variable {w : World} {μ : Nat → Nat} {H : Heap}
theorem VRs.nil : VRs w μ H [] [] := ⟨rfl, fun j x y h => by simp at h⟩
theorem VRs.one {x : AV} {v : Value} (h : VR w μ H x v) : VRs w μ H [x] [v] := ⟨rfl, fun j a b h1 h2 => by
  match j with
  | 0 => simp at h1 h2; subst h1 h2; exact h
  | j + 1 => simp at h1⟩
theorem VRs.whole {xs : List AV} {cs : List Value} {n : Nat} (h : VRs w μ H xs ((cs.drop 0).take n)) (hn : cs.length = n) : VRs w μ H xs cs := by
  subst hn; simpa using h
theorem VRs.part {xs : List AV} {cs : List Value} {n : Nat} (h : VRs w μ H xs cs) (hn : cs.length = n) : VRs w μ H xs ((cs.drop 0).take n) := by
  subst hn; simpa using h
theorem VRs.agg {xs : List AV} {cs : Array Value} (h : VRs w μ H xs cs.toList) : VR w μ H (.agg xs) (.agg cs) := .agg (by simpa using h.1) fun j x y hx hy => h.2 j x y hx (by simpa using hy)
end
section
variable {D : Type} {enc : TypeId × Value → D} {P : Program} {W : World}
/-- What is read at a type stands for an abstract value of one kind. -/
def Opn (enc : TypeId × Value → D) (P : Program) (W : World) (t : TypeId) {α : Type} (e : α → List AV) (Q : α → DataW D → Prop) : Prop :=
  ∀ (sp : Nat → Bool) (held : Bool) (fuel : Nat) (cs : List Value) (x : DataW D × List MemPlace), DataW.trod enc P W 0 sp held fuel t cs = some x → ∃ v, VRs W idM nH (e v) cs ∧ Q v x.1
theorem Opn.int {t : TypeId} {k : IntKind} (ht : P.underlying t = some (.int k)) : Opn enc P W t (fun n : Int => [.int k n]) (fun n _ => (Lit.int k n).wf = true) := fun sp held fuel cs x h => by
  obtain ⟨n, rfl, rfl, hw⟩ := DataW.trod_int ht h
  exact ⟨n, .one (.int _ _), hw⟩
theorem Opn.str {t : TypeId} (ht : P.underlying t = some .string) : Opn enc P W t (fun s : ByteArray => [.str s]) (fun s d => d = .lit (.string s.data.toList)) := fun sp held fuel cs x h => by
  obtain ⟨s, rfl, rfl, hw⟩ := DataW.trod_string ht h
  exact ⟨s, .one (.str _), rfl⟩
theorem Opn.bool {t : TypeId} (ht : P.underlying t = some .bool) : Opn enc P W t (fun s : Bool => [.bool s]) (fun _ _ => True) := fun sp held fuel cs x h => by
  obtain ⟨s, rfl, rfl⟩ := DataW.trod_bool ht h
  exact ⟨s, .one (.bool _), trivial⟩
theorem Opn.imp {t : TypeId} {α : Type} {e : α → List AV} {Q Q' : α → DataW D → Prop} (h : Opn enc P W t e Q) (hq : ∀ v d, Q v d → Q' v d) : Opn enc P W t e Q' := fun sp held fuel cs x hx => by
  obtain ⟨v, h1, h2⟩ := h sp held fuel cs x hx
  exact ⟨v, h1, hq _ _ h2⟩
/-- A slice, by value. -/
theorem Opn.slice {t el : TypeId} {m : Nat} {α : Type} {e : α → List AV} {Q : α → DataW D → Prop} (ht : P.underlying t = some (.slice el)) (hm : P.cellsOf el = m) (hm0 : 0 < m) (he : Opn enc P W el e Q) :
    Opn enc P W t (fun l : List α => [.sl l.length (l.flatMap e)]) (fun l d => (l = [] ∧ d = .nil) ∨ ∃ ds sp, d = .slice ds sp ∧ l.length = ds.length ∧ ∀ x ∈ l, ∃ y ∈ ds, Q x y) := fun sp held fuel cs x h => by
  rcases Go.Deep.open_slice ht h with ⟨rfl, rfl⟩ | ⟨a, len, cap, mm, n, Dd, Pl, rfl, hb, hl, hcm, hmm, rfl, hx⟩
  · exact ⟨[], .one (.sl0 _ _), .inl ⟨rfl, rfl⟩⟩
  · rw [hm] at hx
    have hle : len ≤ mm := by rw [hmm]; split <;> omega
    have key : ∀ k, k ≤ len → ∃ l : List α, l.length = k ∧ (l.flatMap e).length = k * m ∧ (∃ ys : Nat → Value, ∀ j x, (l.flatMap e)[j]? = some x → W.cell? (a.add j) = some (ys j) ∧ VR W idM nH x (ys j)) ∧ ∀ x ∈ l, ∃ y ∈ (List.range len).map Dd, Q x y := by
      intro k
      induction k with
      | zero => intro _; exact ⟨[], rfl, by simp, ⟨fun _ => default, fun j x h => by simp at h⟩, fun _ h => by cases h⟩
      | succ k ih =>
        intro hk
        obtain ⟨l, h1, h2, ⟨ys, h3⟩, h4⟩ := ih (by omega)
        obtain ⟨cs', h5, h6⟩ := hx k (by omega)
        obtain ⟨v, h7, h8⟩ := he _ _ _ _ _ h6
        obtain ⟨_, hlen, hcell⟩ := World.cells?_some h5
        have hvl : (e v).length = m := by rw [h7.1, hlen]
        refine ⟨l ++ [v], by simp [h1], ?_, ⟨fun j => if j < k * m then ys j else cs'.getD (j - k * m) default, fun j x hj => ?_⟩, fun x hx => ?_⟩
        · rw [List.flatMap_append, List.flatMap_singleton, List.length_append, h2, hvl, Nat.add_mul]; omega
        · rw [List.flatMap_append, List.flatMap_singleton] at hj
          by_cases hjk : j < k * m
          · rw [List.getElem?_append_left (by omega)] at hj
            simp only [hjk, if_true]
            exact h3 j x hj
          · rw [List.getElem?_append_right (by omega), h2] at hj
            simp only [hjk, if_false]
            have hjl : j - k * m < cs'.length := by
              rcases Nat.lt_or_ge (j - k * m) (e v).length with g | g
              · omega
              · rw [List.getElem?_eq_none g] at hj; cases hj
            have hc := hcell (j - k * m) (by omega)
            rw [Go.Deep.add_add, show k * m + (j - k * m) = j by omega] at hc
            have hg : cs'.getD (j - k * m) default = cs'[j - k * m] := by simp [List.getD, hjl]
            refine ⟨?_, h7.2 _ _ _ hj (by rw [hg]; exact List.getElem?_eq_getElem hjl)⟩
            rw [hg, hc]; exact List.getElem?_eq_getElem hjl
        · rcases List.mem_append.1 hx with hx | hx
          · exact h4 x hx
          · simp at hx; subst hx
            exact ⟨_, List.mem_map_of_mem (List.mem_range.2 (by omega)), h8⟩
    obtain ⟨l, h1, h2, ⟨ys, h3⟩, h4⟩ := key len (Nat.le_refl _)
    refine ⟨l, .one ?_, .inr ⟨_, _, rfl, by simp [h1], h4⟩⟩
    rw [h1]
    by_cases h0 : len = 0
    · subst h0
      have : l = [] := List.eq_nil_of_length_eq_zero h1
      subst this
      exact .sl0 _ _
    · have hpos : 0 < (l.flatMap e).length := by rw [h2]; exact Nat.mul_pos (by omega) hm0
      have hc0 := (h3 0 _ (List.getElem?_eq_getElem hpos)).1
      obtain ⟨e0, hlt⟩ := cell_spot0 hc0
      have e2 : a = ⟨a.block, a.off, none⟩ := by
        have := congrArg Addr.spot e0
        cases a; simp [Addr.add] at this; subst this; rfl
      rw [e2]
      refine .sl (ys := ys) hl ⟨by simpa [Addr.add] using hlt, nH_owned⟩ (fun j x hx => ?_) (fun j x hx => (h3 j x hx).2)
      have := (h3 j x hx).1
      rw [e2] at this
      have e3 : (⟨a.block, a.off, none⟩ : Addr).add j = ⟨a.block, a.off + j, none⟩ := by
        by_cases hj : j = 0 <;> simp [Addr.add, hj]
      rw [e3] at this
      exact this
end
end Go.AH
namespace Go.AH
variable [Globs]
set_option linter.unusedSectionVars false
open Go Go.Lib

/-! ### Worlds that only go on -/
theorem old_Ext {w w' : World} {μ : Nat → Nat} {H : Heap} (hr : HR w μ H) (hs : w.heap.size ≤ w'.heap.size) (hold : ∀ b, b < w.heap.size → w'.heap[b]? = w.heap[b]?) (hrest : Rest w w') : Ext w μ H w' μ H ∧ HR w' μ H := by
  have hlt : ∀ id B, H id = some B → B.live = true → μ id < w.heap.size := fun id B h1 h2 => hr.lt h1 h2
  have he : Ext w μ H w' μ H := by
    refine ⟨hs, fun b hb => ⟨hold b hb.1, hb.2⟩, fun _ _ h => h, fun id ver _ ha => ⟨ha, rfl, ?_⟩, fun _ h => ⟨h, rfl⟩, fun _ h => ⟨h, rfl⟩, hrest⟩
    obtain ⟨c, hc⟩ := ha
    simp only [bsize, hold _ (hlt _ _ hc rfl)]
  refine ⟨he, ⟨fun id ver cells hi => ?_, fun id es hi => ?_, fun id es ents clock hi hw => ?_, fun id it hi => ?_, hr.inj, hr.fin, hr.glob.ext he⟩⟩
  · obtain ⟨cs, T, h1, h2, h3⟩ := hr.rows id ver cells hi
    exact ⟨cs, T, by rw [hold _ (hlt _ _ hi rfl)]; exact h1, h2, fun j x hx => let ⟨y, g1, g2⟩ := h3 j x hx; ⟨y, g1, g2.ext he⟩⟩
  · obtain ⟨h0, en, c, h1, h2, h3⟩ := hr.maps id es hi
    exact ⟨h0, en, c, by rw [hold _ (hlt _ _ hi rfl)]; exact h1, h2, fun j x e hx hy => ⟨(h3 j x e hx hy).1.ext he, (h3 j x e hx hy).2.ext he⟩⟩
  · rw [hold _ (hlt _ _ hi rfl)] at hw
    exact hr.born id es ents clock hi hw
  · rw [hold _ (hlt _ _ hi rfl)]
    exact hr.iters id it hi
theorem PC.lib {P : Program} {g : FuncId} {args : List AV} {r : AV}
    (h : ∀ (H : Heap) μ w (vs : Array Value), HR w μ H → VRs w μ H args vs.toList → Calls P g vs w fun e w' => ∃ v, e = .returned v ∧ w.heap.size ≤ w'.heap.size ∧ (∀ b, b < w.heap.size → w'.heap[b]? = w.heap[b]?) ∧ Rest w w' ∧ VR w' μ H r v) : PC P g args r :=
  fun H μ w vs hr hv => (h H μ w vs hr hv).mono fun e w' ⟨v, he, h1, h2, h3, h4⟩ => by
    obtain ⟨e1, e2⟩ := old_Ext hr h1 h2 h3
    exact ⟨v, he, μ, H, r, e2, h4, e1, rfl, .refl _⟩
theorem vs1 {w : World} {μ : Nat → Nat} {H : Heap} {x : AV} {vs : Array Value} (h : VRs w μ H [x] vs.toList) : ∃ v, vs = #[v] ∧ VR w μ H x v := by
  obtain ⟨h1, h2⟩ := h
  match vs, h1, h2 with
  | ⟨[a]⟩, _, h2 => exact ⟨a, rfl, h2 0 _ _ rfl rfl⟩
theorem vs2 {w : World} {μ : Nat → Nat} {H : Heap} {x y : AV} {vs : Array Value} (h : VRs w μ H [x, y] vs.toList) : ∃ u v, vs = #[u, v] ∧ VR w μ H x u ∧ VR w μ H y v := by
  obtain ⟨h1, h2⟩ := h
  match vs, h1, h2 with
  | ⟨[a, b]⟩, _, h2 => exact ⟨a, b, rfl, h2 0 _ _ rfl rfl, h2 1 _ _ rfl rfl⟩
theorem vstr {w : World} {μ : Nat → Nat} {H : Heap} {s : ByteArray} {v : Value} (h : VR w μ H (.str s) v) : v = .string s := by cases h; rfl
/-- A new row of strings behind all there is. -/
theorem VR.strs {w w' : World} {μ : Nat → Nat} {H : Heap} (hr : HR w μ H) {l : List ByteArray} {T : TypeId} {fr : Nat × Nat} (h : w'.heap[w.heap.size]? = some (.cells (l.map Value.string).toArray T fr)) :
    VR w' μ H (.sl l.length (l.map fun x => .str x)) (.slice (some ⟨w.heap.size, 0, none⟩) l.length l.length) := by
  refine .sl (ys := fun j => .string (l.getD j ByteArray.empty)) (Nat.le_refl _) ⟨(Array.getElem?_eq_some_iff.1 h).1, fun ⟨id, B, h1, h2, h3⟩ => ?_⟩ (fun j x hx => ?_) fun j x hx => ?_
  · have := hr.lt h1 h2; omega
  · rw [List.getElem?_map, Option.map_eq_some_iff] at hx
    obtain ⟨z, hz, rfl⟩ := hx
    simp only [World.cell?, h, Option.isSome_none, Bool.false_eq_true, if_false]
    simp [hz, List.getD]
  · rw [List.getElem?_map, Option.map_eq_some_iff] at hx
    obtain ⟨z, hz, rfl⟩ := hx
    have : l.getD j ByteArray.empty = z := by simp [List.getD, hz]
    rw [this]; exact .str _

section
variable {P : Program} {n : Nat} {f : Nat → AV} {H : Heap} {K : (Nat → AV) → Heap → Prop} {ty : TypeId} {pos : String} {after : Array Edge} {guard : Option (Nat × Bool)} {d : Nat}

/-! ### Strings: operations -/
/-- A byte. -/
def byt (s : ByteArray) (i : Int) : Int := ((s.data.toList.getD i.toNat 0).toNat : Int)
theorem byt_rng (s : ByteArray) (i : Int) : 0 ≤ byt s i ∧ byt s i ≤ 255 := by
  unfold byt
  have := (s.data.toList.getD i.toNat 0).toNat_lt
  omega
theorem byt_at {s : ByteArray} {i : Int} (h : i.toNat < s.size) : byt s i = (s[i.toNat]'h).toNat := by
  have hh : i.toNat < s.data.size := h
  unfold byt
  rw [List.getD_eq_getElem?_getD, Array.getElem?_toList, Array.getElem?_eq_getElem hh]
  rfl
theorem AOp.indexB {t : TypeId} {x ix : Operand} {k : IntKind} {i : Int} {s : ByteArray} (hn : Nat.ble (d + 1) n = true) (hx : ev f x = .str s) (hi : ev f ix = .int k i)
    (ht : P.underlying t = some .string) (h0 : 0 ≤ i) (h1 : i < s.size) (hK : K (upd f d (.int .u8 (byt s i))) H) : AOp P n ⟨some d, .index t x ix, ty, pos, after, guard⟩ K f H :=
  .indexStr hn hx hi ht h0 (by omega) (by rw [← byt_at]; exact hK)
theorem toList_eq {p q : ByteArray} : (p.toList == q.toList) = decide (p = q) := by
  by_cases h : p = q
  · subst h; simp
  · rw [decide_eq_false h]
    refine beq_eq_false_iff_ne.2 fun e => h ?_
    have e2 : p.data.toList = q.data.toList := by
      rw [← ByteArray.toList_eq, ← ByteArray.toList_eq]; exact e
    cases p; cases q
    simp only [ByteArray.mk.injEq]
    exact Array.toList_inj.1 e2
theorem AOp.sneD {t t' : TypeId} {x y : Operand} {p q : ByteArray} (hn : Nat.ble (d + 1) n = true) (hx : ev f x = .str p) (hy : ev f y = .str q)
    (hK : K (upd f d (.bool (!decide (p = q)))) H) : AOp P n ⟨some d, .binOp .neq t x y t', ty, pos, after, guard⟩ K f H := .sne hn hx hy (by rw [toList_eq]; exact hK)
theorem AOp.sadd {t t' : TypeId} {x y : Operand} {p q : ByteArray} (hn : Nat.ble (d + 1) n = true) (hx : ev f x = .str p) (hy : ev f y = .str q) (hb : p.size + q.size ≤ 9223372036854775807)
    (hK : K (upd f d (.str (p ++ q))) H) : AOp P n ⟨some d, .binOp .add t x y t', ty, pos, after, guard⟩ K f H :=
  .pureV _ hn (fun μ a w hs => by
    have h1 := hs.ev x; rw [hx] at h1
    have h2 := hs.ev y; rw [hy] at h2
    have hm : ¬ (((p.size + q.size : Nat) : Int) > IntKind.i64.max) := by
      show ¬ (((p.size + q.size : Nat) : Int) > 9223372036854775807)
      omega
    exact ⟨.string (p ++ q), by simp only [execOp, eqGuard, vstr h1, vstr h2, binOp, Op.stringOp, if_neg hm]; simp, .str _⟩) hK
theorem run_ifnil {w : World} {t : TypeId} (h : ∃ ms, P.underlying t = some (.interface ms)) (b : Bool) (v : Value) (hv : (v = .nilIface ∧ b = false) ∨ ∃ T y, v = .iface T y ∧ b = true) : (Op.equal t v .nilIface).run P w = .ok (!b) w := by
  obtain ⟨ms, h⟩ := h
  have e : Op.equal t v .nilIface = Op.equalIn (9999 + 1) t v .nilIface := rfl
  rw [e, Op.equalIn]
  rcases hv with ⟨rfl, rfl⟩ | ⟨T, y, rfl, rfl⟩ <;> (rw [Sem.run_bind, run_under h]; rfl)
theorem AOp.ifnil {t t' : TypeId} {x : Operand} {v : AV} {b : Bool} (hn : Nat.ble (d + 1) n = true) (hx : ev f x = v) (ht : ∃ ms, P.underlying t = some (.interface ms)) (hv : (v = .nilIface ∧ b = false) ∨ ∃ T y, v = .iface T y ∧ b = true)
    (hK : K (upd f d (.bool b)) H) : AOp P n ⟨some d, .binOp .neq t x (.const .nilIface) t', ty, pos, after, guard⟩ K f H :=
  .pureV _ hn (fun μ a w hs => by
    have h1 := hs.ev x; rw [hx] at h1
    rcases hv with ⟨rfl, rfl⟩ | ⟨T, y, rfl, rfl⟩
    · generalize hz : a.eval x = z at h1
      cases h1
      have h2 := run_ifnil (P := P) (w := w) ht false .nilIface (.inl ⟨rfl, rfl⟩)
      refine ⟨.bool false, ?_, .bool _⟩
      have hc : a.eval (.const .nilIface) = .nilIface := rfl
      simp [execOp, hz, hc, binOp, h2, eqGuard_nil_constR]
    · generalize hz : a.eval x = z at h1
      cases h1
      rename_i vv _
      have h2 := run_ifnil (P := P) (w := w) ht true (.iface T vv) (.inr ⟨_, _, rfl, rfl⟩)
      have hc : a.eval (.const .nilIface) = .nilIface := rfl
      exact ⟨.bool true, by simp [execOp, hz, hc, binOp, h2, eqGuard_at_iface], .bool _⟩) hK

/-! ### Bytes to a string -/
def bytesB (l : List Int) : ByteArray := ⟨(l.map fun n => UInt8.ofNat n.toNat).toArray⟩
theorem Own.src {H0 H : Heap} {es : Nat} {v : AV} {len : Nat} {cells : List AV} (h : Own H0 H es v len cells) : Src H es v len cells := by
  rcases h with ⟨rfl, rfl, rfl⟩ | ⟨id, ver, rfl, h2, _, h4⟩
  · exact .nil
  · have := Src.slm (es := es) (off := 0) (m := len) h2 (Nat.ble_eq_true_of_le (by omega))
    rw [List.drop_zero, List.take_of_length_le (by omega)] at this
    exact this

/-! ### Ranging over a string -/
theorem newiterS {w : World} {μ : Nat → Nat} (hr : HR w μ H) {id p : Nat} {s : ByteArray} (hid : H id = none ∨ H id = some .res) :
    HR { w with heap := w.heap.push (.stringIter s p) } (updN μ id w.heap.size) (updH H id (.iter (.str s p))) := by
  have he := newblock hr hid (o := .stringIter s p) (B := .iter (.str s p))
  refine hr.change he (fun i => updH_eq _ _ _ _) (fun i hi => by simp [updN, hi]) ?_ ?_ ?_ ?_ ?_ ?_
  · intro _ i C _ hi hC
    have := hr.lt hi hC
    simp only [updN, if_true]; omega
  · intro i C _ hi hC
    have := hr.lt hi hC
    rw [Array.getElem?_push, if_neg (Nat.ne_of_lt this)]
  · intro ver c hB; cases hB
  · intro es h; cases h
  · intro es _ _ h; cases h
  · intro it h
    cases h
    exact ⟨by simp [updN, It.obj], fun m' n' seen' e => by cases e⟩
theorem AOp.rangeS {t : TypeId} {x : Operand} {s : ByteArray} (hn : Nat.ble (d + 1) n = true) (hx : ev f x = .str s) (ht : P.underlying t = some .string)
    (hK : ∀ id H', H id = none → H' id = some (.iter (.str s 0)) → (∀ i, i ≠ id → H' i = H i) → K (upd f d (.it id)) H') : AOp P n ⟨some d, .range t x, ty, pos, after, guard⟩ K f H :=
  .fresh fun id hid => .value _ _ hn (fun μ a w hs => by
    have h1 := hs.ev x
    rw [hx] at h1
    have h2 := vstr h1
    refine ⟨.pointer (some ⟨w.heap.size, 0, none⟩), { w with heap := w.heap.push (.stringIter s 0) }, updN μ id w.heap.size, ?_, newblock hs.hr (.inl hid), newiterS hs.hr (.inl hid), ?_⟩
    · have e := run_range_string w t s ht
      simp only [execOp, h2, Sem.run_bind, e, Result.andThen_ok]
      rfl
    · have := VR.iter (w := { w with heap := w.heap.push (.stringIter s 0) }) (μ := updN μ id w.heap.size) (H := updH H id (.iter (.str s 0))) (id := id) ⟨_, by rw [updH_eq, if_pos rfl]⟩
      simpa [updN] using this) (hK id _ hid (updH_same _ _ _) fun _ h => updH_ne _ _ h)
theorem setiterS {w : World} {μ : Nat → Nat} (hr : HR w μ H) {id p p' : Nat} {s : ByteArray} (hid : H id = some (.iter (.str s p))) :
    Ext w μ H (w.iterAt (μ id) s p') μ (updH H id (.iter (.str s p'))) ∧ HR (w.iterAt (μ id) s p') μ (updH H id (.iter (.str s p'))) := by
  have hoth : ∀ b, b ≠ μ id → (w.iterAt (μ id) s p').heap[b]? = w.heap[b]? := fun b h => iterAt_other w _ b s p' h
  have hlt := hr.lt hid rfl
  have he : Ext w μ H (w.iterAt (μ id) s p') μ (updH H id (.iter (.str s p'))) := by
    refine ⟨by rw [iterAt_size]; exact Nat.le_refl _, fun b h => ⟨?_, ?_⟩, fun i v hk => ?_, fun i v hk ha => ?_, fun i hm => ?_, fun i hm => ?_, ⟨rfl, rfl, rfl, fun _ => Nat.le_refl _⟩⟩
    · exact hoth b fun e => h.2 ⟨id, _, hid, rfl, e.symm⟩
    · rintro ⟨i, B, h1, h2, h3⟩
      rw [updH_eq] at h1
      by_cases g : i = id
      · subst g; exact h.2 ⟨i, _, hid, rfl, h3⟩
      · rw [if_neg g] at h1; exact h.2 ⟨i, B, h1, h2, h3⟩
    · obtain ⟨B, v', h1, h2, h3⟩ := hk
      by_cases g : i = id
      · subst g
        rw [hid] at h1; cases h1
        cases h2
        exact ⟨_, 0, by rw [updH_eq, if_pos rfl], rfl, h3⟩
      · exact ⟨B, v', by rw [updH_eq, if_neg g]; exact h1, h2, h3⟩
    · obtain ⟨c, ha⟩ := ha
      rw [updH_eq] at ha
      by_cases g : i = id
      · rw [if_pos g] at ha; cases ha
      · rw [if_neg g] at ha
        refine ⟨⟨c, ha⟩, rfl, ?_⟩
        have hne : μ i ≠ μ id := fun e => g (hr.inj i id _ _ ha hid rfl rfl e)
        simp only [bsize, hoth _ hne]
    · obtain ⟨es0, hm⟩ := hm
      have g : i ≠ id := by rintro rfl; rw [hid] at hm; cases hm
      exact ⟨⟨es0, by rw [updH_eq, if_neg g]; exact hm⟩, rfl⟩
    · obtain ⟨it, hm⟩ := hm
      by_cases g : i = id
      · exact ⟨⟨_, by rw [updH_eq, if_pos g]⟩, rfl⟩
      · exact ⟨⟨it, by rw [updH_eq, if_neg g]; exact hm⟩, rfl⟩
  refine ⟨he, hr.change he (fun i => updH_eq _ _ _ _) (fun _ _ => rfl) ?_ ?_ ?_ ?_ ?_ ?_⟩
  · intro _ i C g hi hC e
    exact g (hr.inj i id C _ hi hid hC rfl e.symm)
  · intro i C g hi hC
    exact hoth _ fun e => g (hr.inj i id C _ hi hid hC rfl e)
  · intro v c hB; cases hB
  · intro e hB; cases hB
  · intro es _ _ h; cases h
  · intro it h
    cases h
    exact ⟨iterAt_heap w _ s p p' (hr.iters id _ hid).1, fun m' n' seen2 e => by cases e⟩
theorem AOp.nextS {x : Operand} {id p : Nat} {s : ByteArray} (hn : Nat.ble (d + 1) n = true) (hx : ev f x = .it id) (hid : H id = some (.iter (.str s p)))
    (hno : s.size ≤ p → K (upd f d (.tup [.bool false])) H)
    (hyes : ∀ H', p < s.size → H' id = some (.iter (.str s (p + (Utf8.decode s p).2))) → (∀ i, i ≠ id → H' i = H i) → K (upd f d (.tup [.bool true, .int .i64 p, .int .i32 (Utf8.decode s p).1])) H') : AOp P n ⟨some d, .next x true, ty, pos, after, guard⟩ K f H :=
  .values hn (fun μ a w hs => by
    have h1 := hs.ev x
    rw [hx] at h1
    have hp : a.eval x = .pointer (some ⟨μ id, 0, none⟩) := by
      generalize a.eval x = zz at h1
      cases h1
      rfl
    have i1 := (hs.hr.iters id _ hid).1
    by_cases hlt : p < s.size
    · obtain ⟨s1, s2⟩ := setiterS (p' := p + (Utf8.decode s p).2) hs.hr hid
      refine ⟨_, _, _, _, μ, by simp only [execOp, hp, Sem.run_map, Sem.run_bind, run_next_any_at (P := P) w (μ id) s p ty i1 hlt, Result.andThen_ok]; rfl, s1, s2, .tup (cells := [.bool true, .int .i64 p, .int .i32 (Utf8.decode s p).1]) rfl ?_, hyes _ hlt (updH_same _ _ _) fun _ h => updH_ne _ _ h⟩
      intro k x y hx hy
      match k, hx, hy with
      | 0, hx, hy => cases hx; cases hy; exact .bool _
      | 1, hx, hy => cases hx; cases hy; exact .int _ _
      | 2, hx, hy => cases hx; cases hy; exact .int _ _
      | n + 3, hx, _ => simp at hx
    · refine ⟨_, H, .tuple #[.bool false], w, μ, by simp [execOp, hp, run_next_end_at (P := P) w (μ id) s p ty i1 hlt], .refl _ _ _, hs.hr, .tup (cells := [.bool false]) rfl ?_, hno (by omega)⟩
      intro k x y hx hy
      match k, hx, hy with
      | 0, hx, hy => cases hx; cases hy; exact .bool _
      | n + 1, hx, _ => simp at hx)
end
end Go.AH
namespace Go.Proofs.L
open Go Go.AH
set_option maxRecDepth 4000
set_option linter.unusedSectionVars false
/-- What the library's variables hold. -/
class LexG where
  cm : Array Value
  m : Int
  hm : cm[0]? = some (.int .i64 m)
  ce : Array Value
  e : Value
  hce : ce[0]? = some e
  he : e = .nilIface ∨ ∃ te pe, e = .iface te pe
def lexBlk [LexG] : Nat → Option (Array Value) := fun g => if g = 0 then some (Lib.asciiSpaceTab.map fun z => Value.int .u8 z).toArray else if g = 2 then some LexG.cm else if g = 3 then some LexG.ce else none
instance instG [LexG] : Globs := { val := fun _ => none, blk := lexBlk }
variable [LexG]
def eStr (x : ByteArray) : AV := .str x
theorem ui48 : ∃ ms, Tryd.prog.underlying 48 = some (.interface ms) := ⟨_, rfl⟩
structure LineT where
  No : Int
  Words : (List ByteArray)
  deriving Inhabited
def eLine (x : LineT) : List AV := [.int .i64 x.No, .sl x.Words.length (x.Words.map eStr)]
theorem eLine_len (x : LineT) : (eLine x).length = 2 := rfl
theorem eLine_one (x : LineT) : (eLine x).all AV.one = true := rfl
theorem ty_3 : TY Tryd.prog 3 false 1 := ⟨⟨_, rfl, rfl⟩, _, rfl, rfl⟩
theorem ts_3 : TSize Tryd.prog 3 1 := ty_3.size
theorem u_4 : Tryd.prog.underlying 4 = some (.bool) := rfl
theorem u_9 : Tryd.prog.underlying 9 = some (.string) := rfl
theorem ty_9 : TY Tryd.prog 9 false 1 := ⟨⟨_, rfl, rfl⟩, _, rfl, rfl⟩
theorem ts_9 : TSize Tryd.prog 9 1 := ty_9.size
theorem tz_9 : TZero Tryd.prog 9 [.str ⟨#[]⟩] := ⟨_, _, rfl, rfl, rfl⟩
theorem u_23 : Tryd.prog.underlying 23 = some (.slice 35) := rfl
theorem ni_23 : NotInt Tryd.prog 23 := ⟨_, rfl, rfl⟩
theorem sl_23 : TSlice Tryd.prog 23 2 := ⟨35, rfl, _, rfl, rfl⟩
theorem u_33 : Tryd.prog.underlying 33 = some (.slice 9) := rfl
theorem ty_33 : TY Tryd.prog 33 false 1 := ⟨⟨_, rfl, rfl⟩, _, rfl, rfl⟩
theorem ts_33 : TSize Tryd.prog 33 1 := ty_33.size
theorem sl_33 : TSlice Tryd.prog 33 1 := ⟨9, rfl, _, rfl, rfl⟩
theorem ty_35 : TY Tryd.prog 35 true 2 := ⟨⟨_, rfl, rfl⟩, _, rfl, rfl⟩
theorem ts_35 : TSize Tryd.prog 35 2 := ty_35.size
theorem tz_35 : TZero Tryd.prog 35 [.int .i64 0, .snil] := ⟨_, _, rfl, rfl, rfl⟩
theorem tzn_35 : TZn Tryd.prog 35 2 := ⟨_, _, rfl, rfl, rfl, rfl⟩
theorem tb_35 : TBytes Tryd.prog 35 32 := ⟨_, rfl, Nat.le_refl _⟩
theorem fl_35_0 : TField Tryd.prog 35 0 0 false 1 := ⟨_, _, rfl, rfl, rfl, ty_3, by decide⟩
theorem fl_35_1 : TField Tryd.prog 35 1 1 false 1 := ⟨_, _, rfl, rfl, rfl, ty_33, by decide⟩
theorem pl_35 : TPlaces Tryd.prog 35 (lookupL [(0, 1), (1, 1)]) := .inl ⟨_, rfl, fun j => match j with
    | 0 => .inr ⟨_, _, rfl, ts_3, rfl⟩
    | 1 => .inr ⟨_, _, rfl, ts_33, rfl⟩
    | j + 2 => .inl ⟨rfl, by simp⟩⟩
theorem tf_9 : TFun Tryd.prog 9 := ⟨_, rfl, rfl, rfl⟩
theorem tf_10 : TFun Tryd.prog 10 := ⟨_, rfl, rfl, rfl⟩
theorem tf_12 : TFun Tryd.prog 12 := ⟨_, rfl, rfl, rfl⟩
theorem tf_13 : TFun Tryd.prog 13 := ⟨_, rfl, rfl, rfl⟩
theorem tf_15 : TFun Tryd.prog 15 := ⟨_, rfl, rfl, rfl⟩
theorem tf_18 : TFun Tryd.prog 18 := ⟨_, rfl, rfl, rfl⟩
theorem tf_20 : TFun Tryd.prog 20 := ⟨_, rfl, rfl, rfl⟩
theorem tf_21 : TFun Tryd.prog 21 := ⟨_, rfl, rfl, rfl⟩
theorem tf_27 : TFun Tryd.prog 27 := ⟨_, rfl, rfl, rfl⟩
theorem mixed : Tryd.prog.follows .mixedOrders = true := rfl
theorem tf_19 : TFun Tryd.prog 19 := ⟨_, rfl, rfl, rfl⟩
theorem tf_22 : TFun Tryd.prog 22 := ⟨_, rfl, rfl, rfl⟩
theorem tf_23 : TFun Tryd.prog 23 := ⟨_, rfl, rfl, rfl⟩
theorem tf_24 : TFun Tryd.prog 24 := ⟨_, rfl, rfl, rfl⟩
theorem tf_25 : TFun Tryd.prog 25 := ⟨_, rfl, rfl, rfl⟩
end Go.Proofs.L
namespace Go.Proofs
open Go.Shelf
def Tryd.lays172_ren : Go.Shelf.Ren := ⟨fun | 172 => 25 | 244 => 32 | 245 => 33 | 247 => 40 | 279 => 41 | 280 => 42 | 281 => 43 | 282 => 44 | 287 => 54 | 316 => 55 | 171 => 57 | 205 => 56 | 321 => 61 | 322 => 62 | 243 => 63 | 246 => 64 | 283 => 65 | 284 => 66 | 285 => 67 | 286 => 68 | 129 => 70 | 317 => 69 | 318 => 71 | 319 => 72 | 320 => 73 | 337 => 74 | 338 => 75 | n => n, fun | 9 => 9 | 3 => 3 | 75 => 48 | 76 => 49 | 4 => 4 | 5 => 5 | 167 => 64 | 37 => 45 | 0 => 0 | 85 => 65 | 2 => 2 | 168 => 67 | 53 => 87 | 175 => 88 | 46 => 75 | 210 => 92 | 127 => 99 | 145 => 102 | 143 => 100 | 21 => 21 | 171 => 107 | 173 => 110 | 212 => 113 | 51 => 61 | 20 => 20 | 213 => 114 | 232 => 117 | 233 => 118 | 80 => 119 | n => n, fun | 15 => 3 | 16 => 4 | 17 => 7 | 18 => 8 | 19 => 9 | n => n⟩
theorem Tryd.lays172 : Go.Proofs.Lays.n172 Tryd.prog Tryd.lays172_ren := {
  mixed := by kernel_rfl
  f129 := Tryd.func70.trans (congrArg some (by kernel_rfl))
  f171 := Tryd.func57.trans (congrArg some (by kernel_rfl))
  f172 := Tryd.func25.trans (congrArg some (by kernel_rfl))
  f205 := Tryd.func56.trans (congrArg some (by kernel_rfl))
  f243 := Tryd.func63.trans (congrArg some (by kernel_rfl))
  f244 := Tryd.func32.trans (congrArg some (by kernel_rfl))
  f245 := Tryd.func33.trans (congrArg some (by kernel_rfl))
  f246 := Tryd.func64.trans (congrArg some (by kernel_rfl))
  f247 := Tryd.func40.trans (congrArg some (by kernel_rfl))
  f279 := Tryd.func41.trans (congrArg some (by kernel_rfl))
  f280 := Tryd.func42.trans (congrArg some (by kernel_rfl))
  f281 := Tryd.func43.trans (congrArg some (by kernel_rfl))
  f282 := Tryd.func44.trans (congrArg some (by kernel_rfl))
  f283 := Tryd.func65.trans (congrArg some (by kernel_rfl))
  f284 := Tryd.func66.trans (congrArg some (by kernel_rfl))
  f285 := Tryd.func67.trans (congrArg some (by kernel_rfl))
  f286 := Tryd.func68.trans (congrArg some (by kernel_rfl))
  f287 := Tryd.func54.trans (congrArg some (by kernel_rfl))
  f316 := Tryd.func55.trans (congrArg some (by kernel_rfl))
  f317 := Tryd.func69.trans (congrArg some (by kernel_rfl))
  f318 := Tryd.func71.trans (congrArg some (by kernel_rfl))
  f319 := Tryd.func72.trans (congrArg some (by kernel_rfl))
  f320 := Tryd.func73.trans (congrArg some (by kernel_rfl))
  f321 := Tryd.func61.trans (congrArg some (by kernel_rfl))
  f322 := Tryd.func62.trans (congrArg some (by kernel_rfl))
  f337 := Tryd.func74.trans (congrArg some (by kernel_rfl))
  f338 := Tryd.func75.trans (congrArg some (by kernel_rfl))
  t0 := Tryd.underlying0
  a0 := Tryd.isAgg0
  z0 := Tryd.sizeOf0
  v0 := Tryd.zeroValue0
  t2 := Tryd.underlying2
  a2 := Tryd.isAgg2
  z2 := Tryd.sizeOf2
  v2 := Tryd.zeroValue2
  t3 := Tryd.underlying3
  a3 := Tryd.isAgg3
  z3 := Tryd.sizeOf3
  v3 := Tryd.zeroValue3
  t4 := Tryd.underlying4
  a4 := Tryd.isAgg4
  z4 := Tryd.sizeOf4
  v4 := Tryd.zeroValue4
  t5 := Tryd.underlying5
  a5 := Tryd.isAgg5
  z5 := Tryd.sizeOf5
  v5 := Tryd.zeroValue5
  t9 := Tryd.underlying9
  a9 := Tryd.isAgg9
  z9 := Tryd.sizeOf9
  v9 := Tryd.zeroValue9
  t20 := Tryd.underlying20
  a20 := Tryd.isAgg20
  z20 := Tryd.sizeOf20
  v20 := Tryd.zeroValue20
  t21 := Tryd.underlying21
  a21 := Tryd.isAgg21
  z21 := Tryd.sizeOf21
  v21 := Tryd.zeroValue21
  t37 := Tryd.underlying45
  a37 := Tryd.isAgg45
  z37 := Tryd.sizeOf45
  v37 := Tryd.zeroValue45
  t46 := Tryd.underlying75
  a46 := Tryd.isAgg75
  z46 := Tryd.sizeOf75
  v46 := Tryd.zeroValue75
  t51 := Tryd.underlying61
  a51 := Tryd.isAgg61
  z51 := Tryd.sizeOf61
  v51 := Tryd.zeroValue61
  t53 := Tryd.underlying87
  a53 := Tryd.isAgg87
  z53 := Tryd.sizeOf87
  v53 := Tryd.zeroValue87
  t75 := Tryd.underlying48
  a75 := Tryd.isAgg48
  z75 := Tryd.sizeOf48
  v75 := Tryd.zeroValue48
  t76 := Tryd.underlying49
  a76 := Tryd.isAgg49
  z76 := Tryd.sizeOf49
  v76 := Tryd.zeroValue49
  t85 := Tryd.underlying65
  a85 := Tryd.isAgg65
  z85 := Tryd.sizeOf65
  v85 := Tryd.zeroValue65
  t127 := Tryd.underlying99
  a127 := Tryd.isAgg99
  z127 := Tryd.sizeOf99
  v127 := Tryd.zeroValue99
  t143 := Tryd.underlying100
  a143 := Tryd.isAgg100
  z143 := Tryd.sizeOf100
  v143 := Tryd.zeroValue100
  t145 := Tryd.underlying102
  a145 := Tryd.isAgg102
  z145 := Tryd.sizeOf102
  v145 := Tryd.zeroValue102
  t167 := Tryd.underlying64
  a167 := Tryd.isAgg64
  z167 := Tryd.sizeOf64
  v167 := Tryd.zeroValue64
  t168 := Tryd.underlying67
  a168 := Tryd.isAgg67
  z168 := Tryd.sizeOf67
  v168 := Tryd.zeroValue67
  t171 := Tryd.underlying107
  a171 := Tryd.isAgg107
  z171 := Tryd.sizeOf107
  v171 := Tryd.zeroValue107
  t173 := Tryd.underlying110
  a173 := Tryd.isAgg110
  z173 := Tryd.sizeOf110
  v173 := Tryd.zeroValue110
  t175 := Tryd.underlying88
  a175 := Tryd.isAgg88
  z175 := Tryd.sizeOf88
  v175 := Tryd.zeroValue88
  t210 := Tryd.underlying92
  a210 := Tryd.isAgg92
  z210 := Tryd.sizeOf92
  v210 := Tryd.zeroValue92
  t212 := Tryd.underlying113
  a212 := Tryd.isAgg113
  z212 := Tryd.sizeOf113
  v212 := Tryd.zeroValue113
  t213 := Tryd.underlying114
  a213 := Tryd.isAgg114
  z213 := Tryd.sizeOf114
  t232 := Tryd.underlying117
  a232 := Tryd.isAgg117
  z232 := Tryd.sizeOf117
  v232 := Tryd.zeroValue117
  t233 := Tryd.underlying118
  a233 := Tryd.isAgg118
  z233 := Tryd.sizeOf118
  v233 := Tryd.zeroValue118
  g15 := by kernel_rfl
  g16 := by kernel_rfl
  g17 := by kernel_rfl
  g18 := by kernel_rfl
  g19 := by kernel_rfl }
open Go.RowKit in
/-- strconv.Atoi: "Atoi is equivalent to ParseInt(s, 10, 0), converted to type int.": AT A DECIMAL NUMERAL OF AT MOST 18 BYTES: its value, and a nil error. The world behind the call: the one new row that the library's '[]byte(s)' lays. (LAID: no walk: one application.) -/
theorem Tryd.strconv_Atoi (s : ByteArray) (n : Int) (hl : s.size ≤ 18) (h : Lib.atoi s.data.toList = some n) (w : World) :
    Calls Tryd.prog 25 #[.string s] w fun e w' => e = .returned (.tuple #[.int .i64 n, .nilIface]) ∧ ∃ t, w' = Lib.bytesWorld w 5 t := Any.strconv_Atoi Tryd.lays172 s n hl h w
def Tryd.laysC172_ren : Go.Shelf.Ren := ⟨fun | 172 => 25 | 244 => 32 | 245 => 33 | 247 => 40 | 279 => 41 | 280 => 42 | 281 => 43 | 282 => 44 | 287 => 54 | 316 => 55 | 171 => 57 | 205 => 56 | 321 => 61 | 322 => 62 | 243 => 63 | 246 => 64 | 283 => 65 | 284 => 66 | 285 => 67 | 286 => 68 | 129 => 70 | 317 => 69 | 318 => 71 | 319 => 72 | 320 => 73 | 337 => 74 | 338 => 75 | n => n, fun | 9 => 9 | 3 => 3 | 75 => 48 | 76 => 49 | 4 => 4 | 5 => 5 | 167 => 64 | 37 => 45 | 0 => 0 | 85 => 65 | 2 => 2 | 168 => 67 | 53 => 87 | 175 => 88 | 46 => 75 | 210 => 92 | 127 => 99 | 145 => 102 | 143 => 100 | 21 => 21 | 171 => 107 | 173 => 110 | 212 => 113 | 51 => 61 | 20 => 20 | 213 => 114 | 232 => 117 | 233 => 118 | 80 => 119 | n => n, fun | 15 => 3 | 16 => 4 | 17 => 7 | 18 => 8 | 19 => 9 | n => n⟩
theorem Tryd.laysC172 : Go.Proofs.LaysC.n172 Tryd.prog Tryd.laysC172_ren := {
  mixed := by kernel_rfl
  f129 := Tryd.func70.trans (congrArg some (by kernel_rfl))
  f171 := Tryd.func57.trans (congrArg some (by kernel_rfl))
  f172 := Tryd.func25.trans (congrArg some (by kernel_rfl))
  f205 := Tryd.func56.trans (congrArg some (by kernel_rfl))
  f243 := Tryd.func63.trans (congrArg some (by kernel_rfl))
  f244 := Tryd.func32.trans (congrArg some (by kernel_rfl))
  f245 := Tryd.func33.trans (congrArg some (by kernel_rfl))
  f246 := Tryd.func64.trans (congrArg some (by kernel_rfl))
  f247 := Tryd.func40.trans (congrArg some (by kernel_rfl))
  f279 := Tryd.func41.trans (congrArg some (by kernel_rfl))
  f280 := Tryd.func42.trans (congrArg some (by kernel_rfl))
  f281 := Tryd.func43.trans (congrArg some (by kernel_rfl))
  f282 := Tryd.func44.trans (congrArg some (by kernel_rfl))
  f283 := Tryd.func65.trans (congrArg some (by kernel_rfl))
  f284 := Tryd.func66.trans (congrArg some (by kernel_rfl))
  f285 := Tryd.func67.trans (congrArg some (by kernel_rfl))
  f286 := Tryd.func68.trans (congrArg some (by kernel_rfl))
  f287 := Tryd.func54.trans (congrArg some (by kernel_rfl))
  f316 := Tryd.func55.trans (congrArg some (by kernel_rfl))
  f317 := Tryd.func69.trans (congrArg some (by kernel_rfl))
  f318 := Tryd.func71.trans (congrArg some (by kernel_rfl))
  f319 := Tryd.func72.trans (congrArg some (by kernel_rfl))
  f320 := Tryd.func73.trans (congrArg some (by kernel_rfl))
  f321 := Tryd.func61.trans (congrArg some (by kernel_rfl))
  f322 := Tryd.func62.trans (congrArg some (by kernel_rfl))
  f337 := Tryd.func74.trans (congrArg some (by kernel_rfl))
  f338 := Tryd.func75.trans (congrArg some (by kernel_rfl))
  t0 := Tryd.underlying0
  a0 := Tryd.isAgg0
  z0 := Tryd.sizeOf0
  v0 := Tryd.zeroValue0
  t2 := Tryd.underlying2
  a2 := Tryd.isAgg2
  z2 := Tryd.sizeOf2
  v2 := Tryd.zeroValue2
  t3 := Tryd.underlying3
  a3 := Tryd.isAgg3
  z3 := Tryd.sizeOf3
  v3 := Tryd.zeroValue3
  t4 := Tryd.underlying4
  a4 := Tryd.isAgg4
  z4 := Tryd.sizeOf4
  v4 := Tryd.zeroValue4
  t5 := Tryd.underlying5
  a5 := Tryd.isAgg5
  z5 := Tryd.sizeOf5
  v5 := Tryd.zeroValue5
  t9 := Tryd.underlying9
  a9 := Tryd.isAgg9
  z9 := Tryd.sizeOf9
  v9 := Tryd.zeroValue9
  t20 := Tryd.underlying20
  a20 := Tryd.isAgg20
  z20 := Tryd.sizeOf20
  v20 := Tryd.zeroValue20
  t21 := Tryd.underlying21
  a21 := Tryd.isAgg21
  z21 := Tryd.sizeOf21
  v21 := Tryd.zeroValue21
  t37 := Tryd.underlying45
  a37 := Tryd.isAgg45
  z37 := Tryd.sizeOf45
  v37 := Tryd.zeroValue45
  t46 := Tryd.underlying75
  a46 := Tryd.isAgg75
  z46 := Tryd.sizeOf75
  v46 := Tryd.zeroValue75
  t51 := Tryd.underlying61
  a51 := Tryd.isAgg61
  z51 := Tryd.sizeOf61
  v51 := Tryd.zeroValue61
  t53 := Tryd.underlying87
  a53 := Tryd.isAgg87
  z53 := Tryd.sizeOf87
  v53 := Tryd.zeroValue87
  t75 := Tryd.underlying48
  a75 := Tryd.isAgg48
  z75 := Tryd.sizeOf48
  v75 := Tryd.zeroValue48
  t76 := Tryd.underlying49
  a76 := Tryd.isAgg49
  z76 := Tryd.sizeOf49
  v76 := Tryd.zeroValue49
  t85 := Tryd.underlying65
  a85 := Tryd.isAgg65
  z85 := Tryd.sizeOf65
  v85 := Tryd.zeroValue65
  t127 := Tryd.underlying99
  a127 := Tryd.isAgg99
  z127 := Tryd.sizeOf99
  v127 := Tryd.zeroValue99
  t143 := Tryd.underlying100
  a143 := Tryd.isAgg100
  z143 := Tryd.sizeOf100
  v143 := Tryd.zeroValue100
  t145 := Tryd.underlying102
  a145 := Tryd.isAgg102
  z145 := Tryd.sizeOf102
  v145 := Tryd.zeroValue102
  t167 := Tryd.underlying64
  a167 := Tryd.isAgg64
  z167 := Tryd.sizeOf64
  v167 := Tryd.zeroValue64
  t168 := Tryd.underlying67
  a168 := Tryd.isAgg67
  z168 := Tryd.sizeOf67
  v168 := Tryd.zeroValue67
  t171 := Tryd.underlying107
  a171 := Tryd.isAgg107
  z171 := Tryd.sizeOf107
  v171 := Tryd.zeroValue107
  t173 := Tryd.underlying110
  a173 := Tryd.isAgg110
  z173 := Tryd.sizeOf110
  v173 := Tryd.zeroValue110
  t175 := Tryd.underlying88
  a175 := Tryd.isAgg88
  z175 := Tryd.sizeOf88
  v175 := Tryd.zeroValue88
  t210 := Tryd.underlying92
  a210 := Tryd.isAgg92
  z210 := Tryd.sizeOf92
  v210 := Tryd.zeroValue92
  t212 := Tryd.underlying113
  a212 := Tryd.isAgg113
  z212 := Tryd.sizeOf113
  v212 := Tryd.zeroValue113
  t213 := Tryd.underlying114
  a213 := Tryd.isAgg114
  z213 := Tryd.sizeOf114
  t232 := Tryd.underlying117
  a232 := Tryd.isAgg117
  z232 := Tryd.sizeOf117
  v232 := Tryd.zeroValue117
  t233 := Tryd.underlying118
  a233 := Tryd.isAgg118
  z233 := Tryd.sizeOf118
  v233 := Tryd.zeroValue118
  g15 := by kernel_rfl
  g16 := by kernel_rfl
  g17 := by kernel_rfl
  g18 := by kernel_rfl
  g19 := by kernel_rfl
  t80 := Tryd.underlying119
  a80 := Tryd.isAgg119
  z80 := Tryd.sizeOf119
  v80 := Tryd.zeroValue119
  i0 := by kernel_rfl
  i2 := by kernel_rfl
  i3 := by kernel_rfl
  i4 := by kernel_rfl
  i5 := by kernel_rfl
  i9 := by kernel_rfl
  i20 := by kernel_rfl
  i21 := by kernel_rfl
  i37 := by kernel_rfl
  i46 := by kernel_rfl
  i51 := by kernel_rfl
  i53 := by kernel_rfl
  i75 := by kernel_rfl
  i76 := by kernel_rfl
  i80 := by kernel_rfl
  i85 := by kernel_rfl
  i127 := by kernel_rfl
  i143 := by kernel_rfl
  i145 := by kernel_rfl
  i167 := by kernel_rfl
  i168 := by kernel_rfl
  i171 := by kernel_rfl
  i173 := by kernel_rfl
  i175 := by kernel_rfl
  i210 := by kernel_rfl
  i212 := by kernel_rfl
  i232 := by kernel_rfl
  i233 := by kernel_rfl
  m15 := by kernel_rfl
  m16 := by kernel_rfl
  m17 := by kernel_rfl
  m18 := by kernel_rfl
  m19 := by kernel_rfl
  c0 := by kernel_rfl
  c2 := by kernel_rfl
  c3 := by kernel_rfl
  c4 := by kernel_rfl
  c5 := by kernel_rfl
  c9 := by kernel_rfl
  c20 := by kernel_rfl
  c21 := by kernel_rfl
  c37 := by kernel_rfl
  c46 := by kernel_rfl
  c51 := by kernel_rfl
  c53 := by kernel_rfl
  c75 := by kernel_rfl
  c76 := by kernel_rfl
  c80 := by kernel_rfl
  c85 := by kernel_rfl
  c127 := by kernel_rfl
  c143 := by kernel_rfl
  c145 := by kernel_rfl
  c167 := by kernel_rfl
  c168 := by kernel_rfl
  c171 := by kernel_rfl
  c173 := by kernel_rfl
  c175 := by kernel_rfl
  c210 := by kernel_rfl
  c212 := by kernel_rfl
  c213 := by kernel_rfl
  c232 := by kernel_rfl
  c233 := by kernel_rfl }
open Go.RowKit in
/-- strconv.Atoi, AT EVERY STRING OF AT MOST 18 BYTES THAT IS NO DECIMAL NUMERAL (the empty one too): 0, AND AN ERROR THAT IS NOT nil: a *NumError in a new block N: {Func: "Atoi", Num: s's bytes, Err: what the variable ErrSyntax holds}. Of what was there nothing has turned. (LAID: no walk: one application.) -/
theorem Tryd.strconv_Atoi_err (s : ByteArray) (hl : s.size ≤ 18) (h : Lib.atoi s.data.toList = none) (ev : Value) (w : World) (hv : w.cell? ⟨3, 0, none⟩ = some ev) (hev : ev = .nilIface ∨ ∃ te pe, ev = .iface te pe) :
    Calls Tryd.prog 25 #[.string s] w fun e w' => ∃ N, e = .returned (.tuple #[.int .i64 0, .iface 67 (.pointer (some ⟨N, 0, none⟩))]) ∧ w.heap.size ≤ N ∧ w'.heap[N]? = some (.cells #[.string ⟨#[65, 116, 111, 105]⟩, .string s, ev] 92 (0, 0)) ∧ Below w.heap.size w w' := Any.strconv_Atoi_err Tryd.laysC172 s hl h ev w hv hev
def Tryd.lays145_ren : Go.Shelf.Ren := ⟨fun | 145 => 22 | 220 => 28 | 219 => 37 | 217 => 48 | 225 => 49 | 224 => 50 | 267 => 51 | 266 => 59 | 314 => 60 | n => n, fun | 9 => 9 | 4 => 4 | 59 => 42 | 3 => 3 | 5 => 5 | 46 => 75 | 146 => 94 | 51 => 61 | n => n, fun | 1 => 2 | n => n⟩
theorem Tryd.lays145 : Go.Proofs.Lays.n145 Tryd.prog Tryd.lays145_ren := {
  mixed := by kernel_rfl
  f145 := Tryd.func22.trans (congrArg some (by kernel_rfl))
  f217 := Tryd.func48.trans (congrArg some (by kernel_rfl))
  f219 := Tryd.func37.trans (congrArg some (by kernel_rfl))
  f220 := Tryd.func28.trans (congrArg some (by kernel_rfl))
  f224 := Tryd.func50.trans (congrArg some (by kernel_rfl))
  f225 := Tryd.func49.trans (congrArg some (by kernel_rfl))
  f266 := Tryd.func59.trans (congrArg some (by kernel_rfl))
  f267 := Tryd.func51.trans (congrArg some (by kernel_rfl))
  f314 := Tryd.func60.trans (congrArg some (by kernel_rfl))
  t3 := Tryd.underlying3
  a3 := Tryd.isAgg3
  z3 := Tryd.sizeOf3
  v3 := Tryd.zeroValue3
  t4 := Tryd.underlying4
  a4 := Tryd.isAgg4
  z4 := Tryd.sizeOf4
  v4 := Tryd.zeroValue4
  t5 := Tryd.underlying5
  a5 := Tryd.isAgg5
  z5 := Tryd.sizeOf5
  v5 := Tryd.zeroValue5
  t9 := Tryd.underlying9
  a9 := Tryd.isAgg9
  z9 := Tryd.sizeOf9
  v9 := Tryd.zeroValue9
  t46 := Tryd.underlying75
  a46 := Tryd.isAgg75
  z46 := Tryd.sizeOf75
  v46 := Tryd.zeroValue75
  t51 := Tryd.underlying61
  a51 := Tryd.isAgg61
  z51 := Tryd.sizeOf61
  v51 := Tryd.zeroValue61
  t59 := Tryd.underlying42
  a59 := Tryd.isAgg42
  z59 := Tryd.sizeOf42
  v59 := Tryd.zeroValue42
  t146 := Tryd.underlying94
  a146 := Tryd.isAgg94
  z146 := Tryd.sizeOf94
  v146 := Tryd.zeroValue94
  g1 := by kernel_rfl }
open Go.RowKit Go.Lib in
/-- strings.Cut: "Cut slices s around the first instance of sep, returning the text before and after sep. The found result reports whether sep appears in s. If sep does not appear in s, cut returns s, "", false.": IT RETURNS 'Lib.cut s sep'; the world is as it was but for the count of draws. (LAID: no walk: one application.) -/
theorem Tryd.strings_Cut (s sep : ByteArray) (m : Int) (w : World) (hs : s.size < 4294967281) (hm : w.cell? ⟨2, 0, none⟩ = some (.int .i64 m)) :
    Calls Tryd.prog 22 #[.string s, .string sep] w fun e w' => e = .returned (.tuple #[.string ⟨(Lib.cut s.data.toList sep.data.toList).1.toArray⟩, .string ⟨(Lib.cut s.data.toList sep.data.toList).2.1.toArray⟩, .bool (Lib.cut s.data.toList sep.data.toList).2.2]) ∧ ∃ n, w' = w.drewN n := Any.strings_Cut Tryd.lays145 s sep m w hs hm
def Tryd.lays101_ren : Go.Shelf.Ren := ⟨fun | 101 => 24 | 208 => 31 | 206 => 39 | n => n, fun | 9 => 9 | 4 => 4 | 3 => 3 | n => n, fun | n => n⟩
theorem Tryd.lays101 : Go.Proofs.Lays.n101 Tryd.prog Tryd.lays101_ren := {
  mixed := by kernel_rfl
  f101 := Tryd.func24.trans (congrArg some (by kernel_rfl))
  f206 := Tryd.func39.trans (congrArg some (by kernel_rfl))
  f208 := Tryd.func31.trans (congrArg some (by kernel_rfl))
  t3 := Tryd.underlying3
  a3 := Tryd.isAgg3
  z3 := Tryd.sizeOf3
  v3 := Tryd.zeroValue3
  t4 := Tryd.underlying4
  a4 := Tryd.isAgg4
  z4 := Tryd.sizeOf4
  v4 := Tryd.zeroValue4
  t9 := Tryd.underlying9
  a9 := Tryd.isAgg9
  z9 := Tryd.sizeOf9
  v9 := Tryd.zeroValue9 }
open Go.RowKit Go.Lib in
/-- strings.TrimPrefix: "TrimPrefix returns s without the provided leading prefix string. If s doesn't start with prefix, s is returned unchanged.": IT RETURNS 'Lib.trimPrefix s prefix'; the world is as it was. (LAID: no walk: one application.) -/
theorem Tryd.strings_TrimPrefix (s p : ByteArray) (w : World) :
    Calls Tryd.prog 24 #[.string s, .string p] w fun e w' => e = .returned (.string ⟨(Lib.trimPrefix s.data.toList p.data.toList).toArray⟩) ∧ w' = w := Any.strings_TrimPrefix Tryd.lays101 s p w
def Tryd.lays146_ren : Go.Shelf.Ren := ⟨fun | 146 => 19 | 221 => 26 | 268 => 34 | 138 => 35 | 143 => 36 | 195 => 45 | 197 => 46 | 218 => 47 | 219 => 37 | 260 => 58 | 217 => 48 | 225 => 49 | 224 => 50 | 267 => 51 | 266 => 59 | 314 => 60 | n => n, fun | 9 => 9 | 31 => 33 | 3 => 3 | 4 => 4 | 0 => 0 | 105 => 71 | 21 => 21 | 5 => 5 | 46 => 75 | 119 => 53 | 139 => 105 | 138 => 104 | 146 => 94 | 51 => 61 | n => n, fun | 1 => 2 | 3 => 5 | 4 => 6 | n => n⟩
theorem Tryd.lays146 : Go.Proofs.Lays.n146 Tryd.prog Tryd.lays146_ren := {
  mixed := by kernel_rfl
  f138 := Tryd.func35.trans (congrArg some (by kernel_rfl))
  f143 := Tryd.func36.trans (congrArg some (by kernel_rfl))
  f146 := Tryd.func19.trans (congrArg some (by kernel_rfl))
  f195 := Tryd.func45.trans (congrArg some (by kernel_rfl))
  f197 := Tryd.func46.trans (congrArg some (by kernel_rfl))
  f217 := Tryd.func48.trans (congrArg some (by kernel_rfl))
  f218 := Tryd.func47.trans (congrArg some (by kernel_rfl))
  f219 := Tryd.func37.trans (congrArg some (by kernel_rfl))
  f221 := Tryd.func26.trans (congrArg some (by kernel_rfl))
  f224 := Tryd.func50.trans (congrArg some (by kernel_rfl))
  f225 := Tryd.func49.trans (congrArg some (by kernel_rfl))
  f260 := Tryd.func58.trans (congrArg some (by kernel_rfl))
  f266 := Tryd.func59.trans (congrArg some (by kernel_rfl))
  f267 := Tryd.func51.trans (congrArg some (by kernel_rfl))
  f268 := Tryd.func34.trans (congrArg some (by kernel_rfl))
  f314 := Tryd.func60.trans (congrArg some (by kernel_rfl))
  t0 := Tryd.underlying0
  a0 := Tryd.isAgg0
  z0 := Tryd.sizeOf0
  v0 := Tryd.zeroValue0
  t3 := Tryd.underlying3
  a3 := Tryd.isAgg3
  z3 := Tryd.sizeOf3
  v3 := Tryd.zeroValue3
  t4 := Tryd.underlying4
  a4 := Tryd.isAgg4
  z4 := Tryd.sizeOf4
  v4 := Tryd.zeroValue4
  t5 := Tryd.underlying5
  a5 := Tryd.isAgg5
  z5 := Tryd.sizeOf5
  v5 := Tryd.zeroValue5
  t9 := Tryd.underlying9
  a9 := Tryd.isAgg9
  z9 := Tryd.sizeOf9
  v9 := Tryd.zeroValue9
  t21 := Tryd.underlying21
  a21 := Tryd.isAgg21
  z21 := Tryd.sizeOf21
  v21 := Tryd.zeroValue21
  t31 := Tryd.underlying33
  a31 := Tryd.isAgg33
  z31 := Tryd.sizeOf33
  v31 := Tryd.zeroValue33
  t46 := Tryd.underlying75
  a46 := Tryd.isAgg75
  z46 := Tryd.sizeOf75
  v46 := Tryd.zeroValue75
  t51 := Tryd.underlying61
  a51 := Tryd.isAgg61
  z51 := Tryd.sizeOf61
  v51 := Tryd.zeroValue61
  t105 := Tryd.underlying71
  a105 := Tryd.isAgg71
  z105 := Tryd.sizeOf71
  v105 := Tryd.zeroValue71
  t119 := Tryd.underlying53
  a119 := Tryd.isAgg53
  z119 := Tryd.sizeOf53
  t138 := Tryd.underlying104
  a138 := Tryd.isAgg104
  z138 := Tryd.sizeOf104
  v138 := Tryd.zeroValue104
  t139 := Tryd.underlying105
  a139 := Tryd.isAgg105
  z139 := Tryd.sizeOf105
  v139 := Tryd.zeroValue105
  t146 := Tryd.underlying94
  a146 := Tryd.isAgg94
  z146 := Tryd.sizeOf94
  v146 := Tryd.zeroValue94
  g1 := by kernel_rfl
  g3 := by kernel_rfl
  g4 := by kernel_rfl }
open Go.RowKit Go.Lib in
/-- strings.Split. (LAID: no walk: one application.) -/
theorem Tryd.strings_Split (s sep : ByteArray) (m : Int) (w : World) (hs : s.size < 4294967281) (hm : w.cell? ⟨2, 0, none⟩ = some (.int .i64 m)) (h1 : 1 ≤ sep.size) :
    Calls Tryd.prog 19 #[.string s, .string sep] w fun e w' =>
      e = .returned (.slice (some ⟨w.heap.size, 0, none⟩) (Lib.countB s sep + 1) (Lib.countB s sep + 1)) ∧ w' = w.alloc (.cells ((Lib.splitB sep 0 (Lib.countB s sep) s).map Value.string).toArray 9) := Any.strings_Split Tryd.lays146 (by kernel_rfl) s sep m w hs hm h1
def Tryd.lays157_ren : Go.Shelf.Ren := ⟨fun | 157 => 23 | 229 => 29 | 199 => 30 | 261 => 38 | 311 => 52 | 312 => 53 | n => n, fun | 9 => 9 | 31 => 33 | 3 => 3 | 5 => 5 | 4 => 4 | 119 => 53 | 0 => 0 | 40 => 41 | 152 => 58 | 21 => 21 | 154 => 60 | 51 => 61 | 141 => 63 | 196 => 79 | 193 => 76 | 198 => 82 | 49 => 80 | 194 => 77 | 201 => 85 | 226 => 96 | 46 => 75 | 227 => 97 | n => n, fun | 0 => 0 | 6 => 1 | n => n⟩
theorem Tryd.lays157 : Go.Proofs.Lays.n157 Tryd.prog Tryd.lays157_ren := {
  mixed := by kernel_rfl
  f157 := Tryd.func23.trans (congrArg some (by kernel_rfl))
  f199 := Tryd.func30.trans (congrArg some (by kernel_rfl))
  f229 := Tryd.func29.trans (congrArg some (by kernel_rfl))
  f261 := Tryd.func38.trans (congrArg some (by kernel_rfl))
  f311 := Tryd.func52.trans (congrArg some (by kernel_rfl))
  f312 := Tryd.func53.trans (congrArg some (by kernel_rfl))
  t0 := Tryd.underlying0
  a0 := Tryd.isAgg0
  z0 := Tryd.sizeOf0
  v0 := Tryd.zeroValue0
  t3 := Tryd.underlying3
  a3 := Tryd.isAgg3
  z3 := Tryd.sizeOf3
  v3 := Tryd.zeroValue3
  t4 := Tryd.underlying4
  a4 := Tryd.isAgg4
  z4 := Tryd.sizeOf4
  v4 := Tryd.zeroValue4
  t5 := Tryd.underlying5
  a5 := Tryd.isAgg5
  z5 := Tryd.sizeOf5
  v5 := Tryd.zeroValue5
  t9 := Tryd.underlying9
  a9 := Tryd.isAgg9
  z9 := Tryd.sizeOf9
  v9 := Tryd.zeroValue9
  t21 := Tryd.underlying21
  a21 := Tryd.isAgg21
  z21 := Tryd.sizeOf21
  v21 := Tryd.zeroValue21
  t31 := Tryd.underlying33
  a31 := Tryd.isAgg33
  z31 := Tryd.sizeOf33
  v31 := Tryd.zeroValue33
  t40 := Tryd.underlying41
  a40 := Tryd.isAgg41
  z40 := Tryd.sizeOf41
  v40 := Tryd.zeroValue41
  t46 := Tryd.underlying75
  a46 := Tryd.isAgg75
  z46 := Tryd.sizeOf75
  v46 := Tryd.zeroValue75
  t49 := Tryd.underlying80
  a49 := Tryd.isAgg80
  z49 := Tryd.sizeOf80
  v49 := Tryd.zeroValue80
  t51 := Tryd.underlying61
  a51 := Tryd.isAgg61
  z51 := Tryd.sizeOf61
  v51 := Tryd.zeroValue61
  t119 := Tryd.underlying53
  a119 := Tryd.isAgg53
  z119 := Tryd.sizeOf53
  t141 := Tryd.underlying63
  a141 := Tryd.isAgg63
  z141 := Tryd.sizeOf63
  v141 := Tryd.zeroValue63
  t152 := Tryd.underlying58
  a152 := Tryd.isAgg58
  z152 := Tryd.sizeOf58
  v152 := Tryd.zeroValue58
  t154 := Tryd.underlying60
  a154 := Tryd.isAgg60
  z154 := Tryd.sizeOf60
  v154 := Tryd.zeroValue60
  t193 := Tryd.underlying76
  a193 := Tryd.isAgg76
  z193 := Tryd.sizeOf76
  v193 := Tryd.zeroValue76
  t194 := Tryd.underlying77
  a194 := Tryd.isAgg77
  z194 := Tryd.sizeOf77
  v194 := Tryd.zeroValue77
  t196 := Tryd.underlying79
  a196 := Tryd.isAgg79
  z196 := Tryd.sizeOf79
  v196 := Tryd.zeroValue79
  t198 := Tryd.underlying82
  a198 := Tryd.isAgg82
  z198 := Tryd.sizeOf82
  v198 := Tryd.zeroValue82
  t201 := Tryd.underlying85
  a201 := Tryd.isAgg85
  z201 := Tryd.sizeOf85
  v201 := Tryd.zeroValue85
  t226 := Tryd.underlying96
  a226 := Tryd.isAgg96
  z226 := Tryd.sizeOf96
  v226 := Tryd.zeroValue96
  t227 := Tryd.underlying97
  a227 := Tryd.isAgg97
  z227 := Tryd.sizeOf97
  v227 := Tryd.zeroValue97
  g0 := by kernel_rfl
  g6 := by kernel_rfl }
open Go.RowKit Go.Lib in
/-- strings.Fields, the table by 'Lib.TabIs' (as strings.TrimSpace's contract). 'hg': the table's number, by its name: at a dump 'by kernel_rfl'. (LAID: no walk: one application.) -/
theorem Tryd.strings_Fields (s : ByteArray) (w : World) (hs : s.size < 4294967281) (hascii : ∀ (j : Nat) b, s.data.toList[j]? = some b → b.toNat < 128) (htab : Lib.TabIs Tryd.prog w "strings.asciiSpace" .u8 Lib.asciiSpaceTab) :
    Calls Tryd.prog 23 #[.string s] w fun e w' =>
      e = .returned (.slice (some ⟨w.heap.size, 0, none⟩) (Lib.fields s.data.toList).length (Lib.fields s.data.toList).length) ∧ w' = w.alloc (.cells ((Lib.fields s.data.toList).map fun l => Value.string ⟨l.toArray⟩).toArray 9) := Any.strings_Fields Tryd.lays157 (by kernel_rfl) (by kernel_rfl) s w hs hascii htab
end Go.Proofs
namespace Go.Proofs.L
open Go Go.AH Go.Lib
set_option maxRecDepth 4000
set_option linter.unusedSectionVars false
variable [LexG]
/-! ### What the library's functions compute -/
def nlB : ByteArray := ⟨#[10]⟩
def hashB : ByteArray := ⟨#[35]⟩
def pieces (s : ByteArray) : List ByteArray := splitB nlB 0 (countB s nlB) s
def cut1 (s : ByteArray) : ByteArray := ⟨(cut s.data.toList [35]).1.toArray⟩
def cut2 (s : ByteArray) : ByteArray := ⟨(cut s.data.toList [35]).2.1.toArray⟩
def cut3 (s : ByteArray) : Bool := (cut s.data.toList [35]).2.2
def wordsB (s : ByteArray) : List ByteArray := (fields s.data.toList).map fun l => ⟨l.toArray⟩
def trimM (s : ByteArray) : ByteArray := ⟨(trimPrefix s.data.toList [45]).toArray⟩
def atoiV (s : ByteArray) : Int := (atoi s.data.toList).getD 0
def atoiE (s : ByteArray) : AV := if atoi s.data.toList = none then .iface 67 .undef else .nilIface
theorem atoiE_or (s : ByteArray) : (atoiE s = .nilIface ∧ decide (atoi s.data.toList = none) = false) ∨ ∃ T y, atoiE s = .iface T y ∧ decide (atoi s.data.toList = none) = true := by
  unfold atoiE
  by_cases h : atoi s.data.toList = none
  · exact .inr ⟨_, _, by rw [if_pos h], decide_eq_true h⟩
  · exact .inl ⟨by rw [if_neg h], decide_eq_false h⟩
theorem pieces_length (s : ByteArray) : (pieces s).length = countB s nlB + 1 := splitB_all nlB (by decide) 0 _ s rfl

/-! ### Their contracts -/
theorem blk_cell {w : World} {μ : Nat → Nat} {H : Heap} (hr : HR w μ H) {g : Nat} {cs : Array Value} (h : lexBlk g = some cs) (j : Nat) : w.cell? ⟨g, j, none⟩ = cs[j]? := by
  obtain ⟨_, T, fr, e⟩ := hr.glob.blk g cs h
  simp only [World.cell?, e, Option.isSome_none, Bool.false_eq_true, if_false]
theorem alloc_at (w : World) (o : Obj) : (w.alloc o).heap[w.heap.size]? = some o := by
  show (w.heap.push o)[w.heap.size]? = _
  simp
theorem alloc_old (w : World) (o : Obj) (b : Nat) (hb : b < w.heap.size) : (w.alloc o).heap[b]? = w.heap[b]? := by
  show (w.heap.push o)[b]? = _
  rw [Array.getElem?_push, if_neg (by omega)]
theorem alloc_size (w : World) (o : Obj) : w.heap.size ≤ (w.alloc o).heap.size := by
  show _ ≤ (w.heap.push o).size
  simp
theorem lib_alloc {w : World} {μ : Nat → Nat} {H : Heap} (hr : HR w μ H) (l : List ByteArray) {r : AV} (h : r = .sl l.length (l.map eStr)) {v : Value} (hv : v = .slice (some ⟨w.heap.size, 0, none⟩) l.length l.length) {w' : World} (hw : w' = w.alloc (.cells (l.map Value.string).toArray 9)) :
    w.heap.size ≤ w'.heap.size ∧ (∀ b, b < w.heap.size → w'.heap[b]? = w.heap[b]?) ∧ AH.Rest w w' ∧ VR w' μ H r v := by
  subst h hv hw
  exact ⟨alloc_size _ _, alloc_old _ _, ⟨rfl, rfl, rfl, False.elim⟩, VR.strs hr (alloc_at _ _)⟩
theorem c_Split (s : ByteArray) (h : s.size < 4294967281) : PC Tryd.prog 19 [.str s, .str ⟨#[10]⟩] (.sl (pieces s).length ((pieces s).map eStr)) :=
  .lib fun H μ w vs hr hv => by
    obtain ⟨u, v, rfl, h1, h2⟩ := vs2 hv
    cases vstr h1; cases vstr h2
    refine (Tryd.strings_Split s nlB LexG.m w h ((blk_cell hr (g := 2) rfl 0).trans LexG.hm) (by decide)).mono ?_
    rintro e w' ⟨rfl, hw⟩
    exact ⟨_, rfl, lib_alloc hr (pieces s) rfl (by rw [pieces_length]) hw⟩
theorem c_Cut (s : ByteArray) (h : s.size < 4294967281) : PC Tryd.prog 22 [.str s, .str ⟨#[35]⟩] (.tup [.str (cut1 s), .str (cut2 s), .bool (cut3 s)]) :=
  .lib fun H μ w vs hr hv => by
    obtain ⟨u, v, rfl, h1, h2⟩ := vs2 hv
    cases vstr h1; cases vstr h2
    refine (Tryd.strings_Cut s hashB LexG.m w h ((blk_cell hr (g := 2) rfl 0).trans LexG.hm)).mono ?_
    rintro e w' ⟨rfl, n, rfl⟩
    refine ⟨_, rfl, Nat.le_refl _, fun _ _ => rfl, ⟨rfl, rfl, rfl, False.elim⟩, .tup rfl fun j x y hx hy => ?_⟩
    match j, hx, hy with
    | 0, hx, hy => cases hx; cases hy; exact .str _
    | 1, hx, hy => cases hx; cases hy; exact .str _
    | 2, hx, hy => cases hx; cases hy; exact .bool _
    | n + 3, hx, _ => simp at hx
theorem c_Fields (s : ByteArray) (h : s.size < 4294967281) (ha : ∀ (j : Nat) b, s.data.toList[j]? = some b → b.toNat < 128) : PC Tryd.prog 23 [.str s] (.sl (wordsB s).length ((wordsB s).map eStr)) :=
  .lib fun H μ w vs hr hv => by
    obtain ⟨u, rfl, h1⟩ := vs1 hv
    cases vstr h1
    refine (Tryd.strings_Fields s w h ha ?_).mono ?_
    · obtain ⟨_, T, fr, e⟩ := hr.glob.blk 0 _ rfl
      unfold TabIs World.var?
      rw [show Tryd.prog.globalNamed "strings.asciiSpace" = some 0 by kernel_rfl]
      simp only [Option.bind_some, e]
    · rintro e w' ⟨rfl, hw⟩
      refine ⟨_, rfl, lib_alloc hr (wordsB s) rfl (by simp [wordsB]) (by rw [hw]; simp [wordsB, Function.comp_def])⟩
theorem c_Trim (s : ByteArray) : PC Tryd.prog 24 [.str s, .str ⟨#[45]⟩] (.str (trimM s)) :=
  .lib fun H μ w vs hr hv => by
    obtain ⟨u, v, rfl, h1, h2⟩ := vs2 hv
    cases vstr h1; cases vstr h2
    refine (Tryd.strings_TrimPrefix s ⟨#[45]⟩ w).mono ?_
    rintro e w' ⟨rfl, rfl⟩
    exact ⟨_, rfl, Nat.le_refl _, fun _ _ => rfl, .refl _, .str _⟩
theorem c_Atoi (s : ByteArray) (h : s.size ≤ 18) : PC Tryd.prog 25 [.str s] (.tup [.int .i64 (atoiV s), atoiE s]) :=
  .lib fun H μ w vs hr hv => by
    obtain ⟨u, rfl, h1⟩ := vs1 hv
    cases vstr h1
    cases hq : atoi s.data.toList with
    | some n =>
      refine (Tryd.strconv_Atoi s n h hq w).mono ?_
      rintro e w' ⟨rfl, t, rfl⟩
      refine ⟨_, rfl, by rw [bytesWorld_size]; omega, fun b hb => bytesWorld_at_old w 5 t b hb, ⟨rfl, rfl, rfl, False.elim⟩, .tup rfl fun j x y hx hy => ?_⟩
      match j, hx, hy with
      | 0, hx, hy => cases hx; cases hy; simp only [atoiV, hq]; exact .int _ _
      | 1, hx, hy => cases hx; cases hy; simp only [atoiE, hq]; exact .nilIface
      | n + 2, hx, _ => simp at hx
    | none =>
      refine (Tryd.strconv_Atoi_err s h hq LexG.e w ((blk_cell hr (g := 3) rfl 0).trans LexG.hce) LexG.he).mono ?_
      rintro e w' ⟨N, rfl, _, _, hB⟩
      refine ⟨_, rfl, hB.size, fun b hb => hB.block b hb, ⟨hB.tape, hB.os, hB.output, False.elim⟩, .tup rfl fun j x y hx hy => ?_⟩
      match j, hx, hy with
      | 0, hx, hy => cases hx; cases hy; simp only [atoiV, hq]; exact .int _ _
      | 1, hx, hy => cases hx; cases hy; simp only [atoiE, hq]; exact .iface (.undef _)
      | n + 2, hx, _ => simp at hx
end Go.Proofs.L
namespace Go.Proofs.L
open Go Go.AH Go.ChangeShapes Go.WideShapes Go.ChangeAt Go.RowKit Go.Deep Go.Proofs.YtcpepibkopbhgaaDoor
set_option maxRecDepth 8000
set_option linter.unusedSimpArgs false
set_option linter.unusedVariables false
/-! ### What is listed -/
theorem gSp : Tryd.prog.globalNamed "strings.asciiSpace" = some 0 := by kernel_rfl
theorem gSpT : (Tryd.prog.globals[0]?).map (·.type) = some 53 := by kernel_rfl
theorem gES : Tryd.prog.globalNamed "strconv.ErrSyntax" = some 3 := by kernel_rfl
theorem gEST : (Tryd.prog.globals[3]?).map (·.type) = some 48 := by kernel_rfl
theorem star : "*" ++ "errors.errorString" = "*errors.errorString" := by decide
theorem row100 (u : TypeId) (h : Tryd.prog.typeName? 3 u = some "*errors.errorString") : u = 100 :=
  typeName_ptr_named (nm := "errors.errorString") (by rw [star]; kernel_rfl) (by kernel_rfl) (by decide) u (by rw [star]; exact h)
theorem var_heap {P : Program} {w : World} {name : String} {g : Nat} {cs : Array Value} (h : w.var? P name = some cs) (hg : P.globalNamed name = some g) : ∃ T fr, w.heap[g]? = some (.cells cs T fr) := by
  unfold World.var? at h
  rw [hg] at h
  simp only [Option.bind_some] at h
  split at h
  · rename_i cs' T fr e
    cases h
    exact ⟨T, fr, e⟩
  · cases h
theorem cell_heap {w : World} {g : Nat} {v : Value} (h : w.cell? ⟨g, 0, none⟩ = some v) : ∃ cs T fr, w.heap[g]? = some (.cells cs T fr) ∧ cs[0]? = some v := by
  unfold World.cell? at h
  split at h
  · rename_i cs T fr e
    simp at h
    exact ⟨cs, T, fr, e, h⟩
  · cases h
theorem frz0 [LexG] {W : World} {g : Nat} {o : Obj} (h : W.heap[g]? = some o) : Frz W idM nH g := ⟨(Array.getElem?_eq_some_iff.1 h).1, nH_owned⟩
theorem globs_of {W : World} (hH : laidMetH Tryd.prog Rows.lexLinesUptoRow.laid W) (hS : W.ShapedOpen Tryd.prog) : ∃ I : LexG, @GOK (@instG I) W idM nH := by
  have h : laidMet Tryd.prog Rows.lexLinesUptoRow.laid W := by
    rw [← Go.MakeChecks.laidMetH_plain Tryd.prog _ _ (by kernel_rfl)]; exact hH
  have h1 : laidMet Tryd.prog [("strings.asciiSpace", Lib.tabData .u8 Lib.asciiSpaceTab)] W := by
    have := h.filter fun x => x.1 == "strings.asciiSpace"
    rw [show (Rows.lexLinesUptoRow.laid.filter fun x => x.1 == "strings.asciiSpace") = [("strings.asciiSpace", Lib.tabData .u8 Lib.asciiSpaceTab)] by kernel_rfl] at this
    exact this
  have h2 : laidMet Tryd.prog [("strconv.ErrSyntax", .iface "*errors.errorString" (.ptr (.agg [.lit (.string [105, 110, 118, 97, 108, 105, 100, 32, 115, 121, 110, 116, 97, 120])])))] W := by
    have := h.filter fun x => x.1 == "strconv.ErrSyntax"
    rw [show (Rows.lexLinesUptoRow.laid.filter fun x => x.1 == "strconv.ErrSyntax") = [("strconv.ErrSyntax", .iface "*errors.errorString" (.ptr (.agg [.lit (.string [105, 110, 118, 97, 108, 105, 100, 32, 115, 121, 110, 116, 97, 120])])))] by kernel_rfl] at this
    exact this
  have t1 := Lib.tabIs_of_head (rest := []) gSp gSpT Tryd.underlying53 Tryd.underlying5 (by kernel_rfl) (by kernel_rfl) h1
  obtain ⟨T0, fr0, b0⟩ := var_heap t1 gSp
  obtain ⟨a, s, v3, _⟩ := laid_sentinel h2 gES gEST (Tryd.underlying48.trans rfl) row100 Tryd.underlying100 Tryd.underlying102 rfl rfl Tryd.underlying9 (by kernel_rfl) (by kernel_rfl)
  obtain ⟨T3, fr3, b3⟩ := var_heap v3 gES
  obtain ⟨m, hm⟩ := Proofs.cell_of_shapedOpen_int (P := Tryd.prog) (g := 2) (t := 3) (zero := #[.int .i64 0]) (k := .i64) hS (by decide +kernel) (by kernel_rfl) rfl (by kernel_rfl) (by kernel_rfl) Tryd.underlying3
  obtain ⟨cm, T2, fr2, b2, hcm⟩ := cell_heap hm
  let I : LexG := ⟨cm, m, hcm, #[.iface 100 (.pointer (some a))], .iface 100 (.pointer (some a)), rfl, .inr ⟨_, _, rfl⟩⟩
  refine ⟨I, ⟨fun g c hg => (by cases hg), fun g cs hg => ?_⟩⟩
  have hg : lexBlk g = some cs := hg
  unfold lexBlk at hg
  split at hg
  · rename_i e; subst e; cases hg
    exact ⟨frz0 b0, T0, fr0, b0⟩
  · split at hg
    · rename_i e; subst e; cases hg
      exact ⟨frz0 b2, T2, fr2, b2⟩
    · split at hg
      · rename_i e; subst e; cases hg
        exact ⟨frz0 b3, T3, fr3, b3⟩
      · cases hg
theorem own : ownKnob Tryd.prog.godebug = none := by kernel_rfl
end Go.Proofs.L
namespace Go.Proofs.L
open Go Go.AH
set_option maxRecDepth 4000
set_option linter.unusedSimpArgs false
set_option linter.unusedVariables false
variable [LexG]
def R_lex_foreign (x : Int) : Bool :=
  if x < 32 then true else decide (x > 126)
theorem c_lex_foreign (x : Int) : PC Tryd.prog 21 [.int .i32 x] (.bool (R_lex_foreign x)) := by
 intro H0
 refine ACalls.of_body' (n := 9) rfl rfl rfl rfl ?_
 have m0 := Mono.refl H0
 refine AWP.seq ?_
 refine AWP.region (l := [0]) rfl ?_
 refine AOps.cons rfl rfl (AOp.assign (.bool false) rfl rfl ?_)
 refine AOps.nil ?_
 change AWP _ _ _ _ _ _
 refine AWP.seq ?_
 refine AWP.region (l := [0, 1, 2, 3, 4, 5, 6]) rfl ?_
 refine AOps.cons rfl rfl (AOp.move (.int .i32 x) rfl rfl ?_)
 refine AOps.cons rfl rfl (AOp.bin (.bool (decide (x < 32))) rfl rfl rfl rfl ?_)
 refine AOps.cons rfl rfl (AOp.move (.bool (decide (x < 32))) rfl rfl ?_)
 by_cases b1 : x < 32
 ·
  refine AOps.no rfl rfl rfl rfl rfl rfl rfl (ble_of (decide_eq_true b1) (by decide)) ?_
  refine AOps.no rfl rfl rfl rfl rfl rfl rfl (ble_of (decide_eq_true b1) (by decide)) ?_
  refine AOps.cons rfl rfl (AOp.pickT (.bool true) rfl rfl (decide_eq_true b1) rfl ?_)
  refine AOps.cons rfl rfl (AOp.assign (.bool true) rfl rfl ?_)
  refine AOps.nil ?_
  change AWP _ _ _ _ _ _
  refine AWP.ret ?_
  refine ⟨_, _, Ghost.refl, .inr rfl, _, Res.one rfl rfl, ?_, m0⟩
  have hR : R_lex_foreign x = true := by unfold R_lex_foreign; rw [if_pos b1]
  exact (congrArg (fun r : Bool => (.bool r : AV)) hR).symm
 ·
  refine AOps.yes rfl rfl rfl rfl rfl rfl rfl (decide_eq_false b1) (AOp.move (.int .i32 x) rfl rfl ?_)
  refine AOps.yes rfl rfl rfl rfl rfl rfl rfl (decide_eq_false b1) (AOp.bin (.bool (decide (x > 126))) rfl rfl rfl rfl ?_)
  refine AOps.cons rfl rfl (AOp.pickF (.bool (decide (x > 126))) rfl rfl (decide_eq_false b1) rfl ?_)
  refine AOps.cons rfl rfl (AOp.assign (.bool (decide (x > 126))) rfl rfl ?_)
  refine AOps.nil ?_
  change AWP _ _ _ _ _ _
  refine AWP.ret ?_
  refine ⟨_, _, Ghost.refl, .inr rfl, _, Res.one rfl rfl, ?_, m0⟩
  have hR : R_lex_foreign x = decide (x > 126) := by unfold R_lex_foreign; rw [if_neg b1]
  exact (congrArg (fun r : Bool => (.bool r : AV)) hR).symm
end Go.Proofs.L
namespace Go.Proofs.L
open Go Go.AH Go.Lib
set_option maxRecDepth 4000
set_option linter.unusedSectionVars false
variable [LexG]
theorem decode_lo {s : ByteArray} {p : Nat} (h : p < s.size) : (byt s p < 128 ∧ ((Utf8.decode s p).1 : Int) = byt s p ∧ (Utf8.decode s p).2 = 1) ∨ (128 ≤ byt s p ∧ 128 ≤ ((Utf8.decode s p).1 : Int) ∧ 1 ≤ (Utf8.decode s p).2) := by
  have hb : byt s p = ((s.get! p).toNat : Int) := by
    rw [byt_at (i := (p : Int)) (by simpa using h)]
    simp [ByteArray.get!, getElem!_pos, h]
    rfl
  by_cases ha : (s.get! p).toNat < 128
  · refine .inl ⟨by omega, ?_, ?_⟩ <;> simp [Utf8.decode, ha, hb]
  · refine .inr ⟨by omega, ?_, ?_⟩
    all_goals
      simp only [Utf8.decode, Nat.add_zero, if_neg ha]
      repeat' split
      all_goals (simp_all [Utf8.runeError] <;> omega)
end Go.Proofs.L
namespace Go.Proofs.L
open Go Go.AH Go.Lib
set_option maxRecDepth 4000
set_option linter.unusedSectionVars false
variable [LexG]
def fR (r : Nat) : Bool := R_lex_foreign (r : Int)
def idxR (s : ByteArray) : Int := idxFunc fR true s
theorem dec_pos (s : ByteArray) (p : Nat) : 1 ≤ (Utf8.decode s p).2 := by
  simp only [Utf8.decode]
  repeat' split
  all_goals simp
theorem idx_end {s : ByteArray} {k p : Nat} (h : s.size ≤ p) : idxFuncFrom fR true s k p = -1 := idxFuncFrom_end fR true s k p (by omega)
theorem idx_step {s : ByteArray} {k p : Nat} (h : p < s.size) (hk : s.size ≤ p + k) (hf : R_lex_foreign ((Utf8.decode s p).1 : Int) = false) : idxFuncFrom fR true s k p = idxFuncFrom fR true s (k - 1) (p + (Utf8.decode s p).2) := by
  obtain ⟨k, rfl⟩ : ∃ j, k = j + 1 := ⟨k - 1, by omega⟩
  rw [idxFuncFrom, if_pos h, if_neg (by unfold fR; rw [hf]; simp)]
  rfl
theorem idx_hit {s : ByteArray} {k p : Nat} (h : p < s.size) (hk : s.size ≤ p + k) (hf : R_lex_foreign ((Utf8.decode s p).1 : Int) = true) : idxFuncFrom fR true s k p = p := by
  obtain ⟨k, rfl⟩ : ∃ j, k = j + 1 := ⟨k - 1, by omega⟩
  rw [idxFuncFrom, if_pos h, if_pos (by unfold fR; rw [hf])]
/-- Nothing foreign: printable bytes alone. -/
def okB (s : ByteArray) : Prop := ∀ j : Nat, j < s.size → 32 ≤ byt s j ∧ byt s j ≤ 126
theorem foreign_iff {x : Int} : R_lex_foreign x = false ↔ 32 ≤ x ∧ x ≤ 126 := by
  unfold R_lex_foreign
  split <;> simp <;> omega
theorem idx_from {s : ByteArray} : ∀ k p, s.size ≤ p + k → (idxFuncFrom fR true s k p < 0 ↔ ∀ j : Nat, p ≤ j → j < s.size → 32 ≤ byt s j ∧ byt s j ≤ 126)
  | 0, p, h => by
    simp only [idxFuncFrom]
    exact ⟨fun _ j h1 h2 => by omega, fun _ => by omega⟩
  | k + 1, p, h => by
    by_cases hp : p < s.size
    · have hd := decode_lo hp
      cases hf : R_lex_foreign ((Utf8.decode s p).1 : Int) with
      | true =>
        rw [idx_hit hp h hf]
        refine ⟨fun h => by omega, fun h => ?_⟩
        have := h p (Nat.le_refl _) hp
        have hn : ¬ R_lex_foreign ((Utf8.decode s p).1 : Int) = false := by rw [hf]; simp
        rw [foreign_iff] at hn
        omega
      | false =>
        rw [foreign_iff] at hf
        obtain ⟨d1, d2, d3⟩ : byt s p < 128 ∧ ((Utf8.decode s p).1 : Int) = byt s p ∧ (Utf8.decode s p).2 = 1 := by
          rcases hd with hd | hd
          · exact hd
          · omega
        rw [idx_step hp h (foreign_iff.2 hf), d3, Nat.add_sub_cancel, idx_from k (p + 1) (by omega)]
        refine ⟨fun hh j h1 h2 => ?_, fun hh j h1 h2 => hh j (by omega) h2⟩
        rcases Nat.eq_or_lt_of_le h1 with e | e
        · subst e; omega
        · exact hh j e h2
    · rw [idx_end (by omega)]
      exact ⟨fun _ j h1 h2 => by omega, fun _ => by omega⟩
theorem idxR_neg {s : ByteArray} : idxR s < 0 ↔ okB s := by
  unfold idxR idxFunc okB
  rw [idx_from s.size 0 (by omega)]
  exact ⟨fun h j hj => h j (by omega) hj, fun h j _ hj => h j hj⟩
/-! ### Lists, place by place -/
theorem pre_step {α : Type} [Inhabited α] {a b : List α} {i : Int} (h : ∀ j : Int, 0 ≤ j → j < i → at_ a j = at_ b j) (hi : at_ a i = at_ b i) : ∀ j : Int, 0 ≤ j → j < i + 1 → at_ a j = at_ b j := fun j h1 h2 => by
  rcases Int.lt_or_eq_of_le (show j ≤ i by omega) with e | e
  · exact h j h1 e
  · subst e; exact hi
theorem ext_at {α : Type} [Inhabited α] {a b : List α} (hl : (a.length : Int) = b.length) (h : ∀ j : Int, 0 ≤ j → j < a.length → at_ a j = at_ b j) : a = b := by
  apply List.ext_getElem?
  intro j
  rcases Nat.lt_or_ge j a.length with hj | hj
  · have := h j (by omega) (by omega)
    unfold at_ at this
    simp only [Int.toNat_natCast] at this
    rw [List.getD_eq_getElem?_getD, List.getD_eq_getElem?_getD, List.getElem?_eq_getElem hj, List.getElem?_eq_getElem (by omega : j < b.length)] at this
    rw [List.getElem?_eq_getElem hj, List.getElem?_eq_getElem (by omega : j < b.length)]
    simpa using this
  · rw [List.getElem?_eq_none hj, List.getElem?_eq_none (by omega)]
/-- What the trimmed number is. -/
theorem trimM_size (s : ByteArray) : (trimM s).size ≤ s.size ∧ s.size ≤ (trimM s).size + 1 := by
  have h1 : (trimM s).size = (trimPrefix s.data.toList [45]).length := List.size_toArray
  have h2 : s.size = s.data.toList.length := rfl
  rw [h1, h2]
  generalize s.data.toList = l
  unfold trimPrefix
  split
  · rw [List.length_drop]; simp only [List.length_cons, List.length_nil]; omega
  · omega
end Go.Proofs.L
namespace Go.Proofs.L
open Go Go.AH
set_option maxRecDepth 4000
set_option linter.unusedSimpArgs false
set_option linter.unusedVariables false
variable [LexG]
theorem c_idx (s : ByteArray) (hs : s.size ≤ 4611686018427387904) : PC Tryd.prog 27 [.str s, .fn 21 [], .bool true] (.int .i64 (idxR s)) := by
 intro H0
 refine ACalls.of_body' (n := 21) rfl rfl rfl rfl ?_
 have m0 := Mono.refl H0
 refine AWP.seq ?_
 refine AWP.region (l := [0]) rfl ?_
 refine AOps.cons rfl rfl (AOp.assign (.int .i64 0) rfl rfl ?_)
 refine AOps.nil ?_
 change AWP _ _ _ _ _ _
 refine AWP.seq ?_
 refine AWP.seq ?_
 refine AWP.region (l := [0, 1]) rfl ?_
 refine AOps.cons rfl rfl (AOp.move (.str s) rfl rfl ?_)
 refine AOps.cons rfl rfl (AOp.rangeS rfl rfl u_9 ?_)
 intro i1 H2 n3 h4 k5
 have z6 := Mono.free m0 n3
 have m7 := Mono.new m0 n3 k5
 refine AOps.nil ?_
 change AWP _ _ _ _ _ _
 refine AWP.block ?_
 refine AWP.loop (fun q8 fq Hq => ∃ (p : Nat) (k : Nat), q8 = s.size - p ∧ fq 1 = .fn 21 [] ∧ fq 2 = .bool true ∧ fq 10 = .it i1 ∧ Hq i1 = some (.iter (.str s p)) ∧ Mono H0 Hq ∧ (idxR s = Lib.idxFuncFrom fR true s k p) ∧ (s.size ≤ p + k)) (k := s.size - 0) ?_ ?_
 ·
  exact ⟨0, s.size, rfl, rfl, rfl, rfl, h4, m7, by rfl, by omega⟩
 ·
  rintro _ f10 H9 ⟨p, k, rfl, s11, s12, s13, h14, m15, hf, hk⟩
  refine AWP.seq ?_
  refine AWP.region (l := [0, 1]) rfl ?_
  refine AOps.cons rfl rfl (AOp.nextS rfl s13 h14 ?_ ?_)
  ·
   intro hle16
   refine AOps.cons rfl rfl (AOp.extract (.bool false) rfl rfl rfl ?_)
   refine AOps.nil ?_
   change AWP _ _ _ _ _ _
   refine AWP.seq ?_
   refine AWP.condF rfl rfl ?_
   refine AWP.exit ?_
   change AWP _ _ _ _ _ _
   refine AWP.seq ?_
   refine AWP.region (l := [0]) rfl ?_
   refine AOps.cons rfl rfl (AOp.assign (.int .i64 (-1)) rfl rfl ?_)
   refine AOps.nil ?_
   change AWP _ _ _ _ _ _
   refine AWP.ret ?_
   refine ⟨_, _, Ghost.refl, .inr rfl, _, Res.one rfl rfl, ?_, m15⟩
   exact (congrArg (AV.int .i64) (show (-1 : Int) = idxR s from by rw [hf, idx_end (by omega)]))
  ·
   intro H17 hlt18 h19 k20
   have m22 := Mono.set m15 z6 k20
   refine AOps.cons rfl rfl (AOp.extract (.bool true) rfl rfl rfl ?_)
   refine AOps.nil ?_
   change AWP _ _ _ _ _ _
   refine AWP.seq ?_
   refine AWP.condT rfl rfl ?_
   refine AWP.skip ?_
   change AWP _ _ _ _ _ _
   refine AWP.block ?_
   refine AWP.seq ?_
   have hw := dec_pos s p
   refine AWP.region (l := [0, 1, 2, 3]) rfl ?_
   refine AOps.cons rfl rfl (AOp.extract (.int .i64 (p : Int)) rfl rfl rfl ?_)
   refine AOps.cons rfl rfl (AOp.extract (.int .i32 ((Utf8.decode s p).1 : Int)) rfl rfl rfl ?_)
   refine AOps.cons rfl rfl (AOp.assign (.int .i64 (p : Int)) rfl rfl ?_)
   refine AOps.cons rfl rfl (AOp.assign (.int .i32 ((Utf8.decode s p).1 : Int)) rfl rfl ?_)
   refine AOps.nil ?_
   change AWP _ _ _ _ _ _
   refine AWP.seq ?_
   refine AWP.region (l := [0, 1, 2, 3, 4]) rfl ?_
   refine AOps.cons rfl rfl (AOp.move (.fn 21 []) rfl s11 ?_)
   refine AOps.cons rfl rfl (AOp.move (.int .i32 ((Utf8.decode s p).1 : Int)) rfl rfl ?_)
   refine AOps.cons rfl rfl (AOp.pcall («as» := [.int .i32 ((Utf8.decode s p).1 : Int)]) rfl rfl (rfl) tf_21 (c_lex_foreign ((Utf8.decode s p).1 : Int)) ?_)
   intro H23 m24
   have h25 := m24 _ _ h19
   have m26 := m22.trans m24
   refine AOps.cons rfl rfl (AOp.move (.bool true) rfl s12 ?_)
   refine AOps.cons rfl rfl (AOp.beq rfl rfl rfl u_4 ?_)
   refine AOps.nil ?_
   change AWP _ _ _ _ _ _
   rcases Bool.eq_false_or_eq_true ((R_lex_foreign ((Utf8.decode s p).1 : Int)) == true) with b27 | b27
   ·
    refine AWP.condT rfl b27 ?_
    refine AWP.seq ?_
    refine AWP.region (l := [0, 1]) rfl ?_
    refine AOps.cons rfl rfl (AOp.move (.int .i64 (p : Int)) rfl rfl ?_)
    refine AOps.cons rfl rfl (AOp.assign (.int .i64 (p : Int)) rfl rfl ?_)
    refine AOps.nil ?_
    change AWP _ _ _ _ _ _
    refine AWP.ret ?_
    refine ⟨_, _, Ghost.refl, .inr rfl, _, Res.one rfl rfl, ?_, m26⟩
    exact (congrArg (AV.int .i64) (show ((p : Int) : Int) = idxR s from by rw [hf, idx_hit hlt18 (by omega) (by simpa using b27)]))
   ·
    refine AWP.condF rfl b27 ?_
    refine AWP.skip ?_
    exact ⟨_, by omega, (p + (Utf8.decode s p).2), k - 1, rfl, s11, s12, s13, h25, m26, by rw [hf]; exact idx_step hlt18 (by omega) (by simpa using b27), by omega⟩
theorem c_IndexFunc (s : ByteArray) (hs : s.size ≤ 4611686018427387904) : PC Tryd.prog 20 [.str s, .fn 21 []] (.int .i64 (idxR s)) := by
 intro H0
 refine ACalls.of_body' (n := 8) rfl rfl rfl rfl ?_
 have m0 := Mono.refl H0
 refine AWP.seq ?_
 refine AWP.region (l := [0]) rfl ?_
 refine AOps.cons rfl rfl (AOp.assign (.int .i64 0) rfl rfl ?_)
 refine AOps.nil ?_
 change AWP _ _ _ _ _ _
 refine AWP.seq ?_
 refine AWP.region (l := [0, 1, 2, 3]) rfl ?_
 refine AOps.cons rfl rfl (AOp.move (.str s) rfl rfl ?_)
 refine AOps.cons rfl rfl (AOp.move (.fn 21 []) rfl rfl ?_)
 refine AOps.cons rfl rfl (AOp.pcall («as» := [.str s, .fn 21 [], .bool true]) rfl rfl (rfl) tf_27 (c_idx s (by omega)) ?_)
 intro H1 m2
 have m3 := m0.trans m2
 refine AOps.cons rfl rfl (AOp.assign (.int .i64 (idxR s)) rfl rfl ?_)
 refine AOps.nil ?_
 change AWP _ _ _ _ _ _
 refine AWP.ret ?_
 refine ⟨_, _, Ghost.refl, .inr rfl, _, Res.one rfl rfl, ?_, m3⟩
 exact rfl
def R_lex_Number (s : ByteArray) : Int × Bool :=
  if ((trimM s).size : Int) = 0 then (0, false) else (if ((trimM s).size : Int) > 6 then (0, false) else (if byt (trimM s) 0 < 48 then (0, false) else (if byt (trimM s) 0 > 57 then (0, false) else (if byt (trimM s) 0 = 48 then (if s = ⟨#[48]⟩ then (if Lib.atoi s.data.toList = none then (0, false) else (atoiV s, true)) else (0, false)) else (if Lib.atoi s.data.toList = none then (0, false) else (atoiV s, true))))))
theorem c_lex_Number (s : ByteArray) : PC Tryd.prog 13 [.str s] (.tup [.int .i64 ((R_lex_Number s).1), .bool ((R_lex_Number s).2)]) := by
 intro H0
 refine ACalls.of_body' (n := 44) rfl rfl rfl rfl ?_
 have m0 := Mono.refl H0
 refine AWP.seq ?_
 refine AWP.region (l := [0, 1]) rfl ?_
 refine AOps.cons rfl rfl (AOp.assign (.int .i64 0) rfl rfl ?_)
 refine AOps.cons rfl rfl (AOp.assign (.bool false) rfl rfl ?_)
 refine AOps.nil ?_
 change AWP _ _ _ _ _ _
 refine AWP.seq ?_
 refine AWP.region (l := [0, 1, 2]) rfl ?_
 refine AOps.cons rfl rfl (AOp.move (.str s) rfl rfl ?_)
 refine AOps.cons rfl rfl (AOp.pcall («as» := [.str s, .str ⟨#[45]⟩]) rfl rfl (rfl) tf_24 (c_Trim s) ?_)
 intro H1 m2
 have m3 := m0.trans m2
 refine AOps.cons rfl rfl (AOp.assign (.str (trimM s)) rfl rfl ?_)
 refine AOps.nil ?_
 change AWP _ _ _ _ _ _
 refine AWP.seq ?_
 refine AWP.seq ?_
 refine AWP.region (l := [0, 1, 2, 3, 4, 5, 6, 7, 8, 9, 10, 11, 12, 13, 14, 15, 16, 17, 18, 19, 20, 21, 22, 23, 24, 25, 26]) rfl ?_
 refine AOps.cons rfl rfl (AOp.move (.str (trimM s)) rfl rfl ?_)
 refine AOps.cons rfl rfl (AOp.lenStr rfl rfl u_9 ?_)
 refine AOps.cons rfl rfl (AOp.bin (.bool (decide (((trimM s).size : Int) = 0))) rfl rfl rfl ieq ?_)
 refine AOps.cons rfl rfl (AOp.move (.bool (decide (((trimM s).size : Int) = 0))) rfl rfl ?_)
 by_cases b4 : ((trimM s).size : Int) = 0
 ·
  refine AOps.no rfl rfl rfl rfl rfl rfl rfl (ble_of (decide_eq_true b4) (by decide)) ?_
  refine AOps.no rfl rfl rfl rfl rfl rfl rfl (ble_of (decide_eq_true b4) (by decide)) ?_
  refine AOps.no rfl rfl rfl rfl rfl rfl rfl (ble_of (decide_eq_true b4) (by decide)) ?_
  refine AOps.cons rfl rfl (AOp.pickT (.bool true) rfl rfl (decide_eq_true b4) rfl ?_)
  refine AOps.cons rfl rfl (AOp.move (.bool true) rfl rfl ?_)
  refine AOps.no rfl rfl rfl rfl rfl rfl rfl (ble_of rfl (by decide)) ?_
  refine AOps.no rfl rfl rfl rfl rfl rfl rfl (ble_of rfl (by decide)) ?_
  refine AOps.no rfl rfl rfl rfl rfl rfl rfl (ble_of rfl (by decide)) ?_
  refine AOps.cons rfl rfl (AOp.pickT (.bool true) rfl rfl rfl rfl ?_)
  refine AOps.cons rfl rfl (AOp.move (.bool true) rfl rfl ?_)
  refine AOps.no rfl rfl rfl rfl rfl rfl rfl (ble_of rfl (by decide)) ?_
  refine AOps.no rfl rfl rfl rfl rfl rfl rfl (ble_of rfl (by decide)) ?_
  refine AOps.no rfl rfl rfl rfl rfl rfl rfl (ble_of rfl (by decide)) ?_
  refine AOps.cons rfl rfl (AOp.pickT (.bool true) rfl rfl rfl rfl ?_)
  refine AOps.cons rfl rfl (AOp.move (.bool true) rfl rfl ?_)
  refine AOps.no rfl rfl rfl rfl rfl rfl rfl (ble_of rfl (by decide)) ?_
  refine AOps.no rfl rfl rfl rfl rfl rfl rfl (ble_of rfl (by decide)) ?_
  refine AOps.no rfl rfl rfl rfl rfl rfl rfl (ble_of rfl (by decide)) ?_
  refine AOps.no rfl rfl rfl rfl rfl rfl rfl (ble_of rfl (by decide)) ?_
  refine AOps.un rfl rfl rfl rfl rfl rfl rfl ?_
  refine AOps.un rfl rfl rfl rfl rfl rfl rfl ?_
  refine AOps.no rfl rfl rfl rfl rfl rfl rfl (ble_of rfl (by decide)) ?_
  refine AOps.cons rfl rfl (AOp.pickT (.bool true) rfl rfl rfl rfl ?_)
  refine AOps.nil ?_
  change AWP _ _ _ _ _ _
  refine AWP.condT rfl rfl ?_
  refine AWP.seq ?_
  refine AWP.region (l := [0, 1]) rfl ?_
  refine AOps.cons rfl rfl (AOp.assign (.int .i64 0) rfl rfl ?_)
  refine AOps.cons rfl rfl (AOp.assign (.bool false) rfl rfl ?_)
  refine AOps.nil ?_
  change AWP _ _ _ _ _ _
  refine AWP.ret ?_
  refine ⟨_, _, Ghost.refl, .inr rfl, _, Res.two rfl rfl rfl, ?_, m3⟩
  have hR : R_lex_Number s = (0, false) := by unfold R_lex_Number; rw [if_pos b4]
  exact (congrArg (fun r : Int × Bool => (.tup [.int .i64 r.1, .bool r.2] : AV)) hR).symm
 ·
  refine AOps.yes rfl rfl rfl rfl rfl rfl rfl (decide_eq_false b4) (AOp.move (.str (trimM s)) rfl rfl ?_)
  refine AOps.yes rfl rfl rfl rfl rfl rfl rfl (decide_eq_false b4) (AOp.lenStr rfl rfl u_9 ?_)
  refine AOps.yes rfl rfl rfl rfl rfl rfl rfl (decide_eq_false b4) (AOp.bin (.bool (decide (((trimM s).size : Int) > 6))) rfl rfl rfl rfl ?_)
  refine AOps.cons rfl rfl (AOp.pickF (.bool (decide (((trimM s).size : Int) > 6))) rfl rfl (decide_eq_false b4) rfl ?_)
  refine AOps.cons rfl rfl (AOp.move (.bool (decide (((trimM s).size : Int) > 6))) rfl rfl ?_)
  by_cases b5 : ((trimM s).size : Int) > 6
  ·
   refine AOps.no rfl rfl rfl rfl rfl rfl rfl (ble_of (decide_eq_true b5) (by decide)) ?_
   refine AOps.no rfl rfl rfl rfl rfl rfl rfl (ble_of (decide_eq_true b5) (by decide)) ?_
   refine AOps.no rfl rfl rfl rfl rfl rfl rfl (ble_of (decide_eq_true b5) (by decide)) ?_
   refine AOps.cons rfl rfl (AOp.pickT (.bool true) rfl rfl (decide_eq_true b5) rfl ?_)
   refine AOps.cons rfl rfl (AOp.move (.bool true) rfl rfl ?_)
   refine AOps.no rfl rfl rfl rfl rfl rfl rfl (ble_of rfl (by decide)) ?_
   refine AOps.no rfl rfl rfl rfl rfl rfl rfl (ble_of rfl (by decide)) ?_
   refine AOps.no rfl rfl rfl rfl rfl rfl rfl (ble_of rfl (by decide)) ?_
   refine AOps.cons rfl rfl (AOp.pickT (.bool true) rfl rfl rfl rfl ?_)
   refine AOps.cons rfl rfl (AOp.move (.bool true) rfl rfl ?_)
   refine AOps.no rfl rfl rfl rfl rfl rfl rfl (ble_of rfl (by decide)) ?_
   refine AOps.no rfl rfl rfl rfl rfl rfl rfl (ble_of rfl (by decide)) ?_
   refine AOps.no rfl rfl rfl rfl rfl rfl rfl (ble_of rfl (by decide)) ?_
   refine AOps.no rfl rfl rfl rfl rfl rfl rfl (ble_of rfl (by decide)) ?_
   refine AOps.un rfl rfl rfl rfl rfl rfl rfl ?_
   refine AOps.un rfl rfl rfl rfl rfl rfl rfl ?_
   refine AOps.no rfl rfl rfl rfl rfl rfl rfl (ble_of rfl (by decide)) ?_
   refine AOps.cons rfl rfl (AOp.pickT (.bool true) rfl rfl rfl rfl ?_)
   refine AOps.nil ?_
   change AWP _ _ _ _ _ _
   refine AWP.condT rfl rfl ?_
   refine AWP.seq ?_
   refine AWP.region (l := [0, 1]) rfl ?_
   refine AOps.cons rfl rfl (AOp.assign (.int .i64 0) rfl rfl ?_)
   refine AOps.cons rfl rfl (AOp.assign (.bool false) rfl rfl ?_)
   refine AOps.nil ?_
   change AWP _ _ _ _ _ _
   refine AWP.ret ?_
   refine ⟨_, _, Ghost.refl, .inr rfl, _, Res.two rfl rfl rfl, ?_, m3⟩
   have hR : R_lex_Number s = (0, false) := by unfold R_lex_Number; rw [if_neg b4, if_pos b5]
   exact (congrArg (fun r : Int × Bool => (.tup [.int .i64 r.1, .bool r.2] : AV)) hR).symm
  ·
   refine AOps.yes rfl rfl rfl rfl rfl rfl rfl (decide_eq_false b5) (AOp.move (.str (trimM s)) rfl rfl ?_)
   have hb6 := byt_rng (trimM s) 0
   refine AOps.yes rfl rfl rfl rfl rfl rfl rfl (decide_eq_false b5) (AOp.indexB rfl rfl rfl u_9 (by omega) (by omega) ?_)
   refine AOps.yes rfl rfl rfl rfl rfl rfl rfl (decide_eq_false b5) (AOp.bin (.bool (decide (byt (trimM s) 0 < 48))) rfl rfl rfl rfl ?_)
   refine AOps.cons rfl rfl (AOp.pickF (.bool (decide (byt (trimM s) 0 < 48))) rfl rfl (decide_eq_false b5) rfl ?_)
   refine AOps.cons rfl rfl (AOp.move (.bool (decide (byt (trimM s) 0 < 48))) rfl rfl ?_)
   by_cases b7 : byt (trimM s) 0 < 48
   ·
    refine AOps.no rfl rfl rfl rfl rfl rfl rfl (ble_of (decide_eq_true b7) (by decide)) ?_
    refine AOps.no rfl rfl rfl rfl rfl rfl rfl (ble_of (decide_eq_true b7) (by decide)) ?_
    refine AOps.no rfl rfl rfl rfl rfl rfl rfl (ble_of (decide_eq_true b7) (by decide)) ?_
    refine AOps.cons rfl rfl (AOp.pickT (.bool true) rfl rfl (decide_eq_true b7) rfl ?_)
    refine AOps.cons rfl rfl (AOp.move (.bool true) rfl rfl ?_)
    refine AOps.no rfl rfl rfl rfl rfl rfl rfl (ble_of rfl (by decide)) ?_
    refine AOps.no rfl rfl rfl rfl rfl rfl rfl (ble_of rfl (by decide)) ?_
    refine AOps.no rfl rfl rfl rfl rfl rfl rfl (ble_of rfl (by decide)) ?_
    refine AOps.no rfl rfl rfl rfl rfl rfl rfl (ble_of rfl (by decide)) ?_
    refine AOps.un rfl rfl rfl rfl rfl rfl rfl ?_
    refine AOps.un rfl rfl rfl rfl rfl rfl rfl ?_
    refine AOps.no rfl rfl rfl rfl rfl rfl rfl (ble_of rfl (by decide)) ?_
    refine AOps.cons rfl rfl (AOp.pickT (.bool true) rfl rfl rfl rfl ?_)
    refine AOps.nil ?_
    change AWP _ _ _ _ _ _
    refine AWP.condT rfl rfl ?_
    refine AWP.seq ?_
    refine AWP.region (l := [0, 1]) rfl ?_
    refine AOps.cons rfl rfl (AOp.assign (.int .i64 0) rfl rfl ?_)
    refine AOps.cons rfl rfl (AOp.assign (.bool false) rfl rfl ?_)
    refine AOps.nil ?_
    change AWP _ _ _ _ _ _
    refine AWP.ret ?_
    refine ⟨_, _, Ghost.refl, .inr rfl, _, Res.two rfl rfl rfl, ?_, m3⟩
    have hR : R_lex_Number s = (0, false) := by unfold R_lex_Number; rw [if_neg b4, if_neg b5, if_pos b7]
    exact (congrArg (fun r : Int × Bool => (.tup [.int .i64 r.1, .bool r.2] : AV)) hR).symm
   ·
    refine AOps.yes rfl rfl rfl rfl rfl rfl rfl (decide_eq_false b7) (AOp.move (.str (trimM s)) rfl rfl ?_)
    refine AOps.yes rfl rfl rfl rfl rfl rfl rfl (decide_eq_false b7) (AOp.indexB rfl rfl rfl u_9 (by omega) (by omega) ?_)
    refine AOps.yes rfl rfl rfl rfl rfl rfl rfl (decide_eq_false b7) (AOp.bin (.bool (decide (byt (trimM s) 0 > 57))) rfl rfl rfl rfl ?_)
    refine AOps.cons rfl rfl (AOp.pickF (.bool (decide (byt (trimM s) 0 > 57))) rfl rfl (decide_eq_false b7) rfl ?_)
    refine AOps.cons rfl rfl (AOp.move (.bool (decide (byt (trimM s) 0 > 57))) rfl rfl ?_)
    by_cases b8 : byt (trimM s) 0 > 57
    ·
     refine AOps.no rfl rfl rfl rfl rfl rfl rfl (ble_of (decide_eq_true b8) (by decide)) ?_
     refine AOps.no rfl rfl rfl rfl rfl rfl rfl (ble_of (decide_eq_true b8) (by decide)) ?_
     refine AOps.no rfl rfl rfl rfl rfl rfl rfl (ble_of (decide_eq_true b8) (by decide)) ?_
     refine AOps.no rfl rfl rfl rfl rfl rfl rfl (ble_of (decide_eq_true b8) (by decide)) ?_
     refine AOps.un rfl rfl rfl rfl rfl rfl rfl ?_
     refine AOps.un rfl rfl rfl rfl rfl rfl rfl ?_
     refine AOps.no rfl rfl rfl rfl rfl rfl rfl (ble_of (decide_eq_true b8) (by decide)) ?_
     refine AOps.cons rfl rfl (AOp.pickT (.bool true) rfl rfl (decide_eq_true b8) rfl ?_)
     refine AOps.nil ?_
     change AWP _ _ _ _ _ _
     refine AWP.condT rfl rfl ?_
     refine AWP.seq ?_
     refine AWP.region (l := [0, 1]) rfl ?_
     refine AOps.cons rfl rfl (AOp.assign (.int .i64 0) rfl rfl ?_)
     refine AOps.cons rfl rfl (AOp.assign (.bool false) rfl rfl ?_)
     refine AOps.nil ?_
     change AWP _ _ _ _ _ _
     refine AWP.ret ?_
     refine ⟨_, _, Ghost.refl, .inr rfl, _, Res.two rfl rfl rfl, ?_, m3⟩
     have hR : R_lex_Number s = (0, false) := by unfold R_lex_Number; rw [if_neg b4, if_neg b5, if_neg b7, if_pos b8]
     exact (congrArg (fun r : Int × Bool => (.tup [.int .i64 r.1, .bool r.2] : AV)) hR).symm
    ·
     refine AOps.yes rfl rfl rfl rfl rfl rfl rfl (decide_eq_false b8) (AOp.move (.str (trimM s)) rfl rfl ?_)
     refine AOps.yes rfl rfl rfl rfl rfl rfl rfl (decide_eq_false b8) (AOp.indexB rfl rfl rfl u_9 (by omega) (by omega) ?_)
     refine AOps.yes rfl rfl rfl rfl rfl rfl rfl (decide_eq_false b8) (AOp.bin (.bool (decide (byt (trimM s) 0 = 48))) rfl rfl rfl ieq ?_)
     refine AOps.yes rfl rfl rfl rfl rfl rfl rfl (decide_eq_false b8) (AOp.move (.bool (decide (byt (trimM s) 0 = 48))) rfl rfl ?_)
     by_cases b9 : byt (trimM s) 0 = 48
     ·
      refine AOps.yes rfl rfl rfl rfl rfl rfl rfl (decide_eq_true b9) (AOp.move (.str s) rfl rfl ?_)
      refine AOps.yes rfl rfl rfl rfl rfl rfl rfl (decide_eq_true b9) (AOp.sneD rfl rfl rfl ?_)
      refine AOps.yes rfl rfl rfl rfl rfl rfl rfl (decide_eq_false b8) (AOp.pickT (.bool (!decide (s = ⟨#[48]⟩))) rfl rfl (decide_eq_true b9) rfl ?_)
      refine AOps.cons rfl rfl (AOp.pickF (.bool (!decide (s = ⟨#[48]⟩))) rfl rfl (decide_eq_false b8) rfl ?_)
      refine AOps.nil ?_
      change AWP _ _ _ _ _ _
      by_cases b10 : s = ⟨#[48]⟩
      ·
       refine AWP.condF rfl (nb (decide_eq_true b10)) ?_
       refine AWP.skip ?_
       change AWP _ _ _ _ _ _
       refine AWP.seq ?_
       have htz := trimM_size s
       refine AWP.region (l := [0, 1, 2, 3, 4, 5, 6]) rfl ?_
       refine AOps.cons rfl rfl (AOp.move (.str s) rfl rfl ?_)
       refine AOps.cons rfl rfl (AOp.pcall («as» := [.str s]) rfl rfl (rfl) tf_25 (c_Atoi s (by omega)) ?_)
       intro H11 m12
       have m13 := m3.trans m12
       refine AOps.cons rfl rfl (AOp.move (.tup [.int .i64 (atoiV s), atoiE s]) rfl rfl ?_)
       refine AOps.cons rfl rfl (AOp.extract (.int .i64 (atoiV s)) rfl rfl rfl ?_)
       refine AOps.cons rfl rfl (AOp.extract (atoiE s) rfl rfl rfl ?_)
       refine AOps.cons rfl rfl (AOp.assign (.int .i64 (atoiV s)) rfl rfl ?_)
       refine AOps.cons rfl rfl (AOp.assign (atoiE s) rfl rfl ?_)
       refine AOps.nil ?_
       change AWP _ _ _ _ _ _
       refine AWP.seq ?_
       refine AWP.seq ?_
       refine AWP.region (l := [0, 1]) rfl ?_
       refine AOps.cons rfl rfl (AOp.move (atoiE s) rfl rfl ?_)
       refine AOps.cons rfl rfl (AOp.ifnil rfl rfl ui48 (atoiE_or s) ?_)
       refine AOps.nil ?_
       change AWP _ _ _ _ _ _
       by_cases b14 : Lib.atoi s.data.toList = none
       ·
        refine AWP.condT rfl (decide_eq_true b14) ?_
        refine AWP.seq ?_
        refine AWP.region (l := [0, 1]) rfl ?_
        refine AOps.cons rfl rfl (AOp.assign (.int .i64 0) rfl rfl ?_)
        refine AOps.cons rfl rfl (AOp.assign (.bool false) rfl rfl ?_)
        refine AOps.nil ?_
        change AWP _ _ _ _ _ _
        refine AWP.ret ?_
        refine ⟨_, _, Ghost.refl, .inr rfl, _, Res.two rfl rfl rfl, ?_, m13⟩
        have hR : R_lex_Number s = (0, false) := by unfold R_lex_Number; rw [if_neg b4, if_neg b5, if_neg b7, if_neg b8, if_pos b9, if_pos b10, if_pos b14]
        exact (congrArg (fun r : Int × Bool => (.tup [.int .i64 r.1, .bool r.2] : AV)) hR).symm
       ·
        refine AWP.condF rfl (decide_eq_false b14) ?_
        refine AWP.skip ?_
        change AWP _ _ _ _ _ _
        refine AWP.seq ?_
        refine AWP.region (l := [0, 1, 2]) rfl ?_
        refine AOps.cons rfl rfl (AOp.move (.int .i64 (atoiV s)) rfl rfl ?_)
        refine AOps.cons rfl rfl (AOp.assign (.int .i64 (atoiV s)) rfl rfl ?_)
        refine AOps.cons rfl rfl (AOp.assign (.bool true) rfl rfl ?_)
        refine AOps.nil ?_
        change AWP _ _ _ _ _ _
        refine AWP.ret ?_
        refine ⟨_, _, Ghost.refl, .inr rfl, _, Res.two rfl rfl rfl, ?_, m13⟩
        have hR : R_lex_Number s = (atoiV s, true) := by unfold R_lex_Number; rw [if_neg b4, if_neg b5, if_neg b7, if_neg b8, if_pos b9, if_pos b10, if_neg b14]
        exact (congrArg (fun r : Int × Bool => (.tup [.int .i64 r.1, .bool r.2] : AV)) hR).symm
      ·
       refine AWP.condT rfl (nb (decide_eq_false b10)) ?_
       refine AWP.seq ?_
       refine AWP.region (l := [0, 1]) rfl ?_
       refine AOps.cons rfl rfl (AOp.assign (.int .i64 0) rfl rfl ?_)
       refine AOps.cons rfl rfl (AOp.assign (.bool false) rfl rfl ?_)
       refine AOps.nil ?_
       change AWP _ _ _ _ _ _
       refine AWP.ret ?_
       refine ⟨_, _, Ghost.refl, .inr rfl, _, Res.two rfl rfl rfl, ?_, m3⟩
       have hR : R_lex_Number s = (0, false) := by unfold R_lex_Number; rw [if_neg b4, if_neg b5, if_neg b7, if_neg b8, if_pos b9, if_neg b10]
       exact (congrArg (fun r : Int × Bool => (.tup [.int .i64 r.1, .bool r.2] : AV)) hR).symm
     ·
      refine AOps.no rfl rfl rfl rfl rfl rfl rfl (ble_of (decide_eq_false b9) (by decide)) ?_
      refine AOps.no rfl rfl rfl rfl rfl rfl rfl (ble_of (decide_eq_false b9) (by decide)) ?_
      refine AOps.yes rfl rfl rfl rfl rfl rfl rfl (decide_eq_false b8) (AOp.pickF (.bool false) rfl rfl (decide_eq_false b9) rfl ?_)
      refine AOps.cons rfl rfl (AOp.pickF (.bool false) rfl rfl (decide_eq_false b8) rfl ?_)
      refine AOps.nil ?_
      change AWP _ _ _ _ _ _
      refine AWP.condF rfl rfl ?_
      refine AWP.skip ?_
      change AWP _ _ _ _ _ _
      refine AWP.seq ?_
      have htz := trimM_size s
      refine AWP.region (l := [0, 1, 2, 3, 4, 5, 6]) rfl ?_
      refine AOps.cons rfl rfl (AOp.move (.str s) rfl rfl ?_)
      refine AOps.cons rfl rfl (AOp.pcall («as» := [.str s]) rfl rfl (rfl) tf_25 (c_Atoi s (by omega)) ?_)
      intro H15 m16
      have m17 := m3.trans m16
      refine AOps.cons rfl rfl (AOp.move (.tup [.int .i64 (atoiV s), atoiE s]) rfl rfl ?_)
      refine AOps.cons rfl rfl (AOp.extract (.int .i64 (atoiV s)) rfl rfl rfl ?_)
      refine AOps.cons rfl rfl (AOp.extract (atoiE s) rfl rfl rfl ?_)
      refine AOps.cons rfl rfl (AOp.assign (.int .i64 (atoiV s)) rfl rfl ?_)
      refine AOps.cons rfl rfl (AOp.assign (atoiE s) rfl rfl ?_)
      refine AOps.nil ?_
      change AWP _ _ _ _ _ _
      refine AWP.seq ?_
      refine AWP.seq ?_
      refine AWP.region (l := [0, 1]) rfl ?_
      refine AOps.cons rfl rfl (AOp.move (atoiE s) rfl rfl ?_)
      refine AOps.cons rfl rfl (AOp.ifnil rfl rfl ui48 (atoiE_or s) ?_)
      refine AOps.nil ?_
      change AWP _ _ _ _ _ _
      by_cases b18 : Lib.atoi s.data.toList = none
      ·
       refine AWP.condT rfl (decide_eq_true b18) ?_
       refine AWP.seq ?_
       refine AWP.region (l := [0, 1]) rfl ?_
       refine AOps.cons rfl rfl (AOp.assign (.int .i64 0) rfl rfl ?_)
       refine AOps.cons rfl rfl (AOp.assign (.bool false) rfl rfl ?_)
       refine AOps.nil ?_
       change AWP _ _ _ _ _ _
       refine AWP.ret ?_
       refine ⟨_, _, Ghost.refl, .inr rfl, _, Res.two rfl rfl rfl, ?_, m17⟩
       have hR : R_lex_Number s = (0, false) := by unfold R_lex_Number; rw [if_neg b4, if_neg b5, if_neg b7, if_neg b8, if_neg b9, if_pos b18]
       exact (congrArg (fun r : Int × Bool => (.tup [.int .i64 r.1, .bool r.2] : AV)) hR).symm
      ·
       refine AWP.condF rfl (decide_eq_false b18) ?_
       refine AWP.skip ?_
       change AWP _ _ _ _ _ _
       refine AWP.seq ?_
       refine AWP.region (l := [0, 1, 2]) rfl ?_
       refine AOps.cons rfl rfl (AOp.move (.int .i64 (atoiV s)) rfl rfl ?_)
       refine AOps.cons rfl rfl (AOp.assign (.int .i64 (atoiV s)) rfl rfl ?_)
       refine AOps.cons rfl rfl (AOp.assign (.bool true) rfl rfl ?_)
       refine AOps.nil ?_
       change AWP _ _ _ _ _ _
       refine AWP.ret ?_
       refine ⟨_, _, Ghost.refl, .inr rfl, _, Res.two rfl rfl rfl, ?_, m17⟩
       have hR : R_lex_Number s = (atoiV s, true) := by unfold R_lex_Number; rw [if_neg b4, if_neg b5, if_neg b7, if_neg b8, if_neg b9, if_neg b18]
       exact (congrArg (fun r : Int × Bool => (.tup [.int .i64 r.1, .bool r.2] : AV)) hR).symm
theorem c_SameTexts (a b : List ByteArray) (ha : a.length ≤ 1048576) (hb : b.length ≤ 1048576) : PC Tryd.prog 18 [.sl a.length (a.map eStr), .sl b.length (b.map eStr)] (.bool (decide (a = b))) := by
 intro H0
 refine ACalls.of_body' (n := 26) rfl rfl rfl rfl ?_
 have m0 := Mono.refl H0
 refine AWP.seq ?_
 refine AWP.region (l := [0]) rfl ?_
 refine AOps.cons rfl rfl (AOp.assign (.bool false) rfl rfl ?_)
 refine AOps.nil ?_
 change AWP _ _ _ _ _ _
 refine AWP.seq ?_
 refine AWP.seq ?_
 refine AWP.region (l := [0, 1, 2, 3, 4]) rfl ?_
 refine AOps.cons rfl rfl (AOp.move (.sl a.length (a.map eStr)) rfl rfl ?_)
 refine AOps.cons rfl rfl (AOp.len (m := a.length) rfl rfl (.inr (.inl ⟨_, rfl⟩)) u_33 ?_)
 refine AOps.cons rfl rfl (AOp.move (.sl b.length (b.map eStr)) rfl rfl ?_)
 refine AOps.cons rfl rfl (AOp.len (m := b.length) rfl rfl (.inr (.inl ⟨_, rfl⟩)) u_33 ?_)
 refine AOps.cons rfl rfl (AOp.bin (.bool (!decide ((a.length : Int) = (b.length : Int)))) rfl rfl rfl ine ?_)
 refine AOps.nil ?_
 change AWP _ _ _ _ _ _
 by_cases b1 : (a.length : Int) = (b.length : Int)
 ·
  refine AWP.condF rfl (nb (decide_eq_true b1)) ?_
  refine AWP.skip ?_
  change AWP _ _ _ _ _ _
  refine AWP.seq ?_
  refine AWP.seq ?_
  refine AWP.region (l := [0]) rfl ?_
  refine AOps.cons rfl rfl (AOp.assign (.int .i64 0) rfl rfl ?_)
  refine AOps.nil ?_
  change AWP _ _ _ _ _ _
  refine AWP.block ?_
  refine AWP.loop (fun q2 fq Hq => ∃ (i : Int), q2 = (((a.length : Int) : Int) - i).toNat ∧ fq 5 = .int .i64 i ∧ fq 0 = .sl a.length (a.map eStr) ∧ fq 1 = .sl b.length (b.map eStr) ∧ Mono H0 Hq ∧ (0 ≤ i) ∧ (i ≤ (a.length : Int)) ∧ ((a.length : Int) = b.length) ∧ (∀ j : Int, 0 ≤ j → j < i → at_ a j = at_ b j)) (k := (((a.length : Int) : Int) - 0).toNat) ?_ ?_
  ·
   exact ⟨0, rfl, rfl, rfl, rfl, m0, by omega, by omega, by assumption, by intro j; omega⟩
  ·
   rintro _ f4 H3 ⟨i, rfl, s5, s6, s7, m8, hi0, hi1, hl, pre⟩
   refine AWP.seq ?_
   refine AWP.seq ?_
   refine AWP.region (l := [0, 1, 2, 3]) rfl ?_
   refine AOps.cons rfl rfl (AOp.move (.int .i64 i) rfl s5 ?_)
   refine AOps.cons rfl rfl (AOp.move (.sl a.length (a.map eStr)) rfl s6 ?_)
   refine AOps.cons rfl rfl (AOp.len (m := a.length) rfl rfl (.inr (.inl ⟨_, rfl⟩)) u_33 ?_)
   refine AOps.cons rfl rfl (AOp.bin (.bool (decide (i < (a.length : Int)))) rfl rfl rfl rfl ?_)
   refine AOps.nil ?_
   change AWP _ _ _ _ _ _
   by_cases b9 : i < (a.length : Int)
   ·
    refine AWP.condT rfl (decide_eq_true b9) ?_
    refine AWP.skip ?_
    change AWP _ _ _ _ _ _
    refine AWP.seq ?_
    refine AWP.block ?_
    refine AWP.seq ?_
    refine AWP.region_quiet mixed (by kernel_rfl) 9 [] rfl (by kernel_rfl) (Mono H3) (Mono.refl _) ?_
    refine QE.op rfl rfl (.inl ⟨rfl, fun f' H' hf hM => AOp.move (.sl a.length (a.map eStr)) rfl ((hf 0 rfl).trans s6) ⟨rfl, hM⟩⟩) ?_
    refine QE.op rfl rfl (.inl ⟨rfl, fun f' H' hf hM => AOp.move (.int .i64 i) rfl ((hf 5 rfl).trans s5) ⟨rfl, hM⟩⟩) ?_
    refine QE.op rfl rfl (.inl ⟨rfl, fun f' H' hf hM => AOp.indexAddrS rfl ((hf 17 rfl).trans rfl) ((hf 18 rfl).trans rfl) sl_33 (by omega) (by omega) ⟨rfl, hM⟩⟩) ?_
    refine QE.op rfl rfl (.inl ⟨rfl, fun f' H' hf hM => AOp.loadF (.str (at_ a i)) rfl ((hf 19 rfl).trans rfl) ty_9 (ld1 (by omega) (by omega)) ⟨rfl, hM⟩⟩) ?_
    refine QE.op rfl rfl (.inl ⟨rfl, fun f' H' hf hM => AOp.move (.sl b.length (b.map eStr)) rfl ((hf 1 rfl).trans s7) ⟨rfl, hM⟩⟩) ?_
    refine QE.op rfl rfl (.inl ⟨rfl, fun f' H' hf hM => AOp.move (.int .i64 i) rfl ((hf 5 rfl).trans s5) ⟨rfl, hM⟩⟩) ?_
    refine QE.op rfl rfl (.inl ⟨rfl, fun f' H' hf hM => AOp.indexAddrS rfl ((hf 21 rfl).trans rfl) ((hf 22 rfl).trans rfl) sl_33 (by omega) (by omega) ⟨rfl, hM⟩⟩) ?_
    refine QE.op rfl rfl (.inl ⟨rfl, fun f' H' hf hM => AOp.loadF (.str (at_ b i)) rfl ((hf 23 rfl).trans rfl) ty_9 (ld1 (by omega) (by omega)) ⟨rfl, hM⟩⟩) ?_
    refine QE.op rfl rfl (.inl ⟨rfl, fun f' H' hf hM => AOp.sneD rfl ((hf 20 rfl).trans rfl) ((hf 24 rfl).trans rfl) ⟨rfl, hM⟩⟩) ?_
    refine QE.done fun H10 m11 => ?_
    have m12 := m8.trans m11
    refine AOps.nil ?_
    change AWP _ _ _ _ _ _
    by_cases b13 : (at_ a i) = (at_ b i)
    ·
     refine AWP.condF rfl (nb (decide_eq_true b13)) ?_
     refine AWP.skip ?_
     change AWP _ _ _ _ _ _
     refine AWP.region (l := [0, 1, 2]) rfl ?_
     refine AOps.cons rfl rfl (AOp.move (.int .i64 i) rfl s5 ?_)
     refine AOps.cons rfl rfl (AOp.bin (.int .i64 (i + 1)) rfl rfl rfl (iadd (by omega)) ?_)
     refine AOps.cons rfl rfl (AOp.assign (.int .i64 (i + 1)) rfl rfl ?_)
     refine AOps.nil ?_
     exact ⟨_, by omega, i + 1, rfl, rfl, s6, s7, m12, by omega, by omega, by assumption, by exact pre_step pre (b13)⟩
    ·
     refine AWP.condT rfl (nb (decide_eq_false b13)) ?_
     refine AWP.seq ?_
     refine AWP.region (l := [0]) rfl ?_
     refine AOps.cons rfl rfl (AOp.assign (.bool false) rfl rfl ?_)
     refine AOps.nil ?_
     change AWP _ _ _ _ _ _
     refine AWP.ret ?_
     refine ⟨_, _, Ghost.refl, .inr rfl, _, Res.one rfl rfl, ?_, m12⟩
     exact (congrArg AV.bool (rfl.trans (decide_eq_false (show ¬ (a = b) from by rintro rfl; first | omega | (exact absurd rfl b13))).symm))
   ·
    refine AWP.condF rfl (decide_eq_false b9) ?_
    refine AWP.exit ?_
    change AWP _ _ _ _ _ _
    refine AWP.seq ?_
    refine AWP.region (l := [0]) rfl ?_
    refine AOps.cons rfl rfl (AOp.assign (.bool true) rfl rfl ?_)
    refine AOps.nil ?_
    change AWP _ _ _ _ _ _
    refine AWP.ret ?_
    refine ⟨_, _, Ghost.refl, .inr rfl, _, Res.one rfl rfl, ?_, m8⟩
    exact (congrArg AV.bool (rfl.trans (decide_eq_true (show a = b from by exact ext_at (by omega) (fun j h1 h2 => pre j h1 (by omega)))).symm))
 ·
  refine AWP.condT rfl (nb (decide_eq_false b1)) ?_
  refine AWP.seq ?_
  refine AWP.region (l := [0]) rfl ?_
  refine AOps.cons rfl rfl (AOp.assign (.bool false) rfl rfl ?_)
  refine AOps.nil ?_
  change AWP _ _ _ _ _ _
  refine AWP.ret ?_
  refine ⟨_, _, Ghost.refl, .inr rfl, _, Res.one rfl rfl, ?_, m0⟩
  exact (congrArg AV.bool (rfl.trans (decide_eq_false (show ¬ (a = b) from by rintro rfl; first | omega | (exact absurd rfl b1))).symm))
end Go.Proofs.L
namespace Go.Proofs.L
open Go Go.AH Go.Lib
set_option maxRecDepth 4000
set_option linter.unusedSectionVars false
variable [LexG]
/-! ### Names -/
def okN (s : ByteArray) (j : Int) : Prop := (97 ≤ byt s j ∧ byt s j ≤ 122) ∨ (0 < j ∧ ((48 ≤ byt s j ∧ byt s j ≤ 57) ∨ byt s j = 95 ∨ byt s j = 46))
instance (s : ByteArray) (j : Int) : Decidable (okN s j) := by unfold okN; infer_instance
def nameB (s : ByteArray) : Bool := decide (1 ≤ s.size) && (decide (s.size ≤ 16) && (List.range s.size).all fun j => decide (okN s j))
theorem nameB_iff {s : ByteArray} : nameB s = true ↔ 1 ≤ s.size ∧ s.size ≤ 16 ∧ ∀ j : Int, 0 ≤ j → j < s.size → okN s j := by
  unfold nameB
  simp only [Bool.and_eq_true, decide_eq_true_eq, List.all_eq_true, List.mem_range]
  constructor
  · rintro ⟨a, b, c⟩
    refine ⟨a, b, fun j h1 h2 => ?_⟩
    have := c j.toNat (by omega)
    rwa [show ((j.toNat : Nat) : Int) = j by omega] at this
  · rintro ⟨a, b, c⟩
    exact ⟨a, b, fun j hj => c j (by omega) (by omega)⟩
theorem nameB_of {s : ByteArray} (h1 : 1 ≤ s.size) (h2 : s.size ≤ 16) (h : ∀ j : Int, 0 ≤ j → j < s.size → okN s j) : nameB s = true := nameB_iff.2 ⟨h1, h2, h⟩
theorem nameB_size {s : ByteArray} (h : s.size < 1 ∨ 16 < s.size) : nameB s = false := by
  rw [Bool.eq_false_iff]
  intro e
  obtain ⟨a, b, _⟩ := nameB_iff.1 e
  omega
theorem nameB_at {s : ByteArray} {i : Int} (h0 : 0 ≤ i) (h1 : i < s.size) (h : ¬ okN s i) : nameB s = false := by
  rw [Bool.eq_false_iff]
  intro e
  exact h ((nameB_iff.1 e).2.2 i h0 h1)
theorem okN_step {s : ByteArray} {i : Int} (pre : ∀ j : Int, 0 ≤ j → j < i → okN s j) (h : okN s i) : ∀ j : Int, 0 ≤ j → j < i + 1 → okN s j := fun j h1 h2 => by
  rcases Int.lt_or_eq_of_le (show j ≤ i by omega) with e | e
  · exact pre j h1 e
  · subst e; exact h
theorem name_step {s : ByteArray} {p : Nat} (h : p < s.size) (pre : ∀ j : Int, 0 ≤ j → j < p → okN s j)
    (hc : (97 ≤ ((Utf8.decode s p).1 : Int) ∧ ((Utf8.decode s p).1 : Int) ≤ 122) ∨ ((p : Int) > 0 ∧ ((48 ≤ ((Utf8.decode s p).1 : Int) ∧ ((Utf8.decode s p).1 : Int) ≤ 57) ∨ ((Utf8.decode s p).1 : Int) = 95 ∨ ((Utf8.decode s p).1 : Int) = 46))) :
    ∀ j : Int, 0 ≤ j → j < ((p + (Utf8.decode s p).2 : Nat) : Int) → okN s j := by
  rcases decode_lo h with ⟨d1, d2, d3⟩ | ⟨d1, d2, d3⟩
  · rw [d3]
    have := okN_step pre (i := p) (by unfold okN; omega)
    intro j h1 h2
    exact this j h1 (by omega)
  · omega
theorem name_no {s : ByteArray} {p : Nat} (h : p < s.size)
    (hc : ¬ ((97 ≤ ((Utf8.decode s p).1 : Int) ∧ ((Utf8.decode s p).1 : Int) ≤ 122) ∨ ((p : Int) > 0 ∧ ((48 ≤ ((Utf8.decode s p).1 : Int) ∧ ((Utf8.decode s p).1 : Int) ≤ 57) ∨ ((Utf8.decode s p).1 : Int) = 95 ∨ ((Utf8.decode s p).1 : Int) = 46)))) : nameB s = false := by
  refine nameB_at (i := p) (by omega) (by omega) ?_
  rcases decode_lo h with ⟨d1, d2, d3⟩ | ⟨d1, d2, d3⟩
  · unfold okN; omega
  · unfold okN; omega
/-! ### Numbers, as the document has them -/
theorem line_ext {a b : LineT} (h1 : a.No = b.No) (h2 : a.Words = b.Words) : a = b := by
  cases a; cases b; simp_all
deriving instance DecidableEq for LineT
theorem at_mem {α : Type} [Inhabited α] {l : List α} {i : Int} (h0 : 0 ≤ i) (h1 : i < l.length) : at_ l i ∈ l := by
  unfold at_
  rw [List.getD_eq_getElem?_getD, List.getElem?_eq_getElem (by omega : i.toNat < l.length)]
  exact List.getElem_mem _
end Go.Proofs.L
namespace Go.Proofs.L
open Go Go.AH Go.Lib
set_option maxRecDepth 4000
set_option linter.unusedSectionVars false
variable [LexG]
/-! ### A text's pieces, as lists of bytes -/
def pcs : List UInt8 → List (List UInt8)
  | [] => [[]]
  | b :: l => if b = 10 then [] :: pcs l else (b :: (pcs l).headD []) :: (pcs l).tail
theorem pcs_ne (l : List UInt8) : pcs l ≠ [] := by
  cases l with
  | nil => simp [pcs]
  | cons b l => unfold pcs; split <;> simp
theorem split_miss {l : List UInt8} (h : index l [10] = -1) : pcs l = [l] := by
  induction l with
  | nil => rfl
  | cons b l ih =>
    unfold index at h
    by_cases hb : b = 10
    · subst hb; simp at h
    · have hp : ([10] : List UInt8).isPrefixOf (b :: l) = false := by simp [List.isPrefixOf, Ne.symm hb]
      rw [hp] at h
      simp only [Bool.false_eq_true, if_false] at h
      have h2 : index l [10] = -1 := by
        split at h
        · rename_i g; exact beq_iff_eq.1 g
        · have := index_ge l [10]; omega
      unfold pcs
      rw [if_neg hb, ih h2]
      rfl
theorem split_hit : ∀ {l : List UInt8} {i : Nat}, index l [10] = i → pcs l = l.take i :: pcs (l.drop (i + 1))
  | [], i, h => by simp [index] at h
  | b :: l, i, h => by
    unfold index at h
    by_cases hb : b = 10
    · subst hb
      simp at h
      obtain rfl : i = 0 := by omega
      rw [pcs, if_pos rfl]; simp
    · have hp : ([10] : List UInt8).isPrefixOf (b :: l) = false := by simp [List.isPrefixOf, Ne.symm hb]
      rw [hp] at h
      simp only [Bool.false_eq_true, if_false] at h
      split at h
      · omega
      · have hge := index_ge l [10]
        rename_i hne
        have hne : index l [10] ≠ -1 := fun e => hne (beq_iff_eq.2 e)
        obtain ⟨j, hj⟩ : ∃ j : Nat, index l [10] = j := ⟨(index l [10]).toNat, by omega⟩
        obtain rfl : i = j + 1 := by omega
        rw [pcs, if_neg hb, split_hit hj]
        simp
theorem splitK_pcs : ∀ (k : Nat) (l : List UInt8), count l [10] = k → splitK [10] 0 k l = pcs l
  | 0, l, h => by
    rw [splitK]
    by_cases hi : index l [10] = -1
    · exact (split_miss hi).symm
    · have := index_ge l [10]
      have := count_hit (s := l) (sub := [10]) (i := (index l [10]).toNat) (by simp) (by omega)
      omega
  | k + 1, l, h => by
    by_cases hi : index l [10] = -1
    · rw [count_miss hi] at h; omega
    · have := index_ge l [10]
      obtain ⟨i, hii⟩ : ∃ i : Nat, index l [10] = i := ⟨(index l [10]).toNat, by omega⟩
      have hc := count_hit (s := l) (sub := [10]) (i := i) (by simp) hii
      rw [splitK, if_neg (by simpa using hi), hii, split_hit hii]
      simp only [Int.toNat_natCast, Nat.add_zero, List.length_cons, List.length_nil, Nat.zero_add]
      rw [splitK_pcs k _ (by simp at hc; omega)]
theorem pieces_pcs (s : ByteArray) : (pieces s).map (·.data.toList) = pcs s.data.toList := by
  unfold pieces
  rw [splitB_data]
  exact splitK_pcs _ _ rfl
theorem pcs_length : ∀ l : List UInt8, (pcs l).length ≤ l.length + 1
  | [] => by simp [pcs]
  | b :: l => by
    have := pcs_length l
    unfold pcs; split
    · simp; omega
    · simp; omega
theorem pcs_sub : ∀ (l : List UInt8) (p : List UInt8), p ∈ pcs l → p.length ≤ l.length
  | [], p, h => by simp [pcs] at h; subst h; simp
  | b :: l, p, h => by
    have ih := pcs_sub l
    unfold pcs at h
    split at h
    · rcases List.mem_cons.1 h with e | e
      · subst e; simp
      · have := ih p e; simp; omega
    · rcases List.mem_cons.1 h with e | e
      · subst e
        have := ih ((pcs l).headD []) (by
          have := pcs_ne l
          cases hq : pcs l with
          | nil => exact absurd hq this
          | cons a r => simp)
        simpa using this
      · have := ih p (List.mem_of_mem_tail e); simp; omega
theorem blen (s : ByteArray) : s.data.toList.length = s.size := rfl
theorem pieces_len (s : ByteArray) : (pieces s).length ≤ s.size + 1 := by
  have := pcs_length s.data.toList
  rw [← pieces_pcs, List.length_map] at this
  exact this
theorem piece_size {s : ByteArray} {i : Int} (h0 : 0 ≤ i) (h1 : i < (pieces s).length) : (at_ (pieces s) i).size ≤ s.size := by
  have := pcs_sub s.data.toList (at_ (pieces s) i).data.toList (by rw [← pieces_pcs]; exact List.mem_map.2 ⟨_, at_mem h0 h1, rfl⟩)
  exact this
theorem cut_take (l : List UInt8) (sep : List UInt8) : (cut l sep).1.Sublist l := by
  unfold cut
  split
  · exact List.take_sublist _ _
  · exact List.Sublist.refl _
theorem cut1_size (p : ByteArray) : (cut1 p).size ≤ p.size := by
  have : (cut1 p).size = (cut p.data.toList [35]).1.length := List.size_toArray
  rw [this]
  exact (cut_take _ _).length_le
theorem okB_mem {p : ByteArray} (h : okB p) {b : UInt8} (hb : b ∈ p.data.toList) : 32 ≤ b.toNat ∧ b.toNat ≤ 126 := by
  obtain ⟨j, hj, rfl⟩ := List.mem_iff_getElem.1 hb
  have hj' : j < p.size := hj
  have := h j hj'
  unfold byt at this
  rw [Int.toNat_natCast, List.getD_eq_getElem?_getD, List.getElem?_eq_getElem hj] at this
  simp only [Option.getD_some] at this
  omega
theorem cut1_asc {p : ByteArray} (h : okB p) : ∀ (j : Nat) b, (cut1 p).data.toList[j]? = some b → b.toNat < 128 := fun j b hb => by
  have hm : b ∈ (cut p.data.toList [35]).1 := List.mem_of_getElem? (by simpa [cut1] using hb)
  have := okB_mem h ((cut_take _ _).subset hm)
  omega
/-! ### What the program's Lines answers -/
def lineOf (i : Int) (p : ByteArray) : List LineT := if 0 < ((wordsB (cut1 p)).length : Int) then [⟨i + 1, wordsB (cut1 p)⟩] else []
theorem lineOf_T {i : Int} {p : ByteArray} (h : 0 < ((wordsB (cut1 p)).length : Int)) : lineOf i p = [⟨i + 1, wordsB (cut1 p)⟩] := if_pos h
theorem lineOf_F {i : Int} {p : ByteArray} (h : ¬ 0 < ((wordsB (cut1 p)).length : Int)) : lineOf i p = [] := if_neg h
def scanL : List ByteArray → Int → List LineT → List LineT × Int × Int
  | [], _, out => (out, 0, 0)
  | p :: r, i, out => if 0 ≤ idxR p then ([], i + 1, 10) else scanL r (i + 1) (out ++ lineOf i p)
def linesR (s : ByteArray) : List LineT × Int × Int := if 65536 < (s.size : Int) then ([], 0, 13) else scanL (pieces s) 0 []
theorem lineOf_grow {out : List LineT} {i : Int} (p : ByteArray) (h : (out.length : Int) ≤ i) : ((out ++ lineOf i p).length : Int) ≤ i + 1 := by
  have : (lineOf i p).length ≤ 1 := by unfold lineOf; split <;> simp
  rw [List.length_append]; omega
theorem linesR_big {s : ByteArray} (h : 65536 < (s.size : Int)) : linesR s = ([], 0, 13) := if_pos h
theorem linesR_start {s : ByteArray} (h : ¬ 65536 < (s.size : Int)) : linesR s = scanL ((pieces s).drop (0 : Int).toNat) 0 [] := if_neg h
theorem drop_at {α : Type} [Inhabited α] {l : List α} {i : Int} (h0 : 0 ≤ i) (h1 : i < l.length) : l.drop i.toNat = at_ l i :: l.drop (i + 1).toNat := by
  rw [List.drop_eq_getElem_cons (by omega : i.toNat < l.length), show (i + 1).toNat = i.toNat + 1 by omega]
  unfold at_
  rw [List.getD_eq_getElem?_getD, List.getElem?_eq_getElem (by omega : i.toNat < l.length)]
  rfl
theorem scan_step {l : List ByteArray} {i : Int} {out : List LineT} (h0 : 0 ≤ i) (h1 : i < l.length) (hx : ¬ 0 ≤ idxR (at_ l i)) : scanL (l.drop i.toNat) i out = scanL (l.drop (i + 1).toNat) (i + 1) (out ++ lineOf i (at_ l i)) := by
  rw [drop_at h0 h1, scanL, if_neg hx]
theorem scan_bad {l : List ByteArray} {i : Int} {out : List LineT} (h0 : 0 ≤ i) (h1 : i < l.length) (hx : 0 ≤ idxR (at_ l i)) : scanL (l.drop i.toNat) i out = ([], i + 1, 10) := by
  rw [drop_at h0 h1, scanL, if_pos hx]
theorem scan_end {l : List ByteArray} {i : Int} {out : List LineT} (h : (l.length : Int) ≤ i) : scanL (l.drop i.toNat) i out = (out, 0, 0) := by
  rw [List.drop_of_length_le (by omega)]; rfl
end Go.Proofs.L
namespace Go.Proofs.L
open Go Go.AH
set_option maxRecDepth 4000
set_option linter.unusedSimpArgs false
set_option linter.unusedVariables false
variable [LexG]
theorem c_lex_Name (s : ByteArray) : PC Tryd.prog 15 [.str s] (.bool (nameB s)) := by
 intro H0
 refine ACalls.of_body' (n := 45) rfl rfl rfl rfl ?_
 have m0 := Mono.refl H0
 refine AWP.seq ?_
 refine AWP.region (l := [0]) rfl ?_
 refine AOps.cons rfl rfl (AOp.assign (.bool false) rfl rfl ?_)
 refine AOps.nil ?_
 change AWP _ _ _ _ _ _
 refine AWP.seq ?_
 refine AWP.seq ?_
 refine AWP.region (l := [0, 1, 2, 3, 4, 5, 6, 7]) rfl ?_
 refine AOps.cons rfl rfl (AOp.move (.str s) rfl rfl ?_)
 refine AOps.cons rfl rfl (AOp.lenStr rfl rfl u_9 ?_)
 refine AOps.cons rfl rfl (AOp.bin (.bool (decide ((s.size : Int) = 0))) rfl rfl rfl ieq ?_)
 refine AOps.cons rfl rfl (AOp.move (.bool (decide ((s.size : Int) = 0))) rfl rfl ?_)
 by_cases b1 : (s.size : Int) = 0
 ·
  refine AOps.no rfl rfl rfl rfl rfl rfl rfl (ble_of (decide_eq_true b1) (by decide)) ?_
  refine AOps.no rfl rfl rfl rfl rfl rfl rfl (ble_of (decide_eq_true b1) (by decide)) ?_
  refine AOps.no rfl rfl rfl rfl rfl rfl rfl (ble_of (decide_eq_true b1) (by decide)) ?_
  refine AOps.cons rfl rfl (AOp.pickT (.bool true) rfl rfl (decide_eq_true b1) rfl ?_)
  refine AOps.nil ?_
  change AWP _ _ _ _ _ _
  refine AWP.condT rfl rfl ?_
  refine AWP.seq ?_
  refine AWP.region (l := [0]) rfl ?_
  refine AOps.cons rfl rfl (AOp.assign (.bool false) rfl rfl ?_)
  refine AOps.nil ?_
  change AWP _ _ _ _ _ _
  refine AWP.ret ?_
  refine ⟨_, _, Ghost.refl, .inr rfl, _, Res.one rfl rfl, ?_, m0⟩
  exact (congrArg AV.bool (show (false : Bool) = nameB s from by first | exact (nameB_size (by omega)).symm | exact (nameB_of (by omega) (by omega) (fun j h1 h2 => pre j h1 (by omega))).symm))
 ·
  refine AOps.yes rfl rfl rfl rfl rfl rfl rfl (decide_eq_false b1) (AOp.move (.str s) rfl rfl ?_)
  refine AOps.yes rfl rfl rfl rfl rfl rfl rfl (decide_eq_false b1) (AOp.lenStr rfl rfl u_9 ?_)
  refine AOps.yes rfl rfl rfl rfl rfl rfl rfl (decide_eq_false b1) (AOp.bin (.bool (decide ((s.size : Int) > 16))) rfl rfl rfl rfl ?_)
  refine AOps.cons rfl rfl (AOp.pickF (.bool (decide ((s.size : Int) > 16))) rfl rfl (decide_eq_false b1) rfl ?_)
  refine AOps.nil ?_
  change AWP _ _ _ _ _ _
  by_cases b2 : (s.size : Int) > 16
  ·
   refine AWP.condT rfl (decide_eq_true b2) ?_
   refine AWP.seq ?_
   refine AWP.region (l := [0]) rfl ?_
   refine AOps.cons rfl rfl (AOp.assign (.bool false) rfl rfl ?_)
   refine AOps.nil ?_
   change AWP _ _ _ _ _ _
   refine AWP.ret ?_
   refine ⟨_, _, Ghost.refl, .inr rfl, _, Res.one rfl rfl, ?_, m0⟩
   exact (congrArg AV.bool (show (false : Bool) = nameB s from by first | exact (nameB_size (by omega)).symm | exact (nameB_of (by omega) (by omega) (fun j h1 h2 => pre j h1 (by omega))).symm))
  ·
   refine AWP.condF rfl (decide_eq_false b2) ?_
   refine AWP.skip ?_
   change AWP _ _ _ _ _ _
   refine AWP.seq ?_
   refine AWP.seq ?_
   refine AWP.region (l := [0, 1]) rfl ?_
   refine AOps.cons rfl rfl (AOp.move (.str s) rfl rfl ?_)
   refine AOps.cons rfl rfl (AOp.rangeS rfl rfl u_9 ?_)
   intro i3 H4 n5 h6 k7
   have z8 := Mono.free m0 n5
   have m9 := Mono.new m0 n5 k7
   refine AOps.nil ?_
   change AWP _ _ _ _ _ _
   refine AWP.block ?_
   refine AWP.loop (fun q10 fq Hq => ∃ (p : Nat), q10 = s.size - p ∧ fq 14 = .it i3 ∧ Hq i3 = some (.iter (.str s p)) ∧ Mono H0 Hq ∧ (∀ j : Int, 0 ≤ j → j < p → okN s j)) (k := s.size - 0) ?_ ?_
   ·
    exact ⟨0, rfl, rfl, h6, m9, by intro j; omega⟩
   ·
    rintro _ f12 H11 ⟨p, rfl, s13, h14, m15, pre⟩
    refine AWP.seq ?_
    refine AWP.region (l := [0, 1]) rfl ?_
    refine AOps.cons rfl rfl (AOp.nextS rfl s13 h14 ?_ ?_)
    ·
     intro hle16
     refine AOps.cons rfl rfl (AOp.extract (.bool false) rfl rfl rfl ?_)
     refine AOps.nil ?_
     change AWP _ _ _ _ _ _
     refine AWP.seq ?_
     refine AWP.condF rfl rfl ?_
     refine AWP.exit ?_
     change AWP _ _ _ _ _ _
     refine AWP.seq ?_
     refine AWP.region (l := [0]) rfl ?_
     refine AOps.cons rfl rfl (AOp.assign (.bool true) rfl rfl ?_)
     refine AOps.nil ?_
     change AWP _ _ _ _ _ _
     refine AWP.ret ?_
     refine ⟨_, _, Ghost.refl, .inr rfl, _, Res.one rfl rfl, ?_, m15⟩
     exact (congrArg AV.bool (show (true : Bool) = nameB s from by first | exact (nameB_size (by omega)).symm | exact (nameB_of (by omega) (by omega) (fun j h1 h2 => pre j h1 (by omega))).symm))
    ·
     intro H17 hlt18 h19 k20
     have m22 := Mono.set m15 z8 k20
     refine AOps.cons rfl rfl (AOp.extract (.bool true) rfl rfl rfl ?_)
     refine AOps.nil ?_
     change AWP _ _ _ _ _ _
     refine AWP.seq ?_
     refine AWP.condT rfl rfl ?_
     refine AWP.skip ?_
     change AWP _ _ _ _ _ _
     refine AWP.block ?_
     refine AWP.seq ?_
     have hw := dec_pos s p
     refine AWP.region (l := [0, 1, 2, 3]) rfl ?_
     refine AOps.cons rfl rfl (AOp.extract (.int .i64 (p : Int)) rfl rfl rfl ?_)
     refine AOps.cons rfl rfl (AOp.extract (.int .i32 ((Utf8.decode s p).1 : Int)) rfl rfl rfl ?_)
     refine AOps.cons rfl rfl (AOp.assign (.int .i64 (p : Int)) rfl rfl ?_)
     refine AOps.cons rfl rfl (AOp.assign (.int .i32 ((Utf8.decode s p).1 : Int)) rfl rfl ?_)
     refine AOps.nil ?_
     change AWP _ _ _ _ _ _
     refine AWP.block ?_
     refine AWP.seq ?_
     refine AWP.region (l := [0, 1, 2, 3, 4, 5, 6]) rfl ?_
     refine AOps.cons rfl rfl (AOp.move (.int .i32 ((Utf8.decode s p).1 : Int)) rfl rfl ?_)
     refine AOps.cons rfl rfl (AOp.bin (.bool (decide (97 ≤ ((Utf8.decode s p).1 : Int)))) rfl rfl rfl rfl ?_)
     refine AOps.cons rfl rfl (AOp.move (.bool (decide (97 ≤ ((Utf8.decode s p).1 : Int)))) rfl rfl ?_)
     by_cases b23 : 97 ≤ ((Utf8.decode s p).1 : Int)
     ·
      refine AOps.yes rfl rfl rfl rfl rfl rfl rfl (decide_eq_true b23) (AOp.move (.int .i32 ((Utf8.decode s p).1 : Int)) rfl rfl ?_)
      refine AOps.yes rfl rfl rfl rfl rfl rfl rfl (decide_eq_true b23) (AOp.bin (.bool (decide (((Utf8.decode s p).1 : Int) ≤ 122))) rfl rfl rfl rfl ?_)
      refine AOps.cons rfl rfl (AOp.pickT (.bool (decide (((Utf8.decode s p).1 : Int) ≤ 122))) rfl rfl (decide_eq_true b23) rfl ?_)
      refine AOps.cons rfl rfl (AOp.assign (.bool (decide (((Utf8.decode s p).1 : Int) ≤ 122))) rfl rfl ?_)
      refine AOps.nil ?_
      change AWP _ _ _ _ _ _
      by_cases b24 : ((Utf8.decode s p).1 : Int) ≤ 122
      ·
       refine AWP.condT rfl (decide_eq_true b24) ?_
       refine AWP.skip ?_
       exact ⟨_, by omega, (p + (Utf8.decode s p).2), rfl, s13, h19, m22, by exact name_step hlt18 pre (by omega)⟩
      ·
       refine AWP.condF rfl (decide_eq_false b24) ?_
       refine AWP.seq ?_
       refine AWP.region (l := [0, 1, 2, 3, 4, 5, 6, 7, 8, 9, 10, 11, 12, 13, 14, 15, 16, 17, 18]) rfl ?_
       refine AOps.cons rfl rfl (AOp.move (.int .i64 (p : Int)) rfl rfl ?_)
       refine AOps.cons rfl rfl (AOp.bin (.bool (decide ((p : Int) > 0))) rfl rfl rfl rfl ?_)
       refine AOps.cons rfl rfl (AOp.move (.bool (decide ((p : Int) > 0))) rfl rfl ?_)
       by_cases b25 : (p : Int) > 0
       ·
        refine AOps.yes rfl rfl rfl rfl rfl rfl rfl (decide_eq_true b25) (AOp.move (.int .i32 ((Utf8.decode s p).1 : Int)) rfl rfl ?_)
        refine AOps.yes rfl rfl rfl rfl rfl rfl rfl (decide_eq_true b25) (AOp.bin (.bool (decide (48 ≤ ((Utf8.decode s p).1 : Int)))) rfl rfl rfl rfl ?_)
        refine AOps.yes rfl rfl rfl rfl rfl rfl rfl (decide_eq_true b25) (AOp.move (.bool (decide (48 ≤ ((Utf8.decode s p).1 : Int)))) rfl rfl ?_)
        by_cases b26 : 48 ≤ ((Utf8.decode s p).1 : Int)
        ·
         refine AOps.yes rfl rfl rfl rfl rfl rfl rfl (decide_eq_true b26) (AOp.move (.int .i32 ((Utf8.decode s p).1 : Int)) rfl rfl ?_)
         refine AOps.yes rfl rfl rfl rfl rfl rfl rfl (decide_eq_true b26) (AOp.bin (.bool (decide (((Utf8.decode s p).1 : Int) ≤ 57))) rfl rfl rfl rfl ?_)
         refine AOps.yes rfl rfl rfl rfl rfl rfl rfl (decide_eq_true b25) (AOp.pickT (.bool (decide (((Utf8.decode s p).1 : Int) ≤ 57))) rfl rfl (decide_eq_true b26) rfl ?_)
         refine AOps.yes rfl rfl rfl rfl rfl rfl rfl (decide_eq_true b25) (AOp.move (.bool (decide (((Utf8.decode s p).1 : Int) ≤ 57))) rfl rfl ?_)
         by_cases b27 : ((Utf8.decode s p).1 : Int) ≤ 57
         ·
          refine AOps.no rfl rfl rfl rfl rfl rfl rfl (ble_of (decide_eq_true b27) (by decide)) ?_
          refine AOps.no rfl rfl rfl rfl rfl rfl rfl (ble_of (decide_eq_true b27) (by decide)) ?_
          refine AOps.yes rfl rfl rfl rfl rfl rfl rfl (decide_eq_true b25) (AOp.pickT (.bool true) rfl rfl (decide_eq_true b27) rfl ?_)
          refine AOps.yes rfl rfl rfl rfl rfl rfl rfl (decide_eq_true b25) (AOp.move (.bool true) rfl rfl ?_)
          refine AOps.no rfl rfl rfl rfl rfl rfl rfl (ble_of rfl (by decide)) ?_
          refine AOps.no rfl rfl rfl rfl rfl rfl rfl (ble_of rfl (by decide)) ?_
          refine AOps.yes rfl rfl rfl rfl rfl rfl rfl (decide_eq_true b25) (AOp.pickT (.bool true) rfl rfl rfl rfl ?_)
          refine AOps.cons rfl rfl (AOp.pickT (.bool true) rfl rfl (decide_eq_true b25) rfl ?_)
          refine AOps.cons rfl rfl (AOp.assign (.bool true) rfl rfl ?_)
          refine AOps.nil ?_
          change AWP _ _ _ _ _ _
          refine AWP.condT rfl rfl ?_
          refine AWP.skip ?_
          exact ⟨_, by omega, (p + (Utf8.decode s p).2), rfl, s13, h19, m22, by exact name_step hlt18 pre (by omega)⟩
         ·
          refine AOps.yes rfl rfl rfl rfl rfl rfl rfl (decide_eq_false b27) (AOp.move (.int .i32 ((Utf8.decode s p).1 : Int)) rfl rfl ?_)
          refine AOps.yes rfl rfl rfl rfl rfl rfl rfl (decide_eq_false b27) (AOp.bin (.bool (decide (((Utf8.decode s p).1 : Int) = 95))) rfl rfl rfl ieq ?_)
          refine AOps.yes rfl rfl rfl rfl rfl rfl rfl (decide_eq_true b25) (AOp.pickF (.bool (decide (((Utf8.decode s p).1 : Int) = 95))) rfl rfl (decide_eq_false b27) rfl ?_)
          refine AOps.yes rfl rfl rfl rfl rfl rfl rfl (decide_eq_true b25) (AOp.move (.bool (decide (((Utf8.decode s p).1 : Int) = 95))) rfl rfl ?_)
          by_cases b28 : ((Utf8.decode s p).1 : Int) = 95
          ·
           refine AOps.no rfl rfl rfl rfl rfl rfl rfl (ble_of (decide_eq_true b28) (by decide)) ?_
           refine AOps.no rfl rfl rfl rfl rfl rfl rfl (ble_of (decide_eq_true b28) (by decide)) ?_
           refine AOps.yes rfl rfl rfl rfl rfl rfl rfl (decide_eq_true b25) (AOp.pickT (.bool true) rfl rfl (decide_eq_true b28) rfl ?_)
           refine AOps.cons rfl rfl (AOp.pickT (.bool true) rfl rfl (decide_eq_true b25) rfl ?_)
           refine AOps.cons rfl rfl (AOp.assign (.bool true) rfl rfl ?_)
           refine AOps.nil ?_
           change AWP _ _ _ _ _ _
           refine AWP.condT rfl rfl ?_
           refine AWP.skip ?_
           exact ⟨_, by omega, (p + (Utf8.decode s p).2), rfl, s13, h19, m22, by exact name_step hlt18 pre (by omega)⟩
          ·
           refine AOps.yes rfl rfl rfl rfl rfl rfl rfl (decide_eq_false b28) (AOp.move (.int .i32 ((Utf8.decode s p).1 : Int)) rfl rfl ?_)
           refine AOps.yes rfl rfl rfl rfl rfl rfl rfl (decide_eq_false b28) (AOp.bin (.bool (decide (((Utf8.decode s p).1 : Int) = 46))) rfl rfl rfl ieq ?_)
           refine AOps.yes rfl rfl rfl rfl rfl rfl rfl (decide_eq_true b25) (AOp.pickF (.bool (decide (((Utf8.decode s p).1 : Int) = 46))) rfl rfl (decide_eq_false b28) rfl ?_)
           refine AOps.cons rfl rfl (AOp.pickT (.bool (decide (((Utf8.decode s p).1 : Int) = 46))) rfl rfl (decide_eq_true b25) rfl ?_)
           refine AOps.cons rfl rfl (AOp.assign (.bool (decide (((Utf8.decode s p).1 : Int) = 46))) rfl rfl ?_)
           refine AOps.nil ?_
           change AWP _ _ _ _ _ _
           by_cases b29 : ((Utf8.decode s p).1 : Int) = 46
           ·
            refine AWP.condT rfl (decide_eq_true b29) ?_
            refine AWP.skip ?_
            exact ⟨_, by omega, (p + (Utf8.decode s p).2), rfl, s13, h19, m22, by exact name_step hlt18 pre (by omega)⟩
           ·
            refine AWP.condF rfl (decide_eq_false b29) ?_
            refine AWP.seq ?_
            refine AWP.region (l := [0]) rfl ?_
            refine AOps.cons rfl rfl (AOp.assign (.bool false) rfl rfl ?_)
            refine AOps.nil ?_
            change AWP _ _ _ _ _ _
            refine AWP.ret ?_
            refine ⟨_, _, Ghost.refl, .inr rfl, _, Res.one rfl rfl, ?_, m22⟩
            exact (congrArg AV.bool (show (false : Bool) = nameB s from by exact (name_no hlt18 (by omega)).symm))
        ·
         refine AOps.no rfl rfl rfl rfl rfl rfl rfl (ble_of (decide_eq_false b26) (by decide)) ?_
         refine AOps.no rfl rfl rfl rfl rfl rfl rfl (ble_of (decide_eq_false b26) (by decide)) ?_
         refine AOps.yes rfl rfl rfl rfl rfl rfl rfl (decide_eq_true b25) (AOp.pickF (.bool false) rfl rfl (decide_eq_false b26) rfl ?_)
         refine AOps.yes rfl rfl rfl rfl rfl rfl rfl (decide_eq_true b25) (AOp.move (.bool false) rfl rfl ?_)
         refine AOps.yes rfl rfl rfl rfl rfl rfl rfl rfl (AOp.move (.int .i32 ((Utf8.decode s p).1 : Int)) rfl rfl ?_)
         refine AOps.yes rfl rfl rfl rfl rfl rfl rfl rfl (AOp.bin (.bool (decide (((Utf8.decode s p).1 : Int) = 95))) rfl rfl rfl ieq ?_)
         refine AOps.yes rfl rfl rfl rfl rfl rfl rfl (decide_eq_true b25) (AOp.pickF (.bool (decide (((Utf8.decode s p).1 : Int) = 95))) rfl rfl rfl rfl ?_)
         refine AOps.yes rfl rfl rfl rfl rfl rfl rfl (decide_eq_true b25) (AOp.move (.bool (decide (((Utf8.decode s p).1 : Int) = 95))) rfl rfl ?_)
         by_cases b30 : ((Utf8.decode s p).1 : Int) = 95
         ·
          refine AOps.no rfl rfl rfl rfl rfl rfl rfl (ble_of (decide_eq_true b30) (by decide)) ?_
          refine AOps.no rfl rfl rfl rfl rfl rfl rfl (ble_of (decide_eq_true b30) (by decide)) ?_
          refine AOps.yes rfl rfl rfl rfl rfl rfl rfl (decide_eq_true b25) (AOp.pickT (.bool true) rfl rfl (decide_eq_true b30) rfl ?_)
          refine AOps.cons rfl rfl (AOp.pickT (.bool true) rfl rfl (decide_eq_true b25) rfl ?_)
          refine AOps.cons rfl rfl (AOp.assign (.bool true) rfl rfl ?_)
          refine AOps.nil ?_
          change AWP _ _ _ _ _ _
          refine AWP.condT rfl rfl ?_
          refine AWP.skip ?_
          exact ⟨_, by omega, (p + (Utf8.decode s p).2), rfl, s13, h19, m22, by exact name_step hlt18 pre (by omega)⟩
         ·
          refine AOps.yes rfl rfl rfl rfl rfl rfl rfl (decide_eq_false b30) (AOp.move (.int .i32 ((Utf8.decode s p).1 : Int)) rfl rfl ?_)
          refine AOps.yes rfl rfl rfl rfl rfl rfl rfl (decide_eq_false b30) (AOp.bin (.bool (decide (((Utf8.decode s p).1 : Int) = 46))) rfl rfl rfl ieq ?_)
          refine AOps.yes rfl rfl rfl rfl rfl rfl rfl (decide_eq_true b25) (AOp.pickF (.bool (decide (((Utf8.decode s p).1 : Int) = 46))) rfl rfl (decide_eq_false b30) rfl ?_)
          refine AOps.cons rfl rfl (AOp.pickT (.bool (decide (((Utf8.decode s p).1 : Int) = 46))) rfl rfl (decide_eq_true b25) rfl ?_)
          refine AOps.cons rfl rfl (AOp.assign (.bool (decide (((Utf8.decode s p).1 : Int) = 46))) rfl rfl ?_)
          refine AOps.nil ?_
          change AWP _ _ _ _ _ _
          by_cases b31 : ((Utf8.decode s p).1 : Int) = 46
          ·
           refine AWP.condT rfl (decide_eq_true b31) ?_
           refine AWP.skip ?_
           exact ⟨_, by omega, (p + (Utf8.decode s p).2), rfl, s13, h19, m22, by exact name_step hlt18 pre (by omega)⟩
          ·
           refine AWP.condF rfl (decide_eq_false b31) ?_
           refine AWP.seq ?_
           refine AWP.region (l := [0]) rfl ?_
           refine AOps.cons rfl rfl (AOp.assign (.bool false) rfl rfl ?_)
           refine AOps.nil ?_
           change AWP _ _ _ _ _ _
           refine AWP.ret ?_
           refine ⟨_, _, Ghost.refl, .inr rfl, _, Res.one rfl rfl, ?_, m22⟩
           exact (congrArg AV.bool (show (false : Bool) = nameB s from by exact (name_no hlt18 (by omega)).symm))
       ·
        refine AOps.no rfl rfl rfl rfl rfl rfl rfl (ble_of (decide_eq_false b25) (by decide)) ?_
        refine AOps.no rfl rfl rfl rfl rfl rfl rfl (ble_of (decide_eq_false b25) (by decide)) ?_
        refine AOps.no rfl rfl rfl rfl rfl rfl rfl (ble_of (decide_eq_false b25) (by decide)) ?_
        refine AOps.un rfl rfl rfl rfl rfl rfl rfl ?_
        refine AOps.un rfl rfl rfl rfl rfl rfl rfl ?_
        refine AOps.no rfl rfl rfl rfl rfl rfl rfl (ble_of (decide_eq_false b25) (by decide)) ?_
        refine AOps.no rfl rfl rfl rfl rfl rfl rfl (ble_of (decide_eq_false b25) (by decide)) ?_
        refine AOps.un rfl rfl rfl rfl rfl rfl rfl ?_
        refine AOps.un rfl rfl rfl rfl rfl rfl rfl ?_
        refine AOps.no rfl rfl rfl rfl rfl rfl rfl (ble_of (decide_eq_false b25) (by decide)) ?_
        refine AOps.no rfl rfl rfl rfl rfl rfl rfl (ble_of (decide_eq_false b25) (by decide)) ?_
        refine AOps.un rfl rfl rfl rfl rfl rfl rfl ?_
        refine AOps.un rfl rfl rfl rfl rfl rfl rfl ?_
        refine AOps.no rfl rfl rfl rfl rfl rfl rfl (ble_of (decide_eq_false b25) (by decide)) ?_
        refine AOps.cons rfl rfl (AOp.pickF (.bool false) rfl rfl (decide_eq_false b25) rfl ?_)
        refine AOps.cons rfl rfl (AOp.assign (.bool false) rfl rfl ?_)
        refine AOps.nil ?_
        change AWP _ _ _ _ _ _
        refine AWP.condF rfl rfl ?_
        refine AWP.seq ?_
        refine AWP.region (l := [0]) rfl ?_
        refine AOps.cons rfl rfl (AOp.assign (.bool false) rfl rfl ?_)
        refine AOps.nil ?_
        change AWP _ _ _ _ _ _
        refine AWP.ret ?_
        refine ⟨_, _, Ghost.refl, .inr rfl, _, Res.one rfl rfl, ?_, m22⟩
        exact (congrArg AV.bool (show (false : Bool) = nameB s from by exact (name_no hlt18 (by omega)).symm))
     ·
      refine AOps.no rfl rfl rfl rfl rfl rfl rfl (ble_of (decide_eq_false b23) (by decide)) ?_
      refine AOps.no rfl rfl rfl rfl rfl rfl rfl (ble_of (decide_eq_false b23) (by decide)) ?_
      refine AOps.cons rfl rfl (AOp.pickF (.bool false) rfl rfl (decide_eq_false b23) rfl ?_)
      refine AOps.cons rfl rfl (AOp.assign (.bool false) rfl rfl ?_)
      refine AOps.nil ?_
      change AWP _ _ _ _ _ _
      refine AWP.condF rfl rfl ?_
      refine AWP.seq ?_
      refine AWP.region (l := [0, 1, 2, 3, 4, 5, 6, 7, 8, 9, 10, 11, 12, 13, 14, 15, 16, 17, 18]) rfl ?_
      refine AOps.cons rfl rfl (AOp.move (.int .i64 (p : Int)) rfl rfl ?_)
      refine AOps.cons rfl rfl (AOp.bin (.bool (decide ((p : Int) > 0))) rfl rfl rfl rfl ?_)
      refine AOps.cons rfl rfl (AOp.move (.bool (decide ((p : Int) > 0))) rfl rfl ?_)
      by_cases b32 : (p : Int) > 0
      ·
       refine AOps.yes rfl rfl rfl rfl rfl rfl rfl (decide_eq_true b32) (AOp.move (.int .i32 ((Utf8.decode s p).1 : Int)) rfl rfl ?_)
       refine AOps.yes rfl rfl rfl rfl rfl rfl rfl (decide_eq_true b32) (AOp.bin (.bool (decide (48 ≤ ((Utf8.decode s p).1 : Int)))) rfl rfl rfl rfl ?_)
       refine AOps.yes rfl rfl rfl rfl rfl rfl rfl (decide_eq_true b32) (AOp.move (.bool (decide (48 ≤ ((Utf8.decode s p).1 : Int)))) rfl rfl ?_)
       by_cases b33 : 48 ≤ ((Utf8.decode s p).1 : Int)
       ·
        refine AOps.yes rfl rfl rfl rfl rfl rfl rfl (decide_eq_true b33) (AOp.move (.int .i32 ((Utf8.decode s p).1 : Int)) rfl rfl ?_)
        refine AOps.yes rfl rfl rfl rfl rfl rfl rfl (decide_eq_true b33) (AOp.bin (.bool (decide (((Utf8.decode s p).1 : Int) ≤ 57))) rfl rfl rfl rfl ?_)
        refine AOps.yes rfl rfl rfl rfl rfl rfl rfl (decide_eq_true b32) (AOp.pickT (.bool (decide (((Utf8.decode s p).1 : Int) ≤ 57))) rfl rfl (decide_eq_true b33) rfl ?_)
        refine AOps.yes rfl rfl rfl rfl rfl rfl rfl (decide_eq_true b32) (AOp.move (.bool (decide (((Utf8.decode s p).1 : Int) ≤ 57))) rfl rfl ?_)
        by_cases b34 : ((Utf8.decode s p).1 : Int) ≤ 57
        ·
         refine AOps.no rfl rfl rfl rfl rfl rfl rfl (ble_of (decide_eq_true b34) (by decide)) ?_
         refine AOps.no rfl rfl rfl rfl rfl rfl rfl (ble_of (decide_eq_true b34) (by decide)) ?_
         refine AOps.yes rfl rfl rfl rfl rfl rfl rfl (decide_eq_true b32) (AOp.pickT (.bool true) rfl rfl (decide_eq_true b34) rfl ?_)
         refine AOps.yes rfl rfl rfl rfl rfl rfl rfl (decide_eq_true b32) (AOp.move (.bool true) rfl rfl ?_)
         refine AOps.no rfl rfl rfl rfl rfl rfl rfl (ble_of rfl (by decide)) ?_
         refine AOps.no rfl rfl rfl rfl rfl rfl rfl (ble_of rfl (by decide)) ?_
         refine AOps.yes rfl rfl rfl rfl rfl rfl rfl (decide_eq_true b32) (AOp.pickT (.bool true) rfl rfl rfl rfl ?_)
         refine AOps.cons rfl rfl (AOp.pickT (.bool true) rfl rfl (decide_eq_true b32) rfl ?_)
         refine AOps.cons rfl rfl (AOp.assign (.bool true) rfl rfl ?_)
         refine AOps.nil ?_
         change AWP _ _ _ _ _ _
         refine AWP.condT rfl rfl ?_
         refine AWP.skip ?_
         exact ⟨_, by omega, (p + (Utf8.decode s p).2), rfl, s13, h19, m22, by exact name_step hlt18 pre (by omega)⟩
        ·
         refine AOps.yes rfl rfl rfl rfl rfl rfl rfl (decide_eq_false b34) (AOp.move (.int .i32 ((Utf8.decode s p).1 : Int)) rfl rfl ?_)
         refine AOps.yes rfl rfl rfl rfl rfl rfl rfl (decide_eq_false b34) (AOp.bin (.bool (decide (((Utf8.decode s p).1 : Int) = 95))) rfl rfl rfl ieq ?_)
         refine AOps.yes rfl rfl rfl rfl rfl rfl rfl (decide_eq_true b32) (AOp.pickF (.bool (decide (((Utf8.decode s p).1 : Int) = 95))) rfl rfl (decide_eq_false b34) rfl ?_)
         refine AOps.yes rfl rfl rfl rfl rfl rfl rfl (decide_eq_true b32) (AOp.move (.bool (decide (((Utf8.decode s p).1 : Int) = 95))) rfl rfl ?_)
         by_cases b35 : ((Utf8.decode s p).1 : Int) = 95
         ·
          refine AOps.no rfl rfl rfl rfl rfl rfl rfl (ble_of (decide_eq_true b35) (by decide)) ?_
          refine AOps.no rfl rfl rfl rfl rfl rfl rfl (ble_of (decide_eq_true b35) (by decide)) ?_
          refine AOps.yes rfl rfl rfl rfl rfl rfl rfl (decide_eq_true b32) (AOp.pickT (.bool true) rfl rfl (decide_eq_true b35) rfl ?_)
          refine AOps.cons rfl rfl (AOp.pickT (.bool true) rfl rfl (decide_eq_true b32) rfl ?_)
          refine AOps.cons rfl rfl (AOp.assign (.bool true) rfl rfl ?_)
          refine AOps.nil ?_
          change AWP _ _ _ _ _ _
          refine AWP.condT rfl rfl ?_
          refine AWP.skip ?_
          exact ⟨_, by omega, (p + (Utf8.decode s p).2), rfl, s13, h19, m22, by exact name_step hlt18 pre (by omega)⟩
         ·
          refine AOps.yes rfl rfl rfl rfl rfl rfl rfl (decide_eq_false b35) (AOp.move (.int .i32 ((Utf8.decode s p).1 : Int)) rfl rfl ?_)
          refine AOps.yes rfl rfl rfl rfl rfl rfl rfl (decide_eq_false b35) (AOp.bin (.bool (decide (((Utf8.decode s p).1 : Int) = 46))) rfl rfl rfl ieq ?_)
          refine AOps.yes rfl rfl rfl rfl rfl rfl rfl (decide_eq_true b32) (AOp.pickF (.bool (decide (((Utf8.decode s p).1 : Int) = 46))) rfl rfl (decide_eq_false b35) rfl ?_)
          refine AOps.cons rfl rfl (AOp.pickT (.bool (decide (((Utf8.decode s p).1 : Int) = 46))) rfl rfl (decide_eq_true b32) rfl ?_)
          refine AOps.cons rfl rfl (AOp.assign (.bool (decide (((Utf8.decode s p).1 : Int) = 46))) rfl rfl ?_)
          refine AOps.nil ?_
          change AWP _ _ _ _ _ _
          by_cases b36 : ((Utf8.decode s p).1 : Int) = 46
          ·
           refine AWP.condT rfl (decide_eq_true b36) ?_
           refine AWP.skip ?_
           exact ⟨_, by omega, (p + (Utf8.decode s p).2), rfl, s13, h19, m22, by exact name_step hlt18 pre (by omega)⟩
          ·
           refine AWP.condF rfl (decide_eq_false b36) ?_
           refine AWP.seq ?_
           refine AWP.region (l := [0]) rfl ?_
           refine AOps.cons rfl rfl (AOp.assign (.bool false) rfl rfl ?_)
           refine AOps.nil ?_
           change AWP _ _ _ _ _ _
           refine AWP.ret ?_
           refine ⟨_, _, Ghost.refl, .inr rfl, _, Res.one rfl rfl, ?_, m22⟩
           exact (congrArg AV.bool (show (false : Bool) = nameB s from by exact (name_no hlt18 (by omega)).symm))
       ·
        refine AOps.no rfl rfl rfl rfl rfl rfl rfl (ble_of (decide_eq_false b33) (by decide)) ?_
        refine AOps.no rfl rfl rfl rfl rfl rfl rfl (ble_of (decide_eq_false b33) (by decide)) ?_
        refine AOps.yes rfl rfl rfl rfl rfl rfl rfl (decide_eq_true b32) (AOp.pickF (.bool false) rfl rfl (decide_eq_false b33) rfl ?_)
        refine AOps.yes rfl rfl rfl rfl rfl rfl rfl (decide_eq_true b32) (AOp.move (.bool false) rfl rfl ?_)
        refine AOps.yes rfl rfl rfl rfl rfl rfl rfl rfl (AOp.move (.int .i32 ((Utf8.decode s p).1 : Int)) rfl rfl ?_)
        refine AOps.yes rfl rfl rfl rfl rfl rfl rfl rfl (AOp.bin (.bool (decide (((Utf8.decode s p).1 : Int) = 95))) rfl rfl rfl ieq ?_)
        refine AOps.yes rfl rfl rfl rfl rfl rfl rfl (decide_eq_true b32) (AOp.pickF (.bool (decide (((Utf8.decode s p).1 : Int) = 95))) rfl rfl rfl rfl ?_)
        refine AOps.yes rfl rfl rfl rfl rfl rfl rfl (decide_eq_true b32) (AOp.move (.bool (decide (((Utf8.decode s p).1 : Int) = 95))) rfl rfl ?_)
        by_cases b37 : ((Utf8.decode s p).1 : Int) = 95
        ·
         refine AOps.no rfl rfl rfl rfl rfl rfl rfl (ble_of (decide_eq_true b37) (by decide)) ?_
         refine AOps.no rfl rfl rfl rfl rfl rfl rfl (ble_of (decide_eq_true b37) (by decide)) ?_
         refine AOps.yes rfl rfl rfl rfl rfl rfl rfl (decide_eq_true b32) (AOp.pickT (.bool true) rfl rfl (decide_eq_true b37) rfl ?_)
         refine AOps.cons rfl rfl (AOp.pickT (.bool true) rfl rfl (decide_eq_true b32) rfl ?_)
         refine AOps.cons rfl rfl (AOp.assign (.bool true) rfl rfl ?_)
         refine AOps.nil ?_
         change AWP _ _ _ _ _ _
         refine AWP.condT rfl rfl ?_
         refine AWP.skip ?_
         exact ⟨_, by omega, (p + (Utf8.decode s p).2), rfl, s13, h19, m22, by exact name_step hlt18 pre (by omega)⟩
        ·
         refine AOps.yes rfl rfl rfl rfl rfl rfl rfl (decide_eq_false b37) (AOp.move (.int .i32 ((Utf8.decode s p).1 : Int)) rfl rfl ?_)
         refine AOps.yes rfl rfl rfl rfl rfl rfl rfl (decide_eq_false b37) (AOp.bin (.bool (decide (((Utf8.decode s p).1 : Int) = 46))) rfl rfl rfl ieq ?_)
         refine AOps.yes rfl rfl rfl rfl rfl rfl rfl (decide_eq_true b32) (AOp.pickF (.bool (decide (((Utf8.decode s p).1 : Int) = 46))) rfl rfl (decide_eq_false b37) rfl ?_)
         refine AOps.cons rfl rfl (AOp.pickT (.bool (decide (((Utf8.decode s p).1 : Int) = 46))) rfl rfl (decide_eq_true b32) rfl ?_)
         refine AOps.cons rfl rfl (AOp.assign (.bool (decide (((Utf8.decode s p).1 : Int) = 46))) rfl rfl ?_)
         refine AOps.nil ?_
         change AWP _ _ _ _ _ _
         by_cases b38 : ((Utf8.decode s p).1 : Int) = 46
         ·
          refine AWP.condT rfl (decide_eq_true b38) ?_
          refine AWP.skip ?_
          exact ⟨_, by omega, (p + (Utf8.decode s p).2), rfl, s13, h19, m22, by exact name_step hlt18 pre (by omega)⟩
         ·
          refine AWP.condF rfl (decide_eq_false b38) ?_
          refine AWP.seq ?_
          refine AWP.region (l := [0]) rfl ?_
          refine AOps.cons rfl rfl (AOp.assign (.bool false) rfl rfl ?_)
          refine AOps.nil ?_
          change AWP _ _ _ _ _ _
          refine AWP.ret ?_
          refine ⟨_, _, Ghost.refl, .inr rfl, _, Res.one rfl rfl, ?_, m22⟩
          exact (congrArg AV.bool (show (false : Bool) = nameB s from by exact (name_no hlt18 (by omega)).symm))
      ·
       refine AOps.no rfl rfl rfl rfl rfl rfl rfl (ble_of (decide_eq_false b32) (by decide)) ?_
       refine AOps.no rfl rfl rfl rfl rfl rfl rfl (ble_of (decide_eq_false b32) (by decide)) ?_
       refine AOps.no rfl rfl rfl rfl rfl rfl rfl (ble_of (decide_eq_false b32) (by decide)) ?_
       refine AOps.un rfl rfl rfl rfl rfl rfl rfl ?_
       refine AOps.un rfl rfl rfl rfl rfl rfl rfl ?_
       refine AOps.no rfl rfl rfl rfl rfl rfl rfl (ble_of (decide_eq_false b32) (by decide)) ?_
       refine AOps.no rfl rfl rfl rfl rfl rfl rfl (ble_of (decide_eq_false b32) (by decide)) ?_
       refine AOps.un rfl rfl rfl rfl rfl rfl rfl ?_
       refine AOps.un rfl rfl rfl rfl rfl rfl rfl ?_
       refine AOps.no rfl rfl rfl rfl rfl rfl rfl (ble_of (decide_eq_false b32) (by decide)) ?_
       refine AOps.no rfl rfl rfl rfl rfl rfl rfl (ble_of (decide_eq_false b32) (by decide)) ?_
       refine AOps.un rfl rfl rfl rfl rfl rfl rfl ?_
       refine AOps.un rfl rfl rfl rfl rfl rfl rfl ?_
       refine AOps.no rfl rfl rfl rfl rfl rfl rfl (ble_of (decide_eq_false b32) (by decide)) ?_
       refine AOps.cons rfl rfl (AOp.pickF (.bool false) rfl rfl (decide_eq_false b32) rfl ?_)
       refine AOps.cons rfl rfl (AOp.assign (.bool false) rfl rfl ?_)
       refine AOps.nil ?_
       change AWP _ _ _ _ _ _
       refine AWP.condF rfl rfl ?_
       refine AWP.seq ?_
       refine AWP.region (l := [0]) rfl ?_
       refine AOps.cons rfl rfl (AOp.assign (.bool false) rfl rfl ?_)
       refine AOps.nil ?_
       change AWP _ _ _ _ _ _
       refine AWP.ret ?_
       refine ⟨_, _, Ghost.refl, .inr rfl, _, Res.one rfl rfl, ?_, m22⟩
       exact (congrArg AV.bool (show (false : Bool) = nameB s from by exact (name_no hlt18 (by omega)).symm))
theorem c_same (a b : List LineT) (ha : a.length ≤ 1048576) (hb : b.length ≤ 1048576) (hwa : ∀ x ∈ a, x.Words.length ≤ 1048576) (hwb : ∀ x ∈ b, x.Words.length ≤ 1048576) : PC Tryd.prog 12 [.sl a.length (a.flatMap eLine), .sl b.length (b.flatMap eLine)] (.bool (decide (a = b))) := by
 intro H0
 refine ACalls.of_body' (n := 42) rfl rfl rfl rfl ?_
 have m0 := Mono.refl H0
 refine AWP.seq ?_
 refine AWP.region (l := [0]) rfl ?_
 refine AOps.cons rfl rfl (AOp.assign (.bool false) rfl rfl ?_)
 refine AOps.nil ?_
 change AWP _ _ _ _ _ _
 refine AWP.seq ?_
 refine AWP.seq ?_
 refine AWP.region (l := [0, 1, 2, 3, 4]) rfl ?_
 refine AOps.cons rfl rfl (AOp.move (.sl a.length (a.flatMap eLine)) rfl rfl ?_)
 refine AOps.cons rfl rfl (AOp.len (m := a.length) rfl rfl (.inr (.inl ⟨_, rfl⟩)) u_23 ?_)
 refine AOps.cons rfl rfl (AOp.move (.sl b.length (b.flatMap eLine)) rfl rfl ?_)
 refine AOps.cons rfl rfl (AOp.len (m := b.length) rfl rfl (.inr (.inl ⟨_, rfl⟩)) u_23 ?_)
 refine AOps.cons rfl rfl (AOp.bin (.bool (!decide ((a.length : Int) = (b.length : Int)))) rfl rfl rfl ine ?_)
 refine AOps.nil ?_
 change AWP _ _ _ _ _ _
 by_cases b1 : (a.length : Int) = (b.length : Int)
 ·
  refine AWP.condF rfl (nb (decide_eq_true b1)) ?_
  refine AWP.skip ?_
  change AWP _ _ _ _ _ _
  refine AWP.seq ?_
  refine AWP.seq ?_
  refine AWP.region (l := [0]) rfl ?_
  refine AOps.cons rfl rfl (AOp.assign (.int .i64 0) rfl rfl ?_)
  refine AOps.nil ?_
  change AWP _ _ _ _ _ _
  refine AWP.block ?_
  refine AWP.loop (fun q2 fq Hq => ∃ (i : Int), q2 = (((a.length : Int) : Int) - i).toNat ∧ fq 5 = .int .i64 i ∧ fq 0 = .sl a.length (a.flatMap eLine) ∧ fq 1 = .sl b.length (b.flatMap eLine) ∧ Mono H0 Hq ∧ (0 ≤ i) ∧ (i ≤ (a.length : Int)) ∧ ((a.length : Int) = b.length) ∧ (∀ j : Int, 0 ≤ j → j < i → at_ a j = at_ b j)) (k := (((a.length : Int) : Int) - 0).toNat) ?_ ?_
  ·
   exact ⟨0, rfl, rfl, rfl, rfl, m0, by omega, by omega, by assumption, by intro j; omega⟩
  ·
   rintro _ f4 H3 ⟨i, rfl, s5, s6, s7, m8, hi0, hi1, hl, pre⟩
   refine AWP.seq ?_
   refine AWP.seq ?_
   refine AWP.region (l := [0, 1, 2, 3]) rfl ?_
   refine AOps.cons rfl rfl (AOp.move (.int .i64 i) rfl s5 ?_)
   refine AOps.cons rfl rfl (AOp.move (.sl a.length (a.flatMap eLine)) rfl s6 ?_)
   refine AOps.cons rfl rfl (AOp.len (m := a.length) rfl rfl (.inr (.inl ⟨_, rfl⟩)) u_23 ?_)
   refine AOps.cons rfl rfl (AOp.bin (.bool (decide (i < (a.length : Int)))) rfl rfl rfl rfl ?_)
   refine AOps.nil ?_
   change AWP _ _ _ _ _ _
   by_cases b9 : i < (a.length : Int)
   ·
    refine AWP.condT rfl (decide_eq_true b9) ?_
    refine AWP.skip ?_
    change AWP _ _ _ _ _ _
    refine AWP.seq ?_
    refine AWP.block ?_
    refine AWP.seq ?_
    have hza := hwa _ (at_mem (i := i) (by omega) (by omega))
    have hzb := hwb _ (at_mem (i := i) (by omega) (by omega))
    refine AWP.region_quiet mixed (by kernel_rfl) 25 [] rfl (by kernel_rfl) (Mono H3) (Mono.refl _) ?_
    refine QE.op rfl rfl (.inl ⟨rfl, fun f' H' hf hM => AOp.move (.sl a.length (a.flatMap eLine)) rfl ((hf 0 rfl).trans s6) ⟨rfl, hM⟩⟩) ?_
    refine QE.op rfl rfl (.inl ⟨rfl, fun f' H' hf hM => AOp.move (.int .i64 i) rfl ((hf 5 rfl).trans s5) ⟨rfl, hM⟩⟩) ?_
    refine QE.op rfl rfl (.inl ⟨rfl, fun f' H' hf hM => AOp.indexAddrS rfl ((hf 17 rfl).trans rfl) ((hf 18 rfl).trans rfl) sl_23 (by omega) (by omega) ⟨rfl, hM⟩⟩) ?_
    refine QE.op rfl rfl (.inl ⟨rfl, fun f' H' hf hM => AOp.fieldAddrF rfl ((hf 19 rfl).trans rfl) fl_35_0 ⟨rfl, hM⟩⟩) ?_
    refine QE.op rfl rfl (.inl ⟨rfl, fun f' H' hf hM => AOp.loadF (.int .i64 ((at_ a i).No)) rfl ((hf 20 rfl).trans rfl) ty_3 (ldF eLine_len (by omega) (by omega) rfl (by decide)) ⟨rfl, hM⟩⟩) ?_
    refine QE.op rfl rfl (.inl ⟨rfl, fun f' H' hf hM => AOp.move (.sl b.length (b.flatMap eLine)) rfl ((hf 1 rfl).trans s7) ⟨rfl, hM⟩⟩) ?_
    refine QE.op rfl rfl (.inl ⟨rfl, fun f' H' hf hM => AOp.move (.int .i64 i) rfl ((hf 5 rfl).trans s5) ⟨rfl, hM⟩⟩) ?_
    refine QE.op rfl rfl (.inl ⟨rfl, fun f' H' hf hM => AOp.indexAddrS rfl ((hf 22 rfl).trans rfl) ((hf 23 rfl).trans rfl) sl_23 (by omega) (by omega) ⟨rfl, hM⟩⟩) ?_
    refine QE.op rfl rfl (.inl ⟨rfl, fun f' H' hf hM => AOp.fieldAddrF rfl ((hf 24 rfl).trans rfl) fl_35_0 ⟨rfl, hM⟩⟩) ?_
    refine QE.op rfl rfl (.inl ⟨rfl, fun f' H' hf hM => AOp.loadF (.int .i64 ((at_ b i).No)) rfl ((hf 25 rfl).trans rfl) ty_3 (ldF eLine_len (by omega) (by omega) rfl (by decide)) ⟨rfl, hM⟩⟩) ?_
    refine QE.op rfl rfl (.inl ⟨rfl, fun f' H' hf hM => AOp.bin (.bool (!decide ((at_ a i).No = (at_ b i).No))) rfl ((hf 21 rfl).trans rfl) ((hf 26 rfl).trans rfl) ine ⟨rfl, hM⟩⟩) ?_
    refine QE.op rfl rfl (.inl ⟨rfl, fun f' H' hf hM => AOp.move (.bool (!decide ((at_ a i).No = (at_ b i).No))) rfl ((hf 27 rfl).trans rfl) ⟨rfl, hM⟩⟩) ?_
    by_cases b10 : (at_ a i).No = (at_ b i).No
    ·
     refine QE.op rfl rfl (QOp.yes rfl rfl rfl rfl (nb (decide_eq_true b10)) fun f' H' hf hM => AOp.move (.sl a.length (a.flatMap eLine)) rfl ((hf 0 rfl).trans s6) ⟨rfl, hM⟩) ?_
     refine QE.op rfl rfl (QOp.yes rfl rfl rfl rfl (nb (decide_eq_true b10)) fun f' H' hf hM => AOp.move (.int .i64 i) rfl ((hf 5 rfl).trans s5) ⟨rfl, hM⟩) ?_
     refine QE.op rfl rfl (QOp.yes rfl rfl rfl rfl (nb (decide_eq_true b10)) fun f' H' hf hM => AOp.indexAddrS rfl ((hf 29 rfl).trans rfl) ((hf 30 rfl).trans rfl) sl_23 (by omega) (by omega) ⟨rfl, hM⟩) ?_
     refine QE.op rfl rfl (QOp.yes rfl rfl rfl rfl (nb (decide_eq_true b10)) fun f' H' hf hM => AOp.fieldAddrF rfl ((hf 31 rfl).trans rfl) fl_35_1 ⟨rfl, hM⟩) ?_
     refine QE.op rfl rfl (QOp.yes rfl rfl rfl rfl (nb (decide_eq_true b10)) fun f' H' hf hM => AOp.loadF (.sl ((at_ a i).Words).length (((at_ a i).Words).map eStr)) rfl ((hf 32 rfl).trans rfl) ty_33 (ldF eLine_len (by omega) (by omega) rfl (by decide)) ⟨rfl, hM⟩) ?_
     refine QE.op rfl rfl (QOp.yes rfl rfl rfl rfl (nb (decide_eq_true b10)) fun f' H' hf hM => AOp.move (.sl b.length (b.flatMap eLine)) rfl ((hf 1 rfl).trans s7) ⟨rfl, hM⟩) ?_
     refine QE.op rfl rfl (QOp.yes rfl rfl rfl rfl (nb (decide_eq_true b10)) fun f' H' hf hM => AOp.move (.int .i64 i) rfl ((hf 5 rfl).trans s5) ⟨rfl, hM⟩) ?_
     refine QE.op rfl rfl (QOp.yes rfl rfl rfl rfl (nb (decide_eq_true b10)) fun f' H' hf hM => AOp.indexAddrS rfl ((hf 34 rfl).trans rfl) ((hf 35 rfl).trans rfl) sl_23 (by omega) (by omega) ⟨rfl, hM⟩) ?_
     refine QE.op rfl rfl (QOp.yes rfl rfl rfl rfl (nb (decide_eq_true b10)) fun f' H' hf hM => AOp.fieldAddrF rfl ((hf 36 rfl).trans rfl) fl_35_1 ⟨rfl, hM⟩) ?_
     refine QE.op rfl rfl (QOp.yes rfl rfl rfl rfl (nb (decide_eq_true b10)) fun f' H' hf hM => AOp.loadF (.sl ((at_ b i).Words).length (((at_ b i).Words).map eStr)) rfl ((hf 37 rfl).trans rfl) ty_33 (ldF eLine_len (by omega) (by omega) rfl (by decide)) ⟨rfl, hM⟩) ?_
     refine QE.op rfl rfl (QOp.yes rfl rfl rfl rfl (nb (decide_eq_true b10)) fun f' H' hf hM => AOp.pcall («as» := [.sl ((at_ a i).Words).length (((at_ a i).Words).map eStr), .sl ((at_ b i).Words).length (((at_ b i).Words).map eStr)]) rfl rfl (lapp (lcons ((hf 33 rfl).trans rfl) (lcons ((hf 38 rfl).trans rfl) rfl)) rfl) tf_18 (c_SameTexts _ _ (by first | omega | assumption) (by first | omega | assumption)) fun H2 m2 => ⟨rfl, hM.trans m2⟩) ?_
     refine QE.op rfl rfl (QOp.yes rfl rfl rfl rfl (nb (decide_eq_true b10)) fun f' H' hf hM => AOp.not rfl ((hf 39 rfl).trans rfl) ⟨rfl, hM⟩) ?_
     refine QE.op rfl rfl (.inl ⟨rfl, fun f' H' hf hM => AOp.pickF (.bool (!(decide (((at_ a i).Words) = ((at_ b i).Words))))) rfl ((hf 28 rfl).trans rfl) (nb (decide_eq_true b10)) ((hf 40 rfl).trans rfl) ⟨rfl, hM⟩⟩) ?_
     refine QE.done fun H11 m12 => ?_
     have m13 := m8.trans m12
     refine AOps.nil ?_
     change AWP _ _ _ _ _ _
     by_cases b14 : ((at_ a i).Words) = ((at_ b i).Words)
     ·
      refine AWP.condF rfl (nb (decide_eq_true b14)) ?_
      refine AWP.skip ?_
      change AWP _ _ _ _ _ _
      refine AWP.region (l := [0, 1, 2]) rfl ?_
      refine AOps.cons rfl rfl (AOp.move (.int .i64 i) rfl s5 ?_)
      refine AOps.cons rfl rfl (AOp.bin (.int .i64 (i + 1)) rfl rfl rfl (iadd (by omega)) ?_)
      refine AOps.cons rfl rfl (AOp.assign (.int .i64 (i + 1)) rfl rfl ?_)
      refine AOps.nil ?_
      exact ⟨_, by omega, i + 1, rfl, rfl, s6, s7, m13, by omega, by omega, by assumption, by exact pre_step pre (line_ext b10 b14)⟩
     ·
      refine AWP.condT rfl (nb (decide_eq_false b14)) ?_
      refine AWP.seq ?_
      refine AWP.region (l := [0]) rfl ?_
      refine AOps.cons rfl rfl (AOp.assign (.bool false) rfl rfl ?_)
      refine AOps.nil ?_
      change AWP _ _ _ _ _ _
      refine AWP.ret ?_
      refine ⟨_, _, Ghost.refl, .inr rfl, _, Res.one rfl rfl, ?_, m13⟩
      exact (congrArg AV.bool (rfl.trans (decide_eq_false (show ¬ (a = b) from by rintro rfl; first | omega | (exact absurd rfl b14))).symm))
    ·
     refine QE.op rfl rfl (QOp.no rfl rfl rfl rfl (ble_of (nb (decide_eq_false b10)) (by decide)) rfl) ?_
     refine QE.op rfl rfl (QOp.no rfl rfl rfl rfl (ble_of (nb (decide_eq_false b10)) (by decide)) rfl) ?_
     refine QE.op rfl rfl (QOp.no rfl rfl rfl rfl (ble_of (nb (decide_eq_false b10)) (by decide)) rfl) ?_
     refine QE.op rfl rfl (QOp.no rfl rfl rfl rfl (ble_of (nb (decide_eq_false b10)) (by decide)) rfl) ?_
     refine QE.op rfl rfl (QOp.no rfl rfl rfl rfl (ble_of (nb (decide_eq_false b10)) (by decide)) rfl) ?_
     refine QE.op rfl rfl (QOp.no rfl rfl rfl rfl (ble_of (nb (decide_eq_false b10)) (by decide)) rfl) ?_
     refine QE.op rfl rfl (QOp.no rfl rfl rfl rfl (ble_of (nb (decide_eq_false b10)) (by decide)) rfl) ?_
     refine QE.op rfl rfl (QOp.no rfl rfl rfl rfl (ble_of (nb (decide_eq_false b10)) (by decide)) rfl) ?_
     refine QE.op rfl rfl (QOp.no rfl rfl rfl rfl (ble_of (nb (decide_eq_false b10)) (by decide)) rfl) ?_
     refine QE.op rfl rfl (QOp.no rfl rfl rfl rfl (ble_of (nb (decide_eq_false b10)) (by decide)) rfl) ?_
     refine QE.op rfl rfl (QOp.no rfl rfl rfl rfl (ble_of (nb (decide_eq_false b10)) (by decide)) rfl) ?_
     refine QE.op rfl rfl (QOp.no rfl rfl rfl rfl (ble_of (nb (decide_eq_false b10)) (by decide)) rfl) ?_
     refine QE.op rfl rfl (.inl ⟨rfl, fun f' H' hf hM => AOp.pickT (.bool true) rfl ((hf 28 rfl).trans rfl) (nb (decide_eq_false b10)) rfl ⟨rfl, hM⟩⟩) ?_
     refine QE.done fun H15 m16 => ?_
     have m17 := m8.trans m16
     refine AOps.nil ?_
     change AWP _ _ _ _ _ _
     refine AWP.condT rfl rfl ?_
     refine AWP.seq ?_
     refine AWP.region (l := [0]) rfl ?_
     refine AOps.cons rfl rfl (AOp.assign (.bool false) rfl rfl ?_)
     refine AOps.nil ?_
     change AWP _ _ _ _ _ _
     refine AWP.ret ?_
     refine ⟨_, _, Ghost.refl, .inr rfl, _, Res.one rfl rfl, ?_, m17⟩
     exact (congrArg AV.bool (rfl.trans (decide_eq_false (show ¬ (a = b) from by rintro rfl; first | omega | (exact absurd rfl b10))).symm))
   ·
    refine AWP.condF rfl (decide_eq_false b9) ?_
    refine AWP.exit ?_
    change AWP _ _ _ _ _ _
    refine AWP.seq ?_
    refine AWP.region (l := [0]) rfl ?_
    refine AOps.cons rfl rfl (AOp.assign (.bool true) rfl rfl ?_)
    refine AOps.nil ?_
    change AWP _ _ _ _ _ _
    refine AWP.ret ?_
    refine ⟨_, _, Ghost.refl, .inr rfl, _, Res.one rfl rfl, ?_, m8⟩
    exact (congrArg AV.bool (rfl.trans (decide_eq_true (show a = b from by exact ext_at (by omega) (fun j h1 h2 => pre j h1 (by omega)))).symm))
 ·
  refine AWP.condT rfl (nb (decide_eq_false b1)) ?_
  refine AWP.seq ?_
  refine AWP.region (l := [0]) rfl ?_
  refine AOps.cons rfl rfl (AOp.assign (.bool false) rfl rfl ?_)
  refine AOps.nil ?_
  change AWP _ _ _ _ _ _
  refine AWP.ret ?_
  refine ⟨_, _, Ghost.refl, .inr rfl, _, Res.one rfl rfl, ?_, m0⟩
  exact (congrArg AV.bool (rfl.trans (decide_eq_false (show ¬ (a = b) from by rintro rfl; first | omega | (exact absurd rfl b1))).symm))
end Go.Proofs.L
namespace Go.AH
variable [Globs]
set_option linter.unusedSectionVars false
open Go
/-- Blocks that a region lays: which operation, which number, what it holds. -/
abbrev New := Nat × Nat × AB
def NeA (e : New) : List New → Prop
  | [] => True
  | x :: l => (Nat.beq x.1 e.1 = false ∧ x.2.1 ≠ e.2.1) ∧ NeA e l
def FrA (H : Heap) : List New → Prop
  | [] => True
  | e :: l => H e.2.1 = none ∧ NeA e l ∧ FrA H l
theorem NeA.mem {e x : New} : ∀ {l : List New}, NeA e l → x ∈ l → Nat.beq x.1 e.1 = false ∧ x.2.1 ≠ e.2.1
  | _ :: l, h, hx => by
    rcases List.mem_cons.1 hx with rfl | hx
    · exact h.1
    · exact NeA.mem h.2 hx
theorem FrA.none {H : Heap} {e : New} : ∀ {A : List New}, FrA H A → e ∈ A → H e.2.1 = none
  | _ :: _, h, hx => by
    rcases List.mem_cons.1 hx with rfl | hx
    · exact h.1
    · exact FrA.none h.2.2 hx
theorem FrA.inj {H : Heap} {e x : New} : ∀ {A : List New}, FrA H A → e ∈ A → x ∈ A → (e.2.1 = x.2.1 ∨ e.1 = x.1) → e = x
  | a :: l, h, he, hx, hh => by
    rcases List.mem_cons.1 he with rfl | he2
    · rcases List.mem_cons.1 hx with rfl | hx2
      · rfl
      · have := NeA.mem h.2.1 hx2
        rcases hh with hh | hh
        · exact absurd hh.symm this.2
        · rw [hh] at this; simp at this
    · rcases List.mem_cons.1 hx with rfl | hx2
      · have := NeA.mem h.2.1 he2
        rcases hh with hh | hh
        · exact absurd hh this.2
        · rw [hh] at this; simp at this
      · exact FrA.inj h.2.2 he2 hx2 hh
section
variable {P : Program} {n : Nat} {Q : Exit → (Nat → AV) → Heap → Prop} {f : Nat → AV} {H : Heap}
/-- An operation that lays one of the blocks. -/
def NewOp (P : Program) (n : Nat) (o : Oper) (id : Nat) (B : AB) (d : Nat) (v : AV) (f : Nat → AV) : Prop :=
  ∀ f' H', (∀ t, (tmpsOf o).elem t = true → f' t = f t) → H' id = some .res → AOp P n o (fun f2 H2 => f2 = upd f' d v ∧ H2 = updH H' id B) f' H'
inductive QPAs (P : Program) (n : Nat) (ops : Array Oper) (A : List New) (H : Heap) (T : (Nat → AV) → Prop) (k : Nat) : Nat → (Nat → AV) → List (Nat × AV) → Prop
  | done {f : Nat → AV} (h : T f) : QPAs P n ops A H T k k f []
  | op {i d : Nat} {f : Nat → AV} {v : AV} {L : List (Nat × AV)} {o : Oper} (hi : ∀ e ∈ A, e.1 ≠ i) (ho : ops[i]? = some o) (hd : o.dst = some d) (h : QOpA P n ops o d v H f) (rest : QPAs P n ops A H T k (i + 1) (upd f d v) L) : QPAs P n ops A H T k i f ((d, v) :: L)
  | new {i d id : Nat} {f : Nat → AV} {v : AV} {B : AB} {L : List (Nat × AV)} {o : Oper} (hi : (i, id, B) ∈ A) (ho : ops[i]? = some o) (hd : o.dst = some d) (hg : o.guard = none) (hop : NewOp P n o id B d v f) (rest : QPAs P n ops A H T k (i + 1) (upd f d v) L) : QPAs P n ops A H T k i f ((d, v) :: L)
theorem QPAs.len {ops : Array Oper} {A : List New} {T : (Nat → AV) → Prop} {k b : Nat} {L : List (Nat × AV)} (h : QPAs P n ops A H T k b f L) : b + L.length = k := by
  induction h with
  | done h => rfl
  | op hi ho hd h rest ih => simp only [List.length_cons]; omega
  | new hi ho hd hg hop rest ih => simp only [List.length_cons]; omega
def QEAs (P : Program) (n : Nat) (ops : Array Oper) (A : List New) (H : Heap) (T : (Nat → AV) → Prop) (k i : Nat) (f : Nat → AV) : Prop := ∃ L, QPAs P n ops A H T k i f L
theorem QEAs.done {ops : Array Oper} {A : List New} {T : (Nat → AV) → Prop} {k : Nat} (h : T f) : QEAs P n ops A H T k k f := ⟨_, .done h⟩
def notinB (A : List New) (i : Nat) : Bool := A.all fun e => !Nat.beq e.1 i
theorem QEAs.op {ops : Array Oper} {A : List New} {T : (Nat → AV) → Prop} {k i d : Nat} {v : AV} {o : Oper} (hi : notinB A i = true) (ho : ops[i]? = some o) (hd : o.dst = some d) (h : QOpA P n ops o d v H f) (rest : QEAs P n ops A H T k (i + 1) (upd f d v)) : QEAs P n ops A H T k i f :=
  let ⟨_, r⟩ := rest; ⟨_, .op (fun e he g => by
    have := List.all_eq_true.1 hi e he
    rw [g] at this; simp at this) ho hd h r⟩
theorem QEAs.alloc {ops : Array Oper} {A : List New} {Z : List AV} {T : (Nat → AV) → Prop} {k i d id : Nat} {o : Oper} {t : TypeId} (hi : (i, id, .row 0 Z) ∈ A) (ho : ops[i]? = some o) (hd : o.dst = some d) (hg : o.guard = none) (hop : o.op = .alloc t) (hn : Nat.ble (d + 1) n = true) (hz : TZero P t Z) (rest : QEAs P n ops A H T k (i + 1) (upd f d (.ptr id 0 0))) : QEAs P n ops A H T k i f :=
  let ⟨_, r⟩ := rest; ⟨_, .new hi ho hd hg (fun f' H' _ hr => by
      obtain ⟨dst, op, ty, pos, after, guard⟩ := o
      simp only at hd hop
      subst hd hop
      exact AOp.alloc_at id (.inr hr) hn hz ⟨rfl, rfl⟩) r⟩
def EntAs (P : Program) (n : Nat) (ops : Array Oper) (A : List New) (H : Heap) (i : Nat) (o : Oper) (d : Nat) (v : AV) (f : Nat → AV) : Prop :=
  ((∀ e ∈ A, e.1 ≠ i) ∧ QOpA P n ops o d v H f) ∨ (∃ id B, (i, id, B) ∈ A ∧ NewOp P n o id B d v f ∧ o.guard = none)
theorem QPAs.get {ops : Array Oper} {A : List New} {T : (Nat → AV) → Prop} {k b : Nat} {L : List (Nat × AV)} (h : QPAs P n ops A H T k b f L) : T (cur L b (fun _ => true) f) ∧
    ∀ m d v, L[m]? = some (d, v) → ∃ o, ops[b + m]? = some o ∧ o.dst = some d ∧ EntAs P n ops A H (b + m) o d v (cur (L.take m) b (fun _ => true) f) := by
  induction h with
  | done h => exact ⟨h, fun m d v hm => by simp at hm⟩
  | op hi ho hd h rest ih =>
    rename_i i d0 f v0 L o
    refine ⟨by rw [cur, if_pos rfl]; exact ih.1, fun m d v hm => ?_⟩
    cases m with
    | zero =>
      simp only [List.getElem?_cons_zero, Option.some.injEq, Prod.mk.injEq] at hm
      obtain ⟨rfl, rfl⟩ := hm
      exact ⟨o, ho, hd, .inl ⟨hi, h⟩⟩
    | succ m =>
      obtain ⟨o', h1, h2, h3⟩ := ih.2 m d v (by simpa using hm)
      rw [show i + 1 + m = i + (m + 1) by omega] at h1 h3
      refine ⟨o', h1, h2, ?_⟩
      rw [List.take_succ_cons, cur, if_pos rfl]; exact h3
  | new hi ho hd hg hop rest ih =>
    rename_i i d0 id f v0 B L o
    refine ⟨by rw [cur, if_pos rfl]; exact ih.1, fun m d v hm => ?_⟩
    cases m with
    | zero =>
      simp only [List.getElem?_cons_zero, Option.some.injEq, Prod.mk.injEq] at hm
      obtain ⟨rfl, rfl⟩ := hm
      exact ⟨o, ho, hd, .inr ⟨id, B, hi, hop, hg⟩⟩
    | succ m =>
      obtain ⟨o', h1, h2, h3⟩ := ih.2 m d v (by simpa using hm)
      rw [show i + 1 + m = i + (m + 1) by omega] at h1 h3
      refine ⟨o', h1, h2, ?_⟩
      rw [List.take_succ_cons, cur, if_pos rfl]; exact h3
end
end Go.AH
namespace Go.AH
variable [Globs]
set_option linter.unusedSectionVars false
open Go
section
variable {P : Program} {n : Nat} {Q : Exit → (Nat → AV) → Heap → Prop} {f : Nat → AV} {H : Heap}
end
end Go.AH
namespace Go.AH
variable [Globs]
set_option linter.unusedSectionVars false
set_option linter.unusedVariables false
set_option linter.unusedSimpArgs false
open Go
section
variable {P : Program} {n : Nat} {Q : Exit → (Nat → AV) → Heap → Prop} {f : Nat → AV} {H : Heap}
/-- The first phase: plain operations, and those that lay blocks, in any order. -/
def STRN (P : Program) (n : Nat) (ops : Array Oper) (A : List New) (H : Heap) (K : List Ent → (Nat → AV) → Prop) : List Nat → List Ent → (Nat → AV) → Prop
  | [], L, g => K L g
  | i :: r, L, g => ∃ o d v, ops[i]? = some o ∧ o.dst = some d ∧ EntAs P n ops A H i o d v g ∧ STRN P n ops A H K r ((i, some d, v) :: L) (upd g d v)
theorem STRN.done {ops : Array Oper} {A : List New} {K : List Ent → (Nat → AV) → Prop} {L : List Ent} {g : Nat → AV} (h : K L g) : STRN P n ops A H K [] L g := h
theorem STRN.op {ops : Array Oper} {A : List New} {K : List Ent → (Nat → AV) → Prop} {r : List Nat} {L : List Ent} {g : Nat → AV} {i d : Nat} {v : AV} {o : Oper} (hi : notinB A i = true) (ho : ops[i]? = some o) (hd : o.dst = some d) (h : QOpA P n ops o d v H g) (rest : STRN P n ops A H K r ((i, some d, v) :: L) (upd g d v)) : STRN P n ops A H K (i :: r) L g :=
  ⟨o, d, v, ho, hd, .inl ⟨fun e he g => by
    have := List.all_eq_true.1 hi e he
    rw [g] at this; simp at this, h⟩, rest⟩
theorem STRN.alloc {ops : Array Oper} {A : List New} {K : List Ent → (Nat → AV) → Prop} {r : List Nat} {L : List Ent} {g : Nat → AV} {i d id : Nat} {Z : List AV} {o : Oper} {t : TypeId} (hi : (i, id, .row 0 Z) ∈ A) (ho : ops[i]? = some o) (hd : o.dst = some d) (hg : o.guard = none) (hop : o.op = .alloc t) (hn : Nat.ble (d + 1) n = true) (hz : TZero P t Z) (rest : STRN P n ops A H K r ((i, some d, .ptr id 0 0) :: L) (upd g d (.ptr id 0 0))) : STRN P n ops A H K (i :: r) L g :=
  ⟨o, d, _, ho, hd, .inr ⟨id, _, hi, (fun f' H' _ hr => by
      obtain ⟨dst, op, ty, pos, after, guard⟩ := o
      simp only at hd hop
      subst hd hop
      exact AOp.alloc_at id (.inr hr) hn hz ⟨rfl, rfl⟩), hg⟩, rest⟩
def VldN (P : Program) (n : Nat) (ops : Array Oper) (A : List New) (H : Heap) (f : Nat → AV) (L : List Ent) : Prop :=
  ∀ A' e B, L = A' ++ e :: B → ∃ o d, ops[e.1]? = some o ∧ o.dst = some d ∧ e.2.1 = some d ∧ EntAs P n ops A H e.1 o d e.2.2 (ov top A' f)
theorem STRN.get {ops : Array Oper} {A : List New} {K : List Ent → (Nat → AV) → Prop} : ∀ {r : List Nat} {L : List Ent}, VldN P n ops A H f L.reverse → Dst ops L.reverse → STRN P n ops A H K r L (ovR L f) →
    ∃ M, M.reverse.map (·.1) = L.reverse.map (·.1) ++ r ∧ VldN P n ops A H f M.reverse ∧ Dst ops M.reverse ∧ K M (ovR M f)
  | [], L, hv, hd, h => ⟨L, by simp, hv, hd, h⟩
  | i :: r, L, hv, hd, ⟨o, d, v, h1, h2, h3, h4⟩ => by
    have hv' : VldN P n ops A H f ((i, some d, v) :: L).reverse := by
      intro A' e B hL
      rw [List.reverse_cons] at hL
      rcases List.append_eq_append_iff.1 hL with ⟨C, g1, g2⟩ | ⟨C, g1, g2⟩
      · cases C with
        | nil =>
          simp only [List.nil_append, List.cons.injEq] at g2
          obtain ⟨rfl, _⟩ := g2
          rw [List.append_nil] at g1; subst g1
          refine ⟨o, d, h1, h2, rfl, ?_⟩
          rw [← ovR_eq]; exact h3
        | cons c C => simp at g2
      · cases C with
        | nil =>
          simp only [List.nil_append, List.cons.injEq] at g2
          obtain ⟨rfl, _⟩ := g2
          rw [List.append_nil] at g1; subst g1
          refine ⟨o, d, h1, h2, rfl, ?_⟩
          rw [← ovR_eq]; exact h3
        | cons c C =>
          simp only [List.cons_append, List.cons.injEq] at g2
          obtain ⟨rfl, g2⟩ := g2
          exact hv A' e C g1
    have hd' : Dst ops ((i, some d, v) :: L).reverse := by
      intro e he
      rw [List.reverse_cons] at he
      rcases List.mem_append.1 he with he | he
      · exact hd e he
      · simp at he; subst he; simp [dstOf, h1, h2]
    obtain ⟨M, m1, m2, m3, m4⟩ := STRN.get hv' hd' h4
    exact ⟨M, by rw [m1]; simp, m2, m3, m4⟩
end
end Go.AH
namespace Go.AH
variable [Globs]
set_option linter.unusedSectionVars false
open Go
section
variable {H0 H H2 : Heap} {es len id ver : Nat} {v : AV} {cells cells' : List AV}
theorem Own.at_ (e : v = .slm id ver es 0 len) (h : Own H0 H es v len cells) : H id = some (.row ver cells) ∧ H0 id = none ∧ cells.length = len * es := by
  rcases h with ⟨h, _, _⟩ | ⟨i, w, h1, h2, h3, h4⟩
  · rw [e] at h; cases h
  · rw [e] at h1; cases h1; exact ⟨h2, h3, h4⟩
theorem Own.store {len' : Nat} (e : v = .slm id ver es 0 len) (h : Own H0 H es v len cells) (hs : H2 id = some (.row ver cells')) (hl : len' = len) (hc : cells'.length = len * es) : Own H0 H2 es v len' cells' := by
  subst hl
  exact .inr ⟨id, ver, e, hs, (h.at_ e).2.1, hc⟩
theorem NotId.ne {i : Nat} (h : NotId v i) (e : v = .slm id ver es 0 len) : i ≠ id := h _ _ _ _ _ e
end
end Go.AH
namespace Go.Proofs.L
open Go Go.AH
set_option maxRecDepth 4000
set_option linter.unusedSimpArgs false
set_option linter.unusedVariables false
variable [LexG]
theorem c_lex_Lines (s : ByteArray) : PC Tryd.prog 10 [.str s] (.tup [.sl ((linesR s).1).length (((linesR s).1).flatMap eLine), .int .i64 ((linesR s).2.1), .int .i64 ((linesR s).2.2)]) := by
 intro H0
 refine ACalls.of_body' (n := 45) rfl rfl rfl rfl ?_
 have m0 := Mono.refl H0
 refine AWP.seq ?_
 refine AWP.region (l := [0, 1, 2]) rfl ?_
 refine AOps.cons rfl rfl (AOp.assign (.snil) rfl rfl ?_)
 refine AOps.cons rfl rfl (AOp.assign (.int .i64 0) rfl rfl ?_)
 refine AOps.cons rfl rfl (AOp.assign (.int .i64 0) rfl rfl ?_)
 refine AOps.nil ?_
 change AWP _ _ _ _ _ _
 refine AWP.seq ?_
 refine AWP.seq ?_
 refine AWP.region (l := [0, 1, 2]) rfl ?_
 refine AOps.cons rfl rfl (AOp.move (.str s) rfl rfl ?_)
 refine AOps.cons rfl rfl (AOp.lenStr rfl rfl u_9 ?_)
 refine AOps.cons rfl rfl (AOp.bin (.bool (decide ((s.size : Int) > 65536))) rfl rfl rfl rfl ?_)
 refine AOps.nil ?_
 change AWP _ _ _ _ _ _
 by_cases b1 : (s.size : Int) > 65536
 ·
  refine AWP.condT rfl (decide_eq_true b1) ?_
  refine AWP.seq ?_
  refine AWP.region (l := [0, 1, 2]) rfl ?_
  refine AOps.cons rfl rfl (AOp.assign (.snil) rfl rfl ?_)
  refine AOps.cons rfl rfl (AOp.assign (.int .i64 0) rfl rfl ?_)
  refine AOps.cons rfl rfl (AOp.assign (.int .i64 13) rfl rfl ?_)
  refine AOps.nil ?_
  change AWP _ _ _ _ _ _
  refine AWP.ret ?_
  refine Fin.frz 2 (Own.nil H0 H0 1) rfl m0 fun H2 m3 k4 => ?_
  refine ⟨_, _, Ghost.refl, .inr rfl, _, Res.three rfl rfl rfl rfl, ?_, m3⟩
  exact congrArg AV.tup (lc (congrArg (fun l : List LineT => AV.sl l.length (l.flatMap eLine)) (show ([] : List LineT) = (linesR s).1 from by rw [linesR_big (by omega)])) (lc (congrArg (AV.int .i64) (show (0 : Int) = (linesR s).2.1 from by rw [linesR_big (by omega)])) (lc (congrArg (AV.int .i64) (show (13 : Int) = (linesR s).2.2 from by rw [linesR_big (by omega)])) rfl)))
 ·
  refine AWP.condF rfl (decide_eq_false b1) ?_
  refine AWP.skip ?_
  change AWP _ _ _ _ _ _
  refine AWP.seq ?_
  refine AWP.region (l := [0]) rfl ?_
  refine AOps.cons rfl rfl (AOp.assign (.snil) rfl rfl ?_)
  refine AOps.nil ?_
  change AWP _ _ _ _ _ _
  refine AWP.seq ?_
  refine AWP.seq ?_
  refine AWP.region (l := [0, 1, 2, 3]) rfl ?_
  refine AOps.cons rfl rfl (AOp.move (.str s) rfl rfl ?_)
  refine AOps.cons rfl rfl (AOp.pcall («as» := [.str s, .str ⟨#[10]⟩]) rfl rfl (rfl) tf_19 (c_Split s (by omega)) ?_)
  intro H5 m6
  have m7 := m0.trans m6
  refine AOps.cons rfl rfl (AOp.len (m := (pieces s).length) rfl rfl (.inr (.inl ⟨_, rfl⟩)) u_33 ?_)
  refine AOps.cons rfl rfl (AOp.move (.int .i64 0) rfl rfl ?_)
  refine AOps.nil ?_
  change AWP _ _ _ _ _ _
  refine AWP.block ?_
  refine AWP.loop (fun q8 fq Hq => ∃ (i : Int) (out : List LineT) (w5 : AV), q8 = (((pieces s).length : Int) - i).toNat ∧ fq 15 = .int .i64 i ∧ fq 13 = .sl (pieces s).length ((pieces s).map eStr) ∧ fq 14 = .int .i64 (((pieces s).length) : Int) ∧ fq 5 = w5 ∧ Own H0 Hq 2 w5 (out).length ((out).flatMap eLine) ∧ Mono H0 Hq ∧ (0 ≤ i) ∧ (i ≤ (pieces s).length) ∧ (linesR s = scanL ((pieces s).drop i.toNat) i out) ∧ ((out.length : Int) ≤ i)) (k := (((pieces s).length : Int) - 0).toNat) ?_ ?_
  ·
   exact ⟨0, ([] : List LineT), .snil, rfl, rfl, rfl, rfl, rfl, Own.nil _ _ _, m7, by omega, by omega, by exact linesR_start (by omega), by simp⟩
  ·
   rintro _ f10 H9 ⟨i, out, w5, rfl, s11, s12, s13, s14, o15, m16, hi0, hi1, hsc, hol⟩
   refine AWP.seq ?_
   have hpl := pieces_len s
   refine AWP.region (l := [0]) rfl ?_
   refine AOps.cons rfl rfl (AOp.bin (.bool (decide (i < (((pieces s).length) : Int)))) rfl s11 s13 rfl ?_)
   refine AOps.nil ?_
   change AWP _ _ _ _ _ _
   refine AWP.seq ?_
   by_cases b17 : i < (((pieces s).length) : Int)
   ·
    refine AWP.condT rfl (decide_eq_true b17) ?_
    refine AWP.skip ?_
    change AWP _ _ _ _ _ _
    refine AWP.seq ?_
    refine AWP.block ?_
    refine AWP.seq ?_
    have hps := piece_size (s := s) hi0 (by omega)
    refine AWP.region (l := [0, 1, 2, 3, 4]) rfl ?_
    refine AOps.cons rfl rfl (AOp.move (.int .i64 i) rfl s11 ?_)
    refine AOps.cons rfl rfl (AOp.indexAddrS rfl s12 s11 sl_33 (by omega) (by omega) ?_)
    refine AOps.cons rfl rfl (AOp.loadF (.str (at_ (pieces s) i)) rfl rfl ty_9 (ld1 (by omega) (by omega)) ?_)
    refine AOps.cons rfl rfl (AOp.assign (.int .i64 i) rfl rfl ?_)
    refine AOps.cons rfl rfl (AOp.assign (.str (at_ (pieces s) i)) rfl rfl ?_)
    refine AOps.nil ?_
    change AWP _ _ _ _ _ _
    refine AWP.seq ?_
    refine AWP.seq ?_
    refine AWP.region (l := [0, 1, 2]) rfl ?_
    refine AOps.cons rfl rfl (AOp.move (.str (at_ (pieces s) i)) rfl rfl ?_)
    refine AOps.cons rfl rfl (AOp.pcall («as» := [.str (at_ (pieces s) i), .fn 21 []]) rfl rfl (rfl) tf_20 (c_IndexFunc (at_ (pieces s) i) (by omega)) ?_)
    intro H18 m19
    have o20 := Own.mono o15 m19
    have m21 := m16.trans m19
    refine AOps.cons rfl rfl (AOp.bin (.bool (decide (idxR (at_ (pieces s) i) ≥ 0))) rfl rfl rfl rfl ?_)
    refine AOps.nil ?_
    change AWP _ _ _ _ _ _
    by_cases b22 : idxR (at_ (pieces s) i) ≥ 0
    ·
     refine AWP.condT rfl (decide_eq_true b22) ?_
     refine AWP.seq ?_
     refine AWP.region (l := [0, 1, 2, 3, 4]) rfl ?_
     refine AOps.cons rfl rfl (AOp.move (.int .i64 i) rfl rfl ?_)
     refine AOps.cons rfl rfl (AOp.bin (.int .i64 (i + 1)) rfl rfl rfl (iadd (by omega)) ?_)
     refine AOps.cons rfl rfl (AOp.assign (.snil) rfl rfl ?_)
     refine AOps.cons rfl rfl (AOp.assign (.int .i64 (i + 1)) rfl rfl ?_)
     refine AOps.cons rfl rfl (AOp.assign (.int .i64 10) rfl rfl ?_)
     refine AOps.nil ?_
     change AWP _ _ _ _ _ _
     refine AWP.ret ?_
     refine Fin.frz 2 (Own.nil H0 H18 1) rfl m21 fun H23 m24 k25 => ?_
     have o26 := Own.stay o20 (Sep.nilR _) (fun i hi _ => k25 i hi)
     refine ⟨_, _, Ghost.refl, .inr rfl, _, Res.three rfl rfl rfl rfl, ?_, m24⟩
     exact congrArg AV.tup (lc (congrArg (fun l : List LineT => AV.sl l.length (l.flatMap eLine)) (show ([] : List LineT) = (linesR s).1 from by rw [hsc, scan_bad hi0 (by omega) (by omega)])) (lc (congrArg (AV.int .i64) (show (i + 1 : Int) = (linesR s).2.1 from by rw [hsc, scan_bad hi0 (by omega) (by omega)])) (lc (congrArg (AV.int .i64) (show (10 : Int) = (linesR s).2.2 from by rw [hsc, scan_bad hi0 (by omega) (by omega)])) rfl)))
    ·
     refine AWP.condF rfl (decide_eq_false b22) ?_
     refine AWP.skip ?_
     change AWP _ _ _ _ _ _
     refine AWP.seq ?_
     have hok := idxR_neg.1 (show idxR (at_ (pieces s) i) < 0 by omega)
     refine AWP.region (l := [0, 1, 2, 3, 4, 5, 6]) rfl ?_
     refine AOps.cons rfl rfl (AOp.move (.str (at_ (pieces s) i)) rfl rfl ?_)
     refine AOps.cons rfl rfl (AOp.pcall («as» := [.str (at_ (pieces s) i), .str ⟨#[35]⟩]) rfl rfl (rfl) tf_22 (c_Cut (at_ (pieces s) i) (by omega)) ?_)
     intro H27 m28
     have o29 := Own.mono o20 m28
     have m30 := m21.trans m28
     refine AOps.cons rfl rfl (AOp.move (.tup [.str (cut1 (at_ (pieces s) i)), .str (cut2 (at_ (pieces s) i)), .bool (cut3 (at_ (pieces s) i))]) rfl rfl ?_)
     refine AOps.cons rfl rfl (AOp.extract (.str (cut1 (at_ (pieces s) i))) rfl rfl rfl ?_)
     refine AOps.cons rfl rfl (AOp.extract (.str (cut2 (at_ (pieces s) i))) rfl rfl rfl ?_)
     refine AOps.cons rfl rfl (AOp.extract (.bool (cut3 (at_ (pieces s) i))) rfl rfl rfl ?_)
     refine AOps.cons rfl rfl (AOp.assign (.str (cut1 (at_ (pieces s) i))) rfl rfl ?_)
     refine AOps.nil ?_
     change AWP _ _ _ _ _ _
     refine AWP.seq ?_
     have hcs := cut1_size (at_ (pieces s) i)
     refine AWP.region (l := [0, 1, 2]) rfl ?_
     refine AOps.cons rfl rfl (AOp.move (.str (cut1 (at_ (pieces s) i))) rfl rfl ?_)
     refine AOps.cons rfl rfl (AOp.pcall («as» := [.str (cut1 (at_ (pieces s) i))]) rfl rfl (rfl) tf_23 (c_Fields (cut1 (at_ (pieces s) i)) (by omega) (cut1_asc hok)) ?_)
     intro H31 m32
     have o33 := Own.mono o29 m32
     have m34 := m30.trans m32
     refine AOps.cons rfl rfl (AOp.assign (.sl (wordsB (cut1 (at_ (pieces s) i))).length ((wordsB (cut1 (at_ (pieces s) i))).map eStr)) rfl rfl ?_)
     refine AOps.nil ?_
     change AWP _ _ _ _ _ _
     refine AWP.seq ?_
     refine AWP.region (l := [0, 1, 2]) rfl ?_
     refine AOps.cons rfl rfl (AOp.move (.sl (wordsB (cut1 (at_ (pieces s) i))).length ((wordsB (cut1 (at_ (pieces s) i))).map eStr)) rfl rfl ?_)
     refine AOps.cons rfl rfl (AOp.len (m := (wordsB (cut1 (at_ (pieces s) i))).length) rfl rfl (.inr (.inl ⟨_, rfl⟩)) u_33 ?_)
     refine AOps.cons rfl rfl (AOp.bin (.bool (decide ((((wordsB (cut1 (at_ (pieces s) i))).length) : Int) > 0))) rfl rfl rfl rfl ?_)
     refine AOps.nil ?_
     change AWP _ _ _ _ _ _
     by_cases b35 : (((wordsB (cut1 (at_ (pieces s) i))).length) : Int) > 0
     ·
      refine AWP.condT rfl (decide_eq_true b35) ?_
      refine AWP.region (l := [0, 1, 2, 3, 4, 5, 6, 7]) rfl ?_
      refine AOps.cons rfl rfl (AOp.move (w5) rfl s14 ?_)
      refine AOps.cons rfl rfl (AOp.move (.int .i64 i) rfl rfl ?_)
      refine AOps.cons rfl rfl (AOp.bin (.int .i64 (i + 1)) rfl rfl rfl (iadd (by omega)) ?_)
      refine AOps.cons rfl rfl (AOp.move (.sl (wordsB (cut1 (at_ (pieces s) i))).length ((wordsB (cut1 (at_ (pieces s) i))).map eStr)) rfl rfl ?_)
      refine AOps.cons rfl rfl (AOp.build (cells := [.int .i64 (i + 1), .sl (wordsB (cut1 (at_ (pieces s) i))).length ((wordsB (cut1 (at_ (pieces s) i))).map eStr)]) rfl tz_35 pl_35 rfl rfl ?_)
      refine AOps.cons rfl rfl (AOp.buildSlice (cells := [.int .i64 (i + 1), .sl (wordsB (cut1 (at_ (pieces s) i))).length ((wordsB (cut1 (at_ (pieces s) i))).map eStr)]) rfl u_23 ts_35 tz_35 rfl rfl rfl ?_)
      intro i36 H37 n38 h39 k40
      have z41 := Mono.free m34 n38
      have o42 := Own.keep o33 k40 (Own.notnew o33 n38)
      have no43 := Own.notnew o33 n38
      have m44 := Mono.new m34 n38 k40
      refine AOps.cons rfl rfl (AOp.append_own (es := 2) (m := 1) (len := ((out).length)) (old := (out).flatMap eLine) (cells := [.int .i64 (i + 1), .sl (wordsB (cut1 (at_ (pieces s) i))).length ((wordsB (cut1 (at_ (pieces s) i))).map eStr)]) rfl u_23 ts_35 tzn_35 tb_35 (by decide) ni_23 rfl o42 m44 rfl (.slm h39 rfl) (one_of rfl) (by decide) (by first | omega | (simp; omega)) ?_)
      intro v45 H46 o47 m48 k49 j50
      have o51 := Own.snocM (xs := ((out) : List LineT)) (y := (LineT.mk (i + 1) (wordsB (cut1 (at_ (pieces s) i))))) (e := eLine) (by simp) o47
      refine AOps.cons rfl rfl (AOp.assign (v45) rfl rfl ?_)
      refine AOps.nil ?_
      change AWP _ _ _ _ _ _
      refine AWP.region (l := [0, 1]) rfl ?_
      refine AOps.cons rfl rfl (AOp.bin (.int .i64 (i + 1)) rfl s11 rfl (iadd (by omega)) ?_)
      refine AOps.cons rfl rfl (AOp.move (.int .i64 (i + 1)) rfl rfl ?_)
      refine AOps.nil ?_
      exact ⟨_, by omega, i + 1, out ++ lineOf i (at_ (pieces s) i), v45, rfl, rfl, s12, s13, rfl, (have hx : (((out) ++ [(LineT.mk (i + 1) (wordsB (cut1 (at_ (pieces s) i))))]) : List LineT) = (out ++ lineOf i (at_ (pieces s) i)) := (by rw [lineOf_T (by omega)]); Own.re o51 (congrArg List.length hx) (congrArg (fun l : List LineT => l.flatMap eLine) hx)), m48, by omega, by omega, by rw [hsc]; exact scan_step hi0 (by omega) (by omega), by exact lineOf_grow _ hol⟩
     ·
      refine AWP.condF rfl (decide_eq_false b35) ?_
      refine AWP.skip ?_
      change AWP _ _ _ _ _ _
      refine AWP.region (l := [0, 1]) rfl ?_
      refine AOps.cons rfl rfl (AOp.bin (.int .i64 (i + 1)) rfl s11 rfl (iadd (by omega)) ?_)
      refine AOps.cons rfl rfl (AOp.move (.int .i64 (i + 1)) rfl rfl ?_)
      refine AOps.nil ?_
      exact ⟨_, by omega, i + 1, out ++ lineOf i (at_ (pieces s) i), w5, rfl, rfl, s12, s13, s14, (have hx : ((out) : List LineT) = (out ++ lineOf i (at_ (pieces s) i)) := (by rw [lineOf_F (by omega)]; simp); Own.re o33 (congrArg List.length hx) (congrArg (fun l : List LineT => l.flatMap eLine) hx)), m34, by omega, by omega, by rw [hsc]; exact scan_step hi0 (by omega) (by omega), by exact lineOf_grow _ hol⟩
   ·
    refine AWP.condF rfl (decide_eq_false b17) ?_
    refine AWP.exit ?_
    change AWP _ _ _ _ _ _
    refine AWP.seq ?_
    refine AWP.region (l := [0, 1, 2, 3]) rfl ?_
    refine AOps.cons rfl rfl (AOp.move (w5) rfl s14 ?_)
    refine AOps.cons rfl rfl (AOp.assign (w5) rfl rfl ?_)
    refine AOps.cons rfl rfl (AOp.assign (.int .i64 0) rfl rfl ?_)
    refine AOps.cons rfl rfl (AOp.assign (.int .i64 0) rfl rfl ?_)
    refine AOps.nil ?_
    change AWP _ _ _ _ _ _
    refine AWP.ret ?_
    refine Fin.frz 2 o15 rfl m16 fun H52 m53 k54 => ?_
    refine ⟨_, _, Ghost.refl, .inr rfl, _, Res.three rfl rfl rfl rfl, ?_, m53⟩
    exact congrArg AV.tup (lc (congrArg (fun l : List LineT => AV.sl l.length (l.flatMap eLine)) (show ((out) : List LineT) = (linesR s).1 from by rw [hsc, scan_end (by omega)])) (lc (congrArg (AV.int .i64) (show (0 : Int) = (linesR s).2.1 from by rw [hsc, scan_end (by omega)])) (lc (congrArg (AV.int .i64) (show (0 : Int) = (linesR s).2.2 from by rw [hsc, scan_end (by omega)])) rfl)))
end Go.Proofs.L
namespace Go.Proofs.L
open Go Go.AH
set_option maxRecDepth 4000
set_option linter.unusedSimpArgs false
set_option linter.unusedVariables false
variable [LexG]
theorem c_lex_LinesO {H0 : Heap} (s : ByteArray) : ACalls Tryd.prog 10 [.str s] H0 fun r H' => ∃ v, Own H0 H' 2 v ((linesR s).1).length (((linesR s).1).flatMap eLine) ∧ r = (.tup [v, .int .i64 ((linesR s).2.1), .int .i64 ((linesR s).2.2)]) ∧ Mono H0 H' := by
 refine ACalls.of_body' (n := 45) rfl rfl rfl rfl ?_
 have m0 := Mono.refl H0
 refine AWP.seq ?_
 refine AWP.region (l := [0, 1, 2]) rfl ?_
 refine AOps.cons rfl rfl (AOp.assign (.snil) rfl rfl ?_)
 refine AOps.cons rfl rfl (AOp.assign (.int .i64 0) rfl rfl ?_)
 refine AOps.cons rfl rfl (AOp.assign (.int .i64 0) rfl rfl ?_)
 refine AOps.nil ?_
 change AWP _ _ _ _ _ _
 refine AWP.seq ?_
 refine AWP.seq ?_
 refine AWP.region (l := [0, 1, 2]) rfl ?_
 refine AOps.cons rfl rfl (AOp.move (.str s) rfl rfl ?_)
 refine AOps.cons rfl rfl (AOp.lenStr rfl rfl u_9 ?_)
 refine AOps.cons rfl rfl (AOp.bin (.bool (decide ((s.size : Int) > 65536))) rfl rfl rfl rfl ?_)
 refine AOps.nil ?_
 change AWP _ _ _ _ _ _
 by_cases b1 : (s.size : Int) > 65536
 ·
  refine AWP.condT rfl (decide_eq_true b1) ?_
  refine AWP.seq ?_
  refine AWP.region (l := [0, 1, 2]) rfl ?_
  refine AOps.cons rfl rfl (AOp.assign (.snil) rfl rfl ?_)
  refine AOps.cons rfl rfl (AOp.assign (.int .i64 0) rfl rfl ?_)
  refine AOps.cons rfl rfl (AOp.assign (.int .i64 13) rfl rfl ?_)
  refine AOps.nil ?_
  change AWP _ _ _ _ _ _
  refine AWP.ret ?_
  have hx : ([] : List LineT) = (linesR s).1 := (by rw [linesR_big (by omega)])
  refine ⟨_, _, Ghost.refl, .inr rfl, _, Res.three rfl rfl rfl rfl, _, Own.re (Own.nil H0 _ 2) (congrArg List.length hx) (congrArg (fun l : List LineT => l.flatMap eLine) hx), ?_, m0⟩
  exact congrArg AV.tup (lc rfl (lc (congrArg (AV.int .i64) (show (0 : Int) = (linesR s).2.1 from by rw [linesR_big (by omega)])) (lc (congrArg (AV.int .i64) (show (13 : Int) = (linesR s).2.2 from by rw [linesR_big (by omega)])) rfl)))
 ·
  refine AWP.condF rfl (decide_eq_false b1) ?_
  refine AWP.skip ?_
  change AWP _ _ _ _ _ _
  refine AWP.seq ?_
  refine AWP.region (l := [0]) rfl ?_
  refine AOps.cons rfl rfl (AOp.assign (.snil) rfl rfl ?_)
  refine AOps.nil ?_
  change AWP _ _ _ _ _ _
  refine AWP.seq ?_
  refine AWP.seq ?_
  refine AWP.region (l := [0, 1, 2, 3]) rfl ?_
  refine AOps.cons rfl rfl (AOp.move (.str s) rfl rfl ?_)
  refine AOps.cons rfl rfl (AOp.pcall («as» := [.str s, .str ⟨#[10]⟩]) rfl rfl (rfl) tf_19 (c_Split s (by omega)) ?_)
  intro H2 m3
  have m4 := m0.trans m3
  refine AOps.cons rfl rfl (AOp.len (m := (pieces s).length) rfl rfl (.inr (.inl ⟨_, rfl⟩)) u_33 ?_)
  refine AOps.cons rfl rfl (AOp.move (.int .i64 0) rfl rfl ?_)
  refine AOps.nil ?_
  change AWP _ _ _ _ _ _
  refine AWP.block ?_
  refine AWP.loop (fun q5 fq Hq => ∃ (i : Int) (out : List LineT) (w5 : AV), q5 = (((pieces s).length : Int) - i).toNat ∧ fq 15 = .int .i64 i ∧ fq 13 = .sl (pieces s).length ((pieces s).map eStr) ∧ fq 14 = .int .i64 (((pieces s).length) : Int) ∧ fq 5 = w5 ∧ Own H0 Hq 2 w5 (out).length ((out).flatMap eLine) ∧ Mono H0 Hq ∧ (0 ≤ i) ∧ (i ≤ (pieces s).length) ∧ (linesR s = scanL ((pieces s).drop i.toNat) i out) ∧ ((out.length : Int) ≤ i)) (k := (((pieces s).length : Int) - 0).toNat) ?_ ?_
  ·
   exact ⟨0, ([] : List LineT), .snil, rfl, rfl, rfl, rfl, rfl, Own.nil _ _ _, m4, by omega, by omega, by exact linesR_start (by omega), by simp⟩
  ·
   rintro _ f7 H6 ⟨i, out, w5, rfl, s8, s9, s10, s11, o12, m13, hi0, hi1, hsc, hol⟩
   refine AWP.seq ?_
   have hpl := pieces_len s
   refine AWP.region (l := [0]) rfl ?_
   refine AOps.cons rfl rfl (AOp.bin (.bool (decide (i < (((pieces s).length) : Int)))) rfl s8 s10 rfl ?_)
   refine AOps.nil ?_
   change AWP _ _ _ _ _ _
   refine AWP.seq ?_
   by_cases b14 : i < (((pieces s).length) : Int)
   ·
    refine AWP.condT rfl (decide_eq_true b14) ?_
    refine AWP.skip ?_
    change AWP _ _ _ _ _ _
    refine AWP.seq ?_
    refine AWP.block ?_
    refine AWP.seq ?_
    have hps := piece_size (s := s) hi0 (by omega)
    refine AWP.region (l := [0, 1, 2, 3, 4]) rfl ?_
    refine AOps.cons rfl rfl (AOp.move (.int .i64 i) rfl s8 ?_)
    refine AOps.cons rfl rfl (AOp.indexAddrS rfl s9 s8 sl_33 (by omega) (by omega) ?_)
    refine AOps.cons rfl rfl (AOp.loadF (.str (at_ (pieces s) i)) rfl rfl ty_9 (ld1 (by omega) (by omega)) ?_)
    refine AOps.cons rfl rfl (AOp.assign (.int .i64 i) rfl rfl ?_)
    refine AOps.cons rfl rfl (AOp.assign (.str (at_ (pieces s) i)) rfl rfl ?_)
    refine AOps.nil ?_
    change AWP _ _ _ _ _ _
    refine AWP.seq ?_
    refine AWP.seq ?_
    refine AWP.region (l := [0, 1, 2]) rfl ?_
    refine AOps.cons rfl rfl (AOp.move (.str (at_ (pieces s) i)) rfl rfl ?_)
    refine AOps.cons rfl rfl (AOp.pcall («as» := [.str (at_ (pieces s) i), .fn 21 []]) rfl rfl (rfl) tf_20 (c_IndexFunc (at_ (pieces s) i) (by omega)) ?_)
    intro H15 m16
    have o17 := Own.mono o12 m16
    have m18 := m13.trans m16
    refine AOps.cons rfl rfl (AOp.bin (.bool (decide (idxR (at_ (pieces s) i) ≥ 0))) rfl rfl rfl rfl ?_)
    refine AOps.nil ?_
    change AWP _ _ _ _ _ _
    by_cases b19 : idxR (at_ (pieces s) i) ≥ 0
    ·
     refine AWP.condT rfl (decide_eq_true b19) ?_
     refine AWP.seq ?_
     refine AWP.region (l := [0, 1, 2, 3, 4]) rfl ?_
     refine AOps.cons rfl rfl (AOp.move (.int .i64 i) rfl rfl ?_)
     refine AOps.cons rfl rfl (AOp.bin (.int .i64 (i + 1)) rfl rfl rfl (iadd (by omega)) ?_)
     refine AOps.cons rfl rfl (AOp.assign (.snil) rfl rfl ?_)
     refine AOps.cons rfl rfl (AOp.assign (.int .i64 (i + 1)) rfl rfl ?_)
     refine AOps.cons rfl rfl (AOp.assign (.int .i64 10) rfl rfl ?_)
     refine AOps.nil ?_
     change AWP _ _ _ _ _ _
     refine AWP.ret ?_
     have hx : ([] : List LineT) = (linesR s).1 := (by rw [hsc, scan_bad hi0 (by omega) (by omega)])
     refine ⟨_, _, Ghost.refl, .inr rfl, _, Res.three rfl rfl rfl rfl, _, Own.re (Own.nil H0 _ 2) (congrArg List.length hx) (congrArg (fun l : List LineT => l.flatMap eLine) hx), ?_, m18⟩
     exact congrArg AV.tup (lc rfl (lc (congrArg (AV.int .i64) (show (i + 1 : Int) = (linesR s).2.1 from by rw [hsc, scan_bad hi0 (by omega) (by omega)])) (lc (congrArg (AV.int .i64) (show (10 : Int) = (linesR s).2.2 from by rw [hsc, scan_bad hi0 (by omega) (by omega)])) rfl)))
    ·
     refine AWP.condF rfl (decide_eq_false b19) ?_
     refine AWP.skip ?_
     change AWP _ _ _ _ _ _
     refine AWP.seq ?_
     have hok := idxR_neg.1 (show idxR (at_ (pieces s) i) < 0 by omega)
     refine AWP.region (l := [0, 1, 2, 3, 4, 5, 6]) rfl ?_
     refine AOps.cons rfl rfl (AOp.move (.str (at_ (pieces s) i)) rfl rfl ?_)
     refine AOps.cons rfl rfl (AOp.pcall («as» := [.str (at_ (pieces s) i), .str ⟨#[35]⟩]) rfl rfl (rfl) tf_22 (c_Cut (at_ (pieces s) i) (by omega)) ?_)
     intro H20 m21
     have o22 := Own.mono o17 m21
     have m23 := m18.trans m21
     refine AOps.cons rfl rfl (AOp.move (.tup [.str (cut1 (at_ (pieces s) i)), .str (cut2 (at_ (pieces s) i)), .bool (cut3 (at_ (pieces s) i))]) rfl rfl ?_)
     refine AOps.cons rfl rfl (AOp.extract (.str (cut1 (at_ (pieces s) i))) rfl rfl rfl ?_)
     refine AOps.cons rfl rfl (AOp.extract (.str (cut2 (at_ (pieces s) i))) rfl rfl rfl ?_)
     refine AOps.cons rfl rfl (AOp.extract (.bool (cut3 (at_ (pieces s) i))) rfl rfl rfl ?_)
     refine AOps.cons rfl rfl (AOp.assign (.str (cut1 (at_ (pieces s) i))) rfl rfl ?_)
     refine AOps.nil ?_
     change AWP _ _ _ _ _ _
     refine AWP.seq ?_
     have hcs := cut1_size (at_ (pieces s) i)
     refine AWP.region (l := [0, 1, 2]) rfl ?_
     refine AOps.cons rfl rfl (AOp.move (.str (cut1 (at_ (pieces s) i))) rfl rfl ?_)
     refine AOps.cons rfl rfl (AOp.pcall («as» := [.str (cut1 (at_ (pieces s) i))]) rfl rfl (rfl) tf_23 (c_Fields (cut1 (at_ (pieces s) i)) (by omega) (cut1_asc hok)) ?_)
     intro H24 m25
     have o26 := Own.mono o22 m25
     have m27 := m23.trans m25
     refine AOps.cons rfl rfl (AOp.assign (.sl (wordsB (cut1 (at_ (pieces s) i))).length ((wordsB (cut1 (at_ (pieces s) i))).map eStr)) rfl rfl ?_)
     refine AOps.nil ?_
     change AWP _ _ _ _ _ _
     refine AWP.seq ?_
     refine AWP.region (l := [0, 1, 2]) rfl ?_
     refine AOps.cons rfl rfl (AOp.move (.sl (wordsB (cut1 (at_ (pieces s) i))).length ((wordsB (cut1 (at_ (pieces s) i))).map eStr)) rfl rfl ?_)
     refine AOps.cons rfl rfl (AOp.len (m := (wordsB (cut1 (at_ (pieces s) i))).length) rfl rfl (.inr (.inl ⟨_, rfl⟩)) u_33 ?_)
     refine AOps.cons rfl rfl (AOp.bin (.bool (decide ((((wordsB (cut1 (at_ (pieces s) i))).length) : Int) > 0))) rfl rfl rfl rfl ?_)
     refine AOps.nil ?_
     change AWP _ _ _ _ _ _
     by_cases b28 : (((wordsB (cut1 (at_ (pieces s) i))).length) : Int) > 0
     ·
      refine AWP.condT rfl (decide_eq_true b28) ?_
      refine AWP.region (l := [0, 1, 2, 3, 4, 5, 6, 7]) rfl ?_
      refine AOps.cons rfl rfl (AOp.move (w5) rfl s11 ?_)
      refine AOps.cons rfl rfl (AOp.move (.int .i64 i) rfl rfl ?_)
      refine AOps.cons rfl rfl (AOp.bin (.int .i64 (i + 1)) rfl rfl rfl (iadd (by omega)) ?_)
      refine AOps.cons rfl rfl (AOp.move (.sl (wordsB (cut1 (at_ (pieces s) i))).length ((wordsB (cut1 (at_ (pieces s) i))).map eStr)) rfl rfl ?_)
      refine AOps.cons rfl rfl (AOp.build (cells := [.int .i64 (i + 1), .sl (wordsB (cut1 (at_ (pieces s) i))).length ((wordsB (cut1 (at_ (pieces s) i))).map eStr)]) rfl tz_35 pl_35 rfl rfl ?_)
      refine AOps.cons rfl rfl (AOp.buildSlice (cells := [.int .i64 (i + 1), .sl (wordsB (cut1 (at_ (pieces s) i))).length ((wordsB (cut1 (at_ (pieces s) i))).map eStr)]) rfl u_23 ts_35 tz_35 rfl rfl rfl ?_)
      intro i29 H30 n31 h32 k33
      have z34 := Mono.free m27 n31
      have o35 := Own.keep o26 k33 (Own.notnew o26 n31)
      have no36 := Own.notnew o26 n31
      have m37 := Mono.new m27 n31 k33
      refine AOps.cons rfl rfl (AOp.append_own (es := 2) (m := 1) (len := ((out).length)) (old := (out).flatMap eLine) (cells := [.int .i64 (i + 1), .sl (wordsB (cut1 (at_ (pieces s) i))).length ((wordsB (cut1 (at_ (pieces s) i))).map eStr)]) rfl u_23 ts_35 tzn_35 tb_35 (by decide) ni_23 rfl o35 m37 rfl (.slm h32 rfl) (one_of rfl) (by decide) (by first | omega | (simp; omega)) ?_)
      intro v38 H39 o40 m41 k42 j43
      have o44 := Own.snocM (xs := ((out) : List LineT)) (y := (LineT.mk (i + 1) (wordsB (cut1 (at_ (pieces s) i))))) (e := eLine) (by simp) o40
      refine AOps.cons rfl rfl (AOp.assign (v38) rfl rfl ?_)
      refine AOps.nil ?_
      change AWP _ _ _ _ _ _
      refine AWP.region (l := [0, 1]) rfl ?_
      refine AOps.cons rfl rfl (AOp.bin (.int .i64 (i + 1)) rfl s8 rfl (iadd (by omega)) ?_)
      refine AOps.cons rfl rfl (AOp.move (.int .i64 (i + 1)) rfl rfl ?_)
      refine AOps.nil ?_
      exact ⟨_, by omega, i + 1, out ++ lineOf i (at_ (pieces s) i), v38, rfl, rfl, s9, s10, rfl, (have hx : (((out) ++ [(LineT.mk (i + 1) (wordsB (cut1 (at_ (pieces s) i))))]) : List LineT) = (out ++ lineOf i (at_ (pieces s) i)) := (by rw [lineOf_T (by omega)]); Own.re o44 (congrArg List.length hx) (congrArg (fun l : List LineT => l.flatMap eLine) hx)), m41, by omega, by omega, by rw [hsc]; exact scan_step hi0 (by omega) (by omega), by exact lineOf_grow _ hol⟩
     ·
      refine AWP.condF rfl (decide_eq_false b28) ?_
      refine AWP.skip ?_
      change AWP _ _ _ _ _ _
      refine AWP.region (l := [0, 1]) rfl ?_
      refine AOps.cons rfl rfl (AOp.bin (.int .i64 (i + 1)) rfl s8 rfl (iadd (by omega)) ?_)
      refine AOps.cons rfl rfl (AOp.move (.int .i64 (i + 1)) rfl rfl ?_)
      refine AOps.nil ?_
      exact ⟨_, by omega, i + 1, out ++ lineOf i (at_ (pieces s) i), w5, rfl, rfl, s9, s10, s11, (have hx : ((out) : List LineT) = (out ++ lineOf i (at_ (pieces s) i)) := (by rw [lineOf_F (by omega)]; simp); Own.re o26 (congrArg List.length hx) (congrArg (fun l : List LineT => l.flatMap eLine) hx)), m27, by omega, by omega, by rw [hsc]; exact scan_step hi0 (by omega) (by omega), by exact lineOf_grow _ hol⟩
   ·
    refine AWP.condF rfl (decide_eq_false b14) ?_
    refine AWP.exit ?_
    change AWP _ _ _ _ _ _
    refine AWP.seq ?_
    refine AWP.region (l := [0, 1, 2, 3]) rfl ?_
    refine AOps.cons rfl rfl (AOp.move (w5) rfl s11 ?_)
    refine AOps.cons rfl rfl (AOp.assign (w5) rfl rfl ?_)
    refine AOps.cons rfl rfl (AOp.assign (.int .i64 0) rfl rfl ?_)
    refine AOps.cons rfl rfl (AOp.assign (.int .i64 0) rfl rfl ?_)
    refine AOps.nil ?_
    change AWP _ _ _ _ _ _
    refine AWP.ret ?_
    have hx : ((out) : List LineT) = (linesR s).1 := (by rw [hsc, scan_end (by omega)])
    refine ⟨_, _, Ghost.refl, .inr rfl, _, Res.three rfl rfl rfl rfl, _, Own.re o12 (congrArg List.length hx) (congrArg (fun l : List LineT => l.flatMap eLine) hx), ?_, m13⟩
    exact congrArg AV.tup (lc rfl (lc (congrArg (AV.int .i64) (show (0 : Int) = (linesR s).2.1 from by rw [hsc, scan_end (by omega)])) (lc (congrArg (AV.int .i64) (show (0 : Int) = (linesR s).2.2 from by rw [hsc, scan_end (by omega)])) rfl)))
end Go.Proofs.L
namespace Go.Proofs.L
open Go Go.AH Go.Lib
set_option maxRecDepth 4000
set_option linter.unusedSectionVars false
variable [LexG]
/-! ### The document's Lines -/
structure RS where
  out : List LineT
  no : Int
  ws : List ByteArray
  wd : List Int
  rem : Bool
def stepR (c : Int) (σ : RS) : RS :=
  let rem := σ.rem || decide (c = 35)
  let brk := decide (c = 10) || (decide (c = 32) || rem)
  let ws := if brk = true then (if 0 < (σ.wd.length : Int) then σ.ws ++ [bytesB σ.wd] else σ.ws) else σ.ws
  let wd := if brk = true then [] else σ.wd ++ [c]
  if decide (c = 10) = true then ⟨if 0 < (ws.length : Int) then σ.out ++ [⟨σ.no, ws⟩] else σ.out, σ.no + 1, [], wd, false⟩ else ⟨σ.out, σ.no, ws, wd, rem⟩
def badB (c : Int) : Prop := c ≠ 10 ∧ (c < 32 ∨ 126 < c)
instance (c : Int) : Decidable (badB c) := by unfold badB; infer_instance
def refGo : List Int → RS → List LineT × Int × Int
  | [], σ => (σ.out, 0, 0)
  | c :: r, σ => if badB c then ([], σ.no, 10) else refGo r (stepR c σ)
def bytesL (s : ByteArray) : List Int := (s.data.toList.map fun b => (b.toNat : Int)) ++ [10]
def refR (s : ByteArray) : List LineT × Int × Int := if 65536 < (s.size : Int) then ([], 0, 13) else refGo (bytesL s) ⟨[], 1, [], [], false⟩
end Go.Proofs.L
namespace Go.Proofs.L
open Go Go.AH
set_option maxRecDepth 4000
set_option linter.unusedSimpArgs false
set_option linter.unusedVariables false
variable [LexG]
end Go.Proofs.L
namespace Go.Proofs.L
open Go Go.AH Go.Lib
set_option maxRecDepth 4000
set_option linter.unusedSectionVars false
variable [LexG]
theorem al_lines : linesR ⟨#[10, 97, 32, 32, 98, 35, 99, 10]⟩ = ([⟨2, [⟨#[97]⟩, ⟨#[98]⟩]⟩], 0, 0) := by kernel_rfl
theorem al_num : R_lex_Number ⟨#[45, 49, 50, 48]⟩ = (-120, true) := by kernel_rfl
theorem al_name : nameB ⟨#[97, 95, 49]⟩ = true := by kernel_rfl
end Go.Proofs.L
namespace Go.Proofs.L
open Go Go.AH
set_option maxRecDepth 4000
set_option linter.unusedSimpArgs false
set_option linter.unusedVariables false
variable [LexG]
theorem c_alive : PC Tryd.prog 9 [] (.bool true) := by
 intro H0
 refine ACalls.of_body' (n := 51) rfl rfl rfl rfl ?_
 have m0 := Mono.refl H0
 refine AWP.seq ?_
 refine AWP.region (l := [0]) rfl ?_
 refine AOps.cons rfl rfl (AOp.assign (.bool false) rfl rfl ?_)
 refine AOps.nil ?_
 change AWP _ _ _ _ _ _
 refine AWP.seq ?_
 refine AWP.region (l := [0, 1, 2, 3, 4, 5, 6, 7]) rfl ?_
 refine AOps.cons rfl rfl (AOp.pcall («as» := [.str ⟨#[10, 97, 32, 32, 98, 35, 99, 10]⟩]) rfl rfl (rfl) tf_10 ((by have h := c_lex_Lines ⟨#[10, 97, 32, 32, 98, 35, 99, 10]⟩; rw [al_lines] at h; exact h)) ?_)
 intro H1 m2
 have m3 := m0.trans m2
 refine AOps.cons rfl rfl (AOp.move (.tup [.sl ([⟨2, [⟨#[97]⟩, ⟨#[98]⟩]⟩] : List LineT).length (([⟨2, [⟨#[97]⟩, ⟨#[98]⟩]⟩] : List LineT).flatMap eLine), .int .i64 0, .int .i64 0]) rfl rfl ?_)
 refine AOps.cons rfl rfl (AOp.extract (.sl ([⟨2, [⟨#[97]⟩, ⟨#[98]⟩]⟩] : List LineT).length (([⟨2, [⟨#[97]⟩, ⟨#[98]⟩]⟩] : List LineT).flatMap eLine)) rfl rfl rfl ?_)
 refine AOps.cons rfl rfl (AOp.extract (.int .i64 0) rfl rfl rfl ?_)
 refine AOps.cons rfl rfl (AOp.extract (.int .i64 0) rfl rfl rfl ?_)
 refine AOps.cons rfl rfl (AOp.assign (.sl ([⟨2, [⟨#[97]⟩, ⟨#[98]⟩]⟩] : List LineT).length (([⟨2, [⟨#[97]⟩, ⟨#[98]⟩]⟩] : List LineT).flatMap eLine)) rfl rfl ?_)
 refine AOps.cons rfl rfl (AOp.assign (.int .i64 0) rfl rfl ?_)
 refine AOps.cons rfl rfl (AOp.assign (.int .i64 0) rfl rfl ?_)
 refine AOps.nil ?_
 change AWP _ _ _ _ _ _
 refine AWP.seq ?_
 refine AWP.region (l := [0, 1, 2, 3, 4, 5]) rfl ?_
 refine AOps.cons rfl rfl (AOp.pcall («as» := [.str ⟨#[45, 49, 50, 48]⟩]) rfl rfl (rfl) tf_13 ((by have h := c_lex_Number ⟨#[45, 49, 50, 48]⟩; rw [al_num] at h; exact h)) ?_)
 intro H4 m5
 have m6 := m3.trans m5
 refine AOps.cons rfl rfl (AOp.move (.tup [.int .i64 (-120), .bool true]) rfl rfl ?_)
 refine AOps.cons rfl rfl (AOp.extract (.int .i64 (-120)) rfl rfl rfl ?_)
 refine AOps.cons rfl rfl (AOp.extract (.bool true) rfl rfl rfl ?_)
 refine AOps.cons rfl rfl (AOp.assign (.int .i64 (-120)) rfl rfl ?_)
 refine AOps.cons rfl rfl (AOp.assign (.bool true) rfl rfl ?_)
 refine AOps.nil ?_
 change AWP _ _ _ _ _ _
 refine AWP.seq ?_
 have hl : (([⟨2, [⟨#[97]⟩, ⟨#[98]⟩]⟩] : List LineT).length : Int) = 1 := rfl
 refine AWP.region (l := [0, 1, 2, 3, 4, 5, 6, 7, 8, 9, 10, 11, 12, 13, 14, 15, 16, 17, 18, 19, 20, 21, 22, 23, 24, 25, 26, 27, 28, 29, 30, 31, 32, 33, 34, 35, 36]) rfl ?_
 refine AOps.cons rfl rfl (AOp.move (.int .i64 0) rfl rfl ?_)
 refine AOps.cons rfl rfl (AOp.bin (.bool (decide (0 = 0))) rfl rfl rfl ieq ?_)
 refine AOps.cons rfl rfl (AOp.move (.bool (decide (0 = 0))) rfl rfl ?_)
 refine AOps.yes rfl rfl rfl rfl rfl rfl rfl (decide_eq_true (by decide)) (AOp.move (.int .i64 0) rfl rfl ?_)
 refine AOps.yes rfl rfl rfl rfl rfl rfl rfl (decide_eq_true (by decide)) (AOp.bin (.bool (decide (0 = 0))) rfl rfl rfl ieq ?_)
 refine AOps.cons rfl rfl (AOp.pickT (.bool (decide (0 = 0))) rfl rfl (decide_eq_true (by decide)) rfl ?_)
 refine AOps.cons rfl rfl (AOp.move (.bool (decide (0 = 0))) rfl rfl ?_)
 refine AOps.yes rfl rfl rfl rfl rfl rfl rfl (decide_eq_true (by decide)) (AOp.move (.sl ([⟨2, [⟨#[97]⟩, ⟨#[98]⟩]⟩] : List LineT).length (([⟨2, [⟨#[97]⟩, ⟨#[98]⟩]⟩] : List LineT).flatMap eLine)) rfl rfl ?_)
 refine AOps.yes rfl rfl rfl rfl rfl rfl rfl (decide_eq_true (by decide)) (AOp.len (m := ([⟨2, [⟨#[97]⟩, ⟨#[98]⟩]⟩] : List LineT).length) rfl rfl (.inr (.inl ⟨_, rfl⟩)) u_23 ?_)
 refine AOps.yes rfl rfl rfl rfl rfl rfl rfl (decide_eq_true (by decide)) (AOp.bin (.bool (decide (((([⟨2, [⟨#[97]⟩, ⟨#[98]⟩]⟩] : List LineT).length) : Int) = 1))) rfl rfl rfl ieq ?_)
 refine AOps.cons rfl rfl (AOp.pickT (.bool (decide (((([⟨2, [⟨#[97]⟩, ⟨#[98]⟩]⟩] : List LineT).length) : Int) = 1))) rfl rfl (decide_eq_true (by decide)) rfl ?_)
 refine AOps.cons rfl rfl (AOp.move (.bool (decide (((([⟨2, [⟨#[97]⟩, ⟨#[98]⟩]⟩] : List LineT).length) : Int) = 1))) rfl rfl ?_)
 refine AOps.yes rfl rfl rfl rfl rfl rfl rfl (decide_eq_true (rfl)) (AOp.move (.sl ([⟨2, [⟨#[97]⟩, ⟨#[98]⟩]⟩] : List LineT).length (([⟨2, [⟨#[97]⟩, ⟨#[98]⟩]⟩] : List LineT).flatMap eLine)) rfl rfl ?_)
 refine AOps.yes rfl rfl rfl rfl rfl rfl rfl (decide_eq_true (rfl)) (AOp.indexAddrS rfl rfl rfl sl_23 (by omega) (by omega) ?_)
 refine AOps.yes rfl rfl rfl rfl rfl rfl rfl (decide_eq_true (rfl)) (AOp.fieldAddrF rfl rfl fl_35_0 ?_)
 refine AOps.yes rfl rfl rfl rfl rfl rfl rfl (decide_eq_true (rfl)) (AOp.loadF (.int .i64 ((at_ ([⟨2, [⟨#[97]⟩, ⟨#[98]⟩]⟩] : List LineT) 0).No)) rfl rfl ty_3 (ldF eLine_len (by omega) (by omega) rfl (by decide)) ?_)
 refine AOps.yes rfl rfl rfl rfl rfl rfl rfl (decide_eq_true (rfl)) (AOp.bin (.bool (decide ((at_ ([⟨2, [⟨#[97]⟩, ⟨#[98]⟩]⟩] : List LineT) 0).No = 2))) rfl rfl rfl ieq ?_)
 refine AOps.cons rfl rfl (AOp.pickT (.bool (decide ((at_ ([⟨2, [⟨#[97]⟩, ⟨#[98]⟩]⟩] : List LineT) 0).No = 2))) rfl rfl (decide_eq_true (rfl)) rfl ?_)
 refine AOps.cons rfl rfl (AOp.move (.bool (decide ((at_ ([⟨2, [⟨#[97]⟩, ⟨#[98]⟩]⟩] : List LineT) 0).No = 2))) rfl rfl ?_)
 refine AOps.yes rfl rfl rfl rfl rfl rfl rfl (decide_eq_true (rfl)) (AOp.move (.sl ([⟨2, [⟨#[97]⟩, ⟨#[98]⟩]⟩] : List LineT).length (([⟨2, [⟨#[97]⟩, ⟨#[98]⟩]⟩] : List LineT).flatMap eLine)) rfl rfl ?_)
 refine AOps.yes rfl rfl rfl rfl rfl rfl rfl (decide_eq_true (rfl)) (AOp.indexAddrS rfl rfl rfl sl_23 (by omega) (by omega) ?_)
 refine AOps.yes rfl rfl rfl rfl rfl rfl rfl (decide_eq_true (rfl)) (AOp.fieldAddrF rfl rfl fl_35_1 ?_)
 refine AOps.yes rfl rfl rfl rfl rfl rfl rfl (decide_eq_true (rfl)) (AOp.loadF (.sl ((at_ ([⟨2, [⟨#[97]⟩, ⟨#[98]⟩]⟩] : List LineT) 0).Words).length (((at_ ([⟨2, [⟨#[97]⟩, ⟨#[98]⟩]⟩] : List LineT) 0).Words).map eStr)) rfl rfl ty_33 (ldF eLine_len (by omega) (by omega) rfl (by decide)) ?_)
 refine AOps.yes rfl rfl rfl rfl rfl rfl rfl (decide_eq_true (rfl)) (AOp.buildSlice (cells := [.str ⟨#[97]⟩, .str ⟨#[98]⟩]) rfl u_33 ts_9 tz_9 rfl rfl rfl ?_)
 intro i7 H8 n9 h10 k11
 have z12 := Mono.free m6 n9
 have m13 := Mono.new m6 n9 k11
 obtain ⟨v14, e15⟩ : ∃ v : AV, v = .slm i7 0 1 0 2 := ⟨_, rfl⟩
 have o16 : Own H0 H8 1 v14 2 [.str ⟨#[97]⟩, .str ⟨#[98]⟩] := .inr ⟨_, _, e15, h10, z12, rfl⟩
 refine AOps.yes rfl rfl rfl rfl rfl rfl rfl (decide_eq_true (rfl)) ?_
 refine AOp.frz 38 (o16) e15.symm m13 fun H17 m18 k19 => ?_
 refine AOp.pcall («as» := [.sl ((at_ ([⟨2, [⟨#[97]⟩, ⟨#[98]⟩]⟩] : List LineT) 0).Words).length (((at_ ([⟨2, [⟨#[97]⟩, ⟨#[98]⟩]⟩] : List LineT) 0).Words).map eStr), .sl ([⟨#[97]⟩, ⟨#[98]⟩] : List ByteArray).length (([⟨#[97]⟩, ⟨#[98]⟩] : List ByteArray).map eStr)]) rfl rfl (rfl) tf_18 (c_SameTexts _ _ (by decide) (by decide)) ?_
 intro H20 m21
 have m22 := m18.trans m21
 refine AOps.cons rfl rfl (AOp.pickT (.bool (decide (((at_ ([⟨2, [⟨#[97]⟩, ⟨#[98]⟩]⟩] : List LineT) 0).Words) = ([⟨#[97]⟩, ⟨#[98]⟩] : List ByteArray)))) rfl rfl (decide_eq_true (rfl)) rfl ?_)
 refine AOps.cons rfl rfl (AOp.move (.bool (decide (((at_ ([⟨2, [⟨#[97]⟩, ⟨#[98]⟩]⟩] : List LineT) 0).Words) = ([⟨#[97]⟩, ⟨#[98]⟩] : List ByteArray)))) rfl rfl ?_)
 refine AOps.yes rfl rfl rfl rfl rfl rfl rfl (decide_eq_true (rfl)) (AOp.move (.int .i64 (-120)) rfl rfl ?_)
 refine AOps.yes rfl rfl rfl rfl rfl rfl rfl (decide_eq_true (rfl)) (AOp.bin (.bool (decide (-120 = -120))) rfl rfl rfl ieq ?_)
 refine AOps.cons rfl rfl (AOp.pickT (.bool (decide (-120 = -120))) rfl rfl (decide_eq_true (rfl)) rfl ?_)
 refine AOps.cons rfl rfl (AOp.move (.bool (decide (-120 = -120))) rfl rfl ?_)
 refine AOps.yes rfl rfl rfl rfl rfl rfl rfl (decide_eq_true (by decide)) (AOp.move (.bool true) rfl rfl ?_)
 refine AOps.cons rfl rfl (AOp.pickT (.bool true) rfl rfl (decide_eq_true (by decide)) rfl ?_)
 refine AOps.cons rfl rfl (AOp.move (.bool true) rfl rfl ?_)
 refine AOps.yes rfl rfl rfl rfl rfl rfl rfl rfl (AOp.pcall («as» := [.str ⟨#[97, 95, 49]⟩]) rfl rfl (rfl) tf_15 ((by have h := c_lex_Name ⟨#[97, 95, 49]⟩; rw [al_name] at h; exact h)) ?_)
 intro H23 m24
 have m25 := m22.trans m24
 refine AOps.cons rfl rfl (AOp.pickT (.bool true) rfl rfl rfl rfl ?_)
 refine AOps.cons rfl rfl (AOp.assign (.bool true) rfl rfl ?_)
 refine AOps.nil ?_
 change AWP _ _ _ _ _ _
 refine AWP.ret ?_
 refine ⟨_, _, Ghost.refl, .inr rfl, _, Res.one rfl rfl, ?_, m25⟩
 exact rfl
end Go.Proofs.L
namespace Go.Proofs.L
open Go Go.AH Go.Lib
set_option maxRecDepth 4000
set_option linter.unusedSectionVars false
variable [LexG]
/-! ### The two readings of a number are one -/
theorem byt_get {w : ByteArray} {k : Nat} (h : k < w.size) : ∃ b, w.data.toList[k]? = some b ∧ byt w k = b.toNat := by
  have hl : k < w.data.toList.length := h
  refine ⟨_, List.getElem?_eq_getElem hl, ?_⟩
  unfold byt
  rw [Int.toNat_natCast, List.getD_eq_getElem?_getD, List.getElem?_eq_getElem hl]
  rfl
end Go.Proofs.L
namespace Go.Proofs.L
open Go Go.AH Go.Lib
set_option maxRecDepth 4000
set_option linter.unusedSectionVars false
variable [LexG]
/-! ### The two readings of a text are one -/
abbrev toI (b : UInt8) : Int := (b.toNat : Int)
def flush (wd : List Int) : List ByteArray := if 0 < (wd.length : Int) then [bytesB wd] else []
def wordsFrom : List Int → Bool → List UInt8 → List ByteArray
  | wd, _, [] => flush wd
  | wd, true, _ :: _ => flush wd
  | wd, false, b :: p => if b = 35 then flush wd else if b = 32 then flush wd ++ wordsFrom [] false p else wordsFrom (wd ++ [toI b]) false p
def lineIf (no : Int) (ws : List ByteArray) : List LineT := if 0 < (ws.length : Int) then [⟨no, ws⟩] else []
def badP (p : List UInt8) : Bool := p.any fun b => decide (b.toNat < 32 ∨ 126 < b.toNat)
def scanQ : List (List UInt8) → RS → List LineT × Int × Int
  | [], σ => (σ.out, 0, 0)
  | p :: r, σ => if badP p = true then ([], σ.no, 10) else scanQ r ⟨σ.out ++ lineIf σ.no (σ.ws ++ wordsFrom σ.wd σ.rem p), σ.no + 1, [], [], false⟩
theorem toI_eq {b c : UInt8} : toI b = toI c ↔ b = c := ⟨fun h => UInt8.toNat_inj.1 (by have h' : (b.toNat : Int) = c.toNat := h; omega), fun h => by rw [h]⟩
theorem bad_iff {b : UInt8} (h : b ≠ 10) : badB (toI b) ↔ (b.toNat < 32 ∨ 126 < b.toNat) := by
  unfold badB
  have : toI b ≠ 10 := fun e => h (toI_eq.1 (e.trans rfl))
  simp only [toI] at *
  omega
theorem step_nl (σ : RS) : stepR 10 σ = ⟨σ.out ++ lineIf σ.no (σ.ws ++ flush σ.wd), σ.no + 1, [], [], false⟩ := by
  by_cases h : 0 < (σ.wd.length : Int)
  · have e1 := eq_true h
    simp only [stepR, lineIf, flush, decide_true, Bool.true_or, if_true, e1]
    split <;> simp
  · have e1 := eq_false h
    simp only [stepR, lineIf, flush, decide_true, Bool.true_or, if_true, e1, if_false, List.append_nil]
    split <;> simp
/-- A byte within a piece. -/
theorem step_in {b : UInt8} (hb : b ≠ 10) (σ : RS) (p : List UInt8) : (stepR (toI b) σ).out = σ.out ∧ (stepR (toI b) σ).no = σ.no ∧ (stepR (toI b) σ).ws ++ wordsFrom (stepR (toI b) σ).wd (stepR (toI b) σ).rem p = σ.ws ++ wordsFrom σ.wd σ.rem (b :: p) := by
  have h10 : ¬ toI b = 10 := fun e => hb (toI_eq.1 (e.trans rfl))
  obtain ⟨out, no, ws, wd, rem⟩ := σ
  have fl : ∀ rem', wordsFrom [] rem' p = wordsFrom [] rem' p := fun _ => rfl
  cases rem with
  | true =>
    have hw : ∀ q, wordsFrom [] true q = [] := fun q => by cases q <;> rfl
    simp only [stepR, h10, decide_false, Bool.false_or, Bool.true_or, Bool.or_true, if_true, Bool.false_eq_true, if_false, hw, wordsFrom, flush, List.append_nil, true_and]
    split <;> simp
  | false =>
    by_cases h35 : b = 35
    · have hw : ∀ q, wordsFrom [] true q = [] := fun q => by cases q <;> rfl
      subst h35
      simp only [stepR, wordsFrom, flush]
      have e : (toI 35 = 35) = True := eq_true rfl
      simp only [h10, e, decide_false, decide_true, Bool.false_or, Bool.or_true, if_true, Bool.false_eq_true, if_false, hw, List.append_nil, true_and]
      split <;> simp
    · have e35 : ¬ toI b = 35 := fun e => h35 (toI_eq.1 (e.trans rfl))
      by_cases h32 : b = 32
      · subst h32
        have e : (toI 32 = 32) = True := eq_true rfl
        simp only [stepR, wordsFrom, h10, e35, e, decide_false, decide_true, Bool.false_or, Bool.true_or, Bool.or_true, Bool.or_false, if_true, Bool.false_eq_true, if_false, true_and, if_neg h35, flush]
        split <;> simp
      · have e32 : ¬ toI b = 32 := fun e => h32 (toI_eq.1 (e.trans rfl))
        simp only [stepR, wordsFrom, h10, e35, e32, decide_false, Bool.false_or, Bool.or_false, Bool.false_eq_true, if_false, true_and, if_neg h35, if_neg h32]
theorem ref_scanQ : ∀ (l : List UInt8) (σ : RS), refGo (l.map toI ++ [10]) σ = scanQ (pcs l) σ
  | [], σ => by
    simp only [List.map_nil, List.nil_append, pcs, scanQ, badP, List.any_nil, Bool.false_eq_true, if_false, refGo, wordsFrom]
    rw [if_neg (by decide), step_nl]
  | b :: l, σ => by
    rw [List.map_cons, List.cons_append, refGo]
    by_cases hb : b = 10
    · subst hb
      rw [if_neg (by decide), pcs, if_pos rfl, scanQ]
      simp only [badP, List.any_nil, Bool.false_eq_true, if_false, wordsFrom]
      rw [ref_scanQ l, show toI 10 = 10 from rfl, step_nl]
    · obtain ⟨p, r, hp⟩ : ∃ p r, pcs l = p :: r := by
        cases hp : pcs l with
        | nil => exact absurd hp (pcs_ne l)
        | cons p r => exact ⟨p, r, rfl⟩
      have hq : pcs (b :: l) = (b :: p) :: r := by rw [pcs, if_neg hb, hp]; rfl
      rw [hq, scanQ]
      by_cases hx : badB (toI b)
      · rw [if_pos hx, if_pos (by simp [badP, (bad_iff hb).1 hx])]
      · rw [if_neg hx, ref_scanQ l, hp, scanQ]
        obtain ⟨a1, a2, a3⟩ := step_in hb σ p
        have hx' := fun e => hx ((bad_iff hb).2 e)
        rw [a1, a2, a3]
        have : badP (b :: p) = badP p := by
          unfold badP
          rw [List.any_cons, decide_eq_false hx', Bool.false_or]
        rw [this]
/-! ### Words -/
def takeH (p : List UInt8) : List UInt8 := p.takeWhile fun b => decide (b ≠ 35)
theorem cut_takeH : ∀ p : List UInt8, (cut p [35]).1 = takeH p
  | [] => by simp [cut, index, takeH]
  | b :: p => by
    have ih := cut_takeH p
    unfold takeH at ih ⊢
    unfold cut at ih ⊢
    rw [index]
    by_cases hb : b = 35
    · subst hb; simp
    · have hp : ([35] : List UInt8).isPrefixOf (b :: p) = false := by simp [List.isPrefixOf, Ne.symm hb]
      rw [hp]
      simp only [Bool.false_eq_true, if_false, List.takeWhile_cons, hb, ne_eq, not_false_eq_true, decide_true, if_true]
      have hge := index_ge p [35]
      by_cases hi : index p [35] = -1
      · rw [hi] at ih ⊢
        simp at ih ⊢
        exact ih
      · have e : (if (index p [35] == -1) = true then (-1 : Int) else index p [35] + 1) = index p [35] + 1 := if_neg (by simpa using hi)
        rw [e, if_pos (by omega)]
        rw [if_pos (by omega)] at ih
        rw [show (index p [35] + 1).toNat = (index p [35]).toNat + 1 by omega, List.take_succ_cons]
        simp only
        simp only at ih
        rw [ih]
theorem bytesB_toI (c : List UInt8) : bytesB (c.map toI) = ⟨c.toArray⟩ := by
  unfold bytesB
  simp [List.map_map, Function.comp_def]
theorem flush_toI (c : List UInt8) : flush (c.map toI) = (if c.isEmpty then [] else [c]).map fun l => ⟨l.toArray⟩ := by
  unfold flush
  cases c with
  | nil => simp
  | cons a r =>
    rw [if_pos (by simp <;> omega), bytesB_toI]
    rfl
theorem sp_iff {b : UInt8} (h : 32 ≤ b.toNat) : isSp b = decide (b = 32) := by
  have hne : ∀ c : UInt8, c.toNat < 32 → (b == c) = false := fun c hc => by
    simp only [beq_eq_false_iff_ne]
    rintro rfl
    omega
  unfold isSp
  rw [hne 9 (by decide), hne 10 (by decide), hne 11 (by decide), hne 12 (by decide), hne 13 (by decide)]
  simp only [Bool.false_or]
  rfl
theorem words_from : ∀ (p c : List UInt8), badP p = false → wordsFrom (c.map toI) false p = (fieldsGo c (takeH p)).map fun l => ⟨l.toArray⟩
  | [], c, _ => by rw [wordsFrom, flush_toI]; rfl
  | b :: p, c, h => by
    unfold badP at h
    rw [List.any_cons, Bool.or_eq_false_iff] at h
    have hb : 32 ≤ b.toNat := by have := of_decide_eq_false h.1; omega
    have ih := fun c => words_from p c h.2
    rw [wordsFrom]
    by_cases h35 : b = 35
    · subst h35
      rw [if_pos rfl, flush_toI]
      rfl
    · have hT : takeH (b :: p) = b :: takeH p := by simp [takeH, h35]
      rw [if_neg h35, hT, fieldsGo, sp_iff hb]
      by_cases h32 : b = 32
      · rw [if_pos h32, decide_eq_true h32, if_pos rfl, flush_toI]
        have := ih []
        simp only [List.map_nil] at this
        rw [this]
        cases c with
        | nil => simp
        | cons a r => simp
      · rw [if_neg h32, decide_eq_false h32, if_neg (by simp)]
        have := ih (c ++ [b])
        rw [List.map_append, List.map_cons, List.map_nil] at this
        exact this
theorem badP_iff {p : ByteArray} : badP p.data.toList = true ↔ 0 ≤ idxR p := by
  have h1 : idxR p < 0 ↔ badP p.data.toList = false := by
    rw [idxR_neg]
    constructor
    · intro h
      unfold badP
      rw [List.any_eq_false]
      intro b hb
      have := okB_mem h hb
      simp; omega
    · intro h j hj
      obtain ⟨b, hb, hv⟩ := byt_get hj
      unfold badP at h
      rw [List.any_eq_false] at h
      have := h b (List.mem_of_getElem? hb)
      simp at this
      rw [hv]; omega
  cases hb : badP p.data.toList with
  | true =>
    have hn : ¬ idxR p < 0 := fun e => by
      rw [h1.1 e] at hb
      cases hb
    exact ⟨fun _ => by omega, fun _ => rfl⟩
  | false =>
    have := h1.2 hb
    exact ⟨fun h => (by cases h), fun h => (by omega)⟩
theorem line_same {p : ByteArray} (h : badP p.data.toList = false) (i : Int) : lineOf i p = lineIf (i + 1) (wordsFrom [] false p.data.toList) := by
  have := words_from p.data.toList [] h
  simp only [List.map_nil] at this
  rw [this, ← cut_takeH]
  have e : wordsB (cut1 p) = (fieldsGo [] (cut p.data.toList [35]).1).map fun l => ⟨l.toArray⟩ := by simp [wordsB, cut1, fields]
  unfold lineOf lineIf
  rw [e]
theorem scan_same : ∀ (ps : List ByteArray) (i : Int) (out : List LineT), scanL ps i out = scanQ (ps.map (·.data.toList)) ⟨out, i + 1, [], [], false⟩
  | [], _, _ => rfl
  | p :: r, i, out => by
    rw [scanL, List.map_cons, scanQ]
    by_cases h : badP p.data.toList = true
    · rw [if_pos (badP_iff.1 h), if_pos h]
    · rw [if_neg fun e => h (badP_iff.2 e), if_neg h, scan_same r, line_same (by simpa using h), List.nil_append]
theorem lines_same (s : ByteArray) : linesR s = refR s := by
  unfold linesR refR
  split
  · rfl
  · rw [scan_same, pieces_pcs, bytesL, ref_scanQ]
    rfl
/-! ### How many -/
theorem cntF_le : ∀ (l : List UInt8) (w : Bool), cntF w l ≤ l.length
  | [], _ => by simp [cntF]
  | b :: l, w => by
    have := cntF_le l (isSp b)
    unfold cntF
    split <;> simp <;> omega
theorem words_le (p : ByteArray) : (wordsB p).length ≤ p.size := by
  have h1 : (wordsB p).length = (fields p.data.toList).length := by simp [wordsB]
  rw [h1, fields_length]
  exact cntF_le _ _
theorem scan_len : ∀ (ps : List ByteArray) (i : Int) (out : List LineT), (scanL ps i out).1.length ≤ out.length + ps.length
  | [], _, out => by simp [scanL]
  | p :: r, i, out => by
    rw [scanL]
    split
    · simp
    · have := scan_len r (i + 1) (out ++ lineOf i p)
      have hl : (lineOf i p).length ≤ 1 := by unfold lineOf; split <;> simp
      rw [List.length_append] at this
      simp only [List.length_cons]
      omega
theorem lines_len' (s : ByteArray) : (linesR s).1.length ≤ 65537 := by
  unfold linesR
  split
  · simp
  · have := scan_len (pieces s) 0 []
    have h2 := pieces_len s
    simp at this
    omega
theorem lines_len (s : ByteArray) : (linesR s).1.length ≤ 1048576 := by have := lines_len' s; omega
theorem scan_words : ∀ (ps : List ByteArray) (i : Int) (out : List LineT) (m : Nat), (∀ p ∈ ps, p.size ≤ m) → (∀ x ∈ out, x.Words.length ≤ m) → ∀ x ∈ (scanL ps i out).1, x.Words.length ≤ m
  | [], _, out, m, _, h => h
  | p :: r, i, out, m, hp, h => by
    rw [scanL]
    split
    · intro x hx; cases hx
    · refine scan_words r _ _ m (fun q hq => hp q (List.mem_cons_of_mem _ hq)) fun x hx => ?_
      rcases List.mem_append.1 hx with e | e
      · exact h x e
      · unfold lineOf at e
        split at e
        · rw [List.mem_singleton] at e
          subst e
          have h1 := words_le (cut1 p)
          have h2 := cut1_size p
          have h3 := hp p (List.mem_cons_self ..)
          show (wordsB (cut1 p)).length ≤ m
          omega
        · cases e
theorem lines_words (s : ByteArray) : ∀ x ∈ (linesR s).1, x.Words.length ≤ 1048576 := by
  unfold linesR
  split
  · intro x hx; cases hx
  · refine scan_words _ _ _ 1048576 (fun p hp => ?_) (fun x hx => by cases hx)
    have := pcs_sub s.data.toList p.data.toList (by rw [← pieces_pcs]; exact List.mem_map.2 ⟨_, hp, rfl⟩)
    have h2 : p.size ≤ s.size := this
    omega
end Go.Proofs.L
namespace Go.Proofs.L
open Go Go.AH
set_option maxRecDepth 4000
set_option linter.unusedSimpArgs false
set_option linter.unusedVariables false
variable [LexG]
end Go.Proofs.L
namespace Go.Proofs.L
open Go Go.AH Go.Lib
set_option maxRecDepth 4000
set_option linter.unusedSectionVars false
variable [LexG]
/-! ### Names -/
theorem bytesL_map (s : ByteArray) : bytesL s = s.data.toList.map toI ++ [10] := rfl
theorem linesQ {s : ByteArray} (h : s.size ≤ 65536) : linesR s = scanQ (pcs s.data.toList) ⟨[], 1, [], [], false⟩ := by
  rw [lines_same]
  unfold refR
  rw [if_neg (by omega), bytesL_map, ref_scanQ]
/-! ### Blanks and a remark -/
end Go.Proofs.L
namespace Go.Proofs.L
open Go Go.AH Go.Lib
set_option maxRecDepth 4000
set_option linter.unusedSectionVars false
variable [LexG]
/-! ### Two texts one behind the other -/
def cnt10 (s : ByteArray) : Nat → Int
  | 0 => 1
  | k + 1 => cnt10 s k + (if byt s k = 10 then 1 else 0)
theorem cnt10_T {s : ByteArray} {i : Int} (h0 : 0 ≤ i) (h1 : i < s.size) (h : byt s i = 10) : cnt10 s i.toNat + 1 = cnt10 s (i + 1).toNat := by
  rw [show (i + 1).toNat = i.toNat + 1 by omega, cnt10, show ((i.toNat : Nat) : Int) = i by omega, if_pos h]
theorem cnt10_F {s : ByteArray} {i : Int} (h0 : 0 ≤ i) (h1 : i < s.size) (h : ¬ byt s i = 10) : cnt10 s i.toNat = cnt10 s (i + 1).toNat := by
  rw [show (i + 1).toNat = i.toNat + 1 by omega, cnt10, show ((i.toNat : Nat) : Int) = i by omega, if_neg h]; omega
def bump1 (b : Int) (x : LineT) : LineT := ⟨x.No + b, x.Words⟩
def bumpI (l : List LineT) (b k : Int) : List LineT := (l.take k.toNat).map (bump1 b) ++ l.drop k.toNat
theorem bumpI_0 (l : List LineT) (b : Int) : bumpI l b 0 = l := rfl
theorem bumpI_len (l : List LineT) (b k : Int) : (bumpI l b k).length = l.length := by simp [bumpI]; omega
theorem bumpI_all {l : List LineT} {b k : Int} (h : (l.length : Int) ≤ k) : bumpI l b k = l.map (bump1 b) := by
  unfold bumpI
  rw [List.take_of_length_le (by omega), List.drop_of_length_le (by omega), List.append_nil]
theorem bumpI_at {l : List LineT} {b k : Int} (h0 : 0 ≤ k) (h1 : k < l.length) : at_ (bumpI l b k) k = at_ l k := by
  have hk : k.toNat < l.length := by omega
  unfold at_ bumpI
  rw [List.getD_eq_getElem?_getD, List.getD_eq_getElem?_getD, List.getElem?_append_right (by simp; omega)]
  simp only [List.length_map, List.length_take, List.getElem?_drop]
  congr 2; omega
theorem bumpI_step {l : List LineT} {b k : Int} (h0 : 0 ≤ k) (h1 : k < l.length) : (bumpI l b k).set k.toNat (LineT.mk ((at_ (bumpI l b k) k).No + b) (at_ (bumpI l b k) k).Words) = bumpI l b (k + 1) := by
  have hk : k.toNat < l.length := by omega
  rw [bumpI_at h0 h1]
  have hx : at_ l k = l[k.toNat] := by
    unfold at_
    rw [List.getD_eq_getElem?_getD, List.getElem?_eq_getElem hk]; rfl
  rw [hx]
  unfold bumpI
  rw [List.set_append_right _ _ (by simp; omega), show (k + 1).toNat = k.toNat + 1 by omega, List.take_succ_eq_append_getElem hk, List.drop_eq_getElem_cons hk]
  have e : k.toNat - (List.map (bump1 b) (List.take k.toNat l)).length = 0 := by simp; omega
  rw [e, List.set_cons_zero, List.map_append, List.append_assoc]
  rfl
theorem pcs_app : ∀ l m : List UInt8, pcs (l ++ 10 :: m) = pcs l ++ pcs m
  | [], m => by simp [pcs]
  | b :: l, m => by
    rw [List.cons_append, pcs, pcs, pcs_app l m]
    split
    · rfl
    · cases hp : pcs l with
      | nil => exact absurd hp (pcs_ne l)
      | cons p r => rfl
theorem pcs_count : ∀ l : List UInt8, (pcs l).length = l.count 10 + 1
  | [] => rfl
  | b :: l => by
    rw [pcs]
    have ih := pcs_count l
    by_cases hb : b = 10
    · subst hb
      rw [if_pos rfl, List.length_cons, ih, List.count_cons_self]
    · rw [if_neg hb, List.length_cons, List.length_tail, ih, List.count_cons_of_ne hb]; omega
theorem cnt10_count {s : ByteArray} : ∀ k : Nat, k ≤ s.size → cnt10 s k = 1 + ((s.data.toList.take k).count 10 : Int)
  | 0, _ => by simp [cnt10]
  | k + 1, hk => by
    have hl : k < s.data.toList.length := by rw [blen]; omega
    obtain ⟨b, hb, hv⟩ := byt_get (w := s) (k := k) (by omega)
    rw [List.getElem?_eq_getElem hl] at hb
    have hb := Option.some.inj hb
    rw [cnt10, cnt10_count k (by omega), List.take_succ_eq_append_getElem hl, List.count_append, hb, hv]
    by_cases e : b = 10
    · subst e; simp; omega
    · have : ¬ (b.toNat : Int) = 10 := fun h => e (toI_eq.1 (h.trans rfl))
      rw [if_neg this, List.count_singleton]
      simp [e]
theorem cnt10_pcs (s : ByteArray) : cnt10 s s.size = ((pcs s.data.toList).length : Int) := by
  rw [cnt10_count s.size (Nat.le_refl _), List.take_of_length_le (Nat.le_of_eq (blen s)), pcs_count]
  omega
abbrev scF (ps : List (List UInt8)) (out : List LineT) (no : Int) : List LineT × Int × Int := scanQ ps ⟨out, no, [], [], false⟩
theorem scF_app (qs : List (List UInt8)) : ∀ (ps : List (List UInt8)) (out : List LineT) (no : Int), scF (ps ++ qs) out no = if (scF ps out no).2.2 = 0 then scF qs (scF ps out no).1 (no + ps.length) else scF ps out no
  | [], out, no => by
    have e : scF [] out no = (out, 0, 0) := rfl
    rw [e, if_pos rfl]
    simp
  | p :: r, out, no => by
    simp only [scF, List.cons_append, scanQ, List.nil_append]
    by_cases hb : badP p = true
    · rw [if_pos hb, if_pos hb, if_neg (show ¬ ((10 : Int) = 0) by decide)]
    · rw [if_neg hb, if_neg hb]
      have := scF_app qs r (out ++ lineIf no (wordsFrom [] false p)) (no + 1)
      simp only [scF] at this
      rw [this, List.length_cons, show no + 1 + (r.length : Int) = no + ((r.length + 1 : Nat) : Int) by omega]
theorem lineIf_bump (no k : Int) (ws : List ByteArray) : (lineIf no ws).map (bump1 k) = lineIf (no + k) ws := by
  unfold lineIf
  split <;> rfl
theorem scF_bump (o : List LineT) (k : Int) : ∀ (ps : List (List UInt8)) (out : List LineT) (no : Int), scF ps (o ++ out.map (bump1 k)) (no + k) = if (scF ps out no).2.2 = 0 then (o ++ (scF ps out no).1.map (bump1 k), 0, 0) else ([], (scF ps out no).2.1 + k, (scF ps out no).2.2)
  | [], out, no => by
    have e : scF [] out no = (out, 0, 0) := rfl
    rw [e, if_pos rfl]; rfl
  | p :: r, out, no => by
    simp only [scF, scanQ, List.nil_append]
    by_cases hb : badP p = true
    · rw [if_pos hb, if_pos hb, if_neg (show ¬ ((10 : Int) = 0) by decide)]
    · rw [if_neg hb, if_neg hb]
      have := scF_bump o k r (out ++ lineIf no (wordsFrom [] false p)) (no + 1)
      simp only [scF] at this
      rw [← this, List.map_append, lineIf_bump, List.append_assoc, show no + 1 + k = no + k + 1 by omega]
theorem scF_no (m : Int) : ∀ (ps : List (List UInt8)) (out : List LineT) (no : Int), 0 ≤ no → no + ps.length ≤ m → (∀ x ∈ out, 0 ≤ x.No ∧ x.No ≤ m) → ∀ x ∈ (scF ps out no).1, 0 ≤ x.No ∧ x.No ≤ m
  | [], _, _, _, _, h => h
  | p :: r, out, no, h0, hm, h => by
    simp only [scF, scanQ, List.nil_append]
    rw [List.length_cons] at hm
    split
    · intro x hx; cases hx
    · refine scF_no m r _ _ (by omega) (by push_cast at hm; omega) fun x hx => ?_
      rcases List.mem_append.1 hx with e | e
      · exact h x e
      · unfold lineIf at e
        split at e
        · rw [List.mem_singleton] at e
          subst e
          exact ⟨h0, by push_cast at hm; show no ≤ m; omega⟩
        · cases e
theorem scF_num (m : Int) : ∀ (ps : List (List UInt8)) (out : List LineT) (no : Int), 0 ≤ no → no + ps.length ≤ m → 0 ≤ (scF ps out no).2.1 ∧ (scF ps out no).2.1 ≤ m
  | [], _, no, h0, hm => ⟨Int.le_refl _, by simp at hm; show (0 : Int) ≤ m; omega⟩
  | p :: r, out, no, h0, hm => by
    simp only [scF, scanQ, List.nil_append]
    rw [List.length_cons] at hm
    split
    · exact ⟨h0, by push_cast at hm; show no ≤ m; omega⟩
    · exact scF_num m r _ _ (by omega) (by push_cast at hm; omega)
theorem line_num {t : ByteArray} (h : t.size ≤ 65536) : 0 ≤ (linesR t).2.1 ∧ (linesR t).2.1 ≤ 70000 := by
  rw [linesQ h]
  have := pcs_length t.data.toList
  rw [blen] at this
  exact scF_num 70000 (pcs t.data.toList) [] 1 (by omega) (by omega)
theorem line_no {t : ByteArray} {b i : Int} (h : t.size ≤ 65536) (h0 : 0 ≤ i) (h1 : i < ((linesR t).1.length : Int)) : 0 ≤ (at_ (bumpI (linesR t).1 b i) i).No ∧ (at_ (bumpI (linesR t).1 b i) i).No ≤ 70000 := by
  rw [bumpI_at h0 h1]
  have hm := at_mem h0 h1
  have hq := linesQ h
  refine scF_no 70000 (pcs t.data.toList) [] 1 (by omega) ?_ (fun x hx => by cases hx) _ (by rw [hq] at hm ⊢; exact hm)
  have := pcs_length t.data.toList
  rw [blen] at this
  omega
def joinB (s t : ByteArray) : ByteArray := s ++ ⟨#[10]⟩ ++ t
theorem c_lines_join (s t : ByteArray) : PC Tryd.prog 10 [.str (s ++ ⟨#[10]⟩ ++ t)] (.tup [.sl (linesR (joinB s t)).1.length ((linesR (joinB s t)).1.flatMap eLine), .int .i64 (linesR (joinB s t)).2.1, .int .i64 (linesR (joinB s t)).2.2]) := c_lex_Lines (joinB s t)
theorem behind_eq {s t : ByteArray} (hs : s.size ≤ 3000) (ht : t.size ≤ 3000) : linesR (joinB s t) = if (linesR s).2.2 = 0 then (if (linesR t).2.2 = 0 then ((linesR s).1 ++ (linesR t).1.map (bump1 (cnt10 s s.size)), 0, 0) else ([], (linesR t).2.1 + cnt10 s s.size, (linesR t).2.2)) else linesR s := by
  have hz : (s ++ ⟨#[10]⟩ ++ t).size ≤ 65536 := by
    rw [ByteArray.size_append, ByteArray.size_append]
    have : (⟨#[10]⟩ : ByteArray).size = 1 := rfl
    omega
  have e : (s ++ ⟨#[10]⟩ ++ t).data.toList = s.data.toList ++ 10 :: t.data.toList := by
    rw [ByteArray.data_append, ByteArray.data_append]
    simp
  have hz : (joinB s t).size ≤ 65536 := hz
  have e : (joinB s t).data.toList = s.data.toList ++ 10 :: t.data.toList := e
  rw [linesQ hz, e, pcs_app, linesQ (s := s) (by omega), linesQ (s := t) (by omega)]
  have h1 := scF_app (pcs t.data.toList) (pcs s.data.toList) [] 1
  have h2 := scF_bump (scF (pcs s.data.toList) [] 1).1 (cnt10 s s.size) (pcs t.data.toList) [] 1
  simp only [List.map_nil, List.append_nil] at h2
  rw [cnt10_pcs] at h2 ⊢
  simp only [scF] at h1 h2
  rw [h1]
  split
  · rw [h2]
  · rfl
theorem behind_bad {s t : ByteArray} (hs : s.size ≤ 3000) (ht : t.size ≤ 3000) (h : ¬ (linesR s).2.2 = 0) : (linesR (joinB s t)).2.2 = (linesR s).2.2 := by
  rw [behind_eq hs ht, if_neg h]
theorem behind_bad2 {s t : ByteArray} (hs : s.size ≤ 3000) (ht : t.size ≤ 3000) (h : (linesR s).2.2 = 0) (h2 : ¬ (linesR t).2.2 = 0) : (linesR (joinB s t)).2.2 = (linesR t).2.2 ∧ (linesR (joinB s t)).2.1 = (linesR t).2.1 + cnt10 s s.size := by
  rw [behind_eq hs ht, if_pos h, if_neg h2]
  exact ⟨rfl, rfl⟩
theorem behind_ok {s t : ByteArray} (hs : s.size ≤ 3000) (ht : t.size ≤ 3000) (h : (linesR s).2.2 = 0) (h2 : (linesR t).2.2 = 0) : (linesR (joinB s t)).2.2 = 0 ∧ (linesR (joinB s t)).1 = (linesR s).1 ++ (linesR t).1.map (bump1 (cnt10 s s.size)) := by
  rw [behind_eq hs ht, if_pos h, if_pos h2]
  exact ⟨rfl, rfl⟩
theorem behind_words {s t : ByteArray} {b k : Int} : ∀ x ∈ (linesR s).1 ++ bumpI (linesR t).1 b k, x.Words.length ≤ 1048576 := by
  intro x hx
  rcases List.mem_append.1 hx with e | e
  · exact lines_words s x e
  · unfold bumpI at e
    rcases List.mem_append.1 e with e | e
    · obtain ⟨y, hy, rfl⟩ := List.mem_map.1 e
      exact lines_words t y (List.mem_of_mem_take hy)
    · exact lines_words t x (List.mem_of_mem_drop e)
end Go.Proofs.L
namespace Go.AH
variable [Globs]
set_option linter.unusedSectionVars false
open Go
theorem wr_fldM {α : Type} [Inhabited α] {xs : List α} {e : α → List AV} {m o : Nat} {i : Int} {el : α} {vs : List AV} (he : ∀ x, (e x).length = m) (h0 : 0 ≤ i) (h1 : i < xs.length) (ho : o + vs.length ≤ m) (hw : writeL (e (at_ xs i)) o vs = e el) :
    writeL (xs.flatMap e) (i.toNat * m + o) vs = (xs.set i.toNat el).flatMap e := by
  have hi : i.toNat < xs.length := by omega
  have hx : at_ xs i = xs[i.toNat] := by
    unfold at_
    rw [List.getD_eq_getElem?_getD, List.getElem?_eq_getElem hi]; rfl
  rw [hx] at hw
  have e1 : xs.flatMap e = (xs.take i.toNat).flatMap e ++ (e xs[i.toNat] ++ (xs.drop (i.toNat + 1)).flatMap e) := by
    conv => lhs; rw [← List.take_append_drop i.toNat xs, List.drop_eq_getElem_cons hi]
    rw [List.flatMap_append, List.flatMap_cons]
  have e2 : (xs.set i.toNat el).flatMap e = (xs.take i.toNat).flatMap e ++ (e el ++ (xs.drop (i.toNat + 1)).flatMap e) := by
    rw [List.set_eq_take_append_cons_drop, if_pos hi, List.flatMap_append, List.flatMap_cons]
  rw [e1, e2]
  refine wr_skip (n := i.toNat * m) (off' := o) ?_ rfl (wr_fst ?_ hw)
  · rw [flatMap_length he, List.length_take]
    congr 1; omega
  · rw [he]; exact ho
end Go.AH
