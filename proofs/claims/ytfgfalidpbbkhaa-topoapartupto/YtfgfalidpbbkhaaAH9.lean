/- A part of the proof that a law of the edges and fans of faces answers true for every input of its bulk: own work, by an AI agent. -/
import Derived.Test.YtfgfalidpbbkhaaAH8
set_option linter.unusedVariables false
set_option linter.unusedSimpArgs false
namespace Go.AH
open Go Go.Maps

/-- A slice under construction: nil, or over a row of its own that was not there at the start. -/
def Own (H0 H : Heap) (es : Nat) (v : AV) (len : Nat) (cells : List AV) : Prop :=
  (v = .snil ∧ len = 0 ∧ cells = []) ∨ ∃ id ver, v = .slm id ver es 0 len ∧ H id = some (.row ver cells) ∧ H0 id = none ∧ cells.length = len * es
def NotId (v : AV) (i : Nat) : Prop := ∀ id ver es off len, v = .slm id ver es off len → i ≠ id

theorem Own.nil (H0 H : Heap) (es : Nat) : Own H0 H es .snil 0 [] := .inl ⟨rfl, rfl, rfl⟩
theorem NotId.nil (i : Nat) : NotId .snil i := fun _ _ _ _ _ h => by cases h
theorem Own.mono {H0 H H' : Heap} {es : Nat} {v : AV} {len : Nat} {cells : List AV} (h : Own H0 H es v len cells) (m : Mono H H') : Own H0 H' es v len cells := by
  rcases h with h | ⟨id, ver, h1, h2, h3⟩
  · exact .inl h
  · exact .inr ⟨id, ver, h1, m id _ h2, h3⟩
theorem Own.keep {H0 H H' : Heap} {es : Nat} {v : AV} {len : Nat} {cells : List AV} (h : Own H0 H es v len cells) {i : Nat} (ho : ∀ j, j ≠ i → H' j = H j) (hn : NotId v i) : Own H0 H' es v len cells := by
  rcases h with h | ⟨id, ver, h1, h2, h3⟩
  · exact .inl h
  · exact .inr ⟨id, ver, h1, (ho id fun e => hn id ver es 0 len h1 e.symm).trans h2, h3⟩
theorem Own.notnew {H0 H : Heap} {es : Nat} {v : AV} {len : Nat} {cells : List AV} (h : Own H0 H es v len cells) {i : Nat} (hi : H i = none) : NotId v i := by
  rcases h with ⟨h, _⟩ | ⟨id, ver, h1, h2, h3⟩
  · subst h; exact .nil i
  · intro id' ver' es' off' len' e
    rw [h1] at e
    cases e
    rintro rfl
    rw [hi] at h2; cases h2
theorem Own.len_eq {H0 H : Heap} {es : Nat} {v : AV} {len : Nat} {cells : List AV} (h : Own H0 H es v len cells) : cells.length = len * es := by
  rcases h with ⟨_, h1, h2⟩ | ⟨_, _, _, _, _, h⟩
  · subst h1 h2; simp
  · exact h

/-- The element at a place. -/
def at_ {α : Type} [Inhabited α] (xs : List α) (i : Int) : α := xs.getD i.toNat default

theorem ld1 {α : Type} [Inhabited α] {xs : List α} {e : α → AV} {i : Int} (h0 : 0 ≤ i) (h1 : i < xs.length) : loadv false 1 (i.toNat * 1) (xs.map e) = some (e (at_ xs i)) := by
  have h : i.toNat < xs.length := by omega
  simp [loadv, at_, h]
theorem flatMap_drop {α : Type} {e : α → List AV} {m : Nat} (he : ∀ x, (e x).length = m) : ∀ (xs : List α) (k : Nat), (xs.flatMap e).drop (k * m) = (xs.drop k).flatMap e
  | [], k => by simp
  | x :: xs, 0 => by simp
  | x :: xs, k + 1 => by
    rw [List.flatMap_cons, List.drop_succ_cons, ← flatMap_drop he xs k, Nat.add_mul, Nat.one_mul, Nat.add_comm, ← List.drop_drop]
    rw [List.drop_append_of_le_length (by rw [he x]; omega), ← he x, List.drop_length, List.nil_append]
theorem flatMap_length {α : Type} {e : α → List AV} {m : Nat} (he : ∀ x, (e x).length = m) : ∀ (xs : List α), (xs.flatMap e).length = xs.length * m
  | [] => by simp
  | x :: xs => by rw [List.flatMap_cons, List.length_append, flatMap_length he xs, he x, List.length_cons, Nat.add_mul]; omega
theorem ldM {α : Type} [Inhabited α] {xs : List α} {e : α → List AV} {m : Nat} (he : ∀ x, (e x).length = m) {i : Int} (h0 : 0 ≤ i) (h1 : i < xs.length) :
    loadv true m (i.toNat * m) (xs.flatMap e) = some (.agg (e (at_ xs i))) := by
  have h : i.toNat < xs.length := by omega
  have hl : i.toNat * m + m ≤ (xs.flatMap e).length := by
    rw [flatMap_length he]
    have : (i.toNat + 1) * m ≤ xs.length * m := Nat.mul_le_mul_right _ h
    rw [Nat.add_mul] at this; omega
  simp only [loadv, Nat.ble_eq_true_of_le hl]
  rw [flatMap_drop he, List.drop_eq_getElem_cons h, List.flatMap_cons, List.take_append_of_le_length (by rw [he]; exact Nat.le_refl _), List.take_of_length_le (by rw [he]; exact Nat.le_refl _)]
  simp [at_, h]
theorem ldF {α : Type} [Inhabited α] {xs : List α} {e : α → List AV} {m o : Nat} {v : AV} (he : ∀ x, (e x).length = m) {i : Int} (h0 : 0 ≤ i) (h1 : i < xs.length) (ho : (e (at_ xs i))[o]? = some v) (hom : o < m) :
    loadv false 1 (i.toNat * m + o) (xs.flatMap e) = some v := by
  have h : i.toNat < xs.length := by omega
  simp only [loadv]
  rw [← List.getElem?_drop, flatMap_drop he, List.drop_eq_getElem_cons h, List.flatMap_cons, List.getElem?_append_left (by rw [he]; exact hom)]
  simpa [at_, h] using ho

section
variable {P : Program} {n : Nat} {Q : Exit → (Nat → AV) → Heap → Prop} {f : Nat → AV} {H : Heap} {K : (Nat → AV) → Heap → Prop} {ty : TypeId} {pos : String} {after : Array Edge} {guard : Option (Nat × Bool)} {d : Nat}

theorem AWP.condT {c : Operand} {x y : Code} {b : Bool} (hc : ev f c = .bool b) (hb : b = true) (h : AWP P n x Q f H) : AWP P n (.cond c x y) Q f H :=
  .cond hc (fun _ => h) (fun e => by rw [hb] at e; cases e)
theorem AWP.condF {c : Operand} {x y : Code} {b : Bool} (hc : ev f c = .bool b) (hb : b = false) (h : AWP P n y Q f H) : AWP P n (.cond c x y) Q f H :=
  .cond hc (fun e => by rw [hb] at e; cases e) (fun _ => h)
theorem AOp.pickT {c x y : Operand} {b : Bool} (v : AV) (hn : Nat.ble (d + 1) n = true) (hc : ev f c = .bool b) (hb : b = true) (hx : ev f x = v)
    (hK : K (upd f d v) H) : AOp P n ⟨some d, .pick c x y, ty, pos, after, guard⟩ K f H :=
  .pick v hn hc (fun _ => hx) (fun e => by rw [hb] at e; cases e) hK
theorem AOp.pickF {c x y : Operand} {b : Bool} (v : AV) (hn : Nat.ble (d + 1) n = true) (hc : ev f c = .bool b) (hb : b = false) (hy : ev f y = v)
    (hK : K (upd f d v) H) : AOp P n ⟨some d, .pick c x y, ty, pos, after, guard⟩ K f H :=
  .pick v hn hc (fun e => by rw [hb] at e; cases e) (fun _ => hy) hK
theorem nb {b x : Bool} (h : b = x) : (!b) = !x := congrArg _ h
theorem ieq {k : IntKind} {p q : Int} : intBin .eql k p q = some (.bool (decide (p = q))) := rfl
theorem ine {k : IntKind} {p q : Int} : intBin .neq k p q = some (.bool (!decide (p = q))) := rfl
theorem AOp.remP {t t' : TypeId} {x y : Operand} {k : IntKind} {p q : Int} (hn : Nat.ble (d + 1) n = true) (hx : ev f x = .int k p) (hy : ev f y = .int k q)
    (hp : 0 ≤ p) (hq : q ≠ 0) (hK : K (upd f d (.int k (p % q))) H) : AOp P n ⟨some d, .binOp .rem t x y t', ty, pos, after, guard⟩ K f H :=
  .rem hn hx hy hq (by rw [IntWalk.rem_in p q hp]; exact hK)
theorem AOp.quoP {t t' : TypeId} {x y : Operand} {p q : Int} (hn : Nat.ble (d + 1) n = true) (hx : ev f x = .int .i64 p) (hy : ev f y = .int .i64 q)
    (hp : 0 ≤ p ∧ p ≤ 9223372036854775807 ∧ 1 ≤ q) (hK : K (upd f d (.int .i64 (p / q))) H) : AOp P n ⟨some d, .binOp .quo t x y t', ty, pos, after, guard⟩ K f H :=
  .quo hn hx hy (by omega) (by rw [IntWalk.i64_quo p q hp]; exact hK)

theorem AOp.len_own {t e : TypeId} {x : Operand} {m es : Nat} {v : AV} {H0 H1 : Heap} {cells : List AV} (hn : Nat.ble (d + 1) n = true) (hx : ev f x = v) (hv : Own H0 H1 es v m cells)
    (ht : P.underlying t = some (.slice e)) (hK : K (upd f d (.int .i64 m)) H) : AOp P n ⟨some d, .call { callee := .builtin .len, args := #[x], argTypes := #[t] }, ty, pos, after, guard⟩ K f H :=
  .len hn hx (by
    rcases hv with ⟨h1, h2, _⟩ | ⟨id, ver, h1, _⟩
    · exact .inl ⟨h1, h2⟩
    · exact .inr (.inr ⟨id, ver, es, 0, h1⟩)) ht hK

/-- 'append' onto a slice under construction. -/
theorem AOp.append_own {st xt e es m bm len : Nat} {x y : Operand} {src v : AV} {cells old : List AV} {H0 : Heap} (hn : Nat.ble (d + 1) n = true) (ht : P.underlying st = some (.slice e)) (hs' : TSize P e es) (hz : TZn P e es) (hb : TBytes P e bm) (hbm : bm ≤ 1024) (hxt : NotInt P xt)
    (hx : ev f x = v) (ho : Own H0 H es v len old) (hm0 : Mono H0 H) (hy : ev f y = src) (hsrc : Src H es src m cells) (hone : ∀ c ∈ cells, c.one = true) (hm : 0 < m) (hbig : len + m ≤ 4294967296)
    (hK : ∀ v' H', Own H0 H' es v' (len + m) (old ++ cells) → Mono H0 H' → (∀ i, NotId v i → H i ≠ none → H' i = H i) → (∀ i, NotId v i → H i ≠ none → NotId v' i) → K (upd f d v') H') :
    AOp P n ⟨some d, .call { callee := .builtin .append, args := #[x, y], argTypes := #[st, xt] }, ty, pos, after, guard⟩ K f H := by
  have hlen : cells.length = m * es := by
    cases hsrc with
    | nil => simp
    | sl h => exact h
    | slm _ h => have := Nat.le_of_ble_eq_true h; simp; omega
  rcases ho with ⟨rfl, rfl, rfl⟩ | ⟨id, ver, rfl, h2, h3, h4⟩
  · refine .append_nil hn ht hs' hz hb hbm hxt hx hy hsrc hm (by omega) fun id H' g1 g2 g3 => ?_
    refine hK _ H' (.inr ⟨id, 0, by rw [Nat.zero_add], g2, hm0.free g1, by rw [Nat.zero_add]; exact hlen⟩) (hm0.new g1 g3) (fun i _ hi => g3 i fun e => hi (e ▸ g1)) (fun i _ hi id' ver' es' off' len' e => ?_) |> fun h => by simpa using h
    cases e
    rintro rfl
    exact hi g1
  · refine .append hn ht hs' hz hb hbm hxt hx h2 (by omega) hy hsrc hone hbig fun H' g1 g2 => ?_
    rw [List.take_of_length_le (by omega)] at g1
    refine hK _ H' (.inr ⟨id, ver + 1, rfl, g1, h3, by rw [List.length_append, hlen, h4, Nat.add_mul]⟩) (hm0.set h3 g2) (fun i hi _ => g2 i (hi id ver es 0 len rfl)) (fun i hi _ id' ver' es' off' len' e => ?_)
    cases e
    exact hi id ver es 0 len rfl

/-- 'append' onto a slice under construction, of perhaps nothing. -/
theorem AOp.append_any {st xt e es m bm len : Nat} {x y : Operand} {src v : AV} {cells old : List AV} {H0 : Heap} (hn : Nat.ble (d + 1) n = true) (ht : P.underlying st = some (.slice e)) (hs' : TSize P e es) (hz : TZn P e es) (hb : TBytes P e bm) (hbm : bm ≤ 1024) (hxt : NotInt P xt)
    (hx : ev f x = v) (ho : Own H0 H es v len old) (hm0 : Mono H0 H) (hy : ev f y = src) (hsrc : Src H es src m cells) (hone : ∀ c ∈ cells, c.one = true) (hbig : len + m ≤ 4294967296)
    (hK : ∀ v' H', Own H0 H' es v' (len + m) (old ++ cells) → Mono H0 H' → (∀ i, NotId v i → H i ≠ none → H' i = H i) → (∀ i, NotId v i → H i ≠ none → NotId v' i) → K (upd f d v') H') :
    AOp P n ⟨some d, .call { callee := .builtin .append, args := #[x, y], argTypes := #[st, xt] }, ty, pos, after, guard⟩ K f H := by
  by_cases hm : 0 < m
  · exact .append_own hn ht hs' hz hb hbm hxt hx ho hm0 hy hsrc hone hm hbig hK
  · have h0 : m = 0 := by omega
    subst h0
    have hc : cells = [] := by
      cases hsrc with
      | nil => rfl
      | sl h => exact List.eq_nil_of_length_eq_zero (by omega)
      | slm _ h => simp
    subst hc
    refine .append_none v hn ht hs' hxt hx ?_ hy hsrc (hK v H (by simpa using ho) hm0 (fun _ _ _ => rfl) (fun _ h _ => h))
    rcases ho with ⟨h, _⟩ | ⟨id, ver, h1, h2, _⟩
    · exact .inl h
    · exact .inr ⟨id, ver, 0, len, h1, _, h2⟩

theorem AOp.pcallH {g : FuncId} {c : Operand} {args : Array Operand} {at_ : Array TypeId} {caps as : List AV} {r : AV} (hn : Nat.ble (d + 1) n = true) (hc : ev f c = .fn g caps) (has : args.toList.map (ev f) ++ caps = as) (ht : TFun P g)
    (hC : ACalls P g as H fun r' H' => r' = r ∧ Mono H H') (hK : ∀ H', Mono H H' → K (upd f d r) H') : AOp P n ⟨some d, .call { callee := .value c, args, argTypes := at_ }, ty, pos, after, guard⟩ K f H :=
  .call (R := fun r' H' => r' = r ∧ Mono H H') hn hc rfl ht (by rw [has]; exact hC) fun _ _ ⟨e, m⟩ => e ▸ hK _ m
theorem AOp.ghost {o : Oper} {f' : Nat → AV} {H' : Heap} (hg : Ghost n f H f' H') (h : AOp P n o K f' H') : AOp P n o K f H := by
  intro μ a w hs Q
  obtain ⟨h1, h2⟩ := hg μ a w hs
  refine Oper.wp_mono ?_ (fun _ _ _ _ h => h) (h μ a w h1 Q)
  rintro a' w' ⟨μ', f2, H2, g1, g2, g3⟩
  exact ⟨μ', f2, H2, g1, h2.trans g2, g3⟩

end

theorem Own.snoc1 {α : Type} {H0 H : Heap} {es k : Nat} {v : AV} {xs : List α} {y : α} {e : α → AV} (hk : k = xs.length + 1) (h : Own H0 H es v k (xs.map e ++ [e y])) : Own H0 H es v (xs ++ [y]).length ((xs ++ [y]).map e) := by subst hk; simpa using h
theorem Own.snocM {α : Type} {H0 H : Heap} {es k : Nat} {v : AV} {xs : List α} {y : α} {e : α → List AV} (hk : k = xs.length + 1) (h : Own H0 H es v k (xs.flatMap e ++ e y)) : Own H0 H es v (xs ++ [y]).length ((xs ++ [y]).flatMap e) := by subst hk; simpa using h
theorem Own.app1 {α : Type} {H0 H : Heap} {es k : Nat} {v : AV} {xs ys : List α} {e : α → AV} (hk : k = xs.length + ys.length) (h : Own H0 H es v k (xs.map e ++ ys.map e)) : Own H0 H es v (xs ++ ys).length ((xs ++ ys).map e) := by subst hk; simpa using h
theorem Own.appM {α : Type} {H0 H : Heap} {es k : Nat} {v : AV} {xs ys : List α} {e : α → List AV} (hk : k = xs.length + ys.length) (h : Own H0 H es v k (xs.flatMap e ++ ys.flatMap e)) : Own H0 H es v (xs ++ ys).length ((xs ++ ys).flatMap e) := by subst hk; simpa using h
theorem one_of {cells : List AV} (h : cells.all AV.one = true) : ∀ c ∈ cells, c.one = true := List.all_eq_true.1 h
theorem one_map {α : Type} {e : α → AV} (he : ∀ x, (e x).one = true) {xs : List α} : ∀ c ∈ xs.map e, c.one = true := by
  intro c hc
  obtain ⟨x, _, rfl⟩ := List.mem_map.1 hc
  exact he x
theorem one_flat {α : Type} {e : α → List AV} (he : ∀ x, (e x).all AV.one = true) {xs : List α} : ∀ c ∈ xs.flatMap e, c.one = true := by
  intro c hc
  obtain ⟨x, _, h⟩ := List.mem_flatMap.1 hc
  exact List.all_eq_true.1 (he x) c h
theorem lcons {f : Nat → AV} {x : Operand} {v : AV} {xs : List Operand} {vs : List AV} (h : ev f x = v) (t : xs.map (ev f) = vs) : (x :: xs).map (ev f) = v :: vs := by rw [List.map_cons, h, t]
theorem lconsP {f : Nat → AV} {i : Nat} {x : Operand} {v : AV} {xs : List (Nat × Operand)} {vs : List (Nat × AV)} (h : ev f x = v) (t : xs.map (fun p => (p.1, ev f p.2)) = vs) : ((i, x) :: xs).map (fun p => (p.1, ev f p.2)) = (i, v) :: vs := by rw [List.map_cons, h, t]
theorem lo_of {f : Nat → AV} {x : Operand} {k : IntKind} {v : Int} (h : ev f x = .int k v) : loOf f (some x) = some v := by simp [loOf, h]
theorem hi_of {f : Nat → AV} {x : Operand} {k : IntKind} {v : Int} {len : Nat} (h : ev f x = .int k v) : hiOf f len (some x) = some v := by simp [hiOf, h]
theorem ble_of {a b : Bool} {x : Bool} (h : a = x) (hne : x ≠ b) : a ≠ b := h ▸ hne

section
variable {P : Program} {n : Nat} {f : Nat → AV} {H : Heap} {K : (Nat → AV) → Heap → Prop} {ty : TypeId} {pos : String} {after : Array Edge} {guard : Option (Nat × Bool)} {d : Nat}
theorem AOp.sliceST1 {α : Type} {xs : List α} {e : α → AV} {t : TypeId} {x : Operand} {lo hi : Option Operand} {l h : Int} (hn : Nat.ble (d + 1) n = true) (hx : ev f x = .sl xs.length (xs.map e)) (ht : TSlice P t 1)
    (hl : loOf f lo = some l) (hh : hiOf f xs.length hi = some h) (h0 : l = 0) (h1 : l ≤ h) (h2 : h ≤ xs.length)
    (hK : K (upd f d (.sl (xs.take h.toNat).length ((xs.take h.toNat).map e))) H) : AOp P n ⟨some d, .slice t x lo hi none, ty, pos, after, guard⟩ K f H := by
  subst h0
  refine .sliceS (es := 1) hn hx (by simp) ht hl hh (by omega) h1 h2 ?_
  have e1 : h.toNat - (0 : Int).toNat = (xs.take h.toNat).length := by simp; omega
  simp only [Int.toNat_zero, Nat.zero_mul, List.drop_zero, Nat.mul_one, Nat.sub_zero, ← List.map_take] at e1 ⊢
  rw [e1]
  rw [show xs.take (xs.take h.toNat).length = xs.take h.toNat by rw [← e1]]
  exact hK
theorem AOp.sliceSD1 {α : Type} {xs : List α} {e : α → AV} {t : TypeId} {x : Operand} {lo hi : Option Operand} {l h : Int} (hn : Nat.ble (d + 1) n = true) (hx : ev f x = .sl xs.length (xs.map e)) (ht : TSlice P t 1)
    (hl : loOf f lo = some l) (hh : hiOf f xs.length hi = some h) (h0 : 0 ≤ l) (h1 : l ≤ h) (h2 : h ≤ xs.length) (h3 : h = xs.length)
    (hK : K (upd f d (.sl (xs.drop l.toNat).length ((xs.drop l.toNat).map e))) H) : AOp P n ⟨some d, .slice t x lo hi none, ty, pos, after, guard⟩ K f H := by
  subst h3
  refine .sliceS (es := 1) hn hx (by simp) ht hl hh h0 h1 h2 ?_
  have e1 : (xs.length : Int).toNat - l.toNat = (xs.drop l.toNat).length := by simp
  simp only [Nat.mul_one, ← List.map_drop]
  rw [e1, List.take_of_length_le (by simp)]
  exact hK
theorem AOp.min3 {x y z : Operand} {at_ : Array TypeId} {k : IntKind} {p q r : Int} (hn : Nat.ble (d + 1) n = true) (hx : ev f x = .int k p) (hy : ev f y = .int k q) (hz : ev f z = .int k r) (hK : K (upd f d (.int k (min (min p q) r))) H) :
    AOp P n ⟨some d, .call { callee := .builtin .min, args := #[x, y, z], argTypes := at_ }, ty, pos, after, guard⟩ K f H :=
  .pureV _ hn (fun μ a w hs => by
    have h1 := hs.ev x; rw [hx] at h1
    have h2 := hs.ev y; rw [hy] at h2
    have h3 := hs.ev z; rw [hz] at h3
    refine ⟨.int k (min (min p q) r), ?_, .int _ _⟩
    rw [run_call_builtin (r := .ok (.int k (min (min p q) r)) w) w ?_ rfl]
    · rfl
    · simp only [List.map_toArray, List.map_cons, List.map_nil, h1.int_inv, h2.int_inv, h3.int_inv, Builtin.min_, List.foldlM_cons, List.foldlM_nil, Builtin.min2, Sem.run_bind, Sem.run_pure, Result.andThen_ok]
      have e : ∀ a b : Int, (if b < a then b else a) = min a b := fun a b => by
        by_cases h : b < a
        · rw [if_pos h, Int.min_eq_right (by omega)]
        · rw [if_neg h, Int.min_eq_left (by omega)]
      rw [e, e]) hK
theorem AOp.max3 {x y z : Operand} {at_ : Array TypeId} {k : IntKind} {p q r : Int} (hn : Nat.ble (d + 1) n = true) (hx : ev f x = .int k p) (hy : ev f y = .int k q) (hz : ev f z = .int k r) (hK : K (upd f d (.int k (max (max p q) r))) H) :
    AOp P n ⟨some d, .call { callee := .builtin .max, args := #[x, y, z], argTypes := at_ }, ty, pos, after, guard⟩ K f H :=
  .pureV _ hn (fun μ a w hs => by
    have h1 := hs.ev x; rw [hx] at h1
    have h2 := hs.ev y; rw [hy] at h2
    have h3 := hs.ev z; rw [hz] at h3
    refine ⟨.int k (max (max p q) r), ?_, .int _ _⟩
    rw [run_call_builtin (r := .ok (.int k (max (max p q) r)) w) w ?_ rfl]
    · rfl
    · simp only [List.map_toArray, List.map_cons, List.map_nil, h1.int_inv, h2.int_inv, h3.int_inv, Builtin.max_, List.foldlM_cons, List.foldlM_nil, Builtin.max2, Sem.run_bind, Sem.run_pure, Result.andThen_ok]
      have e : ∀ a b : Int, (if b > a then b else a) = max a b := fun a b => by
        by_cases h : b > a
        · rw [if_pos h, Int.max_eq_right (by omega)]
        · rw [if_neg h, Int.max_eq_left (by omega)]
      rw [e, e]) hK
theorem AOp.negP {x : Operand} {m : Int} {t : TypeId} (hn : Nat.ble (d + 1) n = true) (hx : ev f x = .int .i64 m) (hm : -9223372036854775807 ≤ m ∧ m ≤ 9223372036854775807) (hK : K (upd f d (.int .i64 (-m))) H) :
    AOp P n ⟨some d, .unOp .neg t x, ty, pos, after, guard⟩ K f H := .neg hn hx (by rw [IntWalk.i64_in _ (by omega), show (0 : Int) - m = -m by omega]; exact hK)
theorem conv_same {k : IntKind} {p : Int} (h : k.wrap p = p) : k.wrap p = p := h
theorem AOp.convIntP {s t : TypeId} {x : Operand} {k k' : IntKind} {p : Int} (hn : Nat.ble (d + 1) n = true) (hx : ev f x = .int k p) {ds : TypeDesc} (hs' : P.underlying s = some ds) (ht : P.underlying t = some (.int k')) (hw : k'.wrap p = p)
    (hK : K (upd f d (.int k' p)) H) : AOp P n ⟨some d, .convert s t x, ty, pos, after, guard⟩ K f H := .convInt hn hx hs' ht (by rw [hw]; exact hK)
theorem AOp.eqAggD {t t' : TypeId} {x y : Operand} {xs ys : List AV} {p : Prop} [Decidable p] (hn : Nat.ble (d + 1) n = true) (hx : ev f x = .agg xs) (hy : ev f y = .agg ys) (ht : TEq P t) (hkx : KOK P t (.agg xs)) (hky : KOK P t (.agg ys)) (hp : p ↔ xs = ys)
    (hK : K (upd f d (.bool (decide p))) H) : AOp P n ⟨some d, .binOp .eql t x y t', ty, pos, after, guard⟩ K f H :=
  .eqAgg hn hx hy ht hkx hky fun b hb => by
    have : b = decide p := by
      cases b with
      | true => exact (decide_eq_true (hp.2 (hb.1 rfl))).symm
      | false => exact (decide_eq_false fun h => by have := hb.2 (hp.1 h); cases this).symm
    rw [this]; exact hK
theorem AOp.neAggD {t t' : TypeId} {x y : Operand} {xs ys : List AV} {p : Prop} [Decidable p] (hn : Nat.ble (d + 1) n = true) (hx : ev f x = .agg xs) (hy : ev f y = .agg ys) (ht : TEq P t) (hkx : KOK P t (.agg xs)) (hky : KOK P t (.agg ys)) (hp : p ↔ xs = ys)
    (hK : K (upd f d (.bool (!decide p))) H) : AOp P n ⟨some d, .binOp .neq t x y t', ty, pos, after, guard⟩ K f H :=
  .neAgg hn hx hy ht hkx hky fun b hb => by
    have : b = !decide p := by
      cases b with
      | true => rw [decide_eq_false (fun h => hb.1 rfl (hp.1 h))]; rfl
      | false =>
        have : p := Classical.byContradiction fun h => by have := hb.2 (fun e => h (hp.2 e)); cases this
        rw [decide_eq_true this]; rfl
    rw [this]; exact hK
end

/-! ### Results -/
theorem Res.zero {P : Program} {n : Nat} {fn : Func} {f : Nat → AV} {H : Heap} (hr : fn.results = #[]) : Res P n fn f H (.tup []) := by
  intro μ a w _
  exact ⟨.tuple #[], by simp [results, hr], .tup rfl (by simp)⟩

inductive RL (P : Program) (f : Nat → AV) (H : Heap) : List ResultVar → List AV → Prop
  | nil : RL P f H [] []
  | tmp {t : Nat} {v : AV} {rs : List ResultVar} {vs : List AV} (h : f t = v) (r : RL P f H rs vs) : RL P f H (.tmp t :: rs) (v :: vs)
  | cell {a t id ver off size : Nat} {agg : Bool} {cells : List AV} {v : AV} {rs : List ResultVar} {vs : List AV} (h : f a = .ptr id ver off) (ht : TY P t agg size) (hid : H id = some (.row ver cells)) (hv : loadv agg size off cells = some v) (r : RL P f H rs vs) : RL P f H (.cell a t :: rs) (v :: vs)

def rdRes (tmps : Array Value) : ResultVar → Sem Value
  | .tmp t => pure (tmps.getD t undef)
  | .cell x t => do loadVar t (← asAddr (tmps.getD x undef))
theorem results_rd (fn : Func) (tmps : Array Value) : results fn tmps = (do let vs ← fn.results.mapM (rdRes tmps); pure (if h : vs.size = 1 then vs[0] else .tuple vs)) := by
  unfold results
  refine congrArg (fun g => (do let vs ← fn.results.mapM g; pure (if h : vs.size = 1 then vs[0] else .tuple vs) : Sem Value)) ?_
  funext x
  cases x <;> rfl
theorem RL.run {P : Program} {n : Nat} {f : Nat → AV} {H : Heap} {w : World} {μ : Nat → Nat} {a : Act} (hs : SR n w μ f H a) {rs : List ResultVar} {vs : List AV} (h : RL P f H rs vs) :
    ∃ us : List Value, (rs.mapM (rdRes a.tmps)).run P w = .ok us w ∧ VRs w μ H vs us := by
  induction h with
  | nil => exact ⟨[], rfl, rfl, fun j x y h => by simp at h⟩
  | tmp h r ih =>
    obtain ⟨us, h1, h2, h3⟩ := ih
    rename_i t v rs vs
    refine ⟨a.tmps.getD t undef :: us, ?_, by simp [h2], fun j x y hx hy => ?_⟩
    · rw [List.mapM_cons]
      simp only [rdRes, Sem.run_bind, Sem.run_pure, Result.andThen_ok, h1]
    · cases j with
      | zero => simp only [List.getElem?_cons_zero, Option.some.injEq] at hx hy; subst hx hy; exact h ▸ hs.slots t
      | succ j => exact h3 j x y (by simpa using hx) (by simpa using hy)
  | cell h ht hid hv r ih =>
    obtain ⟨us, h1, h2, h3⟩ := ih
    rename_i x t id ver off size agg cells v rs vs
    have hx := hs.slots x
    rw [h] at hx
    generalize hz : a.tmps.getD x undef = z at hx
    cases hx with
    | ptr hk ha =>
      have := ha ⟨cells, hid⟩
      subst this
      obtain ⟨u, g1, g2⟩ := run_loadVar (P := P) (off := off) ht (hs.hr.holds hid) hv
      rw [Nat.zero_add] at g1
      refine ⟨u :: us, ?_, by simp [h2], fun j x y hx hy => ?_⟩
      · have g0 : ∀ (q : Addr), (asAddr (.pointer (some q))).run P w = .ok q w := fun _ => rfl
        rw [List.mapM_cons]
        simp only [rdRes, Sem.run_bind, hz, g0, Sem.run_pure, Result.andThen_ok, g1, h1]
      · cases j with
        | zero => simp only [List.getElem?_cons_zero, Option.some.injEq] at hx hy; subst hx hy; exact g2
        | succ j => exact h3 j x y (by simpa using hx) (by simpa using hy)

theorem Res.list {P : Program} {n : Nat} {fn : Func} {f : Nat → AV} {H : Heap} {rs : List ResultVar} {vs : List AV} (hr : fn.results = rs.toArray) (hl : (vs.length == 1) = false) (h : RL P f H rs vs) : Res P n fn f H (.tup vs) := by
  intro μ a w hs
  obtain ⟨us, h1, h2, h3⟩ := h.run hs
  refine ⟨.tuple us.toArray, ?_, .tup (by simpa using h2) fun j x y hx hy => h3 j x y hx (by simpa using hy)⟩
  have hne : us.length ≠ 1 := by
    intro e; rw [← h2] at e; rw [e] at hl; cases hl
  rw [results_rd, hr, Array.mapM_eq_mapM_toList]
  simp only [Sem.run_bind, Sem.run_map]
  rw [h1]
  simp only [Result.andThen_ok, List.size_toArray, hne, dif_neg, not_false_eq_true, Sem.run_pure]

theorem Res.list1 {P : Program} {n : Nat} {fn : Func} {f : Nat → AV} {H : Heap} {rs : List ResultVar} {v : AV} (hr : fn.results = rs.toArray) (h : RL P f H rs [v]) : Res P n fn f H v := by
  intro μ a w hs
  obtain ⟨us, h1, h2, h3⟩ := h.run hs
  match us, h2 with
  | [u], _ =>
    refine ⟨u, ?_, h3 0 v u rfl rfl⟩
    rw [results_rd, hr, Array.mapM_eq_mapM_toList]
    simp only [Sem.run_bind, Sem.run_map]
    rw [h1]
    simp [Sem.run_pure]

theorem Res.three {P : Program} {n : Nat} {fn : Func} {f : Nat → AV} {H : Heap} {t u v : Nat} {x y z : AV} (hr : fn.results = #[.tmp t, .tmp u, .tmp v]) (hx : f t = x) (hy : f u = y) (hz : f v = z) : Res P n fn f H (.tup [x, y, z]) :=
  .list (rs := [.tmp t, .tmp u, .tmp v]) hr rfl (.tmp hx (.tmp hy (.tmp hz .nil)))

/-- What is handed back under construction is a value then. -/
theorem ACalls.own_ret {P : Program} {g : FuncId} {args : List AV} {H : Heap} {es len : Nat} {cells : List AV} (h : ACalls P g args H fun r H' => Own H H' es r len cells ∧ Mono H H') : ACalls P g args H fun r H' => r = .sl len cells ∧ Mono H H' := by
  intro μ w vs hr hv
  refine (h μ w vs hr hv).mono ?_
  rintro e w' ⟨v, rfl, μ', H', r, h1, h2, h3, h4, h5⟩
  refine ⟨v, rfl, ?_⟩
  rcases h4 with ⟨rfl, rfl, rfl⟩ | ⟨id, ver, rfl, g2, g3, g4⟩
  · exact ⟨μ', H', _, h1, h2.nil_sl, h3, rfl, h5⟩
  · obtain ⟨f1, f2, f3⟩ := freeze h1 g2
    have hv' := freeze_VR h1 g2 (off := 0) (by omega) h2
    rw [List.drop_zero, List.take_of_length_le (by omega)] at hv'
    refine ⟨μ', _, _, f2, hv', h3.trans f1, rfl, fun i B hi => ?_⟩
    have : i ≠ id := by rintro rfl; rw [g3] at hi; cases hi
    rw [updH_ne _ _ this]
    exact h5 i B hi

theorem PC.of_own {P : Program} {g : FuncId} {args : List AV} {es len : Nat} {cells : List AV} (h : ∀ H, ACalls P g args H fun r H' => Own H H' es r len cells ∧ Mono H H') : PC P g args (.sl len cells) := fun H => (h H).own_ret

end Go.AH
