/- A part of the proof that a law of the edges and fans of faces answers true for every input of its bulk: own work, by an AI agent. -/
import Derived.Test.YtfgfalidpbbkhaaAH13
import Derived.Shelf.SlSortCmp.NoneTotal
set_option linter.unusedVariables false
set_option linter.unusedSimpArgs false
namespace Go.AH
open Go Go.Maps Go.Sort Go.Shelf Go.Proofs

def noHeap : Heap := fun _ => none
theorem noHeap_HR (w : World) (μ : Nat → Nat) : HR w μ noHeap where
  rows := fun _ _ _ h => by cases h
  maps := fun _ _ h => by cases h
  born := fun _ _ _ _ h => by cases h
  iters := fun _ _ h => by cases h
  inj := fun _ _ _ _ h => by cases h
  fin := ⟨0, fun _ _ => rfl⟩
theorem noHeap_owned {μ : Nat → Nat} {b : Nat} : ¬ Owned μ noHeap b := by
  rintro ⟨_, _, h, _⟩; cases h
theorem Ext.grown {w w' : World} {μ μ' : Nat → Nat} {H' : Heap} (h : Ext w μ noHeap w' μ' H') : ∃ q os', w' = grow (w.drewN q) os' := by
  obtain ⟨h1, h2, h3, h4⟩ := h.rest
  refine ⟨w'.drawn - w.drawn, w'.heap.extract w.heap.size w'.heap.size, ?_⟩
  have hh : w'.heap = w.heap ++ w'.heap.extract w.heap.size w'.heap.size := by
    have hs := h.size
    apply Array.ext_getElem?
    intro i
    rcases Nat.lt_or_ge i w.heap.size with hi | hi
    · rw [(h.frz i ⟨hi, noHeap_owned⟩).1, Array.getElem?_append_left hi]
    · rw [Array.getElem?_append_right hi, Array.getElem?_extract]
      by_cases g : i < w'.heap.size
      · rw [if_pos (by omega)]; congr 1; omega
      · rw [if_neg (by omega), Array.getElem?_eq_none (by omega)]
  unfold grow World.drewN
  cases w'
  simp only at h1 h2 h3 h4 hh ⊢
  rw [← hh, h1, h2, h3]
  congr 1
  omega
/-- A plain function: it hands back its value, draws, and lays blocks: no more. -/
theorem PC.plain {P : Program} {g : FuncId} {args : List AV} {r : AV} (h : PC P g args r) {w : World} {vs : Array Value} {v : Value} (hv : VRs w (fun i => i) noHeap args vs.toList) (hr : ∀ w' μ' H' x, VR w' μ' H' r x → x = v) :
    Calls P g vs w fun e w' => e = .returned v ∧ ∃ q os', w' = grow (w.drewN q) os' :=
  (h noHeap (fun i => i) w vs (noHeap_HR _ _) hv).mono fun _ _ ⟨x, e, μ', H', r', _, h2, h3, h4, _⟩ => ⟨by rw [e, hr _ _ _ x (h4 ▸ h2)], h3.grown⟩

/-! ### Rows of structs -/
theorem flat_get {α : Type} {e : α → List AV} {m : Nat} (he : ∀ x, (e x).length = m) {l : List α} {t : Nat} (ht : t < l.length * m) {x : α} (hx : l[t / m]? = some x) : (l.flatMap e)[t]? = (e x)[t % m]? := by
  have h0 : 0 < m := by
    rcases Nat.eq_zero_or_pos m with h | h
    · subst h; simp at ht
    · exact h
  have hl : t / m < l.length := (List.getElem?_eq_some_iff.1 hx).1
  have e1 : (l.flatMap e)[t]? = ((l.flatMap e).drop (t / m * m))[t % m]? := by
    rw [List.getElem?_drop]; congr 1; rw [Nat.mul_comm]; exact (Nat.div_add_mod t m).symm
  rw [e1, flatMap_drop he, List.drop_eq_getElem_cons hl, List.flatMap_cons, List.getElem?_append_left (by rw [he]; exact Nat.mod_lt _ h0)]
  rw [List.getElem?_eq_getElem hl] at hx
  cases hx; rfl

/-- Blocks behind what there is. -/
theorem grow_Ext {w : World} {μ : Nat → Nat} {H : Heap} (hr : HR w μ H) (n : Nat) (os : Array Obj) : Ext w μ H (grow (w.drewN n) os) μ H ∧ HR (grow (w.drewN n) os) μ H := by
  have hlt : ∀ id B, H id = some B → B.live = true → μ id < w.heap.size := fun id B h1 h2 => hr.lt h1 h2
  have hold : ∀ b, b < w.heap.size → (grow (w.drewN n) os).heap[b]? = w.heap[b]? := fun b hb => Array.getElem?_append_left hb
  have he : Ext w μ H (grow (w.drewN n) os) μ H := by
    refine ⟨by simp [grow, World.drewN], fun b hb => ⟨hold b hb.1, hb.2⟩, fun _ _ h => h, fun id ver _ ha => ⟨ha, rfl, ?_⟩, fun _ h => ⟨h, rfl⟩, fun _ h => ⟨h, rfl⟩, ⟨rfl, rfl, rfl, by simp [grow, World.drewN]⟩⟩
    obtain ⟨c, hc⟩ := ha
    simp only [bsize, hold _ (hlt _ _ hc rfl)]
  refine ⟨he, ⟨fun id ver cells hi => ?_, fun id es hi => ?_, fun id es ents clock hi hw => ?_, fun id it hi => ?_, hr.inj, hr.fin⟩⟩
  · obtain ⟨cs, T, h1, h2, h3⟩ := hr.rows id ver cells hi
    exact ⟨cs, T, by rw [hold _ (hlt _ _ hi rfl)]; exact h1, h2, fun j x hx => let ⟨y, g1, g2⟩ := h3 j x hx; ⟨y, g1, g2.ext he⟩⟩
  · obtain ⟨h0, en, c, h1, h2, h3⟩ := hr.maps id es hi
    exact ⟨h0, en, c, by rw [hold _ (hlt _ _ hi rfl)]; exact h1, h2, fun j x e hx hy => ⟨(h3 j x e hx hy).1.ext he, (h3 j x e hx hy).2.ext he⟩⟩
  · rw [hold _ (hlt _ _ hi rfl)] at hw
    exact hr.born id es ents clock hi hw
  · rw [hold _ (hlt _ _ hi rfl)]
    exact hr.iters id it hi

section
variable {α : Type} [Inhabited α]
/-- The sort of a slice under construction. -/
theorem sort_calls {P : Program} {g cg : FuncId} {k : Nat} {e : α → List AV} {enc : α → List Value} {lt : α → α → Bool} (hk0 : 0 < k) (hk : ∀ x, (e x).length = k) (hkV : ∀ x, (enc x).length = k) (hc : ∀ x (j : Nat) (a : AV), (e x)[j]? = some a → ∃ v, (enc x)[j]? = some v ∧ concA a = some v)
    (hvr : ∀ (w : World) (μ : Nat → Nat) (H : Heap) a v, concA a = some v → VR w μ H a v)
    (hcon : ∀ (blk off cap : Nat) (d : Array α) (w : World), HoldsK enc k w blk off d → blk < w.heap.size → d.size < 4611686018427387904 →
      Calls P g #[.slice (some ⟨blk, off, none⟩) d.size cap, .func (.func cg) #[] #[]] w fun e w' => e = .returned (.tuple #[]) ∧ ∃ d' n os, PermIn 0 d.size d d' ∧ SortedIn lt 0 d.size d' ∧ w' = sortWorldK enc k w blk off n d' os)
    (hnone : ∀ (p : Option Addr) (cap : Nat) (w : World), Calls P g #[.slice p 0 cap, .func (.func cg) #[] #[]] w fun e w' => e = .returned (.tuple #[]) ∧ w' = w)
    {H0 H : Heap} {v : AV} {l : List α} (ho : Own H0 H k v l.length (l.flatMap e)) (hm : Mono H0 H) (hbig : l.length < 4611686018427387904) :
    ACalls P g [v, .fn cg []] H fun r H' => r = .tup [] ∧ Mono H0 H' ∧ (∀ i, NotId v i → H' i = H i) ∧ ∃ l' : List α, Own H0 H' k v l'.length (l'.flatMap e) ∧ l'.Perm l ∧ l'.Pairwise (fun x y => lt y x = false) := by
  intro μ w vs hr hv
  obtain ⟨hv1, hv2⟩ := hv
  match vs, hv1, hv2 with
  | ⟨[a, b]⟩, _, hv2 =>
    have ha := hv2 0 _ _ rfl rfl
    have hb := hv2 1 _ _ rfl rfl
    cases hb with
    | @fn _ _ vs' hl hb =>
      have : vs' = #[] := Array.eq_empty_of_size_eq_zero (by simpa using hl.symm)
      subst this
      rcases ho with ⟨h1, h2, h3⟩ | ⟨id, ver, h1, h2, h3, h4⟩
      · subst h1
        cases ha
        refine (hnone none 0 w).mono ?_
        rintro ex w' ⟨rfl, rfl⟩
        have hl0 : l = [] := List.eq_nil_of_length_eq_zero h2
        subst hl0
        exact ⟨_, rfl, μ, H, _, hr, .tup (cells := []) rfl (by simp), .refl _ _ _, rfl, hm, fun _ _ => rfl, [], .nil _ _ _, .refl _, .nil⟩
      · subst h1
        obtain ⟨cap, rfl, hcap, hbs, _⟩ := ha.slm_inv ⟨_, h2⟩
        obtain ⟨cs, T, b1, b2, b3⟩ := hr.rows id ver _ h2
        have hlen : (l.flatMap e).length = l.length * k := h4
        have hcell : ∀ t, t < l.length * k → cs[t]? = some ((enc (l.toArray[t / k]!))[t % k]!) := by
          intro t ht
          have hd : t / k < l.length := Nat.div_lt_of_lt_mul (by rw [Nat.mul_comm]; exact ht)
          have hmod : t % k < k := Nat.mod_lt _ hk0
          have hx : l[t / k]? = some l[t / k] := List.getElem?_eq_getElem hd
          have hcl := flat_get hk ht hx
          have hgx : (e l[t / k])[t % k]? = some ((e l[t / k])[t % k]'(by rw [hk]; exact hmod)) := List.getElem?_eq_getElem (by rw [hk]; exact hmod)
          rw [hgx] at hcl
          obtain ⟨y, y1, y2⟩ := b3 t _ hcl
          obtain ⟨u, u1, u2⟩ := hc l[t / k] (t % k) _ hgx
          have := concA_VR y2 u2
          subst this
          rw [y1]
          have e1 : l.toArray[t / k]! = l[t / k] := by simp [hd]
          rw [e1]
          congr 1
          rw [List.getElem!_eq_getElem?_getD, u1]; rfl
        have hH : HoldsK enc k w (μ id) 0 l.toArray := by
          intro t ht
          rw [size_flatK] at ht
          have ht' : t < l.length * k := by simpa using ht
          rw [Nat.zero_add]
          refine ⟨?_, by simp [World.frozen?, b1]⟩
          simp only [World.cell?, b1, Option.isSome_none, Bool.false_eq_true, if_false]
          rw [hcell t ht', get_flatK _ _ _ _ ht]; rfl
        refine (hcon (μ id) 0 cap l.toArray w hH (hr.lt h2 rfl) (by simpa using hbig)).mono ?_
        rintro ex w' ⟨rfl, d', n, os, hp, hs, rfl⟩
        -- the row's new cells
        have hsz : d'.size = l.length := by simpa using hp.1
        have hperm : d'.toList.Perm l := by
          have := hp.2.2
          rw [Array.extract_size, show l.toArray.size = d'.size by simp [hsz], Array.extract_size] at this
          exact this
        have hlen' : (d'.toList.flatMap e).length = l.length * k := by rw [flatMap_length hk]; simp [hsz]
        have hFs : (flatK enc k d').size = l.length * k := by rw [size_flatK, hsz]
        have hset := setrow (w := w) (w' := putRowK enc k (Sort.ahead w n) (μ id) 0 d') (ver' := ver) (cells' := d'.toList.flatMap e) (cs' := putCells _root_.id 0 (flatK enc k d') cs) ⟨rfl, rfl, rfl, by simp [putRowK, putRow, mapBlock, Sort.ahead]⟩ hr (Nat.le_refl ver) h2 b1
          (by simp [putRowK, putRow, mapBlock, Sort.ahead, Array.getElem?_modify, b1, onCells]) (by simp [putCells]) (fun b hb => by simp [putRowK, putRow, mapBlock, Sort.ahead, Array.getElem?_modify, Ne.symm hb]) (by simp [putRowK, putRow, mapBlock, Sort.ahead])
          (by rw [hlen']; simp only [putCells, Array.size_mapIdx]; omega) (fun j x hx => by
            have hj : j < d'.toList.length * k := by
              rcases Nat.lt_or_ge j (d'.toList.flatMap e).length with h | h
              · rw [flatMap_length hk] at h; exact h
              · rw [List.getElem?_eq_none h] at hx; cases hx
            have hd : j / k < d'.toList.length := Nat.div_lt_of_lt_mul (by rw [Nat.mul_comm]; exact hj)
            have hmod : j % k < k := Nat.mod_lt _ hk0
            have hxx : d'.toList[j / k]? = some d'.toList[j / k] := List.getElem?_eq_getElem hd
            rw [flat_get hk hj hxx] at hx
            obtain ⟨u, u1, u2⟩ := hc _ _ _ hx
            have hjc : j < cs.size := by
              have : j < l.length * k := by simpa [hsz] using hj
              omega
            refine ⟨u, ?_, hvr _ _ _ _ _ u2⟩
            simp only [putCells, Array.getElem?_mapIdx, Array.getElem?_eq_getElem hjc, Option.map_some, Nat.zero_le, true_and, Nat.zero_add, Nat.sub_zero]
            rw [if_pos (by rw [hFs]; simpa [hsz] using hj), get_flatK _ _ _ _ (by simpa using hj)]
            have hd2 : j / k < d'.size := by simpa using hd
            have e1 : d'[j / k]! = d'.toList[j / k] := by simp [hd2]
            rw [e1, List.getElem!_eq_getElem?_getD, u1]; rfl)
        obtain ⟨q1, q2⟩ := hset
        obtain ⟨t1, t2⟩ := grow_Ext q2 0 os
        have hE := q1.trans t1
        refine ⟨_, rfl, μ, _, .tup [], t2, .tup (cells := []) rfl (by simp), hE, rfl, hm.set h3 fun _ h => updH_ne _ _ h, fun i hi => updH_ne _ _ (hi _ _ _ _ _ rfl), d'.toList, ?_, hperm, ?_⟩
        · refine .inr ⟨id, ver, ?_, updH_same _ _ _, h3, flatMap_length hk _⟩
          have : d'.toList.length = l.length := by simp [hsz]
          rw [this]
        · rw [List.pairwise_iff_getElem]
          intro i j hi hj hij
          have := hs i j (Nat.zero_le _) hij (by simp at hj ⊢; omega)
          have hi' : i < d'.size := by simpa using hi
          have hj' : j < d'.size := by simpa using hj
          simpa [hi', hj'] using this
theorem concVR (w : World) (μ : Nat → Nat) (H : Heap) (a : AV) (v : Value) (h : concA a = some v) : VR w μ H a v := by
  cases a <;> simp [concA] at h <;> subst h <;> constructor
end
end Go.AH
