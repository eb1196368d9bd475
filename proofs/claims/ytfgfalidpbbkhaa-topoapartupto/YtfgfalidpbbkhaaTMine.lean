/- A part of the proof that a law of the edges and fans of faces answers true for every input of its bulk: own work, by an AI agent. -/
import Derived.Test.YtfgfalidpbbkhaaTSpec6
set_option linter.unusedVariables false
set_option linter.unusedSimpArgs false
namespace Go.Proofs.T
open Go Go.AH
/-! ### The faces of each vertex: a map of slices under construction -/
abbrev ME := Int × AV × List Int
def eM (e : ME) : AV × AV := (.int .i64 e.1, e.2.1)
def MO (H0 H : Heap) (L : List ME) : Prop := (∀ e ∈ L, Own H0 H 1 e.2.1 e.2.2.length (e.2.2.map eI)) ∧ (∀ a ∈ L, ∀ b ∈ L, a.1 ≠ b.1 → Sep a.2.1 b.2.1) ∧ ∀ a ∈ L, ∀ b ∈ L, a.1 = b.1 → a = b
def NotIdM (L : List ME) (i : Nat) : Prop := ∀ e ∈ L, NotId e.2.1 i
def SepM (L : List ME) (v : AV) : Prop := ∀ e ∈ L, Sep e.2.1 v
section
variable {H0 H H' : Heap} {L : List ME} {v v' : AV} {i : Nat}
theorem MO.nil (H0 H : Heap) : MO H0 H [] := ⟨fun _ h => (by cases h), fun _ h => (by cases h), fun _ h => (by cases h)⟩
theorem NotIdM.nil (i : Nat) : NotIdM [] i := fun _ h => by cases h
theorem SepM.nil (v : AV) : SepM [] v := fun _ h => by cases h
theorem MO.mono (h : MO H0 H L) (m : Mono H H') : MO H0 H' L := ⟨fun e he => (h.1 e he).mono m, h.2⟩
theorem MO.keep (h : MO H0 H L) (ho : ∀ j, j ≠ i → H' j = H j) (hn : NotIdM L i) : MO H0 H' L := ⟨fun e he => (h.1 e he).keep ho (hn e he), h.2⟩
theorem MO.notnew (h : MO H0 H L) (hi : H i = none) : NotIdM L i := fun e he => (h.1 e he).notnew hi
theorem MO.stay (h : MO H0 H L) (hs : SepM L v) (hk : ∀ i, NotId v i → H i ≠ none → H' i = H i) : MO H0 H' L := ⟨fun e he => (h.1 e he).stay (hs e he) hk, h.2⟩
theorem MO.stay2 {rid : Nat} (h : MO H0 H L) (hs : SepM L v) (hr : NotIdM L rid) (hk : ∀ i, i ≠ rid → NotId v i → H' i = H i) : MO H0 H' L := ⟨fun e he => (h.1 e he).stay2 (hs e he) (hr e he) hk, h.2⟩
theorem MO.sep (h : MO H0 H L) (hs : SepM L v) (hk : ∀ i, NotId v i → H i ≠ none → NotId v' i) : SepM L v' := fun e he => (h.1 e he).sep (hs e he) hk
theorem SepM.nilR (L : List ME) : SepM L .snil := fun _ _ => .nilR _
theorem SepM.new (h : MO H0 H L) (hi : H i = none) {a b c d : Nat} : SepM L (.slm i a b c d) := fun e he => Sep.ofNotId' ((h.1 e he).notnew hi)
theorem MO.sub {K : List ME} (h : MO H0 H L) (hk : ∀ e ∈ K, e ∈ L) : MO H0 H K := ⟨fun e he => h.1 e (hk e he), fun a ha b hb => h.2.1 a (hk a ha) b (hk b hb), fun a ha b hb => h.2.2 a (hk a ha) b (hk b hb)⟩
end
def getM (L : List ME) (x : Int) : AV × List Int := ((L.find? fun e => decide (e.1 = x)).map (·.2)).getD (.snil, [])
def restM (L : List ME) (x : Int) : List ME := L.filter fun e => decide (e.1 ≠ x)
def putM (L : List ME) (x : Int) (w : AV) (xs : List Int) : List ME := if (L.find? fun e => decide (e.1 = x)).isSome then L.map fun e => if e.1 = x then (x, w, xs) else e else L ++ [(x, w, xs)]
theorem mgetM (L : List ME) (x : Int) : (mget (L.map eM) (.int .i64 x)).getD .snil = (getM L x).1 := by
  unfold getM mget
  rw [List.find?_map]
  have : ((fun e : AV × AV => @decide (e.1 = AV.int .i64 x) (Classical.propDecidable _)) ∘ eM) = fun e : ME => decide (e.1 = x) := by
    funext e
    simp [eM]
  rw [this]
  cases L.find? (fun e => decide (e.1 = x)) <;> rfl
theorem mputM (L : List ME) (x : Int) (w : AV) (xs : List Int) : mput (L.map eM) (.int .i64 x) w = (putM L x w xs).map eM := by
  unfold mput putM
  have h : (mget (L.map eM) (.int .i64 x)).isSome = (L.find? fun e => decide (e.1 = x)).isSome := by
    unfold mget
    rw [List.find?_map]
    have : ((fun e : AV × AV => @decide (e.1 = AV.int .i64 x) (Classical.propDecidable _)) ∘ eM) = fun e : ME => decide (e.1 = x) := by
      funext e
      simp [eM]
    rw [this]
    cases L.find? (fun e => decide (e.1 = x)) <;> rfl
  rw [h]
  split
  · rw [List.map_map, List.map_map]
    apply List.map_congr_left
    intro e _
    simp only [Function.comp, eM]
    by_cases c : e.1 = x
    · simp [c]
    · simp [c]
  · simp [eM]
theorem getM_cases (L : List ME) (x : Int) : (∃ e ∈ L, e.1 = x ∧ getM L x = e.2 ∧ (L.find? fun e => decide (e.1 = x)).isSome = true) ∨ ((∀ e ∈ L, e.1 ≠ x) ∧ getM L x = (.snil, []) ∧ (L.find? fun e => decide (e.1 = x)).isSome = false) := by
  unfold getM
  cases h : L.find? (fun e => decide (e.1 = x)) with
  | none =>
    right
    rw [List.find?_eq_none] at h
    exact ⟨fun e he => by simpa using h e he, rfl, rfl⟩
  | some e =>
    left
    have h1 := List.find?_some h
    exact ⟨e, List.mem_of_find?_eq_some h, by simpa using h1, rfl, rfl⟩
theorem MO.take {H0 H : Heap} {L : List ME} (h : MO H0 H L) (x : Int) : Own H0 H 1 (getM L x).1 (getM L x).2.length ((getM L x).2.map eI) ∧ MO H0 H (restM L x) ∧ SepM (restM L x) (getM L x).1 := by
  refine ⟨?_, h.sub fun e he => (List.mem_filter.1 he).1, ?_⟩
  · rcases getM_cases L x with ⟨e, he, _, h2, _⟩ | ⟨_, h2, _⟩
    · rw [h2]; exact h.1 e he
    · rw [h2]; exact .nil _ _ _
  · intro a ha
    obtain ⟨h1, h2⟩ := List.mem_filter.1 ha
    rcases getM_cases L x with ⟨e, he, h3, h4, _⟩ | ⟨_, h4, _⟩
    · rw [h4]; exact h.2.1 a h1 e he (by rw [h3]; simpa using h2)
    · rw [h4]; exact .nilR _
theorem mem_putM {L : List ME} {x : Int} {w : AV} {xs : List Int} {e : ME} (h : e ∈ putM L x w xs) : e = (x, w, xs) ∨ (e ∈ L ∧ e.1 ≠ x) := by
  unfold putM at h
  split at h
  · obtain ⟨a, ha, rfl⟩ := List.mem_map.1 h
    by_cases c : a.1 = x
    · rw [if_pos c]; exact .inl rfl
    · rw [if_neg c]; exact .inr ⟨ha, c⟩
  · rename_i hn
    rcases List.mem_append.1 h with h | h
    · refine .inr ⟨h, fun c => hn ?_⟩
      rw [List.find?_isSome]
      exact ⟨e, h, by simpa using c⟩
    · simp at h; exact .inl h
theorem putM_mem (L : List ME) (x : Int) (w : AV) (xs : List Int) : (x, w, xs) ∈ putM L x w xs ∧ ∀ e ∈ L, e.1 ≠ x → e ∈ putM L x w xs := by
  unfold putM
  split
  · rename_i hs
    rw [List.find?_isSome] at hs
    obtain ⟨a, ha, c⟩ := hs
    exact ⟨List.mem_map.2 ⟨a, ha, by simpa using fun h => absurd (by simpa using c) h⟩, fun e he hx => List.mem_map.2 ⟨e, he, by rw [if_neg hx]⟩⟩
  · exact ⟨by simp, fun e he _ => List.mem_append_left _ he⟩
theorem MO.put {H0 H : Heap} {L : List ME} {x : Int} {w : AV} {xs : List Int} (h : MO H0 H (restM L x)) (ho : Own H0 H 1 w xs.length (xs.map eI)) (hs : SepM (restM L x) w) : MO H0 H (putM L x w xs) := by
  have hr : ∀ e ∈ L, e.1 ≠ x → e ∈ restM L x := fun e he hx => List.mem_filter.2 ⟨he, by simpa using hx⟩
  refine ⟨fun e he => ?_, fun a ha b hb hab => ?_, fun a ha b hb hab => ?_⟩
  · rcases mem_putM he with rfl | ⟨h1, h2⟩
    · exact ho
    · exact h.1 e (hr e h1 h2)
  · rcases mem_putM ha with rfl | ⟨h1, h2⟩
    · rcases mem_putM hb with rfl | ⟨h3, h4⟩
      · exact absurd rfl hab
      · exact (hs b (hr b h3 h4)).symm
    · rcases mem_putM hb with rfl | ⟨h3, h4⟩
      · exact hs a (hr a h1 h2)
      · exact h.2.1 a (hr a h1 h2) b (hr b h3 h4) hab
  · rcases mem_putM ha with rfl | ⟨h1, h2⟩
    · rcases mem_putM hb with rfl | ⟨h3, h4⟩
      · rfl
      · exact absurd hab.symm h4
    · rcases mem_putM hb with rfl | ⟨h3, h4⟩
      · exact absurd hab h2
      · exact h.2.2 a (hr a h1 h2) b (hr b h3 h4) hab
/-- What the map tells of each vertex. -/
def Tells (L : List ME) (c : Int → List Int) : Prop := (∀ e ∈ L, e.2.2 = c e.1 ∧ c e.1 ≠ []) ∧ ∀ x, c x ≠ [] → ∃ e ∈ L, e.1 = x
theorem Tells.get {L : List ME} {c : Int → List Int} (h : Tells L c) (x : Int) : (getM L x).2 = c x := by
  rcases getM_cases L x with ⟨e, he, h1, h2, _⟩ | ⟨h1, h2, _⟩
  · rw [h2, (h.1 e he).1, h1]
  · rw [h2]
    by_cases hc : c x = []
    · exact hc.symm
    · obtain ⟨e, he, hx⟩ := h.2 x hc; exact absurd hx (h1 e he)
theorem Tells.put {L : List ME} {c c' : Int → List Int} {x : Int} {w : AV} {xs : List Int} (h : Tells L c) (hx : c' x = xs) (hne : xs ≠ []) (ho : ∀ y, y ≠ x → c' y = c y) : Tells (putM L x w xs) c' := by
  refine ⟨fun e he => ?_, fun y hy => ?_⟩
  · rcases mem_putM he with rfl | ⟨h1, h2⟩
    · exact ⟨hx.symm, by rw [hx]; exact hne⟩
    · rw [ho _ h2]; exact h.1 e h1
  · by_cases e : y = x
    · subst e; exact ⟨_, (putM_mem L y w xs).1, rfl⟩
    · rw [ho y e] at hy
      obtain ⟨a, ha, rfl⟩ := h.2 y hy
      exact ⟨a, (putM_mem L x w xs).2 a ha e, rfl⟩
theorem Tells.same {L : List ME} {c c' : Int → List Int} (h : Tells L c) (ho : ∀ y, c' y = c y) : Tells L c' := by
  have : c' = c := funext ho
  rw [this]; exact h
/-- The faces seen so far. -/
def contM (fs : List (List Int)) (f i : Int) (x : Int) : List Int := mineU fs x f ++ if x ∈ (at_ fs f).take i.toNat then [f] else []
theorem cont_0 (fs : List (List Int)) (f x : Int) : contM fs f 0 x = mineU fs x f := by simp [contM]
theorem cont_hit {fs : List (List Int)} {f i : Int} (ha : Apart (at_ fs f)) (h0 : 0 ≤ i) (h1 : i < (at_ fs f).length) : contM fs f (i + 1) (at_ (at_ fs f) i) = contM fs f i (at_ (at_ fs f) i) ++ [f] := by
  unfold contM
  have hn : at_ (at_ fs f) i ∉ (at_ fs f).take i.toNat := fun h => by
    obtain ⟨k, k0, k1, k2⟩ := take_mem h0 (by omega) h
    exact ha i k k0 k1 h1 k2.symm
  rw [if_neg hn, take_step h0 h1, if_pos (by simp)]; simp
theorem cont_miss {fs : List (List Int)} {f i x : Int} (h0 : 0 ≤ i) (h1 : i < (at_ fs f).length) (hx : x ≠ at_ (at_ fs f) i) : contM fs f (i + 1) x = contM fs f i x := by
  unfold contM
  rw [take_step h0 h1]
  congr 1
  simp [hx]
theorem cont_end {fs : List (List Int)} {f i x : Int} (h0 : 0 ≤ f) (hi : ((at_ fs f).length : Int) ≤ i) : contM fs f i x = mineU fs x (f + 1) := by
  unfold contM
  rw [take_all hi]
  by_cases h : x ∈ at_ fs f
  · rw [mine_T h0 h, if_pos h]
  · rw [mine_F h0 h, if_neg h]; simp
theorem putM_keys {L : List ME} {x : Int} {w : AV} {xs : List Int} (h : (L.map (·.1)).Nodup) : ((putM L x w xs).map (·.1)).Nodup := by
  unfold putM
  split
  · rw [List.map_map]
    have : ((fun e : ME => e.1) ∘ fun e : ME => if e.1 = x then (x, w, xs) else e) = fun e : ME => e.1 := by
      funext e
      simp only [Function.comp]
      split
      · rename_i h; exact h.symm
      · rfl
    rw [this]; exact h
  · rename_i hn
    rw [List.map_append, List.nodup_append]
    refine ⟨h, by simp, fun a ha b hb => ?_⟩
    simp at hb; subst hb
    rintro rfl
    obtain ⟨e, he, h2⟩ := List.mem_map.1 ha
    apply hn
    rw [List.find?_isSome]
    exact ⟨e, he, by simpa using h2⟩
theorem keys_count {L : List ME} {n : Int} (h1 : (L.map (·.1)).Nodup) (hr : ∀ e ∈ L, 0 ≤ e.1 ∧ e.1 < n) (hn : 0 ≤ n) : (L.length : Int) ≤ n ∧ ((∀ x : Int, 0 ≤ x → x < n → ∃ e ∈ L, e.1 = x) → (L.length : Int) = n) := by
  have h2 := List.Nodup.length_le_of_subset h1 (l₂ := (List.range n.toNat).map fun (k : Nat) => (k : Int)) (fun x hx => by
    obtain ⟨e, he, rfl⟩ := List.mem_map.1 hx
    have := hr e he
    exact List.mem_map.2 ⟨e.1.toNat, List.mem_range.2 (by omega), by omega⟩)
  have h3 : ((List.range n.toNat).map fun (k : Nat) => (k : Int)).Nodup := by
    rw [List.nodup_iff_pairwise_ne, List.pairwise_map]
    exact List.pairwise_lt_range.imp (by intro a b h; omega)
  simp only [List.length_map, List.length_range] at h2
  refine ⟨by omega, fun hall => ?_⟩
  have h4 := List.Nodup.length_le_of_subset h3 (l₂ := L.map (·.1)) (fun x hx => by
    obtain ⟨k, hk, rfl⟩ := List.mem_map.1 hx
    rw [List.mem_range] at hk
    obtain ⟨e, he, hx⟩ := hall k (by omega) (by omega)
    exact List.mem_map.2 ⟨e, he, hx⟩)
  simp only [List.length_map, List.length_range] at h4
  omega
theorem SepM.ofNotId {L : List ME} {i a b c d : Nat} (h : NotIdM L i) : SepM L (.slm i a b c d) := fun e he => Sep.ofNotId' (h e he)
theorem NotIdM.get {L : List ME} {j : Nat} (h : NotIdM L j) (x : Int) : NotId (getM L x).1 j := by
  rcases getM_cases L x with ⟨e, he, _, h2, _⟩ | ⟨_, h2, _⟩
  · rw [h2]; exact h e he
  · rw [h2]; exact .nil _
theorem NotIdM.rest {L : List ME} {j : Nat} (h : NotIdM L j) (x : Int) : NotIdM (restM L x) j := fun e he => h e (List.mem_filter.1 he).1
theorem NotIdM.put {L : List ME} {j : Nat} {x : Int} {w : AV} {xs : List Int} (h : NotIdM (restM L x) j) (hw : NotId w j) : NotIdM (putM L x w xs) j := fun e he => by
  rcases mem_putM he with rfl | ⟨h1, h2⟩
  · exact hw
  · exact h e (List.mem_filter.2 ⟨h1, by simpa using h2⟩)
theorem SepM.get {L : List ME} {v : AV} (h : SepM L v) (x : Int) : Sep (getM L x).1 v := by
  rcases getM_cases L x with ⟨e, he, _, h2, _⟩ | ⟨_, h2, _⟩
  · rw [h2]; exact h e he
  · rw [h2]; exact .nilL _
theorem SepM.rest {L : List ME} {v : AV} (h : SepM L v) (x : Int) : SepM (restM L x) v := fun e he => h e (List.mem_filter.1 he).1
theorem filter_step {L : List ME} {v : Int} : restM (L.filter fun e => decide (v ≤ e.1)) v = L.filter fun e => decide (v + 1 ≤ e.1) := by
  unfold restM
  rw [List.filter_filter]
  congr 1
  funext e
  rw [← Bool.decide_and]
  apply decide_eq_decide.2
  omega
theorem filter_start {L : List ME} (h : ∀ e ∈ L, 0 ≤ e.1) : L = L.filter fun e => decide (0 ≤ e.1) := (List.filter_eq_self.2 fun e he => by simpa using h e he).symm
theorem getM_filter {L : List ME} {v : Int} : getM (L.filter fun e => decide (v ≤ e.1)) v = getM L v := by
  unfold getM
  rw [List.find?_filter]
  congr 3
  funext e
  by_cases c : e.1 = v
  · simp [c]
  · simp [c]
theorem hide_get {H : Heap} {m j : Nat} {B : AB} (hne : j ≠ m) (h : H j = some B) : hide H m j = some B := by unfold hide; rw [if_neg hne]; exact h
theorem Own.hide_ {H0 H H2 : Heap} {es len m : Nat} {v : AV} {cells : List AV} (h : Own H0 H es v len cells) (hn : NotId v m) (hm : Mono (hide H m) H2) : Own H0 H2 es v len cells := by
  rcases h with h | ⟨id, ver, h1, h2, h3⟩
  · exact .inl h
  · exact .inr ⟨id, ver, h1, hm _ _ (hide_get (fun e => hn _ _ _ _ _ h1 e.symm) h2), h3⟩
theorem MO.hide_ {H0 H H2 : Heap} {L : List ME} {m : Nat} (h : MO H0 H L) (hn : NotIdM L m) (hm : Mono (hide H m) H2) : MO H0 H2 L := ⟨fun e he => Own.hide_ (h.1 e he) (hn e he) hm, h.2⟩
theorem Mono.hide_ {H0 H H2 : Heap} {m : Nat} (h : Mono H0 H) (h0 : H0 m = none) (hm : Mono (hide H m) H2) : Mono H0 H2 := fun i B hi => by
  have : i ≠ m := by rintro rfl; rw [h0] at hi; cases hi
  exact hm _ _ (hide_get this (h i B hi))
theorem ok_full {n : Int} {fs : List (List Int)} {L : List ME} (h : okS n fs) (ht : Tells L fun x => mineU fs x fs.length) : ∀ x : Int, 0 ≤ x → x < n → ∃ e ∈ L, e.1 = x := by
  intro x h0 h1
  have hf := h.2.2 x h0 h1
  refine ht.2 x fun e => ?_
  unfold fanOK at hf
  rw [if_pos e] at hf
  cases hf
theorem MO.take_at {H0 H : Heap} {L : List ME} {c : Int} {xs : List Int} (h : MO H0 H (L.filter fun e => decide (c ≤ e.1))) (hx : (getM L c).2 = xs) :
    Own H0 H 1 (getM L c).1 xs.length (xs.map eI) ∧ MO H0 H (restM (L.filter fun e => decide (c ≤ e.1)) c) ∧ SepM (restM (L.filter fun e => decide (c ≤ e.1)) c) (getM L c).1 := by
  have := h.take c
  rw [getM_filter, hx] at this
  exact this
theorem kesM {L : List ME} {n : Int} (h : ∀ e ∈ L, 0 ≤ e.1 ∧ e.1 < n) : n ≤ 1000 → ∀ e ∈ L.map eM, KOK Try.prog 3 e.1 := by
  intro hn e he
  obtain ⟨a, ha, rfl⟩ := List.mem_map.1 he
  have := h a ha
  exact kok3 ⟨by omega, by omega⟩
theorem tells_nil (fs : List (List Int)) : Tells [] fun x => mineU fs x 0 := ⟨fun _ h => (by cases h), fun x h => absurd rfl h⟩
theorem putM_rng {L : List ME} {n x : Int} {w : AV} {xs : List Int} (h : ∀ e ∈ L, 0 ≤ e.1 ∧ e.1 < n) (hx : 0 ≤ x ∧ x < n) : ∀ e ∈ putM L x w xs, 0 ≤ e.1 ∧ e.1 < n := fun e he => by
  rcases mem_putM he with rfl | ⟨h1, _⟩
  · exact hx
  · exact h e h1
theorem cont_len {fs : List (List Int)} {f i x : Int} (h0 : 0 ≤ f) (h1 : f ≤ 1048576) : (contM fs f i x).length ≤ 1048577 := by
  unfold contM
  have := mine_le fs x f.toNat
  rw [Int.toNat_of_nonneg h0] at this
  rw [List.length_append]
  split <;> simp <;> omega
end Go.Proofs.T
