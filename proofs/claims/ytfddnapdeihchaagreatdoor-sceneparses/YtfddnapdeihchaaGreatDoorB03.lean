/- A part of the proof that a law answers true for every input of its row: own work, by an AI agent. -/
import Derived.Test.YtfddnapdeihchaaGreatDoorB02
import Derived.Test.YtfddnapdeihchaaGreatDoorB01
import Derived.Defers
import Derived.Recover
import Derived.Tactics
import Derived.Tactics2
set_option linter.unusedSimpArgs false
set_option linter.unusedVariables false
set_option linter.defProp false
namespace Go.AH
variable [Globs]
set_option linter.unusedSectionVars false
open Go
theorem Then.n {K : (Nat → AV) → Heap → Prop} {Q : Exit → (Nat → AV) → Heap → Prop} {f : Nat → AV} {H : Heap} (h : K f H) : Then K Q .normal f H := h
theorem nbi_T {b : Bool} (h : (!b) = true) : b = false := by simpa using h
theorem Own.thaw {w : World} {μ : Nat → Nat} {B H : Heap} (hr : HR w μ H) {es len : Nat} {v : AV} {cells : List AV} (h : Own B H es v len cells) (hl : ∀ x ∈ cells, LowA x) {y : Value} (hv : VR w μ H v y) : VR w (fun i => i) noHp (.sl len cells) y := by
  rcases h with ⟨rfl, rfl, rfl⟩ | ⟨id, ver, rfl, h1, _, h3⟩
  · cases hv; exact .sl0 _ _
  · cases hv with
    | slm hk hlc ha =>
      obtain ⟨e, _⟩ := ha ⟨cells, h1⟩
      subst e
      obtain ⟨cs, T, b1, b2, b3⟩ := hr.rows id ver cells h1
      have hlt : μ id < w.heap.size := by
        rcases Nat.lt_or_ge (μ id) w.heap.size with h | h
        · exact h
        · rw [Array.getElem?_eq_none h] at b1; cases b1
      refine .sl (b := μ id) (o := 0) (ys := fun j => cs.getD j Go.undef) hlc ⟨hlt, noHp_owned⟩ (fun j x hj => ?_) fun j x hj => ?_
      · obtain ⟨y, y1, _⟩ := b3 j x hj
        simp only [World.cell?, b1, Option.isSome_none, Bool.false_eq_true, if_false, Nat.zero_add, Array.getD_eq_getD_getElem?, y1, Option.getD_some]
      · obtain ⟨y, y1, y2⟩ := b3 j x hj
        have : cs.getD j Go.undef = y := by simp [Array.getD_eq_getD_getElem?, y1]
        simp only [this]
        exact y2.lowA (hl x (List.mem_of_getElem? hj))
theorem PC.own2 {P : Program} {g : FuncId} {v c : AV} {k : IntKind} {z : Int} {B H : Heap} {es len : Nat} {cells : List AV} (hv : ∀ g, Globs.val g = none) (h : PC P g [.sl len cells, c] (.int k z)) (ho : Own B H es v len cells) (hl : ∀ x ∈ cells, LowA x) (hc : LowA c) :
    ACalls P g [v, c] H fun r H' => r = .int k z ∧ H' = H := by
  refine PC.liveI hv h fun w μ vs hr hvs => ⟨by simpa using hvs.1, fun j x y hx hy => ?_⟩
  match j, hx with
  | 0, hx => cases hx; exact ho.thaw hr hl (hvs.2 0 v y rfl hy)
  | 1, hx => cases hx; exact (hvs.2 1 c y rfl hy).lowA hc
  | n + 2, hx => simp at hx
theorem AOp.buildSliceF {P : Program} {n : Nat} {f : Nat → AV} {H : Heap} {K : (Nat → AV) → Heap → Prop} {ty : TypeId} {pos : String} {after : Array Edge} {guard : Option (Nat × Bool)} {d : Nat} {t e : TypeId} {len es : Nat} {parts : Array (Nat × Operand)} {ps : List (Nat × AV)} {Z cells : List AV} (hn : Nat.ble (d + 1) n = true)
    (ht : P.underlying t = some (.slice e)) (hs' : TSize P e es) (hz : TZero P e Z) (hbig : Nat.ble (len * es) 16777216 = true)
    (hps : parts.toList.map (fun p => (p.1, ev f p.2)) = ps) (hf : fillA (fun i => some (i * es, es)) (zeroRow Z (len * es)) ps = some cells) (hl : cells.length = len * es)
    (hK : ∀ H', Mono H H' → K (upd f d (.sl len cells)) H') : AOp P n ⟨some d, .buildSlice t len parts, ty, pos, after, guard⟩ K f H := by
  have h : AOp P n ⟨some d, .buildSlice t len parts, ty, pos, after, guard⟩ (fun f' H' => ∃ f2 H2, Ghost n f' H' f2 H2 ∧ K f2 H2) f H := by
    refine .buildSlice hn ht hs' hz hbig hps hf fun id H' h1 h2 h3 => ?_
    have g := Ghost.freeze (n := n) (f := upd f d (.slm id 0 es 0 len)) (t := d) (es := es) (len := len) h2 (upd_same _ _ _) (by omega)
    rw [List.take_of_length_le (by omega)] at g
    have e : upd (upd f d (.slm id 0 es 0 len)) d (.sl len cells) = upd f d (.sl len cells) := by
      funext u; rw [upd_eq, upd_eq, upd_eq]; split <;> rfl
    rw [e] at g
    exact ⟨_, _, g, hK _ fun j X hj => by
      have hji : j ≠ id := fun e => by rw [e, h1] at hj; cases hj
      rw [updH_ne _ _ hji, h3 j hji]; exact hj⟩
  intro μ a w hs E
  refine Oper.wp_mono ?_ (fun _ _ _ _ h => h) (h μ a w hs E)
  rintro a' w' ⟨μ', f', H', g1, g2, f2, H2, g3, g4⟩
  obtain ⟨k1, k2⟩ := g3 _ _ _ g1
  exact ⟨μ', f2, H2, k1, g2.trans k2, g4⟩
theorem AOp.sliceSG1 {α : Type} {P : Program} {n : Nat} {f : Nat → AV} {H : Heap} {K : (Nat → AV) → Heap → Prop} {ty : TypeId} {pos : String} {after : Array Edge} {guard : Option (Nat × Bool)} {d : Nat} {xs : List α} {e : α → AV} {t : TypeId} {x : Operand} {lo hi : Option Operand} {l h : Int} (hn : Nat.ble (d + 1) n = true) (hx : ev f x = .sl xs.length (xs.map e)) (ht : TSlice P t 1)
    (hl : loOf f lo = some l) (hh : hiOf f xs.length hi = some h) (h0 : 0 ≤ l) (h1 : l ≤ h) (h2 : h ≤ xs.length)
    (hK : K (upd f d (.sl ((xs.drop l.toNat).take (h.toNat - l.toNat)).length (((xs.drop l.toNat).take (h.toNat - l.toNat)).map e))) H) : AOp P n ⟨some d, .slice t x lo hi none, ty, pos, after, guard⟩ K f H := by
  refine .sliceS (es := 1) hn hx (by simp) ht hl hh h0 h1 h2 ?_
  have e1 : ((xs.drop l.toNat).take (h.toNat - l.toNat)).length = h.toNat - l.toNat := by rw [List.length_take, List.length_drop]; omega
  rw [e1, List.map_take, List.map_drop] at hK
  rw [Nat.mul_one, Nat.mul_one]; exact hK
end Go.AH
namespace Go.Proofs.S
open Go Go.AH Go.Proofs.L
set_option linter.unusedSectionVars false
variable [LexG]
theorem at_get {α : Type} [Inhabited α] {l : List α} {i : Int} (h0 : 0 ≤ i) (h1 : i < l.length) : at_ l i = l[i.toNat]'(by omega) := by
  simp [at_, show i.toNat < l.length by omega]
theorem take_at {α : Type} [Inhabited α] {l : List α} {i : Int} (h0 : 0 ≤ i) (h1 : i < l.length) : l.take (i + 1).toNat = l.take i.toNat ++ [at_ l i] := by
  rw [at_get h0 h1, show (i + 1).toNat = i.toNat + 1 by omega, List.take_succ_eq_append_getElem (by omega)]
theorem all_at {α : Type} [Inhabited α] {p : α → Bool} {l : List α} {i : Int} (h0 : 0 ≤ i) (h1 : i < l.length) (h : p (at_ l i) = false) : l.all p = false := by
  rw [List.all_eq_false]
  exact ⟨at_ l i, by rw [at_get h0 h1]; exact List.getElem_mem _, by rw [h]; exact Bool.false_ne_true⟩
theorem all_step {α : Type} [Inhabited α] {p : α → Bool} {l : List α} {i : Int} (h0 : 0 ≤ i) (h1 : i < l.length) (pre : (l.take i.toNat).all p = true) (h : p (at_ l i) = true) : (l.take (i + 1).toNat).all p = true := by
  rw [take_at h0 h1, List.all_append, pre]; simp [h]
theorem all_done {α : Type} {p : α → Bool} {l : List α} {i : Int} (pre : (l.take i.toNat).all p = true) (h : (l.length : Int) ≤ i) : l.all p = true := by
  rwa [List.take_of_length_le (by omega)] at pre
theorem nums_T {w : List ByteArray} {i : Int} (h0 : 0 ≤ i) (h1 : i < w.length) (pre : numsB (w.take i.toNat) = true) (h : (R_lex_Number (at_ w i)).2 = true) : numsB (w.take (i + 1).toNat) = true := all_step (p := fun x => (R_lex_Number x).2) h0 h1 pre h
theorem nums_F {w : List ByteArray} {i : Int} (h0 : 0 ≤ i) (h1 : i < w.length) (h : (R_lex_Number (at_ w i)).2 = false) : numsB w = false := all_at (p := fun x => (R_lex_Number x).2) h0 h1 h
theorem nums_end {w : List ByteArray} {i : Int} (pre : numsB (w.take i.toNat) = true) (h : (w.length : Int) ≤ i) : numsB w = true := all_done pre h
theorem nums_step {w : List ByteArray} {i : Int} (h0 : 0 ≤ i) (h1 : i < w.length) : numsL (w.take i.toNat) ++ [(R_lex_Number (at_ w i)).1] = numsL (w.take (i + 1).toNat) := by
  rw [take_at h0 h1]; simp [numsL]
theorem numsL_len (w : List ByteArray) : (numsL w).length = w.length := by simp [numsL]
theorem nums_take {w : List ByteArray} {i : Int} (h0 : 0 ≤ i) (h1 : i ≤ (w.length : Int)) : ((numsL (w.take i.toNat)).length : Int) = i := by
  rw [numsL_len, List.length_take]; omega
theorem nums_all {w : List ByteArray} {i : Int} (h : (w.length : Int) ≤ i) : numsL (w.take i.toNat) = numsL w := by rw [List.take_of_length_le (by omega)]
theorem cnt_F1 {w : List ByteArray} {n : Int} (h : numsB w = false) : cntB w n = false := by simp [cntB, h]
theorem cnt_F2 {w : List ByteArray} {n : Int} (hl : (numsL w).length = w.length) (h : ¬ ((numsL w).length : Int) = n) : cntB w n = false := by rw [hl] at h; simp [cntB, h]
theorem cnt_T {w : List ByteArray} {n : Int} (hl : (numsL w).length = w.length) (h1 : numsB w = true) (h : ((numsL w).length : Int) = n) : cntB w n = true := by rw [hl] at h; simp [cntB, h, h1]
theorem cnt_len {w : List ByteArray} {n : Int} (h : cntB w n = true) : ((numsL w).length : Int) = n ∧ (w.length : Int) = n := by
  rw [numsL_len]; simp [cntB] at h; exact ⟨h.2, h.2⟩
theorem in_T {lo hi : Int} {l : List Int} {i : Int} (h0 : 0 ≤ i) (h1 : i < l.length) (pre : inB lo hi (l.take i.toNat) = true) (h : (decide (lo ≤ at_ l i) && decide (at_ l i ≤ hi)) = true) : inB lo hi (l.take (i + 1).toNat) = true := all_step (p := fun x => decide (lo ≤ x) && decide (x ≤ hi)) h0 h1 pre h
theorem in_F {lo hi : Int} {l : List Int} {i : Int} (h0 : 0 ≤ i) (h1 : i < l.length) (h : (decide (lo ≤ at_ l i) && decide (at_ l i ≤ hi)) = false) : inB lo hi l = false := all_at (p := fun x => decide (lo ≤ x) && decide (x ≤ hi)) h0 h1 h
theorem in_T2 {lo hi : Int} {l : List Int} {i : Int} (h0 : 0 ≤ i) (h1 : i < l.length) (pre : inB lo hi (l.take i.toNat) = true) (ha : lo ≤ at_ l i) (hb : at_ l i ≤ hi) : inB lo hi (l.take (i + 1).toNat) = true := in_T h0 h1 pre (by simp [ha, hb])
theorem in_F2 {lo hi : Int} {l : List Int} {i : Int} (h0 : 0 ≤ i) (h1 : i < l.length) (h : at_ l i < lo ∨ hi < at_ l i) : inB lo hi l = false := in_F h0 h1 (by simp; omega)
theorem in_end {lo hi : Int} {l : List Int} {i : Int} (pre : inB lo hi (l.take i.toNat) = true) (h : (l.length : Int) ≤ i) : inB lo hi l = true := all_done pre h
theorem all_T {w : List ByteArray} {i : Int} (h0 : 0 ≤ i) (h1 : i < w.length) (pre : (w.take i.toNat).all nameB = true) (h : nameB (at_ w i) = true) : (w.take (i + 1).toNat).all nameB = true := all_step h0 h1 pre h
theorem all_end {w : List ByteArray} {i : Int} (pre : (w.take i.toNat).all nameB = true) (h : (w.length : Int) ≤ i) : w.all nameB = true := all_done pre h
theorem named_F1 {w : List ByteArray} {k l : Int} (h : ¬ ((w.length : Int) ≥ l)) : namedB w k l = false := by
  simp [namedB]; intro h'; omega
theorem named_F2 {w : List ByteArray} {k l i : Int} (h0 : 0 ≤ i) (h1 : i < (w.take k.toNat).length) (h : nameB (at_ (w.take k.toNat) i) = false) : namedB w k l = false := by
  simp only [namedB, all_at h0 h1 h, Bool.and_false]
theorem named_T {w : List ByteArray} {k l : Int} (h : (w.length : Int) ≥ l) (h2 : (w.take k.toNat).all nameB = true) : namedB w k l = true := by
  simp only [namedB, h2, Bool.and_true, decide_eq_true_eq]; omega
theorem named_len {w : List ByteArray} {k l : Int} (h : namedB w k l = true) : l ≤ (w.length : Int) := by
  simp only [namedB, Bool.and_eq_true, decide_eq_true_eq] at h; exact h.1
theorem nm_step {α : Type} [Inhabited α] {f : α → ByteArray} {l : List α} {x : ByteArray} {i : Int} (pre : ∀ j : Int, 0 ≤ j → j < i → f (at_ l j) ≠ x) (h : ¬ f (at_ l i) = x) : ∀ j : Int, 0 ≤ j → j < i + 1 → f (at_ l j) ≠ x := fun j h0 h1 => by
  by_cases e : j = i
  · rw [e]; exact h
  · exact pre j h0 (by omega)
theorem idxN_hit {α : Type} [Inhabited α] {f : α → ByteArray} {l : List α} {x : ByteArray} {i : Int} (h0 : 0 ≤ i) (h1 : i < l.length) (pre : ∀ j : Int, 0 ≤ j → j < i → f (at_ l j) ≠ x) (h : f (at_ l i) = x) : idxN (l.map f) x = i := by
  have hk : (l.map f).findIdx? (fun y => decide (y = x)) = some i.toNat := by
    rw [List.findIdx?_eq_some_iff_getElem]
    refine ⟨by simp; omega, ?_, fun j hj => ?_⟩
    · rw [at_get h0 h1] at h; simp [h]
    · have := pre j (by omega) (by omega)
      rw [at_get (by omega) (by omega)] at this
      simpa using this
  simp only [idxN, hk]; omega
theorem idxN_none {α : Type} [Inhabited α] {f : α → ByteArray} {l : List α} {x : ByteArray} {i : Int} (h : (l.length : Int) ≤ i) (pre : ∀ j : Int, 0 ≤ j → j < i → f (at_ l j) ≠ x) : idxN (l.map f) x = -1 := by
  have hk : (l.map f).findIdx? (fun y => decide (y = x)) = none := by
    rw [List.findIdx?_eq_none_iff]
    intro y hy
    obtain ⟨a, ha, rfl⟩ := List.mem_map.1 hy
    obtain ⟨j, hj, rfl⟩ := List.getElem_of_mem ha
    have := pre j (by omega) (by omega)
    rw [at_get (by omega) (by omega)] at this
    simpa using this
  simp only [idxN, hk]
theorem idxN_rng (l : List ByteArray) (x : ByteArray) : -1 ≤ idxN l x ∧ idxN l x < (l.length : Int) := by
  unfold idxN
  split
  · rename_i i h
    rw [List.findIdx?_eq_some_iff_getElem] at h
    obtain ⟨h, _⟩ := h; omega
  · omega
end Go.Proofs.S
namespace Go.Proofs.S
open Go Go.AH Go.Proofs.L
set_option maxRecDepth 4000
set_option maxHeartbeats 4000000
set_option linter.unusedSimpArgs false
set_option linter.unusedVariables false
set_option linter.unusedSectionVars false
variable [LexG]
theorem c_need (b : Bool) (k : Int) : PX Tryz.prog 36 77 [.bool b, .int .i64 k] (if b = true then Except.ok () else Except.error k) fun _ => .tup [] := by
 intro H0
 refine ACallsX.of_body' (n := 8) rfl rfl rfl rfl ?_
 have m0 := Mono.refl H0
 refine Sr ?_
 refine V rfl rfl (C rfl (AOp.not rfl rfl ?_))
 refine AOps.nil ?_
 change AWP _ _ _ _ _ _
 rcases Bool.eq_false_or_eq_true (b) with b1 | b1
 refine cf_ rfl (nb b1) ?_
 refine AWP.skip ?_
 refine Or.inl ?_
 exact ⟨_, _, Ghost.refl, .inl rfl, _, Res.zero rfl, ⟨(), pbT (by exact b1), rfl, m0⟩⟩
 refine ct_ rfl (nb b1) ?_
 refine AWP.regionX (l := [0, 1, 2]) rfl ?_
 refine AOpsX.cons rfl rfl (Mv _ rfl rfl ?_)
 refine AOpsX.cons rfl rfl (AOp.makeIface (.int .i64 k) rfl rfl u_36 rfl ?_)
 exact AOpsX.consX rfl rfl (AOpX.panic (m := k) rfl (Or.inr ⟨_, rfl, _, pbF (by exact b1), rfl, m0⟩))
theorem c_numbers (w : List ByteArray) (hw : w.length ≤ 1048576) : PX Tryz.prog 36 82 [.sl w.length (w.map eStr)] (if numsB w = true then Except.ok () else Except.error 10) fun _ => .sl (numsL w).length ((numsL w).map eI) := by
 intro H0
 refine ACallsX.of_body' (n := 27) rfl rfl rfl rfl ?_
 have m0 := Mono.refl H0
 refine Sr ?_
 refine A rfl rfl ?_
 refine Sr ?_
 refine A rfl rfl ?_
 refine AWP.seq ?_
 refine Sr ?_
 refine V rfl rfl (C rfl (AOp.len (m := w.length) rfl rfl (.inr (.inl ⟨_, rfl⟩)) u_57 (V rfl rfl ?_)))
 refine bk_ ?_
 refine AWP.loop (fun q1 fq Hq => ∃ (i : Int) (w3 : AV), q1 = (((w.length : Int) : Int) - i).toNat ∧ fq 10 = .int .i64 i ∧ fq 2 = .snil ∧ fq 8 = .sl w.length (w.map eStr) ∧ fq 9 = .int .i64 (w.length : Int) ∧ fq 3 = w3 ∧ Own H0 Hq 1 w3 (numsL (w.take i.toNat)).length ((numsL (w.take i.toNat)).map eI) ∧ Mono H0 Hq ∧ (0 ≤ i) ∧ (i ≤ (w.length : Int)) ∧ (numsB (w.take i.toNat) = true)) (k := (((w.length : Int) : Int) - 0).toNat) ?_ ?_
 exact ⟨0, .snil, rfl, rfl, rfl, rfl, rfl, rfl, Own.nil _ _ _, m0, by omega, by omega, by rfl⟩
 rintro _ f3 H2 ⟨i, w3, rfl, s4, s5, s6, s7, s8, o9, m10, hi0, hi1, pre⟩
 have hq := nums_take hi0 hi1
 refine Sr ?_
 refine B rfl s4 s7 rfl ?_
 refine AWP.seq ?_
 by_cases b11 : i < (w.length : Int)
 refine ct_ rfl (decide_eq_true b11) ?_
 refine AWP.skip ?_
 refine AWP.seq ?_
 refine bk_ ?_
 refine Sr ?_
 refine C rfl (iS_ rfl s6 s4 sl_57 (by omega) (by omega) (L rfl rfl ty_9 (ld1 (by omega) (by omega)) (A rfl rfl ?_)))
 refine Sr ?_
 refine V rfl rfl (C rfl (Pc («as» := [.str (at_ w i)]) rfl rfl (rfl) tf_104 (c_lex_Number _) ?_))
 intro H12 m13
 have o14 := Own.mono o9 m13
 have m15 := m10.trans m13
 refine V rfl rfl (E rfl rfl rfl (E rfl rfl rfl (A rfl rfl (A rfl rfl ?_))))
 refine AWP.seq ?_
 refine AWP.regionX (l := [0, 1]) rfl ?_
 refine AOpsX.cons rfl rfl (Mv _ rfl rfl ?_)
 refine AOpsX.consX rfl rfl (AOpX.need (b := (R_lex_Number (at_ w i)).2) (k := 10) (as_ := [.bool ((R_lex_Number (at_ w i)).2), .int .i64 10]) rfl rfl (rfl) tf_77 (c_need _ _) ?_ (fun hb _ m2 => Or.inr ⟨_, rfl, _, pbF (by exact nums_F hi0 (by omega) hb), rfl, m15.trans m2⟩))
 intro hb16 H17 m18
 have o19 := Own.mono o14 m18
 have m20 := m15.trans m18
 refine AOpsX.nil ?_
 change AWP _ _ _ _ _ _
 refine AWP.region rfl ?_
 refine V rfl s8 (V rfl rfl (C rfl (AOp.buildSlice (cells := [.int .i64 ((R_lex_Number (at_ w i)).1)]) rfl u_68 ts_3 tz_3 rfl rfl rfl ?_)))
 intro i21 H22 n23 h24 k25
 have o27 := Own.keep o19 k25 (Own.notnew o19 n23)
 have m29 := Mono.new m20 n23 k25
 refine C rfl (AOp.append_own (es := 1) (m := 1) (len := ((numsL (w.take i.toNat)).length)) (old := (numsL (w.take i.toNat)).map eI) (cells := [.int .i64 ((R_lex_Number (at_ w i)).1)]) rfl u_68 ts_3 tzn_3 tb_3 (by decide) ni_68 rfl o27 m29 rfl (.slm h24 rfl) (one_of rfl) (by decide) (by first | omega | (simp; omega)) ?_)
 intro v30 H31 o32 m33 k34 j35
 have o36 := Own.snoc1 (xs := ((numsL (w.take i.toNat)) : List Int)) (y := (R_lex_Number (at_ w i)).1) (e := eI) (by simp) o32
 refine A rfl rfl ?_
 refine AWP.region rfl ?_
 refine B rfl s4 rfl (iadd (by omega)) (V rfl rfl ?_)
 refine AOps.nil ?_
 exact ⟨_, by omega, i + 1, v30, rfl, rfl, s5, s6, s7, rfl, (have hx : (((numsL (w.take i.toNat)) ++ [(R_lex_Number (at_ w i)).1]) : List Int) = numsL (w.take (i + 1).toNat) := (by exact nums_step hi0 (by omega)); Own.re o36 (congrArg List.length hx) (congrArg (fun l : List Int => l.map eI) hx)), m33, by omega, by omega, by exact nums_T hi0 (by omega) pre hb16⟩
 refine cf_ rfl (decide_eq_false b11) ?_
 refine AWP.exit ?_
 change AWP _ _ _ _ _ _
 refine Sr ?_
 refine V rfl s8 (A rfl rfl ?_)
 refine rt_ ?_
 refine Or.inl ?_
 refine Fin.frz 2 o9 rfl m10 fun H37 m38 k39 => ?_
 exact ⟨_, _, Ghost.refl, .inr rfl, _, Res.one rfl rfl, ⟨(), pbT (by exact nums_end pre (by omega)), (congrArg (fun l : List Int => AV.sl l.length (l.map eI)) (show ((numsL (w.take i.toNat)) : List Int) = numsL w from by exact nums_all (by omega))), m38⟩⟩
theorem c_counted (w : List ByteArray) (hw : w.length ≤ 1048576) (n : Int) : PX Tryz.prog 36 76 [.sl w.length (w.map eStr), .int .i64 n] (if cntB w n = true then Except.ok () else Except.error 10) fun _ => .sl (numsL w).length ((numsL w).map eI) := by
 intro H0
 refine ACallsX.of_body' (n := 14) rfl rfl rfl rfl ?_
 have m0 := Mono.refl H0
 refine Sr ?_
 refine A rfl rfl ?_
 refine AWP.seq ?_
 refine AWP.regionX (l := [0, 1, 2]) rfl ?_
 refine AOpsX.cons rfl rfl (Mv _ rfl rfl ?_)
 refine AOpsX.consX rfl rfl (AOpX.need (b := numsB w) (k := 10) (as_ := [.sl w.length (w.map eStr)]) rfl rfl (rfl) tf_82 (c_numbers w (by first | omega | assumption | (simp only [List.length_drop, List.length_take]; omega) | (simp; omega) | simp)) ?_ (fun hb _ m2 => Or.inr ⟨_, rfl, _, pbF (by exact cnt_F1 hb), rfl, m0.trans m2⟩))
 intro hb1 H2 m3
 have m4 := m0.trans m3
 have hl5 := numsL_len w
 refine AOpsX.cons rfl rfl (As _ rfl rfl ?_)
 refine AOpsX.nil ?_
 change AWP _ _ _ _ _ _
 refine AWP.seq ?_
 have hl1_ := numsL_len w
 refine AWP.regionX (l := [0, 1, 2, 3, 4]) rfl ?_
 refine AOpsX.cons rfl rfl (Mv _ rfl rfl ?_)
 refine AOpsX.cons rfl rfl (AOp.len (m := (numsL w).length) rfl rfl (.inr (.inl ⟨_, rfl⟩)) u_68 ?_)
 refine AOpsX.cons rfl rfl (Mv _ rfl rfl ?_)
 refine AOpsX.cons rfl rfl (Bi _ rfl rfl rfl ieq ?_)
 refine AOpsX.consX rfl rfl (AOpX.need (b := decide ((((numsL w).length) : Int) = n)) (k := 10) (as_ := [.bool (decide ((((numsL w).length) : Int) = n)), .int .i64 10]) rfl rfl (rfl) tf_77 (c_need _ _) ?_ (fun hb _ m2 => Or.inr ⟨_, rfl, _, pbF (by exact cnt_F2 hl1_ (of_decide_eq_false hb)), rfl, m4.trans m2⟩))
 intro hb6 H7 m8
 have m9 := m4.trans m8
 have hp10 := of_decide_eq_true hb6
 refine AOpsX.nil ?_
 change AWP _ _ _ _ _ _
 refine Sr ?_
 refine V rfl rfl (A rfl rfl ?_)
 refine rt_ ?_
 refine Or.inl ?_
 exact ⟨_, _, Ghost.refl, .inr rfl, _, Res.one rfl rfl, ⟨(), pbT (by exact cnt_T hl1_ hb1 (of_decide_eq_true hb6)), rfl, m9⟩⟩
theorem c_within (lo hi : Int) (l : List Int) (hl : l.length ≤ 1048576) : PX Tryz.prog 36 78 [.int .i64 lo, .int .i64 hi, .sl l.length (l.map eI)] (if inB lo hi l = true then Except.ok () else Except.error 11) fun _ => .tup [] := by
 intro H0
 refine ACallsX.of_body' (n := 24) rfl rfl rfl rfl ?_
 have m0 := Mono.refl H0
 refine Sr ?_
 refine V rfl rfl (C rfl (AOp.len (m := l.length) rfl rfl (.inr (.inl ⟨_, rfl⟩)) u_68 (V rfl rfl ?_)))
 refine bk_ ?_
 refine AWP.loop (fun q1 fq Hq => ∃ (i : Int), q1 = (((l.length : Int) : Int) - i).toNat ∧ fq 10 = .int .i64 i ∧ fq 0 = .int .i64 lo ∧ fq 1 = .int .i64 hi ∧ fq 8 = .sl l.length (l.map eI) ∧ fq 9 = .int .i64 (l.length : Int) ∧ Mono H0 Hq ∧ (0 ≤ i) ∧ (i ≤ (l.length : Int)) ∧ (inB lo hi (l.take i.toNat) = true)) (k := (((l.length : Int) : Int) - 0).toNat) ?_ ?_
 exact ⟨0, rfl, rfl, rfl, rfl, rfl, rfl, m0, by omega, by omega, by rfl⟩
 rintro _ f3 H2 ⟨i, rfl, s4, s5, s6, s7, s8, m9, hi0, hi1, pre⟩
 refine Sr ?_
 refine B rfl s4 s8 rfl ?_
 refine AWP.seq ?_
 by_cases b10 : i < (l.length : Int)
 refine ct_ rfl (decide_eq_true b10) ?_
 refine AWP.skip ?_
 refine AWP.seq ?_
 refine bk_ ?_
 refine Sr ?_
 refine C rfl (iS_ rfl s7 s4 sl_68 (by omega) (by omega) (L rfl rfl ty_3 (ld1 (by omega) (by omega)) (A rfl rfl ?_)))
 refine AWP.regionX (l := [0, 1, 2, 3, 4, 5, 6, 7, 8]) rfl ?_
 refine AOpsX.cons rfl rfl (Mv _ rfl s5 ?_)
 refine AOpsX.cons rfl rfl (Mv _ rfl rfl ?_)
 refine AOpsX.cons rfl rfl (Bi _ rfl rfl rfl rfl ?_)
 refine AOpsX.cons rfl rfl (Mv _ rfl rfl ?_)
 by_cases b11 : lo ≤ at_ l i
 refine AOpsX.yes rfl rfl rfl rfl rfl rfl rfl (decide_eq_true b11) (Mv _ rfl rfl ?_)
 refine AOpsX.yes rfl rfl rfl rfl rfl rfl rfl (decide_eq_true b11) (Mv _ rfl s6 ?_)
 refine AOpsX.yes rfl rfl rfl rfl rfl rfl rfl (decide_eq_true b11) (Bi _ rfl rfl rfl rfl ?_)
 refine AOpsX.cons rfl rfl (Pt _ rfl rfl (decide_eq_true b11) rfl ?_)
 refine AOpsX.consX rfl rfl (AOpX.need (b := decide (at_ l i ≤ hi)) (k := 11) (as_ := [.bool (decide (at_ l i ≤ hi)), .int .i64 11]) rfl rfl (rfl) tf_77 (c_need _ _) ?_ (fun hb _ m2 => Or.inr ⟨_, rfl, _, pbF (by exact in_F2 hi0 (by omega) (by first | omega | (have := of_decide_eq_false hb; omega))), rfl, m9.trans m2⟩))
 intro hb12 H13 m14
 have m15 := m9.trans m14
 have hp16 := of_decide_eq_true hb12
 refine AOpsX.nil ?_
 change AWP _ _ _ _ _ _
 refine AWP.region rfl ?_
 refine B rfl s4 rfl (iadd (by omega)) (V rfl rfl ?_)
 refine AOps.nil ?_
 exact ⟨_, by omega, i + 1, rfl, rfl, s5, s6, s7, s8, m15, by omega, by omega, by exact in_T2 hi0 (by omega) pre (by omega) (by omega)⟩
 refine AOpsX.no rfl rfl rfl rfl rfl rfl rfl (ble_of (decide_eq_false b11) (by decide)) ?_
 refine AOpsX.no rfl rfl rfl rfl rfl rfl rfl (ble_of (decide_eq_false b11) (by decide)) ?_
 refine AOpsX.no rfl rfl rfl rfl rfl rfl rfl (ble_of (decide_eq_false b11) (by decide)) ?_
 refine AOpsX.cons rfl rfl (Pf _ rfl rfl (decide_eq_false b11) rfl ?_)
 refine AOpsX.consX rfl rfl (AOpX.need (b := false) (k := 11) (as_ := [.bool false, .int .i64 11]) rfl rfl (rfl) tf_77 (c_need _ _) (fun h => Bool.noConfusion h) (fun _ _ m2 => Or.inr ⟨_, rfl, _, pbF (by exact in_F2 hi0 (by omega) (by first | omega | (have := of_decide_eq_false rfl; omega))), rfl, m9.trans m2⟩))
 refine cf_ rfl (decide_eq_false b10) ?_
 refine AWP.exit ?_
 refine Or.inl ?_
 exact ⟨_, _, Ghost.refl, .inl rfl, _, Res.zero rfl, ⟨(), pbT (by exact in_end pre (by omega)), rfl, m9⟩⟩
theorem c_color (n : List Int) (hn : 3 ≤ n.length) : PC Tryz.prog 80 [.sl n.length (n.map eI)] (.agg [.int .i64 ((colR n).R), .int .i64 ((colR n).G), .int .i64 ((colR n).B)]) := by
 intro H0
 refine ACalls.of_body' (n := 13) rfl rfl rfl rfl ?_
 have m0 := Mono.refl H0
 refine Sr ?_
 refine C rfl (al_ rfl tz_28 ?_)
 intro i1 H2 n3 h4 k5
 have z6 := Mono.free m0 n3
 have m7 := Mono.new m0 n3 k5
 refine AWP.seq ?_
 refine AWP.region_quiet mixed (by kernel_rfl) 10 [10] rfl (by kernel_rfl) (Mono H2) (Mono.refl _) ?_
 refine QV rfl rfl (Q rfl (fun _ _ φ ψ => iS_ rfl (φ 3 rfl) rfl sl_68 (by omega) (by omega) ⟨rfl, ψ⟩) (QL rfl rfl ty_3 (ld1 (by omega) (by omega)) (QV rfl rfl (Q rfl (fun _ _ φ ψ => iS_ rfl (φ 6 rfl) rfl sl_68 (by omega) (by omega) ⟨rfl, ψ⟩) (QL rfl rfl ty_3 (ld1 (by omega) (by omega)) (QV rfl rfl (Q rfl (fun _ _ φ ψ => iS_ rfl (φ 9 rfl) rfl sl_68 (by omega) (by omega) ⟨rfl, ψ⟩) (QL rfl rfl ty_3 (ld1 (by omega) (by omega)) (Q rfl (fun _ _ φ ψ => Bl (cells := [.int .i64 (at_ n 0), .int .i64 (at_ n 1), .int .i64 (at_ n 2)]) rfl tz_28 pl_28 (lconsP (φ 5 rfl) (lconsP (φ 8 rfl) (lconsP (φ 11 rfl) rfl))) rfl ⟨rfl, ψ⟩) ?_)))))))))
 refine QE.done fun H8 m9 => ?_
 have h10 := m9 _ _ h4
 have m11 := m7.trans m9
 refine C rfl (Sw rfl rfl ts_28 h10 rfl rfl rfl ?_)
 intro H12 h13 k14
 have m16 := Mono.set m11 z6 k14
 refine rt_ ?_
 refine Rr (Res.list1 rfl (.cell (v := .agg [.int .i64 (at_ n 0), .int .i64 (at_ n 1), .int .i64 (at_ n 2)]) rfl ty_28 h13 rfl (.nil))) ?_ m16
 exact (congrArg AV.agg (lc (congrArg (AV.int .i64) (show (at_ n 0 : Int) = (colR n).R from by first | rfl | omega | simp_all)) (lc (congrArg (AV.int .i64) (show (at_ n 1 : Int) = (colR n).G from by first | rfl | omega | simp_all)) (lc (congrArg (AV.int .i64) (show (at_ n 2 : Int) = (colR n).B from by first | rfl | omega | simp_all)) rfl))))
theorem c_point (n : List Int) (hn : 3 ≤ n.length) : PC Tryz.prog 79 [.sl n.length (n.map eI)] (.agg [.int .i64 ((ptR n).X), .int .i64 ((ptR n).Y), .int .i64 ((ptR n).Z)]) := by
 intro H0
 refine ACalls.of_body' (n := 13) rfl rfl rfl rfl ?_
 have m0 := Mono.refl H0
 refine Sr ?_
 refine C rfl (al_ rfl tz_24 ?_)
 intro i1 H2 n3 h4 k5
 have z6 := Mono.free m0 n3
 have m7 := Mono.new m0 n3 k5
 refine AWP.seq ?_
 refine AWP.region_quiet mixed (by kernel_rfl) 10 [10] rfl (by kernel_rfl) (Mono H2) (Mono.refl _) ?_
 refine QV rfl rfl (Q rfl (fun _ _ φ ψ => iS_ rfl (φ 3 rfl) rfl sl_68 (by omega) (by omega) ⟨rfl, ψ⟩) (QL rfl rfl ty_3 (ld1 (by omega) (by omega)) (QV rfl rfl (Q rfl (fun _ _ φ ψ => iS_ rfl (φ 6 rfl) rfl sl_68 (by omega) (by omega) ⟨rfl, ψ⟩) (QL rfl rfl ty_3 (ld1 (by omega) (by omega)) (QV rfl rfl (Q rfl (fun _ _ φ ψ => iS_ rfl (φ 9 rfl) rfl sl_68 (by omega) (by omega) ⟨rfl, ψ⟩) (QL rfl rfl ty_3 (ld1 (by omega) (by omega)) (Q rfl (fun _ _ φ ψ => Bl (cells := [.int .i64 (at_ n 0), .int .i64 (at_ n 1), .int .i64 (at_ n 2)]) rfl tz_24 pl_24 (lconsP (φ 5 rfl) (lconsP (φ 8 rfl) (lconsP (φ 11 rfl) rfl))) rfl ⟨rfl, ψ⟩) ?_)))))))))
 refine QE.done fun H8 m9 => ?_
 have h10 := m9 _ _ h4
 have m11 := m7.trans m9
 refine C rfl (Sw rfl rfl ts_24 h10 rfl rfl rfl ?_)
 intro H12 h13 k14
 have m16 := Mono.set m11 z6 k14
 refine rt_ ?_
 refine Rr (Res.list1 rfl (.cell (v := .agg [.int .i64 (at_ n 0), .int .i64 (at_ n 1), .int .i64 (at_ n 2)]) rfl ty_24 h13 rfl (.nil))) ?_ m16
 exact (congrArg AV.agg (lc (congrArg (AV.int .i64) (show (at_ n 0 : Int) = (ptR n).X from by first | rfl | omega | simp_all)) (lc (congrArg (AV.int .i64) (show (at_ n 1 : Int) = (ptR n).Y from by first | rfl | omega | simp_all)) (lc (congrArg (AV.int .i64) (show (at_ n 2 : Int) = (ptR n).Z from by first | rfl | omega | simp_all)) rfl))))
theorem c_named (w : List ByteArray) (hw : w.length ≤ 1048576) (k l : Int) (hk : 0 ≤ k) (hkl : k ≤ l) : PX Tryz.prog 36 81 [.sl w.length (w.map eStr), .int .i64 k, .int .i64 l] (if namedB w k l = true then Except.ok () else Except.error 10) fun _ => .tup [] := by
 intro H0
 refine ACallsX.of_body' (n := 25) rfl rfl rfl rfl ?_
 have m0 := Mono.refl H0
 refine AWP.seq ?_
 refine AWP.regionX (l := [0, 1, 2, 3, 4]) rfl ?_
 refine AOpsX.cons rfl rfl (Mv _ rfl rfl ?_)
 refine AOpsX.cons rfl rfl (AOp.len (m := w.length) rfl rfl (.inr (.inl ⟨_, rfl⟩)) u_57 ?_)
 refine AOpsX.cons rfl rfl (Mv _ rfl rfl ?_)
 refine AOpsX.cons rfl rfl (Bi _ rfl rfl rfl rfl ?_)
 refine AOpsX.consX rfl rfl (AOpX.need (b := decide ((w.length : Int) ≥ l)) (k := 10) (as_ := [.bool (decide ((w.length : Int) ≥ l)), .int .i64 10]) rfl rfl (rfl) tf_77 (c_need _ _) ?_ (fun hb _ m2 => Or.inr ⟨_, rfl, _, pbF (by exact named_F1 (of_decide_eq_false hb)), rfl, m0.trans m2⟩))
 intro hb1 H2 m3
 have m4 := m0.trans m3
 have hp5 := of_decide_eq_true hb1
 refine AOpsX.nil ?_
 change AWP _ _ _ _ _ _
 refine Sr ?_
 refine V rfl rfl (V rfl rfl (C rfl (AOp.sliceST1 (l := 0) (h := k) rfl rfl  sl_57 rfl (hi_of rfl) (by omega) (by omega) (by omega) (C rfl (AOp.len (m := ((w).take k.toNat).length) rfl rfl (.inr (.inl ⟨_, rfl⟩)) u_57 (V rfl rfl ?_))))))
 refine bk_ ?_
 refine AWP.loop (fun q6 fq Hq => ∃ (i : Int), q6 = ((((w.take k.toNat).length : Int) : Int) - i).toNat ∧ fq 17 = .int .i64 i ∧ fq 15 = .sl ((w).take k.toNat).length (((w).take k.toNat).map eStr) ∧ fq 16 = .int .i64 ((((w).take k.toNat).length) : Int) ∧ Mono H0 Hq ∧ (0 ≤ i) ∧ (i ≤ ((w.take k.toNat).length : Int)) ∧ ((((w.take k.toNat).take i.toNat).all nameB) = true)) (k := ((((w.take k.toNat).length : Int) : Int) - 0).toNat) ?_ ?_
 exact ⟨0, rfl, rfl, rfl, rfl, m4, by omega, by omega, by rfl⟩
 rintro _ f8 H7 ⟨i, rfl, s9, s10, s11, m12, hi0, hi1, pre⟩
 have htk : (w.take k.toNat).length ≤ w.length := by simp; omega
 refine Sr ?_
 refine B rfl s9 s11 rfl ?_
 refine AWP.seq ?_
 by_cases b13 : i < ((((w).take k.toNat).length) : Int)
 refine ct_ rfl (decide_eq_true b13) ?_
 refine AWP.skip ?_
 refine AWP.seq ?_
 refine bk_ ?_
 refine Sr ?_
 refine C rfl (iS_ rfl s10 s9 sl_57 (by omega) (by omega) (L rfl rfl ty_9 (ld1 (by omega) (by omega)) (A rfl rfl ?_)))
 refine AWP.regionX (l := [0, 1, 2]) rfl ?_
 refine AOpsX.cons rfl rfl (Mv _ rfl rfl ?_)
 refine AOpsX.cons rfl rfl (Pc («as» := [.str (at_ ((w).take k.toNat) i)]) rfl rfl (rfl) tf_85 (c_lex_Name _) ?_)
 intro H14 m15
 have m16 := m12.trans m15
 refine AOpsX.consX rfl rfl (AOpX.need (b := nameB (at_ ((w).take k.toNat) i)) (k := 10) (as_ := [.bool (nameB (at_ ((w).take k.toNat) i)), .int .i64 10]) rfl rfl (rfl) tf_77 (c_need _ _) ?_ (fun hb _ m2 => Or.inr ⟨_, rfl, _, pbF (by exact named_F2 hi0 (by omega) hb), rfl, m16.trans m2⟩))
 intro hb17 H18 m19
 have m20 := m16.trans m19
 refine AOpsX.nil ?_
 change AWP _ _ _ _ _ _
 refine AWP.region rfl ?_
 refine B rfl s9 rfl (iadd (by omega)) (V rfl rfl ?_)
 refine AOps.nil ?_
 exact ⟨_, by omega, i + 1, rfl, rfl, s10, s11, m20, by omega, by omega, by exact all_T hi0 (by omega) pre hb17⟩
 refine cf_ rfl (decide_eq_false b13) ?_
 refine AWP.exit ?_
 refine Or.inl ?_
 exact ⟨_, _, Ghost.refl, .inl rfl, _, Res.zero rfl, ⟨(), pbT (by exact named_T (of_decide_eq_true hb1) (all_end pre (by omega))), rfl, m12⟩⟩
theorem c_tex_1 (t : TexT) (x : ByteArray) : PC Tryz.prog 106 [.agg [.str t.Name, .int .i64 t.W, .int .i64 t.H, .sl t.Rows.length (t.Rows.map eI)], .fptr [.str x] 0] (.bool (decide (t.Name = x))) := by
 intro H0
 refine ACalls.of_body' (n := 8) rfl rfl rfl rfl ?_
 have m0 := Mono.refl H0
 refine Sr ?_
 refine C rfl (bx_ (.agg [.str t.Name, .int .i64 t.W, .int .i64 t.H, .sl t.Rows.length (t.Rows.map eI)]) rfl rfl rfl ?_)
 intro i1 H2 n3 h4 k5
 have z6 := Mono.free m0 n3
 have m7 := Mono.new m0 n3 k5
 refine A rfl rfl ?_
 refine AWP.seq ?_
 refine fz_ 2 h4 z6 rfl m7 fun H8 m9 k10 => ?_
 refine AWP.region rfl ?_
 refine F rfl rfl fl_70_0 (L rfl rfl ty_9 rfl (L rfl rfl ty_9 rfl (C rfl (AOp.seqD rfl rfl rfl (A rfl rfl ?_)))))
 refine rt_ ?_
 refine Rr (Res.one rfl rfl) ?_ m9
 exact rfl
theorem c_idxTex (l : List TexT) (x : ByteArray) (hl : l.length ≤ 1048576) : PC Tryz.prog 105 [.sl l.length (l.flatMap eTex), .fn 106 [.fptr [.str x] 0]] (.int .i64 (idxN (l.map TexT.Name) x)) := by
 intro H0
 refine ACalls.of_body' (n := 19) rfl rfl rfl rfl ?_
 have m0 := Mono.refl H0
 refine Sr ?_
 refine A rfl rfl ?_
 refine AWP.seq ?_
 refine Sr ?_
 refine V rfl rfl (C rfl (AOp.len (m := l.length) rfl rfl (.inr (.inl ⟨_, rfl⟩)) u_31 (V rfl rfl ?_)))
 refine bk_ ?_
 refine AWP.loop (fun q1 fq Hq => ∃ (i : Int), q1 = (((l.length : Int) : Int) - i).toNat ∧ fq 8 = .int .i64 i ∧ fq 0 = .sl l.length (l.flatMap eTex) ∧ fq 1 = .fn 106 [.fptr [.str x] 0] ∧ fq 7 = .int .i64 (l.length : Int) ∧ Mono H0 Hq ∧ (0 ≤ i) ∧ (i ≤ (l.length : Int)) ∧ (∀ j : Int, 0 ≤ j → j < i → (at_ l j).Name ≠ x)) (k := (((l.length : Int) : Int) - 0).toNat) ?_ ?_
 exact ⟨0, rfl, rfl, rfl, rfl, rfl, m0, by omega, by omega, by intro j; omega⟩
 rintro _ f3 H2 ⟨i, rfl, s4, s5, s6, s7, m8, hi0, hi1, pre⟩
 refine Sr ?_
 refine B rfl s4 s7 rfl ?_
 refine AWP.seq ?_
 by_cases b9 : i < (l.length : Int)
 refine ct_ rfl (decide_eq_true b9) ?_
 refine AWP.skip ?_
 refine AWP.seq ?_
 refine bk_ ?_
 refine Sr ?_
 refine V rfl s4 (A rfl rfl ?_)
 refine Sr ?_
 refine V rfl s6 (V rfl s5 (V rfl rfl (C rfl (iS_ rfl rfl rfl sl_31 (by omega) (by omega) (L rfl rfl ty_70 (ldM eTex_len (by omega) (by omega)) (C rfl (Pc («as» := [.agg [.str ((at_ l i).Name), .int .i64 ((at_ l i).W), .int .i64 ((at_ l i).H), .sl ((at_ l i).Rows).length (((at_ l i).Rows).map eI)], .fptr [.str x] 0]) rfl rfl (rfl) tf_106 (c_tex_1 (at_ l i) x) ?_)))))))
 intro H10 m11
 have m12 := m8.trans m11
 refine AOps.nil ?_
 change AWP _ _ _ _ _ _
 by_cases b13 : (at_ l i).Name = x
 refine ct_ rfl (decide_eq_true b13) ?_
 refine Sr ?_
 refine V rfl rfl (A rfl rfl ?_)
 refine rt_ ?_
 refine Rr (Res.one rfl rfl) ?_ m12
 exact (congrArg (AV.int .i64) (show (i : Int) = idxN (l.map TexT.Name) x from by exact (idxN_hit (f := TexT.Name) hi0 (by omega) pre b13).symm))
 refine cf_ rfl (decide_eq_false b13) ?_
 refine AWP.skip ?_
 refine AWP.region rfl ?_
 refine B rfl s4 rfl (iadd (by omega)) (V rfl rfl ?_)
 refine AOps.nil ?_
 exact ⟨_, by omega, i + 1, rfl, rfl, s5, s6, s7, m12, by omega, by omega, by exact nm_step pre b13⟩
 refine cf_ rfl (decide_eq_false b9) ?_
 refine AWP.exit ?_
 change AWP _ _ _ _ _ _
 refine Sr ?_
 refine A rfl rfl ?_
 refine rt_ ?_
 refine Rr (Res.one rfl rfl) ?_ m8
 exact (congrArg (AV.int .i64) (show (-1 : Int) = idxN (l.map TexT.Name) x from by exact (idxN_none (f := TexT.Name) (by omega) pre).symm))
theorem c_mat_1 (t : MatT) (x : ByteArray) : PC Tryz.prog 108 [.agg [.str t.Name, .int .i64 t.Color.R, .int .i64 t.Color.G, .int .i64 t.Color.B, .int .i64 t.Shine, .int .i64 t.Sharp, .int .i64 t.Mirror, .int .i64 t.Clear, .int .i64 t.Ior], .fptr [.str x] 0] (.bool (decide (t.Name = x))) := by
 intro H0
 refine ACalls.of_body' (n := 8) rfl rfl rfl rfl ?_
 have m0 := Mono.refl H0
 refine Sr ?_
 refine C rfl (bx_ (.agg [.str t.Name, .int .i64 t.Color.R, .int .i64 t.Color.G, .int .i64 t.Color.B, .int .i64 t.Shine, .int .i64 t.Sharp, .int .i64 t.Mirror, .int .i64 t.Clear, .int .i64 t.Ior]) rfl rfl rfl ?_)
 intro i1 H2 n3 h4 k5
 have z6 := Mono.free m0 n3
 have m7 := Mono.new m0 n3 k5
 refine A rfl rfl ?_
 refine AWP.seq ?_
 refine fz_ 2 h4 z6 rfl m7 fun H8 m9 k10 => ?_
 refine AWP.region rfl ?_
 refine F rfl rfl fl_67_0 (L rfl rfl ty_9 rfl (L rfl rfl ty_9 rfl (C rfl (AOp.seqD rfl rfl rfl (A rfl rfl ?_)))))
 refine rt_ ?_
 refine Rr (Res.one rfl rfl) ?_ m9
 exact rfl
theorem c_idxMat (l : List MatT) (x : ByteArray) (hl : l.length ≤ 1048576) : PC Tryz.prog 107 [.sl l.length (l.flatMap eMat), .fn 108 [.fptr [.str x] 0]] (.int .i64 (idxN (l.map MatT.Name) x)) := by
 intro H0
 refine ACalls.of_body' (n := 19) rfl rfl rfl rfl ?_
 have m0 := Mono.refl H0
 refine Sr ?_
 refine A rfl rfl ?_
 refine AWP.seq ?_
 refine Sr ?_
 refine V rfl rfl (C rfl (AOp.len (m := l.length) rfl rfl (.inr (.inl ⟨_, rfl⟩)) u_30 (V rfl rfl ?_)))
 refine bk_ ?_
 refine AWP.loop (fun q1 fq Hq => ∃ (i : Int), q1 = (((l.length : Int) : Int) - i).toNat ∧ fq 8 = .int .i64 i ∧ fq 0 = .sl l.length (l.flatMap eMat) ∧ fq 1 = .fn 108 [.fptr [.str x] 0] ∧ fq 7 = .int .i64 (l.length : Int) ∧ Mono H0 Hq ∧ (0 ≤ i) ∧ (i ≤ (l.length : Int)) ∧ (∀ j : Int, 0 ≤ j → j < i → (at_ l j).Name ≠ x)) (k := (((l.length : Int) : Int) - 0).toNat) ?_ ?_
 exact ⟨0, rfl, rfl, rfl, rfl, rfl, m0, by omega, by omega, by intro j; omega⟩
 rintro _ f3 H2 ⟨i, rfl, s4, s5, s6, s7, m8, hi0, hi1, pre⟩
 refine Sr ?_
 refine B rfl s4 s7 rfl ?_
 refine AWP.seq ?_
 by_cases b9 : i < (l.length : Int)
 refine ct_ rfl (decide_eq_true b9) ?_
 refine AWP.skip ?_
 refine AWP.seq ?_
 refine bk_ ?_
 refine Sr ?_
 refine V rfl s4 (A rfl rfl ?_)
 refine Sr ?_
 refine V rfl s6 (V rfl s5 (V rfl rfl (C rfl (iS_ rfl rfl rfl sl_30 (by omega) (by omega) (L rfl rfl ty_67 (ldM eMat_len (by omega) (by omega)) (C rfl (Pc («as» := [.agg [.str ((at_ l i).Name), .int .i64 (((at_ l i).Color).R), .int .i64 (((at_ l i).Color).G), .int .i64 (((at_ l i).Color).B), .int .i64 ((at_ l i).Shine), .int .i64 ((at_ l i).Sharp), .int .i64 ((at_ l i).Mirror), .int .i64 ((at_ l i).Clear), .int .i64 ((at_ l i).Ior)], .fptr [.str x] 0]) rfl rfl (rfl) tf_108 (c_mat_1 (at_ l i) x) ?_)))))))
 intro H10 m11
 have m12 := m8.trans m11
 refine AOps.nil ?_
 change AWP _ _ _ _ _ _
 by_cases b13 : (at_ l i).Name = x
 refine ct_ rfl (decide_eq_true b13) ?_
 refine Sr ?_
 refine V rfl rfl (A rfl rfl ?_)
 refine rt_ ?_
 refine Rr (Res.one rfl rfl) ?_ m12
 exact (congrArg (AV.int .i64) (show (i : Int) = idxN (l.map MatT.Name) x from by exact (idxN_hit (f := MatT.Name) hi0 (by omega) pre b13).symm))
 refine cf_ rfl (decide_eq_false b13) ?_
 refine AWP.skip ?_
 refine AWP.region rfl ?_
 refine B rfl s4 rfl (iadd (by omega)) (V rfl rfl ?_)
 refine AOps.nil ?_
 exact ⟨_, by omega, i + 1, rfl, rfl, s5, s6, s7, m12, by omega, by omega, by exact nm_step pre b13⟩
 refine cf_ rfl (decide_eq_false b9) ?_
 refine AWP.exit ?_
 change AWP _ _ _ _ _ _
 refine Sr ?_
 refine A rfl rfl ?_
 refine rt_ ?_
 refine Rr (Res.one rfl rfl) ?_ m8
 exact (congrArg (AV.int .i64) (show (-1 : Int) = idxN (l.map MatT.Name) x from by exact (idxN_none (f := MatT.Name) (by omega) pre).symm))
theorem c_skin_1 (t : SkinT) (x : ByteArray) : PC Tryz.prog 110 [.agg [.str t.Name, .int .i64 t.Mat, .int .i64 t.Levels, .int .i64 t.Unit, .int .i64 t.Tex, .int .i64 t.Height], .fptr [.str x] 0] (.bool (decide (t.Name = x))) := by
 intro H0
 refine ACalls.of_body' (n := 8) rfl rfl rfl rfl ?_
 have m0 := Mono.refl H0
 refine Sr ?_
 refine C rfl (bx_ (.agg [.str t.Name, .int .i64 t.Mat, .int .i64 t.Levels, .int .i64 t.Unit, .int .i64 t.Tex, .int .i64 t.Height]) rfl rfl rfl ?_)
 intro i1 H2 n3 h4 k5
 have z6 := Mono.free m0 n3
 have m7 := Mono.new m0 n3 k5
 refine A rfl rfl ?_
 refine AWP.seq ?_
 refine fz_ 2 h4 z6 rfl m7 fun H8 m9 k10 => ?_
 refine AWP.region rfl ?_
 refine F rfl rfl fl_50_0 (L rfl rfl ty_9 rfl (L rfl rfl ty_9 rfl (C rfl (AOp.seqD rfl rfl rfl (A rfl rfl ?_)))))
 refine rt_ ?_
 refine Rr (Res.one rfl rfl) ?_ m9
 exact rfl
theorem c_idxSkin (l : List SkinT) (x : ByteArray) (hl : l.length ≤ 1048576) : PC Tryz.prog 109 [.sl l.length (l.flatMap eSkin), .fn 110 [.fptr [.str x] 0]] (.int .i64 (idxN (l.map SkinT.Name) x)) := by
 intro H0
 refine ACalls.of_body' (n := 19) rfl rfl rfl rfl ?_
 have m0 := Mono.refl H0
 refine Sr ?_
 refine A rfl rfl ?_
 refine AWP.seq ?_
 refine Sr ?_
 refine V rfl rfl (C rfl (AOp.len (m := l.length) rfl rfl (.inr (.inl ⟨_, rfl⟩)) u_32 (V rfl rfl ?_)))
 refine bk_ ?_
 refine AWP.loop (fun q1 fq Hq => ∃ (i : Int), q1 = (((l.length : Int) : Int) - i).toNat ∧ fq 8 = .int .i64 i ∧ fq 0 = .sl l.length (l.flatMap eSkin) ∧ fq 1 = .fn 110 [.fptr [.str x] 0] ∧ fq 7 = .int .i64 (l.length : Int) ∧ Mono H0 Hq ∧ (0 ≤ i) ∧ (i ≤ (l.length : Int)) ∧ (∀ j : Int, 0 ≤ j → j < i → (at_ l j).Name ≠ x)) (k := (((l.length : Int) : Int) - 0).toNat) ?_ ?_
 exact ⟨0, rfl, rfl, rfl, rfl, rfl, m0, by omega, by omega, by intro j; omega⟩
 rintro _ f3 H2 ⟨i, rfl, s4, s5, s6, s7, m8, hi0, hi1, pre⟩
 refine Sr ?_
 refine B rfl s4 s7 rfl ?_
 refine AWP.seq ?_
 by_cases b9 : i < (l.length : Int)
 refine ct_ rfl (decide_eq_true b9) ?_
 refine AWP.skip ?_
 refine AWP.seq ?_
 refine bk_ ?_
 refine Sr ?_
 refine V rfl s4 (A rfl rfl ?_)
 refine Sr ?_
 refine V rfl s6 (V rfl s5 (V rfl rfl (C rfl (iS_ rfl rfl rfl sl_32 (by omega) (by omega) (L rfl rfl ty_50 (ldM eSkin_len (by omega) (by omega)) (C rfl (Pc («as» := [.agg [.str ((at_ l i).Name), .int .i64 ((at_ l i).Mat), .int .i64 ((at_ l i).Levels), .int .i64 ((at_ l i).Unit), .int .i64 ((at_ l i).Tex), .int .i64 ((at_ l i).Height)], .fptr [.str x] 0]) rfl rfl (rfl) tf_110 (c_skin_1 (at_ l i) x) ?_)))))))
 intro H10 m11
 have m12 := m8.trans m11
 refine AOps.nil ?_
 change AWP _ _ _ _ _ _
 by_cases b13 : (at_ l i).Name = x
 refine ct_ rfl (decide_eq_true b13) ?_
 refine Sr ?_
 refine V rfl rfl (A rfl rfl ?_)
 refine rt_ ?_
 refine Rr (Res.one rfl rfl) ?_ m12
 exact (congrArg (AV.int .i64) (show (i : Int) = idxN (l.map SkinT.Name) x from by exact (idxN_hit (f := SkinT.Name) hi0 (by omega) pre b13).symm))
 refine cf_ rfl (decide_eq_false b13) ?_
 refine AWP.skip ?_
 refine AWP.region rfl ?_
 refine B rfl s4 rfl (iadd (by omega)) (V rfl rfl ?_)
 refine AOps.nil ?_
 exact ⟨_, by omega, i + 1, rfl, rfl, s5, s6, s7, m12, by omega, by omega, by exact nm_step pre b13⟩
 refine cf_ rfl (decide_eq_false b9) ?_
 refine AWP.exit ?_
 change AWP _ _ _ _ _ _
 refine Sr ?_
 refine A rfl rfl ?_
 refine rt_ ?_
 refine Rr (Res.one rfl rfl) ?_ m8
 exact (congrArg (AV.int .i64) (show (-1 : Int) = idxN (l.map SkinT.Name) x from by exact (idxN_none (f := SkinT.Name) (by omega) pre).symm))
end Go.Proofs.S
namespace Go.Proofs.L
open Go Go.AH Go.Lib
set_option maxRecDepth 4000
set_option linter.unusedSectionVars false
variable [LexG]
theorem digit_iff {b : UInt8} : (48 ≤ (b.toNat : Int) ∧ (b.toNat : Int) ≤ 57) ↔ digitVal b = some (b.toNat - 48) := by
  unfold digitVal
  split <;> simp <;> omega
theorem digit_none {b : UInt8} (h : ¬ (48 ≤ (b.toNat : Int) ∧ (b.toNat : Int) ≤ 57)) : digitVal b = none := by
  unfold digitVal
  rw [if_neg (by omega)]
theorem byt_get {w : ByteArray} {k : Nat} (h : k < w.size) : ∃ b, w.data.toList[k]? = some b ∧ byt w k = b.toNat := by
  have hl : k < w.data.toList.length := h
  refine ⟨_, List.getElem?_eq_getElem hl, ?_⟩
  unfold byt
  rw [Int.toNat_natCast, List.getD_eq_getElem?_getD, List.getElem?_eq_getElem hl]
  rfl
theorem dec_some {w : ByteArray} : ∀ k : Nat, k ≤ w.size → (∀ j : Int, 0 ≤ j → j < k → 48 ≤ byt w j ∧ byt w j ≤ 57) → ∃ n : Nat, decFrom 0 (w.data.toList.take k) = some n ∧ (n : Int) = val10 w k
  | 0, _, _ => ⟨0, rfl, rfl⟩
  | k + 1, hk, pre => by
    obtain ⟨n, h1, h2⟩ := dec_some k (by omega) fun j a b => pre j a (by omega)
    obtain ⟨b, hb, hv⟩ := byt_get (w := w) (k := k) (by omega)
    have hd := pre k (by omega) (by omega)
    rw [hv] at hd
    refine ⟨n * 10 + (b.toNat - 48), decFrom_take _ k 0 n b _ h1 hb (digit_iff.1 hd), ?_⟩
    rw [val10, ← h2, hv]
    omega
theorem dec_none : ∀ (l : List UInt8) (acc : Nat), (∃ b, b ∈ l ∧ digitVal b = none) → decFrom acc l = none
  | [], _, ⟨b, hb, _⟩ => by cases hb
  | a :: l, acc, ⟨b, hb, hd⟩ => by
    rw [decFrom]
    rcases List.mem_cons.1 hb with e | e
    · subst e; rw [hd]
    · cases ha : digitVal a with
      | none => rfl
      | some d => exact dec_none l _ ⟨b, e, hd⟩
theorem dec_all {w : ByteArray} (h : digP w) : ∃ n : Nat, decFrom 0 w.data.toList = some n ∧ (n : Int) = val10 w w.size := by
  have := dec_some (w := w) w.size (Nat.le_refl _) h
  rwa [List.take_of_length_le (Nat.le_of_eq (blen w))] at this
theorem dec_not {w : ByteArray} (h : ¬ digP w) : decFrom 0 w.data.toList = none := by
  have : ∃ j : Nat, j < w.size ∧ ¬ (48 ≤ byt w j ∧ byt w j ≤ 57) := by
    apply Classical.byContradiction
    intro hh
    refine h fun j h0 h1 => ?_
    apply Classical.byContradiction
    intro hx
    exact hh ⟨j.toNat, by omega, by rw [show ((j.toNat : Nat) : Int) = j by omega]; exact hx⟩
  obtain ⟨j, hj, hx⟩ := this
  obtain ⟨b, hb, hv⟩ := byt_get hj
  rw [hv] at hx
  exact dec_none _ _ ⟨b, List.mem_of_getElem? hb, digit_none hx⟩
theorem ba_ext {p q : ByteArray} (h : p.data.toList = q.data.toList) : p = q := by
  cases p; cases q
  simp only [ByteArray.mk.injEq]
  exact Array.toList_inj.1 h
theorem head_minus {s : ByteArray} : (0 < s.size ∧ byt s 0 = 45) ↔ ∃ t, s.data.toList = 45 :: t := by
  constructor
  · rintro ⟨h, hv⟩
    obtain ⟨b, hb, he⟩ := byt_get (w := s) (k := 0) h
    have : b = 45 := by
      apply UInt8.toNat_inj.1
      have h3 : byt s ((0 : Nat) : Int) = byt s 0 := rfl
      rw [h3, hv] at he
      show b.toNat = 45
      omega
    subst this
    cases hl : s.data.toList with
    | nil => rw [hl] at hb; cases hb
    | cons a t => rw [hl] at hb; simp at hb; subst hb; exact ⟨t, rfl⟩
  · rintro ⟨t, h⟩
    have hs : s.size = t.length + 1 := by rw [← blen, h]; rfl
    refine ⟨by omega, ?_⟩
    unfold byt
    rw [h]; rfl
theorem trim_T {s : ByteArray} {t : List UInt8} (h : s.data.toList = 45 :: t) : (trimM s).data.toList = t := by
  simp [trimM, trimPrefix, h, hasPrefix]
theorem trim_F {s : ByteArray} (h : ¬ ∃ t, s.data.toList = 45 :: t) : trimM s = s := by
  apply ba_ext
  have : hasPrefix s.data.toList [45] = false := by
    cases hl : s.data.toList with
    | nil => simp [hasPrefix]
    | cons a r =>
      have : a ≠ 45 := fun e => h ⟨r, by rw [hl, e]⟩
      simp [hasPrefix, List.isPrefixOf, Ne.symm this]
  simp [trimM, trimPrefix, this]
theorem num_zero : R_lex_Number ⟨#[48]⟩ = ((0 : Int), true) := by kernel_rfl
theorem num_core {s w : ByteArray} {neg : Bool} (htr : trimM s = w) (hz : s = ⟨#[48]⟩ ↔ (w = ⟨#[48]⟩ ∧ neg = false))
    (hat : 1 ≤ w.size → 48 ≤ byt w 0 → atoi s.data.toList = (decFrom 0 w.data.toList).map fun m : Nat => if neg = true then -(m : Int) else m) : num14w neg w = R_lex_Number s := by
  by_cases z : s = ⟨#[48]⟩
  · have hw := hz.1 z
    subst z
    rw [hw.2, hw.1, w_zero rfl, num_zero]
  · have hnz : ¬ (w = ⟨#[48]⟩ ∧ neg = false) := fun e => z (hz.2 e)
    unfold R_lex_Number
    rw [htr]
    by_cases h0 : (w.size : Int) = 0
    · rw [if_pos h0, w_bad hnz (by omega)]
    · rw [if_neg h0]
      by_cases h6 : (w.size : Int) > 6
      · rw [if_pos h6, w_bad hnz (by omega)]
      · rw [if_neg h6]
        by_cases hb : byt w 0 < 48
        · rw [if_pos hb, w_nodig (i := 0) hnz (by omega) (by omega) (by omega) (by omega)]
        · rw [if_neg hb]
          by_cases hb2 : byt w 0 > 57
          · rw [if_pos hb2, w_nodig (i := 0) hnz (by omega) (by omega) (by omega) (by omega)]
          · rw [if_neg hb2]
            by_cases he : byt w 0 = 48
            · rw [if_pos he, if_neg z, w_bad hnz (by omega)]
            · rw [if_neg he]
              have ha := hat (by omega) (by omega)
              by_cases hd : digP w
              · obtain ⟨n, e1, e2⟩ := dec_all hd
                rw [e1] at ha
                simp only [Option.map_some] at ha
                rw [if_neg (by rw [ha]; simp), w_ok (i := (w.size : Int)) hnz (by omega) (by omega) (by omega) (fun j a b => hd j a b)]
                unfold atoiV
                rw [ha, Int.toNat_natCast, ← e2]
                rfl
              · rw [dec_not hd] at ha
                simp only [Option.map_none] at ha
                rw [if_pos ha]
                have : ∃ j : Int, 0 ≤ j ∧ j < w.size ∧ ¬ (48 ≤ byt w j ∧ byt w j ≤ 57) := by
                  apply Classical.byContradiction
                  intro hh
                  refine hd fun j h0 h1 => ?_
                  apply Classical.byContradiction
                  intro hx
                  exact hh ⟨j, h0, h1, hx⟩
                obtain ⟨j, j0, j1, jx⟩ := this
                rw [w_nodig hnz (by omega) j0 j1 jx]
theorem num_same (s : ByteArray) : num14 s = R_lex_Number s := by
  by_cases h : 0 < s.size ∧ byt s 0 = 45
  · obtain ⟨t, ht⟩ := head_minus.1 h
    rw [num14_T h]
    have hw : trimM s = s.extract (1 : Int).toNat (s.size : Int).toNat := by
      apply ba_ext
      rw [trim_T ht, Lib.extract_data, ht]
      have : s.size = t.length + 1 := by rw [← blen, ht]; rfl
      simp [this]
    refine num_core hw ⟨fun e => ?_, fun e => by cases e.2⟩ fun h1 h2 => ?_
    · subst e; simp at ht
    · rw [← hw, trim_T ht, ht]
      have hne : t ≠ [] := by
        intro e
        rw [← hw] at h1
        have := blen (trimM s)
        rw [trim_T ht, e] at this
        simp at this
        omega
      simp [atoi, decNat, hne]
  · rw [num14_F h]
    have ht := fun e => h (head_minus.2 e)
    refine num_core (trim_F ht) ⟨fun e => ⟨e, rfl⟩, fun e => e.1⟩ fun h1 h2 => ?_
    cases hl : s.data.toList with
    | nil =>
      have := blen s
      rw [hl] at this
      simp at this
      omega
    | cons a r =>
      have hv : byt s 0 = a.toNat := by unfold byt; rw [hl]; rfl
      have n1 : a ≠ 45 := fun e => ht ⟨r, by rw [hl, e]⟩
      have n2 : a ≠ 43 := fun e => by rw [hv, e] at h2; exact absurd h2 (by decide)
      simp [atoi, decNat, n1, n2]
end Go.Proofs.L
namespace Go.Proofs.L
open Go Go.AH Go.Lib
set_option maxRecDepth 4000
set_option linter.unusedSectionVars false
variable [LexG]
abbrev toI (b : UInt8) : Int := (b.toNat : Int)
def flush (wd : List Int) : List ByteArray := if 0 < (wd.length : Int) then [bytesB wd] else []
def wordsFrom : List Int → Bool → List UInt8 → List ByteArray
  | wd, _, [] => flush wd
  | wd, true, _ :: _ => flush wd
  | wd, false, b :: p => if b = 35 then flush wd else if b = 32 then flush wd ++ wordsFrom [] false p else wordsFrom (wd ++ [toI b]) false p
def lineIf (no : Int) (ws : List ByteArray) : List LineT := if 0 < (ws.length : Int) then [⟨no, ws⟩] else []
def badP (p : List UInt8) : Bool := p.any fun b => decide (b.toNat < 32 ∨ 126 < b.toNat)
def scanQ : List (List UInt8) → RS → List LineT × Int × Int
  | [], σ => (σ.out, 0, 0)
  | p :: r, σ => if badP p = true then ([], σ.no, 10) else scanQ r ⟨σ.out ++ lineIf σ.no (σ.ws ++ wordsFrom σ.wd σ.rem p), σ.no + 1, [], [], false⟩
theorem toI_eq {b c : UInt8} : toI b = toI c ↔ b = c := ⟨fun h => UInt8.toNat_inj.1 (by have h' : (b.toNat : Int) = c.toNat := h; omega), fun h => by rw [h]⟩
theorem bad_iff {b : UInt8} (h : b ≠ 10) : badB (toI b) ↔ (b.toNat < 32 ∨ 126 < b.toNat) := by
  unfold badB
  have : toI b ≠ 10 := fun e => h (toI_eq.1 (e.trans rfl))
  simp only [toI] at *
  omega
theorem step_nl (σ : RS) : stepR 10 σ = ⟨σ.out ++ lineIf σ.no (σ.ws ++ flush σ.wd), σ.no + 1, [], [], false⟩ := by
  by_cases h : 0 < (σ.wd.length : Int)
  · have e1 := eq_true h
    simp only [stepR, lineIf, flush, decide_true, Bool.true_or, if_true, e1]
    split <;> simp
  · have e1 := eq_false h
    simp only [stepR, lineIf, flush, decide_true, Bool.true_or, if_true, e1, if_false, List.append_nil]
    split <;> simp
theorem step_in {b : UInt8} (hb : b ≠ 10) (σ : RS) (p : List UInt8) : (stepR (toI b) σ).out = σ.out ∧ (stepR (toI b) σ).no = σ.no ∧ (stepR (toI b) σ).ws ++ wordsFrom (stepR (toI b) σ).wd (stepR (toI b) σ).rem p = σ.ws ++ wordsFrom σ.wd σ.rem (b :: p) := by
  have h10 : ¬ toI b = 10 := fun e => hb (toI_eq.1 (e.trans rfl))
  obtain ⟨out, no, ws, wd, rem⟩ := σ
  have fl : ∀ rem', wordsFrom [] rem' p = wordsFrom [] rem' p := fun _ => rfl
  cases rem with
  | true =>
    have hw : ∀ q, wordsFrom [] true q = [] := fun q => by cases q <;> rfl
    simp only [stepR, h10, decide_false, Bool.false_or, Bool.true_or, Bool.or_true, if_true, Bool.false_eq_true, if_false, hw, wordsFrom, flush, List.append_nil, true_and]
    split <;> simp
  | false =>
    by_cases h35 : b = 35
    · have hw : ∀ q, wordsFrom [] true q = [] := fun q => by cases q <;> rfl
      subst h35
      simp only [stepR, wordsFrom, flush]
      have e : (toI 35 = 35) = True := eq_true rfl
      simp only [h10, e, decide_false, decide_true, Bool.false_or, Bool.or_true, if_true, Bool.false_eq_true, if_false, hw, List.append_nil, true_and]
      split <;> simp
    · have e35 : ¬ toI b = 35 := fun e => h35 (toI_eq.1 (e.trans rfl))
      by_cases h32 : b = 32
      · subst h32
        have e : (toI 32 = 32) = True := eq_true rfl
        simp only [stepR, wordsFrom, h10, e35, e, decide_false, decide_true, Bool.false_or, Bool.true_or, Bool.or_true, Bool.or_false, if_true, Bool.false_eq_true, if_false, true_and, if_neg h35, flush]
        split <;> simp
      · have e32 : ¬ toI b = 32 := fun e => h32 (toI_eq.1 (e.trans rfl))
        simp only [stepR, wordsFrom, h10, e35, e32, decide_false, Bool.false_or, Bool.or_false, Bool.false_eq_true, if_false, true_and, if_neg h35, if_neg h32]
theorem ref_scanQ : ∀ (l : List UInt8) (σ : RS), refGo (l.map toI ++ [10]) σ = scanQ (pcs l) σ
  | [], σ => by
    simp only [List.map_nil, List.nil_append, pcs, scanQ, badP, List.any_nil, Bool.false_eq_true, if_false, refGo, wordsFrom]
    rw [if_neg (by decide), step_nl]
  | b :: l, σ => by
    rw [List.map_cons, List.cons_append, refGo]
    by_cases hb : b = 10
    · subst hb
      rw [if_neg (by decide), pcs, if_pos rfl, scanQ]
      simp only [badP, List.any_nil, Bool.false_eq_true, if_false, wordsFrom]
      rw [ref_scanQ l, show toI 10 = 10 from rfl, step_nl]
    · obtain ⟨p, r, hp⟩ : ∃ p r, pcs l = p :: r := by
        cases hp : pcs l with
        | nil => exact absurd hp (pcs_ne l)
        | cons p r => exact ⟨p, r, rfl⟩
      have hq : pcs (b :: l) = (b :: p) :: r := by rw [pcs, if_neg hb, hp]; rfl
      rw [hq, scanQ]
      by_cases hx : badB (toI b)
      · rw [if_pos hx, if_pos (by simp [badP, (bad_iff hb).1 hx])]
      · rw [if_neg hx, ref_scanQ l, hp, scanQ]
        obtain ⟨a1, a2, a3⟩ := step_in hb σ p
        have hx' := fun e => hx ((bad_iff hb).2 e)
        rw [a1, a2, a3]
        have : badP (b :: p) = badP p := by
          unfold badP
          rw [List.any_cons, decide_eq_false hx', Bool.false_or]
        rw [this]
def takeH (p : List UInt8) : List UInt8 := p.takeWhile fun b => decide (b ≠ 35)
theorem cut_takeH : ∀ p : List UInt8, (cut p [35]).1 = takeH p
  | [] => by simp [cut, index, takeH]
  | b :: p => by
    have ih := cut_takeH p
    unfold takeH at ih ⊢
    unfold cut at ih ⊢
    rw [index]
    by_cases hb : b = 35
    · subst hb; simp
    · have hp : ([35] : List UInt8).isPrefixOf (b :: p) = false := by simp [List.isPrefixOf, Ne.symm hb]
      rw [hp]
      simp only [Bool.false_eq_true, if_false, List.takeWhile_cons, hb, ne_eq, not_false_eq_true, decide_true, if_true]
      have hge := index_ge p [35]
      by_cases hi : index p [35] = -1
      · rw [hi] at ih ⊢
        simp at ih ⊢
        exact ih
      · have e : (if (index p [35] == -1) = true then (-1 : Int) else index p [35] + 1) = index p [35] + 1 := if_neg (by simpa using hi)
        rw [e, if_pos (by omega)]
        rw [if_pos (by omega)] at ih
        rw [show (index p [35] + 1).toNat = (index p [35]).toNat + 1 by omega, List.take_succ_cons]
        simp only
        simp only at ih
        rw [ih]
theorem bytesB_toI (c : List UInt8) : bytesB (c.map toI) = ⟨c.toArray⟩ := by
  unfold bytesB
  simp [List.map_map, Function.comp_def]
theorem flush_toI (c : List UInt8) : flush (c.map toI) = (if c.isEmpty then [] else [c]).map fun l => ⟨l.toArray⟩ := by
  unfold flush
  cases c with
  | nil => simp
  | cons a r =>
    rw [if_pos (by simp <;> omega), bytesB_toI]
    rfl
theorem sp_iff {b : UInt8} (h : 32 ≤ b.toNat) : isSp b = decide (b = 32) := by
  have hne : ∀ c : UInt8, c.toNat < 32 → (b == c) = false := fun c hc => by
    simp only [beq_eq_false_iff_ne]
    rintro rfl
    omega
  unfold isSp
  rw [hne 9 (by decide), hne 10 (by decide), hne 11 (by decide), hne 12 (by decide), hne 13 (by decide)]
  simp only [Bool.false_or]
  rfl
theorem words_from : ∀ (p c : List UInt8), badP p = false → wordsFrom (c.map toI) false p = (fieldsGo c (takeH p)).map fun l => ⟨l.toArray⟩
  | [], c, _ => by rw [wordsFrom, flush_toI]; rfl
  | b :: p, c, h => by
    unfold badP at h
    rw [List.any_cons, Bool.or_eq_false_iff] at h
    have hb : 32 ≤ b.toNat := by have := of_decide_eq_false h.1; omega
    have ih := fun c => words_from p c h.2
    rw [wordsFrom]
    by_cases h35 : b = 35
    · subst h35
      rw [if_pos rfl, flush_toI]
      rfl
    · have hT : takeH (b :: p) = b :: takeH p := by simp [takeH, h35]
      rw [if_neg h35, hT, fieldsGo, sp_iff hb]
      by_cases h32 : b = 32
      · rw [if_pos h32, decide_eq_true h32, if_pos rfl, flush_toI]
        have := ih []
        simp only [List.map_nil] at this
        rw [this]
        cases c with
        | nil => simp
        | cons a r => simp
      · rw [if_neg h32, decide_eq_false h32, if_neg (by simp)]
        have := ih (c ++ [b])
        rw [List.map_append, List.map_cons, List.map_nil] at this
        exact this
theorem badP_iff {p : ByteArray} : badP p.data.toList = true ↔ 0 ≤ idxR p := by
  have h1 : idxR p < 0 ↔ badP p.data.toList = false := by
    rw [idxR_neg]
    constructor
    · intro h
      unfold badP
      rw [List.any_eq_false]
      intro b hb
      have := okB_mem h hb
      simp; omega
    · intro h j hj
      obtain ⟨b, hb, hv⟩ := byt_get hj
      unfold badP at h
      rw [List.any_eq_false] at h
      have := h b (List.mem_of_getElem? hb)
      simp at this
      rw [hv]; omega
  cases hb : badP p.data.toList with
  | true =>
    have hn : ¬ idxR p < 0 := fun e => by
      rw [h1.1 e] at hb
      cases hb
    exact ⟨fun _ => by omega, fun _ => rfl⟩
  | false =>
    have := h1.2 hb
    exact ⟨fun h => (by cases h), fun h => (by omega)⟩
theorem line_same {p : ByteArray} (h : badP p.data.toList = false) (i : Int) : lineOf i p = lineIf (i + 1) (wordsFrom [] false p.data.toList) := by
  have := words_from p.data.toList [] h
  simp only [List.map_nil] at this
  rw [this, ← cut_takeH]
  have e : wordsB (cut1 p) = (fieldsGo [] (cut p.data.toList [35]).1).map fun l => ⟨l.toArray⟩ := by simp [wordsB, cut1, fields]
  unfold lineOf lineIf
  rw [e]
theorem scan_same : ∀ (ps : List ByteArray) (i : Int) (out : List LineT), scanL ps i out = scanQ (ps.map (·.data.toList)) ⟨out, i + 1, [], [], false⟩
  | [], _, _ => rfl
  | p :: r, i, out => by
    rw [scanL, List.map_cons, scanQ]
    by_cases h : badP p.data.toList = true
    · rw [if_pos (badP_iff.1 h), if_pos h]
    · rw [if_neg fun e => h (badP_iff.2 e), if_neg h, scan_same r, line_same (by simpa using h), List.nil_append]
theorem lines_same (s : ByteArray) : linesR s = refR s := by
  unfold linesR refR
  split
  · rfl
  · rw [scan_same, pieces_pcs, bytesL, ref_scanQ]
    rfl
theorem cntF_le : ∀ (l : List UInt8) (w : Bool), cntF w l ≤ l.length
  | [], _ => by simp [cntF]
  | b :: l, w => by
    have := cntF_le l (isSp b)
    unfold cntF
    split <;> simp <;> omega
theorem words_le (p : ByteArray) : (wordsB p).length ≤ p.size := by
  have h1 : (wordsB p).length = (fields p.data.toList).length := by simp [wordsB]
  rw [h1, fields_length]
  exact cntF_le _ _
theorem scan_len : ∀ (ps : List ByteArray) (i : Int) (out : List LineT), (scanL ps i out).1.length ≤ out.length + ps.length
  | [], _, out => by simp [scanL]
  | p :: r, i, out => by
    rw [scanL]
    split
    · simp
    · have := scan_len r (i + 1) (out ++ lineOf i p)
      have hl : (lineOf i p).length ≤ 1 := by unfold lineOf; split <;> simp
      rw [List.length_append] at this
      simp only [List.length_cons]
      omega
theorem lines_len' (s : ByteArray) : (linesR s).1.length ≤ 65537 := by
  unfold linesR
  split
  · simp
  · have := scan_len (pieces s) 0 []
    have h2 := pieces_len s
    simp at this
    omega
theorem lines_len (s : ByteArray) : (linesR s).1.length ≤ 1048576 := by have := lines_len' s; omega
theorem scan_words : ∀ (ps : List ByteArray) (i : Int) (out : List LineT) (m : Nat), (∀ p ∈ ps, p.size ≤ m) → (∀ x ∈ out, x.Words.length ≤ m) → ∀ x ∈ (scanL ps i out).1, x.Words.length ≤ m
  | [], _, out, m, _, h => h
  | p :: r, i, out, m, hp, h => by
    rw [scanL]
    split
    · intro x hx; cases hx
    · refine scan_words r _ _ m (fun q hq => hp q (List.mem_cons_of_mem _ hq)) fun x hx => ?_
      rcases List.mem_append.1 hx with e | e
      · exact h x e
      · unfold lineOf at e
        split at e
        · rw [List.mem_singleton] at e
          subst e
          have h1 := words_le (cut1 p)
          have h2 := cut1_size p
          have h3 := hp p (List.mem_cons_self ..)
          show (wordsB (cut1 p)).length ≤ m
          omega
        · cases e
theorem lines_words (s : ByteArray) : ∀ x ∈ (linesR s).1, x.Words.length ≤ 1048576 := by
  unfold linesR
  split
  · intro x hx; cases hx
  · refine scan_words _ _ _ 1048576 (fun p hp => ?_) (fun x hx => by cases hx)
    have := pcs_sub s.data.toList p.data.toList (by rw [← pieces_pcs]; exact List.mem_map.2 ⟨_, hp, rfl⟩)
    have h2 : p.size ≤ s.size := this
    omega
end Go.Proofs.L
namespace Go.Proofs.L
open Go Go.AH Go.Lib
set_option maxRecDepth 4000
set_option linter.unusedSectionVars false
variable [LexG]
end Go.Proofs.L
namespace Go.Proofs.L
open Go Go.AH Go.Lib
set_option maxRecDepth 4000
set_option linter.unusedSectionVars false
variable [LexG]
end Go.Proofs.L
namespace Go.Proofs.S
open Go Go.AH Go.Proofs.L
set_option linter.unusedSectionVars false
variable [LexG]
theorem nums_drop (w : List ByteArray) (h : 1 ≤ w.length) : ((numsL (w.drop 1)).length : Int) = (w.length : Int) - 1 := by rw [numsL_len, List.length_drop]; omega
theorem mul_rng {x k A C : Int} (hx : -A ≤ x ∧ x ≤ A) (hk : -C ≤ k ∧ k ≤ C) : -(A * C) ≤ x * k ∧ x * k ≤ A * C := by
  have hA : 0 ≤ A := by omega
  have hC : 0 ≤ C := by omega
  have h1 : x.natAbs ≤ A.natAbs := by omega
  have h2 : k.natAbs ≤ C.natAbs := by omega
  have h3 := Nat.mul_le_mul h1 h2
  rw [← Int.natAbs_mul, ← Int.natAbs_mul] at h3
  have h4 : ((A * C).natAbs : Int) = A * C := Int.natAbs_of_nonneg (Int.mul_nonneg hA hC)
  omega
theorem lowI (l : List Int) : LowA (.sl l.length (l.map eI)) := .sl _ _ fun x hx => by
  obtain ⟨y, _, rfl⟩ := List.mem_map.1 hx; exact .int _ _
theorem low_Tex (l : List TexT) : ∀ x ∈ l.flatMap eTex, LowA x := fun x hx => by
  obtain ⟨t, _, ht⟩ := List.mem_flatMap.1 hx
  simp only [eTex, List.mem_cons, List.not_mem_nil, or_false] at ht
  rcases ht with rfl | rfl | rfl | rfl
  · exact .str _
  · exact .int _ _
  · exact .int _ _
  · exact lowI _
theorem low_Mat (l : List MatT) : ∀ x ∈ l.flatMap eMat, LowA x := fun x hx => by
  obtain ⟨t, _, ht⟩ := List.mem_flatMap.1 hx
  simp only [eMat, List.mem_cons, List.not_mem_nil, or_false] at ht
  rcases ht with rfl | rfl | rfl | rfl | rfl | rfl | rfl | rfl | rfl
  · exact .str _
  all_goals exact .int _ _
theorem low_Skin (l : List SkinT) : ∀ x ∈ l.flatMap eSkin, LowA x := fun x hx => by
  obtain ⟨t, _, ht⟩ := List.mem_flatMap.1 hx
  simp only [eSkin, List.mem_cons, List.not_mem_nil, or_false] at ht
  rcases ht with rfl | rfl | rfl | rfl | rfl | rfl
  · exact .str _
  all_goals exact .int _ _
theorem num14w_rng (neg : Bool) (w : ByteArray) : -999999 ≤ (num14w neg w).1 ∧ (num14w neg w).1 ≤ 999999 := by
  unfold num14w
  split
  · simp
  · rename_i h
    split
    · simp
    · rename_i h2
      have h2 : 1 ≤ w.size ∧ w.size ≤ 6 ∧ byt w 0 ≠ 48 := Classical.not_not.1 h2
      split
      · rename_i h3
        have := val10_rng6 (w := w) (i := w.size) (by omega) (by omega) (digB_iff.1 h3)
        simp only [Int.toNat_natCast] at this
        split <;> simp only <;> omega
      · simp
theorem num14_rng (x : ByteArray) : -999999 ≤ (num14 x).1 ∧ (num14 x).1 ≤ 999999 := by
  unfold num14
  split
  · exact num14w_rng _ _
  · exact num14w_rng _ _
theorem num_rng (x : ByteArray) : -999999 ≤ (R_lex_Number x).1 ∧ (R_lex_Number x).1 ≤ 999999 := by
  rw [← num_same]
  exact num14_rng x
theorem nums_rng (w : List ByteArray) : ∀ i : Int, 0 ≤ i → i < ((numsL w).length : Int) → -999999 ≤ at_ (numsL w) i ∧ at_ (numsL w) i ≤ 999999 := fun i h0 h1 => by
  have : at_ (numsL w) i ∈ numsL w := by rw [at_get h0 h1]; exact List.getElem_mem _
  obtain ⟨x, _, hx⟩ := List.mem_map.1 this
  rw [← hx]; exact num_rng x
end Go.Proofs.S
namespace Go.Proofs.S
open Go Go.AH Go.Proofs.L
set_option maxRecDepth 4000
set_option maxHeartbeats 4000000
set_option linter.unusedSimpArgs false
set_option linter.unusedVariables false
set_option linter.unusedSectionVars false
variable [LexG]
theorem c_xTex {B H0 : Heap} {id ver : Nat} {cam : CamT} {sky : ColT} {vL vM vT vS vC : AV} {hc hs : Bool} {l : List TexT} (hrow : H0 id = some (.row ver (rdC cam sky vL vM vT vS vC hc hs))) (ho : Own B H0 4 vT l.length (l.flatMap eTex)) (hl : l.length ≤ 1048576) (x : ByteArray) : ACalls Tryz.prog 83 [.ptr id ver 0, .str x] H0 fun r H' => r = (.int .i64 (idxN (l.map TexT.Name) x)) ∧ Mono H0 H' := by
 refine ACalls.of_body' (n := 12) rfl rfl rfl rfl ?_
 have m0 := Mono.refl H0
 refine Sr ?_
 refine C rfl (bx_ (.str x) rfl rfl rfl ?_)
 intro i1 H2 n3 h4 k5
 have e6 := ne_new hrow n3
 have z7 := Mono.free m0 n3
 have h8 := keep k5 (ne_new hrow n3) hrow
 have m9 := Mono.new m0 n3 k5
 refine A rfl rfl ?_
 refine AWP.seq ?_
 refine fz_ 3 h4 z7 rfl m9 fun H10 m11 k12 => ?_
 have h13 := (k12 _ e6).trans h8
 refine AWP.region rfl ?_
 refine V rfl rfl (C rfl (nc_ (.ptr id ver 0) rfl rfl rfl ?_))
 refine C rfl (Fa rfl rfl fl_56_0 ?_ (hid := ⟨_, h13⟩))
 refine C rfl (Fa rfl rfl fl_35_4 ?_ (hid := ⟨_, h13⟩))
 refine C rfl (Ld _ rfl rfl ty_31 h13 rfl (C rfl (AOp.makeFunc (cs := [.fptr [.str x] 0]) rfl rfl (C rfl (AOp.pcallH («as» := [vT, .fn 106 [.fptr [.str x] 0]]) rfl rfl (rfl) tf_105 (((PC.own2 (fun _ => rfl) (c_idxTex l x hl) (ho.mono m11) (low_Tex l) (.fn _ _ fun y hy => (by simp at hy; subst hy; exact .fptr _ _ fun z hz => (by simp at hz; subst hz; exact .str _)))).mono fun _ _ h => ⟨h.1, h.2 ▸ Mono.refl _⟩)) ?_)))))
 intro H14 m15
 have m17 := m11.trans m15
 refine A rfl rfl ?_
 refine rt_ ?_
 refine Rr (Res.one rfl rfl) ?_ m17
 exact rfl
theorem c_xMat {B H0 : Heap} {id ver : Nat} {cam : CamT} {sky : ColT} {vL vM vT vS vC : AV} {hc hs : Bool} {l : List MatT} (hrow : H0 id = some (.row ver (rdC cam sky vL vM vT vS vC hc hs))) (ho : Own B H0 9 vM l.length (l.flatMap eMat)) (hl : l.length ≤ 1048576) (x : ByteArray) : ACalls Tryz.prog 84 [.ptr id ver 0, .str x] H0 fun r H' => r = (.int .i64 (idxN (l.map MatT.Name) x)) ∧ Mono H0 H' := by
 refine ACalls.of_body' (n := 12) rfl rfl rfl rfl ?_
 have m0 := Mono.refl H0
 refine Sr ?_
 refine C rfl (bx_ (.str x) rfl rfl rfl ?_)
 intro i1 H2 n3 h4 k5
 have e6 := ne_new hrow n3
 have z7 := Mono.free m0 n3
 have h8 := keep k5 (ne_new hrow n3) hrow
 have m9 := Mono.new m0 n3 k5
 refine A rfl rfl ?_
 refine AWP.seq ?_
 refine fz_ 3 h4 z7 rfl m9 fun H10 m11 k12 => ?_
 have h13 := (k12 _ e6).trans h8
 refine AWP.region rfl ?_
 refine V rfl rfl (C rfl (nc_ (.ptr id ver 0) rfl rfl rfl ?_))
 refine C rfl (Fa rfl rfl fl_56_0 ?_ (hid := ⟨_, h13⟩))
 refine C rfl (Fa rfl rfl fl_35_3 ?_ (hid := ⟨_, h13⟩))
 refine C rfl (Ld _ rfl rfl ty_30 h13 rfl (C rfl (AOp.makeFunc (cs := [.fptr [.str x] 0]) rfl rfl (C rfl (AOp.pcallH («as» := [vM, .fn 108 [.fptr [.str x] 0]]) rfl rfl (rfl) tf_107 (((PC.own2 (fun _ => rfl) (c_idxMat l x hl) (ho.mono m11) (low_Mat l) (.fn _ _ fun y hy => (by simp at hy; subst hy; exact .fptr _ _ fun z hz => (by simp at hz; subst hz; exact .str _)))).mono fun _ _ h => ⟨h.1, h.2 ▸ Mono.refl _⟩)) ?_)))))
 intro H14 m15
 have m17 := m11.trans m15
 refine A rfl rfl ?_
 refine rt_ ?_
 refine Rr (Res.one rfl rfl) ?_ m17
 exact rfl
theorem c_xSkin {B H0 : Heap} {id ver : Nat} {cam : CamT} {sky : ColT} {vL vM vT vS vC : AV} {hc hs : Bool} {l : List SkinT} (hrow : H0 id = some (.row ver (rdC cam sky vL vM vT vS vC hc hs))) (ho : Own B H0 6 vS l.length (l.flatMap eSkin)) (hl : l.length ≤ 1048576) (x : ByteArray) : ACalls Tryz.prog 86 [.ptr id ver 0, .str x] H0 fun r H' => r = (.int .i64 (idxN (l.map SkinT.Name) x)) ∧ Mono H0 H' := by
 refine ACalls.of_body' (n := 12) rfl rfl rfl rfl ?_
 have m0 := Mono.refl H0
 refine Sr ?_
 refine C rfl (bx_ (.str x) rfl rfl rfl ?_)
 intro i1 H2 n3 h4 k5
 have e6 := ne_new hrow n3
 have z7 := Mono.free m0 n3
 have h8 := keep k5 (ne_new hrow n3) hrow
 have m9 := Mono.new m0 n3 k5
 refine A rfl rfl ?_
 refine AWP.seq ?_
 refine fz_ 3 h4 z7 rfl m9 fun H10 m11 k12 => ?_
 have h13 := (k12 _ e6).trans h8
 refine AWP.region rfl ?_
 refine V rfl rfl (C rfl (nc_ (.ptr id ver 0) rfl rfl rfl ?_))
 refine C rfl (Fa rfl rfl fl_56_0 ?_ (hid := ⟨_, h13⟩))
 refine C rfl (Fa rfl rfl fl_35_5 ?_ (hid := ⟨_, h13⟩))
 refine C rfl (Ld _ rfl rfl ty_32 h13 rfl (C rfl (AOp.makeFunc (cs := [.fptr [.str x] 0]) rfl rfl (C rfl (AOp.pcallH («as» := [vS, .fn 110 [.fptr [.str x] 0]]) rfl rfl (rfl) tf_109 (((PC.own2 (fun _ => rfl) (c_idxSkin l x hl) (ho.mono m11) (low_Skin l) (.fn _ _ fun y hy => (by simp at hy; subst hy; exact .fptr _ _ fun z hz => (by simp at hz; subst hz; exact .str _)))).mono fun _ _ h => ⟨h.1, h.2 ▸ Mono.refl _⟩)) ?_)))))
 intro H14 m15
 have m17 := m11.trans m15
 refine A rfl rfl ?_
 refine rt_ ?_
 refine Rr (Res.one rfl rfl) ?_ m17
 exact rfl
theorem c_readCamera {B H0 : Heap} {id ver : Nat} {s : Rd} (hm : Mono B H0) (hs : RD B H0 id ver s) (ok : RdOk s) (w : List ByteArray) (hw : w.length ≤ 1048576) : ACallsX Tryz.prog 32 [.ptr id ver 0, .sl w.length (w.map eStr)] H0 (fun r H' => ∃ t, cameraP s w = .ok t ∧ RD B H' id ver t ∧ Mono B H' ∧ r = .tup []) (fun ch H' => ∃ k, cameraP s w = .error k ∧ ch = pan 36 k ∧ Mono B H') := by
 obtain ⟨vL, vM, vT, vS, vC, vV, vF, vK, hrow, hB, hg, hn⟩ := hs
 refine ACallsX.of_body' (n := 63) rfl rfl rfl rfl ?_
 have m0 := hm
 refine AWP.seq ?_
 refine AWP.regionX (l := [0, 1, 2]) rfl ?_
 refine AOpsX.cons rfl rfl (AOp.move (.sl w.length (w.map eStr)) rfl rfl ?_)
 refine AOpsX.consX rfl rfl (AOpX.need (b := cntB w 16) (k := 10) (as_ := [.sl w.length (w.map eStr), .int .i64 16]) rfl rfl (rfl) tf_76 (c_counted w (by first | omega | assumption | (simp only [List.length_drop, List.length_take]; omega) | (simp; omega) | simp) _) ?_ (fun hb _ m2 => Or.inr ⟨_, rfl, _, gF hb, rfl, m0.trans m2⟩))
 intro hb1 H2 m3
 have h4 := m3 _ _ hrow
 have o5 := MO.mono hg m3
 have m6 := m0.trans m3
 have hl7 := cnt_len hb1
 refine AOpsX.cons rfl rfl (AOp.assign (.sl (numsL w).length ((numsL w).map eI)) rfl rfl ?_)
 refine AOpsX.nil ?_
 change AWP _ _ _ _ _ _
 refine AWP.seq ?_
 refine AWP.regionX (l := [0, 1, 2, 3, 4, 5]) rfl ?_
 refine AOpsX.cons rfl rfl (AOp.move (.ptr id ver 0) rfl rfl ?_)
 refine AOpsX.cons rfl rfl (AOp.nilCheck (.ptr id ver 0) rfl rfl rfl ?_)
 refine AOpsX.cons rfl rfl (AOp.fieldAddr rfl rfl fl_56_1 ?_ (hid := ⟨_, h4⟩))
 refine AOpsX.cons rfl rfl (AOp.load (.bool s.hc) rfl rfl ty_4 h4 rfl ?_)
 refine AOpsX.cons rfl rfl (AOp.not rfl rfl ?_)
 refine AOpsX.consX rfl rfl (AOpX.need (b := !s.hc) (k := 12) (as_ := [.bool (!s.hc), .int .i64 12]) rfl rfl (rfl) tf_77 (c_need _ _) ?_ (fun hb _ m2 => Or.inr ⟨_, rfl, _, gT hb1 (gF hb), rfl, m6.trans m2⟩))
 intro hb8 H9 m10
 have h11 := m10 _ _ h4
 have o12 := MO.mono o5 m10
 have m13 := m6.trans m10
 refine AOpsX.nil ?_
 change AWP _ _ _ _ _ _
 refine AWP.seq ?_
 refine AWP.regionX (l := [0, 1, 2]) rfl ?_
 refine AOpsX.cons rfl rfl (AOp.move (.sl (numsL w).length ((numsL w).map eI)) rfl rfl ?_)
 refine AOpsX.cons rfl rfl (AOp.sliceST1 (xs := numsL w) (l := 0) (h := 6) rfl rfl  sl_68 rfl (hi_of rfl) (by first | omega | (simp; omega)) (by first | omega | (simp; omega)) (by first | omega | (simp; omega)) ?_)
 refine AOpsX.consX rfl rfl (AOpX.need (b := inB (-16384) 16384 ((numsL w).take 6)) (k := 11) (as_ := [.int .i64 (-16384), .int .i64 16384, .sl ((numsL w).take 6).length (((numsL w).take 6).map eI)]) rfl rfl (rfl) tf_78 (c_within _ _ ((numsL w).take 6) (by first | omega | assumption | (simp only [List.length_drop, List.length_take]; omega) | (simp; omega) | simp)) ?_ (fun hb _ m2 => Or.inr ⟨_, rfl, _, gT hb1 (gT hb8 (gF hb)), rfl, m13.trans m2⟩))
 intro hb14 H15 m16
 have h17 := m16 _ _ h11
 have o18 := MO.mono o12 m16
 have m19 := m13.trans m16
 refine AOpsX.nil ?_
 change AWP _ _ _ _ _ _
 refine AWP.seq ?_
 refine AWP.regionX (l := [0, 1, 2]) rfl ?_
 refine AOpsX.cons rfl rfl (AOp.move (.sl (numsL w).length ((numsL w).map eI)) rfl rfl ?_)
 refine AOpsX.cons rfl rfl (AOp.sliceSG1 (xs := numsL w) (l := 6) (h := 12) rfl rfl  sl_68 (lo_of rfl) (hi_of rfl) (by first | omega | (simp; omega)) (by first | omega | (simp; omega)) (by first | omega | (simp; omega)) ?_)
 refine AOpsX.consX rfl rfl (AOpX.need (b := inB (-32) 32 (((numsL w).drop 6).take 6)) (k := 11) (as_ := [.int .i64 (-32), .int .i64 32, .sl (((numsL w).drop 6).take 6).length ((((numsL w).drop 6).take 6).map eI)]) rfl rfl (rfl) tf_78 (c_within _ _ (((numsL w).drop 6).take 6) (by first | omega | assumption | (simp only [List.length_drop, List.length_take]; omega) | (simp; omega) | simp)) ?_ (fun hb _ m2 => Or.inr ⟨_, rfl, _, gT hb1 (gT hb8 (gT hb14 (gF hb))), rfl, m19.trans m2⟩))
 intro hb20 H21 m22
 have h23 := m22 _ _ h17
 have o24 := MO.mono o18 m22
 have m25 := m19.trans m22
 refine AOpsX.nil ?_
 change AWP _ _ _ _ _ _
 refine AWP.seq ?_
 refine AWP.regionX (l := [0, 1, 2]) rfl ?_
 refine AOpsX.cons rfl rfl (AOp.move (.sl (numsL w).length ((numsL w).map eI)) rfl rfl ?_)
 refine AOpsX.cons rfl rfl (AOp.sliceSG1 (xs := numsL w) (l := 12) (h := 14) rfl rfl  sl_68 (lo_of rfl) (hi_of rfl) (by first | omega | (simp; omega)) (by first | omega | (simp; omega)) (by first | omega | (simp; omega)) ?_)
 refine AOpsX.consX rfl rfl (AOpX.need (b := inB 1 64 (((numsL w).drop 12).take 2)) (k := 11) (as_ := [.int .i64 1, .int .i64 64, .sl (((numsL w).drop 12).take 2).length ((((numsL w).drop 12).take 2).map eI)]) rfl rfl (rfl) tf_78 (c_within _ _ (((numsL w).drop 12).take 2) (by first | omega | assumption | (simp only [List.length_drop, List.length_take]; omega) | (simp; omega) | simp)) ?_ (fun hb _ m2 => Or.inr ⟨_, rfl, _, gT hb1 (gT hb8 (gT hb14 (gT hb20 (gF hb)))), rfl, m25.trans m2⟩))
 intro hb26 H27 m28
 have h29 := m28 _ _ h23
 have o30 := MO.mono o24 m28
 have m31 := m25.trans m28
 refine AOpsX.nil ?_
 change AWP _ _ _ _ _ _
 refine AWP.seq ?_
 refine AWP.regionX (l := [0, 1, 2, 3, 4]) rfl ?_
 refine AOpsX.cons rfl rfl (AOp.move (.sl (numsL w).length ((numsL w).map eI)) rfl rfl ?_)
 refine AOpsX.cons rfl rfl (AOp.indexAddrS rfl rfl rfl sl_68 (by omega) (by omega) ?_)
 refine AOpsX.cons rfl rfl (AOp.loadF (.int .i64 (at_ (numsL w) 14)) rfl rfl ty_3 (ld1 (by omega) (by omega)) ?_)
 refine AOpsX.cons rfl rfl (AOp.buildSlice (cells := [.int .i64 (at_ (numsL w) 14)]) rfl u_68 ts_3 tz_3 rfl rfl rfl ?_)
 intro i32 H33 n34 h35 k36
 have e37 := ne_new h29 n34
 have z38 := Mono.free m31 n34
 have h39 := keep k36 (ne_new h29 n34) h29
 have o40 := MO.keep o30 k36 (MO.notnew o30 n34)
 have no41 := MO.notnew o30 n34
 have m42 := Mono.new m31 n34 k36
 obtain ⟨v43, e44⟩ : ∃ v : AV, v = .slm i32 0 1 0 1 := ⟨_, rfl⟩
 have o45 : Own B H33 1 v43 1 [.int .i64 (at_ (numsL w) 14)] := .inr ⟨_, _, e44, h35, z38, rfl⟩
 have no46 : NotId v43 id := by rw [e44]; exact NotId.slm e37
 have sp47 : SepM (rdL s vL vM vT vS vC vV vF vK) v43 := by rw [e44]; exact SepM.ofNotId no41
 refine AOpsX.consX rfl rfl ?_
 refine AOpX.frz 25 (o45) e44.symm m42 fun H48 m49 k50 => ?_
 have h51 := (k50 _ no46).trans h39
 have o52 := MO.stay o40 sp47 (fun i hi _ => k50 i hi)
 refine AOpX.need (b := inB 1 4 ([at_ (numsL w) 14] : List Int)) (k := 11) (as_ := [.int .i64 1, .int .i64 4, .sl ([at_ (numsL w) 14] : List Int).length (([at_ (numsL w) 14] : List Int).map eI)]) rfl rfl (rfl) tf_78 (c_within _ _ ([at_ (numsL w) 14] : List Int) (by first | omega | assumption | (simp only [List.length_drop, List.length_take]; omega) | (simp; omega) | simp)) ?_ (fun hb _ m2 => Or.inr ⟨_, rfl, _, gT hb1 (gT hb8 (gT hb14 (gT hb20 (gT hb26 (gF hb))))), rfl, m49.trans m2⟩)
 intro hb53 H54 m55
 have h56 := m55 _ _ h51
 have o57 := MO.mono o52 m55
 have m58 := m49.trans m55
 refine AOpsX.nil ?_
 change AWP _ _ _ _ _ _
 refine AWP.seq ?_
 refine AWP.regionX (l := [0, 1, 2, 3, 4]) rfl ?_
 refine AOpsX.cons rfl rfl (AOp.move (.sl (numsL w).length ((numsL w).map eI)) rfl rfl ?_)
 refine AOpsX.cons rfl rfl (AOp.indexAddrS rfl rfl rfl sl_68 (by omega) (by omega) ?_)
 refine AOpsX.cons rfl rfl (AOp.loadF (.int .i64 (at_ (numsL w) 15)) rfl rfl ty_3 (ld1 (by omega) (by omega)) ?_)
 refine AOpsX.cons rfl rfl (AOp.buildSlice (cells := [.int .i64 (at_ (numsL w) 15)]) rfl u_68 ts_3 tz_3 rfl rfl rfl ?_)
 intro i59 H60 n61 h62 k63
 have e64 := ne_new h56 n61
 have z65 := Mono.free m58 n61
 have h66 := keep k63 (ne_new h56 n61) h56
 have o67 := MO.keep o57 k63 (MO.notnew o57 n61)
 have no68 := MO.notnew o57 n61
 have m69 := Mono.new m58 n61 k63
 obtain ⟨v70, e71⟩ : ∃ v : AV, v = .slm i59 0 1 0 1 := ⟨_, rfl⟩
 have o72 : Own B H60 1 v70 1 [.int .i64 (at_ (numsL w) 15)] := .inr ⟨_, _, e71, h62, z65, rfl⟩
 have no73 : NotId v70 id := by rw [e71]; exact NotId.slm e64
 have sp74 : SepM (rdL s vL vM vT vS vC vV vF vK) v70 := by rw [e71]; exact SepM.ofNotId no68
 refine AOpsX.consX rfl rfl ?_
 refine AOpX.frz 30 (o72) e71.symm m69 fun H75 m76 k77 => ?_
 have h78 := (k77 _ no73).trans h66
 have o79 := MO.stay o67 sp74 (fun i hi _ => k77 i hi)
 refine AOpX.need (b := inB 0 8 ([at_ (numsL w) 15] : List Int)) (k := 11) (as_ := [.int .i64 0, .int .i64 8, .sl ([at_ (numsL w) 15] : List Int).length (([at_ (numsL w) 15] : List Int).map eI)]) rfl rfl (rfl) tf_78 (c_within _ _ ([at_ (numsL w) 15] : List Int) (by first | omega | assumption | (simp only [List.length_drop, List.length_take]; omega) | (simp; omega) | simp)) ?_ (fun hb _ m2 => Or.inr ⟨_, rfl, _, gT hb1 (gT hb8 (gT hb14 (gT hb20 (gT hb26 (gT hb53 (gF hb)))))), rfl, m76.trans m2⟩)
 intro hb80 H81 m82
 have h83 := m82 _ _ h78
 have o84 := MO.mono o79 m82
 have m85 := m76.trans m82
 refine AOpsX.nil ?_
 change AWP _ _ _ _ _ _
 refine AWP.seq ?_
 refine AWP.region (l := [0, 1, 2, 3]) rfl ?_
 refine AOps.cons rfl rfl (AOp.move (.ptr id ver 0) rfl rfl ?_)
 refine AOps.cons rfl rfl (AOp.nilCheck (.ptr id ver 0) rfl rfl rfl ?_)
 refine AOps.cons rfl rfl (AOp.fieldAddr rfl rfl fl_56_1 ?_ (hid := ⟨_, h83⟩))
 refine AOps.cons rfl rfl (AOp.store' (cells' := rdC s.cam s.sky vL vM vT vS vC true s.hs) (.bool true) rfl rfl ts_4 h83 rfl rfl rfl rfl ?_)
 intro H86 h87 k88
 have o90 := MO.keep o84 k88 hn
 have m91 := Mono.set m85 hB k88
 refine AOps.nil ?_
 change AWP _ _ _ _ _ _
 refine AWP.region_quiet mixed (by kernel_rfl) 28 [28] rfl (by kernel_rfl) (Mono H86) (Mono.refl _) ?_
 refine QE.op rfl rfl (.inl ⟨rfl, fun f' H' hf hM => AOp.move (.ptr id ver 0) rfl ((hf 0 rfl).trans rfl) ⟨rfl, hM⟩⟩) ?_
 refine QE.op rfl rfl (.inl ⟨rfl, fun f' H' hf hM => AOp.move (.sl (numsL w).length ((numsL w).map eI)) rfl ((hf 4 rfl).trans rfl) ⟨rfl, hM⟩⟩) ?_
 refine QE.op rfl rfl (.inl ⟨rfl, fun f' H' hf hM => AOp.pcall («as» := [.sl (numsL w).length ((numsL w).map eI)]) rfl rfl (lapp (lcons ((hf 36 rfl).trans rfl) rfl) rfl) tf_79 (c_point (numsL w) (by first | omega | (simp; omega))) fun H2 m2 => ⟨rfl, hM.trans m2⟩⟩) ?_
 refine QE.op rfl rfl (.inl ⟨rfl, fun f' H' hf hM => AOp.move (.sl (numsL w).length ((numsL w).map eI)) rfl ((hf 4 rfl).trans rfl) ⟨rfl, hM⟩⟩) ?_
 refine QE.op rfl rfl (.inl ⟨rfl, fun f' H' hf hM => AOp.sliceSD1 (xs := numsL w) (l := 3) (h := (((numsL w).length) : Int)) rfl ((hf 38 rfl).trans rfl)  sl_68 (lo_of rfl) rfl (by first | omega | (simp; omega)) (by first | omega | (simp; omega)) (by first | omega | (simp; omega)) rfl ⟨rfl, hM⟩⟩) ?_
 refine QE.op rfl rfl (.inl ⟨rfl, fun f' H' hf hM => AOp.pcall («as» := [.sl ((numsL w).drop 3).length (((numsL w).drop 3).map eI)]) rfl rfl (lapp (lcons ((hf 39 rfl).trans rfl) rfl) rfl) tf_79 (c_point ((numsL w).drop 3) (by first | omega | (simp; omega))) fun H2 m2 => ⟨rfl, hM.trans m2⟩⟩) ?_
 refine QE.op rfl rfl (.inl ⟨rfl, fun f' H' hf hM => AOp.move (.sl (numsL w).length ((numsL w).map eI)) rfl ((hf 4 rfl).trans rfl) ⟨rfl, hM⟩⟩) ?_
 refine QE.op rfl rfl (.inl ⟨rfl, fun f' H' hf hM => AOp.sliceSD1 (xs := numsL w) (l := 6) (h := (((numsL w).length) : Int)) rfl ((hf 41 rfl).trans rfl)  sl_68 (lo_of rfl) rfl (by first | omega | (simp; omega)) (by first | omega | (simp; omega)) (by first | omega | (simp; omega)) rfl ⟨rfl, hM⟩⟩) ?_
 refine QE.op rfl rfl (.inl ⟨rfl, fun f' H' hf hM => AOp.pcall («as» := [.sl ((numsL w).drop 6).length (((numsL w).drop 6).map eI)]) rfl rfl (lapp (lcons ((hf 42 rfl).trans rfl) rfl) rfl) tf_79 (c_point ((numsL w).drop 6) (by first | omega | (simp; omega))) fun H2 m2 => ⟨rfl, hM.trans m2⟩⟩) ?_
 refine QE.op rfl rfl (.inl ⟨rfl, fun f' H' hf hM => AOp.move (.sl (numsL w).length ((numsL w).map eI)) rfl ((hf 4 rfl).trans rfl) ⟨rfl, hM⟩⟩) ?_
 refine QE.op rfl rfl (.inl ⟨rfl, fun f' H' hf hM => AOp.sliceSD1 (xs := numsL w) (l := 9) (h := (((numsL w).length) : Int)) rfl ((hf 44 rfl).trans rfl)  sl_68 (lo_of rfl) rfl (by first | omega | (simp; omega)) (by first | omega | (simp; omega)) (by first | omega | (simp; omega)) rfl ⟨rfl, hM⟩⟩) ?_
 refine QE.op rfl rfl (.inl ⟨rfl, fun f' H' hf hM => AOp.pcall («as» := [.sl ((numsL w).drop 9).length (((numsL w).drop 9).map eI)]) rfl rfl (lapp (lcons ((hf 45 rfl).trans rfl) rfl) rfl) tf_79 (c_point ((numsL w).drop 9) (by first | omega | (simp; omega))) fun H2 m2 => ⟨rfl, hM.trans m2⟩⟩) ?_
 refine QE.op rfl rfl (.inl ⟨rfl, fun f' H' hf hM => AOp.move (.sl (numsL w).length ((numsL w).map eI)) rfl ((hf 4 rfl).trans rfl) ⟨rfl, hM⟩⟩) ?_
 refine QE.op rfl rfl (.inl ⟨rfl, fun f' H' hf hM => AOp.indexAddrS rfl ((hf 47 rfl).trans rfl) rfl sl_68 (by omega) (by omega) ⟨rfl, hM⟩⟩) ?_
 refine QE.op rfl rfl (.inl ⟨rfl, fun f' H' hf hM => AOp.loadF (.int .i64 (at_ (numsL w) 12)) rfl ((hf 48 rfl).trans rfl) ty_3 (ld1 (by omega) (by omega)) ⟨rfl, hM⟩⟩) ?_
 refine QE.op rfl rfl (.inl ⟨rfl, fun f' H' hf hM => AOp.move (.sl (numsL w).length ((numsL w).map eI)) rfl ((hf 4 rfl).trans rfl) ⟨rfl, hM⟩⟩) ?_
 refine QE.op rfl rfl (.inl ⟨rfl, fun f' H' hf hM => AOp.indexAddrS rfl ((hf 50 rfl).trans rfl) rfl sl_68 (by omega) (by omega) ⟨rfl, hM⟩⟩) ?_
 refine QE.op rfl rfl (.inl ⟨rfl, fun f' H' hf hM => AOp.loadF (.int .i64 (at_ (numsL w) 13)) rfl ((hf 51 rfl).trans rfl) ty_3 (ld1 (by omega) (by omega)) ⟨rfl, hM⟩⟩) ?_
 refine QE.op rfl rfl (.inl ⟨rfl, fun f' H' hf hM => AOp.move (.sl (numsL w).length ((numsL w).map eI)) rfl ((hf 4 rfl).trans rfl) ⟨rfl, hM⟩⟩) ?_
 refine QE.op rfl rfl (.inl ⟨rfl, fun f' H' hf hM => AOp.indexAddrS rfl ((hf 53 rfl).trans rfl) rfl sl_68 (by omega) (by omega) ⟨rfl, hM⟩⟩) ?_
 refine QE.op rfl rfl (.inl ⟨rfl, fun f' H' hf hM => AOp.loadF (.int .i64 (at_ (numsL w) 14)) rfl ((hf 54 rfl).trans rfl) ty_3 (ld1 (by omega) (by omega)) ⟨rfl, hM⟩⟩) ?_
 refine QE.op rfl rfl (.inl ⟨rfl, fun f' H' hf hM => AOp.move (.sl (numsL w).length ((numsL w).map eI)) rfl ((hf 4 rfl).trans rfl) ⟨rfl, hM⟩⟩) ?_
 refine QE.op rfl rfl (.inl ⟨rfl, fun f' H' hf hM => AOp.indexAddrS rfl ((hf 56 rfl).trans rfl) rfl sl_68 (by omega) (by omega) ⟨rfl, hM⟩⟩) ?_
 refine QE.op rfl rfl (.inl ⟨rfl, fun f' H' hf hM => AOp.loadF (.int .i64 (at_ (numsL w) 15)) rfl ((hf 57 rfl).trans rfl) ty_3 (ld1 (by omega) (by omega)) ⟨rfl, hM⟩⟩) ?_
 refine QE.op rfl rfl (.inl ⟨rfl, fun f' H' hf hM => AOp.build (cells := [.int .i64 ((ptR (numsL w)).X), .int .i64 ((ptR (numsL w)).Y), .int .i64 ((ptR (numsL w)).Z), .int .i64 ((ptR ((numsL w).drop 3)).X), .int .i64 ((ptR ((numsL w).drop 3)).Y), .int .i64 ((ptR ((numsL w).drop 3)).Z), .int .i64 ((ptR ((numsL w).drop 6)).X), .int .i64 ((ptR ((numsL w).drop 6)).Y), .int .i64 ((ptR ((numsL w).drop 6)).Z), .int .i64 ((ptR ((numsL w).drop 9)).X), .int .i64 ((ptR ((numsL w).drop 9)).Y), .int .i64 ((ptR ((numsL w).drop 9)).Z), .int .i64 (at_ (numsL w) 12), .int .i64 (at_ (numsL w) 13), .int .i64 (at_ (numsL w) 14), .int .i64 (at_ (numsL w) 15)]) rfl tz_26 pl_26 (lconsP ((hf 37 rfl).trans rfl) (lconsP ((hf 40 rfl).trans rfl) (lconsP ((hf 43 rfl).trans rfl) (lconsP ((hf 46 rfl).trans rfl) (lconsP ((hf 49 rfl).trans rfl) (lconsP ((hf 52 rfl).trans rfl) (lconsP ((hf 55 rfl).trans rfl) (lconsP ((hf 58 rfl).trans rfl) rfl)))))))) rfl ⟨rfl, hM⟩⟩) ?_
 refine QE.op rfl rfl (.inl ⟨rfl, fun f' H' hf hM => AOp.nilCheck (.ptr id ver 0) rfl ((hf 35 rfl).trans rfl) rfl ⟨rfl, hM⟩⟩) ?_
 refine QE.op rfl rfl (.inl ⟨rfl, fun f' H' hf hM => AOp.fieldAddr rfl ((hf 60 rfl).trans rfl) fl_56_0 ⟨rfl, hM⟩ (hid := ⟨_, (hM _ _ h87)⟩)⟩) ?_
 refine QE.op rfl rfl (.inl ⟨rfl, fun f' H' hf hM => AOp.fieldAddr rfl ((hf 61 rfl).trans rfl) fl_35_0 ⟨rfl, hM⟩ (hid := ⟨_, (hM _ _ h87)⟩)⟩) ?_
 refine QE.done fun H92 m93 => ?_
 have h94 := m93 _ _ h87
 have o95 := MO.mono o90 m93
 have m96 := m91.trans m93
 refine AOps.cons rfl rfl (AOp.store' (cells' := rdC (CamT.mk (ptR (numsL w)) (ptR ((numsL w).drop 3)) (ptR ((numsL w).drop 6)) (ptR ((numsL w).drop 9)) (at_ (numsL w) 12) (at_ (numsL w) 13) (at_ (numsL w) 14) (at_ (numsL w) 15)) s.sky vL vM vT vS vC true s.hs) (.agg [.int .i64 ((ptR (numsL w)).X), .int .i64 ((ptR (numsL w)).Y), .int .i64 ((ptR (numsL w)).Z), .int .i64 ((ptR ((numsL w).drop 3)).X), .int .i64 ((ptR ((numsL w).drop 3)).Y), .int .i64 ((ptR ((numsL w).drop 3)).Z), .int .i64 ((ptR ((numsL w).drop 6)).X), .int .i64 ((ptR ((numsL w).drop 6)).Y), .int .i64 ((ptR ((numsL w).drop 6)).Z), .int .i64 ((ptR ((numsL w).drop 9)).X), .int .i64 ((ptR ((numsL w).drop 9)).Y), .int .i64 ((ptR ((numsL w).drop 9)).Z), .int .i64 (at_ (numsL w) 12), .int .i64 (at_ (numsL w) 13), .int .i64 (at_ (numsL w) 14), .int .i64 (at_ (numsL w) 15)]) rfl rfl ts_26 h94 rfl rfl rfl rfl ?_)
 intro H97 h98 k99
 have o101 := MO.keep o95 k99 hn
 have m102 := Mono.set m96 hB k99
 refine AOps.nil ?_
 refine Or.inl ?_
 refine ⟨_, _, Ghost.refl, .inl rfl, _, Res.zero rfl, _, gT hb1 (gT hb8 (gT hb14 (gT hb20 (gT hb26 (gT hb53 (gT hb80 rfl)))))), ⟨_, _, _, _, _, _, _, _, h98, hB, o101, hn⟩, m102, rfl⟩
theorem c_readSky {B H0 : Heap} {id ver : Nat} {s : Rd} (hm : Mono B H0) (hs : RD B H0 id ver s) (ok : RdOk s) (w : List ByteArray) (hw : w.length ≤ 1048576) : ACallsX Tryz.prog 33 [.ptr id ver 0, .sl w.length (w.map eStr)] H0 (fun r H' => ∃ t, skyP s w = .ok t ∧ RD B H' id ver t ∧ Mono B H' ∧ r = .tup []) (fun ch H' => ∃ k, skyP s w = .error k ∧ ch = pan 36 k ∧ Mono B H') := by
 obtain ⟨vL, vM, vT, vS, vC, vV, vF, vK, hrow, hB, hg, hn⟩ := hs
 refine ACallsX.of_body' (n := 24) rfl rfl rfl rfl ?_
 have m0 := hm
 refine AWP.seq ?_
 refine AWP.regionX (l := [0, 1, 2]) rfl ?_
 refine AOpsX.cons rfl rfl (Mv _ rfl rfl ?_)
 refine AOpsX.consX rfl rfl (AOpX.need (b := cntB w 3) (k := 10) (as_ := [.sl w.length (w.map eStr), .int .i64 3]) rfl rfl (rfl) tf_76 (c_counted w (by first | omega | assumption | (simp only [List.length_drop, List.length_take]; omega) | (simp; omega) | simp) _) ?_ (fun hb _ m2 => Or.inr ⟨_, rfl, _, gF hb, rfl, m0.trans m2⟩))
 intro hb1 H2 m3
 have h4 := m3 _ _ hrow
 have o5 := MO.mono hg m3
 have m6 := m0.trans m3
 have hl7 := cnt_len hb1
 refine AOpsX.cons rfl rfl (As _ rfl rfl ?_)
 refine AOpsX.nil ?_
 change AWP _ _ _ _ _ _
 refine AWP.seq ?_
 refine AWP.regionX (l := [0, 1, 2, 3, 4, 5]) rfl ?_
 refine AOpsX.cons rfl rfl (Mv _ rfl rfl ?_)
 refine AOpsX.cons rfl rfl (nc_ (.ptr id ver 0) rfl rfl rfl ?_)
 refine AOpsX.cons rfl rfl (Fa rfl rfl fl_56_2 ?_ (hid := ⟨_, h4⟩))
 refine AOpsX.cons rfl rfl (Ld _ rfl rfl ty_4 h4 rfl ?_)
 refine AOpsX.cons rfl rfl (AOp.not rfl rfl ?_)
 refine AOpsX.consX rfl rfl (AOpX.need (b := !s.hs) (k := 12) (as_ := [.bool (!s.hs), .int .i64 12]) rfl rfl (rfl) tf_77 (c_need _ _) ?_ (fun hb _ m2 => Or.inr ⟨_, rfl, _, gT hb1 (gF hb), rfl, m6.trans m2⟩))
 intro hb8 H9 m10
 have h11 := m10 _ _ h4
 have o12 := MO.mono o5 m10
 have m13 := m6.trans m10
 refine AOpsX.nil ?_
 change AWP _ _ _ _ _ _
 refine AWP.seq ?_
 refine AWP.regionX (l := [0, 1]) rfl ?_
 refine AOpsX.cons rfl rfl (Mv _ rfl rfl ?_)
 refine AOpsX.consX rfl rfl (AOpX.need (b := inB 0 255 (numsL w)) (k := 11) (as_ := [.int .i64 0, .int .i64 255, .sl (numsL w).length ((numsL w).map eI)]) rfl rfl (rfl) tf_78 (c_within _ _ (numsL w) (by first | omega | assumption | (simp only [List.length_drop, List.length_take]; omega) | (simp; omega) | simp)) ?_ (fun hb _ m2 => Or.inr ⟨_, rfl, _, gT hb1 (gT hb8 (gF hb)), rfl, m13.trans m2⟩))
 intro hb14 H15 m16
 have h17 := m16 _ _ h11
 have o18 := MO.mono o12 m16
 have m19 := m13.trans m16
 refine AOpsX.nil ?_
 change AWP _ _ _ _ _ _
 refine AWP.region rfl ?_
 refine V rfl rfl (V rfl rfl (V rfl rfl (C rfl (Pc («as» := [.sl (numsL w).length ((numsL w).map eI)]) rfl rfl (rfl) tf_80 (c_color (numsL w) (by first | omega | (simp; omega))) ?_))))
 intro H20 m21
 have h22 := m21 _ _ h17
 have o23 := MO.mono o18 m21
 have m24 := m19.trans m21
 refine C rfl (nc_ (.ptr id ver 0) rfl rfl rfl ?_)
 refine C rfl (Fa rfl rfl fl_56_2 ?_ (hid := ⟨_, h22⟩))
 refine C rfl (So (cells' := rdC s.cam s.sky vL vM vT vS vC s.hc true) (.bool true) rfl rfl ts_4 h22 rfl rfl rfl rfl ?_)
 intro H25 h26 k27
 have o29 := MO.keep o23 k27 hn
 have m30 := Mono.set m24 hB k27
 refine C rfl (nc_ (.ptr id ver 0) rfl rfl rfl ?_)
 refine C rfl (Fa rfl rfl fl_56_0 ?_ (hid := ⟨_, h26⟩))
 refine C rfl (Fa rfl rfl fl_35_1 ?_ (hid := ⟨_, h26⟩))
 refine C rfl (So (cells' := rdC s.cam (colR (numsL w)) vL vM vT vS vC s.hc true) (.agg [.int .i64 ((colR (numsL w)).R), .int .i64 ((colR (numsL w)).G), .int .i64 ((colR (numsL w)).B)]) rfl rfl ts_28 h26 rfl rfl rfl rfl ?_)
 intro H31 h32 k33
 have o35 := MO.keep o29 k33 hn
 have m36 := Mono.set m30 hB k33
 refine AOps.nil ?_
 refine Or.inl ?_
 refine ⟨_, _, Ghost.refl, .inl rfl, _, Res.zero rfl, _, gT hb1 (gT hb8 (gT hb14 rfl)), ⟨_, _, _, _, _, _, _, _, h32, hB, o35, hn⟩, m36, rfl⟩
theorem c_readLight {B H0 : Heap} {id ver : Nat} {s : Rd} (hm : Mono B H0) (hs : RD B H0 id ver s) (ok : RdOk s) (w : List ByteArray) (hw : w.length ≤ 1048576) : ACallsX Tryz.prog 34 [.ptr id ver 0, .sl w.length (w.map eStr)] H0 (fun r H' => ∃ t, lightP s w = .ok t ∧ RD B H' id ver t ∧ Mono B H' ∧ r = .tup []) (fun ch H' => ∃ k, lightP s w = .error k ∧ ch = pan 36 k ∧ Mono B H') := by
 obtain ⟨vL, vM, vT, vS, vC, vV, vF, vK, hrow, hB, hg, hn⟩ := hs
 obtain ⟨oL', ogL, spL⟩ := hg.at 0 rfl
 have oL : Own B H0 6 vL s.lights.length (s.lights.flatMap eLight) := oL'
 have nL : NotId vL id := hn.at 0 rfl
 have ngL := hn.erase 0
 refine ACallsX.of_body' (n := 38) rfl rfl rfl rfl ?_
 have m0 := hm
 refine AWP.seq ?_
 refine AWP.regionX (l := [0, 1, 2]) rfl ?_
 refine AOpsX.cons rfl rfl (Mv _ rfl rfl ?_)
 refine AOpsX.consX rfl rfl (AOpX.need (b := cntB w 6) (k := 10) (as_ := [.sl w.length (w.map eStr), .int .i64 6]) rfl rfl (rfl) tf_76 (c_counted w (by first | omega | assumption | (simp only [List.length_drop, List.length_take]; omega) | (simp; omega) | simp) _) ?_ (fun hb _ m2 => Or.inr ⟨_, rfl, _, gF hb, rfl, m0.trans m2⟩))
 intro hb1 H2 m3
 have h4 := m3 _ _ hrow
 have o5 := Own.mono oL m3
 have o6 := MO.mono ogL m3
 have m7 := m0.trans m3
 have hl8 := cnt_len hb1
 refine AOpsX.cons rfl rfl (As _ rfl rfl ?_)
 refine AOpsX.nil ?_
 change AWP _ _ _ _ _ _
 refine AWP.seq ?_
 refine AWP.regionX (l := [0, 1, 2, 3, 4, 5, 6, 7]) rfl ?_
 refine AOpsX.cons rfl rfl (Mv _ rfl rfl ?_)
 refine AOpsX.cons rfl rfl (nc_ (.ptr id ver 0) rfl rfl rfl ?_)
 refine AOpsX.cons rfl rfl (Fa rfl rfl fl_56_0 ?_ (hid := ⟨_, h4⟩))
 refine AOpsX.cons rfl rfl (Fa rfl rfl fl_35_2 ?_ (hid := ⟨_, h4⟩))
 refine AOpsX.cons rfl rfl (Ld _ rfl rfl ty_29 h4 rfl ?_)
 refine AOpsX.cons rfl rfl (AOp.len_own (m := s.lights.length) rfl rfl o5 u_29 ?_)
 refine AOpsX.cons rfl rfl (Bi _ rfl rfl rfl rfl ?_)
 refine AOpsX.consX rfl rfl (AOpX.need (b := decide ((s.lights.length : Int) < 4)) (k := 13) (as_ := [.bool (decide ((s.lights.length : Int) < 4)), .int .i64 13]) rfl rfl (rfl) tf_77 (c_need _ _) ?_ (fun hb _ m2 => Or.inr ⟨_, rfl, _, gT hb1 (gF hb), rfl, m7.trans m2⟩))
 intro hb9 H10 m11
 have h12 := m11 _ _ h4
 have o13 := Own.mono o5 m11
 have o14 := MO.mono o6 m11
 have m15 := m7.trans m11
 have hp16 := of_decide_eq_true hb9
 refine AOpsX.nil ?_
 change AWP _ _ _ _ _ _
 refine AWP.seq ?_
 refine AWP.regionX (l := [0, 1, 2]) rfl ?_
 refine AOpsX.cons rfl rfl (Mv _ rfl rfl ?_)
 refine AOpsX.cons rfl rfl (AOp.sliceST1 (xs := numsL w) (l := 0) (h := 3) rfl rfl  sl_68 rfl (hi_of rfl) (by first | omega | (simp; omega)) (by first | omega | (simp; omega)) (by first | omega | (simp; omega)) ?_)
 refine AOpsX.consX rfl rfl (AOpX.need (b := inB (-16384) 16384 ((numsL w).take 3)) (k := 11) (as_ := [.int .i64 (-16384), .int .i64 16384, .sl ((numsL w).take 3).length (((numsL w).take 3).map eI)]) rfl rfl (rfl) tf_78 (c_within _ _ ((numsL w).take 3) (by first | omega | assumption | (simp only [List.length_drop, List.length_take]; omega) | (simp; omega) | simp)) ?_ (fun hb _ m2 => Or.inr ⟨_, rfl, _, gT hb1 (gT hb9 (gF hb)), rfl, m15.trans m2⟩))
 intro hb17 H18 m19
 have h20 := m19 _ _ h12
 have o21 := Own.mono o13 m19
 have o22 := MO.mono o14 m19
 have m23 := m15.trans m19
 refine AOpsX.nil ?_
 change AWP _ _ _ _ _ _
 refine AWP.seq ?_
 refine AWP.regionX (l := [0, 1, 2]) rfl ?_
 refine AOpsX.cons rfl rfl (Mv _ rfl rfl ?_)
 refine AOpsX.cons rfl rfl (AOp.sliceSD1 (xs := numsL w) (l := 3) (h := (((numsL w).length) : Int)) rfl rfl  sl_68 (lo_of rfl) rfl (by first | omega | (simp; omega)) (by first | omega | (simp; omega)) (by first | omega | (simp; omega)) rfl ?_)
 refine AOpsX.consX rfl rfl (AOpX.need (b := inB 0 255 ((numsL w).drop 3)) (k := 11) (as_ := [.int .i64 0, .int .i64 255, .sl ((numsL w).drop 3).length (((numsL w).drop 3).map eI)]) rfl rfl (rfl) tf_78 (c_within _ _ ((numsL w).drop 3) (by first | omega | assumption | (simp only [List.length_drop, List.length_take]; omega) | (simp; omega) | simp)) ?_ (fun hb _ m2 => Or.inr ⟨_, rfl, _, gT hb1 (gT hb9 (gT hb17 (gF hb))), rfl, m23.trans m2⟩))
 intro hb24 H25 m26
 have h27 := m26 _ _ h20
 have o28 := Own.mono o21 m26
 have o29 := MO.mono o22 m26
 have m30 := m23.trans m26
 refine AOpsX.nil ?_
 change AWP _ _ _ _ _ _
 refine AWP.region_str mixed (by kernel_rfl) [(0, none), (1, none), (2, none), (3, none), (4, none), (5, none), (6, none), (7, none), (8, none), (9, none), (10, none), (11, none), (12, some [0, 1, 2, 3, 4, 5]), (13, some [0])] [14, 15, 16, 17] (by kernel_rfl) ?_
 refine STR.op rfl rfl (.inl ⟨rfl, fun H1 f' H' hf hN hM => Mv _ rfl ((hf 0 rfl).trans rfl) ⟨rfl, hN⟩⟩) ?_
 refine STR.op rfl rfl (.inl ⟨rfl, fun H1 f' H' hf hN hM => Mv _ rfl ((hf 0 rfl).trans rfl) ⟨rfl, hN⟩⟩) ?_
 refine STR.op rfl rfl (.inl ⟨rfl, fun H1 f' H' hf hN hM => nc_ (.ptr id ver 0) rfl ((hf 22 rfl).trans rfl) rfl ⟨rfl, hN⟩⟩) ?_
 refine STR.op rfl rfl (.inl ⟨rfl, fun H1 f' H' hf hN hM => Fa rfl ((hf 23 rfl).trans rfl) fl_56_0 ⟨rfl, hN⟩ (hid := ⟨_, (hM _ _ h27)⟩)⟩) ?_
 refine STR.op rfl rfl (.inl ⟨rfl, fun H1 f' H' hf hN hM => Fa rfl ((hf 24 rfl).trans rfl) fl_35_2 ⟨rfl, hN⟩ (hid := ⟨_, (hM _ _ h27)⟩)⟩) ?_
 refine STR.op rfl rfl (.inl ⟨rfl, fun H1 f' H' hf hN hM => Ld _ rfl ((hf 25 rfl).trans rfl) ty_29 (hM _ _ h27) rfl ⟨rfl, hN⟩⟩) ?_
 refine STR.op rfl rfl (.inl ⟨rfl, fun H1 f' H' hf hN hM => Mv _ rfl ((hf 4 rfl).trans rfl) ⟨rfl, hN⟩⟩) ?_
 refine STR.op rfl rfl (.inl ⟨rfl, fun H1 f' H' hf hN hM => Pc («as» := [.sl (numsL w).length ((numsL w).map eI)]) rfl rfl (lapp (lcons ((hf 27 rfl).trans rfl) rfl) rfl) tf_79 (c_point (numsL w) (by first | omega | (simp; omega))) fun H2 m2 => ⟨rfl, hN.trans m2⟩⟩) ?_
 refine STR.op rfl rfl (.inl ⟨rfl, fun H1 f' H' hf hN hM => Mv _ rfl ((hf 4 rfl).trans rfl) ⟨rfl, hN⟩⟩) ?_
 refine STR.op rfl rfl (.inl ⟨rfl, fun H1 f' H' hf hN hM => AOp.sliceSD1 (xs := numsL w) (l := 3) (h := (((numsL w).length) : Int)) rfl ((hf 29 rfl).trans rfl)  sl_68 (lo_of rfl) rfl (by first | omega | (simp; omega)) (by first | omega | (simp; omega)) (by first | omega | (simp; omega)) rfl ⟨rfl, hN⟩⟩) ?_
 refine STR.op rfl rfl (.inl ⟨rfl, fun H1 f' H' hf hN hM => Pc («as» := [.sl ((numsL w).drop 3).length (((numsL w).drop 3).map eI)]) rfl rfl (lapp (lcons ((hf 30 rfl).trans rfl) rfl) rfl) tf_80 (c_color ((numsL w).drop 3) (by first | omega | (simp; omega))) fun H2 m2 => ⟨rfl, hN.trans m2⟩⟩) ?_
 refine STR.op rfl rfl (.inl ⟨rfl, fun H1 f' H' hf hN hM => Bl (cells := [.int .i64 ((ptR (numsL w)).X), .int .i64 ((ptR (numsL w)).Y), .int .i64 ((ptR (numsL w)).Z), .int .i64 ((colR ((numsL w).drop 3)).R), .int .i64 ((colR ((numsL w).drop 3)).G), .int .i64 ((colR ((numsL w).drop 3)).B)]) rfl tz_65 pl_65 (lconsP ((hf 28 rfl).trans rfl) (lconsP ((hf 31 rfl).trans rfl) rfl)) rfl ⟨rfl, hN⟩⟩) ?_
 refine STR.eff rfl rfl rfl fun f31 H32 hf33 m34 => ?_
 have h35 := m34 _ _ h27
 have o36 := Own.mono o28 m34
 have o37 := MO.mono o29 m34
 have m38 := m30.trans m34
 refine AOp.buildSlice (cells := [.int .i64 ((ptR (numsL w)).X), .int .i64 ((ptR (numsL w)).Y), .int .i64 ((ptR (numsL w)).Z), .int .i64 ((colR ((numsL w).drop 3)).R), .int .i64 ((colR ((numsL w).drop 3)).G), .int .i64 ((colR ((numsL w).drop 3)).B)]) rfl u_29 ts_65 tz_65 rfl (lconsP ((hf33 32 rfl).trans rfl) rfl) rfl ?_
 intro i39 H40 n41 h42 k43
 have h46 := keep k43 (ne_new h35 n41) h35
 have o47 := Own.keep o36 k43 (Own.notnew o36 n41)
 have o49 := MO.keep o37 k43 (MO.notnew o37 n41)
 have m51 := Mono.new m38 n41 k43
 refine ⟨_, rfl, .inl (Mono.new (Mono.refl _) n41 k43), ?_⟩
 refine STR.eff rfl rfl rfl fun f52 H53 hf54 m55 => ?_
 have h56 := m55 _ _ h46
 have h57 := m55 _ _ h42
 have o58 := Own.mono o47 m55
 have o59 := MO.mono o49 m55
 have m60 := m51.trans m55
 refine AOp.append_own (es := 6) (m := 1) (len := s.lights.length) (old := s.lights.flatMap eLight) (cells := [.int .i64 ((ptR (numsL w)).X), .int .i64 ((ptR (numsL w)).Y), .int .i64 ((ptR (numsL w)).Z), .int .i64 ((colR ((numsL w).drop 3)).R), .int .i64 ((colR ((numsL w).drop 3)).G), .int .i64 ((colR ((numsL w).drop 3)).B)]) rfl u_29 ts_65 tzn_65 tb_65 (by decide) ni_29 ((hf54 26 rfl).trans rfl) o58 m60 ((hf54 33 rfl).trans rfl) (.slm h57 rfl) (one_of rfl) (by decide) (by first | omega | (simp; omega)) ?_
 intro v61 H62 o63 m64 k65 j66
 have o67 := Own.snocM (xs := (s.lights : List LightT)) (y := (LightT.mk (ptR (numsL w)) (colR ((numsL w).drop 3)))) (e := eLight) (by simp) o63
 have h68 := (k65 _ nL (by rw [h56]; simp)).trans h56
 have no69 := j66 _ nL (by rw [h56]; simp)
 have sp71 := MO.sep o59 spL j66
 have o70 := MO.stay o59 spL k65
 refine ⟨_, rfl, .inr (RevR.skip rfl (RevR.skip rfl (RevR.skip rfl (RevR.skip rfl (RevR.skip rfl (RevR.skip rfl (RevR.skip rfl (RevR.skip rfl (RevR.skip rfl (RevR.skip rfl (RevR.skip rfl (RevR.skip rfl (RevR.cons rfl (.inl ⟨rfl, fun H1 f' H' hf hN hM => Mv _ rfl ((hf 0 rfl).trans rfl) ⟨rfl, hN⟩⟩) RevR.nil))))))))))))), ?_⟩
 refine STR.done fun H72 m73 => ?_
 have h74 := m73 _ _ h68
 have o75 := MO.mono o70 m73
 have o76 := Own.mono o67 m73
 have m77 := m64.trans m73
 refine C rfl (nc_ (.ptr id ver 0) rfl rfl rfl ?_)
 refine C rfl (Fa rfl rfl fl_56_0 ?_ (hid := ⟨_, h74⟩))
 refine C rfl (Fa rfl rfl fl_35_2 ?_ (hid := ⟨_, h74⟩))
 refine C rfl (AOp.storeO (cells' := rdC s.cam s.sky v61 vM vT vS vC s.hc s.hs) rfl rfl o76 ts_29 h74 rfl rfl ?_)
 intro H78 h79 k80
 have o82 := MO.keep o75 k80 ngL
 have o83 := Own.keep o76 k80 no69
 have m84 := Mono.set m77 hB k80
 refine AOps.nil ?_
 refine Or.inl ?_
 refine ⟨_, _, Ghost.refl, .inl rfl, _, Res.zero rfl, _, gT hb1 (gT hb9 (gT hb17 (gT hb24 rfl))), ⟨_, _, _, _, _, _, _, _, h79, hB, MO.put 0 (by simp [rdL]) o82 o83 sp71, NotIdM.put 0 ngL no69⟩, m84, rfl⟩
theorem c_readMaterial {B H0 : Heap} {id ver : Nat} {s : Rd} (hm : Mono B H0) (hs : RD B H0 id ver s) (ok : RdOk s) (w : List ByteArray) (hw : w.length ≤ 1048576) : ACallsX Tryz.prog 36 [.ptr id ver 0, .sl w.length (w.map eStr)] H0 (fun r H' => ∃ t, materialP s w = .ok t ∧ RD B H' id ver t ∧ Mono B H' ∧ r = .tup []) (fun ch H' => ∃ k, materialP s w = .error k ∧ ch = pan 36 k ∧ Mono B H') := by
 obtain ⟨vL, vM, vT, vS, vC, vV, vF, vK, hrow, hB, hg, hn⟩ := hs
 obtain ⟨oM', ogM, spM⟩ := hg.at 1 rfl
 have oM : Own B H0 9 vM s.mats.length (s.mats.flatMap eMat) := oM'
 have nM : NotId vM id := hn.at 1 rfl
 have ngM := hn.erase 1
 refine ACallsX.of_body' (n := 90) rfl rfl rfl rfl ?_
 have m0 := hm
 refine AWP.seq ?_
 refine AWP.regionX (l := [0, 1]) rfl ?_
 refine AOpsX.cons rfl rfl (Mv _ rfl rfl ?_)
 refine AOpsX.consX rfl rfl (AOpX.need (b := namedB w 1 9) (k := 10) (as_ := [.sl w.length (w.map eStr), .int .i64 1, .int .i64 9]) rfl rfl (rfl) tf_81 (c_named w (by first | omega | assumption | (simp only [List.length_drop, List.length_take]; omega) | (simp; omega) | simp) _ _ (by omega) (by omega)) ?_ (fun hb _ m2 => Or.inr ⟨_, rfl, _, gF hb, rfl, m0.trans m2⟩))
 intro hb1 H2 m3
 have h4 := m3 _ _ hrow
 have o5 := Own.mono oM m3
 have o6 := MO.mono ogM m3
 have m7 := m0.trans m3
 have hl8 := named_len hb1
 refine AOpsX.nil ?_
 change AWP _ _ _ _ _ _
 refine AWP.seq ?_
 refine AWP.regionX (l := [0, 1, 2, 3]) rfl ?_
 refine AOpsX.cons rfl rfl (Mv _ rfl rfl ?_)
 refine AOpsX.cons rfl rfl (AOp.sliceSD1 (xs := w) (l := 1) (h := (w.length : Int)) rfl rfl  sl_57 (lo_of rfl) rfl (by first | omega | (simp; omega)) (by first | omega | (simp; omega)) (by first | omega | (simp; omega)) rfl ?_)
 refine AOpsX.consX rfl rfl (AOpX.need (b := cntB (w.drop 1) 8) (k := 10) (as_ := [.sl (w.drop 1).length ((w.drop 1).map eStr), .int .i64 8]) rfl rfl (rfl) tf_76 (c_counted (w.drop 1) (by first | omega | assumption | (simp only [List.length_drop, List.length_take]; omega) | (simp; omega) | simp) _) ?_ (fun hb _ m2 => Or.inr ⟨_, rfl, _, gT hb1 (gF hb), rfl, m7.trans m2⟩))
 intro hb9 H10 m11
 have h12 := m11 _ _ h4
 have o13 := Own.mono o5 m11
 have o14 := MO.mono o6 m11
 have m15 := m7.trans m11
 have hl16 := cnt_len hb9
 refine AOpsX.cons rfl rfl (As _ rfl rfl ?_)
 refine AOpsX.nil ?_
 change AWP _ _ _ _ _ _
 refine AWP.seq ?_
 refine AWP.regionX (l := [0, 1, 2, 3, 4, 5, 6, 7]) rfl ?_
 refine AOpsX.cons rfl rfl (Mv _ rfl rfl ?_)
 refine AOpsX.cons rfl rfl (nc_ (.ptr id ver 0) rfl rfl rfl ?_)
 refine AOpsX.cons rfl rfl (Fa rfl rfl fl_56_0 ?_ (hid := ⟨_, h12⟩))
 refine AOpsX.cons rfl rfl (Fa rfl rfl fl_35_3 ?_ (hid := ⟨_, h12⟩))
 refine AOpsX.cons rfl rfl (Ld _ rfl rfl ty_30 h12 rfl ?_)
 refine AOpsX.cons rfl rfl (AOp.len_own (m := s.mats.length) rfl rfl o13 u_30 ?_)
 refine AOpsX.cons rfl rfl (Bi _ rfl rfl rfl rfl ?_)
 refine AOpsX.consX rfl rfl (AOpX.need (b := decide ((s.mats.length : Int) < 8)) (k := 13) (as_ := [.bool (decide ((s.mats.length : Int) < 8)), .int .i64 13]) rfl rfl (rfl) tf_77 (c_need _ _) ?_ (fun hb _ m2 => Or.inr ⟨_, rfl, _, gT hb1 (gT hb9 (gF hb)), rfl, m15.trans m2⟩))
 intro hb17 H18 m19
 have h20 := m19 _ _ h12
 have o21 := Own.mono o13 m19
 have o22 := MO.mono o14 m19
 have m23 := m15.trans m19
 have hp24 := of_decide_eq_true hb17
 refine AOpsX.nil ?_
 change AWP _ _ _ _ _ _
 refine AWP.seq ?_
 refine AWP.regionX (l := [0, 1, 2, 3, 4, 5, 6]) rfl ?_
 refine AOpsX.cons rfl rfl (Mv _ rfl rfl ?_)
 refine AOpsX.cons rfl rfl (Mv _ rfl rfl ?_)
 refine AOpsX.cons rfl rfl (iS_ rfl rfl rfl sl_57 (by omega) (by omega) ?_)
 refine AOpsX.cons rfl rfl (Lf _ rfl rfl ty_9 (ld1 (by omega) (by omega)) ?_)
 refine AOpsX.cons rfl rfl (AOp.pcallH («as» := [.ptr id ver 0, .str (at_ w 0)]) rfl rfl (rfl) tf_84 ((c_xMat (B := B) h20 o21 (by have := ok.m; omega) (at_ w 0))) ?_)
 intro H25 m26
 have h27 := m26 _ _ h20
 have o28 := Own.mono o21 m26
 have o29 := MO.mono o22 m26
 have m30 := m23.trans m26
 refine AOpsX.cons rfl rfl (Bi _ rfl rfl rfl rfl ?_)
 refine AOpsX.consX rfl rfl (AOpX.need (b := decide (matX s (at_ w 0) < 0)) (k := 12) (as_ := [.bool (decide (matX s (at_ w 0) < 0)), .int .i64 12]) rfl rfl (rfl) tf_77 (c_need _ _) ?_ (fun hb _ m2 => Or.inr ⟨_, rfl, _, gT hb1 (gT hb9 (gT hb17 (gF hb))), rfl, m30.trans m2⟩))
 intro hb31 H32 m33
 have h34 := m33 _ _ h27
 have o35 := Own.mono o28 m33
 have o36 := MO.mono o29 m33
 have m37 := m30.trans m33
 have hp38 := of_decide_eq_true hb31
 refine AOpsX.nil ?_
 change AWP _ _ _ _ _ _
 refine AWP.seq ?_
 refine AWP.regionX (l := [0, 1, 2]) rfl ?_
 refine AOpsX.cons rfl rfl (Mv _ rfl rfl ?_)
 refine AOpsX.cons rfl rfl (AOp.sliceST1 (xs := numsL (w.drop 1)) (l := 0) (h := 3) rfl rfl  sl_68 rfl (hi_of rfl) (by first | omega | (simp; omega)) (by first | omega | (simp; omega)) (by first | omega | (simp; omega)) ?_)
 refine AOpsX.consX rfl rfl (AOpX.need (b := inB 0 255 ((numsL (w.drop 1)).take 3)) (k := 11) (as_ := [.int .i64 0, .int .i64 255, .sl ((numsL (w.drop 1)).take 3).length (((numsL (w.drop 1)).take 3).map eI)]) rfl rfl (rfl) tf_78 (c_within _ _ ((numsL (w.drop 1)).take 3) (by first | omega | assumption | (simp only [List.length_drop, List.length_take]; omega) | (simp; omega) | simp)) ?_ (fun hb _ m2 => Or.inr ⟨_, rfl, _, gT hb1 (gT hb9 (gT hb17 (gT hb31 (gF hb)))), rfl, m37.trans m2⟩))
 intro hb39 H40 m41
 have h42 := m41 _ _ h34
 have o43 := Own.mono o35 m41
 have o44 := MO.mono o36 m41
 have m45 := m37.trans m41
 refine AOpsX.nil ?_
 change AWP _ _ _ _ _ _
 refine AWP.seq ?_
 refine AWP.region_quietX mixed (by kernel_rfl) 9 [9, 10] rfl (by kernel_rfl) (Mono H40) (Mono.refl _) ?_
 refine QV rfl rfl (Q rfl (fun _ _ φ ψ => iS_ rfl (φ 28 rfl) rfl sl_68 (by omega) (by omega) ⟨rfl, ψ⟩) (QL rfl rfl ty_3 (ld1 (by omega) (by omega)) (QV rfl rfl (Q rfl (fun _ _ φ ψ => iS_ rfl (φ 31 rfl) rfl sl_68 (by omega) (by omega) ⟨rfl, ψ⟩) (QL rfl rfl ty_3 (ld1 (by omega) (by omega)) (QV rfl rfl (Q rfl (fun _ _ φ ψ => iS_ rfl (φ 34 rfl) rfl sl_68 (by omega) (by omega) ⟨rfl, ψ⟩) (QL rfl rfl ty_3 (ld1 (by omega) (by omega)) ?_))))))))
 refine QE.done fun H46 m47 => ?_
 have h48 := m47 _ _ h42
 have o49 := Own.mono o43 m47
 have o50 := MO.mono o44 m47
 have m51 := m45.trans m47
 refine AOpsX.cons rfl rfl (AOp.buildSlice (cells := [.int .i64 (at_ (numsL (w.drop 1)) 3), .int .i64 (at_ (numsL (w.drop 1)) 5), .int .i64 (at_ (numsL (w.drop 1)) 6)]) rfl u_68 ts_3 tz_3 rfl rfl rfl ?_)
 intro i52 H53 n54 h55 k56
 have e57 := ne_new h48 n54
 have z58 := Mono.free m51 n54
 have h59 := keep k56 (ne_new h48 n54) h48
 have o60 := Own.keep o49 k56 (Own.notnew o49 n54)
 have no61 := Own.notnew o49 n54
 have o62 := MO.keep o50 k56 (MO.notnew o50 n54)
 have no63 := MO.notnew o50 n54
 have m64 := Mono.new m51 n54 k56
 obtain ⟨v65, e66⟩ : ∃ v : AV, v = .slm i52 0 1 0 3 := ⟨_, rfl⟩
 have o67 : Own B H53 1 v65 3 [.int .i64 (at_ (numsL (w.drop 1)) 3), .int .i64 (at_ (numsL (w.drop 1)) 5), .int .i64 (at_ (numsL (w.drop 1)) 6)] := .inr ⟨_, _, e66, h55, z58, rfl⟩
 have no68 : NotId v65 id := by rw [e66]; exact NotId.slm e57
 have sp69 : Sep v65 vM := by rw [e66]; exact Sep.ofNotId no61
 have sp70 : SepM ((rdL s vL vM vT vS vC vV vF vK).eraseIdx 1) v65 := by rw [e66]; exact SepM.ofNotId no63
 refine AOpsX.consX rfl rfl ?_
 refine AOpX.frz 37 (o67) e66.symm m64 fun H71 m72 k73 => ?_
 have h74 := (k73 _ no68).trans h59
 have o75 := Own.stay o60 (Sep.symm sp69) (fun i hi _ => k73 i hi)
 have o76 := MO.stay o62 sp70 (fun i hi _ => k73 i hi)
 refine AOpX.need (b := inB 0 256 ([at_ (numsL (w.drop 1)) 3, at_ (numsL (w.drop 1)) 5, at_ (numsL (w.drop 1)) 6] : List Int)) (k := 11) (as_ := [.int .i64 0, .int .i64 256, .sl ([at_ (numsL (w.drop 1)) 3, at_ (numsL (w.drop 1)) 5, at_ (numsL (w.drop 1)) 6] : List Int).length (([at_ (numsL (w.drop 1)) 3, at_ (numsL (w.drop 1)) 5, at_ (numsL (w.drop 1)) 6] : List Int).map eI)]) rfl rfl (rfl) tf_78 (c_within _ _ ([at_ (numsL (w.drop 1)) 3, at_ (numsL (w.drop 1)) 5, at_ (numsL (w.drop 1)) 6] : List Int) (by first | omega | assumption | (simp only [List.length_drop, List.length_take]; omega) | (simp; omega) | simp)) ?_ (fun hb _ m2 => Or.inr ⟨_, rfl, _, gT hb1 (gT hb9 (gT hb17 (gT hb31 (gT hb39 (gF hb))))), rfl, m72.trans m2⟩)
 intro hb77 H78 m79
 have h80 := m79 _ _ h74
 have o81 := Own.mono o75 m79
 have o82 := MO.mono o76 m79
 have m83 := m72.trans m79
 refine AOpsX.nil ?_
 change AWP _ _ _ _ _ _
 refine AWP.seq ?_
 refine AWP.regionX (l := [0, 1, 2, 3, 4]) rfl ?_
 refine AOpsX.cons rfl rfl (Mv _ rfl rfl ?_)
 refine AOpsX.cons rfl rfl (iS_ rfl rfl rfl sl_68 (by omega) (by omega) ?_)
 refine AOpsX.cons rfl rfl (Lf _ rfl rfl ty_3 (ld1 (by omega) (by omega)) ?_)
 refine AOpsX.cons rfl rfl (AOp.buildSlice (cells := [.int .i64 (at_ (numsL (w.drop 1)) 4)]) rfl u_68 ts_3 tz_3 rfl rfl rfl ?_)
 intro i84 H85 n86 h87 k88
 have e89 := ne_new h80 n86
 have z90 := Mono.free m83 n86
 have h91 := keep k88 (ne_new h80 n86) h80
 have o92 := Own.keep o81 k88 (Own.notnew o81 n86)
 have no93 := Own.notnew o81 n86
 have o94 := MO.keep o82 k88 (MO.notnew o82 n86)
 have no95 := MO.notnew o82 n86
 have m96 := Mono.new m83 n86 k88
 obtain ⟨v97, e98⟩ : ∃ v : AV, v = .slm i84 0 1 0 1 := ⟨_, rfl⟩
 have o99 : Own B H85 1 v97 1 [.int .i64 (at_ (numsL (w.drop 1)) 4)] := .inr ⟨_, _, e98, h87, z90, rfl⟩
 have no100 : NotId v97 id := by rw [e98]; exact NotId.slm e89
 have sp101 : Sep v97 vM := by rw [e98]; exact Sep.ofNotId no93
 have sp102 : SepM ((rdL s vL vM vT vS vC vV vF vK).eraseIdx 1) v97 := by rw [e98]; exact SepM.ofNotId no95
 refine AOpsX.consX rfl rfl ?_
 refine AOpX.frz 42 (o99) e98.symm m96 fun H103 m104 k105 => ?_
 have h106 := (k105 _ no100).trans h91
 have o107 := Own.stay o92 (Sep.symm sp101) (fun i hi _ => k105 i hi)
 have o108 := MO.stay o94 sp102 (fun i hi _ => k105 i hi)
 refine AOpX.need (b := inB 1 64 ([at_ (numsL (w.drop 1)) 4] : List Int)) (k := 11) (as_ := [.int .i64 1, .int .i64 64, .sl ([at_ (numsL (w.drop 1)) 4] : List Int).length (([at_ (numsL (w.drop 1)) 4] : List Int).map eI)]) rfl rfl (rfl) tf_78 (c_within _ _ ([at_ (numsL (w.drop 1)) 4] : List Int) (by first | omega | assumption | (simp only [List.length_drop, List.length_take]; omega) | (simp; omega) | simp)) ?_ (fun hb _ m2 => Or.inr ⟨_, rfl, _, gT hb1 (gT hb9 (gT hb17 (gT hb31 (gT hb39 (gT hb77 (gF hb)))))), rfl, m104.trans m2⟩)
 intro hb109 H110 m111
 have h112 := m111 _ _ h106
 have o113 := Own.mono o107 m111
 have o114 := MO.mono o108 m111
 have m115 := m104.trans m111
 refine AOpsX.nil ?_
 change AWP _ _ _ _ _ _
 refine AWP.seq ?_
 have h5_ := nums_rng (w.drop 1) 5 (by omega) (by omega)
 have h6_ := nums_rng (w.drop 1) 6 (by omega) (by omega)
 refine AWP.region_quietX mixed (by kernel_rfl) 7 [7, 8] rfl (by kernel_rfl) (Mono H110) (Mono.refl _) ?_
 refine QV rfl rfl (Q rfl (fun _ _ φ ψ => iS_ rfl (φ 44 rfl) rfl sl_68 (by omega) (by omega) ⟨rfl, ψ⟩) (QL rfl rfl ty_3 (ld1 (by omega) (by omega)) (QV rfl rfl (Q rfl (fun _ _ φ ψ => iS_ rfl (φ 47 rfl) rfl sl_68 (by omega) (by omega) ⟨rfl, ψ⟩) (QL rfl rfl ty_3 (ld1 (by omega) (by omega)) (QB rfl rfl rfl (iadd (by omega)) ?_))))))
 refine QE.done fun H116 m117 => ?_
 have h118 := m117 _ _ h112
 have o119 := Own.mono o113 m117
 have o120 := MO.mono o114 m117
 have m121 := m115.trans m117
 refine AOpsX.cons rfl rfl (AOp.buildSlice (cells := [.int .i64 (at_ (numsL (w.drop 1)) 5 + (at_ (numsL (w.drop 1)) 6))]) rfl u_68 ts_3 tz_3 rfl rfl rfl ?_)
 intro i122 H123 n124 h125 k126
 have e127 := ne_new h118 n124
 have z128 := Mono.free m121 n124
 have h129 := keep k126 (ne_new h118 n124) h118
 have o130 := Own.keep o119 k126 (Own.notnew o119 n124)
 have no131 := Own.notnew o119 n124
 have o132 := MO.keep o120 k126 (MO.notnew o120 n124)
 have no133 := MO.notnew o120 n124
 have m134 := Mono.new m121 n124 k126
 obtain ⟨v135, e136⟩ : ∃ v : AV, v = .slm i122 0 1 0 1 := ⟨_, rfl⟩
 have o137 : Own B H123 1 v135 1 [.int .i64 (at_ (numsL (w.drop 1)) 5 + (at_ (numsL (w.drop 1)) 6))] := .inr ⟨_, _, e136, h125, z128, rfl⟩
 have no138 : NotId v135 id := by rw [e136]; exact NotId.slm e127
 have sp139 : Sep v135 vM := by rw [e136]; exact Sep.ofNotId no131
 have sp140 : SepM ((rdL s vL vM vT vS vC vV vF vK).eraseIdx 1) v135 := by rw [e136]; exact SepM.ofNotId no133
 refine AOpsX.consX rfl rfl ?_
 refine AOpX.frz 51 (o137) e136.symm m134 fun H141 m142 k143 => ?_
 have h144 := (k143 _ no138).trans h129
 have o145 := Own.stay o130 (Sep.symm sp139) (fun i hi _ => k143 i hi)
 have o146 := MO.stay o132 sp140 (fun i hi _ => k143 i hi)
 refine AOpX.need (b := inB 0 256 ([at_ (numsL (w.drop 1)) 5 + (at_ (numsL (w.drop 1)) 6)] : List Int)) (k := 11) (as_ := [.int .i64 0, .int .i64 256, .sl ([at_ (numsL (w.drop 1)) 5 + (at_ (numsL (w.drop 1)) 6)] : List Int).length (([at_ (numsL (w.drop 1)) 5 + (at_ (numsL (w.drop 1)) 6)] : List Int).map eI)]) rfl rfl (rfl) tf_78 (c_within _ _ ([at_ (numsL (w.drop 1)) 5 + (at_ (numsL (w.drop 1)) 6)] : List Int) (by first | omega | assumption | (simp only [List.length_drop, List.length_take]; omega) | (simp; omega) | simp)) ?_ (fun hb _ m2 => Or.inr ⟨_, rfl, _, gT hb1 (gT hb9 (gT hb17 (gT hb31 (gT hb39 (gT hb77 (gT hb109 (gF hb))))))), rfl, m142.trans m2⟩)
 intro hb147 H148 m149
 have h150 := m149 _ _ h144
 have o151 := Own.mono o145 m149
 have o152 := MO.mono o146 m149
 have m153 := m142.trans m149
 refine AOpsX.nil ?_
 change AWP _ _ _ _ _ _
 refine AWP.seq ?_
 refine AWP.regionX (l := [0, 1, 2, 3, 4]) rfl ?_
 refine AOpsX.cons rfl rfl (Mv _ rfl rfl ?_)
 refine AOpsX.cons rfl rfl (iS_ rfl rfl rfl sl_68 (by omega) (by omega) ?_)
 refine AOpsX.cons rfl rfl (Lf _ rfl rfl ty_3 (ld1 (by omega) (by omega)) ?_)
 refine AOpsX.cons rfl rfl (AOp.buildSlice (cells := [.int .i64 (at_ (numsL (w.drop 1)) 7)]) rfl u_68 ts_3 tz_3 rfl rfl rfl ?_)
 intro i154 H155 n156 h157 k158
 have e159 := ne_new h150 n156
 have z160 := Mono.free m153 n156
 have h161 := keep k158 (ne_new h150 n156) h150
 have o162 := Own.keep o151 k158 (Own.notnew o151 n156)
 have no163 := Own.notnew o151 n156
 have o164 := MO.keep o152 k158 (MO.notnew o152 n156)
 have no165 := MO.notnew o152 n156
 have m166 := Mono.new m153 n156 k158
 obtain ⟨v167, e168⟩ : ∃ v : AV, v = .slm i154 0 1 0 1 := ⟨_, rfl⟩
 have o169 : Own B H155 1 v167 1 [.int .i64 (at_ (numsL (w.drop 1)) 7)] := .inr ⟨_, _, e168, h157, z160, rfl⟩
 have no170 : NotId v167 id := by rw [e168]; exact NotId.slm e159
 have sp171 : Sep v167 vM := by rw [e168]; exact Sep.ofNotId no163
 have sp172 : SepM ((rdL s vL vM vT vS vC vV vF vK).eraseIdx 1) v167 := by rw [e168]; exact SepM.ofNotId no165
 refine AOpsX.consX rfl rfl ?_
 refine AOpX.frz 56 (o169) e168.symm m166 fun H173 m174 k175 => ?_
 have h176 := (k175 _ no170).trans h161
 have o177 := Own.stay o162 (Sep.symm sp171) (fun i hi _ => k175 i hi)
 have o178 := MO.stay o164 sp172 (fun i hi _ => k175 i hi)
 refine AOpX.need (b := inB 64 1024 ([at_ (numsL (w.drop 1)) 7] : List Int)) (k := 11) (as_ := [.int .i64 64, .int .i64 1024, .sl ([at_ (numsL (w.drop 1)) 7] : List Int).length (([at_ (numsL (w.drop 1)) 7] : List Int).map eI)]) rfl rfl (rfl) tf_78 (c_within _ _ ([at_ (numsL (w.drop 1)) 7] : List Int) (by first | omega | assumption | (simp only [List.length_drop, List.length_take]; omega) | (simp; omega) | simp)) ?_ (fun hb _ m2 => Or.inr ⟨_, rfl, _, gT hb1 (gT hb9 (gT hb17 (gT hb31 (gT hb39 (gT hb77 (gT hb109 (gT hb147 (gF hb)))))))), rfl, m174.trans m2⟩)
 intro hb179 H180 m181
 have h182 := m181 _ _ h176
 have o183 := Own.mono o177 m181
 have o184 := MO.mono o178 m181
 have m185 := m174.trans m181
 refine AOpsX.nil ?_
 change AWP _ _ _ _ _ _
 refine AWP.region_str mixed (by kernel_rfl) [(0, none), (1, none), (2, none), (3, none), (4, none), (5, none), (6, none), (7, none), (8, none), (9, none), (10, none), (11, none), (12, none), (13, none), (14, none), (15, none), (16, none), (17, none), (18, none), (19, none), (20, none), (21, none), (22, none), (23, none), (24, none), (25, none), (26, none), (27, some [0, 1, 2, 3, 4, 5]), (28, some [0])] [29, 30, 31, 32] (by kernel_rfl) ?_
 refine STR.op rfl rfl (.inl ⟨rfl, fun H1 f' H' hf hN hM => Mv _ rfl ((hf 0 rfl).trans rfl) ⟨rfl, hN⟩⟩) ?_
 refine STR.op rfl rfl (.inl ⟨rfl, fun H1 f' H' hf hN hM => Mv _ rfl ((hf 0 rfl).trans rfl) ⟨rfl, hN⟩⟩) ?_
 refine STR.op rfl rfl (.inl ⟨rfl, fun H1 f' H' hf hN hM => nc_ (.ptr id ver 0) rfl ((hf 59 rfl).trans rfl) rfl ⟨rfl, hN⟩⟩) ?_
 refine STR.op rfl rfl (.inl ⟨rfl, fun H1 f' H' hf hN hM => Fa rfl ((hf 60 rfl).trans rfl) fl_56_0 ⟨rfl, hN⟩ (hid := ⟨_, (hM _ _ h182)⟩)⟩) ?_
 refine STR.op rfl rfl (.inl ⟨rfl, fun H1 f' H' hf hN hM => Fa rfl ((hf 61 rfl).trans rfl) fl_35_3 ⟨rfl, hN⟩ (hid := ⟨_, (hM _ _ h182)⟩)⟩) ?_
 refine STR.op rfl rfl (.inl ⟨rfl, fun H1 f' H' hf hN hM => Ld _ rfl ((hf 62 rfl).trans rfl) ty_30 (hM _ _ h182) rfl ⟨rfl, hN⟩⟩) ?_
 refine STR.op rfl rfl (.inl ⟨rfl, fun H1 f' H' hf hN hM => Mv _ rfl ((hf 1 rfl).trans rfl) ⟨rfl, hN⟩⟩) ?_
 refine STR.op rfl rfl (.inl ⟨rfl, fun H1 f' H' hf hN hM => iS_ rfl ((hf 64 rfl).trans rfl) rfl sl_57 (by omega) (by omega) ⟨rfl, hN⟩⟩) ?_
 refine STR.op rfl rfl (.inl ⟨rfl, fun H1 f' H' hf hN hM => Lf _ rfl ((hf 65 rfl).trans rfl) ty_9 (ld1 (by omega) (by omega)) ⟨rfl, hN⟩⟩) ?_
 refine STR.op rfl rfl (.inl ⟨rfl, fun H1 f' H' hf hN hM => Mv _ rfl ((hf 4 rfl).trans rfl) ⟨rfl, hN⟩⟩) ?_
 refine STR.op rfl rfl (.inl ⟨rfl, fun H1 f' H' hf hN hM => Pc («as» := [.sl (numsL (w.drop 1)).length ((numsL (w.drop 1)).map eI)]) rfl rfl (lapp (lcons ((hf 67 rfl).trans rfl) rfl) rfl) tf_80 (c_color (numsL (w.drop 1)) (by first | omega | (simp; omega))) fun H2 m2 => ⟨rfl, hN.trans m2⟩⟩) ?_
 refine STR.op rfl rfl (.inl ⟨rfl, fun H1 f' H' hf hN hM => Mv _ rfl ((hf 4 rfl).trans rfl) ⟨rfl, hN⟩⟩) ?_
 refine STR.op rfl rfl (.inl ⟨rfl, fun H1 f' H' hf hN hM => iS_ rfl ((hf 69 rfl).trans rfl) rfl sl_68 (by omega) (by omega) ⟨rfl, hN⟩⟩) ?_
 refine STR.op rfl rfl (.inl ⟨rfl, fun H1 f' H' hf hN hM => Lf _ rfl ((hf 70 rfl).trans rfl) ty_3 (ld1 (by omega) (by omega)) ⟨rfl, hN⟩⟩) ?_
 refine STR.op rfl rfl (.inl ⟨rfl, fun H1 f' H' hf hN hM => Mv _ rfl ((hf 4 rfl).trans rfl) ⟨rfl, hN⟩⟩) ?_
 refine STR.op rfl rfl (.inl ⟨rfl, fun H1 f' H' hf hN hM => iS_ rfl ((hf 72 rfl).trans rfl) rfl sl_68 (by omega) (by omega) ⟨rfl, hN⟩⟩) ?_
 refine STR.op rfl rfl (.inl ⟨rfl, fun H1 f' H' hf hN hM => Lf _ rfl ((hf 73 rfl).trans rfl) ty_3 (ld1 (by omega) (by omega)) ⟨rfl, hN⟩⟩) ?_
 refine STR.op rfl rfl (.inl ⟨rfl, fun H1 f' H' hf hN hM => Mv _ rfl ((hf 4 rfl).trans rfl) ⟨rfl, hN⟩⟩) ?_
 refine STR.op rfl rfl (.inl ⟨rfl, fun H1 f' H' hf hN hM => iS_ rfl ((hf 75 rfl).trans rfl) rfl sl_68 (by omega) (by omega) ⟨rfl, hN⟩⟩) ?_
 refine STR.op rfl rfl (.inl ⟨rfl, fun H1 f' H' hf hN hM => Lf _ rfl ((hf 76 rfl).trans rfl) ty_3 (ld1 (by omega) (by omega)) ⟨rfl, hN⟩⟩) ?_
 refine STR.op rfl rfl (.inl ⟨rfl, fun H1 f' H' hf hN hM => Mv _ rfl ((hf 4 rfl).trans rfl) ⟨rfl, hN⟩⟩) ?_
 refine STR.op rfl rfl (.inl ⟨rfl, fun H1 f' H' hf hN hM => iS_ rfl ((hf 78 rfl).trans rfl) rfl sl_68 (by omega) (by omega) ⟨rfl, hN⟩⟩) ?_
 refine STR.op rfl rfl (.inl ⟨rfl, fun H1 f' H' hf hN hM => Lf _ rfl ((hf 79 rfl).trans rfl) ty_3 (ld1 (by omega) (by omega)) ⟨rfl, hN⟩⟩) ?_
 refine STR.op rfl rfl (.inl ⟨rfl, fun H1 f' H' hf hN hM => Mv _ rfl ((hf 4 rfl).trans rfl) ⟨rfl, hN⟩⟩) ?_
 refine STR.op rfl rfl (.inl ⟨rfl, fun H1 f' H' hf hN hM => iS_ rfl ((hf 81 rfl).trans rfl) rfl sl_68 (by omega) (by omega) ⟨rfl, hN⟩⟩) ?_
 refine STR.op rfl rfl (.inl ⟨rfl, fun H1 f' H' hf hN hM => Lf _ rfl ((hf 82 rfl).trans rfl) ty_3 (ld1 (by omega) (by omega)) ⟨rfl, hN⟩⟩) ?_
 refine STR.op rfl rfl (.inl ⟨rfl, fun H1 f' H' hf hN hM => Bl (cells := [.str (at_ w 0), .int .i64 ((colR (numsL (w.drop 1))).R), .int .i64 ((colR (numsL (w.drop 1))).G), .int .i64 ((colR (numsL (w.drop 1))).B), .int .i64 (at_ (numsL (w.drop 1)) 3), .int .i64 (at_ (numsL (w.drop 1)) 4), .int .i64 (at_ (numsL (w.drop 1)) 5), .int .i64 (at_ (numsL (w.drop 1)) 6), .int .i64 (at_ (numsL (w.drop 1)) 7)]) rfl tz_67 pl_67 (lconsP ((hf 66 rfl).trans rfl) (lconsP ((hf 68 rfl).trans rfl) (lconsP ((hf 71 rfl).trans rfl) (lconsP ((hf 74 rfl).trans rfl) (lconsP ((hf 77 rfl).trans rfl) (lconsP ((hf 80 rfl).trans rfl) (lconsP ((hf 83 rfl).trans rfl) rfl))))))) rfl ⟨rfl, hN⟩⟩) ?_
 refine STR.eff rfl rfl rfl fun f186 H187 hf188 m189 => ?_
 have h190 := m189 _ _ h182
 have o191 := Own.mono o183 m189
 have o192 := MO.mono o184 m189
 have m193 := m185.trans m189
 refine AOp.buildSlice (cells := [.str (at_ w 0), .int .i64 ((colR (numsL (w.drop 1))).R), .int .i64 ((colR (numsL (w.drop 1))).G), .int .i64 ((colR (numsL (w.drop 1))).B), .int .i64 (at_ (numsL (w.drop 1)) 3), .int .i64 (at_ (numsL (w.drop 1)) 4), .int .i64 (at_ (numsL (w.drop 1)) 5), .int .i64 (at_ (numsL (w.drop 1)) 6), .int .i64 (at_ (numsL (w.drop 1)) 7)]) rfl u_30 ts_67 tz_67 rfl (lconsP ((hf188 84 rfl).trans rfl) rfl) rfl ?_
 intro i194 H195 n196 h197 k198
 have h201 := keep k198 (ne_new h190 n196) h190
 have o202 := Own.keep o191 k198 (Own.notnew o191 n196)
 have o204 := MO.keep o192 k198 (MO.notnew o192 n196)
 have m206 := Mono.new m193 n196 k198
 refine ⟨_, rfl, .inl (Mono.new (Mono.refl _) n196 k198), ?_⟩
 refine STR.eff rfl rfl rfl fun f207 H208 hf209 m210 => ?_
 have h211 := m210 _ _ h201
 have h212 := m210 _ _ h197
 have o213 := Own.mono o202 m210
 have o214 := MO.mono o204 m210
 have m215 := m206.trans m210
 refine AOp.append_own (es := 9) (m := 1) (len := s.mats.length) (old := s.mats.flatMap eMat) (cells := [.str (at_ w 0), .int .i64 ((colR (numsL (w.drop 1))).R), .int .i64 ((colR (numsL (w.drop 1))).G), .int .i64 ((colR (numsL (w.drop 1))).B), .int .i64 (at_ (numsL (w.drop 1)) 3), .int .i64 (at_ (numsL (w.drop 1)) 4), .int .i64 (at_ (numsL (w.drop 1)) 5), .int .i64 (at_ (numsL (w.drop 1)) 6), .int .i64 (at_ (numsL (w.drop 1)) 7)]) rfl u_30 ts_67 tzn_67 tb_67 (by decide) ni_30 ((hf209 63 rfl).trans rfl) o213 m215 ((hf209 85 rfl).trans rfl) (.slm h212 rfl) (one_of rfl) (by decide) (by first | omega | (simp; omega)) ?_
 intro v216 H217 o218 m219 k220 j221
 have o222 := Own.snocM (xs := (s.mats : List MatT)) (y := (MatT.mk (at_ w 0) (colR (numsL (w.drop 1))) (at_ (numsL (w.drop 1)) 3) (at_ (numsL (w.drop 1)) 4) (at_ (numsL (w.drop 1)) 5) (at_ (numsL (w.drop 1)) 6) (at_ (numsL (w.drop 1)) 7))) (e := eMat) (by simp) o218
 have h223 := (k220 _ nM (by rw [h211]; simp)).trans h211
 have no224 := j221 _ nM (by rw [h211]; simp)
 have sp226 := MO.sep o214 spM j221
 have o225 := MO.stay o214 spM k220
 refine ⟨_, rfl, .inr (RevR.skip rfl (RevR.skip rfl (RevR.skip rfl (RevR.skip rfl (RevR.skip rfl (RevR.skip rfl (RevR.skip rfl (RevR.skip rfl (RevR.skip rfl (RevR.skip rfl (RevR.skip rfl (RevR.skip rfl (RevR.skip rfl (RevR.skip rfl (RevR.skip rfl (RevR.skip rfl (RevR.skip rfl (RevR.skip rfl (RevR.skip rfl (RevR.skip rfl (RevR.skip rfl (RevR.skip rfl (RevR.skip rfl (RevR.skip rfl (RevR.skip rfl (RevR.skip rfl (RevR.skip rfl (RevR.cons rfl (.inl ⟨rfl, fun H1 f' H' hf hN hM => Mv _ rfl ((hf 0 rfl).trans rfl) ⟨rfl, hN⟩⟩) RevR.nil)))))))))))))))))))))))))))), ?_⟩
 refine STR.done fun H227 m228 => ?_
 have h229 := m228 _ _ h223
 have o230 := MO.mono o225 m228
 have o231 := Own.mono o222 m228
 have m232 := m219.trans m228
 refine C rfl (nc_ (.ptr id ver 0) rfl rfl rfl ?_)
 refine C rfl (Fa rfl rfl fl_56_0 ?_ (hid := ⟨_, h229⟩))
 refine C rfl (Fa rfl rfl fl_35_3 ?_ (hid := ⟨_, h229⟩))
 refine C rfl (AOp.storeO (cells' := rdC s.cam s.sky vL v216 vT vS vC s.hc s.hs) rfl rfl o231 ts_30 h229 rfl rfl ?_)
 intro H233 h234 k235
 have o237 := MO.keep o230 k235 ngM
 have o238 := Own.keep o231 k235 no224
 have m239 := Mono.set m232 hB k235
 refine AOps.nil ?_
 refine Or.inl ?_
 refine ⟨_, _, Ghost.refl, .inl rfl, _, Res.zero rfl, _, gT hb1 (gT hb9 (gT hb17 (gT hb31 (gT hb39 (gT hb77 (gT hb109 (gT hb147 (gT hb179 rfl)))))))), ⟨_, _, _, _, _, _, _, _, h234, hB, MO.put 1 (by simp [rdL]) o237 o238 sp226, NotIdM.put 1 ngM no224⟩, m239, rfl⟩
theorem c_readTexture {B H0 : Heap} {id ver : Nat} {s : Rd} (hm : Mono B H0) (hs : RD B H0 id ver s) (ok : RdOk s) (w : List ByteArray) (hw : w.length ≤ 1048576) : ACallsX Tryz.prog 35 [.ptr id ver 0, .sl w.length (w.map eStr)] H0 (fun r H' => ∃ t, textureP s w = .ok t ∧ RD B H' id ver t ∧ Mono B H' ∧ r = .tup []) (fun ch H' => ∃ k, textureP s w = .error k ∧ ch = pan 36 k ∧ Mono B H') := by
 obtain ⟨vL, vM, vT, vS, vC, vV, vF, vK, hrow, hB, hg, hn⟩ := hs
 obtain ⟨oT', ogT, spT⟩ := hg.at 2 rfl
 have oT : Own B H0 4 vT s.texs.length (s.texs.flatMap eTex) := oT'
 have nT : NotId vT id := hn.at 2 rfl
 have ngT := hn.erase 2
 refine ACallsX.of_body' (n := 66) rfl rfl rfl rfl ?_
 have m0 := hm
 refine AWP.seq ?_
 refine AWP.regionX (l := [0, 1]) rfl ?_
 refine AOpsX.cons rfl rfl (Mv _ rfl rfl ?_)
 refine AOpsX.consX rfl rfl (AOpX.need (b := namedB w 1 3) (k := 10) (as_ := [.sl w.length (w.map eStr), .int .i64 1, .int .i64 3]) rfl rfl (rfl) tf_81 (c_named w (by first | omega | assumption | (simp only [List.length_drop, List.length_take]; omega) | (simp; omega) | simp) _ _ (by omega) (by omega)) ?_ (fun hb _ m2 => Or.inr ⟨_, rfl, _, gF hb, rfl, m0.trans m2⟩))
 intro hb1 H2 m3
 have h4 := m3 _ _ hrow
 have o5 := Own.mono oT m3
 have o6 := MO.mono ogT m3
 have m7 := m0.trans m3
 have hl8 := named_len hb1
 refine AOpsX.nil ?_
 change AWP _ _ _ _ _ _
 refine AWP.seq ?_
 refine AWP.regionX (l := [0, 1, 2, 3]) rfl ?_
 refine AOpsX.cons rfl rfl (Mv _ rfl rfl ?_)
 refine AOpsX.cons rfl rfl (AOp.sliceSD1 (xs := w) (l := 1) (h := (w.length : Int)) rfl rfl  sl_57 (lo_of rfl) rfl (by first | omega | (simp; omega)) (by first | omega | (simp; omega)) (by first | omega | (simp; omega)) rfl ?_)
 refine AOpsX.consX rfl rfl (AOpX.need (b := numsB (w.drop 1)) (k := 10) (as_ := [.sl (w.drop 1).length ((w.drop 1).map eStr)]) rfl rfl (rfl) tf_82 (c_numbers (w.drop 1) (by first | omega | assumption | (simp only [List.length_drop, List.length_take]; omega) | (simp; omega) | simp)) ?_ (fun hb _ m2 => Or.inr ⟨_, rfl, _, gT hb1 (gF hb), rfl, m7.trans m2⟩))
 intro hb9 H10 m11
 have h12 := m11 _ _ h4
 have o13 := Own.mono o5 m11
 have o14 := MO.mono o6 m11
 have m15 := m7.trans m11
 have hl16 := numsL_len (w.drop 1)
 refine AOpsX.cons rfl rfl (As _ rfl rfl ?_)
 refine AOpsX.nil ?_
 change AWP _ _ _ _ _ _
 refine AWP.seq ?_
 have hld := nums_drop w (by omega)
 have h0_ := nums_rng (w.drop 1) 0 (by omega) (by omega)
 have h1_ := nums_rng (w.drop 1) 1 (by omega) (by omega)
 refine AWP.region_quietX mixed (by kernel_rfl) 11 [11] rfl (by kernel_rfl) (Mono H10) (Mono.refl _) ?_
 refine QV rfl rfl (Q rfl (fun _ _ φ ψ => iS_ rfl (φ 10 rfl) rfl sl_68 (by omega) (by omega) ⟨rfl, ψ⟩) (QL rfl rfl ty_3 (ld1 (by omega) (by omega)) (QV rfl rfl (Q rfl (fun _ _ φ ψ => iS_ rfl (φ 13 rfl) rfl sl_68 (by omega) (by omega) ⟨rfl, ψ⟩) (QL rfl rfl ty_3 (ld1 (by omega) (by omega)) (QB rfl rfl rfl (imul (by have := mul_rng h0_ h1_; omega)) (QV rfl rfl (Q rfl (fun _ _ φ ψ => AOp.len (m := (numsL (w.drop 1)).length) rfl (φ 17 rfl) (.inr (.inl ⟨_, rfl⟩)) u_68 ⟨rfl, ψ⟩) (QB rfl rfl rfl (isub (by omega)) (QB rfl rfl rfl ieq ?_))))))))))
 refine QE.done fun H17 m18 => ?_
 have h19 := m18 _ _ h12
 have o20 := Own.mono o13 m18
 have o21 := MO.mono o14 m18
 have m22 := m15.trans m18
 refine AOpsX.consX rfl rfl (AOpX.need (b := decide ((at_ (numsL (w.drop 1)) 0) * (at_ (numsL (w.drop 1)) 1) = (((numsL (w.drop 1)).length) : Int) - 2)) (k := 10) (as_ := [.bool (decide ((at_ (numsL (w.drop 1)) 0) * (at_ (numsL (w.drop 1)) 1) = (((numsL (w.drop 1)).length) : Int) - 2)), .int .i64 10]) rfl rfl (rfl) tf_77 (c_need _ _) ?_ (fun hb _ m2 => Or.inr ⟨_, rfl, _, gT hb1 (gT hb9 (gF hb)), rfl, m22.trans m2⟩))
 intro hb23 H24 m25
 have h26 := m25 _ _ h19
 have o27 := Own.mono o20 m25
 have o28 := MO.mono o21 m25
 have m29 := m22.trans m25
 have hp30 := of_decide_eq_true hb23
 refine AOpsX.nil ?_
 change AWP _ _ _ _ _ _
 refine AWP.seq ?_
 refine AWP.regionX (l := [0, 1, 2, 3, 4, 5, 6, 7]) rfl ?_
 refine AOpsX.cons rfl rfl (Mv _ rfl rfl ?_)
 refine AOpsX.cons rfl rfl (nc_ (.ptr id ver 0) rfl rfl rfl ?_)
 refine AOpsX.cons rfl rfl (Fa rfl rfl fl_56_0 ?_ (hid := ⟨_, h26⟩))
 refine AOpsX.cons rfl rfl (Fa rfl rfl fl_35_4 ?_ (hid := ⟨_, h26⟩))
 refine AOpsX.cons rfl rfl (Ld _ rfl rfl ty_31 h26 rfl ?_)
 refine AOpsX.cons rfl rfl (AOp.len_own (m := s.texs.length) rfl rfl o27 u_31 ?_)
 refine AOpsX.cons rfl rfl (Bi _ rfl rfl rfl rfl ?_)
 refine AOpsX.consX rfl rfl (AOpX.need (b := decide ((s.texs.length : Int) < 4)) (k := 13) (as_ := [.bool (decide ((s.texs.length : Int) < 4)), .int .i64 13]) rfl rfl (rfl) tf_77 (c_need _ _) ?_ (fun hb _ m2 => Or.inr ⟨_, rfl, _, gT hb1 (gT hb9 (gT hb23 (gF hb))), rfl, m29.trans m2⟩))
 intro hb31 H32 m33
 have h34 := m33 _ _ h26
 have o35 := Own.mono o27 m33
 have o36 := MO.mono o28 m33
 have m37 := m29.trans m33
 have hp38 := of_decide_eq_true hb31
 refine AOpsX.nil ?_
 change AWP _ _ _ _ _ _
 refine AWP.seq ?_
 refine AWP.regionX (l := [0, 1, 2, 3, 4, 5, 6]) rfl ?_
 refine AOpsX.cons rfl rfl (Mv _ rfl rfl ?_)
 refine AOpsX.cons rfl rfl (Mv _ rfl rfl ?_)
 refine AOpsX.cons rfl rfl (iS_ rfl rfl rfl sl_57 (by omega) (by omega) ?_)
 refine AOpsX.cons rfl rfl (Lf _ rfl rfl ty_9 (ld1 (by omega) (by omega)) ?_)
 refine AOpsX.cons rfl rfl (AOp.pcallH («as» := [.ptr id ver 0, .str (at_ w 0)]) rfl rfl (rfl) tf_83 ((c_xTex (B := B) h34 o35 (by have := ok.t; omega) (at_ w 0))) ?_)
 intro H39 m40
 have h41 := m40 _ _ h34
 have o42 := Own.mono o35 m40
 have o43 := MO.mono o36 m40
 have m44 := m37.trans m40
 refine AOpsX.cons rfl rfl (Bi _ rfl rfl rfl rfl ?_)
 refine AOpsX.consX rfl rfl (AOpX.need (b := decide (texX s (at_ w 0) < 0)) (k := 12) (as_ := [.bool (decide (texX s (at_ w 0) < 0)), .int .i64 12]) rfl rfl (rfl) tf_77 (c_need _ _) ?_ (fun hb _ m2 => Or.inr ⟨_, rfl, _, gT hb1 (gT hb9 (gT hb23 (gT hb31 (gF hb)))), rfl, m44.trans m2⟩))
 intro hb45 H46 m47
 have h48 := m47 _ _ h41
 have o49 := Own.mono o42 m47
 have o50 := MO.mono o43 m47
 have m51 := m44.trans m47
 have hp52 := of_decide_eq_true hb45
 refine AOpsX.nil ?_
 change AWP _ _ _ _ _ _
 refine AWP.seq ?_
 refine AWP.regionX (l := [0, 1, 2]) rfl ?_
 refine AOpsX.cons rfl rfl (Mv _ rfl rfl ?_)
 refine AOpsX.cons rfl rfl (AOp.sliceST1 (xs := numsL (w.drop 1)) (l := 0) (h := 2) rfl rfl  sl_68 rfl (hi_of rfl) (by first | omega | (simp; omega)) (by first | omega | (simp; omega)) (by first | omega | (simp; omega)) ?_)
 refine AOpsX.consX rfl rfl (AOpX.need (b := inB 1 16 ((numsL (w.drop 1)).take 2)) (k := 11) (as_ := [.int .i64 1, .int .i64 16, .sl ((numsL (w.drop 1)).take 2).length (((numsL (w.drop 1)).take 2).map eI)]) rfl rfl (rfl) tf_78 (c_within _ _ ((numsL (w.drop 1)).take 2) (by first | omega | assumption | (simp only [List.length_drop, List.length_take]; omega) | (simp; omega) | simp)) ?_ (fun hb _ m2 => Or.inr ⟨_, rfl, _, gT hb1 (gT hb9 (gT hb23 (gT hb31 (gT hb45 (gF hb))))), rfl, m51.trans m2⟩))
 intro hb53 H54 m55
 have h56 := m55 _ _ h48
 have o57 := Own.mono o49 m55
 have o58 := MO.mono o50 m55
 have m59 := m51.trans m55
 refine AOpsX.nil ?_
 change AWP _ _ _ _ _ _
 refine AWP.seq ?_
 refine AWP.regionX (l := [0, 1, 2]) rfl ?_
 refine AOpsX.cons rfl rfl (Mv _ rfl rfl ?_)
 refine AOpsX.cons rfl rfl (AOp.sliceSD1 (xs := numsL (w.drop 1)) (l := 2) (h := (((numsL (w.drop 1)).length) : Int)) rfl rfl  sl_68 (lo_of rfl) rfl (by first | omega | (simp; omega)) (by first | omega | (simp; omega)) (by first | omega | (simp; omega)) rfl ?_)
 refine AOpsX.consX rfl rfl (AOpX.need (b := inB 0 255 ((numsL (w.drop 1)).drop 2)) (k := 11) (as_ := [.int .i64 0, .int .i64 255, .sl ((numsL (w.drop 1)).drop 2).length (((numsL (w.drop 1)).drop 2).map eI)]) rfl rfl (rfl) tf_78 (c_within _ _ ((numsL (w.drop 1)).drop 2) (by first | omega | assumption | (simp only [List.length_drop, List.length_take]; omega) | (simp; omega) | simp)) ?_ (fun hb _ m2 => Or.inr ⟨_, rfl, _, gT hb1 (gT hb9 (gT hb23 (gT hb31 (gT hb45 (gT hb53 (gF hb)))))), rfl, m59.trans m2⟩))
 intro hb60 H61 m62
 have h63 := m62 _ _ h56
 have o64 := Own.mono o57 m62
 have o65 := MO.mono o58 m62
 have m66 := m59.trans m62
 refine AOpsX.nil ?_
 change AWP _ _ _ _ _ _
 refine AWP.region_str mixed (by kernel_rfl) [(0, none), (1, none), (2, none), (3, none), (4, none), (5, none), (6, none), (7, none), (8, none), (9, none), (10, none), (11, none), (12, none), (13, none), (14, none), (15, none), (16, none), (17, none), (18, some [0, 1, 2, 3, 4, 5]), (19, some [0])] [20, 21, 22, 23] (by kernel_rfl) ?_
 refine STR.op rfl rfl (.inl ⟨rfl, fun H1 f' H' hf hN hM => Mv _ rfl ((hf 0 rfl).trans rfl) ⟨rfl, hN⟩⟩) ?_
 refine STR.op rfl rfl (.inl ⟨rfl, fun H1 f' H' hf hN hM => Mv _ rfl ((hf 0 rfl).trans rfl) ⟨rfl, hN⟩⟩) ?_
 refine STR.op rfl rfl (.inl ⟨rfl, fun H1 f' H' hf hN hM => nc_ (.ptr id ver 0) rfl ((hf 44 rfl).trans rfl) rfl ⟨rfl, hN⟩⟩) ?_
 refine STR.op rfl rfl (.inl ⟨rfl, fun H1 f' H' hf hN hM => Fa rfl ((hf 45 rfl).trans rfl) fl_56_0 ⟨rfl, hN⟩ (hid := ⟨_, (hM _ _ h63)⟩)⟩) ?_
 refine STR.op rfl rfl (.inl ⟨rfl, fun H1 f' H' hf hN hM => Fa rfl ((hf 46 rfl).trans rfl) fl_35_4 ⟨rfl, hN⟩ (hid := ⟨_, (hM _ _ h63)⟩)⟩) ?_
 refine STR.op rfl rfl (.inl ⟨rfl, fun H1 f' H' hf hN hM => Ld _ rfl ((hf 47 rfl).trans rfl) ty_31 (hM _ _ h63) rfl ⟨rfl, hN⟩⟩) ?_
 refine STR.op rfl rfl (.inl ⟨rfl, fun H1 f' H' hf hN hM => Mv _ rfl ((hf 1 rfl).trans rfl) ⟨rfl, hN⟩⟩) ?_
 refine STR.op rfl rfl (.inl ⟨rfl, fun H1 f' H' hf hN hM => iS_ rfl ((hf 49 rfl).trans rfl) rfl sl_57 (by omega) (by omega) ⟨rfl, hN⟩⟩) ?_
 refine STR.op rfl rfl (.inl ⟨rfl, fun H1 f' H' hf hN hM => Lf _ rfl ((hf 50 rfl).trans rfl) ty_9 (ld1 (by omega) (by omega)) ⟨rfl, hN⟩⟩) ?_
 refine STR.op rfl rfl (.inl ⟨rfl, fun H1 f' H' hf hN hM => Mv _ rfl ((hf 4 rfl).trans rfl) ⟨rfl, hN⟩⟩) ?_
 refine STR.op rfl rfl (.inl ⟨rfl, fun H1 f' H' hf hN hM => iS_ rfl ((hf 52 rfl).trans rfl) rfl sl_68 (by omega) (by omega) ⟨rfl, hN⟩⟩) ?_
 refine STR.op rfl rfl (.inl ⟨rfl, fun H1 f' H' hf hN hM => Lf _ rfl ((hf 53 rfl).trans rfl) ty_3 (ld1 (by omega) (by omega)) ⟨rfl, hN⟩⟩) ?_
 refine STR.op rfl rfl (.inl ⟨rfl, fun H1 f' H' hf hN hM => Mv _ rfl ((hf 4 rfl).trans rfl) ⟨rfl, hN⟩⟩) ?_
 refine STR.op rfl rfl (.inl ⟨rfl, fun H1 f' H' hf hN hM => iS_ rfl ((hf 55 rfl).trans rfl) rfl sl_68 (by omega) (by omega) ⟨rfl, hN⟩⟩) ?_
 refine STR.op rfl rfl (.inl ⟨rfl, fun H1 f' H' hf hN hM => Lf _ rfl ((hf 56 rfl).trans rfl) ty_3 (ld1 (by omega) (by omega)) ⟨rfl, hN⟩⟩) ?_
 refine STR.op rfl rfl (.inl ⟨rfl, fun H1 f' H' hf hN hM => Mv _ rfl ((hf 4 rfl).trans rfl) ⟨rfl, hN⟩⟩) ?_
 refine STR.op rfl rfl (.inl ⟨rfl, fun H1 f' H' hf hN hM => AOp.sliceSD1 (xs := numsL (w.drop 1)) (l := 2) (h := (((numsL (w.drop 1)).length) : Int)) rfl ((hf 58 rfl).trans rfl)  sl_68 (lo_of rfl) rfl (by first | omega | (simp; omega)) (by first | omega | (simp; omega)) (by first | omega | (simp; omega)) rfl ⟨rfl, hN⟩⟩) ?_
 refine STR.op rfl rfl (.inl ⟨rfl, fun H1 f' H' hf hN hM => Bl (cells := [.str (at_ w 0), .int .i64 (at_ (numsL (w.drop 1)) 0), .int .i64 (at_ (numsL (w.drop 1)) 1), .sl ((numsL (w.drop 1)).drop 2).length (((numsL (w.drop 1)).drop 2).map eI)]) rfl tz_70 pl_70 (lconsP ((hf 51 rfl).trans rfl) (lconsP ((hf 54 rfl).trans rfl) (lconsP ((hf 57 rfl).trans rfl) (lconsP ((hf 59 rfl).trans rfl) rfl)))) rfl ⟨rfl, hN⟩⟩) ?_
 refine STR.eff rfl rfl rfl fun f67 H68 hf69 m70 => ?_
 have h71 := m70 _ _ h63
 have o72 := Own.mono o64 m70
 have o73 := MO.mono o65 m70
 have m74 := m66.trans m70
 refine AOp.buildSlice (cells := [.str (at_ w 0), .int .i64 (at_ (numsL (w.drop 1)) 0), .int .i64 (at_ (numsL (w.drop 1)) 1), .sl ((numsL (w.drop 1)).drop 2).length (((numsL (w.drop 1)).drop 2).map eI)]) rfl u_31 ts_70 tz_70 rfl (lconsP ((hf69 60 rfl).trans rfl) rfl) rfl ?_
 intro i75 H76 n77 h78 k79
 have h82 := keep k79 (ne_new h71 n77) h71
 have o83 := Own.keep o72 k79 (Own.notnew o72 n77)
 have o85 := MO.keep o73 k79 (MO.notnew o73 n77)
 have m87 := Mono.new m74 n77 k79
 refine ⟨_, rfl, .inl (Mono.new (Mono.refl _) n77 k79), ?_⟩
 refine STR.eff rfl rfl rfl fun f88 H89 hf90 m91 => ?_
 have h92 := m91 _ _ h82
 have h93 := m91 _ _ h78
 have o94 := Own.mono o83 m91
 have o95 := MO.mono o85 m91
 have m96 := m87.trans m91
 refine AOp.append_own (es := 4) (m := 1) (len := s.texs.length) (old := s.texs.flatMap eTex) (cells := [.str (at_ w 0), .int .i64 (at_ (numsL (w.drop 1)) 0), .int .i64 (at_ (numsL (w.drop 1)) 1), .sl ((numsL (w.drop 1)).drop 2).length (((numsL (w.drop 1)).drop 2).map eI)]) rfl u_31 ts_70 tzn_70 tb_70 (by decide) ni_31 ((hf90 48 rfl).trans rfl) o94 m96 ((hf90 61 rfl).trans rfl) (.slm h93 rfl) (one_of rfl) (by decide) (by first | omega | (simp; omega)) ?_
 intro v97 H98 o99 m100 k101 j102
 have o103 := Own.snocM (xs := (s.texs : List TexT)) (y := (TexT.mk (at_ w 0) (at_ (numsL (w.drop 1)) 0) (at_ (numsL (w.drop 1)) 1) ((numsL (w.drop 1)).drop 2))) (e := eTex) (by simp) o99
 have h104 := (k101 _ nT (by rw [h92]; simp)).trans h92
 have no105 := j102 _ nT (by rw [h92]; simp)
 have sp107 := MO.sep o95 spT j102
 have o106 := MO.stay o95 spT k101
 refine ⟨_, rfl, .inr (RevR.skip rfl (RevR.skip rfl (RevR.skip rfl (RevR.skip rfl (RevR.skip rfl (RevR.skip rfl (RevR.skip rfl (RevR.skip rfl (RevR.skip rfl (RevR.skip rfl (RevR.skip rfl (RevR.skip rfl (RevR.skip rfl (RevR.skip rfl (RevR.skip rfl (RevR.skip rfl (RevR.skip rfl (RevR.skip rfl (RevR.cons rfl (.inl ⟨rfl, fun H1 f' H' hf hN hM => Mv _ rfl ((hf 0 rfl).trans rfl) ⟨rfl, hN⟩⟩) RevR.nil))))))))))))))))))), ?_⟩
 refine STR.done fun H108 m109 => ?_
 have h110 := m109 _ _ h104
 have o111 := MO.mono o106 m109
 have o112 := Own.mono o103 m109
 have m113 := m100.trans m109
 refine C rfl (nc_ (.ptr id ver 0) rfl rfl rfl ?_)
 refine C rfl (Fa rfl rfl fl_56_0 ?_ (hid := ⟨_, h110⟩))
 refine C rfl (Fa rfl rfl fl_35_4 ?_ (hid := ⟨_, h110⟩))
 refine C rfl (AOp.storeO (cells' := rdC s.cam s.sky vL vM v97 vS vC s.hc s.hs) rfl rfl o112 ts_31 h110 rfl rfl ?_)
 intro H114 h115 k116
 have o118 := MO.keep o111 k116 ngT
 have o119 := Own.keep o112 k116 no105
 have m120 := Mono.set m113 hB k116
 refine AOps.nil ?_
 refine Or.inl ?_
 refine ⟨_, _, Ghost.refl, .inl rfl, _, Res.zero rfl, _, gT hb1 (gT hb9 (gT hb23 (gT hb31 (gT hb45 (gT hb53 (gT hb60 rfl)))))), ⟨_, _, _, _, _, _, _, _, h115, hB, MO.put 2 (by simp [rdL]) o118 o119 sp107, NotIdM.put 2 ngT no105⟩, m120, rfl⟩
end Go.Proofs.S
namespace Go.Proofs.S
open Go Go.AH Go.Proofs.L
set_option linter.unusedSectionVars false
variable [LexG]
theorem lastC_mem {cs : List CageT} (h : cs ≠ []) : lastC cs ∈ cs := by
  have e := last_eq h
  exact e ▸ List.mem_append_right _ (List.mem_singleton.2 (by rw [← e]))
theorem lastC_ok {s : Rd} (ok : RdOk s) (h : s.cages ≠ []) : (lastC s.cages).Verts.length ≤ 64 ∧ (lastC s.cages).Faces.length ≤ 64 ∧ (lastC s.cages).Creases.length ≤ 128 := ok.v _ (lastC_mem h)
end Go.Proofs.S
namespace Go.Proofs.S
open Go Go.AH Go.Proofs.L
set_option maxRecDepth 4000
set_option maxHeartbeats 4000000
set_option linter.unusedSimpArgs false
set_option linter.unusedVariables false
set_option linter.unusedSectionVars false
variable [LexG]
theorem c_cage_ {B H0 : Heap} {id ver : Nat} {cam : CamT} {sky : ColT} {vL vM vT vS vC : AV} {hc hs : Bool} (hm : Mono B H0) (hrow : H0 id = some (.row ver (rdC cam sky vL vM vT vS vC hc hs))) {n : Nat} {cl : List AV} (oC : Own B H0 3 vC n cl) (hn : n ≤ 1048576) : ACallsX Tryz.prog 87 [.ptr id ver 0] H0 (fun r H' => (n : Int) > 0 ∧ (∃ i v, vC = .slm i v 3 0 n ∧ r = .ptr i v (((n : Int) - 1).toNat * 3)) ∧ Mono H0 H') (fun ch H' => ∃ k, (if decide ((n : Int) > 0) = true then (Except.ok () : Except Int Unit) else .error 15) = .error k ∧ ch = pan 36 k ∧ Mono B H') := by
 refine ACallsX.of_body' (n := 24) rfl rfl rfl rfl ?_
 have m0 := hm
 refine Sr ?_
 refine A rfl rfl ?_
 refine AWP.seq ?_
 refine AWP.regionX (l := [0, 1, 2, 3, 4, 5, 6, 7]) rfl ?_
 refine AOpsX.cons rfl rfl (Mv _ rfl rfl ?_)
 refine AOpsX.cons rfl rfl (nc_ (.ptr id ver 0) rfl rfl rfl ?_)
 refine AOpsX.cons rfl rfl (Fa rfl rfl fl_56_0 ?_ (hid := ⟨_, hrow⟩))
 refine AOpsX.cons rfl rfl (Fa rfl rfl fl_35_6 ?_ (hid := ⟨_, hrow⟩))
 refine AOpsX.cons rfl rfl (Ld _ rfl rfl ty_33 hrow rfl ?_)
 refine AOpsX.cons rfl rfl (AOp.len_own (m := n) rfl rfl oC u_33 ?_)
 refine AOpsX.cons rfl rfl (Bi _ rfl rfl rfl rfl ?_)
 refine AOpsX.consX rfl rfl (AOpX.need (b := decide ((n : Int) > 0)) (k := 15) (as_ := [.bool (decide ((n : Int) > 0)), .int .i64 15]) rfl rfl (rfl) tf_77 (c_need _ _) ?_ (fun hb _ m2 => Or.inr ⟨_, rfl, _, pbF (by exact hb), rfl, m0.trans m2⟩))
 intro hb1 H2 m3
 have h4 := m3 _ _ hrow
 have o5 := Own.mono oC m3
 have rd6 := Mono.trans (Mono.refl H0) m3
 have hp8 := of_decide_eq_true hb1
 refine AOpsX.nil ?_
 change AWP _ _ _ _ _ _
 refine AWP.seq ?_
 refine AWP.region_quiet mixed (by kernel_rfl) 14 [] rfl (by kernel_rfl) (Mono H2) (Mono.refl _) ?_
 refine QV rfl rfl (Q rfl (fun _ _ φ ψ => nc_ (.ptr id ver 0) rfl (φ 11 rfl) rfl ⟨rfl, ψ⟩) (Q rfl (fun _ _ φ ψ => Fa rfl (φ 12 rfl) fl_56_0 ⟨rfl, ψ⟩ (hid := ⟨_, (ψ _ _ h4)⟩)) (Q rfl (fun _ _ φ ψ => Fa rfl (φ 13 rfl) fl_35_6 ⟨rfl, ψ⟩ (hid := ⟨_, (ψ _ _ h4)⟩)) (Q rfl (fun _ _ φ ψ => Ld _ rfl (φ 14 rfl) ty_33 (ψ _ _ h4) rfl ⟨rfl, ψ⟩) (QV rfl rfl (Q rfl (fun _ _ φ ψ => nc_ (.ptr id ver 0) rfl (φ 16 rfl) rfl ⟨rfl, ψ⟩) (Q rfl (fun _ _ φ ψ => Fa rfl (φ 17 rfl) fl_56_0 ⟨rfl, ψ⟩ (hid := ⟨_, (ψ _ _ h4)⟩)) (Q rfl (fun _ _ φ ψ => Fa rfl (φ 18 rfl) fl_35_6 ⟨rfl, ψ⟩ (hid := ⟨_, (ψ _ _ h4)⟩)) (Q rfl (fun _ _ φ ψ => Ld _ rfl (φ 19 rfl) ty_33 (ψ _ _ h4) rfl ⟨rfl, ψ⟩) (Q rfl (fun _ _ φ ψ => AOp.len_own (m := n) rfl (φ 20 rfl) o5 u_33 ⟨rfl, ψ⟩) (QB rfl rfl rfl (isub (by omega)) ?_)))))))))))
 obtain ⟨i9, ver10, e11, h12, _, _⟩ := Own.pos o5 (by omega)
 refine Q rfl (fun _ _ φ ψ => AOp.indexAddrO rfl (Eq.trans (φ 15 rfl) e11) (φ 22 rfl) sl_33 (by omega) (by omega) (ψ _ _ h12) ⟨rfl, ψ⟩) (Q rfl (fun _ _ φ ψ => As _ rfl (φ 23 rfl) ⟨rfl, ψ⟩) ?_)
 refine QE.done fun H13 m14 => ?_
 have rd17 := Mono.trans rd6 m14
 refine rt_ ?_
 refine Or.inl ?_
 exact ⟨_, _, Ghost.refl, .inr rfl, _, Res.one rfl rfl, by omega, ⟨i9, ver10, e11, rfl⟩, rd17⟩
theorem c_readVertex {B H0 : Heap} {id ver : Nat} {s : Rd} (hm : Mono B H0) (hs : RD B H0 id ver s) (ok : RdOk s) (w : List ByteArray) (hw : w.length ≤ 1048576) : ACallsX Tryz.prog 38 [.ptr id ver 0, .sl w.length (w.map eStr)] H0 (fun r H' => ∃ t, vertexP s w = .ok t ∧ RD B H' id ver t ∧ Mono B H' ∧ r = .tup []) (fun ch H' => ∃ k, vertexP s w = .error k ∧ ch = pan 36 k ∧ Mono B H') := by
 obtain ⟨vL, vM, vT, vS, vC, vV, vF, vK, hrow, hB, hg, hn⟩ := hs
 obtain ⟨oC', ogC, spC⟩ := hg.at 4 rfl
 have oC : Own B H0 3 vC s.cages.length (cgC s.cages vV vF vK) := oC'
 have nC : NotId vC id := hn.at 4 rfl
 have ngC := hn.erase 4
 obtain ⟨oX', ogX, spX⟩ := ogC.at 4 rfl
 have oX : Own B H0 3 vV (lastC s.cages).Verts.length (((lastC s.cages).Verts).flatMap eV) := oX'
 have nX : NotId vV id := ngC.at 4 rfl
 have ngX := ngC.erase 4
 have spCX : Sep vV vC := spC.at 4 rfl
 have spC2 := spC.erase 4
 refine ACallsX.of_body' (n := 30) rfl rfl rfl rfl ?_
 have m0 := hm
 refine AWP.seq ?_
 refine AWP.regionX (l := [0, 1, 2]) rfl ?_
 refine AOpsX.cons rfl rfl (Mv _ rfl rfl ?_)
 refine AOpsX.consX rfl rfl (AOpX.need (b := cntB w 3) (k := 10) (as_ := [.sl w.length (w.map eStr), .int .i64 3]) rfl rfl (rfl) tf_76 (c_counted w (by first | omega | assumption | (simp only [List.length_drop, List.length_take]; omega) | (simp; omega) | simp) _) ?_ (fun hb _ m2 => Or.inr ⟨_, rfl, _, gF hb, rfl, m0.trans m2⟩))
 intro hb1 H2 m3
 have h4 := m3 _ _ hrow
 have o5 := Own.mono oC m3
 have o6 := Own.mono oX m3
 have o7 := MO.mono ogX m3
 have m8 := m0.trans m3
 have hl9 := cnt_len hb1
 refine AOpsX.cons rfl rfl (As _ rfl rfl ?_)
 refine AOpsX.nil ?_
 change AWP _ _ _ _ _ _
 refine AWP.seq ?_
 refine AWP.regionX (l := [0, 1, 2]) rfl ?_
 refine AOpsX.cons rfl rfl (Mv _ rfl rfl ?_)
 refine AOpsX.consX rfl rfl (AOpX.callE (as_ := [.ptr id ver 0] ) (fun _ e => by cases e; rfl) rfl (rfl) tf_87 (c_cage_ (B := B) m8 h4 o5 (by have := ok.c; have := ok.k; omega)) ?_ (fun _ _ ⟨_, e, hc, m⟩ => Or.inr ⟨_, rfl, _, gT hb1 (gE e), hc, m⟩))
 rintro _ H10 ⟨hb12, ⟨ic, vc, hvC, rfl⟩, m11⟩
 have hne : s.cages ≠ [] := List.length_pos_iff.1 (by omega)
 have h13 := m11 _ _ h4
 have o14 := Own.mono o5 m11
 have o15 := Own.mono o6 m11
 have o16 := MO.mono o7 m11
 have m17 := m8.trans m11
 have hcl := lastC_ok ok hne
 have oC2 := o14; rw [cgC_ne hne] at oC2
 obtain ⟨hic, hBic, hlic⟩ := Own.rowOf oC2 hvC
 have nid : id ≠ ic := nC _ _ _ _ _ hvC
 have no18 : NotId vV ic := ((Sep.symm spCX)).notId hvC
 have no19 := SepM.nid spC2 hvC
 refine AOpsX.cons rfl rfl (As _ rfl rfl ?_)
 refine AOpsX.nil ?_
 change AWP _ _ _ _ _ _
 refine AWP.seq ?_
 refine AWP.regionX (l := [0, 1, 2, 3, 4, 5, 6]) rfl ?_
 refine AOpsX.cons rfl rfl (Mv _ rfl rfl ?_)
 refine AOpsX.cons rfl rfl (nc_ (.ptr ic vc (((s.cages.length : Int) - 1).toNat * 3)) rfl rfl rfl ?_)
 refine AOpsX.cons rfl rfl (Fa rfl rfl fl_48_0 ?_ (hid := ⟨_, hic⟩))
 refine AOpsX.cons rfl rfl (Ld _ rfl rfl ty_44 hic (ldC0 (drop_len _) rfl) ?_)
 refine AOpsX.cons rfl rfl (AOp.len_own (m := ((lastC s.cages).Verts.length)) rfl rfl o15 u_44 ?_)
 refine AOpsX.cons rfl rfl (Bi _ rfl rfl rfl rfl ?_)
 refine AOpsX.consX rfl rfl (AOpX.need (b := decide ((((lastC s.cages).Verts.length) : Int) < 64)) (k := 13) (as_ := [.bool (decide ((((lastC s.cages).Verts.length) : Int) < 64)), .int .i64 13]) rfl rfl (rfl) tf_77 (c_need _ _) ?_ (fun hb _ m2 => Or.inr ⟨_, rfl, _, gT hb1 (gT (decide_eq_true hb12) (gF hb)), rfl, m17.trans m2⟩))
 intro hb20 H21 m22
 have h23 := m22 _ _ h13
 have h24 := m22 _ _ hic
 have o25 := Own.mono o15 m22
 have o26 := MO.mono o16 m22
 have m27 := m17.trans m22
 have hp28 := of_decide_eq_true hb20
 refine AOpsX.nil ?_
 change AWP _ _ _ _ _ _
 refine AWP.seq ?_
 refine AWP.regionX (l := [0, 1]) rfl ?_
 refine AOpsX.cons rfl rfl (Mv _ rfl rfl ?_)
 refine AOpsX.consX rfl rfl (AOpX.need (b := inB (-16384) 16384 (numsL w)) (k := 11) (as_ := [.int .i64 (-16384), .int .i64 16384, .sl (numsL w).length ((numsL w).map eI)]) rfl rfl (rfl) tf_78 (c_within _ _ (numsL w) (by first | omega | assumption | (simp only [List.length_drop, List.length_take]; omega) | (simp; omega) | simp)) ?_ (fun hb _ m2 => Or.inr ⟨_, rfl, _, gT hb1 (gT (decide_eq_true hb12) (gT hb20 (gF hb))), rfl, m27.trans m2⟩))
 intro hb29 H30 m31
 have h32 := m31 _ _ h23
 have h33 := m31 _ _ h24
 have o34 := Own.mono o25 m31
 have o35 := MO.mono o26 m31
 have m36 := m27.trans m31
 refine AOpsX.nil ?_
 change AWP _ _ _ _ _ _
 refine AWP.region_str mixed (by kernel_rfl) [(0, none), (1, none), (2, none), (3, none), (4, none), (5, none), (6, none), (7, some [0, 1, 2, 3, 4]), (8, some [0])] [9, 10, 11] (by kernel_rfl) ?_
 refine STR.op rfl rfl (.inl ⟨rfl, fun H1 f' H' hf hN hM => Mv _ rfl ((hf 5 rfl).trans rfl) ⟨rfl, hN⟩⟩) ?_
 refine STR.op rfl rfl (.inl ⟨rfl, fun H1 f' H' hf hN hM => Mv _ rfl ((hf 5 rfl).trans rfl) ⟨rfl, hN⟩⟩) ?_
 refine STR.op rfl rfl (.inl ⟨rfl, fun H1 f' H' hf hN hM => nc_ (.ptr ic vc (((s.cages.length : Int) - 1).toNat * 3)) rfl ((hf 20 rfl).trans rfl) rfl ⟨rfl, hN⟩⟩) ?_
 refine STR.op rfl rfl (.inl ⟨rfl, fun H1 f' H' hf hN hM => Fa rfl ((hf 21 rfl).trans rfl) fl_48_0 ⟨rfl, hN⟩ (hid := ⟨_, (hM _ _ h33)⟩)⟩) ?_
 refine STR.op rfl rfl (.inl ⟨rfl, fun H1 f' H' hf hN hM => Ld _ rfl ((hf 22 rfl).trans rfl) ty_44 (hM _ _ h33) (ldC0 (drop_len _) rfl) ⟨rfl, hN⟩⟩) ?_
 refine STR.op rfl rfl (.inl ⟨rfl, fun H1 f' H' hf hN hM => Mv _ rfl ((hf 4 rfl).trans rfl) ⟨rfl, hN⟩⟩) ?_
 refine STR.op rfl rfl (.inl ⟨rfl, fun H1 f' H' hf hN hM => Pc («as» := [.sl (numsL w).length ((numsL w).map eI)]) rfl rfl (lapp (lcons ((hf 24 rfl).trans rfl) rfl) rfl) tf_79 (c_point (numsL w) (by first | omega | (simp; omega))) fun H2 m2 => ⟨rfl, hN.trans m2⟩⟩) ?_
 refine STR.eff rfl rfl rfl fun f37 H38 hf39 m40 => ?_
 have h41 := m40 _ _ h32
 have h42 := m40 _ _ h33
 have o43 := Own.mono o34 m40
 have o44 := MO.mono o35 m40
 have m45 := m36.trans m40
 refine AOp.buildSlice (cells := (eV (ptR (numsL w)))) rfl u_44 ts_24 tz_24 rfl (lconsP ((hf39 25 rfl).trans rfl) rfl) rfl ?_
 intro i46 H47 n48 h49 k50
 have h54 := keep k50 (ne_new h41 n48) h41
 have h55 := keep k50 (ne_new h42 n48) h42
 have o56 := Own.keep o43 k50 (Own.notnew o43 n48)
 have o58 := MO.keep o44 k50 (MO.notnew o44 n48)
 have m60 := Mono.new m45 n48 k50
 refine ⟨_, rfl, .inl (Mono.new (Mono.refl _) n48 k50), ?_⟩
 refine STR.eff rfl rfl rfl fun f61 H62 hf63 m64 => ?_
 have h65 := m64 _ _ h54
 have h66 := m64 _ _ h55
 have h67 := m64 _ _ h49
 have o68 := Own.mono o56 m64
 have o69 := MO.mono o58 m64
 have m70 := m60.trans m64
 refine AOp.append_own (es := 3) (m := 1) (len := ((lastC s.cages).Verts.length)) (old := ((lastC s.cages).Verts).flatMap eV) (cells := (eV (ptR (numsL w)))) rfl u_44 ts_24 tzn_24 tb_24 (by decide) ni_44 ((hf63 23 rfl).trans rfl) o68 m70 ((hf63 26 rfl).trans rfl) (.slm h67 rfl) (one_of rfl) (by decide) (by first | omega | (simp; omega)) ?_
 intro v71 H72 o73 m74 k75 j76
 have o77 := Own.snocM (xs := ((lastC s.cages).Verts : List VT)) (y := (ptR (numsL w))) (e := eV) (by simp) o73
 have h78 := (k75 _ nX (by rw [h65]; simp)).trans h65
 have no79 := j76 _ nX (by rw [h65]; simp)
 have h80 := (k75 _ no18 (by rw [h66]; simp)).trans h66
 have no81 := j76 _ no18 (by rw [h66]; simp)
 have sp83 := MO.sep o69 spX j76
 have o82 := MO.stay o69 spX k75
 refine ⟨_, rfl, .inr (RevR.skip rfl (RevR.skip rfl (RevR.skip rfl (RevR.skip rfl (RevR.skip rfl (RevR.skip rfl (RevR.skip rfl (RevR.cons rfl (.inl ⟨rfl, fun H1 f' H' hf hN hM => Mv _ rfl ((hf 5 rfl).trans rfl) ⟨rfl, hN⟩⟩) RevR.nil)))))))), ?_⟩
 refine STR.done fun H84 m85 => ?_
 have h86 := m85 _ _ h78
 have h87 := m85 _ _ h80
 have o88 := MO.mono o82 m85
 have o89 := Own.mono o77 m85
 have m90 := m74.trans m85
 refine C rfl (nc_ (.ptr ic vc (((s.cages.length : Int) - 1).toNat * 3)) rfl rfl rfl ?_)
 refine C rfl (Fa rfl rfl fl_48_0 ?_ (hid := ⟨_, h87⟩))
 refine C rfl (AOp.storeO (cells' := s.cages.dropLast.flatMap eCage ++ [v71, vF, vK]) rfl rfl o89 ts_44 h87 (Nat.ble_eq_true_of_le (by rw [List.length_append, drop_len]; simp only [List.length_cons, List.length_nil]; omega)) (wrC0 (drop_len _) rfl) ?_)
 intro H91 h92 k93
 have h94 := keep k93 nid h86
 have o96 := MO.keep o88 k93 no19
 have o97 := Own.keep o89 k93 no81
 have m98 := Mono.set m90 hBic k93
 refine AOps.nil ?_
 refine Or.inl ?_
 refine ⟨_, _, Ghost.refl, .inl rfl, _, Res.zero rfl, _, gT hb1 (gT (decide_eq_true hb12) (gT hb20 (gT hb29 rfl))), ⟨_, _, _, _, _, _, _, _, RDv.upC (c := { lastC s.cages with Verts := (lastC s.cages).Verts ++ [ptR (numsL w)] }) hne h94 hB (MO.put (L := (rdL s vL vM vT vS vC vV vF vK).set 5 (3, v71, (((lastC s.cages).Verts) ++ [(ptR (numsL w))]).length, (((lastC s.cages).Verts) ++ [(ptR (numsL w))]).flatMap eV)) (e := (3, vC, s.cages.length, s.cages.dropLast.flatMap eCage ++ [v71, vF, vK])) 4 (by simp [rdL]) (MO.put (L := (rdL s vL vM vT vS vC vV vF vK).eraseIdx 4) (e := (3, v71, (((lastC s.cages).Verts) ++ [(ptR (numsL w))]).length, (((lastC s.cages).Verts) ++ [(ptR (numsL w))]).flatMap eV)) 4 (by simp [rdL]) o96 o97 sp83) (.inr ⟨ic, vc, hvC, h92, hBic, (by rw [List.length_append, drop_len]; simp only [List.length_cons, List.length_nil]; omega)⟩) (SepM.of (NotIdM.put (L := (rdL s vL vM vT vS vC vV vF vK).eraseIdx 4) (e := (3, v71, (((lastC s.cages).Verts) ++ [(ptR (numsL w))]).length, (((lastC s.cages).Verts) ++ [(ptR (numsL w))]).flatMap eV)) 4 no19 no81) hvC)) (NotIdM.put (L := (rdL s vL vM vT vS vC vV vF vK).set 5 (3, v71, (((lastC s.cages).Verts) ++ [(ptR (numsL w))]).length, (((lastC s.cages).Verts) ++ [(ptR (numsL w))]).flatMap eV)) (e := (3, vC, s.cages.length, s.cages.dropLast.flatMap eCage ++ [v71, vF, vK])) 4 (NotIdM.put (L := (rdL s vL vM vT vS vC vV vF vK).eraseIdx 4) (e := (3, v71, (((lastC s.cages).Verts) ++ [(ptR (numsL w))]).length, (((lastC s.cages).Verts) ++ [(ptR (numsL w))]).flatMap eV)) 4 ngX no79) nC)⟩, m98, rfl⟩
theorem c_readFace {B H0 : Heap} {id ver : Nat} {s : Rd} (hm : Mono B H0) (hs : RD B H0 id ver s) (ok : RdOk s) (w : List ByteArray) (hw : w.length ≤ 1048576) : ACallsX Tryz.prog 39 [.ptr id ver 0, .sl w.length (w.map eStr)] H0 (fun r H' => ∃ t, faceP s w = .ok t ∧ RD B H' id ver t ∧ Mono B H' ∧ r = .tup []) (fun ch H' => ∃ k, faceP s w = .error k ∧ ch = pan 36 k ∧ Mono B H') := by
 obtain ⟨vL, vM, vT, vS, vC, vV, vF, vK, hrow, hB, hg, hn⟩ := hs
 obtain ⟨oC', ogC, spC⟩ := hg.at 4 rfl
 have oC : Own B H0 3 vC s.cages.length (cgC s.cages vV vF vK) := oC'
 have nC : NotId vC id := hn.at 4 rfl
 have ngC := hn.erase 4
 obtain ⟨oX', ogX, spX⟩ := ogC.at 5 rfl
 have oX : Own B H0 1 vF (lastC s.cages).Faces.length (((lastC s.cages).Faces).map eF) := oX'
 have nX : NotId vF id := ngC.at 5 rfl
 have ngX := ngC.erase 5
 have spCX : Sep vF vC := spC.at 5 rfl
 have spC2 := spC.erase 5
 refine ACallsX.of_body' (n := 44) rfl rfl rfl rfl ?_
 have m0 := hm
 refine AWP.seq ?_
 refine AWP.regionX (l := [0, 1, 2]) rfl ?_
 refine AOpsX.cons rfl rfl (Mv _ rfl rfl ?_)
 refine AOpsX.consX rfl rfl (AOpX.need (b := numsB w) (k := 10) (as_ := [.sl w.length (w.map eStr)]) rfl rfl (rfl) tf_82 (c_numbers w (by first | omega | assumption | (simp only [List.length_drop, List.length_take]; omega) | (simp; omega) | simp)) ?_ (fun hb _ m2 => Or.inr ⟨_, rfl, _, gF hb, rfl, m0.trans m2⟩))
 intro hb1 H2 m3
 have h4 := m3 _ _ hrow
 have o5 := Own.mono oC m3
 have o6 := Own.mono oX m3
 have o7 := MO.mono ogX m3
 have m8 := m0.trans m3
 have hl9 := numsL_len w
 refine AOpsX.cons rfl rfl (As _ rfl rfl ?_)
 refine AOpsX.nil ?_
 change AWP _ _ _ _ _ _
 refine AWP.seq ?_
 refine AWP.regionX (l := [0, 1, 2, 3, 4, 5, 6, 7, 8]) rfl ?_
 refine AOpsX.cons rfl rfl (Mv _ rfl rfl ?_)
 refine AOpsX.cons rfl rfl (AOp.len (m := (numsL w).length) rfl rfl (.inr (.inl ⟨_, rfl⟩)) u_68 ?_)
 refine AOpsX.cons rfl rfl (Bi _ rfl rfl rfl rfl ?_)
 refine AOpsX.cons rfl rfl (Mv _ rfl rfl ?_)
 by_cases b10 : (((numsL w).length) : Int) ≥ 3
 refine AOpsX.yes rfl rfl rfl rfl rfl rfl rfl (decide_eq_true b10) (Mv _ rfl rfl ?_)
 refine AOpsX.yes rfl rfl rfl rfl rfl rfl rfl (decide_eq_true b10) (AOp.len (m := (numsL w).length) rfl rfl (.inr (.inl ⟨_, rfl⟩)) u_68 ?_)
 refine AOpsX.yes rfl rfl rfl rfl rfl rfl rfl (decide_eq_true b10) (Bi _ rfl rfl rfl rfl ?_)
 refine AOpsX.cons rfl rfl (Pt _ rfl rfl (decide_eq_true b10) rfl ?_)
 refine AOpsX.consX rfl rfl (AOpX.need (b := decide ((((numsL w).length) : Int) ≤ 8)) (k := 10) (as_ := [.bool (decide ((((numsL w).length) : Int) ≤ 8)), .int .i64 10]) rfl rfl (rfl) tf_77 (c_need _ _) ?_ (fun hb _ m2 => Or.inr ⟨_, rfl, _, gT hb1 (gF (show (decide ((w.length : Int) ≥ 3) && decide ((w.length : Int) ≤ 8)) = false from by have := of_decide_eq_false hb; simp only [Bool.and_eq_false_iff, decide_eq_false_iff_not]; omega)), rfl, m8.trans m2⟩))
 intro hb11 H12 m13
 have h14 := m13 _ _ h4
 have o15 := Own.mono o5 m13
 have o16 := Own.mono o6 m13
 have o17 := MO.mono o7 m13
 have m18 := m8.trans m13
 have hp19 := of_decide_eq_true hb11
 have hg20 : (decide ((w.length : Int) ≥ 3) && decide ((w.length : Int) ≤ 8)) = true := by simp only [Bool.and_eq_true, decide_eq_true_eq]; omega
 refine AOpsX.nil ?_
 change AWP _ _ _ _ _ _
 refine AWP.seq ?_
 refine AWP.regionX (l := [0, 1, 2]) rfl ?_
 refine AOpsX.cons rfl rfl (Mv _ rfl rfl ?_)
 refine AOpsX.consX rfl rfl (AOpX.callE (as_ := [.ptr id ver 0] ) (fun _ e => by cases e; rfl) rfl (rfl) tf_87 (c_cage_ (B := B) m18 h14 o15 (by have := ok.c; have := ok.k; omega)) ?_ (fun _ _ ⟨_, e, hc, m⟩ => Or.inr ⟨_, rfl, _, gT hb1 (gT hg20 (gE e)), hc, m⟩))
 rintro _ H21 ⟨hb23, ⟨ic, vc, hvC, rfl⟩, m22⟩
 have hne : s.cages ≠ [] := List.length_pos_iff.1 (by omega)
 have h24 := m22 _ _ h14
 have o25 := Own.mono o15 m22
 have o26 := Own.mono o16 m22
 have o27 := MO.mono o17 m22
 have m28 := m18.trans m22
 have hcl := lastC_ok ok hne
 have oC2 := o25; rw [cgC_ne hne] at oC2
 obtain ⟨hic, hBic, hlic⟩ := Own.rowOf oC2 hvC
 have nid : id ≠ ic := nC _ _ _ _ _ hvC
 have no29 : NotId vF ic := ((Sep.symm spCX)).notId hvC
 have no30 := SepM.nid spC2 hvC
 refine AOpsX.cons rfl rfl (As _ rfl rfl ?_)
 refine AOpsX.nil ?_
 change AWP _ _ _ _ _ _
 refine AWP.seq ?_
 refine AWP.regionX (l := [0, 1, 2, 3, 4, 5, 6]) rfl ?_
 refine AOpsX.cons rfl rfl (Mv _ rfl rfl ?_)
 refine AOpsX.cons rfl rfl (nc_ (.ptr ic vc (((s.cages.length : Int) - 1).toNat * 3)) rfl rfl rfl ?_)
 refine AOpsX.cons rfl rfl (Fa rfl rfl fl_48_1 ?_ (hid := ⟨_, hic⟩))
 refine AOpsX.cons rfl rfl (Ld _ rfl rfl ty_45 hic (ldC (k := 1) (drop_len _) rfl) ?_)
 refine AOpsX.cons rfl rfl (AOp.len_own (m := ((lastC s.cages).Faces.length)) rfl rfl o26 u_45 ?_)
 refine AOpsX.cons rfl rfl (Bi _ rfl rfl rfl rfl ?_)
 refine AOpsX.consX rfl rfl (AOpX.need (b := decide ((((lastC s.cages).Faces.length) : Int) < 64)) (k := 13) (as_ := [.bool (decide ((((lastC s.cages).Faces.length) : Int) < 64)), .int .i64 13]) rfl rfl (rfl) tf_77 (c_need _ _) ?_ (fun hb _ m2 => Or.inr ⟨_, rfl, _, gT hb1 (gT hg20 (gT (decide_eq_true hb23) (gF hb))), rfl, m28.trans m2⟩))
 intro hb31 H32 m33
 have h34 := m33 _ _ h24
 have h35 := m33 _ _ hic
 have o36 := Own.mono o26 m33
 have o37 := MO.mono o27 m33
 have m38 := m28.trans m33
 have hp39 := of_decide_eq_true hb31
 refine AOpsX.nil ?_
 change AWP _ _ _ _ _ _
 refine AWP.seq ?_
 refine AWP.regionX (l := [0, 1, 2, 3, 4, 5, 6, 7]) rfl ?_
 refine AOpsX.cons rfl rfl (Mv _ rfl rfl ?_)
 refine AOpsX.cons rfl rfl (nc_ (.ptr ic vc (((s.cages.length : Int) - 1).toNat * 3)) rfl rfl rfl ?_)
 refine AOpsX.cons rfl rfl (Fa rfl rfl fl_48_0 ?_ (hid := ⟨_, h35⟩))
 refine AOpsX.cons rfl rfl (Ld _ rfl rfl ty_44 h35 (ldC0 (drop_len _) rfl) ?_)
 refine AOpsX.cons rfl rfl (AOp.len_own (m := ((lastC s.cages).Verts.length)) rfl rfl (o37.at 4 rfl).1 u_44 ?_)
 refine AOpsX.cons rfl rfl (Bi _ rfl rfl rfl (isub (by omega)) ?_)
 refine AOpsX.cons rfl rfl (Mv _ rfl rfl ?_)
 refine AOpsX.consX rfl rfl (AOpX.need (b := inB 0 ((((lastC s.cages).Verts.length) : Int) - 1) (numsL w)) (k := 11) (as_ := [.int .i64 0, .int .i64 ((((lastC s.cages).Verts.length) : Int) - 1), .sl (numsL w).length ((numsL w).map eI)]) rfl rfl (rfl) tf_78 (c_within _ _ (numsL w) (by first | omega | assumption | (simp only [List.length_drop, List.length_take]; omega) | (simp; omega) | simp)) ?_ (fun hb _ m2 => Or.inr ⟨_, rfl, _, gT hb1 (gT hg20 (gT (decide_eq_true hb23) (gT hb31 (gF hb)))), rfl, m38.trans m2⟩))
 intro hb40 H41 m42
 have h43 := m42 _ _ h34
 have h44 := m42 _ _ h35
 have o45 := Own.mono o36 m42
 have o46 := MO.mono o37 m42
 have m47 := m38.trans m42
 refine AOpsX.nil ?_
 change AWP _ _ _ _ _ _
 refine AWP.region rfl ?_
 refine V rfl rfl (V rfl rfl (C rfl (nc_ (.ptr ic vc (((s.cages.length : Int) - 1).toNat * 3)) rfl rfl rfl ?_)))
 refine C rfl (Fa rfl rfl fl_48_1 ?_ (hid := ⟨_, h44⟩))
 refine C rfl (Ld _ rfl rfl ty_45 h44 (ldC (k := 1) (drop_len _) rfl) (V rfl rfl (C rfl (AOp.buildSlice (cells := [.sl (numsL w).length ((numsL w).map eI)]) rfl u_45 ts_68 tz_68 rfl rfl rfl ?_))))
 intro i48 H49 n50 h51 k52
 have h56 := keep k52 (ne_new h43 n50) h43
 have h57 := keep k52 (ne_new h44 n50) h44
 have o58 := Own.keep o45 k52 (Own.notnew o45 n50)
 have o60 := MO.keep o46 k52 (MO.notnew o46 n50)
 have m62 := Mono.new m47 n50 k52
 refine C rfl (AOp.append_own (es := 1) (m := 1) (len := ((lastC s.cages).Faces.length)) (old := ((lastC s.cages).Faces).map eF) (cells := [.sl (numsL w).length ((numsL w).map eI)]) rfl u_45 ts_68 tzn_68 tb_68 (by decide) ni_45 rfl o58 m62 rfl (.slm h51 rfl) (one_of rfl) (by decide) (by first | omega | (simp; omega)) ?_)
 intro v63 H64 o65 m66 k67 j68
 have o69 := Own.snoc1 (xs := ((lastC s.cages).Faces : List (List Int))) (y := numsL w) (e := eF) (by simp) o65
 have h70 := (k67 _ nX (by rw [h56]; simp)).trans h56
 have no71 := j68 _ nX (by rw [h56]; simp)
 have h72 := (k67 _ no29 (by rw [h57]; simp)).trans h57
 have no73 := j68 _ no29 (by rw [h57]; simp)
 have sp75 := MO.sep o60 spX j68
 have o74 := MO.stay o60 spX k67
 refine C rfl (nc_ (.ptr ic vc (((s.cages.length : Int) - 1).toNat * 3)) rfl rfl rfl ?_)
 refine C rfl (Fa rfl rfl fl_48_1 ?_ (hid := ⟨_, h72⟩))
 refine C rfl (AOp.storeO (cells' := s.cages.dropLast.flatMap eCage ++ [vV, v63, vK]) rfl rfl o69 ts_45 h72 (Nat.ble_eq_true_of_le (by rw [List.length_append, drop_len]; simp only [List.length_cons, List.length_nil]; omega)) (wrC (k := 1) (drop_len _) rfl) ?_)
 intro H76 h77 k78
 have h79 := keep k78 nid h70
 have o81 := MO.keep o74 k78 no30
 have o82 := Own.keep o69 k78 no73
 have m83 := Mono.set m66 hBic k78
 refine AOps.nil ?_
 refine Or.inl ?_
 refine ⟨_, _, Ghost.refl, .inl rfl, _, Res.zero rfl, _, gT hb1 (gT hg20 (gT (decide_eq_true hb23) (gT hb31 (gT hb40 rfl)))), ⟨_, _, _, _, _, _, _, _, RDv.upC (c := { lastC s.cages with Faces := (lastC s.cages).Faces ++ [numsL w] }) hne h79 hB (MO.put (L := (rdL s vL vM vT vS vC vV vF vK).set 6 (1, v63, (((lastC s.cages).Faces) ++ [numsL w]).length, (((lastC s.cages).Faces) ++ [numsL w]).map eF)) (e := (3, vC, s.cages.length, s.cages.dropLast.flatMap eCage ++ [vV, v63, vK])) 4 (by simp [rdL]) (MO.put (L := (rdL s vL vM vT vS vC vV vF vK).eraseIdx 4) (e := (1, v63, (((lastC s.cages).Faces) ++ [numsL w]).length, (((lastC s.cages).Faces) ++ [numsL w]).map eF)) 5 (by simp [rdL]) o81 o82 sp75) (.inr ⟨ic, vc, hvC, h77, hBic, (by rw [List.length_append, drop_len]; simp only [List.length_cons, List.length_nil]; omega)⟩) (SepM.of (NotIdM.put (L := (rdL s vL vM vT vS vC vV vF vK).eraseIdx 4) (e := (1, v63, (((lastC s.cages).Faces) ++ [numsL w]).length, (((lastC s.cages).Faces) ++ [numsL w]).map eF)) 5 no30 no73) hvC)) (NotIdM.put (L := (rdL s vL vM vT vS vC vV vF vK).set 6 (1, v63, (((lastC s.cages).Faces) ++ [numsL w]).length, (((lastC s.cages).Faces) ++ [numsL w]).map eF)) (e := (3, vC, s.cages.length, s.cages.dropLast.flatMap eCage ++ [vV, v63, vK])) 4 (NotIdM.put (L := (rdL s vL vM vT vS vC vV vF vK).eraseIdx 4) (e := (1, v63, (((lastC s.cages).Faces) ++ [numsL w]).length, (((lastC s.cages).Faces) ++ [numsL w]).map eF)) 5 ngX no71) nC)⟩, m83, rfl⟩
 refine AOpsX.no rfl rfl rfl rfl rfl rfl rfl (ble_of (decide_eq_false b10) (by decide)) ?_
 refine AOpsX.no rfl rfl rfl rfl rfl rfl rfl (ble_of (decide_eq_false b10) (by decide)) ?_
 refine AOpsX.no rfl rfl rfl rfl rfl rfl rfl (ble_of (decide_eq_false b10) (by decide)) ?_
 refine AOpsX.cons rfl rfl (Pf _ rfl rfl (decide_eq_false b10) rfl ?_)
 refine AOpsX.consX rfl rfl (AOpX.need (b := false) (k := 10) (as_ := [.bool false, .int .i64 10]) rfl rfl (rfl) tf_77 (c_need _ _) (fun h => Bool.noConfusion h) (fun _ _ m2 => Or.inr ⟨_, rfl, _, gT hb1 (gF (show (decide ((w.length : Int) ≥ 3) && decide ((w.length : Int) ≤ 8)) = false from by simp only [Bool.and_eq_false_iff, decide_eq_false_iff_not]; omega)), rfl, m8.trans m2⟩))
abbrev ZreadCrease_0 (w : List ByteArray) := CrT.mk (at_ (numsL w) 0) (at_ (numsL w) 1) (at_ (numsL w) 2)
theorem c_readCrease {B H0 : Heap} {id ver : Nat} {s : Rd} (hm : Mono B H0) (hs : RD B H0 id ver s) (ok : RdOk s) (w : List ByteArray) (hw : w.length ≤ 1048576) : ACallsX Tryz.prog 40 [.ptr id ver 0, .sl w.length (w.map eStr)] H0 (fun r H' => ∃ t, creaseP s w = .ok t ∧ RD B H' id ver t ∧ Mono B H' ∧ r = .tup []) (fun ch H' => ∃ k, creaseP s w = .error k ∧ ch = pan 36 k ∧ Mono B H') := by
 obtain ⟨vL, vM, vT, vS, vC, vV, vF, vK, hrow, hB, hg, hn⟩ := hs
 obtain ⟨oC', ogC, spC⟩ := hg.at 4 rfl
 have oC : Own B H0 3 vC s.cages.length (cgC s.cages vV vF vK) := oC'
 have nC : NotId vC id := hn.at 4 rfl
 have ngC := hn.erase 4
 obtain ⟨oX', ogX, spX⟩ := ogC.at 6 rfl
 have oX : Own B H0 3 vK (lastC s.cages).Creases.length (((lastC s.cages).Creases).flatMap eCr) := oX'
 have nX : NotId vK id := ngC.at 6 rfl
 have ngX := ngC.erase 6
 have spCX : Sep vK vC := spC.at 6 rfl
 have spC2 := spC.erase 6
 refine ACallsX.of_body' (n := 58) rfl rfl rfl rfl ?_
 have m0 := hm
 refine AWP.seq ?_
 refine AWP.regionX (l := [0, 1, 2]) rfl ?_
 refine AOpsX.cons rfl rfl (Mv _ rfl rfl ?_)
 refine AOpsX.consX rfl rfl (AOpX.need (b := cntB w 3) (k := 10) (as_ := [.sl w.length (w.map eStr), .int .i64 3]) rfl rfl (rfl) tf_76 (c_counted w (by first | omega | assumption | (simp only [List.length_drop, List.length_take]; omega) | (simp; omega) | simp) _) ?_ (fun hb _ m2 => Or.inr ⟨_, rfl, _, gF hb, rfl, m0.trans m2⟩))
 intro hb1 H2 m3
 have h4 := m3 _ _ hrow
 have o5 := Own.mono oC m3
 have o6 := Own.mono oX m3
 have o7 := MO.mono ogX m3
 have m8 := m0.trans m3
 have hl9 := cnt_len hb1
 refine AOpsX.cons rfl rfl (As _ rfl rfl ?_)
 refine AOpsX.nil ?_
 change AWP _ _ _ _ _ _
 refine AWP.seq ?_
 refine AWP.regionX (l := [0, 1, 2]) rfl ?_
 refine AOpsX.cons rfl rfl (Mv _ rfl rfl ?_)
 refine AOpsX.consX rfl rfl (AOpX.callE (as_ := [.ptr id ver 0] ) (fun _ e => by cases e; rfl) rfl (rfl) tf_87 (c_cage_ (B := B) m8 h4 o5 (by have := ok.c; have := ok.k; omega)) ?_ (fun _ _ ⟨_, e, hc, m⟩ => Or.inr ⟨_, rfl, _, gT hb1 (gE e), hc, m⟩))
 rintro _ H10 ⟨hb12, ⟨ic, vc, hvC, rfl⟩, m11⟩
 have hne : s.cages ≠ [] := List.length_pos_iff.1 (by omega)
 have h13 := m11 _ _ h4
 have o14 := Own.mono o5 m11
 have o15 := Own.mono o6 m11
 have o16 := MO.mono o7 m11
 have m17 := m8.trans m11
 have hcl := lastC_ok ok hne
 have oC2 := o14; rw [cgC_ne hne] at oC2
 obtain ⟨hic, hBic, hlic⟩ := Own.rowOf oC2 hvC
 have nid : id ≠ ic := nC _ _ _ _ _ hvC
 have no18 : NotId vK ic := ((Sep.symm spCX)).notId hvC
 have no19 := SepM.nid spC2 hvC
 refine AOpsX.cons rfl rfl (As _ rfl rfl ?_)
 refine AOpsX.nil ?_
 change AWP _ _ _ _ _ _
 refine AWP.seq ?_
 refine AWP.regionX (l := [0, 1, 2, 3, 4, 5, 6]) rfl ?_
 refine AOpsX.cons rfl rfl (Mv _ rfl rfl ?_)
 refine AOpsX.cons rfl rfl (nc_ (.ptr ic vc (((s.cages.length : Int) - 1).toNat * 3)) rfl rfl rfl ?_)
 refine AOpsX.cons rfl rfl (Fa rfl rfl fl_48_2 ?_ (hid := ⟨_, hic⟩))
 refine AOpsX.cons rfl rfl (Ld _ rfl rfl ty_46 hic (ldC (k := 2) (drop_len _) rfl) ?_)
 refine AOpsX.cons rfl rfl (AOp.len_own (m := ((lastC s.cages).Creases.length)) rfl rfl o15 u_46 ?_)
 refine AOpsX.cons rfl rfl (Bi _ rfl rfl rfl rfl ?_)
 refine AOpsX.consX rfl rfl (AOpX.need (b := decide ((((lastC s.cages).Creases.length) : Int) < 128)) (k := 13) (as_ := [.bool (decide ((((lastC s.cages).Creases.length) : Int) < 128)), .int .i64 13]) rfl rfl (rfl) tf_77 (c_need _ _) ?_ (fun hb _ m2 => Or.inr ⟨_, rfl, _, gT hb1 (gT (decide_eq_true hb12) (gF hb)), rfl, m17.trans m2⟩))
 intro hb20 H21 m22
 have h23 := m22 _ _ h13
 have h24 := m22 _ _ hic
 have o25 := Own.mono o15 m22
 have o26 := MO.mono o16 m22
 have m27 := m17.trans m22
 have hp28 := of_decide_eq_true hb20
 refine AOpsX.nil ?_
 change AWP _ _ _ _ _ _
 refine AWP.seq ?_
 refine AWP.region_quietX mixed (by kernel_rfl) 8 [8] rfl (by kernel_rfl) (Mono H21) (Mono.refl _) ?_
 refine QV rfl rfl (Q rfl (fun _ _ φ ψ => nc_ (.ptr ic vc (((s.cages.length : Int) - 1).toNat * 3)) rfl (φ 17 rfl) rfl ⟨rfl, ψ⟩) (Q rfl (fun _ _ φ ψ => Fa rfl (φ 18 rfl) fl_48_0 ⟨rfl, ψ⟩ (hid := ⟨_, (ψ _ _ h24)⟩)) (Q rfl (fun _ _ φ ψ => Ld _ rfl (φ 19 rfl) ty_44 (ψ _ _ h24) (ldC0 (drop_len _) rfl) ⟨rfl, ψ⟩) (Q rfl (fun _ _ φ ψ => AOp.len_own (m := ((lastC s.cages).Verts.length)) rfl (φ 20 rfl) (o26.at 4 rfl).1 u_44 ⟨rfl, ψ⟩) (QB rfl rfl rfl (isub (by omega)) (QV rfl rfl (Q rfl (fun _ _ φ ψ => AOp.sliceST1 (xs := numsL w) (l := 0) (h := 2) rfl (φ 23 rfl)  sl_68 rfl (hi_of rfl) (by first | omega | (simp; omega)) (by first | omega | (simp; omega)) (by first | omega | (simp; omega)) ⟨rfl, ψ⟩) ?_)))))))
 refine QE.done fun H29 m30 => ?_
 have h31 := m30 _ _ h23
 have h32 := m30 _ _ h24
 have o33 := Own.mono o25 m30
 have o34 := MO.mono o26 m30
 have m35 := m27.trans m30
 refine AOpsX.consX rfl rfl (AOpX.need (b := inB 0 ((((lastC s.cages).Verts.length) : Int) - 1) ((numsL w).take 2)) (k := 11) (as_ := [.int .i64 0, .int .i64 ((((lastC s.cages).Verts.length) : Int) - 1), .sl ((numsL w).take 2).length (((numsL w).take 2).map eI)]) rfl rfl (rfl) tf_78 (c_within _ _ ((numsL w).take 2) (by first | omega | assumption | (simp only [List.length_drop, List.length_take]; omega) | (simp; omega) | simp)) ?_ (fun hb _ m2 => Or.inr ⟨_, rfl, _, gT hb1 (gT (decide_eq_true hb12) (gT hb20 (gF hb))), rfl, m35.trans m2⟩))
 intro hb36 H37 m38
 have h39 := m38 _ _ h31
 have h40 := m38 _ _ h32
 have o41 := Own.mono o33 m38
 have o42 := MO.mono o34 m38
 have m43 := m35.trans m38
 refine AOpsX.nil ?_
 change AWP _ _ _ _ _ _
 refine AWP.seq ?_
 refine AWP.region_quietX mixed (by kernel_rfl) 7 [7] rfl (by kernel_rfl) (Mono H37) (Mono.refl _) ?_
 refine QV rfl rfl (Q rfl (fun _ _ φ ψ => iS_ rfl (φ 26 rfl) rfl sl_68 (by omega) (by omega) ⟨rfl, ψ⟩) (QL rfl rfl ty_3 (ld1 (by omega) (by omega)) (QV rfl rfl (Q rfl (fun _ _ φ ψ => iS_ rfl (φ 29 rfl) rfl sl_68 (by omega) (by omega) ⟨rfl, ψ⟩) (QL rfl rfl ty_3 (ld1 (by omega) (by omega)) (QB rfl rfl rfl ine ?_))))))
 refine QE.done fun H44 m45 => ?_
 have h46 := m45 _ _ h39
 have h47 := m45 _ _ h40
 have o48 := Own.mono o41 m45
 have o49 := MO.mono o42 m45
 have m50 := m43.trans m45
 refine AOpsX.consX rfl rfl (AOpX.need (b := !decide (at_ (numsL w) 0 = at_ (numsL w) 1)) (k := 11) (as_ := [.bool (!decide (at_ (numsL w) 0 = at_ (numsL w) 1)), .int .i64 11]) rfl rfl (rfl) tf_77 (c_need _ _) ?_ (fun hb _ m2 => Or.inr ⟨_, rfl, _, gT hb1 (gT (decide_eq_true hb12) (gT hb20 (gT hb36 (gF hb)))), rfl, m50.trans m2⟩))
 intro hb51 H52 m53
 have h54 := m53 _ _ h46
 have h55 := m53 _ _ h47
 have o56 := Own.mono o48 m53
 have o57 := MO.mono o49 m53
 have m58 := m50.trans m53
 have hp59 := of_decide_eq_false (nbi_T hb51)
 refine AOpsX.nil ?_
 change AWP _ _ _ _ _ _
 refine AWP.seq ?_
 refine AWP.regionX (l := [0, 1, 2, 3, 4]) rfl ?_
 refine AOpsX.cons rfl rfl (Mv _ rfl rfl ?_)
 refine AOpsX.cons rfl rfl (iS_ rfl rfl rfl sl_68 (by omega) (by omega) ?_)
 refine AOpsX.cons rfl rfl (Lf _ rfl rfl ty_3 (ld1 (by omega) (by omega)) ?_)
 refine AOpsX.cons rfl rfl (AOp.buildSlice (cells := [.int .i64 (at_ (numsL w) 2)]) rfl u_68 ts_3 tz_3 rfl rfl rfl ?_)
 intro i60 H61 n62 h63 k64
 have e65 := ne_new h54 n62
 have e66 := ne_new h55 n62
 have z67 := Mono.free m58 n62
 have h68 := keep k64 (ne_new h54 n62) h54
 have h69 := keep k64 (ne_new h55 n62) h55
 have o70 := Own.keep o56 k64 (Own.notnew o56 n62)
 have no71 := Own.notnew o56 n62
 have o72 := MO.keep o57 k64 (MO.notnew o57 n62)
 have no73 := MO.notnew o57 n62
 have m74 := Mono.new m58 n62 k64
 obtain ⟨v75, e76⟩ : ∃ v : AV, v = .slm i60 0 1 0 1 := ⟨_, rfl⟩
 have o77 : Own B H61 1 v75 1 [.int .i64 (at_ (numsL w) 2)] := .inr ⟨_, _, e76, h63, z67, rfl⟩
 have no78 : NotId v75 id := by rw [e76]; exact NotId.slm e65
 have no79 : NotId v75 ic := by rw [e76]; exact NotId.slm e66
 have sp80 : Sep v75 vK := by rw [e76]; exact Sep.ofNotId no71
 have sp81 : SepM (((rdL s vL vM vT vS vC vV vF vK).eraseIdx 4).eraseIdx 6) v75 := by rw [e76]; exact SepM.ofNotId no73
 refine AOpsX.consX rfl rfl ?_
 refine AOpX.frz 37 (o77) e76.symm m74 fun H82 m83 k84 => ?_
 have h85 := (k84 _ no78).trans h68
 have h86 := (k84 _ no79).trans h69
 have o87 := Own.stay o70 (Sep.symm sp80) (fun i hi _ => k84 i hi)
 have o88 := MO.stay o72 sp81 (fun i hi _ => k84 i hi)
 refine AOpX.need (b := inB 1 255 ([at_ (numsL w) 2] : List Int)) (k := 11) (as_ := [.int .i64 1, .int .i64 255, .sl ([at_ (numsL w) 2] : List Int).length (([at_ (numsL w) 2] : List Int).map eI)]) rfl rfl (rfl) tf_78 (c_within _ _ ([at_ (numsL w) 2] : List Int) (by first | omega | assumption | (simp only [List.length_drop, List.length_take]; omega) | (simp; omega) | simp)) ?_ (fun hb _ m2 => Or.inr ⟨_, rfl, _, gT hb1 (gT (decide_eq_true hb12) (gT hb20 (gT hb36 (gT hb51 (gF hb))))), rfl, m83.trans m2⟩)
 intro hb89 H90 m91
 have h92 := m91 _ _ h85
 have h93 := m91 _ _ h86
 have o94 := Own.mono o87 m91
 have o95 := MO.mono o88 m91
 have m96 := m83.trans m91
 refine AOpsX.nil ?_
 change AWP _ _ _ _ _ _
 refine AWP.region_str mixed (by kernel_rfl) [(0, none), (1, none), (2, none), (3, none), (4, none), (5, none), (6, none), (7, none), (8, none), (9, none), (10, none), (11, none), (12, none), (13, none), (14, none), (15, some [0, 1, 2, 3, 4]), (16, some [0])] [17, 18, 19] (by kernel_rfl) ?_
 refine STR.op rfl rfl (.inl ⟨rfl, fun H1 f' H' hf hN hM => Mv _ rfl ((hf 5 rfl).trans rfl) ⟨rfl, hN⟩⟩) ?_
 refine STR.op rfl rfl (.inl ⟨rfl, fun H1 f' H' hf hN hM => Mv _ rfl ((hf 5 rfl).trans rfl) ⟨rfl, hN⟩⟩) ?_
 refine STR.op rfl rfl (.inl ⟨rfl, fun H1 f' H' hf hN hM => nc_ (.ptr ic vc (((s.cages.length : Int) - 1).toNat * 3)) rfl ((hf 40 rfl).trans rfl) rfl ⟨rfl, hN⟩⟩) ?_
 refine STR.op rfl rfl (.inl ⟨rfl, fun H1 f' H' hf hN hM => Fa rfl ((hf 41 rfl).trans rfl) fl_48_2 ⟨rfl, hN⟩ (hid := ⟨_, (hM _ _ h93)⟩)⟩) ?_
 refine STR.op rfl rfl (.inl ⟨rfl, fun H1 f' H' hf hN hM => Ld _ rfl ((hf 42 rfl).trans rfl) ty_46 (hM _ _ h93) (ldC (k := 2) (drop_len _) rfl) ⟨rfl, hN⟩⟩) ?_
 refine STR.op rfl rfl (.inl ⟨rfl, fun H1 f' H' hf hN hM => Mv _ rfl ((hf 4 rfl).trans rfl) ⟨rfl, hN⟩⟩) ?_
 refine STR.op rfl rfl (.inl ⟨rfl, fun H1 f' H' hf hN hM => iS_ rfl ((hf 44 rfl).trans rfl) rfl sl_68 (by omega) (by omega) ⟨rfl, hN⟩⟩) ?_
 refine STR.op rfl rfl (.inl ⟨rfl, fun H1 f' H' hf hN hM => Lf _ rfl ((hf 45 rfl).trans rfl) ty_3 (ld1 (by omega) (by omega)) ⟨rfl, hN⟩⟩) ?_
 refine STR.op rfl rfl (.inl ⟨rfl, fun H1 f' H' hf hN hM => Mv _ rfl ((hf 4 rfl).trans rfl) ⟨rfl, hN⟩⟩) ?_
 refine STR.op rfl rfl (.inl ⟨rfl, fun H1 f' H' hf hN hM => iS_ rfl ((hf 47 rfl).trans rfl) rfl sl_68 (by omega) (by omega) ⟨rfl, hN⟩⟩) ?_
 refine STR.op rfl rfl (.inl ⟨rfl, fun H1 f' H' hf hN hM => Lf _ rfl ((hf 48 rfl).trans rfl) ty_3 (ld1 (by omega) (by omega)) ⟨rfl, hN⟩⟩) ?_
 refine STR.op rfl rfl (.inl ⟨rfl, fun H1 f' H' hf hN hM => Mv _ rfl ((hf 4 rfl).trans rfl) ⟨rfl, hN⟩⟩) ?_
 refine STR.op rfl rfl (.inl ⟨rfl, fun H1 f' H' hf hN hM => iS_ rfl ((hf 50 rfl).trans rfl) rfl sl_68 (by omega) (by omega) ⟨rfl, hN⟩⟩) ?_
 refine STR.op rfl rfl (.inl ⟨rfl, fun H1 f' H' hf hN hM => Lf _ rfl ((hf 51 rfl).trans rfl) ty_3 (ld1 (by omega) (by omega)) ⟨rfl, hN⟩⟩) ?_
 refine STR.op rfl rfl (.inl ⟨rfl, fun H1 f' H' hf hN hM => Bl (cells := [.int .i64 (at_ (numsL w) 0), .int .i64 (at_ (numsL w) 1), .int .i64 (at_ (numsL w) 2)]) rfl tz_91 pl_91 (lconsP ((hf 46 rfl).trans rfl) (lconsP ((hf 49 rfl).trans rfl) (lconsP ((hf 52 rfl).trans rfl) rfl))) rfl ⟨rfl, hN⟩⟩) ?_
 refine STR.eff rfl rfl rfl fun f97 H98 hf99 m100 => ?_
 have h101 := m100 _ _ h92
 have h102 := m100 _ _ h93
 have o103 := Own.mono o94 m100
 have o104 := MO.mono o95 m100
 have m105 := m96.trans m100
 refine AOp.buildSlice (cells := [.int .i64 (at_ (numsL w) 0), .int .i64 (at_ (numsL w) 1), .int .i64 (at_ (numsL w) 2)]) rfl u_46 ts_91 tz_91 rfl (lconsP ((hf99 53 rfl).trans rfl) rfl) rfl ?_
 intro i106 H107 n108 h109 k110
 have h114 := keep k110 (ne_new h101 n108) h101
 have h115 := keep k110 (ne_new h102 n108) h102
 have o116 := Own.keep o103 k110 (Own.notnew o103 n108)
 have o118 := MO.keep o104 k110 (MO.notnew o104 n108)
 have m120 := Mono.new m105 n108 k110
 refine ⟨_, rfl, .inl (Mono.new (Mono.refl _) n108 k110), ?_⟩
 refine STR.eff rfl rfl rfl fun f121 H122 hf123 m124 => ?_
 have h125 := m124 _ _ h114
 have h126 := m124 _ _ h115
 have h127 := m124 _ _ h109
 have o128 := Own.mono o116 m124
 have o129 := MO.mono o118 m124
 have m130 := m120.trans m124
 refine AOp.append_own (es := 3) (m := 1) (len := ((lastC s.cages).Creases.length)) (old := ((lastC s.cages).Creases).flatMap eCr) (cells := [.int .i64 (at_ (numsL w) 0), .int .i64 (at_ (numsL w) 1), .int .i64 (at_ (numsL w) 2)]) rfl u_46 ts_91 tzn_91 tb_91 (by decide) ni_46 ((hf123 43 rfl).trans rfl) o128 m130 ((hf123 54 rfl).trans rfl) (.slm h127 rfl) (one_of rfl) (by decide) (by first | omega | (simp; omega)) ?_
 intro v131 H132 o133 m134 k135 j136
 have o137 := Own.snocM (xs := ((lastC s.cages).Creases : List CrT)) (y := (ZreadCrease_0 w)) (e := eCr) (by simp) o133
 have h138 := (k135 _ nX (by rw [h125]; simp)).trans h125
 have no139 := j136 _ nX (by rw [h125]; simp)
 have h140 := (k135 _ no18 (by rw [h126]; simp)).trans h126
 have no141 := j136 _ no18 (by rw [h126]; simp)
 have sp143 := MO.sep o129 spX j136
 have o142 := MO.stay o129 spX k135
 refine ⟨_, rfl, .inr (RevR.skip rfl (RevR.skip rfl (RevR.skip rfl (RevR.skip rfl (RevR.skip rfl (RevR.skip rfl (RevR.skip rfl (RevR.skip rfl (RevR.skip rfl (RevR.skip rfl (RevR.skip rfl (RevR.skip rfl (RevR.skip rfl (RevR.skip rfl (RevR.skip rfl (RevR.cons rfl (.inl ⟨rfl, fun H1 f' H' hf hN hM => Mv _ rfl ((hf 5 rfl).trans rfl) ⟨rfl, hN⟩⟩) RevR.nil)))))))))))))))), ?_⟩
 refine STR.done fun H144 m145 => ?_
 have h146 := m145 _ _ h138
 have h147 := m145 _ _ h140
 have o148 := MO.mono o142 m145
 have o149 := Own.mono o137 m145
 have m150 := m134.trans m145
 refine C rfl (nc_ (.ptr ic vc (((s.cages.length : Int) - 1).toNat * 3)) rfl rfl rfl ?_)
 refine C rfl (Fa rfl rfl fl_48_2 ?_ (hid := ⟨_, h147⟩))
 refine C rfl (AOp.storeO (cells' := s.cages.dropLast.flatMap eCage ++ [vV, vF, v131]) rfl rfl o149 ts_46 h147 (Nat.ble_eq_true_of_le (by rw [List.length_append, drop_len]; simp only [List.length_cons, List.length_nil]; omega)) (wrC (k := 2) (drop_len _) rfl) ?_)
 intro H151 h152 k153
 have h154 := keep k153 nid h146
 have o156 := MO.keep o148 k153 no19
 have o157 := Own.keep o149 k153 no141
 have m158 := Mono.set m150 hBic k153
 refine AOps.nil ?_
 refine Or.inl ?_
 refine ⟨_, _, Ghost.refl, .inl rfl, _, Res.zero rfl, _, gT hb1 (gT (decide_eq_true hb12) (gT hb20 (gT hb36 (gT hb51 (gT hb89 rfl))))), ⟨_, _, _, _, _, _, _, _, RDv.upC (c := { lastC s.cages with Creases := (lastC s.cages).Creases ++ [⟨at_ (numsL w) 0, at_ (numsL w) 1, at_ (numsL w) 2⟩] }) hne h154 hB (MO.put (L := (rdL s vL vM vT vS vC vV vF vK).set 7 (3, v131, (((lastC s.cages).Creases) ++ [(ZreadCrease_0 w)]).length, (((lastC s.cages).Creases) ++ [(ZreadCrease_0 w)]).flatMap eCr)) (e := (3, vC, s.cages.length, s.cages.dropLast.flatMap eCage ++ [vV, vF, v131])) 4 (by simp [rdL]) (MO.put (L := (rdL s vL vM vT vS vC vV vF vK).eraseIdx 4) (e := (3, v131, (((lastC s.cages).Creases) ++ [(ZreadCrease_0 w)]).length, (((lastC s.cages).Creases) ++ [(ZreadCrease_0 w)]).flatMap eCr)) 6 (by simp [rdL]) o156 o157 sp143) (.inr ⟨ic, vc, hvC, h152, hBic, (by rw [List.length_append, drop_len]; simp only [List.length_cons, List.length_nil]; omega)⟩) (SepM.of (NotIdM.put (L := (rdL s vL vM vT vS vC vV vF vK).eraseIdx 4) (e := (3, v131, (((lastC s.cages).Creases) ++ [(ZreadCrease_0 w)]).length, (((lastC s.cages).Creases) ++ [(ZreadCrease_0 w)]).flatMap eCr)) 6 no19 no141) hvC)) (NotIdM.put (L := (rdL s vL vM vT vS vC vV vF vK).set 7 (3, v131, (((lastC s.cages).Creases) ++ [(ZreadCrease_0 w)]).length, (((lastC s.cages).Creases) ++ [(ZreadCrease_0 w)]).flatMap eCr)) (e := (3, vC, s.cages.length, s.cages.dropLast.flatMap eCage ++ [vV, vF, v131])) 4 (NotIdM.put (L := (rdL s vL vM vT vS vC vV vF vK).eraseIdx 4) (e := (3, v131, (((lastC s.cages).Creases) ++ [(ZreadCrease_0 w)]).length, (((lastC s.cages).Creases) ++ [(ZreadCrease_0 w)]).flatMap eCr)) 6 ngX no139) nC)⟩, m158, rfl⟩
end Go.Proofs.S
namespace Go.Proofs.S
open Go Go.AH Go.Proofs.L
set_option linter.unusedSectionVars false
variable [LexG]
theorem cageOk_len {w : List ByteArray} (h : cageOk w = true) : (w.length : Int) = 6 := by
  simp only [cageOk, Bool.and_eq_true, decide_eq_true_eq] at h; exact h.1
end Go.Proofs.S
namespace Go.Proofs.S
open Go Go.AH Go.Proofs.L
set_option maxRecDepth 4000
set_option maxHeartbeats 4000000
set_option linter.unusedSimpArgs false
set_option linter.unusedVariables false
set_option linter.unusedSectionVars false
variable [LexG]
theorem c_readCage {B H0 : Heap} {id ver : Nat} {s : Rd} (hm : Mono B H0) (hs : RD B H0 id ver s) (ok : RdOk s) (w : List ByteArray) (hw : w.length ≤ 1048576) : ACallsX Tryz.prog 37 [.ptr id ver 0, .sl w.length (w.map eStr)] H0 (fun r H' => ∃ t, cageP s w = .ok t ∧ RD B H' id ver t ∧ Mono B H' ∧ r = .tup []) (fun ch H' => ∃ k, cageP s w = .error k ∧ ch = pan 36 k ∧ Mono B H') := by
 obtain ⟨vL, vM, vT, vS, vC, vV, vF, vK, hrow, hB, hg, hn⟩ := hs
 obtain ⟨oS', og1, sp1⟩ := hg.at 3 rfl
 have oS : Own B H0 6 vS s.skins.length (s.skins.flatMap eSkin) := oS'
 have nS : NotId vS id := hn.at 3 rfl
 have ng1 := hn.erase 3
 obtain ⟨oM', og2, sp2⟩ := og1.at 1 rfl
 have oM : Own B H0 9 vM s.mats.length (s.mats.flatMap eMat) := oM'
 have nM : NotId vM id := ng1.at 1 rfl
 have ng2 := ng1.erase 1
 have sMS : Sep vM vS := sp1.at 1 rfl
 have sp1b := sp1.erase 1
 obtain ⟨oT', og3, sp3⟩ := og2.at 1 rfl
 have oT : Own B H0 4 vT s.texs.length (s.texs.flatMap eTex) := oT'
 have nT : NotId vT id := ng2.at 1 rfl
 have ng3 := ng2.erase 1
 have sTS : Sep vT vS := sp1b.at 1 rfl
 have sp1c := sp1b.erase 1
 have sTM : Sep vT vM := sp2.at 1 rfl
 have sp2b := sp2.erase 1
 refine ACallsX.of_body' (n := 132) rfl rfl rfl rfl ?_
 have m0 := hm
 refine AWP.seq ?_
 refine AWP.regionX (l := [0, 1]) rfl ?_
 refine AOpsX.cons rfl rfl (Mv _ rfl rfl ?_)
 refine AOpsX.consX rfl rfl (AOpX.need (b := namedB w 2 6) (k := 10) (as_ := [.sl w.length (w.map eStr), .int .i64 2, .int .i64 6]) rfl rfl (rfl) tf_81 (c_named w (by first | omega | assumption | (simp only [List.length_drop, List.length_take]; omega) | (simp; omega) | simp) _ _ (by omega) (by omega)) ?_ (fun hb _ m2 => Or.inr ⟨_, rfl, _, gF hb, rfl, m0.trans m2⟩))
 intro hb1 H2 m3
 have h4 := m3 _ _ hrow
 have o5 := Own.mono oS m3
 have o6 := Own.mono oM m3
 have o7 := Own.mono oT m3
 have o8 := MO.mono og3 m3
 have m9 := m0.trans m3
 have hl10 := named_len hb1
 refine AOpsX.nil ?_
 change AWP _ _ _ _ _ _
 refine AWP.seqc (fun fq Hq => fq 0 = .ptr id ver 0 ∧ fq 1 = .sl w.length (w.map eStr) ∧ Own B Hq 6 vS s.skins.length (s.skins.flatMap eSkin) ∧ Own B Hq 9 vM s.mats.length (s.mats.flatMap eMat) ∧ Own B Hq 4 vT s.texs.length (s.texs.flatMap eTex) ∧ MO B Hq ((((rdL s vL vM vT vS vC vV vF vK).eraseIdx 3).eraseIdx 1).eraseIdx 1) ∧ Hq id = some (.row ver (rdC s.cam s.sky vL vM vT vS vC s.hc s.hs)) ∧ Mono B Hq ∧ (cageOk w = true)) ?_ ?_
 refine AWP.regionX (l := [0, 1, 2, 3, 4, 5, 6, 7, 8, 9, 10, 11, 12, 13, 14, 15]) rfl ?_
 refine AOpsX.cons rfl rfl (Mv _ rfl rfl ?_)
 refine AOpsX.cons rfl rfl (AOp.len (m := w.length) rfl rfl (.inr (.inl ⟨_, rfl⟩)) u_57 ?_)
 refine AOpsX.cons rfl rfl (Bi _ rfl rfl rfl ieq ?_)
 refine AOpsX.cons rfl rfl (Mv _ rfl rfl ?_)
 by_cases b11 : (w.length : Int) = 6
 refine AOpsX.yes rfl rfl rfl rfl rfl rfl rfl (decide_eq_true b11) (Mv _ rfl rfl ?_)
 refine AOpsX.yes rfl rfl rfl rfl rfl rfl rfl (decide_eq_true b11) (iS_ rfl rfl rfl sl_57 (by omega) (by omega) ?_)
 refine AOpsX.yes rfl rfl rfl rfl rfl rfl rfl (decide_eq_true b11) (Lf _ rfl rfl ty_9 (ld1 (by omega) (by omega)) ?_)
 refine AOpsX.yes rfl rfl rfl rfl rfl rfl rfl (decide_eq_true b11) (AOp.seqD rfl rfl rfl ?_)
 refine AOpsX.yes rfl rfl rfl rfl rfl rfl rfl (decide_eq_true b11) (Mv _ rfl rfl ?_)
 by_cases b12 : (at_ w 4) = ⟨#[45]⟩
 refine AOpsX.no rfl rfl rfl rfl rfl rfl rfl (ble_of (decide_eq_true b12) (by decide)) ?_
 refine AOpsX.no rfl rfl rfl rfl rfl rfl rfl (ble_of (decide_eq_true b12) (by decide)) ?_
 refine AOpsX.no rfl rfl rfl rfl rfl rfl rfl (ble_of (decide_eq_true b12) (by decide)) ?_
 refine AOpsX.no rfl rfl rfl rfl rfl rfl rfl (ble_of (decide_eq_true b12) (by decide)) ?_
 refine AOpsX.yes rfl rfl rfl rfl rfl rfl rfl (decide_eq_true b11) (Pt _ rfl rfl (decide_eq_true b12) rfl ?_)
 refine AOpsX.cons rfl rfl (Pt _ rfl rfl (decide_eq_true b11) rfl ?_)
 refine AOpsX.consX rfl rfl (AOpX.need (b := true) (k := 10) (as_ := [.bool true, .int .i64 10]) rfl rfl (rfl) tf_77 (c_need _ _) ?_ (fun h => Bool.noConfusion h))
 intro hb13 H14 m15
 have h16 := m15 _ _ h4
 have o17 := Own.mono o5 m15
 have o18 := Own.mono o6 m15
 have o19 := Own.mono o7 m15
 have o20 := MO.mono o8 m15
 have m21 := m9.trans m15
 have hg22 : cageOk w = true := by have hb_ := hb13; simp only [cageOk, dash, Bool.and_eq_false_iff, Bool.or_eq_false_iff, Bool.and_eq_true, Bool.or_eq_true, decide_eq_true_eq, decide_eq_false_iff_not]; first | omega | (simp_all; done) | (simp_all; omega)
 refine AOpsX.nil ?_
 exact Then.n ⟨rfl, rfl, o17, o18, o19, o20, h16, m21, (by exact hg22)⟩
 refine AOpsX.yes rfl rfl rfl rfl rfl rfl rfl (decide_eq_false b12) (Mv _ rfl rfl ?_)
 refine AOpsX.yes rfl rfl rfl rfl rfl rfl rfl (decide_eq_false b12) (iS_ rfl rfl rfl sl_57 (by omega) (by omega) ?_)
 refine AOpsX.yes rfl rfl rfl rfl rfl rfl rfl (decide_eq_false b12) (Lf _ rfl rfl ty_9 (ld1 (by omega) (by omega)) ?_)
 refine AOpsX.yes rfl rfl rfl rfl rfl rfl rfl (decide_eq_false b12) (Pc («as» := [.str (at_ w 4)]) rfl rfl (rfl) tf_85 (c_lex_Name _) ?_)
 intro H23 m24
 have h25 := m24 _ _ h4
 have o26 := Own.mono o5 m24
 have o27 := Own.mono o6 m24
 have o28 := Own.mono o7 m24
 have o29 := MO.mono o8 m24
 have m30 := m9.trans m24
 refine AOpsX.yes rfl rfl rfl rfl rfl rfl rfl (decide_eq_true b11) (Pf _ rfl rfl (decide_eq_false b12) rfl ?_)
 refine AOpsX.cons rfl rfl (Pt _ rfl rfl (decide_eq_true b11) rfl ?_)
 refine AOpsX.consX rfl rfl (AOpX.need (b := nameB (at_ w 4)) (k := 10) (as_ := [.bool (nameB (at_ w 4)), .int .i64 10]) rfl rfl (rfl) tf_77 (c_need _ _) ?_ (fun hb _ m2 => Or.inr ⟨_, rfl, _, gT hb1 (gF (show cageOk w = false from by have hb_ := hb; simp only [cageOk, dash, Bool.and_eq_false_iff, Bool.or_eq_false_iff, Bool.and_eq_true, Bool.or_eq_true, decide_eq_true_eq, decide_eq_false_iff_not]; first | omega | (simp_all; done) | (simp_all; omega))), rfl, m30.trans m2⟩))
 intro hb31 H32 m33
 have h34 := m33 _ _ h25
 have o35 := Own.mono o26 m33
 have o36 := Own.mono o27 m33
 have o37 := Own.mono o28 m33
 have o38 := MO.mono o29 m33
 have m39 := m30.trans m33
 have hg40 : cageOk w = true := by have hb_ := hb31; simp only [cageOk, dash, Bool.and_eq_false_iff, Bool.or_eq_false_iff, Bool.and_eq_true, Bool.or_eq_true, decide_eq_true_eq, decide_eq_false_iff_not]; first | omega | (simp_all; done) | (simp_all; omega)
 refine AOpsX.nil ?_
 exact Then.n ⟨rfl, rfl, o35, o36, o37, o38, h34, m39, (by exact hg40)⟩
 refine AOpsX.no rfl rfl rfl rfl rfl rfl rfl (ble_of (decide_eq_false b11) (by decide)) ?_
 refine AOpsX.no rfl rfl rfl rfl rfl rfl rfl (ble_of (decide_eq_false b11) (by decide)) ?_
 refine AOpsX.no rfl rfl rfl rfl rfl rfl rfl (ble_of (decide_eq_false b11) (by decide)) ?_
 refine AOpsX.no rfl rfl rfl rfl rfl rfl rfl (ble_of (decide_eq_false b11) (by decide)) ?_
 refine AOpsX.no rfl rfl rfl rfl rfl rfl rfl (ble_of (decide_eq_false b11) (by decide)) ?_
 refine AOpsX.un rfl rfl rfl rfl rfl rfl rfl ?_
 refine AOpsX.un rfl rfl rfl rfl rfl rfl rfl ?_
 refine AOpsX.un rfl rfl rfl rfl rfl rfl rfl ?_
 refine AOpsX.un rfl rfl rfl rfl rfl rfl rfl ?_
 refine AOpsX.no rfl rfl rfl rfl rfl rfl rfl (ble_of (decide_eq_false b11) (by decide)) ?_
 refine AOpsX.cons rfl rfl (Pf _ rfl rfl (decide_eq_false b11) rfl ?_)
 refine AOpsX.consX rfl rfl (AOpX.need (b := false) (k := 10) (as_ := [.bool false, .int .i64 10]) rfl rfl (rfl) tf_77 (c_need _ _) (fun h => Bool.noConfusion h) (fun _ _ m2 => Or.inr ⟨_, rfl, _, gT hb1 (gF (show cageOk w = false from by simp only [cageOk, dash, Bool.and_eq_false_iff, Bool.or_eq_false_iff, Bool.and_eq_true, Bool.or_eq_true, decide_eq_true_eq, decide_eq_false_iff_not]; first | omega | (simp_all; done) | (simp_all; omega))), rfl, m9.trans m2⟩))
 rintro f45 H44 ⟨s46, s47, o48, o49, o50, o51, h52, m53, hck⟩
 have hl6 := cageOk_len hck
 refine AWP.seq ?_
 refine AWP.region_quietX mixed (by kernel_rfl) 9 [9, 10, 11] rfl (by kernel_rfl) (Mono H44) (Mono.refl _) ?_
 refine QV rfl s47 (Q rfl (fun _ _ φ ψ => iS_ rfl (φ 23 rfl) rfl sl_57 (by omega) (by omega) ⟨rfl, ψ⟩) (QL rfl rfl ty_9 (ld1 (by omega) (by omega)) (QV rfl s47 (Q rfl (fun _ _ φ ψ => iS_ rfl (φ 26 rfl) rfl sl_57 (by omega) (by omega) ⟨rfl, ψ⟩) (QL rfl rfl ty_9 (ld1 (by omega) (by omega)) (QV rfl s47 (Q rfl (fun _ _ φ ψ => iS_ rfl (φ 29 rfl) rfl sl_57 (by omega) (by omega) ⟨rfl, ψ⟩) (QL rfl rfl ty_9 (ld1 (by omega) (by omega)) ?_))))))))
 refine QE.done fun H54 m55 => ?_
 have h56 := m55 _ _ h52
 have o57 := Own.mono o48 m55
 have o58 := Own.mono o49 m55
 have o59 := Own.mono o50 m55
 have o60 := MO.mono o51 m55
 have m61 := m53.trans m55
 refine AOpsX.cons rfl rfl (AOp.buildSlice (cells := [.str (at_ w 2), .str (at_ w 3), .str (at_ w 5)]) rfl u_57 ts_9 tz_9 rfl rfl rfl ?_)
 intro i62 H63 n64 h65 k66
 have e67 := ne_new h56 n64
 have z68 := Mono.free m61 n64
 have h69 := keep k66 (ne_new h56 n64) h56
 have o70 := Own.keep o57 k66 (Own.notnew o57 n64)
 have no71 := Own.notnew o57 n64
 have o72 := Own.keep o58 k66 (Own.notnew o58 n64)
 have no73 := Own.notnew o58 n64
 have o74 := Own.keep o59 k66 (Own.notnew o59 n64)
 have no75 := Own.notnew o59 n64
 have o76 := MO.keep o60 k66 (MO.notnew o60 n64)
 have no77 := MO.notnew o60 n64
 have m78 := Mono.new m61 n64 k66
 obtain ⟨v79, e80⟩ : ∃ v : AV, v = .slm i62 0 1 0 3 := ⟨_, rfl⟩
 have o81 : Own B H63 1 v79 3 [.str (at_ w 2), .str (at_ w 3), .str (at_ w 5)] := .inr ⟨_, _, e80, h65, z68, rfl⟩
 have no82 : NotId v79 id := by rw [e80]; exact NotId.slm e67
 have sp83 : Sep v79 vS := by rw [e80]; exact Sep.ofNotId no71
 have sp84 : Sep v79 vM := by rw [e80]; exact Sep.ofNotId no73
 have sp85 : Sep v79 vT := by rw [e80]; exact Sep.ofNotId no75
 have sp86 : SepM ((((rdL s vL vM vT vS vC vV vF vK).eraseIdx 3).eraseIdx 1).eraseIdx 1) v79 := by rw [e80]; exact SepM.ofNotId no77
 refine AOpsX.consX rfl rfl ?_
 refine AOpX.frz 32 (o81) e80.symm m78 fun H87 m88 k89 => ?_
 have h90 := (k89 _ no82).trans h69
 have o91 := Own.stay o70 (Sep.symm sp83) (fun i hi _ => k89 i hi)
 have o92 := Own.stay o72 (Sep.symm sp84) (fun i hi _ => k89 i hi)
 have o93 := Own.stay o74 (Sep.symm sp85) (fun i hi _ => k89 i hi)
 have o94 := MO.stay o76 sp86 (fun i hi _ => k89 i hi)
 refine AOpX.need (b := numsB ([(at_ w 2), (at_ w 3), (at_ w 5)] : List ByteArray)) (k := 10) (as_ := [.sl ([(at_ w 2), (at_ w 3), (at_ w 5)] : List ByteArray).length (([(at_ w 2), (at_ w 3), (at_ w 5)] : List ByteArray).map eStr)]) rfl rfl (rfl) tf_82 (c_numbers ([(at_ w 2), (at_ w 3), (at_ w 5)] : List ByteArray) (by first | omega | assumption | (simp only [List.length_drop, List.length_take]; omega) | (simp; omega) | simp)) ?_ (fun hb _ m2 => Or.inr ⟨_, rfl, _, gT hb1 (gT hck (gF hb)), rfl, m88.trans m2⟩)
 intro hb95 H96 m97
 have h98 := m97 _ _ h90
 have o99 := Own.mono o91 m97
 have o100 := Own.mono o92 m97
 have o101 := Own.mono o93 m97
 have o102 := MO.mono o94 m97
 have m103 := m88.trans m97
 have hl104 : ((numsL ([(at_ w 2), (at_ w 3), (at_ w 5)] : List ByteArray)).length : Int) = 3 := by rw [numsL_len]; rfl
 refine AOpsX.cons rfl rfl (As _ rfl rfl ?_)
 refine AOpsX.nil ?_
 change AWP _ _ _ _ _ _
 refine AWP.seq ?_
 refine AWP.regionX (l := [0, 1, 2, 3, 4, 5, 6, 7]) rfl ?_
 refine AOpsX.cons rfl rfl (Mv _ rfl s46 ?_)
 refine AOpsX.cons rfl rfl (nc_ (.ptr id ver 0) rfl rfl rfl ?_)
 refine AOpsX.cons rfl rfl (Fa rfl rfl fl_56_0 ?_ (hid := ⟨_, h98⟩))
 refine AOpsX.cons rfl rfl (Fa rfl rfl fl_35_5 ?_ (hid := ⟨_, h98⟩))
 refine AOpsX.cons rfl rfl (Ld _ rfl rfl ty_32 h98 rfl ?_)
 refine AOpsX.cons rfl rfl (AOp.len_own (m := s.skins.length) rfl rfl o99 u_32 ?_)
 refine AOpsX.cons rfl rfl (Bi _ rfl rfl rfl rfl ?_)
 refine AOpsX.consX rfl rfl (AOpX.need (b := decide ((s.skins.length : Int) < 8)) (k := 13) (as_ := [.bool (decide ((s.skins.length : Int) < 8)), .int .i64 13]) rfl rfl (rfl) tf_77 (c_need _ _) ?_ (fun hb _ m2 => Or.inr ⟨_, rfl, _, gT hb1 (gT hck (gT hb95 (gF hb))), rfl, m103.trans m2⟩))
 intro hb105 H106 m107
 have h108 := m107 _ _ h98
 have o109 := Own.mono o99 m107
 have o110 := Own.mono o100 m107
 have o111 := Own.mono o101 m107
 have o112 := MO.mono o102 m107
 have m113 := m103.trans m107
 have hp114 := of_decide_eq_true hb105
 refine AOpsX.nil ?_
 change AWP _ _ _ _ _ _
 refine AWP.seqc (fun fq Hq => fq 0 = .ptr id ver 0 ∧ fq 1 = .sl w.length (w.map eStr) ∧ fq 4 = .sl (numsL ([(at_ w 2), (at_ w 3), (at_ w 5)] : List ByteArray)).length ((numsL ([(at_ w 2), (at_ w 3), (at_ w 5)] : List ByteArray)).map eI) ∧ Own B Hq 6 vS s.skins.length (s.skins.flatMap eSkin) ∧ Own B Hq 9 vM s.mats.length (s.mats.flatMap eMat) ∧ Own B Hq 4 vT s.texs.length (s.texs.flatMap eTex) ∧ MO B Hq ((((rdL s vL vM vT vS vC vV vF vK).eraseIdx 3).eraseIdx 1).eraseIdx 1) ∧ Hq id = some (.row ver (rdC s.cam s.sky vL vM vT vS vC s.hc s.hs)) ∧ Mono B Hq ∧ (cageHas s w = true)) ?_ ?_
 refine AWP.regionX (l := [0, 1, 2, 3, 4, 5, 6, 7, 8, 9, 10, 11, 12, 13, 14, 15, 16, 17, 18, 19, 20, 21, 22, 23, 24, 25, 26, 27, 28]) rfl ?_
 refine AOpsX.cons rfl rfl (Mv _ rfl s46 ?_)
 refine AOpsX.cons rfl rfl (Mv _ rfl s47 ?_)
 refine AOpsX.cons rfl rfl (iS_ rfl rfl rfl sl_57 (by omega) (by omega) ?_)
 refine AOpsX.cons rfl rfl (Lf _ rfl rfl ty_9 (ld1 (by omega) (by omega)) ?_)
 refine AOpsX.cons rfl rfl (AOp.pcallH («as» := [.ptr id ver 0, .str (at_ w 0)]) rfl rfl (rfl) tf_86 ((c_xSkin (B := B) h108 o109 (by have := ok.k; omega) (at_ w 0))) ?_)
 intro H115 m116
 have h117 := m116 _ _ h108
 have o118 := Own.mono o109 m116
 have o119 := Own.mono o110 m116
 have o120 := Own.mono o111 m116
 have o121 := MO.mono o112 m116
 have m122 := m113.trans m116
 refine AOpsX.cons rfl rfl (Bi _ rfl rfl rfl rfl ?_)
 refine AOpsX.cons rfl rfl (Mv _ rfl rfl ?_)
 by_cases b123 : skinX s (at_ w 0) < 0
 refine AOpsX.yes rfl rfl rfl rfl rfl rfl rfl (decide_eq_true b123) (Mv _ rfl s46 ?_)
 refine AOpsX.yes rfl rfl rfl rfl rfl rfl rfl (decide_eq_true b123) (Mv _ rfl s47 ?_)
 refine AOpsX.yes rfl rfl rfl rfl rfl rfl rfl (decide_eq_true b123) (iS_ rfl rfl rfl sl_57 (by omega) (by omega) ?_)
 refine AOpsX.yes rfl rfl rfl rfl rfl rfl rfl (decide_eq_true b123) (Lf _ rfl rfl ty_9 (ld1 (by omega) (by omega)) ?_)
 refine AOpsX.yes rfl rfl rfl rfl rfl rfl rfl (decide_eq_true b123) (AOp.pcallH («as» := [.ptr id ver 0, .str (at_ w 1)]) rfl rfl (rfl) tf_84 ((c_xMat (B := B) h117 o119 (by have := ok.m; omega) (at_ w 1))) ?_)
 intro H124 m125
 have h126 := m125 _ _ h117
 have o127 := Own.mono o118 m125
 have o128 := Own.mono o119 m125
 have o129 := Own.mono o120 m125
 have o130 := MO.mono o121 m125
 have m131 := m122.trans m125
 refine AOpsX.yes rfl rfl rfl rfl rfl rfl rfl (decide_eq_true b123) (Bi _ rfl rfl rfl rfl ?_)
 refine AOpsX.cons rfl rfl (Pt _ rfl rfl (decide_eq_true b123) rfl ?_)
 refine AOpsX.cons rfl rfl (Mv _ rfl rfl ?_)
 by_cases b132 : matX s (at_ w 1) ≥ 0
 refine AOpsX.yes rfl rfl rfl rfl rfl rfl rfl (decide_eq_true b132) (Mv _ rfl s47 ?_)
 refine AOpsX.yes rfl rfl rfl rfl rfl rfl rfl (decide_eq_true b132) (iS_ rfl rfl rfl sl_57 (by omega) (by omega) ?_)
 refine AOpsX.yes rfl rfl rfl rfl rfl rfl rfl (decide_eq_true b132) (Lf _ rfl rfl ty_9 (ld1 (by omega) (by omega)) ?_)
 refine AOpsX.yes rfl rfl rfl rfl rfl rfl rfl (decide_eq_true b132) (AOp.seqD rfl rfl rfl ?_)
 refine AOpsX.yes rfl rfl rfl rfl rfl rfl rfl (decide_eq_true b132) (Mv _ rfl rfl ?_)
 by_cases b133 : (at_ w 4) = ⟨#[45]⟩
 refine AOpsX.no rfl rfl rfl rfl rfl rfl rfl (ble_of (decide_eq_true b133) (by decide)) ?_
 refine AOpsX.no rfl rfl rfl rfl rfl rfl rfl (ble_of (decide_eq_true b133) (by decide)) ?_
 refine AOpsX.no rfl rfl rfl rfl rfl rfl rfl (ble_of (decide_eq_true b133) (by decide)) ?_
 refine AOpsX.no rfl rfl rfl rfl rfl rfl rfl (ble_of (decide_eq_true b133) (by decide)) ?_
 refine AOpsX.no rfl rfl rfl rfl rfl rfl rfl (ble_of (decide_eq_true b133) (by decide)) ?_
 refine AOpsX.no rfl rfl rfl rfl rfl rfl rfl (ble_of (decide_eq_true b133) (by decide)) ?_
 refine AOpsX.yes rfl rfl rfl rfl rfl rfl rfl (decide_eq_true b132) (Pt _ rfl rfl (decide_eq_true b133) rfl ?_)
 refine AOpsX.cons rfl rfl (Pt _ rfl rfl (decide_eq_true b132) rfl ?_)
 refine AOpsX.consX rfl rfl (AOpX.need (b := true) (k := 12) (as_ := [.bool true, .int .i64 12]) rfl rfl (rfl) tf_77 (c_need _ _) ?_ (fun h => Bool.noConfusion h))
 intro hb134 H135 m136
 have h137 := m136 _ _ h126
 have o138 := Own.mono o127 m136
 have o139 := Own.mono o128 m136
 have o140 := Own.mono o129 m136
 have o141 := MO.mono o130 m136
 have m142 := m131.trans m136
 have hg143 : cageHas s w = true := by have hb_ := hb134; simp only [cageHas, dash, Bool.and_eq_false_iff, Bool.or_eq_false_iff, Bool.and_eq_true, Bool.or_eq_true, decide_eq_true_eq, decide_eq_false_iff_not]; first | omega | (simp_all; done) | (simp_all; omega)
 refine AOpsX.nil ?_
 exact Then.n ⟨s46, s47, rfl, o138, o139, o140, o141, h137, m142, (by exact hg143)⟩
 refine AOpsX.yes rfl rfl rfl rfl rfl rfl rfl (decide_eq_false b133) (Mv _ rfl s46 ?_)
 refine AOpsX.yes rfl rfl rfl rfl rfl rfl rfl (decide_eq_false b133) (Mv _ rfl s47 ?_)
 refine AOpsX.yes rfl rfl rfl rfl rfl rfl rfl (decide_eq_false b133) (iS_ rfl rfl rfl sl_57 (by omega) (by omega) ?_)
 refine AOpsX.yes rfl rfl rfl rfl rfl rfl rfl (decide_eq_false b133) (Lf _ rfl rfl ty_9 (ld1 (by omega) (by omega)) ?_)
 refine AOpsX.yes rfl rfl rfl rfl rfl rfl rfl (decide_eq_false b133) (AOp.pcallH («as» := [.ptr id ver 0, .str (at_ w 4)]) rfl rfl (rfl) tf_83 ((c_xTex (B := B) h126 o129 (by have := ok.t; omega) (at_ w 4))) ?_)
 intro H144 m145
 have h146 := m145 _ _ h126
 have o147 := Own.mono o127 m145
 have o148 := Own.mono o128 m145
 have o149 := Own.mono o129 m145
 have o150 := MO.mono o130 m145
 have m151 := m131.trans m145
 refine AOpsX.yes rfl rfl rfl rfl rfl rfl rfl (decide_eq_false b133) (Bi _ rfl rfl rfl rfl ?_)
 refine AOpsX.yes rfl rfl rfl rfl rfl rfl rfl (decide_eq_true b132) (Pf _ rfl rfl (decide_eq_false b133) rfl ?_)
 refine AOpsX.cons rfl rfl (Pt _ rfl rfl (decide_eq_true b132) rfl ?_)
 refine AOpsX.consX rfl rfl (AOpX.need (b := decide (texX s (at_ w 4) ≥ 0)) (k := 12) (as_ := [.bool (decide (texX s (at_ w 4) ≥ 0)), .int .i64 12]) rfl rfl (rfl) tf_77 (c_need _ _) ?_ (fun hb _ m2 => Or.inr ⟨_, rfl, _, gT hb1 (gT hck (gT hb95 (gT hb105 (gF (show cageHas s w = false from by have hb_ := hb; simp only [cageHas, dash, Bool.and_eq_false_iff, Bool.or_eq_false_iff, Bool.and_eq_true, Bool.or_eq_true, decide_eq_true_eq, decide_eq_false_iff_not]; first | omega | (simp_all; done) | (simp_all; omega)))))), rfl, m151.trans m2⟩))
 intro hb152 H153 m154
 have h155 := m154 _ _ h146
 have o156 := Own.mono o147 m154
 have o157 := Own.mono o148 m154
 have o158 := Own.mono o149 m154
 have o159 := MO.mono o150 m154
 have m160 := m151.trans m154
 have hp161 := of_decide_eq_true hb152
 have hg162 : cageHas s w = true := by have hb_ := hb152; simp only [cageHas, dash, Bool.and_eq_false_iff, Bool.or_eq_false_iff, Bool.and_eq_true, Bool.or_eq_true, decide_eq_true_eq, decide_eq_false_iff_not]; first | omega | (simp_all; done) | (simp_all; omega)
 refine AOpsX.nil ?_
 exact Then.n ⟨s46, s47, rfl, o156, o157, o158, o159, h155, m160, (by exact hg162)⟩
 refine AOpsX.no rfl rfl rfl rfl rfl rfl rfl (ble_of (decide_eq_false b132) (by decide)) ?_
 refine AOpsX.no rfl rfl rfl rfl rfl rfl rfl (ble_of (decide_eq_false b132) (by decide)) ?_
 refine AOpsX.no rfl rfl rfl rfl rfl rfl rfl (ble_of (decide_eq_false b132) (by decide)) ?_
 refine AOpsX.no rfl rfl rfl rfl rfl rfl rfl (ble_of (decide_eq_false b132) (by decide)) ?_
 refine AOpsX.no rfl rfl rfl rfl rfl rfl rfl (ble_of (decide_eq_false b132) (by decide)) ?_
 refine AOpsX.un rfl rfl rfl rfl rfl rfl rfl ?_
 refine AOpsX.un rfl rfl rfl rfl rfl rfl rfl ?_
 refine AOpsX.un rfl rfl rfl rfl rfl rfl rfl ?_
 refine AOpsX.un rfl rfl rfl rfl rfl rfl rfl ?_
 refine AOpsX.un rfl rfl rfl rfl rfl rfl rfl ?_
 refine AOpsX.un rfl rfl rfl rfl rfl rfl rfl ?_
 refine AOpsX.no rfl rfl rfl rfl rfl rfl rfl (ble_of (decide_eq_false b132) (by decide)) ?_
 refine AOpsX.cons rfl rfl (Pf _ rfl rfl (decide_eq_false b132) rfl ?_)
 refine AOpsX.consX rfl rfl (AOpX.need (b := false) (k := 12) (as_ := [.bool false, .int .i64 12]) rfl rfl (rfl) tf_77 (c_need _ _) (fun h => Bool.noConfusion h) (fun _ _ m2 => Or.inr ⟨_, rfl, _, gT hb1 (gT hck (gT hb95 (gT hb105 (gF (show cageHas s w = false from by simp only [cageHas, dash, Bool.and_eq_false_iff, Bool.or_eq_false_iff, Bool.and_eq_true, Bool.or_eq_true, decide_eq_true_eq, decide_eq_false_iff_not]; first | omega | (simp_all; done) | (simp_all; omega)))))), rfl, m131.trans m2⟩))
 refine AOpsX.no rfl rfl rfl rfl rfl rfl rfl (ble_of (decide_eq_false b123) (by decide)) ?_
 refine AOpsX.no rfl rfl rfl rfl rfl rfl rfl (ble_of (decide_eq_false b123) (by decide)) ?_
 refine AOpsX.no rfl rfl rfl rfl rfl rfl rfl (ble_of (decide_eq_false b123) (by decide)) ?_
 refine AOpsX.no rfl rfl rfl rfl rfl rfl rfl (ble_of (decide_eq_false b123) (by decide)) ?_
 refine AOpsX.no rfl rfl rfl rfl rfl rfl rfl (ble_of (decide_eq_false b123) (by decide)) ?_
 refine AOpsX.no rfl rfl rfl rfl rfl rfl rfl (ble_of (decide_eq_false b123) (by decide)) ?_
 refine AOpsX.cons rfl rfl (Pf _ rfl rfl (decide_eq_false b123) rfl ?_)
 refine AOpsX.cons rfl rfl (Mv _ rfl rfl ?_)
 refine AOpsX.no rfl rfl rfl rfl rfl rfl rfl (ble_of rfl (by decide)) ?_
 refine AOpsX.no rfl rfl rfl rfl rfl rfl rfl (ble_of rfl (by decide)) ?_
 refine AOpsX.no rfl rfl rfl rfl rfl rfl rfl (ble_of rfl (by decide)) ?_
 refine AOpsX.no rfl rfl rfl rfl rfl rfl rfl (ble_of rfl (by decide)) ?_
 refine AOpsX.no rfl rfl rfl rfl rfl rfl rfl (ble_of rfl (by decide)) ?_
 refine AOpsX.un rfl rfl rfl rfl rfl rfl rfl ?_
 refine AOpsX.un rfl rfl rfl rfl rfl rfl rfl ?_
 refine AOpsX.un rfl rfl rfl rfl rfl rfl rfl ?_
 refine AOpsX.un rfl rfl rfl rfl rfl rfl rfl ?_
 refine AOpsX.un rfl rfl rfl rfl rfl rfl rfl ?_
 refine AOpsX.un rfl rfl rfl rfl rfl rfl rfl ?_
 refine AOpsX.no rfl rfl rfl rfl rfl rfl rfl (ble_of rfl (by decide)) ?_
 refine AOpsX.cons rfl rfl (Pf _ rfl rfl rfl rfl ?_)
 refine AOpsX.consX rfl rfl (AOpX.need (b := false) (k := 12) (as_ := [.bool false, .int .i64 12]) rfl rfl (rfl) tf_77 (c_need _ _) (fun h => Bool.noConfusion h) (fun _ _ m2 => Or.inr ⟨_, rfl, _, gT hb1 (gT hck (gT hb95 (gT hb105 (gF (show cageHas s w = false from by simp only [cageHas, dash, Bool.and_eq_false_iff, Bool.or_eq_false_iff, Bool.and_eq_true, Bool.or_eq_true, decide_eq_true_eq, decide_eq_false_iff_not]; first | omega | (simp_all; done) | (simp_all; omega)))))), rfl, m122.trans m2⟩))
 rintro f170 H169 ⟨s171, s172, s173, o174, o175, o176, o177, h178, m179, hch⟩
 refine AWP.seq ?_
 refine AWP.regionX (l := [0, 1, 2, 3, 4]) rfl ?_
 refine AOpsX.cons rfl rfl (Mv _ rfl s173 ?_)
 refine AOpsX.cons rfl rfl (iS_ rfl rfl rfl sl_68 (by omega) (by omega) ?_)
 refine AOpsX.cons rfl rfl (Lf _ rfl rfl ty_3 (ld1 (by omega) (by omega)) ?_)
 refine AOpsX.cons rfl rfl (AOp.buildSlice (cells := [.int .i64 (at_ (numsL ([(at_ w 2), (at_ w 3), (at_ w 5)] : List ByteArray)) 0)]) rfl u_68 ts_3 tz_3 rfl rfl rfl ?_)
 intro i180 H181 n182 h183 k184
 have e185 := ne_new h178 n182
 have z186 := Mono.free m179 n182
 have h187 := keep k184 (ne_new h178 n182) h178
 have o188 := Own.keep o174 k184 (Own.notnew o174 n182)
 have no189 := Own.notnew o174 n182
 have o190 := Own.keep o175 k184 (Own.notnew o175 n182)
 have no191 := Own.notnew o175 n182
 have o192 := Own.keep o176 k184 (Own.notnew o176 n182)
 have no193 := Own.notnew o176 n182
 have o194 := MO.keep o177 k184 (MO.notnew o177 n182)
 have no195 := MO.notnew o177 n182
 have m196 := Mono.new m179 n182 k184
 obtain ⟨v197, e198⟩ : ∃ v : AV, v = .slm i180 0 1 0 1 := ⟨_, rfl⟩
 have o199 : Own B H181 1 v197 1 [.int .i64 (at_ (numsL ([(at_ w 2), (at_ w 3), (at_ w 5)] : List ByteArray)) 0)] := .inr ⟨_, _, e198, h183, z186, rfl⟩
 have no200 : NotId v197 id := by rw [e198]; exact NotId.slm e185
 have sp201 : Sep v197 vS := by rw [e198]; exact Sep.ofNotId no189
 have sp202 : Sep v197 vM := by rw [e198]; exact Sep.ofNotId no191
 have sp203 : Sep v197 vT := by rw [e198]; exact Sep.ofNotId no193
 have sp204 : SepM ((((rdL s vL vM vT vS vC vV vF vK).eraseIdx 3).eraseIdx 1).eraseIdx 1) v197 := by rw [e198]; exact SepM.ofNotId no195
 refine AOpsX.consX rfl rfl ?_
 refine AOpX.frz 74 (o199) e198.symm m196 fun H205 m206 k207 => ?_
 have h208 := (k207 _ no200).trans h187
 have o209 := Own.stay o188 (Sep.symm sp201) (fun i hi _ => k207 i hi)
 have o210 := Own.stay o190 (Sep.symm sp202) (fun i hi _ => k207 i hi)
 have o211 := Own.stay o192 (Sep.symm sp203) (fun i hi _ => k207 i hi)
 have o212 := MO.stay o194 sp204 (fun i hi _ => k207 i hi)
 refine AOpX.need (b := inB 0 2 ([at_ (numsL ([(at_ w 2), (at_ w 3), (at_ w 5)] : List ByteArray)) 0] : List Int)) (k := 11) (as_ := [.int .i64 0, .int .i64 2, .sl ([at_ (numsL ([(at_ w 2), (at_ w 3), (at_ w 5)] : List ByteArray)) 0] : List Int).length (([at_ (numsL ([(at_ w 2), (at_ w 3), (at_ w 5)] : List ByteArray)) 0] : List Int).map eI)]) rfl rfl (rfl) tf_78 (c_within _ _ ([at_ (numsL ([(at_ w 2), (at_ w 3), (at_ w 5)] : List ByteArray)) 0] : List Int) (by first | omega | assumption | (simp only [List.length_drop, List.length_take]; omega) | (simp; omega) | simp)) ?_ (fun hb _ m2 => Or.inr ⟨_, rfl, _, gT hb1 (gT hck (gT hb95 (gT hb105 (gT hch (gF hb))))), rfl, m206.trans m2⟩)
 intro hb213 H214 m215
 have h216 := m215 _ _ h208
 have o217 := Own.mono o209 m215
 have o218 := Own.mono o210 m215
 have o219 := Own.mono o211 m215
 have o220 := MO.mono o212 m215
 have m221 := m206.trans m215
 refine AOpsX.nil ?_
 change AWP _ _ _ _ _ _
 refine AWP.seq ?_
 refine AWP.regionX (l := [0, 1, 2, 3, 4]) rfl ?_
 refine AOpsX.cons rfl rfl (Mv _ rfl s173 ?_)
 refine AOpsX.cons rfl rfl (iS_ rfl rfl rfl sl_68 (by omega) (by omega) ?_)
 refine AOpsX.cons rfl rfl (Lf _ rfl rfl ty_3 (ld1 (by omega) (by omega)) ?_)
 refine AOpsX.cons rfl rfl (AOp.buildSlice (cells := [.int .i64 (at_ (numsL ([(at_ w 2), (at_ w 3), (at_ w 5)] : List ByteArray)) 1)]) rfl u_68 ts_3 tz_3 rfl rfl rfl ?_)
 intro i222 H223 n224 h225 k226
 have e227 := ne_new h216 n224
 have z228 := Mono.free m221 n224
 have h229 := keep k226 (ne_new h216 n224) h216
 have o230 := Own.keep o217 k226 (Own.notnew o217 n224)
 have no231 := Own.notnew o217 n224
 have o232 := Own.keep o218 k226 (Own.notnew o218 n224)
 have no233 := Own.notnew o218 n224
 have o234 := Own.keep o219 k226 (Own.notnew o219 n224)
 have no235 := Own.notnew o219 n224
 have o236 := MO.keep o220 k226 (MO.notnew o220 n224)
 have no237 := MO.notnew o220 n224
 have m238 := Mono.new m221 n224 k226
 obtain ⟨v239, e240⟩ : ∃ v : AV, v = .slm i222 0 1 0 1 := ⟨_, rfl⟩
 have o241 : Own B H223 1 v239 1 [.int .i64 (at_ (numsL ([(at_ w 2), (at_ w 3), (at_ w 5)] : List ByteArray)) 1)] := .inr ⟨_, _, e240, h225, z228, rfl⟩
 have no242 : NotId v239 id := by rw [e240]; exact NotId.slm e227
 have sp243 : Sep v239 vS := by rw [e240]; exact Sep.ofNotId no231
 have sp244 : Sep v239 vM := by rw [e240]; exact Sep.ofNotId no233
 have sp245 : Sep v239 vT := by rw [e240]; exact Sep.ofNotId no235
 have sp246 : SepM ((((rdL s vL vM vT vS vC vV vF vK).eraseIdx 3).eraseIdx 1).eraseIdx 1) v239 := by rw [e240]; exact SepM.ofNotId no237
 refine AOpsX.consX rfl rfl ?_
 refine AOpX.frz 79 (o241) e240.symm m238 fun H247 m248 k249 => ?_
 have h250 := (k249 _ no242).trans h229
 have o251 := Own.stay o230 (Sep.symm sp243) (fun i hi _ => k249 i hi)
 have o252 := Own.stay o232 (Sep.symm sp244) (fun i hi _ => k249 i hi)
 have o253 := Own.stay o234 (Sep.symm sp245) (fun i hi _ => k249 i hi)
 have o254 := MO.stay o236 sp246 (fun i hi _ => k249 i hi)
 refine AOpX.need (b := inB 1 65536 ([at_ (numsL ([(at_ w 2), (at_ w 3), (at_ w 5)] : List ByteArray)) 1] : List Int)) (k := 11) (as_ := [.int .i64 1, .int .i64 65536, .sl ([at_ (numsL ([(at_ w 2), (at_ w 3), (at_ w 5)] : List ByteArray)) 1] : List Int).length (([at_ (numsL ([(at_ w 2), (at_ w 3), (at_ w 5)] : List ByteArray)) 1] : List Int).map eI)]) rfl rfl (rfl) tf_78 (c_within _ _ ([at_ (numsL ([(at_ w 2), (at_ w 3), (at_ w 5)] : List ByteArray)) 1] : List Int) (by first | omega | assumption | (simp only [List.length_drop, List.length_take]; omega) | (simp; omega) | simp)) ?_ (fun hb _ m2 => Or.inr ⟨_, rfl, _, gT hb1 (gT hck (gT hb95 (gT hb105 (gT hch (gT hb213 (gF hb)))))), rfl, m248.trans m2⟩)
 intro hb255 H256 m257
 have h258 := m257 _ _ h250
 have o259 := Own.mono o251 m257
 have o260 := Own.mono o252 m257
 have o261 := Own.mono o253 m257
 have o262 := MO.mono o254 m257
 have m263 := m248.trans m257
 refine AOpsX.nil ?_
 change AWP _ _ _ _ _ _
 refine AWP.seq ?_
 refine AWP.regionX (l := [0, 1, 2, 3, 4]) rfl ?_
 refine AOpsX.cons rfl rfl (Mv _ rfl s173 ?_)
 refine AOpsX.cons rfl rfl (iS_ rfl rfl rfl sl_68 (by omega) (by omega) ?_)
 refine AOpsX.cons rfl rfl (Lf _ rfl rfl ty_3 (ld1 (by omega) (by omega)) ?_)
 refine AOpsX.cons rfl rfl (AOp.buildSlice (cells := [.int .i64 (at_ (numsL ([(at_ w 2), (at_ w 3), (at_ w 5)] : List ByteArray)) 2)]) rfl u_68 ts_3 tz_3 rfl rfl rfl ?_)
 intro i264 H265 n266 h267 k268
 have e269 := ne_new h258 n266
 have z270 := Mono.free m263 n266
 have h271 := keep k268 (ne_new h258 n266) h258
 have o272 := Own.keep o259 k268 (Own.notnew o259 n266)
 have no273 := Own.notnew o259 n266
 have o274 := Own.keep o260 k268 (Own.notnew o260 n266)
 have no275 := Own.notnew o260 n266
 have o276 := Own.keep o261 k268 (Own.notnew o261 n266)
 have no277 := Own.notnew o261 n266
 have o278 := MO.keep o262 k268 (MO.notnew o262 n266)
 have no279 := MO.notnew o262 n266
 have m280 := Mono.new m263 n266 k268
 obtain ⟨v281, e282⟩ : ∃ v : AV, v = .slm i264 0 1 0 1 := ⟨_, rfl⟩
 have o283 : Own B H265 1 v281 1 [.int .i64 (at_ (numsL ([(at_ w 2), (at_ w 3), (at_ w 5)] : List ByteArray)) 2)] := .inr ⟨_, _, e282, h267, z270, rfl⟩
 have no284 : NotId v281 id := by rw [e282]; exact NotId.slm e269
 have sp285 : Sep v281 vS := by rw [e282]; exact Sep.ofNotId no273
 have sp286 : Sep v281 vM := by rw [e282]; exact Sep.ofNotId no275
 have sp287 : Sep v281 vT := by rw [e282]; exact Sep.ofNotId no277
 have sp288 : SepM ((((rdL s vL vM vT vS vC vV vF vK).eraseIdx 3).eraseIdx 1).eraseIdx 1) v281 := by rw [e282]; exact SepM.ofNotId no279
 refine AOpsX.consX rfl rfl ?_
 refine AOpX.frz 84 (o283) e282.symm m280 fun H289 m290 k291 => ?_
 have h292 := (k291 _ no284).trans h271
 have o293 := Own.stay o272 (Sep.symm sp285) (fun i hi _ => k291 i hi)
 have o294 := Own.stay o274 (Sep.symm sp286) (fun i hi _ => k291 i hi)
 have o295 := Own.stay o276 (Sep.symm sp287) (fun i hi _ => k291 i hi)
 have o296 := MO.stay o278 sp288 (fun i hi _ => k291 i hi)
 refine AOpX.need (b := inB 0 255 ([at_ (numsL ([(at_ w 2), (at_ w 3), (at_ w 5)] : List ByteArray)) 2] : List Int)) (k := 11) (as_ := [.int .i64 0, .int .i64 255, .sl ([at_ (numsL ([(at_ w 2), (at_ w 3), (at_ w 5)] : List ByteArray)) 2] : List Int).length (([at_ (numsL ([(at_ w 2), (at_ w 3), (at_ w 5)] : List ByteArray)) 2] : List Int).map eI)]) rfl rfl (rfl) tf_78 (c_within _ _ ([at_ (numsL ([(at_ w 2), (at_ w 3), (at_ w 5)] : List ByteArray)) 2] : List Int) (by first | omega | assumption | (simp only [List.length_drop, List.length_take]; omega) | (simp; omega) | simp)) ?_ (fun hb _ m2 => Or.inr ⟨_, rfl, _, gT hb1 (gT hck (gT hb95 (gT hb105 (gT hch (gT hb213 (gT hb255 (gF hb))))))), rfl, m290.trans m2⟩)
 intro hb297 H298 m299
 have h300 := m299 _ _ h292
 have o301 := Own.mono o293 m299
 have o302 := Own.mono o294 m299
 have o303 := Own.mono o295 m299
 have o304 := MO.mono o296 m299
 have m305 := m290.trans m299
 refine AOpsX.nil ?_
 change AWP _ _ _ _ _ _
 refine AWP.seq ?_
 refine AWP.region_str mixed (by kernel_rfl) [(0, none), (1, none), (2, none), (3, none), (4, none), (5, none), (6, none), (7, none), (8, none), (9, none), (10, none), (11, none), (12, none), (13, none), (14, none), (15, none), (16, none), (17, none), (18, none), (19, none), (20, none), (21, none), (22, none), (23, none), (24, none), (25, none), (26, none), (27, none), (28, none), (29, some [0, 1, 2, 3, 4, 5]), (30, some [0])] [31, 32, 33, 34] (by kernel_rfl) ?_
 refine STR.op rfl rfl (.inl ⟨rfl, fun H1 f' H' hf hN hM => Mv _ rfl ((hf 0 rfl).trans s171) ⟨rfl, hN⟩⟩) ?_
 refine STR.op rfl rfl (.inl ⟨rfl, fun H1 f' H' hf hN hM => Mv _ rfl ((hf 0 rfl).trans s171) ⟨rfl, hN⟩⟩) ?_
 refine STR.op rfl rfl (.inl ⟨rfl, fun H1 f' H' hf hN hM => nc_ (.ptr id ver 0) rfl ((hf 87 rfl).trans rfl) rfl ⟨rfl, hN⟩⟩) ?_
 refine STR.op rfl rfl (.inl ⟨rfl, fun H1 f' H' hf hN hM => Fa rfl ((hf 88 rfl).trans rfl) fl_56_0 ⟨rfl, hN⟩ (hid := ⟨_, (hM _ _ h300)⟩)⟩) ?_
 refine STR.op rfl rfl (.inl ⟨rfl, fun H1 f' H' hf hN hM => Fa rfl ((hf 89 rfl).trans rfl) fl_35_5 ⟨rfl, hN⟩ (hid := ⟨_, (hM _ _ h300)⟩)⟩) ?_
 refine STR.op rfl rfl (.inl ⟨rfl, fun H1 f' H' hf hN hM => Ld _ rfl ((hf 90 rfl).trans rfl) ty_32 (hM _ _ h300) rfl ⟨rfl, hN⟩⟩) ?_
 refine STR.op rfl rfl (.inl ⟨rfl, fun H1 f' H' hf hN hM => Mv _ rfl ((hf 1 rfl).trans s172) ⟨rfl, hN⟩⟩) ?_
 refine STR.op rfl rfl (.inl ⟨rfl, fun H1 f' H' hf hN hM => iS_ rfl ((hf 92 rfl).trans rfl) rfl sl_57 (by omega) (by omega) ⟨rfl, hN⟩⟩) ?_
 refine STR.op rfl rfl (.inl ⟨rfl, fun H1 f' H' hf hN hM => Lf _ rfl ((hf 93 rfl).trans rfl) ty_9 (ld1 (by omega) (by omega)) ⟨rfl, hN⟩⟩) ?_
 refine STR.op rfl rfl (.inl ⟨rfl, fun H1 f' H' hf hN hM => Mv _ rfl ((hf 0 rfl).trans s171) ⟨rfl, hN⟩⟩) ?_
 refine STR.op rfl rfl (.inl ⟨rfl, fun H1 f' H' hf hN hM => Mv _ rfl ((hf 1 rfl).trans s172) ⟨rfl, hN⟩⟩) ?_
 refine STR.op rfl rfl (.inl ⟨rfl, fun H1 f' H' hf hN hM => iS_ rfl ((hf 96 rfl).trans rfl) rfl sl_57 (by omega) (by omega) ⟨rfl, hN⟩⟩) ?_
 refine STR.op rfl rfl (.inl ⟨rfl, fun H1 f' H' hf hN hM => Lf _ rfl ((hf 97 rfl).trans rfl) ty_9 (ld1 (by omega) (by omega)) ⟨rfl, hN⟩⟩) ?_
 refine STR.op rfl rfl (.inl ⟨rfl, fun H1 f' H' hf hN hM => AOp.pcallH («as» := [.ptr id ver 0, .str (at_ w 1)]) rfl rfl (lapp (lcons ((hf 95 rfl).trans rfl) (lcons ((hf 98 rfl).trans rfl) rfl)) rfl) tf_84 ((c_xMat (B := B) (hM _ _ h300) (o302.mono hM) (by have := ok.m; omega) (at_ w 1))) fun H2 m2 => ⟨rfl, hN.trans m2⟩⟩) ?_
 refine STR.op rfl rfl (.inl ⟨rfl, fun H1 f' H' hf hN hM => Mv _ rfl ((hf 4 rfl).trans s173) ⟨rfl, hN⟩⟩) ?_
 refine STR.op rfl rfl (.inl ⟨rfl, fun H1 f' H' hf hN hM => iS_ rfl ((hf 100 rfl).trans rfl) rfl sl_68 (by omega) (by omega) ⟨rfl, hN⟩⟩) ?_
 refine STR.op rfl rfl (.inl ⟨rfl, fun H1 f' H' hf hN hM => Lf _ rfl ((hf 101 rfl).trans rfl) ty_3 (ld1 (by omega) (by omega)) ⟨rfl, hN⟩⟩) ?_
 refine STR.op rfl rfl (.inl ⟨rfl, fun H1 f' H' hf hN hM => Mv _ rfl ((hf 4 rfl).trans s173) ⟨rfl, hN⟩⟩) ?_
 refine STR.op rfl rfl (.inl ⟨rfl, fun H1 f' H' hf hN hM => iS_ rfl ((hf 103 rfl).trans rfl) rfl sl_68 (by omega) (by omega) ⟨rfl, hN⟩⟩) ?_
 refine STR.op rfl rfl (.inl ⟨rfl, fun H1 f' H' hf hN hM => Lf _ rfl ((hf 104 rfl).trans rfl) ty_3 (ld1 (by omega) (by omega)) ⟨rfl, hN⟩⟩) ?_
 refine STR.op rfl rfl (.inl ⟨rfl, fun H1 f' H' hf hN hM => Mv _ rfl ((hf 0 rfl).trans s171) ⟨rfl, hN⟩⟩) ?_
 refine STR.op rfl rfl (.inl ⟨rfl, fun H1 f' H' hf hN hM => Mv _ rfl ((hf 1 rfl).trans s172) ⟨rfl, hN⟩⟩) ?_
 refine STR.op rfl rfl (.inl ⟨rfl, fun H1 f' H' hf hN hM => iS_ rfl ((hf 107 rfl).trans rfl) rfl sl_57 (by omega) (by omega) ⟨rfl, hN⟩⟩) ?_
 refine STR.op rfl rfl (.inl ⟨rfl, fun H1 f' H' hf hN hM => Lf _ rfl ((hf 108 rfl).trans rfl) ty_9 (ld1 (by omega) (by omega)) ⟨rfl, hN⟩⟩) ?_
 refine STR.op rfl rfl (.inl ⟨rfl, fun H1 f' H' hf hN hM => AOp.pcallH («as» := [.ptr id ver 0, .str (at_ w 4)]) rfl rfl (lapp (lcons ((hf 106 rfl).trans rfl) (lcons ((hf 109 rfl).trans rfl) rfl)) rfl) tf_83 ((c_xTex (B := B) (hM _ _ h300) (o303.mono hM) (by have := ok.t; omega) (at_ w 4))) fun H2 m2 => ⟨rfl, hN.trans m2⟩⟩) ?_
 refine STR.op rfl rfl (.inl ⟨rfl, fun H1 f' H' hf hN hM => Mv _ rfl ((hf 4 rfl).trans s173) ⟨rfl, hN⟩⟩) ?_
 refine STR.op rfl rfl (.inl ⟨rfl, fun H1 f' H' hf hN hM => iS_ rfl ((hf 111 rfl).trans rfl) rfl sl_68 (by omega) (by omega) ⟨rfl, hN⟩⟩) ?_
 refine STR.op rfl rfl (.inl ⟨rfl, fun H1 f' H' hf hN hM => Lf _ rfl ((hf 112 rfl).trans rfl) ty_3 (ld1 (by omega) (by omega)) ⟨rfl, hN⟩⟩) ?_
 refine STR.op rfl rfl (.inl ⟨rfl, fun H1 f' H' hf hN hM => Bl (cells := [.str (at_ w 0), .int .i64 (matX s (at_ w 1)), .int .i64 (at_ (numsL ([(at_ w 2), (at_ w 3), (at_ w 5)] : List ByteArray)) 0), .int .i64 (at_ (numsL ([(at_ w 2), (at_ w 3), (at_ w 5)] : List ByteArray)) 1), .int .i64 (texX s (at_ w 4)), .int .i64 (at_ (numsL ([(at_ w 2), (at_ w 3), (at_ w 5)] : List ByteArray)) 2)]) rfl tz_50 pl_50 (lconsP ((hf 94 rfl).trans rfl) (lconsP ((hf 99 rfl).trans rfl) (lconsP ((hf 102 rfl).trans rfl) (lconsP ((hf 105 rfl).trans rfl) (lconsP ((hf 110 rfl).trans rfl) (lconsP ((hf 113 rfl).trans rfl) rfl)))))) rfl ⟨rfl, hN⟩⟩) ?_
 refine STR.eff rfl rfl rfl fun f306 H307 hf308 m309 => ?_
 have h310 := m309 _ _ h300
 have o311 := Own.mono o301 m309
 have o312 := Own.mono o302 m309
 have o313 := Own.mono o303 m309
 have o314 := MO.mono o304 m309
 have m315 := m305.trans m309
 refine AOp.buildSlice (cells := [.str (at_ w 0), .int .i64 (matX s (at_ w 1)), .int .i64 (at_ (numsL ([(at_ w 2), (at_ w 3), (at_ w 5)] : List ByteArray)) 0), .int .i64 (at_ (numsL ([(at_ w 2), (at_ w 3), (at_ w 5)] : List ByteArray)) 1), .int .i64 (texX s (at_ w 4)), .int .i64 (at_ (numsL ([(at_ w 2), (at_ w 3), (at_ w 5)] : List ByteArray)) 2)]) rfl u_32 ts_50 tz_50 rfl (lconsP ((hf308 114 rfl).trans rfl) rfl) rfl ?_
 intro i316 H317 n318 h319 k320
 have h323 := keep k320 (ne_new h310 n318) h310
 have o324 := Own.keep o311 k320 (Own.notnew o311 n318)
 have o326 := Own.keep o312 k320 (Own.notnew o312 n318)
 have o328 := Own.keep o313 k320 (Own.notnew o313 n318)
 have o330 := MO.keep o314 k320 (MO.notnew o314 n318)
 have m332 := Mono.new m315 n318 k320
 refine ⟨_, rfl, .inl (Mono.new (Mono.refl _) n318 k320), ?_⟩
 refine STR.eff rfl rfl rfl fun f333 H334 hf335 m336 => ?_
 have h337 := m336 _ _ h323
 have h338 := m336 _ _ h319
 have o339 := Own.mono o324 m336
 have o340 := Own.mono o326 m336
 have o341 := Own.mono o328 m336
 have o342 := MO.mono o330 m336
 have m343 := m332.trans m336
 refine AOp.append_own (es := 6) (m := 1) (len := s.skins.length) (old := s.skins.flatMap eSkin) (cells := [.str (at_ w 0), .int .i64 (matX s (at_ w 1)), .int .i64 (at_ (numsL ([(at_ w 2), (at_ w 3), (at_ w 5)] : List ByteArray)) 0), .int .i64 (at_ (numsL ([(at_ w 2), (at_ w 3), (at_ w 5)] : List ByteArray)) 1), .int .i64 (texX s (at_ w 4)), .int .i64 (at_ (numsL ([(at_ w 2), (at_ w 3), (at_ w 5)] : List ByteArray)) 2)]) rfl u_32 ts_50 tzn_50 tb_50 (by decide) ni_32 ((hf335 91 rfl).trans rfl) o339 m343 ((hf335 115 rfl).trans rfl) (.slm h338 rfl) (one_of rfl) (by decide) (by first | omega | (simp; omega)) ?_
 intro v344 H345 o346 m347 k348 j349
 have o350 := Own.snocM (xs := (s.skins : List SkinT)) (y := (SkinT.mk (at_ w 0) (matX s (at_ w 1)) (at_ (numsL ([(at_ w 2), (at_ w 3), (at_ w 5)] : List ByteArray)) 0) (at_ (numsL ([(at_ w 2), (at_ w 3), (at_ w 5)] : List ByteArray)) 1) (texX s (at_ w 4)) (at_ (numsL ([(at_ w 2), (at_ w 3), (at_ w 5)] : List ByteArray)) 2))) (e := eSkin) (by simp) o346
 have h351 := (k348 _ nS (by rw [h337]; simp)).trans h337
 have no352 := j349 _ nS (by rw [h337]; simp)
 have sp354 := Own.sep o340 sMS j349
 have o353 := Own.stay o340 sMS k348
 have sp356 := Own.sep o341 sTS j349
 have o355 := Own.stay o341 sTS k348
 have sp358 := MO.sep o342 sp1c j349
 have o357 := MO.stay o342 sp1c k348
 refine ⟨_, rfl, .inr (RevR.skip rfl (RevR.skip rfl (RevR.skip rfl (RevR.skip rfl (RevR.skip rfl (RevR.skip rfl (RevR.skip rfl (RevR.skip rfl (RevR.skip rfl (RevR.skip rfl (RevR.skip rfl (RevR.skip rfl (RevR.skip rfl (RevR.skip rfl (RevR.skip rfl (RevR.skip rfl (RevR.skip rfl (RevR.skip rfl (RevR.skip rfl (RevR.skip rfl (RevR.skip rfl (RevR.skip rfl (RevR.skip rfl (RevR.skip rfl (RevR.skip rfl (RevR.skip rfl (RevR.skip rfl (RevR.skip rfl (RevR.skip rfl (RevR.cons rfl (.inl ⟨rfl, fun H1 f' H' hf hN hM => Mv _ rfl ((hf 0 rfl).trans s171) ⟨rfl, hN⟩⟩) RevR.nil)))))))))))))))))))))))))))))), ?_⟩
 refine STR.done fun H359 m360 => ?_
 have h361 := m360 _ _ h351
 have o362 := Own.mono o353 m360
 have o363 := Own.mono o355 m360
 have o364 := MO.mono o357 m360
 have o365 := Own.mono o350 m360
 have m366 := m347.trans m360
 refine C rfl (nc_ (.ptr id ver 0) rfl rfl rfl ?_)
 refine C rfl (Fa rfl rfl fl_56_0 ?_ (hid := ⟨_, h361⟩))
 refine C rfl (Fa rfl rfl fl_35_5 ?_ (hid := ⟨_, h361⟩))
 refine C rfl (AOp.storeO (cells' := rdC s.cam s.sky vL vM vT v344 vC s.hc s.hs) rfl rfl o365 ts_32 h361 rfl rfl ?_)
 intro H367 h368 k369
 have o371 := Own.keep o362 k369 nM
 have o372 := Own.keep o363 k369 nT
 have o373 := MO.keep o364 k369 ng3
 have o374 := Own.keep o365 k369 no352
 have m375 := Mono.set m366 hB k369
 refine AOps.nil ?_
 change AWP _ _ _ _ _ _
 have hRD : RDv B H367 id ver { s with skins := (s.skins ++ [(SkinT.mk (at_ w 0) (matX s (at_ w 1)) (at_ (numsL ([(at_ w 2), (at_ w 3), (at_ w 5)] : List ByteArray)) 0) (at_ (numsL ([(at_ w 2), (at_ w 3), (at_ w 5)] : List ByteArray)) 1) (texX s (at_ w 4)) (at_ (numsL ([(at_ w 2), (at_ w 3), (at_ w 5)] : List ByteArray)) 2))]) } vL vM vT v344 vC vV vF vK := ⟨h368, hB, (MO.put (L := (rdL s vL vM vT vS vC vV vF vK)) (e := (6, v344, (s.skins ++ [(SkinT.mk (at_ w 0) (matX s (at_ w 1)) (at_ (numsL ([(at_ w 2), (at_ w 3), (at_ w 5)] : List ByteArray)) 0) (at_ (numsL ([(at_ w 2), (at_ w 3), (at_ w 5)] : List ByteArray)) 1) (texX s (at_ w 4)) (at_ (numsL ([(at_ w 2), (at_ w 3), (at_ w 5)] : List ByteArray)) 2))]).length, (s.skins ++ [(SkinT.mk (at_ w 0) (matX s (at_ w 1)) (at_ (numsL ([(at_ w 2), (at_ w 3), (at_ w 5)] : List ByteArray)) 0) (at_ (numsL ([(at_ w 2), (at_ w 3), (at_ w 5)] : List ByteArray)) 1) (texX s (at_ w 4)) (at_ (numsL ([(at_ w 2), (at_ w 3), (at_ w 5)] : List ByteArray)) 2))]).flatMap eSkin)) 3 (by simp [rdL]) (MO.put (L := ((rdL s vL vM vT vS vC vV vF vK).eraseIdx 3)) (e := (9, vM, s.mats.length, s.mats.flatMap eMat)) 1 (by simp [rdL]) (MO.put (L := (((rdL s vL vM vT vS vC vV vF vK).eraseIdx 3).eraseIdx 1)) (e := (4, vT, s.texs.length, s.texs.flatMap eTex)) 1 (by simp [rdL]) o373 o372 sp3) o371 (SepM.put (L := (((rdL s vL vM vT vS vC vV vF vK).eraseIdx 3).eraseIdx 1)) (e := (4, vT, s.texs.length, s.texs.flatMap eTex)) 1 sp2b sTM)) o374 (SepM.put (L := ((rdL s vL vM vT vS vC vV vF vK).eraseIdx 3)) (e := (9, vM, s.mats.length, s.mats.flatMap eMat)) 1 (SepM.put (L := (((rdL s vL vM vT vS vC vV vF vK).eraseIdx 3).eraseIdx 1)) (e := (4, vT, s.texs.length, s.texs.flatMap eTex)) 1 sp358 sp356) sp354)), (NotIdM.put (L := (rdL s vL vM vT vS vC vV vF vK)) (e := (6, v344, (s.skins ++ [(SkinT.mk (at_ w 0) (matX s (at_ w 1)) (at_ (numsL ([(at_ w 2), (at_ w 3), (at_ w 5)] : List ByteArray)) 0) (at_ (numsL ([(at_ w 2), (at_ w 3), (at_ w 5)] : List ByteArray)) 1) (texX s (at_ w 4)) (at_ (numsL ([(at_ w 2), (at_ w 3), (at_ w 5)] : List ByteArray)) 2))]).length, (s.skins ++ [(SkinT.mk (at_ w 0) (matX s (at_ w 1)) (at_ (numsL ([(at_ w 2), (at_ w 3), (at_ w 5)] : List ByteArray)) 0) (at_ (numsL ([(at_ w 2), (at_ w 3), (at_ w 5)] : List ByteArray)) 1) (texX s (at_ w 4)) (at_ (numsL ([(at_ w 2), (at_ w 3), (at_ w 5)] : List ByteArray)) 2))]).flatMap eSkin)) 3 (NotIdM.put (L := ((rdL s vL vM vT vS vC vV vF vK).eraseIdx 3)) (e := (9, vM, s.mats.length, s.mats.flatMap eMat)) 1 (NotIdM.put (L := (((rdL s vL vM vT vS vC vV vF vK).eraseIdx 3).eraseIdx 1)) (e := (4, vT, s.texs.length, s.texs.flatMap eTex)) 1 ng3 nT) nM) no352)⟩
 refine AWP.freezeC hRD m375 fun H5 m5 hr5 g5 n5 => ?_
 obtain ⟨oC5, og5, sp5⟩ := g5.at 4 rfl
 have oC6 : Own B H5 3 vC (s.cages.map some).length ((s.cages.map some).flatMap eCg) := Own.re oC5 (by simp) (eCg_all _).symm
 have nC5 : NotId vC id := n5.at 4 rfl
 have n6 := n5.erase 4
 have hcc := ok.c
 refine AWP.region rfl ?_
 refine V rfl s171 (V rfl s171 (C rfl (nc_ (.ptr id ver 0) rfl rfl rfl ?_)))
 refine C rfl (Fa rfl rfl fl_56_0 ?_ (hid := ⟨_, hr5⟩))
 refine C rfl (Fa rfl rfl fl_35_6 ?_ (hid := ⟨_, hr5⟩))
 refine C rfl (Ld _ rfl rfl ty_33 hr5 rfl (C rfl (Bl (cells := [.snil, .snil, .snil]) rfl tz_48 pl_48 rfl rfl (C rfl (AOp.buildSlice (cells := [.snil, .snil, .snil]) rfl u_33 ts_48 tz_48 rfl rfl rfl ?_)))))
 intro i376 H377 n378 h379 k380
 have h383 := keep k380 (ne_new hr5 n378) hr5
 have o384 := Own.keep oC6 k380 (Own.notnew oC6 n378)
 have o386 := MO.keep og5 k380 (MO.notnew og5 n378)
 have m388 := Mono.new m5 n378 k380
 refine C rfl (AOp.append_own (es := 3) (m := 1) (len := ((s.cages.map some).length)) (old := (s.cages.map some).flatMap eCg) (cells := [.snil, .snil, .snil]) rfl u_33 ts_48 tzn_48 tb_48 (by decide) ni_33 rfl o384 m388 rfl (.slm h379 rfl) (one_of rfl) (by decide) (by first | omega | (simp; omega)) ?_)
 intro v389 H390 o391 m392 k393 j394
 have o395 := Own.snocM (xs := ((s.cages.map some) : List (Option CageT))) (y := (none : Option CageT)) (e := eCg) (by simp) o391
 have h396 := (k393 _ nC5 (by rw [h383]; simp)).trans h383
 have no397 := j394 _ nC5 (by rw [h383]; simp)
 have sp399 := MO.sep o386 sp5 j394
 have o398 := MO.stay o386 sp5 k393
 refine C rfl (nc_ (.ptr id ver 0) rfl rfl rfl ?_)
 refine C rfl (Fa rfl rfl fl_56_0 ?_ (hid := ⟨_, h396⟩))
 refine C rfl (Fa rfl rfl fl_35_6 ?_ (hid := ⟨_, h396⟩))
 refine C rfl (AOp.storeO (cells' := rdC s.cam s.sky vL vM vT v344 v389 s.hc s.hs) rfl rfl o395 ts_33 h396 rfl rfl ?_)
 intro H400 h401 k402
 have o404 := MO.keep o398 k402 n6
 have o405 := Own.keep o395 k402 no397
 have m406 := Mono.set m392 hB k402
 refine AOps.nil ?_
 refine Or.inl ?_
 refine ⟨_, _, Ghost.refl, .inl rfl, _, Res.zero rfl, _, gT hb1 (gT hck (gT hb95 (gT hb105 (gT hch (gT hb213 (gT hb255 (gT hb297 rfl))))))), ⟨_, _, _, _, _, _, _, _, RDv.push (s := { s with skins := (s.skins ++ [(SkinT.mk (at_ w 0) (matX s (at_ w 1)) (at_ (numsL ([(at_ w 2), (at_ w 3), (at_ w 5)] : List ByteArray)) 0) (at_ (numsL ([(at_ w 2), (at_ w 3), (at_ w 5)] : List ByteArray)) 1) (texX s (at_ w 4)) (at_ (numsL ([(at_ w 2), (at_ w 3), (at_ w 5)] : List ByteArray)) 2))]) }) h401 hB (MO.put (L := [(6, vL, s.lights.length, s.lights.flatMap eLight), (9, vM, s.mats.length, s.mats.flatMap eMat), (4, vT, s.texs.length, s.texs.flatMap eTex), (6, v344, (s.skins ++ [(SkinT.mk (at_ w 0) (matX s (at_ w 1)) (at_ (numsL ([(at_ w 2), (at_ w 3), (at_ w 5)] : List ByteArray)) 0) (at_ (numsL ([(at_ w 2), (at_ w 3), (at_ w 5)] : List ByteArray)) 1) (texX s (at_ w 4)) (at_ (numsL ([(at_ w 2), (at_ w 3), (at_ w 5)] : List ByteArray)) 2))]).length, (s.skins ++ [(SkinT.mk (at_ w 0) (matX s (at_ w 1)) (at_ (numsL ([(at_ w 2), (at_ w 3), (at_ w 5)] : List ByteArray)) 0) (at_ (numsL ([(at_ w 2), (at_ w 3), (at_ w 5)] : List ByteArray)) 1) (texX s (at_ w 4)) (at_ (numsL ([(at_ w 2), (at_ w 3), (at_ w 5)] : List ByteArray)) 2))]).flatMap eSkin), (3, vC, s.cages.length, s.cages.flatMap eCage)]) (e := (3, v389, s.cages.length + 1, s.cages.flatMap eCage ++ ([.snil, .snil, .snil] : List AV))) 4 (by simp) o404 (Own.re o405 (by simp) (eCg_push _)) sp399) (NotIdM.put (L := [(6, vL, s.lights.length, s.lights.flatMap eLight), (9, vM, s.mats.length, s.mats.flatMap eMat), (4, vT, s.texs.length, s.texs.flatMap eTex), (6, v344, (s.skins ++ [(SkinT.mk (at_ w 0) (matX s (at_ w 1)) (at_ (numsL ([(at_ w 2), (at_ w 3), (at_ w 5)] : List ByteArray)) 0) (at_ (numsL ([(at_ w 2), (at_ w 3), (at_ w 5)] : List ByteArray)) 1) (texX s (at_ w 4)) (at_ (numsL ([(at_ w 2), (at_ w 3), (at_ w 5)] : List ByteArray)) 2))]).length, (s.skins ++ [(SkinT.mk (at_ w 0) (matX s (at_ w 1)) (at_ (numsL ([(at_ w 2), (at_ w 3), (at_ w 5)] : List ByteArray)) 0) (at_ (numsL ([(at_ w 2), (at_ w 3), (at_ w 5)] : List ByteArray)) 1) (texX s (at_ w 4)) (at_ (numsL ([(at_ w 2), (at_ w 3), (at_ w 5)] : List ByteArray)) 2))]).flatMap eSkin), (3, vC, s.cages.length, s.cages.flatMap eCage)]) (e := (3, v389, s.cages.length + 1, s.cages.flatMap eCage ++ ([.snil, .snil, .snil] : List AV))) 4 n6 no397)⟩, m406, rfl⟩
end Go.Proofs.S
namespace Go.AH
set_option linter.unusedSectionVars false
open Go
abbrev withD (G : Globs) (ds : List Deferred) : Globs := { val := G.val, blk := G.blk, dfr := ds }
theorem HR.toD {G : Globs} {ds : List Deferred} {w : World} {μ : Nat → Nat} {H : Heap} (h : @HR G w μ H) : @HR (withD G ds) w μ H :=
  @HR.mk (withD G ds) w μ H h.rows h.maps h.born h.iters h.inj h.fin (@GOK.mk (withD G ds) w μ H h.glob.val h.glob.blk)
theorem HR.ofD {G : Globs} {ds : List Deferred} {w : World} {μ : Nat → Nat} {H : Heap} (h : @HR (withD G ds) w μ H) : @HR G w μ H :=
  let D := withD G ds
  @HR.mk G w μ H (@HR.rows D _ _ _ h) (@HR.maps D _ _ _ h) (@HR.born D _ _ _ h) (@HR.iters D _ _ _ h) (@HR.inj D _ _ _ h) (@HR.fin D _ _ _ h) (@GOK.mk G w μ H (@GOK.val D _ _ _ (@HR.glob D _ _ _ h)) (@GOK.blk D _ _ _ (@HR.glob D _ _ _ h)))
theorem ACallsX.toD {G : Globs} {ds : List Deferred} {P : Program} {g : FuncId} {args : List AV} {H : Heap} {R : AV → Heap → Prop} {X : List PanicEntry → Heap → Prop} (h : @ACallsX G P g args H R X) : @ACallsX (withD G ds) P g args H R X := by
  intro μ w vs hr hv
  refine (h μ w vs hr.ofD hv).mono ?_
  rintro e w' (⟨v, h1, μ', H', r, h2, h3, h4, h5⟩ | ⟨ch, h1, μ', H', h2, h3, h4⟩)
  · exact .inl ⟨v, h1, μ', H', r, h2.toD, h3, h4, h5⟩
  · exact .inr ⟨ch, h1, μ', H', h2.toD, h3, h4⟩
theorem cell_set [Globs] {w : World} {μ : Nat → Nat} {H : Heap} (hr : HR w μ H) {i : Nat} {m k : Int} (hi : H i = some (.row 0 [.int .i64 m])) :
    w.cell? ⟨μ i, 0, none⟩ = some (.int .i64 m) ∧ w.frozen? ⟨μ i, 0, none⟩ = false ∧ (w.setCell ⟨μ i, 0, none⟩ (.int .i64 k)).cell? ⟨μ i, 0, none⟩ = some (.int .i64 k) ∧
    Ext w μ H (w.setCell ⟨μ i, 0, none⟩ (.int .i64 k)) μ (updH H i (.row 0 [.int .i64 k])) ∧ HR (w.setCell ⟨μ i, 0, none⟩ (.int .i64 k)) μ (updH H i (.row 0 [.int .i64 k])) := by
  obtain ⟨cs, T, b1, b2, b3⟩ := hr.rows i 0 _ hi
  obtain ⟨y, y1, y2⟩ := b3 0 _ rfl
  cases y2
  have hlt : 0 < cs.size := b2
  have h1 : (w.setCell ⟨μ i, 0, none⟩ (.int .i64 k)).heap[μ i]? = some (.cells (cs.setIfInBounds 0 (.int .i64 k)) T (0, 0)) := by
    simp [World.setCell, Array.getElem?_modify, b1]
  refine ⟨by simp [World.cell?, b1, y1], by simp [World.frozen?, b1], by simp [World.cell?, h1, hlt], ?_⟩
  refine setrow (w := w) (w' := w.setCell ⟨μ i, 0, none⟩ (.int .i64 k)) (cells' := [.int .i64 k]) (show Rest w (w.setCell ⟨μ i, 0, none⟩ (.int .i64 k)) from ⟨rfl, rfl, rfl, fun _ => Nat.le_refl _⟩) hr (Nat.le_refl 0) hi b1 h1 (by simp) (fun b' h => by simp [World.setCell, Array.getElem?_modify, Ne.symm h]) (by simp [World.setCell]) (by simp; omega) fun j x hx => ?_
  match j, hx with
  | 0, hx => cases hx; exact ⟨.int .i64 k, by simp [hlt], .int _ _⟩
  | j + 1, hx => simp at hx
end Go.AH
namespace Go.Proofs.S
open Go Go.AH Go.Proofs.L
set_option maxRecDepth 4000
set_option maxHeartbeats 4000000
set_option linter.unusedSimpArgs false
set_option linter.unusedVariables false
set_option linter.unusedSectionVars false
theorem run_ta (k : Int) (w : World) : (Instr.typeAssert (.iface 36 (.int .i64 k)) 20 36 false).run Tryz.prog w = .ok (.int .i64 k) w := rfl
theorem catch_p (p : Addr) (x k : Int) (w : World) (hc : w.cell? p = some (.int .i64 x)) (hz : w.frozen? p = false) :
    CallsD Tryz.prog 31 #[.pointer (some p)] (.panicking ({ v := .iface 36 (.int .i64 k), recovered := false } :: [])) w fun e u' w' =>
      e = .returned (.tuple #[]) ∧ u' = .panicking ({ v := .iface 36 (.int .i64 k), recovered := true } :: []) ∧ w' = w.setCell p (.int .i64 k) := by
  refine callsD_of_wpS Tryz.func31 rfl fun c₀ cs hu => ?_
  apply wpS_seq
  apply wpS_region
  simp [wpOpsS, go_sem, recoverD, hu, Tryz.ntmps31, Exit.thenS]
  apply wpS_seq
  apply wpS_region
  simp [wpOpsS, go_sem, Exit.thenS]
  refine wpS_cond (t := true) (by simp [Act.eval, Array.replicate]) ?_
  simp only [if_true]
  apply wpS_region
  simp [wpOpsS, go_sem, run_ta, hc, hz, bodyPostS, results, Tryz.results31]
theorem catch_i (p : Addr) (w : World) :
    CallsD Tryz.prog 31 #[.pointer (some p)] .returning w fun e u' w' => e = .returned (.tuple #[]) ∧ u' = .returning ∧ w' = w := by
  refine callsD_of_wpS Tryz.func31 rfl fun c₀ cs hu => ?_
  apply wpS_seq
  apply wpS_region
  simp [wpOpsS, go_sem, recoverD, hu, Tryz.ntmps31, Exit.thenS]
  apply wpS_seq
  apply wpS_region
  simp [wpOpsS, go_sem, Exit.thenS]
  refine wpS_cond (t := false) (by simp [Act.eval, Array.replicate]) ?_
  simp only [Bool.false_eq_true, if_false]
  refine wpS_of_wp (wp_skip ?_)
  cases c₀
  simp_all [bodyPostS, results, Tryz.results31]
variable [LexG]
theorem line_Camera {s : Rd} {w : List ByteArray} (h : at_ w 0 = kCamera) : lineP s w = cameraP s (w.drop 1) := if_pos h
theorem line_Sky {s : Rd} {w : List ByteArray} (h : at_ w 0 = kSky) : lineP s w = skyP s (w.drop 1) := by
  unfold lineP; rw [h, if_neg (by decide), if_pos rfl]
theorem line_Light {s : Rd} {w : List ByteArray} (h : at_ w 0 = kLight) : lineP s w = lightP s (w.drop 1) := by
  unfold lineP; rw [h, if_neg (by decide), if_neg (by decide), if_pos rfl]
theorem line_Texture {s : Rd} {w : List ByteArray} (h : at_ w 0 = kTexture) : lineP s w = textureP s (w.drop 1) := by
  unfold lineP; rw [h, if_neg (by decide), if_neg (by decide), if_neg (by decide), if_pos rfl]
theorem line_Material {s : Rd} {w : List ByteArray} (h : at_ w 0 = kMaterial) : lineP s w = materialP s (w.drop 1) := by
  unfold lineP; rw [h, if_neg (by decide), if_neg (by decide), if_neg (by decide), if_neg (by decide), if_pos rfl]
theorem line_Cage {s : Rd} {w : List ByteArray} (h : at_ w 0 = kCage) : lineP s w = cageP s (w.drop 1) := by
  unfold lineP; rw [h, if_neg (by decide), if_neg (by decide), if_neg (by decide), if_neg (by decide), if_neg (by decide), if_pos rfl]
theorem line_Vertex {s : Rd} {w : List ByteArray} (h : at_ w 0 = kV) : lineP s w = vertexP s (w.drop 1) := by
  unfold lineP; rw [h, if_neg (by decide), if_neg (by decide), if_neg (by decide), if_neg (by decide), if_neg (by decide), if_neg (by decide), if_pos rfl]
theorem line_Face {s : Rd} {w : List ByteArray} (h : at_ w 0 = kF) : lineP s w = faceP s (w.drop 1) := by
  unfold lineP; rw [h, if_neg (by decide), if_neg (by decide), if_neg (by decide), if_neg (by decide), if_neg (by decide), if_neg (by decide), if_neg (by decide), if_pos rfl]
theorem line_Crease {s : Rd} {w : List ByteArray} (h : at_ w 0 = kCrease) : lineP s w = creaseP s (w.drop 1) := by
  unfold lineP; rw [h, if_neg (by decide), if_neg (by decide), if_neg (by decide), if_neg (by decide), if_neg (by decide), if_neg (by decide), if_neg (by decide), if_neg (by decide), if_pos rfl]
theorem line_none {s : Rd} {w : List ByteArray} (h0 : ¬ at_ w 0 = kCamera) (h1 : ¬ at_ w 0 = kSky) (h2 : ¬ at_ w 0 = kLight) (h3 : ¬ at_ w 0 = kTexture) (h4 : ¬ at_ w 0 = kMaterial) (h5 : ¬ at_ w 0 = kCage) (h6 : ¬ at_ w 0 = kV) (h7 : ¬ at_ w 0 = kF) (h8 : ¬ at_ w 0 = kCrease) : lineP s w = .error 10 := by
  unfold lineP; rw [if_neg h0, if_neg h1, if_neg h2, if_neg h3, if_neg h4, if_neg h5, if_neg h6, if_neg h7, if_neg h8]
theorem RD.unB {B B4 H H' : Heap} {id ver i : Nat} {s : Rd} {X : AB} (h : RD B4 H id ver s) (hm : Mono B B4) (hi : B4 i = some X) (ho : ∀ j, j ≠ i → H' j = H j) : RD B H' id ver s := by
  obtain ⟨_, _, _, _, _, _, _, _, h1, h2, h3, h4⟩ := h
  have key : ∀ j, B4 j = none → j ≠ i ∧ B j = none := fun j hj => by
    refine ⟨fun e => (by rw [e, hi] at hj; cases hj), ?_⟩
    cases hb : B j with
    | none => rfl
    | some b => rw [hm _ _ hb] at hj; cases hj
  refine ⟨_, _, _, _, _, _, _, _, (ho _ (key _ h2).1).trans h1, (key _ h2).2, ⟨fun e he => ?_, h3.2⟩, h4⟩
  rcases h3.1 e he with g | ⟨j, vr, g1, g2, g3, g4⟩
  · exact .inl g
  · exact .inr ⟨j, vr, g1, (ho _ (key _ g3).1).trans g2, (key _ g3).2, g4⟩
theorem RD.rebase {B B4 H H' : Heap} {id ver i : Nat} {s : Rd} (h : RD B H id ver s) (hb : ∀ j, j ≠ i → B4 j = B j) (hi : H i = none) (ho : ∀ j, j ≠ i → H' j = H j) : RD B4 H' id ver s := by
  obtain ⟨_, _, _, _, _, _, _, _, h1, h2, h3, h4⟩ := h
  have key : ∀ j X, H j = some X → j ≠ i := fun j X hj e => by rw [e, hi] at hj; cases hj
  refine ⟨_, _, _, _, _, _, _, _, (ho _ (key _ _ h1)).trans h1, (hb _ (key _ _ h1)).trans h2, ⟨fun e he => ?_, h3.2⟩, h4⟩
  rcases h3.1 e he with g | ⟨j, vr, g1, g2, g3, g4⟩
  · exact .inl g
  · exact .inr ⟨j, vr, g1, (ho _ (key _ _ g2)).trans g2, (hb _ (key _ _ g2)).trans g3, g4⟩
noncomputable def readRest : Code := match Tryz.f17.body with | some (.seq _ (.seq _ r)) => r | _ => .skip
def QR (B : Heap) (i4 id ver : Nat) (s : Rd) (w : List ByteArray) (e : Exit) (f : Nat → AV) (H : Heap) : Prop :=
  f 4 = .ptr i4 0 0 ∧ Mono B H ∧ ((∃ t, (e = .normal ∨ e = .ret) ∧ lineP s w = .ok t ∧ RD B H id ver t ∧ H i4 = some (.row 0 [.int .i64 0])) ∨ ((e = .normal ∨ e = .ret) ∧ lineP s w = .error 10 ∧ H i4 = some (.row 0 [.int .i64 10])) ∨
    ∃ k, e = .panic (pan 36 k) ∧ lineP s w = .error k ∧ H i4 = some (.row 0 [.int .i64 0]))
end Go.Proofs.S
