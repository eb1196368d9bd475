/- A part of the proof that a law answers true for every input of its row: own work, by an AI agent. -/
import Derived.Test.YtfeafldgohceaaaB05
import Derived.Test.YtfeafldgohceaaaB01
import Derived.KernelRfl
import Derived.Test.YtfeafldgohceaaaB04
set_option linter.unusedSimpArgs false
set_option linter.unusedVariables false
set_option linter.defProp false
namespace Go.Proofs.U
open Go Go.AH Go.Proofs.T
set_option maxRecDepth 20000
structure Q4 where
  a : VT
  b : VT
  c : VT
  d : VT
  deriving DecidableEq
instance instQ4 : Inhabited Q4 := ⟨⟨default, default, default, default⟩⟩
def e4 (q : Q4) : List AV := [.int .i64 q.a.X, .int .i64 q.a.Y, .int .i64 q.a.Z, .int .i64 q.b.X, .int .i64 q.b.Y, .int .i64 q.b.Z, .int .i64 q.c.X, .int .i64 q.c.Y, .int .i64 q.c.Z, .int .i64 q.d.X, .int .i64 q.d.Y, .int .i64 q.d.Z]
section
variable {vs : List VT} {fs : List (List Int)} {t : Tp} {sh : List Int} {hd : List (List VT)} {f g skin a b A B : Int}
theorem cases4 {P : Int → Prop} (h0 : P 0) (h1 : P 1) (h2 : P 2) (h3 : P 3) {a : Int} (a0 : 0 ≤ a) (a1 : a < 4) : P a := by
  have : a = 0 ∨ a = 1 ∨ a = 2 ∨ a = 3 := by omega
  rcases this with rfl | rfl | rfl | rfl <;> assumption
end
section
variable {vs : List VT} {fs : List (List Int)} {cr : List CrT} {skin f g a b A B : Int}
end
end Go.Proofs.U
namespace Go.Proofs.U
open Go Go.AH Go.Proofs.T
set_option maxRecDepth 4000
set_option linter.unusedSectionVars false
theorem of_mov {b s : VT} {d : Int} (hd : 1 ≤ d) : ofV (addV s (scaleV b d)) d = addV (ofV s d) b := by
  have := (mov_rel b).round (c := 0) (s := s) (s' := addV s (scaleV b d)) hd rfl
  unfold movR at this; rwa [scaleV_one] at this
theorem wsum_app {l : List WgT} {b : VT} : ∀ (s : VT) (k : Int), (l.map fun p => WgT.mk p.k (addV p.V b)).foldl (fun s p => addV s (scaleV p.V p.k)) (addV s (scaleV b k)) = addV (l.foldl (fun s p => addV s (scaleV p.V p.k)) s) (scaleV b (k + (l.map WgT.k).sum)) := by
  induction l with
  | nil => intro s k; simp
  | cons p l ih =>
    intro s k
    rw [List.map_cons, List.foldl_cons, List.foldl_cons, List.map_cons, List.sum_cons]
    have e : addV (addV s (scaleV b k)) (scaleV (addV p.V b) p.k) = addV (addV s (scaleV p.V p.k)) (scaleV b (k + p.k)) := by
      simp only [addV, scaleV, VT.mk.injEq, Int.add_mul, Int.mul_add]; omega
    simp only
    rw [e, ih, Int.add_assoc]
theorem wsum_mov {l : List WgT} {b : VT} {d : Int} (h : (l.map WgT.k).sum = d) : wsum (l.map fun p => WgT.mk p.k (addV p.V b)) = addV (wsum l) (scaleV b d) := by
  have := wsum_app (l := l) (b := b) zV 0
  have e : addV zV (scaleV b 0) = zV := by simp [addV, zV, scaleV]
  rw [e, Int.zero_add, h] at this
  exact this
structure MovV (vs vs' : List VT) (b : VT) : Prop where
  l : vs'.length = vs.length
  a : ∀ k : Int, 0 ≤ k → k < vs.length → at_ vs' k = addV (at_ vs k) b
structure MovH (n : Int) (hd hd' : List (List VT)) (b : VT) : Prop where
  a : ∀ v : Int, 0 ≤ v → v < n → at_ hd' v = (at_ hd v).map fun p => addV p b
section
variable {vs vs' : List VT} {fs : List (List Int)} {t : Tp} {sh : List Int} {hd hd' : List (List VT)} {b : VT} (S : ShpF vs fs t sh hd) (M : MovV vs vs' b) (D : MovH vs.length hd hd' b)
include S M
theorem mov_at {f k j : Int} (f0 : 0 ≤ f) (f1 : f < fs.length) : atP vs' (at_ fs f) k j = addV (atP vs (at_ fs f) k j) b := by
  have h2 := S.q f f0 f1
  have hm := mod_in (x := k + j) (y := 4) (by decide)
  have := S.r _ (at_mem f0 f1) _ (at_mem (l := AH.at_ fs f) hm.1 (by omega))
  exact M.a _ this.1 this.2
theorem mov_cross {f : Int} (f0 : 0 ≤ f) (f1 : f < fs.length) : crossF vs' (at_ fs f) = crossF vs (at_ fs f) := by
  have h2 := S.q f f0 f1
  have hv : ∀ i : Int, 0 ≤ i → i < 4 → at_ vs' (at_ (at_ fs f) i) = addV (at_ vs (at_ (at_ fs f) i)) b := fun i i0 i1 => by
    have := S.r _ (at_mem f0 f1) _ (at_mem (l := AH.at_ fs f) i0 (by omega))
    exact M.a _ this.1 this.2
  have hs : ∀ p q : VT, subV (addV p b) (addV q b) = subV p q := fun p q => by simp only [subV, addV, VT.mk.injEq]; omega
  unfold crossF
  rw [hv 2 (by decide) (by decide), hv 0 (by decide) (by decide), hv 3 (by decide) (by decide), hv 1 (by decide) (by decide), hs, hs]
theorem mov_normal {v : Int} (h0 : 0 ≤ v) (h1 : v < vs.length) : normalQ vs' fs t v = normalQ vs fs t v := by
  unfold normalQ
  congr 2
  refine List.map_congr_left fun f hf => ?_
  have := S.fin v h0 h1 f hf
  exact mov_cross S M this.1 this.2.1
include D
theorem mov_N {v : Int} (h0 : 0 ≤ v) (h1 : v < vs.length) : innerN t hd' v = innerN t hd v := by
  unfold innerN; rw [D.a v h0 h1, List.length_map]
theorem mov_inner {f v : Int} (h0 : 0 ≤ v) (h1 : v < vs.length) (f0 : 0 ≤ f) (f1 : f < fs.length) : innerP vs' fs t hd' f v = addV (innerP vs fs t hd f v) b := by
  have hn := S.n h0 h1
  unfold innerP
  rw [mov_N S M D h0 h1, mov_at S M f0 f1, mov_at S M f0 f1, mov_at S M f0 f1, mov_at S M f0 f1, ← of_mov (by omega)]
  congr 1
  exact wsum_mov (l := [WgT.mk _ _, WgT.mk _ _, WgT.mk _ _, WgT.mk _ _]) (by show innerN t hd v + (2 + (2 + (1 + 0))) = innerN t hd v + 5; omega)
theorem mov_edge {v w : Int} (hs : 0 ≤ alongS fs v w ∨ 0 ≤ alongS fs w v) (hv : 0 ≤ v ∧ v < vs.length) (hw : 0 ≤ w ∧ w < vs.length) : edgeQ vs' fs t sh hd' v w = addV (edgeQ vs fs t sh hd v w) b := by
  obtain ⟨_, hd2, hd3⟩ := S.fd v w hs
  unfold edgeQ
  split
  · rename_i hz
    have hfg := S.fg _ hd2.1 hd2.2 hz v hd3
    rw [mov_inner S M D hv.1 hv.2 hfg.1.1 hfg.1.2.1, mov_inner S M D hv.1 hv.2 hfg.2.1 hfg.2.2.1, ← of_mov (by decide)]
    congr 1
    simp only [addV, scaleV, VT.mk.injEq]; omega
  · rw [M.a v hv.1 hv.2, M.a w hw.1 hw.2, ← of_mov (by decide)]
    congr 1
    exact wsum_mov (l := [WgT.mk _ _, WgT.mk _ _]) (by simp)
theorem mov_corner {v : Int} (hv : 0 ≤ v ∧ v < vs.length) : cornerQ vs' fs t hd' v = addV (cornerQ vs fs t hd v) b := by
  have hf := S.tf.fan v hv.1 hv.2
  have hD := D.a v hv.1 hv.2
  unfold cornerQ
  rw [hD, List.length_map]
  split
  · exact M.a v hv.1 hv.2
  · split
    · rename_i h1 h2
      have ha : ∀ i : Int, 0 ≤ i → i < 2 → at_ ((at_ hd v).map fun p => addV p b) i = addV (at_ (at_ hd v) i) b := fun i i0 i1 => by
        have hi : i.toNat < (at_ hd v).length := by omega
        generalize at_ hd v = l at *
        simp [at_, hi]
      rw [ha 0 (by decide) (by decide), ha 1 (by decide) (by decide), M.a v hv.1 hv.2, ← of_mov (by decide)]
      congr 1
      exact wsum_mov (l := [WgT.mk _ _, WgT.mk _ _, WgT.mk _ _]) (by simp)
    · have := (mov_rel b).sum (c := 0) (by decide) (l := at_ t.fan v) (F := fun f => innerP vs fs t hd f v) (G := fun f => innerP vs' fs t hd' f v) fun f hf2 => by
        have hi := S.fin v hv.1 hv.2 f hf2
        unfold movR; rw [scaleV_one]
        exact mov_inner S M D hv.1 hv.2 hi.1 hi.2.1
      unfold movR at this
      rw [this]; exact of_mov (by omega)
end
def movP (b : VT) (k : Int) (p : PatchT) : PatchT := PatchT.mk (updU (movG b) p.aP k) p.Corners p.Normals p.Skin
section
variable {vs vs' : List VT} {fs : List (List Int)} {t : Tp} {sh : List Int} {hd hd' : List (List VT)} {b : VT} (S : ShpF vs fs t sh hd) (M : MovV vs vs' b) (D : MovH vs.length hd hd' b)
include S M D
theorem mov_patch {f skin : Int} (f0 : 0 ≤ f) (f1 : f < fs.length) : movP b 16 (patchQ vs fs t sh hd f skin) = patchQ vs' fs t sh hd' f skin := by
  have c0 := S.cin (i := 0) f0 f1 (by decide) (by decide)
  have c1 := S.cin (i := 1) f0 f1 (by decide) (by decide)
  have c2 := S.cin (i := 2) f0 f1 (by decide) (by decide)
  have c3 := S.cin (i := 3) f0 f1 (by decide) (by decide)
  have d0 := S.side (i := 0) (j := 1) f0 f1 (by decide) (by decide) (by decide)
  have d1 := S.side (i := 1) (j := 2) f0 f1 (by decide) (by decide) (by decide)
  have d2 := S.side (i := 2) (j := 3) f0 f1 (by decide) (by decide) (by decide)
  have d3 := S.side (i := 3) (j := 0) f0 f1 (by decide) (by decide) (by decide)
  have I := fun {v : Int} (c : InF fs v f ∧ 0 ≤ v ∧ v < vs.length) => mov_inner S M D c.2.1 c.2.2 f0 f1
  unfold movP patchQ
  rw [mov_normal S M c0.2.1 c0.2.2, mov_normal S M c1.2.1 c1.2.2, mov_normal S M c2.2.1 c2.2.2, mov_normal S M c3.2.1 c3.2.2,
    mov_corner S M D c0.2, mov_corner S M D c1.2, mov_corner S M D c2.2, mov_corner S M D c3.2, I c0, I c1, I c2, I c3,
    mov_edge S M D (.inl d0) c0.2 c1.2, mov_edge S M D (.inr d0) c1.2 c0.2, mov_edge S M D (.inr d3) c0.2 c3.2, mov_edge S M D (.inl d1) c1.2 c2.2,
    mov_edge S M D (.inl d3) c3.2 c0.2, mov_edge S M D (.inr d1) c2.2 c1.2, mov_edge S M D (.inr d2) c3.2 c2.2, mov_edge S M D (.inl d2) c2.2 c3.2]
  rfl
end
theorem ShpF.mid_c {vs : List VT} {fs : List (List Int)} {t : Tp} {sh : List Int} {hd : List (List VT)} (S : ShpF vs fs t sh hd) {f skin : Int} (f0 : 0 ≤ f) (f1 : f < fs.length) : ∀ k : Int, 0 ≤ k → k < 4 → 0 ≤ AH.at_ (patchQ vs fs t sh hd f skin).aCorners k ∧ AH.at_ (patchQ vs fs t sh hd f skin).aCorners k < vs.length := fun k k0 k1 =>
  cases4 (P := fun k => 0 ≤ AH.at_ (patchQ vs fs t sh hd f skin).aCorners k ∧ AH.at_ (patchQ vs fs t sh hd f skin).aCorners k < vs.length) (S.cin (i := 0) f0 f1 (by decide) (by decide)).2 (S.cin (i := 1) f0 f1 (by decide) (by decide)).2 (S.cin (i := 2) f0 f1 (by decide) (by decide)).2 (S.cin (i := 3) f0 f1 (by decide) (by decide)).2 k0 k1
end Go.Proofs.U
namespace Go.Proofs.U
open Go Go.AH Go.Proofs.T
set_option maxRecDepth 4000
set_option linter.unusedSectionVars false
theorem hd_mov {vs vs' : List VT} {ed : List Ed} {sh : List Int} {b : VT} (M : MovV vs vs' b) (hab : ∀ e ∈ ed, (0 ≤ e.A ∧ e.A < (vs.length : Int)) ∧ 0 ≤ e.B ∧ e.B < (vs.length : Int)) : MovH vs.length (hdR vs ed sh) (hdR vs' ed sh) b := by
  refine ⟨fun v v0 v1 => ?_⟩
  rw [hdR_at v0 v1, hdR_at v0 (by rw [M.l]; exact v1)]
  unfold hdU F_
  rw [List.map_flatten]
  congr 1
  unfold U_
  rw [List.map_map]
  refine List.map_congr_left fun j hj => ?_
  rw [List.mem_range] at hj
  have h := hab _ (at_mem (l := ed) (i := (j : Int)) (by omega) (by omega))
  show hdJ vs' ed sh v (j : Int) = (hdJ vs ed sh v (j : Int)).map fun p => addV p b
  unfold hdJ
  split
  · rfl
  · rw [List.map_append]
    congr 1
    · split
      · rw [List.map_singleton, M.a _ h.2.1 h.2.2]
      · rfl
    · split
      · rw [List.map_singleton, M.a _ h.1.1 h.1.2]
      · rfl
def RanP (p : PatchT) : Prop := (∀ v ∈ p.aP, inV 131072 v) ∧ (∀ c ∈ p.aCorners, inR c) ∧ (∀ v ∈ p.aNormals, inV 131072 v) ∧ inR p.Skin
structure MoF (vs : List VT) (fs : List (List Int)) (cr : List CrT) (vs' : List VT) (b : VT) : Prop where
  mid : MidC vs' fs cr
  e : (patR vs' fs cr 1).2 = 0
  l : (patR vs' fs cr 1).1.length = fs.length
  p : ∀ i : Int, 0 ≤ i → i < fs.length → movP b 16 (at_ (patR vs fs cr 1).1 i) = at_ (patR vs' fs cr 1).1 i
  n : ∀ i : Int, 0 ≤ i → i < fs.length → (at_ (patR vs fs cr 1).1 i).P.length = 16
  r : ∀ i : Int, 0 ≤ i → i < fs.length → RanP (at_ (patR vs' fs cr 1).1 i)
  q : ∀ i : Int, 0 ≤ i → i < fs.length → ∀ k : Int, 0 ≤ k → k < 16 → inV 65536 (at_ (at_ (patR vs fs cr 1).1 i).aP k)
theorem moF {vs : List VT} {fs : List (List Int)} {cr : List CrT} {b : VT} {k : Int} (Q : QuF vs fs cr) (hb : inV 16384 b) (hv : ∀ j : Int, 0 ≤ j → j < k → inV 32768 (at_ vs j)) (hk : k = vs.length) : MoF vs fs cr (updU (movG b) vs k) b := by
  have hM : ∀ j : Int, 0 ≤ j → j < vs.length → at_ (updU (movG b) vs k) j = addV (at_ vs j) b := fun j j0 j1 => by rw [upd_at j0 j1, if_pos (by omega)]; rfl
  have hlM := upd_len (movG b) vs k
  obtain ⟨v1, f1⟩ := far_at (vs := vs) (m := 32768) (by decide) fun j j0 j1 => hv j j0 (by omega)
  obtain ⟨v2, f2⟩ := far_at (vs := updU (movG b) vs k) (m := 32768 + 16384) (by decide) fun j j0 j1 => by
    rw [hM j j0 (by omega)]; exact inV_add (hv j j0 (by omega)) hb
  have M : MovV vs (updU (movG b) vs k) b := ⟨hlM, hM⟩
  have e1 := lev_err (fs := fs) (cr := cr) hlM f1 f2
  have mid : MidC (updU (movG b) vs k) fs cr := ⟨by rw [hlM]; exact Q.mid.v, Q.mid.f, Q.mid.s, Q.mid.fs, Q.mid.c, Q.mid.cl⟩
  have Q2 : QuF (updU (movG b) vs k) fs cr := ⟨mid, by rw [e1]; exact Q.l0, Q.four⟩
  have S := shpF Q.mid Q.l0 Q.four
  have S2 := shpF mid Q2.l0 Q.four
  have p1 := pat_3 (skin := 1) Q.l0 Q.four
  have p2 := pat_3 (skin := 1) Q2.l0 Q.four
  have tf := S.tf
  have D := hd_mov (sh := (sharpR (buildT vs.length fs) cr).1) M tf.ab
  refine ⟨mid, by rw [p2], by rw [p2]; simp only [U_len]; omega, fun i i0 i1 => ?_, fun i i0 i1 => ?_, fun i i0 i1 => ?_, fun i i0 i1 k k0 k1 => ?_⟩
  · rw [p1, p2]; simp only; rw [U_at i0 i1, U_at i0 i1, hlM]
    exact mov_patch S M D i0 i1
  · rw [p1]; simp only; rw [U_at i0 i1]; rfl
  · rw [p2]; simp only; rw [U_at i0 i1]
    refine ⟨fun v hv => ?_, fun c hc => ?_, fun v hv => ?_, by show inR 1; unfold inR; decide⟩
    · obtain ⟨j, j0, j1, rfl⟩ := mem_at hv
      rw [PatchT.lP] at j1
      exact inV_le (boxes_in.1 (S2.pointB S2.boxes i0 i1 j j0 j1)) (by decide)
    · obtain ⟨j, j0, j1, rfl⟩ := mem_at hc
      rw [PatchT.lCorners] at j1
      have hm := S2.mid_c i0 i1 (skin := 1) j j0 j1
      have := S2.v1
      unfold inR; omega
    · obtain ⟨j, j0, j1, rfl⟩ := mem_at hv
      rw [PatchT.lNormals] at j1
      exact inV_le (S2.normalI i0 i1 j j0 j1) (by decide)
  · rw [p1]; simp only; rw [U_at i0 i1]
    exact boxes_in.1 (S.pointB S.boxes i0 i1 k k0 k1)
def setP (p : PatchT) (k : Int) (v : VT) : PatchT := PatchT.mk (p.aP.set k.toNat v) p.Corners p.Normals p.Skin
theorem setP_aP (p : PatchT) (k : Int) (v : VT) : (setP p k v).aP = p.aP.set k.toNat v := arrL_of (by show (p.aP.set k.toNat v).length = 16; rw [List.length_set]; exact p.lP)
theorem setP_wr {p : PatchT} {k : Int} {v : VT} (k0 : 0 ≤ k) (k1 : k < 16) : writeL (ePatch p) (k.toNat * 3) (eV v) = ePatch (setP p k v) := by
  have h : ePatch (setP p k v) = (p.aP.set k.toNat v).flatMap eV ++ (p.aCorners.map eI ++ (p.aNormals.flatMap eV ++ [.int .i64 p.Skin])) := by
    unfold ePatch; rw [setP_aP]; rfl
  rw [h]; unfold ePatch
  have hl := p.lP
  exact wr_fst (by rw [lenM eV_len p.lP rfl, eV_len]; omega) (wr_setM eV_len k0 (by omega))
theorem movP_aP {b : VT} {k : Int} {p : PatchT} : (movP b k p).aP = updU (movG b) p.aP k := arrL_of (by show (updU (movG b) p.aP k).length = 16; rw [upd_len]; exact p.lP)
theorem movP_step {b : VT} {k : Int} {p : PatchT} (k0 : 0 ≤ k) (k1 : k < 16) : setP (movP b k p) k (addV (at_ (movP b k p).aP k) b) = movP b (k + 1) p := by
  have hl := p.lP
  unfold setP
  rw [movP_aP]
  have := upd_step (g := movG b) (vs := p.aP) k0 (by omega)
  unfold movP
  congr 1
theorem movP_0 {b : VT} {p : PatchT} (h : p.P.length = 16) : movP b 0 p = p := by
  unfold movP
  rw [← upd_0]
  have : p.aP = p.P := arrL_of h
  rw [this]
structure MvF (P ps : List PatchT) (b : VT) (i k : Int) : Prop where
  l : ps.length = P.length
  lt : ∀ j : Int, 0 ≤ j → j < i → at_ ps j = movP b 16 (at_ P j)
  eq : i < P.length → at_ ps i = movP b k (at_ P i)
  gt : ∀ j : Int, i < j → j < P.length → at_ ps j = at_ P j
section
variable {P ps : List PatchT} {b : VT} {i k : Int}
theorem at_setP {l : List PatchT} {i j : Int} {x : PatchT} (h0 : 0 ≤ i) (hj : 0 ≤ j) (h1 : i < l.length) : at_ (l.set i.toNat x) j = if j = i then x else at_ l j := by
  unfold at_
  rw [List.getD_eq_getElem?_getD, List.getD_eq_getElem?_getD, List.getElem?_set]
  by_cases e : j = i
  · subst e; rw [if_pos rfl, if_pos (by omega), if_pos rfl]; rfl
  · rw [if_neg (by omega), if_neg e]
theorem mvF_0 (hn : 0 < P.length → (at_ P 0).P.length = 16) : MvF P P b 0 0 :=
  ⟨rfl, fun j j0 j1 => by omega, fun h => by rw [movP_0 (hn (by omega))], fun _ _ _ => rfl⟩
theorem MvF.step (h : MvF P ps b i k) (i0 : 0 ≤ i) (i1 : i < P.length) (k0 : 0 ≤ k) (k1 : k < 16) : MvF P (ps.set i.toNat (setP (at_ ps i) k (addV (at_ (at_ ps i).aP k) b))) b i (k + 1) := by
  have hl := h.l
  refine ⟨by rw [List.length_set]; exact h.l, fun j j0 j1 => ?_, fun _ => ?_, fun j j0 j1 => ?_⟩
  · rw [at_setP i0 j0 (by omega), if_neg (by omega)]; exact h.lt j j0 j1
  · rw [at_setP i0 i0 (by omega), if_pos rfl, h.eq i1, movP_step k0 k1]
  · rw [at_setP i0 (by omega) (by omega), if_neg (by omega)]; exact h.gt j j0 j1
theorem MvF.next (h : MvF P ps b i 16) (i0 : 0 ≤ i) (i1 : i < P.length) (hn : i + 1 < P.length → (at_ P (i + 1)).P.length = 16) : MvF P ps b (i + 1) 0 := by
  refine ⟨h.l, fun j j0 j1 => ?_, fun hi => ?_, fun j j0 j1 => h.gt j (by omega) j1⟩
  · by_cases e : j = i
    · subst e; exact h.eq i1
    · exact h.lt j j0 (by omega)
  · rw [h.gt (i + 1) (by omega) hi, movP_0 (hn hi)]
theorem mv_in (h : MvF P ps b i k) (i1 : i < P.length) (k0 : 0 ≤ k) (k1 : k < 16) (hx : inV 65536 (at_ (at_ P i).aP k)) : inV 65536 (at_ (at_ ps i).aP k) := by
  have hl := (at_ P i).lP
  rw [h.eq i1, movP_aP, upd_at k0 (by omega), if_neg (by omega)]; exact hx
end
end Go.Proofs.U
namespace Go.Proofs.U
open Go Go.AH Go.Proofs.T
set_option maxRecDepth 20000
def iV (v : VT) : List Int := [v.X, v.Y, v.Z]
def iPatch (p : PatchT) : List Int := p.aP.flatMap iV ++ (p.aCorners ++ (p.aNormals.flatMap iV ++ [p.Skin]))
theorem iV_map (l : List VT) : l.flatMap eV = (l.flatMap iV).map fun x => .int .i64 x := by
  induction l with
  | nil => rfl
  | cons v l ih => rw [List.flatMap_cons, List.flatMap_cons, List.map_append, ih]; rfl
theorem ePatch_map (p : PatchT) : ePatch p = (iPatch p).map fun x => .int .i64 x := by
  unfold ePatch iPatch
  rw [List.map_append, List.map_append, List.map_append, iV_map, iV_map]; rfl
theorem mem_iV {c : Int} {l : List VT} (h : ∀ v ∈ l, inV c v) : ∀ x ∈ l.flatMap iV, -c ≤ x ∧ x ≤ c := fun x hx => by
  obtain ⟨v, hv, hm⟩ := List.mem_flatMap.1 hx
  have := h v hv
  unfold iV at hm; unfold inV at this
  simp only [List.mem_cons, List.not_mem_nil, or_false] at hm
  rcases hm with rfl | rfl | rfl <;> omega
theorem kokP {p : PatchT} (h : RanP p) : KOK Try.prog 70 (.agg (ePatch p)) := by
  have hl : (iPatch p).length = 65 := by
    have := ePatch_len p
    rw [ePatch_map, List.length_map] at this; exact this
  rw [ePatch_map]
  refine KOK.flat 6 (by kernel_rfl) (by kernel_rfl) (by kernel_rfl) (by kernel_rfl) (by rw [hl]; kernel_rfl) fun x hx => ?_
  unfold iPatch at hx
  rcases List.mem_append.1 hx with g | g
  · have := mem_iV h.1 x g; unfold inR; omega
  · rcases List.mem_append.1 g with g | g
    · exact h.2.1 x g
    · rcases List.mem_append.1 g with g | g
      · have := mem_iV h.2.2.1 x g; unfold inR; omega
      · rw [List.mem_singleton] at g; subst g; exact h.2.2.2
theorem teq70 : TEq Try.prog 70 := TEq.mk' laid (m := 6) (by decide) (row_lt (by kernel_rfl)) (by kernel_rfl) (by kernel_rfl) (by kernel_rfl)
end Go.Proofs.U
namespace Go.Proofs.U
open Go Go.AH Go.Proofs.T
set_option maxRecDepth 4000
set_option linter.unusedSimpArgs false
set_option linter.unusedVariables false
set_option maxHeartbeats 4000000
end Go.Proofs.U
namespace Go.Proofs.U
open Go Go.AH Go.Proofs.T
set_option maxRecDepth 4000
end Go.Proofs.U
namespace Go.Proofs.U
open Go Go.AH Go.Proofs.T
set_option maxRecDepth 4000
set_option linter.unusedSimpArgs false
set_option linter.unusedVariables false
set_option maxHeartbeats 4000000
theorem c_palive : PC Try.prog 28 [] (.bool true) := by
 intro H0
 have hav := pal_l
 refine ACalls.of_body' (n := 56) rfl rfl rfl rfl ?_
 have m0 := Mono.refl H0
 refine Sr ?_
 refine A rfl rfl ?_
 refine Sr ?_
 refine C rfl (Bl (cells := [.int .i64 0, .int .i64 0, .int .i64 0]) rfl tz_42 pl_42 rfl rfl (C rfl (Bl (cells := [.int .i64 18, .int .i64 0, .int .i64 0]) rfl tz_42 pl_42 rfl rfl (C rfl (Bl (cells := [.int .i64 18, .int .i64 18, .int .i64 0]) rfl tz_42 pl_42 rfl rfl (C rfl (Bl (cells := [.int .i64 0, .int .i64 18, .int .i64 0]) rfl tz_42 pl_42 rfl rfl (C rfl (AOp.buildSlice (cells := [.int .i64 0, .int .i64 0, .int .i64 0, .int .i64 18, .int .i64 0, .int .i64 0, .int .i64 18, .int .i64 18, .int .i64 0, .int .i64 0, .int .i64 18, .int .i64 0]) rfl u_22 ts_42 tz_42 rfl rfl rfl ?_)))))))))
 intro i1 H2 n3 h4 k5
 have z6 := Mono.free m0 n3
 have m7 := Mono.new m0 n3 k5
 refine C rfl (AOp.buildSlice (cells := [.int .i64 0, .int .i64 1, .int .i64 2, .int .i64 3]) rfl u_38 ts_3 tz_3 rfl rfl rfl ?_)
 intro i8 H9 n10 h11 k12
 have e13 := ne_new h4 n10
 have z14 := Mono.free m7 n10
 have h15 := keep k12 (ne_new h4 n10) h4
 have m16 := Mono.new m7 n10 k12
 obtain ⟨v17, e18⟩ : ∃ v : AV, v = .slm i8 0 1 0 4 := ⟨_, rfl⟩
 have o19 : Own H0 H9 1 v17 4 [.int .i64 0, .int .i64 1, .int .i64 2, .int .i64 3] := .inr ⟨_, _, e18, h11, z14, rfl⟩
 have no20 : NotId v17 i1 := by rw [e18]; exact NotId.slm e13
 refine C rfl ?_
 refine AOp.frz 9 (o19) e18.symm m16 fun H21 m22 k23 => ?_
 have h24 := (k23 _ no20).trans h15
 refine AOp.buildSlice (cells := [.sl ([0, 1, 2, 3] : List Int).length (([0, 1, 2, 3] : List Int).map eI)]) rfl u_23 ts_38 tz_38 rfl rfl rfl ?_
 intro i25 H26 n27 h28 k29
 have e30 := ne_new h24 n27
 have z31 := Mono.free m22 n27
 have h32 := keep k29 (ne_new h24 n27) h24
 have m33 := Mono.new m22 n27 k29
 obtain ⟨v34, e35⟩ : ∃ v : AV, v = .slm i1 0 3 0 4 := ⟨_, rfl⟩
 have o36 : Own H0 H26 3 v34 4 [.int .i64 0, .int .i64 0, .int .i64 0, .int .i64 18, .int .i64 0, .int .i64 0, .int .i64 18, .int .i64 18, .int .i64 0, .int .i64 0, .int .i64 18, .int .i64 0] := .inr ⟨_, _, e35, h32, z6, rfl⟩
 have no37 : NotId v34 i25 := by rw [e35]; exact NotId.slm (Ne.symm e30)
 refine C rfl ?_
 refine AOp.frz 8 (o36) e35.symm m33 fun H38 m39 k40 => ?_
 have h41 := (k40 _ no37).trans h28
 obtain ⟨v42, e43⟩ : ∃ v : AV, v = .slm i25 0 1 0 1 := ⟨_, rfl⟩
 have o44 : Own H0 H38 1 v42 1 [.sl ([0, 1, 2, 3] : List Int).length (([0, 1, 2, 3] : List Int).map eI)] := .inr ⟨_, _, e43, h41, z31, rfl⟩
 refine AOp.frz 10 (o44) e43.symm m39 fun H45 m46 k47 => ?_
 refine Bl (cells := [.sl ([(VT.mk 0 0 0), (VT.mk 18 0 0), (VT.mk 18 18 0), (VT.mk 0 18 0)] : List VT).length (([(VT.mk 0 0 0), (VT.mk 18 0 0), (VT.mk 18 18 0), (VT.mk 0 18 0)] : List VT).flatMap eV), .sl ([([0, 1, 2, 3] : List Int)] : List (List Int)).length (([([0, 1, 2, 3] : List Int)] : List (List Int)).map eF), .snil]) rfl tz_26 pl_26 rfl rfl ?_
 refine C rfl (Pc («as» := [.agg [.sl ([(VT.mk 0 0 0), (VT.mk 18 0 0), (VT.mk 18 18 0), (VT.mk 0 18 0)] : List VT).length (([(VT.mk 0 0 0), (VT.mk 18 0 0), (VT.mk 18 18 0), (VT.mk 0 18 0)] : List VT).flatMap eV), .sl ([([0, 1, 2, 3] : List Int)] : List (List Int)).length (([([0, 1, 2, 3] : List Int)] : List (List Int)).map eF), .snil], .int .i64 3]) rfl rfl (rfl) tf_30 (c_PatchesN AV18 AF4 mid18 3) ?_)
 intro H48 m49
 have m50 := m46.trans m49
 refine V rfl rfl (E rfl rfl rfl (E rfl rfl rfl (A rfl rfl (A rfl rfl ?_))))
 refine Sr ?_
 refine V rfl rfl (B rfl rfl rfl ieq (V rfl rfl (Y rfl rfl rfl (decide_eq_true (pal_2)) (Mv _ rfl rfl (Y rfl rfl rfl (decide_eq_true (pal_2)) (AOp.len (m := ((patR AV18 AF4 [] 3).1).length) rfl rfl (.inr (.inl ⟨_, rfl⟩)) u_63 (Y rfl rfl rfl (decide_eq_true (pal_2)) (Bi _ rfl rfl rfl ieq (C rfl (Pt _ rfl rfl (decide_eq_true (pal_2)) rfl (V rfl rfl (Y rfl rfl rfl (decide_eq_true (pal_l)) (Mv _ rfl rfl (Y rfl rfl rfl (decide_eq_true (pal_l)) (iS_ rfl rfl rfl sl_63 (by omega) (by omega) (Y rfl rfl rfl (decide_eq_true (pal_l)) (Ff rfl rfl fl_70_0 (Y rfl rfl rfl (decide_eq_true (pal_l)) (iF_ rfl rfl rfl ar_66 (by omega) (by omega) (Y rfl rfl rfl (decide_eq_true (pal_l)) (Lf _ rfl rfl ty_42 (ld_off (o := (0 : Int).toNat * 65 + 0 + (0 : Int).toNat * 3) (o' := (0 : Int).toNat * 65 + (0)) (by omega) (ldE ePatch_len (i := 0) (by omega) (by omega) (fun h => by first | rfl | cases h) (ld_fst (fun h => by first | rfl | cases h) (ldM eV_len (i := 0) (by omega) (by have := (at_ ((patR AV18 AF4 [] 3).1) 0).lP; omega))))) (Y rfl rfl rfl (decide_eq_true (pal_l)) (Bl (cells := [.int .i64 3, .int .i64 3, .int .i64 0]) rfl tz_42 pl_42 rfl rfl (Y rfl rfl rfl (decide_eq_true (pal_l)) (AOp.eqAggD rfl rfl rfl teq42 (kokV (v := (at_ ((at_ ((patR AV18 AF4 [] 3).1) 0).aP) 0)) (by rw [pal_p0]; exact ⟨by unfold inR; decide, by unfold inR; decide, by unfold inR; decide⟩)) (kokV (v := (VT.mk 3 3 0)) (by exact ⟨by unfold inR; decide, by unfold inR; decide, by unfold inR; decide⟩)) (eV_iff (at_ ((at_ ((patR AV18 AF4 [] 3).1) 0).aP) 0) (VT.mk 3 3 0)) (C rfl (Pt _ rfl rfl (decide_eq_true (pal_l)) rfl (V rfl rfl (Y rfl rfl rfl (decide_eq_true (pal_p0)) (Mv _ rfl rfl ?_))))))))))))))))))))))))))))))
 refine Y rfl rfl rfl (decide_eq_true (pal_p0)) (iS_ rfl rfl rfl sl_63 (by omega) (by omega) (Y rfl rfl rfl (decide_eq_true (pal_p0)) (Ff rfl rfl fl_70_0 (Y rfl rfl rfl (decide_eq_true (pal_p0)) (iF_ rfl rfl rfl ar_66 (by omega) (by omega) (Y rfl rfl rfl (decide_eq_true (pal_p0)) (Lf _ rfl rfl ty_42 (ld_off (o := (0 : Int).toNat * 65 + 0 + (1 : Int).toNat * 3) (o' := (0 : Int).toNat * 65 + (3)) (by omega) (ldE ePatch_len (i := 0) (by omega) (by omega) (fun h => by first | rfl | cases h) (ld_fst (fun h => by first | rfl | cases h) (ldM eV_len (i := 1) (by omega) (by have := (at_ ((patR AV18 AF4 [] 3).1) 0).lP; omega))))) (Y rfl rfl rfl (decide_eq_true (pal_p0)) (Bl (cells := [.int .i64 6, .int .i64 0, .int .i64 0]) rfl tz_42 pl_42 rfl rfl (Y rfl rfl rfl (decide_eq_true (pal_p0)) (AOp.eqAggD rfl rfl rfl teq42 (kokV (v := (at_ ((at_ ((patR AV18 AF4 [] 3).1) 0).aP) 1)) (by rw [pal_p1]; exact ⟨by unfold inR; decide, by unfold inR; decide, by unfold inR; decide⟩)) (kokV (v := (VT.mk 6 0 0)) (by exact ⟨by unfold inR; decide, by unfold inR; decide, by unfold inR; decide⟩)) (eV_iff (at_ ((at_ ((patR AV18 AF4 [] 3).1) 0).aP) 1) (VT.mk 6 0 0)) (C rfl (Pt _ rfl rfl (decide_eq_true (pal_p0)) rfl (V rfl rfl (Y rfl rfl rfl (decide_eq_true (pal_p1)) (Mv _ rfl rfl (Y rfl rfl rfl (decide_eq_true (pal_p1)) (iS_ rfl rfl rfl sl_63 (by omega) (by omega) (Y rfl rfl rfl (decide_eq_true (pal_p1)) (Ff rfl rfl fl_70_0 (Y rfl rfl rfl (decide_eq_true (pal_p1)) (iF_ rfl rfl rfl ar_66 (by omega) (by omega) (Y rfl rfl rfl (decide_eq_true (pal_p1)) (Lf _ rfl rfl ty_42 (ld_off (o := (0 : Int).toNat * 65 + 0 + (4 : Int).toNat * 3) (o' := (0 : Int).toNat * 65 + (12)) (by omega) (ldE ePatch_len (i := 0) (by omega) (by omega) (fun h => by first | rfl | cases h) (ld_fst (fun h => by first | rfl | cases h) (ldM eV_len (i := 4) (by omega) (by have := (at_ ((patR AV18 AF4 [] 3).1) 0).lP; omega))))) (Y rfl rfl rfl (decide_eq_true (pal_p1)) (Bl (cells := [.int .i64 0, .int .i64 6, .int .i64 0]) rfl tz_42 pl_42 rfl rfl (Y rfl rfl rfl (decide_eq_true (pal_p1)) (AOp.eqAggD rfl rfl rfl teq42 (kokV (v := (at_ ((at_ ((patR AV18 AF4 [] 3).1) 0).aP) 4)) (by rw [pal_p4]; exact ⟨by unfold inR; decide, by unfold inR; decide, by unfold inR; decide⟩)) (kokV (v := (VT.mk 0 6 0)) (by exact ⟨by unfold inR; decide, by unfold inR; decide, by unfold inR; decide⟩)) (eV_iff (at_ ((at_ ((patR AV18 AF4 [] 3).1) 0).aP) 4) (VT.mk 0 6 0)) (C rfl (Pt _ rfl rfl (decide_eq_true (pal_p1)) rfl (V rfl rfl (Y rfl rfl rfl (decide_eq_true (pal_p4)) (Mv _ rfl rfl ?_)))))))))))))))))))))))))))))))))
 refine Y rfl rfl rfl (decide_eq_true (pal_p4)) (iS_ rfl rfl rfl sl_63 (by omega) (by omega) (Y rfl rfl rfl (decide_eq_true (pal_p4)) (Ff rfl rfl fl_70_3 (Y rfl rfl rfl (decide_eq_true (pal_p4)) (Lf _ rfl rfl ty_3 (ld_off (o := (0 : Int).toNat * 65 + 64) (o' := (0 : Int).toNat * 65 + (64)) (by omega) (ldE ePatch_len (i := 0) (by omega) (by omega) (fun h => by first | rfl | cases h) (ld_skip (off' := 16) (lenM eV_len (at_ ((patR AV18 AF4 [] 3).1) 0).lP rfl) (by omega) (ld_skip (off' := 12) (len1 (at_ ((patR AV18 AF4 [] 3).1) 0).lCorners) (by omega) (ld_skip (off' := 0) (lenM eV_len (at_ ((patR AV18 AF4 [] 3).1) 0).lNormals rfl) (by omega) rfl))))) (Y rfl rfl rfl (decide_eq_true (pal_p4)) (Bi _ rfl rfl rfl ieq (C rfl (Pt _ rfl rfl (decide_eq_true (pal_p4)) rfl (A rfl rfl ?_))))))))))
 refine rt_ ?_
 refine Rr (Res.one rfl rfl) ?_ m50
 exact (congrArg AV.bool (show (decide ((at_ ((patR AV18 AF4 [] 3).1) 0).Skin = 3) : Bool) = true from by first | rfl | exact decide_eq_true pal_s))
theorem c_quads (vs : List VT) (fs : List (List Int)) (cr : List CrT) (hvl : vs.length ≤ 1048576) (hfl : fs.length ≤ 1048576) (hfs : ∀ l ∈ fs, l.length ≤ 1048576) (hcl : cr.length ≤ 1048576) (hcS : ∀ c ∈ cr, c.S ≤ 9223372036854775807)  : PC Try.prog 29 [.agg [.sl vs.length (vs.flatMap eV), .sl fs.length (fs.map eF), .sl cr.length (cr.flatMap eCr)]] (.tup [.agg [.sl ((quadR vs fs cr).1.Verts).length (((quadR vs fs cr).1.Verts).flatMap eV), .sl ((quadR vs fs cr).1.Faces).length (((quadR vs fs cr).1.Faces).map eF), .sl ((quadR vs fs cr).1.Creases).length (((quadR vs fs cr).1.Creases).flatMap eCr)], .bool ((quadR vs fs cr).2)]) := by
 intro H0
 refine ACalls.of_body' (n := 17) rfl rfl rfl rfl ?_
 have m0 := Mono.refl H0
 refine Sr ?_
 refine C rfl (bx_ (.agg [.sl vs.length (vs.flatMap eV), .sl fs.length (fs.map eF), .sl cr.length (cr.flatMap eCr)]) rfl rfl rfl ?_)
 intro i1 H2 n3 h4 k5
 have z6 := Mono.free m0 n3
 have m7 := Mono.new m0 n3 k5
 refine C rfl (al_ rfl tz_26 ?_)
 intro i8 H9 n10 h11 k12
 have e13 := ne_new h4 n10
 have z14 := Mono.free m7 n10
 have h15 := keep k12 (ne_new h4 n10) h4
 have m16 := Mono.new m7 n10 k12
 refine A rfl rfl ?_
 refine AWP.seq ?_
 refine AWP.seq ?_
 refine fz_ 1 h15 z6 rfl m16 fun H17 m18 k19 => ?_
 have h20 := (k19 _ (Ne.symm e13)).trans h11
 refine AWP.region rfl ?_
 refine L rfl rfl ty_26 rfl (C rfl (Pc («as» := [.agg [.sl vs.length (vs.flatMap eV), .sl fs.length (fs.map eF), .sl cr.length (cr.flatMap eCr)]]) rfl rfl (rfl) tf_14 (c_Great _ _ _ (by omega) (by omega) (by assumption) (by omega)) ?_))
 intro H21 m22
 have h23 := m22 _ _ h20
 have m24 := m18.trans m22
 refine AOps.nil ?_
 change AWP _ _ _ _ _ _
 by_cases b25 : greatP vs fs cr
 refine ct_ rfl (decide_eq_true b25) ?_
 refine Sr ?_
 refine C rfl (Bl (cells := [.snil, .snil, .snil]) rfl tz_26 pl_26 rfl rfl (C rfl (Sw rfl rfl ts_26 h23 rfl rfl rfl ?_)))
 intro H26 h27 k28
 have m30 := Mono.set m24 z14 k28
 refine A rfl rfl ?_
 refine rt_ ?_
 refine Fin.frzCell 0 (Own.nil H0 H26 1) h27 z14 rfl (NotId.nil _) m30 fun H31 h32 m33 k34 => ?_
 have h35 : H31 i8 = some (.row 0 ([.sl 0 ([]), .snil, .snil])) := h32
 refine Fin.frzCell 1 (Own.nil H0 H31 1) h35 z14 rfl (NotId.nil _) m33 fun H36 h37 m38 k39 => ?_
 have h40 : H36 i8 = some (.row 0 ([.sl 0 ([]), .sl 0 ([]), .snil])) := h37
 refine Fin.frzCell 2 (Own.nil H0 H36 1) h40 z14 rfl (NotId.nil _) m38 fun H41 h42 m43 k44 => ?_
 have h45 : H41 i8 = some (.row 0 ([.sl 0 ([]), .sl 0 ([]), .sl 0 ([])])) := h42
 refine Rr (Res.list rfl rfl (.cell (v := .agg [.sl 0 ([]), .sl 0 ([]), .sl 0 ([])]) rfl ty_26 h45 rfl (.tmp rfl (.nil)))) ?_ m43
 exact congrArg AV.tup (lc (congrArg AV.agg (lc (congrArg (fun l : List VT => AV.sl l.length (l.flatMap eV)) (show ([] : List VT) = (quadR vs fs cr).1.Verts from by rw [quad_1 b25])) (lc (congrArg (fun l : List (List Int) => AV.sl l.length (l.map eF)) (show ([] : List (List Int)) = (quadR vs fs cr).1.Faces from by rw [quad_1 b25])) (lc (congrArg (fun l : List CrT => AV.sl l.length (l.flatMap eCr)) (show ([] : List CrT) = (quadR vs fs cr).1.Creases from by rw [quad_1 b25])) rfl)))) (lc (congrArg AV.bool (show (false : Bool) = (quadR vs fs cr).2 from by rw [quad_1 b25])) rfl))
 refine cf_ rfl (decide_eq_false b25) ?_
 refine AWP.skip ?_
 refine AWP.seq ?_
 obtain ⟨s1, s2, s3, s4, s5⟩ := great_small b25
 refine AWP.region rfl ?_
 refine L rfl rfl ty_26 rfl (C rfl (Pc («as» := [.agg [.sl vs.length (vs.flatMap eV), .sl fs.length (fs.map eF), .sl cr.length (cr.flatMap eCr)]]) rfl rfl (rfl) tf_15 (c_Level vs fs cr (by omega) (by omega) (fun l hl => Nat.le_trans (s5 l hl) (by decide)) (by omega) (by omega) hcS) ?_))
 intro H46 m47
 have h48 := m47 _ _ h23
 have m49 := m24.trans m47
 refine V rfl rfl (E rfl rfl rfl (E rfl rfl rfl (C rfl (al_ rfl tz_26 ?_))))
 intro i50 H51 n52 h53 k54
 have e55 := ne_new h48 n52
 have z56 := Mono.free m49 n52
 have h57 := keep k54 (ne_new h48 n52) h48
 have m58 := Mono.new m49 n52 k54
 refine C rfl (Sw rfl rfl ts_26 h53 rfl rfl rfl ?_)
 intro H59 h60 k61
 have h62 := keep k61 e55 h57
 have m64 := Mono.set m58 z56 k61
 refine A rfl rfl ?_
 refine AWP.seq ?_
 refine fz_ 4 h60 z56 rfl m64 fun H65 m66 k67 => ?_
 have h68 := (k67 _ e55).trans h62
 refine AWP.region rfl ?_
 refine L rfl rfl ty_26 rfl (V rfl rfl (B rfl rfl rfl ieq (C rfl (Sw rfl rfl ts_26 h68 rfl rfl rfl ?_))))
 intro H69 h70 k71
 have m73 := Mono.set m66 z14 k71
 refine A rfl rfl ?_
 refine rt_ ?_
 refine Rr (Res.list rfl rfl (.cell (v := .agg [.sl ((levelR vs fs cr).1.Verts).length (((levelR vs fs cr).1.Verts).flatMap eV), .sl ((levelR vs fs cr).1.Faces).length (((levelR vs fs cr).1.Faces).map eF), .sl ((levelR vs fs cr).1.Creases).length (((levelR vs fs cr).1.Creases).flatMap eCr)]) rfl ty_26 h70 rfl (.tmp rfl (.nil)))) ?_ m73
 exact congrArg AV.tup (lc (congrArg AV.agg (lc (congrArg (fun l : List VT => AV.sl l.length (l.flatMap eV)) (show ((levelR vs fs cr).1.Verts : List VT) = (quadR vs fs cr).1.Verts from by rw [quad_2 b25])) (lc (congrArg (fun l : List (List Int) => AV.sl l.length (l.map eF)) (show ((levelR vs fs cr).1.Faces : List (List Int)) = (quadR vs fs cr).1.Faces from by rw [quad_2 b25])) (lc (congrArg (fun l : List CrT => AV.sl l.length (l.flatMap eCr)) (show ((levelR vs fs cr).1.Creases : List CrT) = (quadR vs fs cr).1.Creases from by rw [quad_2 b25])) rfl)))) (lc (congrArg AV.bool (show (decide ((levelR vs fs cr).2 = 0) : Bool) = (quadR vs fs cr).2 from by rw [quad_2 b25])) rfl))
end Go.Proofs.U
namespace Go.Proofs.U
open Go Go.AH Go.Proofs.T
set_option maxRecDepth 4000
set_option linter.unusedSimpArgs false
set_option linter.unusedVariables false
set_option maxHeartbeats 4000000
end Go.Proofs.U
namespace Go.AH
variable [Globs]
set_option linter.unusedSectionVars false
open Go
theorem wr_fldM {α : Type} [Inhabited α] {xs : List α} {e : α → List AV} {m o : Nat} {i : Int} {el : α} {vs : List AV} (he : ∀ x, (e x).length = m) (h0 : 0 ≤ i) (h1 : i < xs.length) (ho : o + vs.length ≤ m) (hw : writeL (e (at_ xs i)) o vs = e el) :
    writeL (xs.flatMap e) (i.toNat * m + o) vs = (xs.set i.toNat el).flatMap e := by
  have hi : i.toNat < xs.length := by omega
  have hx : at_ xs i = xs[i.toNat] := by
    unfold at_
    rw [List.getD_eq_getElem?_getD, List.getElem?_eq_getElem hi]; rfl
  rw [hx] at hw
  have e1 : xs.flatMap e = (xs.take i.toNat).flatMap e ++ (e xs[i.toNat] ++ (xs.drop (i.toNat + 1)).flatMap e) := by
    conv => lhs; rw [← List.take_append_drop i.toNat xs, List.drop_eq_getElem_cons hi]
    rw [List.flatMap_append, List.flatMap_cons]
  have e2 : (xs.set i.toNat el).flatMap e = (xs.take i.toNat).flatMap e ++ (e el ++ (xs.drop (i.toNat + 1)).flatMap e) := by
    rw [List.set_eq_take_append_cons_drop, if_pos hi, List.flatMap_append, List.flatMap_cons]
  rw [e1, e2]
  refine wr_skip (n := i.toNat * m) (off' := o) ?_ rfl (wr_fst ?_ hw)
  · rw [flatMap_length he, List.length_take]
    congr 1; omega
  · rw [he]; exact ho
end Go.AH
namespace Go.Proofs.U
open Go Go.AH Go.Proofs.T
set_option maxRecDepth 4000
set_option linter.unusedSimpArgs false
set_option linter.unusedVariables false
set_option maxHeartbeats 4000000
theorem c_CopyVsO {H0 : Heap} (l : List VT) (hl : l.length ≤ 1048576) : ACalls Try.prog 46 [.sl l.length (l.flatMap eV)] H0 fun r H' => Own H0 H' 3 r (l).length ((l).flatMap eV) ∧ Mono H0 H' := by
 refine ACalls.of_body' (n := 9) rfl rfl rfl rfl ?_
 have m0 := Mono.refl H0
 refine AWP.seq (AWP.region rfl ?_)
 refine AOps.cons rfl rfl (AOp.assign _ rfl rfl ?_)
 refine AWP.seq (AWP.region rfl ?_)
 refine AOps.cons rfl rfl (AOp.buildSlice (cells := []) rfl u_22 ts_42 tz_42 rfl rfl rfl ?_)
 intro i1 H2 n3 h4 k5
 have z6 := Mono.free m0 n3
 have m7 := Mono.new m0 n3 k5
 obtain ⟨v8, e9⟩ : ∃ v : AV, v = .slm i1 0 3 0 0 := ⟨_, rfl⟩
 have o10 : Own H0 H2 3 v8 0 [] := .inr ⟨_, _, e9, h4, z6, rfl⟩
 refine AOps.cons rfl rfl (AOp.assign _ rfl e9.symm ?_)
 refine AWP.seq (AWP.region rfl ?_)
 refine AOps.cons rfl rfl (AOp.move _ rfl rfl (AOps.cons rfl rfl (AOp.move _ rfl rfl (AOps.cons rfl rfl (AOp.append_any (es := 3) (m := l.length) (len := 0) (old := []) (cells := l.flatMap eV) rfl u_22 ts_42 tzn_42 tb_42 (by decide) ni_22 rfl o10 m7 rfl (.sl (flatMap_length eV_len _)) (by exact one_flat eV_one)  (by first | omega | (simp; omega)) ?_)))))
 intro v11 H12 o13 m14 k15 j16
 have o17 := Own.appM (xs := ([] : List VT)) (ys := l) (e := eV) (by simp) o13
 refine AOps.cons rfl rfl (AOp.assign _ rfl rfl ?_)
 refine AWP.seq (AWP.region rfl ?_)
 refine AOps.cons rfl rfl (AOp.move _ rfl rfl (AOps.cons rfl rfl (AOp.assign _ rfl rfl ?_)))
 refine AWP.ret ?_
 refine ⟨_, _, Ghost.refl, .inr rfl, _, Res.one rfl rfl, ?_, m14⟩
 have hx : ((([]) ++ l) : List VT) = l := (by simp)
 exact Own.re o17 (congrArg List.length hx) (congrArg (fun l : List VT => l.flatMap eV) hx)
theorem c_CopyInts (l : List Int) (hl : l.length ≤ 1048576) : PC Try.prog 67 [.sl l.length (l.map eI)] (.sl l.length (l.map eI)) := by
 intro H0
 refine ACalls.of_body' (n := 9) rfl rfl rfl rfl ?_
 have m0 := Mono.refl H0
 refine Sr ?_
 refine A rfl rfl ?_
 refine Sr ?_
 refine C rfl (AOp.buildSlice (cells := []) rfl u_38 ts_3 tz_3 rfl rfl rfl ?_)
 intro i1 H2 n3 h4 k5
 have z6 := Mono.free m0 n3
 have m7 := Mono.new m0 n3 k5
 obtain ⟨v8, e9⟩ : ∃ v : AV, v = .slm i1 0 1 0 0 := ⟨_, rfl⟩
 have o10 : Own H0 H2 1 v8 0 [] := .inr ⟨_, _, e9, h4, z6, rfl⟩
 refine A rfl e9.symm ?_
 refine Sr ?_
 refine V rfl rfl (V rfl rfl (C rfl (AOp.append_any (es := 1) (m := l.length) (len := 0) (old := []) (cells := l.map eI) rfl u_38 ts_3 tzn_3 tb_3 (by decide) ni_38 rfl o10 m7 rfl (.sl (by simp)) (by exact one_map eI_one)  (by first | omega | (simp; omega)) ?_)))
 intro v11 H12 o13 m14 k15 j16
 have o17 := Own.app1 (xs := ([] : List Int)) (ys := l) (e := eI) (by simp) o13
 refine A rfl rfl ?_
 refine Sr ?_
 refine V rfl rfl (A rfl rfl ?_)
 refine rt_ ?_
 refine Fin.frz 2 o17 rfl m14 fun H18 m19 k20 => ?_
 refine Rr (Res.one rfl rfl) ?_ m19
 exact (congrArg (fun l : List Int => AV.sl l.length (l.map eI)) (show ((([]) ++ l) : List Int) = l from by simp))
theorem c_CopyFaces (fs : List (List Int)) (hfl : fs.length ≤ 1048576) (hfs : ∀ l ∈ fs, l.length ≤ 1048576) : PC Try.prog 47 [.sl fs.length (fs.map eF)] (.sl fs.length (fs.map eF)) := by
 intro H0
 refine ACalls.of_body' (n := 21) rfl rfl rfl rfl ?_
 have m0 := Mono.refl H0
 refine Sr ?_
 refine A rfl rfl ?_
 refine Sr ?_
 refine C rfl (AOp.buildSlice (cells := []) rfl u_23 ts_38 tz_38 rfl rfl rfl ?_)
 intro i1 H2 n3 h4 k5
 have z6 := Mono.free m0 n3
 have m7 := Mono.new m0 n3 k5
 obtain ⟨v8, e9⟩ : ∃ v : AV, v = .slm i1 0 1 0 0 := ⟨_, rfl⟩
 have o10 : Own H0 H2 1 v8 0 [] := .inr ⟨_, _, e9, h4, z6, rfl⟩
 refine A rfl e9.symm ?_
 refine AWP.seq ?_
 refine Sr ?_
 refine A rfl rfl ?_
 refine bk_ ?_
 refine AWP.loop (fun q11 fq Hq => ∃ (i : Int) (w3 : AV), q11 = (((fs.length : Int) : Int) - i).toNat ∧ fq 4 = .int .i64 i ∧ fq 0 = .sl fs.length (fs.map eF) ∧ fq 2 = .snil ∧ fq 3 = w3 ∧ Own H0 Hq 1 w3 (fs.take i.toNat).length ((fs.take i.toNat).map eF) ∧ Mono H0 Hq ∧ (0 ≤ i) ∧ (i ≤ (fs.length : Int))) (k := (((fs.length : Int) : Int) - 0).toNat) ?_ ?_
 exact ⟨0, v8, rfl, rfl, rfl, rfl, rfl, (have hx : ([] : List (List Int)) = fs.take (0 : Int).toNat := (by rfl); Own.re o10 (congrArg List.length hx) (congrArg (fun l : List (List Int) => l.map eF) hx)), m7, by omega, by omega⟩
 rintro _ f13 H12 ⟨i, w3, rfl, s14, s15, s16, s17, o18, m19, hi0, hi1⟩
 refine AWP.seq ?_
 refine Sr ?_
 refine V rfl s14 (V rfl s15 (C rfl (AOp.len (m := fs.length) rfl rfl (.inr (.inl ⟨_, rfl⟩)) u_23 (B rfl rfl rfl rfl ?_))))
 refine AOps.nil ?_
 change AWP _ _ _ _ _ _
 by_cases b20 : i < (fs.length : Int)
 refine ct_ rfl (decide_eq_true b20) ?_
 refine AWP.skip ?_
 refine AWP.seq ?_
 refine bk_ ?_
 have hq : (at_ fs i).length ≤ 1048576 := hfs _ (at_mem hi0 (by omega))
 have hq2 : (fs.take i.toNat).length ≤ fs.length := by rw [List.length_take]; omega
 refine AWP.region rfl ?_
 refine V rfl s17 (V rfl s15 (V rfl s14 (C rfl (iS_ rfl rfl rfl sl_23 (by omega) (by omega) (L rfl rfl ty_38 (ld1 (by omega) (by omega)) (C rfl (Pc («as» := [.sl (at_ fs i).length ((at_ fs i).map eI)]) rfl rfl (rfl) tf_67 (c_CopyInts _ (by omega)) ?_)))))))
 intro H21 m22
 have o23 := Own.mono o18 m22
 have m24 := m19.trans m22
 refine C rfl (AOp.buildSlice (cells := [.sl (at_ fs i).length ((at_ fs i).map eI)]) rfl u_23 ts_38 tz_38 rfl rfl rfl ?_)
 intro i25 H26 n27 h28 k29
 have o31 := Own.keep o23 k29 (Own.notnew o23 n27)
 have m33 := Mono.new m24 n27 k29
 refine C rfl (AOp.append_own (es := 1) (m := 1) (len := ((fs.take i.toNat).length)) (old := (fs.take i.toNat).map eF) (cells := [.sl (at_ fs i).length ((at_ fs i).map eI)]) rfl u_23 ts_38 tzn_38 tb_38 (by decide) ni_23 rfl o31 m33 rfl (.slm h28 rfl) (one_of rfl) (by decide) (by first | omega | (simp; omega)) ?_)
 intro v34 H35 o36 m37 k38 j39
 have o40 := Own.snoc1 (xs := ((fs.take i.toNat) : List (List Int))) (y := at_ fs i) (e := eF) (by simp) o36
 refine A rfl rfl ?_
 refine AWP.region rfl ?_
 refine V rfl s14 (B rfl rfl rfl (iadd (by omega)) (A rfl rfl ?_))
 refine AOps.nil ?_
 exact ⟨_, by omega, i + 1, v34, rfl, rfl, s15, s16, rfl, (have hx : (((fs.take i.toNat) ++ [at_ fs i]) : List (List Int)) = fs.take (i + 1).toNat := (by rw [take_step hi0 (by omega)]); Own.re o40 (congrArg List.length hx) (congrArg (fun l : List (List Int) => l.map eF) hx)), m37, by omega, by omega⟩
 refine cf_ rfl (decide_eq_false b20) ?_
 refine AWP.exit ?_
 change AWP _ _ _ _ _ _
 refine Sr ?_
 refine V rfl s17 (A rfl rfl ?_)
 refine rt_ ?_
 refine Fin.frz 2 o18 rfl m19 fun H41 m42 k43 => ?_
 refine Rr (Res.one rfl rfl) ?_ m42
 exact (congrArg (fun l : List (List Int) => AV.sl l.length (l.map eF)) (show ((fs.take i.toNat) : List (List Int)) = fs from by exact take_all (by omega)))
theorem c_CopyCageO {H0 : Heap} (vs : List VT) (fs : List (List Int)) (cr : List CrT) (hvl : vs.length ≤ 1048576) (hfl : fs.length ≤ 1048576) (hfs : ∀ l ∈ fs, l.length ≤ 1048576) (hcl : cr.length ≤ 1048576) : ACalls Try.prog 22 [.agg [.sl vs.length (vs.flatMap eV), .sl fs.length (fs.map eF), .sl cr.length (cr.flatMap eCr)]] H0 fun r H' => ∃ v, Own H0 H' 3 v (vs).length ((vs).flatMap eV) ∧ r = (.agg [v, .sl fs.length (fs.map eF), .sl cr.length (cr.flatMap eCr)]) ∧ Mono H0 H' := by
 refine ACalls.of_body' (n := 17) rfl rfl rfl rfl ?_
 have m0 := Mono.refl H0
 refine AWP.seq (AWP.region rfl ?_)
 refine AOps.cons rfl rfl (AOp.box (.agg [.sl vs.length (vs.flatMap eV), .sl fs.length (fs.map eF), .sl cr.length (cr.flatMap eCr)]) rfl rfl rfl ?_)
 intro i1 H2 n3 h4 k5
 have z6 := Mono.free m0 n3
 have m7 := Mono.new m0 n3 k5
 refine AOps.cons rfl rfl (AOp.alloc rfl tz_26 ?_)
 intro i8 H9 n10 h11 k12
 have e13 := ne_new h4 n10
 have z14 := Mono.free m7 n10
 have h15 := keep k12 (ne_new h4 n10) h4
 have m16 := Mono.new m7 n10 k12
 refine AWP.seq ?_
 refine AWP.frzP 1 h15 z6 rfl m16 fun H17 m18 k19 => ?_
 have h20 := (k19 _ (Ne.symm e13)).trans h11
 refine AWP.region rfl ?_
 refine AOps.cons rfl rfl (AOp.buildSlice (cells := []) rfl u_24 ts_53 tz_53 rfl rfl rfl ?_)
 intro i21 H22 n23 h24 k25
 have e26 := ne_new h20 n23
 have z27 := Mono.free m18 n23
 have h28 := keep k25 (ne_new h20 n23) h20
 have m29 := Mono.new m18 n23 k25
 obtain ⟨v30, e31⟩ : ∃ v : AV, v = .slm i21 0 3 0 0 := ⟨_, rfl⟩
 have o32 : Own H0 H22 3 v30 0 [] := .inr ⟨_, _, e31, h24, z27, rfl⟩
 have no33 : NotId v30 i8 := by rw [e31]; exact NotId.slm e26
 refine AOps.cons rfl rfl (AOp.assign _ rfl e31.symm ?_)
 refine AWP.seq (AWP.region rfl ?_)
 refine AOps.cons rfl rfl (AOp.move _ rfl rfl (AOps.cons rfl rfl (AOp.fieldAddrF rfl rfl fl_26_2 (AOps.cons rfl rfl (AOp.loadF _ rfl rfl ty_24 rfl (AOps.cons rfl rfl (AOp.append_any (es := 3) (m := cr.length) (len := 0) (old := []) (cells := cr.flatMap eCr) rfl u_24 ts_53 tzn_53 tb_53 (by decide) ni_24 rfl o32 m29 rfl (.sl (flatMap_length eCr_len _)) (by exact one_flat eCr_one)  (by first | omega | (simp; omega)) ?_)))))))
 intro v34 H35 o36 m37 k38 j39
 have o40 := Own.appM (xs := ([] : List CrT)) (ys := cr) (e := eCr) (by simp) o36
 have h41 := (k38 _ no33 (by rw [h28]; simp)).trans h28
 have no42 := j39 _ no33 (by rw [h28]; simp)
 refine AOps.cons rfl rfl (AOp.assign _ rfl rfl ?_)
 refine AWP.seq ?_
 refine AWP.frz 3 o40 rfl m37 fun H43 m44 k45 => ?_
 have h46 := (k45 _ no42).trans h41
 refine AWP.region_str mixed (by kernel_rfl) [(0, none), (1, none), (3, none), (4, none), (6, none), (2, some [3, 4, 6]), (5, none)] [7, 8] (by kernel_rfl) ?_
 refine STR.op rfl rfl (.inl ⟨rfl, fun H1 f' H' hf hN hM => AOp.fieldAddrF rfl ((hf 1 rfl).trans rfl) fl_26_0 ⟨rfl, hN⟩⟩) ?_
 refine STR.op rfl rfl (.inl ⟨rfl, fun H1 f' H' hf hN hM => AOp.loadF _ rfl ((hf 9 rfl).trans rfl) ty_22 rfl ⟨rfl, hN⟩⟩) ?_
 refine STR.op rfl rfl (.inl ⟨rfl, fun H1 f' H' hf hN hM => AOp.fieldAddrF rfl ((hf 1 rfl).trans rfl) fl_26_1 ⟨rfl, hN⟩⟩) ?_
 refine STR.op rfl rfl (.inl ⟨rfl, fun H1 f' H' hf hN hM => AOp.loadF _ rfl ((hf 12 rfl).trans rfl) ty_23 rfl ⟨rfl, hN⟩⟩) ?_
 refine STR.op rfl rfl (.inl ⟨rfl, fun H1 f' H' hf hN hM => AOp.move _ rfl ((hf 3 rfl).trans rfl) ⟨rfl, hN⟩⟩) ?_
 refine STR.eff rfl rfl rfl fun f47 H48 hf49 m50 => ?_
 have h51 := m50 _ _ h46
 have m52 := m44.trans m50
 refine AOp.xcall («as» := [.sl vs.length (vs.flatMap eV)]) rfl rfl (lapp (lcons ((hf49 10 rfl).trans rfl) rfl) rfl) tf_46 (c_CopyVsO _ (by omega)) ?_
 rintro v53 H54 ⟨o55, m56⟩
 have no57 : NotId v53 i8 := Own.free o55 h51
 have o58 := Own.base o55 m52
 have h59 := m56 _ _ h51
 have m60 := m52.trans m56
 refine ⟨_, rfl, .inr (RevR.cons rfl (.inl ⟨rfl, fun H1 f' H' hf hN hM => AOp.move _ rfl ((hf 3 rfl).trans rfl) ⟨rfl, hN⟩⟩) (RevR.cons rfl (.inl ⟨rfl, fun H1 f' H' hf hN hM => AOp.loadF _ rfl ((hf 12 rfl).trans rfl) ty_23 rfl ⟨rfl, hN⟩⟩) (RevR.cons rfl (.inl ⟨rfl, fun H1 f' H' hf hN hM => AOp.fieldAddrF rfl ((hf 1 rfl).trans rfl) fl_26_1 ⟨rfl, hN⟩⟩) (RevR.skip rfl (RevR.skip rfl RevR.nil))))), ?_⟩
 refine STR.op rfl rfl (.inl ⟨rfl, fun H1 f' H' hf hN hM => AOp.pcall («as» := [.sl fs.length (fs.map eF)]) rfl rfl (lapp (lcons ((hf 13 rfl).trans rfl) rfl) rfl) tf_47 (c_CopyFaces _ (by omega) (by assumption)) fun H2 m2 => ⟨rfl, hN.trans m2⟩⟩) ?_
 refine STR.done fun H61 m62 => ?_
 have h63 := m62 _ _ h59
 have o64 := Own.mono o58 m62
 have m65 := m60.trans m62
 refine AOps.cons rfl rfl (AOp.build (cells := [v53, .sl fs.length (fs.map eF), .sl (([]) ++ cr).length ((([]) ++ cr).flatMap eCr)]) rfl tz_26 pl_26 rfl (fill_own o64 rfl rfl rfl (fill_step rfl rfl rfl rfl rfl (fill_step rfl rfl rfl rfl rfl rfl))) (AOps.cons rfl rfl (AOp.store' (cells' := [v53, .sl fs.length (fs.map eF), .sl (([]) ++ cr).length ((([]) ++ cr).flatMap eCr)]) (.agg [v53, .sl fs.length (fs.map eF), .sl (([]) ++ cr).length ((([]) ++ cr).flatMap eCr)]) rfl rfl ts_26 h63 (by simp only [AV.cells, List.all_cons, List.all_nil, Own.one_ o64]; rfl) rfl rfl rfl ?_)))
 intro H66 h67 k68
 have o70 := Own.keep o64 k68 no57
 have m71 := Mono.set m65 z14 k68
 refine AWP.ret ?_
 have hx : ((vs) : List VT) = vs := (by first | rfl | simp)
 refine ⟨_, _, Ghost.refl, .inr rfl, _, Res.list1 rfl (.cell (v := .agg [v53, .sl fs.length (fs.map eF), .sl (([]) ++ cr).length ((([]) ++ cr).flatMap eCr)]) rfl ty_26 h67 rfl (.nil)), _, Own.re o70 (congrArg List.length hx) (congrArg (fun l : List VT => l.flatMap eV) hx), ?_, m71⟩
 exact (congrArg AV.agg (lc rfl (lc rfl (lc (congrArg (fun l : List CrT => AV.sl l.length (l.flatMap eCr)) (show ((([]) ++ cr) : List CrT) = cr from by first | rfl | simp)) rfl))))
end Go.Proofs.U
namespace Go.Proofs.U
open Go Go.AH Go.Proofs.T
set_option maxRecDepth 4000
set_option linter.unusedSimpArgs false
set_option linter.unusedVariables false
set_option maxHeartbeats 4000000
theorem c_PatchesO {H0 : Heap} (vs : List VT) (fs : List (List Int)) (cr : List CrT) (mid : MidC vs fs cr) (skin : Int) : ACalls Try.prog 30 [.agg [.sl vs.length (vs.flatMap eV), .sl fs.length (fs.map eF), .sl cr.length (cr.flatMap eCr)], .int .i64 skin] H0 fun r H' => ∃ v, Own H0 H' 65 v ((patR vs fs cr skin).1).length (((patR vs fs cr skin).1).flatMap ePatch) ∧ r = (.tup [v, .int .i64 ((patR vs fs cr skin).2)]) ∧ Mono H0 H' := by
 have hm1 := mid.v
 have hm2 := mid.f
 have hm3 := mid.s
 have hm4 := mid.cl
 refine ACalls.of_body' (n := 127) rfl rfl rfl rfl ?_
 have m0 := Mono.refl H0
 refine AWP.seq (AWP.region rfl ?_)
 refine AOps.cons rfl rfl (AOp.box (.agg [.sl vs.length (vs.flatMap eV), .sl fs.length (fs.map eF), .sl cr.length (cr.flatMap eCr)]) rfl rfl rfl ?_)
 intro i1 H2 n3 h4 k5
 have z6 := Mono.free m0 n3
 have m7 := Mono.new m0 n3 k5
 refine AOps.cons rfl rfl (AOp.assign (.snil) rfl rfl (AOps.cons rfl rfl (AOp.assign (.int .i64 0) rfl rfl ?_)))
 refine AWP.seq ?_
 refine AWP.seq ?_
 refine AWP.frzP 2 h4 z6 rfl m7 fun H8 m9 k10 => ?_
 refine AWP.region rfl ?_
 refine AOps.cons rfl rfl (AOp.loadF (.agg [.sl vs.length (vs.flatMap eV), .sl fs.length (fs.map eF), .sl cr.length (cr.flatMap eCr)]) rfl rfl ty_26 rfl (AOps.cons rfl rfl (AOp.pcall («as» := [.agg [.sl vs.length (vs.flatMap eV), .sl fs.length (fs.map eF), .sl cr.length (cr.flatMap eCr)]]) rfl rfl (rfl) tf_15 (c_Level vs fs cr mid.v mid.f mid.fs mid.s mid.cl mid.c) ?_)))
 intro H11 m12
 have m13 := m9.trans m12
 refine AOps.cons rfl rfl (AOp.move (.tup [.agg [.sl ((levelR vs fs cr).1.Verts).length (((levelR vs fs cr).1.Verts).flatMap eV), .sl ((levelR vs fs cr).1.Faces).length (((levelR vs fs cr).1.Faces).map eF), .sl ((levelR vs fs cr).1.Creases).length (((levelR vs fs cr).1.Creases).flatMap eCr)], .int .i64 ((levelR vs fs cr).2)]) rfl rfl (AOps.cons rfl rfl (AOp.extract (.agg [.sl ((levelR vs fs cr).1.Verts).length (((levelR vs fs cr).1.Verts).flatMap eV), .sl ((levelR vs fs cr).1.Faces).length (((levelR vs fs cr).1.Faces).map eF), .sl ((levelR vs fs cr).1.Creases).length (((levelR vs fs cr).1.Creases).flatMap eCr)]) rfl rfl rfl (AOps.cons rfl rfl (AOp.extract (.int .i64 ((levelR vs fs cr).2)) rfl rfl rfl (AOps.cons rfl rfl (AOp.alloc rfl tz_26 ?_)))))))
 intro i14 H15 n16 h17 k18
 have z19 := Mono.free m13 n16
 have m20 := Mono.new m13 n16 k18
 refine AOps.cons rfl rfl (AOp.store' (cells' := [.sl ((levelR vs fs cr).1.Verts).length (((levelR vs fs cr).1.Verts).flatMap eV), .sl ((levelR vs fs cr).1.Faces).length (((levelR vs fs cr).1.Faces).map eF), .sl ((levelR vs fs cr).1.Creases).length (((levelR vs fs cr).1.Creases).flatMap eCr)]) (.agg [.sl ((levelR vs fs cr).1.Verts).length (((levelR vs fs cr).1.Verts).flatMap eV), .sl ((levelR vs fs cr).1.Faces).length (((levelR vs fs cr).1.Faces).map eF), .sl ((levelR vs fs cr).1.Creases).length (((levelR vs fs cr).1.Creases).flatMap eCr)]) rfl rfl ts_26 h17 rfl rfl rfl rfl ?_)
 intro H21 h22 k23
 have m25 := Mono.set m20 z19 k23
 refine AOps.cons rfl rfl (AOp.assign (.int .i64 ((levelR vs fs cr).2)) rfl rfl ?_)
 refine AWP.seq ?_
 refine AWP.frzP 6 h22 z19 rfl m25 fun H26 m27 k28 => ?_
 refine AWP.region rfl ?_
 refine AOps.cons rfl rfl (AOp.move (.int .i64 ((levelR vs fs cr).2)) rfl rfl (AOps.cons rfl rfl (AOp.bin (.bool (!decide ((levelR vs fs cr).2 = 0))) rfl rfl rfl ine ?_)))
 refine AOps.nil ?_
 change AWP _ _ _ _ _ _
 by_cases b29 : (levelR vs fs cr).2 = 0
 refine AWP.condF rfl (nb (decide_eq_true b29)) ?_
 refine AWP.skip ?_
 refine AWP.seq ?_
 refine AWP.seq (AWP.region rfl ?_)
 refine AOps.cons rfl rfl (AOp.fieldAddrF rfl rfl fl_26_1 (AOps.cons rfl rfl (AOp.loadF (.sl fs.length (fs.map eF)) rfl rfl ty_23 rfl (AOps.cons rfl rfl (AOp.pcall («as» := [.sl fs.length (fs.map eF), .fn 51 []]) rfl rfl (rfl) tf_50 (c_anyF _ (by omega) (fun l hl => Nat.le_trans (mid.fs l hl) (by decide))) ?_)))))
 intro H30 m31
 have m32 := m27.trans m31
 refine AOps.nil ?_
 change AWP _ _ _ _ _ _
 rcases Bool.eq_false_or_eq_true (fs.any notF) with b33 | b33
 refine AWP.condT rfl b33 ?_
 refine AWP.seq (AWP.region rfl ?_)
 refine AOps.cons rfl rfl (AOp.assign (.snil) rfl rfl (AOps.cons rfl rfl (AOp.assign (.int .i64 14) rfl rfl ?_)))
 refine AWP.ret ?_
 have hx : ([] : List PatchT) = (patR vs fs cr skin).1 := (by rw [pat_2 b29 b33])
 refine ⟨_, _, Ghost.refl, .inr rfl, _, Res.two rfl rfl rfl, _, Own.re (Own.nil H0 _ 65) (congrArg List.length hx) (congrArg (fun l : List PatchT => l.flatMap ePatch) hx), ?_, m32⟩
 exact congrArg AV.tup (lc rfl (lc (congrArg (AV.int .i64) (show (14 : Int) = (patR vs fs cr skin).2 from by rw [pat_2 b29 b33])) rfl))
 refine AWP.condF rfl b33 ?_
 refine AWP.skip ?_
 refine AWP.seq ?_
 have hl0 := level_ok b29
 have hok := hl0.1
 have tf := topo_facts hok (by omega) mid.f mid.s
 have hel := tf.el
 have sf := sharp_facts mid.c hl0.2.1
 have hsl := sf.len
 have S := shpF mid b29 b33
 refine AWP.region rfl ?_
 refine AOps.cons rfl rfl (AOp.fieldAddrF rfl rfl fl_26_0 (AOps.cons rfl rfl (AOp.loadF (.sl vs.length (vs.flatMap eV)) rfl rfl ty_22 rfl (AOps.cons rfl rfl (AOp.len (m := vs.length) rfl rfl (.inr (.inl ⟨_, rfl⟩)) u_22 (AOps.cons rfl rfl (AOp.fieldAddrF rfl rfl fl_26_1 (AOps.cons rfl rfl (AOp.loadF (.sl fs.length (fs.map eF)) rfl rfl ty_23 rfl (AOps.cons rfl rfl (AOp.pcall («as» := [.int .i64 (vs.length : Int), .sl fs.length (fs.map eF)]) rfl rfl (rfl) tf_16 (c12 _ (by omega) (fun l hl => Nat.le_trans (mid.fs l hl) (by decide)) _ (by omega) (by omega)) ?_)))))))))))
 intro H34 m35
 have m36 := m32.trans m35
 refine AOps.cons rfl rfl (AOp.move (.tup [.agg [.sl ((buildT vs.length fs).ed).length (((buildT vs.length fs).ed).flatMap eE), .sl ((buildT vs.length fs).fan).length (((buildT vs.length fs).fan).map eF), .sl ((buildT vs.length fs).rnd).length (((buildT vs.length fs).rnd).map eBo)], .int .i64 (buildE vs.length fs)]) rfl rfl (AOps.cons rfl rfl (AOp.extract (.agg [.sl ((buildT vs.length fs).ed).length (((buildT vs.length fs).ed).flatMap eE), .sl ((buildT vs.length fs).fan).length (((buildT vs.length fs).fan).map eF), .sl ((buildT vs.length fs).rnd).length (((buildT vs.length fs).rnd).map eBo)]) rfl rfl rfl (AOps.cons rfl rfl (AOp.extract (.int .i64 (buildE vs.length fs)) rfl rfl rfl (AOps.cons rfl rfl (AOp.alloc rfl tz_35 ?_)))))))
 intro i37 H38 n39 h40 k41
 have z42 := Mono.free m36 n39
 have m43 := Mono.new m36 n39 k41
 refine AOps.cons rfl rfl (AOp.store' (cells' := [.sl ((buildT vs.length fs).ed).length (((buildT vs.length fs).ed).flatMap eE), .sl ((buildT vs.length fs).fan).length (((buildT vs.length fs).fan).map eF), .sl ((buildT vs.length fs).rnd).length (((buildT vs.length fs).rnd).map eBo)]) (.agg [.sl ((buildT vs.length fs).ed).length (((buildT vs.length fs).ed).flatMap eE), .sl ((buildT vs.length fs).fan).length (((buildT vs.length fs).fan).map eF), .sl ((buildT vs.length fs).rnd).length (((buildT vs.length fs).rnd).map eBo)]) rfl rfl ts_35 h40 rfl rfl rfl rfl ?_)
 intro H44 h45 k46
 have m48 := Mono.set m43 z42 k46
 refine AOps.cons rfl rfl (AOp.assign (.int .i64 (buildE vs.length fs)) rfl rfl ?_)
 refine AWP.seq ?_
 refine AWP.frzP 8 h45 z42 rfl m48 fun H49 m50 k51 => ?_
 refine AWP.region rfl ?_
 refine AOps.cons rfl rfl (AOp.loadF (.agg [.sl vs.length (vs.flatMap eV), .sl fs.length (fs.map eF), .sl cr.length (cr.flatMap eCr)]) rfl rfl ty_26 rfl (AOps.cons rfl rfl (AOp.loadF (.agg [.sl ((buildT vs.length fs).ed).length (((buildT vs.length fs).ed).flatMap eE), .sl ((buildT vs.length fs).fan).length (((buildT vs.length fs).fan).map eF), .sl ((buildT vs.length fs).rnd).length (((buildT vs.length fs).rnd).map eBo)]) rfl rfl ty_35 rfl (AOps.cons rfl rfl (AOp.pcall («as» := [.agg [.sl vs.length (vs.flatMap eV), .sl fs.length (fs.map eF), .sl cr.length (cr.flatMap eCr)], .agg [.sl ((buildT vs.length fs).ed).length (((buildT vs.length fs).ed).flatMap eE), .sl ((buildT vs.length fs).fan).length (((buildT vs.length fs).fan).map eF), .sl ((buildT vs.length fs).rnd).length (((buildT vs.length fs).rnd).map eBo)]]) rfl rfl (rfl) tf_17 (c_Sharp _ _ _ _ (by omega) (by omega) tf.se) ?_)))))
 intro H52 m53
 have m54 := m50.trans m53
 refine AOps.cons rfl rfl (AOp.move (.tup [.sl ((sharpR (buildT vs.length fs) cr).1).length (((sharpR (buildT vs.length fs) cr).1).map eI), .int .i64 ((sharpR (buildT vs.length fs) cr).2)]) rfl rfl (AOps.cons rfl rfl (AOp.extract (.sl ((sharpR (buildT vs.length fs) cr).1).length (((sharpR (buildT vs.length fs) cr).1).map eI)) rfl rfl rfl (AOps.cons rfl rfl (AOp.extract (.int .i64 ((sharpR (buildT vs.length fs) cr).2)) rfl rfl rfl (AOps.cons rfl rfl (AOp.assign (.sl ((sharpR (buildT vs.length fs) cr).1).length (((sharpR (buildT vs.length fs) cr).1).map eI)) rfl rfl (AOps.cons rfl rfl (AOp.assign (.int .i64 ((sharpR (buildT vs.length fs) cr).2)) rfl rfl ?_)))))))))
 refine AWP.seq ?_
 refine AWP.region_str mixed (by kernel_rfl) [(0, none), (1, none), (2, none), (3, none), (4, none), (5, none), (6, some [0, 1, 2])] [7, 8, 9] (by kernel_rfl) ?_
 refine STR.op rfl rfl (.inl ⟨rfl, fun H1 f' H' hf hN hM => AOp.loadF (.agg [.sl vs.length (vs.flatMap eV), .sl fs.length (fs.map eF), .sl cr.length (cr.flatMap eCr)]) rfl ((hf 2 rfl).trans rfl) ty_26 rfl ⟨rfl, hN⟩⟩) ?_
 refine STR.op rfl rfl (.inl ⟨rfl, fun H1 f' H' hf hN hM => AOp.loadF (.agg [.sl ((buildT vs.length fs).ed).length (((buildT vs.length fs).ed).flatMap eE), .sl ((buildT vs.length fs).fan).length (((buildT vs.length fs).fan).map eF), .sl ((buildT vs.length fs).rnd).length (((buildT vs.length fs).rnd).map eBo)]) rfl ((hf 8 rfl).trans rfl) ty_35 rfl ⟨rfl, hN⟩⟩) ?_
 refine STR.op rfl rfl (.inl ⟨rfl, fun H1 f' H' hf hN hM => AOp.move (.sl ((sharpR (buildT vs.length fs) cr).1).length (((sharpR (buildT vs.length fs) cr).1).map eI)) rfl ((hf 10 rfl).trans rfl) ⟨rfl, hN⟩⟩) ?_
 refine STR.op rfl rfl (.inl ⟨rfl, fun H1 f' H' hf hN hM => AOp.fieldAddrF rfl ((hf 2 rfl).trans rfl) fl_26_0 ⟨rfl, hN⟩⟩) ?_
 refine STR.op rfl rfl (.inl ⟨rfl, fun H1 f' H' hf hN hM => AOp.loadF (.sl vs.length (vs.flatMap eV)) rfl ((hf 46 rfl).trans rfl) ty_22 rfl ⟨rfl, hN⟩⟩) ?_
 refine STR.op rfl rfl (.inl ⟨rfl, fun H1 f' H' hf hN hM => AOp.len (m := vs.length) rfl ((hf 47 rfl).trans rfl) (.inr (.inl ⟨_, rfl⟩)) u_22 ⟨rfl, hN⟩⟩) ?_
 refine STR.eff rfl rfl rfl fun f55 H56 hf57 m58 => ?_
 have m59 := m54.trans m58
 refine AOp.makeSlice_own rfl u_102 ts_22 tz_22 tb_22 (by decide) ((hf57 48 rfl).trans rfl) ((hf57 48 rfl).trans rfl) (by omega) (by omega) m59 ?_
 intro v60 H61 o62 m63 k64 j65
 have o66 : Own H0 H61 1 v60 (List.replicate (vs.length : Int).toNat AV.snil).length ((List.replicate (vs.length : Int).toNat AV.snil).map eA) := Own.re o62 (by rw [List.length_replicate]) (by rw [List.map_replicate]; rfl)
 refine ⟨_, rfl, .inl (fun i X hX => (k64 i (by rw [hX]; simp)).trans hX), ?_⟩
 refine STR.done fun H67 m68 => ?_
 have o69 := Own.mono o66 m68
 have m70 := m63.trans m68
 refine AOps.cons rfl rfl (AOp.build (cells := [.sl vs.length (vs.flatMap eV), .sl fs.length (fs.map eF), .sl cr.length (cr.flatMap eCr), .sl ((buildT vs.length fs).ed).length (((buildT vs.length fs).ed).flatMap eE), .sl ((buildT vs.length fs).fan).length (((buildT vs.length fs).fan).map eF), .sl ((buildT vs.length fs).rnd).length (((buildT vs.length fs).rnd).map eBo), .sl ((sharpR (buildT vs.length fs) cr).1).length (((sharpR (buildT vs.length fs) cr).1).map eI), v60]) rfl tz_104 pl_104 rfl (fill_step rfl rfl rfl rfl rfl (fill_step rfl rfl rfl rfl rfl (fill_step rfl rfl rfl rfl rfl (fill_own o69 rfl rfl rfl rfl)))) (AOps.cons rfl rfl (AOp.box (.agg [.sl vs.length (vs.flatMap eV), .sl fs.length (fs.map eF), .sl cr.length (cr.flatMap eCr), .sl ((buildT vs.length fs).ed).length (((buildT vs.length fs).ed).flatMap eE), .sl ((buildT vs.length fs).fan).length (((buildT vs.length fs).fan).map eF), .sl ((buildT vs.length fs).rnd).length (((buildT vs.length fs).rnd).map eBo), .sl ((sharpR (buildT vs.length fs) cr).1).length (((sharpR (buildT vs.length fs) cr).1).map eI), v60]) rfl rfl rfl ?_)))
 intro i71 H72 n73 h74 k75
 have z76 := Mono.free m70 n73
 have o77 := Own.keep o69 k75 (Own.notnew o69 n73)
 have no78 := Own.notnew o69 n73
 have m79 := Mono.new m70 n73 k75
 refine AOps.cons rfl rfl (AOp.assign (.ptr i71 0 0) rfl rfl ?_)
 refine AWP.seq ?_
 refine AWP.seq ?_
 have oM : MOv H0 H72 [] := MOv.nil _ _
 have oG := Own.re (k := (gvalsv [] vs.length).length) (cs := (gvalsv [] vs.length).map eA) o77 (by rw [gvalsv_len, List.length_replicate]; omega) (by rw [gvalsv_nil, Int.toNat_natCast])
 skip
 refine AWP.region rfl ?_
 refine AOps.cons rfl rfl (AOp.fieldAddrF rfl rfl fl_35_0 (AOps.cons rfl rfl (AOp.loadF (.sl ((buildT vs.length fs).ed).length (((buildT vs.length fs).ed).flatMap eE)) rfl rfl ty_32 rfl (AOps.cons rfl rfl (AOp.len (m := ((buildT vs.length fs).ed).length) rfl rfl (.inr (.inl ⟨_, rfl⟩)) u_32 (AOps.cons rfl rfl (AOp.move (.int .i64 0) rfl rfl ?_)))))))
 refine AWP.block ?_
 refine AWP.loop (fun q80 fq Hq => ∃ (i : Int) (L : List MEv) (w12_7 : AV), q80 = (((buildT vs.length fs).ed.length : Int) - i).toNat ∧ fq 55 = .int .i64 i ∧ fq 1 = .int .i64 skin ∧ fq 2 = .fptr [.sl vs.length (vs.flatMap eV), .sl fs.length (fs.map eF), .sl cr.length (cr.flatMap eCr)] 0 ∧ fq 4 = .snil ∧ fq 5 = .int .i64 0 ∧ fq 10 = .sl ((sharpR (buildT vs.length fs) cr).1).length (((sharpR (buildT vs.length fs) cr).1).map eI) ∧ fq 12 = .ptr i71 0 0 ∧ fq 53 = .sl ((buildT vs.length fs).ed).length (((buildT vs.length fs).ed).flatMap eE) ∧ fq 54 = .int .i64 ((((buildT vs.length fs).ed).length) : Int) ∧ Own H0 Hq 1 w12_7 (gvalsv L vs.length).length ((gvalsv L vs.length).map eA) ∧ NotId w12_7 i71 ∧ MOv H0 Hq L ∧ NotIdMv L i71 ∧ SepMv L w12_7 ∧ Hq i71 = some (.row 0 ([.sl vs.length (vs.flatMap eV), .sl fs.length (fs.map eF), .sl cr.length (cr.flatMap eCr), .sl ((buildT vs.length fs).ed).length (((buildT vs.length fs).ed).flatMap eE), .sl ((buildT vs.length fs).fan).length (((buildT vs.length fs).fan).map eF), .sl ((buildT vs.length fs).rnd).length (((buildT vs.length fs).rnd).map eBo), .sl ((sharpR (buildT vs.length fs) cr).1).length (((sharpR (buildT vs.length fs) cr).1).map eI), w12_7])) ∧ Mono H0 Hq ∧ (0 ≤ i) ∧ (i ≤ ((buildT vs.length fs).ed.length : Int)) ∧ (∀ x : Int, (getMv L x).2 = hdU vs (buildT vs.length fs).ed (sharpR (buildT vs.length fs) cr).1 i x)) (k := (((buildT vs.length fs).ed.length : Int) - 0).toNat) ?_ ?_
 exact ⟨0, ([] : List MEv), v60, rfl, rfl, rfl, rfl, rfl, rfl, rfl, rfl, rfl, rfl, (have hx : ((gvalsv [] vs.length) : List AV) = gvalsv ([] : List MEv) vs.length := (by first | rfl | simp); Own.re oG (congrArg List.length hx) (congrArg (fun l : List AV => l.map eA) hx)), no78, oM, (NotIdMv.nil _), (SepMv.nil _), h74, m79, by omega, by omega, by intro x; rfl⟩
 rintro _ f82 H81 ⟨i, L, w12_7, rfl, s83, s84, s85, s86, s87, s88, s89, s90, s91, o92, no93, o94, no95, sp96, h97, m98, hi0, hi1, hG⟩
 refine AWP.seq (AWP.region rfl ?_)
 refine AOps.cons rfl rfl (AOp.bin (.bool (decide (i < ((((buildT vs.length fs).ed).length) : Int)))) rfl s83 s91 rfl ?_)
 refine AWP.seq ?_
 by_cases b99 : i < ((((buildT vs.length fs).ed).length) : Int)
 refine AWP.condT rfl (decide_eq_true b99) ?_
 refine AWP.skip ?_
 refine AWP.seq ?_
 refine AWP.block ?_
 refine AWP.seq (AWP.region rfl ?_)
 refine AOps.cons rfl rfl (AOp.move (.int .i64 i) rfl s83 (AOps.cons rfl rfl (AOp.indexAddrS rfl s90 s83 sl_32 (by omega) (by omega) (AOps.cons rfl rfl (AOp.loadF (.agg [.int .i64 ((at_ ((buildT vs.length fs).ed) i).A), .int .i64 ((at_ ((buildT vs.length fs).ed) i).B), .int .i64 ((at_ ((buildT vs.length fs).ed) i).F), .int .i64 ((at_ ((buildT vs.length fs).ed) i).G)]) rfl rfl ty_47 (ldM eE_len (by omega) (by omega)) (AOps.cons rfl rfl (AOp.alloc rfl tz_47 ?_)))))))
 intro i100 H101 n102 h103 k104
 have e105 := ne_new h97 n102
 have z106 := Mono.free m98 n102
 have h107 := keep k104 (ne_new h97 n102) h97
 have o108 := Own.keep o92 k104 (Own.notnew o92 n102)
 have no109 := Own.notnew o92 n102
 have o110 := MOv.keep o94 k104 (MOv.notnew o94 n102)
 have no111 := MOv.notnew o94 n102
 have m112 := Mono.new m98 n102 k104
 refine AOps.cons rfl rfl (AOp.assign (.int .i64 i) rfl rfl (AOps.cons rfl rfl (AOp.store' (cells' := [.int .i64 ((at_ ((buildT vs.length fs).ed) i).A), .int .i64 ((at_ ((buildT vs.length fs).ed) i).B), .int .i64 ((at_ ((buildT vs.length fs).ed) i).F), .int .i64 ((at_ ((buildT vs.length fs).ed) i).G)]) (.agg [.int .i64 ((at_ ((buildT vs.length fs).ed) i).A), .int .i64 ((at_ ((buildT vs.length fs).ed) i).B), .int .i64 ((at_ ((buildT vs.length fs).ed) i).F), .int .i64 ((at_ ((buildT vs.length fs).ed) i).G)]) rfl rfl ts_47 h103 rfl rfl rfl rfl ?_)))
 intro H113 h114 k115
 have h116 := keep k115 e105 h107
 have o118 := Own.keep o108 k115 no109
 have o119 := MOv.keep o110 k115 no111
 have m120 := Mono.set m112 z106 k115
 refine AWP.seq ?_
 refine AWP.frzP 14 h114 z106 rfl m120 fun H121 m122 k123 => ?_
 have h124 := (k123 _ e105).trans h116
 have o125 := Own.keep o118 k123 no109
 have o126 := MOv.keep o119 k123 no111
 have hek := tf.ab _ (at_mem (l := (buildT vs.length fs).ed) hi0 (by omega))
 refine AWP.region rfl ?_
 refine AOps.cons rfl rfl (AOp.move (.sl ((sharpR (buildT vs.length fs) cr).1).length (((sharpR (buildT vs.length fs) cr).1).map eI)) rfl s88 (AOps.cons rfl rfl (AOp.move (.int .i64 i) rfl rfl (AOps.cons rfl rfl (AOp.indexAddrS rfl rfl rfl sl_38 (by omega) (by omega) (AOps.cons rfl rfl (AOp.loadF (.int .i64 (at_ ((sharpR (buildT vs.length fs) cr).1) i)) rfl rfl ty_3 (ld1 (by omega) (by omega)) (AOps.cons rfl rfl (AOp.bin (.bool (!decide (at_ ((sharpR (buildT vs.length fs) cr).1) i = 0))) rfl rfl rfl ine ?_)))))))))
 refine AOps.nil ?_
 change AWP _ _ _ _ _ _
 by_cases b127 : at_ ((sharpR (buildT vs.length fs) cr).1) i = 0
 refine AWP.condF rfl (nb (decide_eq_true b127)) ?_
 refine AWP.skip ?_
 refine AWP.region rfl ?_
 refine AOps.cons rfl rfl (AOp.bin (.int .i64 (i + 1)) rfl s83 rfl (iadd (by omega)) (AOps.cons rfl rfl (AOp.move (.int .i64 (i + 1)) rfl rfl ?_)))
 refine AOps.nil ?_
 exact ⟨_, by omega, i + 1, L, w12_7, rfl, rfl, s84, s85, s86, s87, s88, s89, s90, s91, o125, no93, o126, no95, sp96, h124, m122, by omega, by omega, by exact hd_Z hi0 b127 hG⟩
 refine AWP.condT rfl (nb (decide_eq_false b127)) ?_
 refine AWP.seq ?_
 have hl1 := hdU_len (vs := vs) (ed := (buildT vs.length fs).ed) (sh := (sharpR (buildT vs.length fs) cr).1) (k := i) (at_ (buildT vs.length fs).ed i).A
 rw [← hG] at hl1
 refine AWP.region_str mixed (by kernel_rfl) [(0, none), (1, none), (2, none), (3, none), (4, none), (5, none), (6, none), (7, none), (8, none), (9, none), (10, none), (11, none), (12, none), (13, none), (14, none), (15, none), (16, none), (17, none), (18, none), (19, none), (20, some [0, 1, 2, 3, 4, 5, 6, 7, 8, 9, 10, 11, 12, 13]), (21, some [0, 1, 2, 3, 4, 5])] [22, 23] (by kernel_rfl) ?_
 refine STR.op rfl rfl (.inl ⟨rfl, fun H1 f' H' hf hN hM => AOp.move (.ptr i71 0 0) rfl ((hf 12 rfl).trans s89) ⟨rfl, hN⟩⟩) ?_
 refine STR.op rfl rfl (.inl ⟨rfl, fun H1 f' H' hf hN hM => AOp.nilCheck (.ptr i71 0 0) rfl ((hf 65 rfl).trans rfl) rfl ⟨rfl, hN⟩⟩) ?_
 refine STR.op rfl rfl (.inl ⟨rfl, fun H1 f' H' hf hN hM => AOp.fieldAddr rfl ((hf 66 rfl).trans rfl) fl_104_3 ⟨rfl, hN⟩ (hid := ⟨_, (hM _ _ h124)⟩)⟩) ?_
 refine STR.op rfl rfl (.inl ⟨rfl, fun H1 f' H' hf hN hM => AOp.load (w12_7) rfl ((hf 67 rfl).trans rfl) ty_102 (hM _ _ h124) rfl ⟨rfl, hN⟩⟩) ?_
 refine STR.op rfl rfl (.inl ⟨rfl, fun H1 f' H' hf hN hM => AOp.fieldAddrF rfl ((hf 14 rfl).trans rfl) fl_47_0 ⟨rfl, hN⟩⟩) ?_
 refine STR.op rfl rfl (.inl ⟨rfl, fun H1 f' H' hf hN hM => AOp.loadF (.int .i64 ((at_ ((buildT vs.length fs).ed) i).A)) rfl ((hf 69 rfl).trans rfl) ty_3 rfl ⟨rfl, hN⟩⟩) ?_
 refine STR.op rfl rfl (.inl ⟨rfl, fun H1 f' H' hf hN hM => AOp.move (.ptr i71 0 0) rfl ((hf 12 rfl).trans s89) ⟨rfl, hN⟩⟩) ?_
 refine STR.op rfl rfl (.inl ⟨rfl, fun H1 f' H' hf hN hM => AOp.nilCheck (.ptr i71 0 0) rfl ((hf 71 rfl).trans rfl) rfl ⟨rfl, hN⟩⟩) ?_
 refine STR.op rfl rfl (.inl ⟨rfl, fun H1 f' H' hf hN hM => AOp.fieldAddr rfl ((hf 72 rfl).trans rfl) fl_104_3 ⟨rfl, hN⟩ (hid := ⟨_, (hM _ _ h124)⟩)⟩) ?_
 refine STR.op rfl rfl (.inl ⟨rfl, fun H1 f' H' hf hN hM => AOp.load (w12_7) rfl ((hf 73 rfl).trans rfl) ty_102 (hM _ _ h124) rfl ⟨rfl, hN⟩⟩) ?_
 refine STR.op rfl rfl (.inl ⟨rfl, fun H1 f' H' hf hN hM => AOp.fieldAddrF rfl ((hf 14 rfl).trans rfl) fl_47_0 ⟨rfl, hN⟩⟩) ?_
 refine STR.op rfl rfl (.inl ⟨rfl, fun H1 f' H' hf hN hM => AOp.loadF (.int .i64 ((at_ ((buildT vs.length fs).ed) i).A)) rfl ((hf 75 rfl).trans rfl) ty_3 rfl ⟨rfl, hN⟩⟩) ?_
 obtain ⟨i128, ver129, e130, h131, _, _⟩ := Own.pos o125 (by first | omega | (rw [gvalsv_len]; omega))
 refine STR.op rfl rfl (.inl ⟨rfl, fun H1 f' H' hf hN hM => AOp.indexAddrO rfl (Eq.trans ((hf 74 rfl).trans rfl) e130) ((hf 76 rfl).trans rfl) sl_102 (by first | omega | (rw [gvalsv_len]; omega)) (by first | omega | (rw [gvalsv_len]; omega)) (hM _ _ h131) ⟨rfl, hN⟩⟩) ?_
 obtain ⟨w132, hw133⟩ : ∃ w, w = (getMv L ((at_ ((buildT vs.length fs).ed) i).A)).1 := ⟨_, rfl⟩
 obtain ⟨oA134, oB135, oC136⟩ := MOv.take o126 ((at_ ((buildT vs.length fs).ed) i).A)
 rw [← hw133] at oA134 oC136
 have no137 := NotIdMv.get no95 ((at_ ((buildT vs.length fs).ed) i).A)
 rw [← hw133] at no137
 have no138 := NotIdMv.rest no95 ((at_ ((buildT vs.length fs).ed) i).A)
 have sp139 := SepMv.get sp96 ((at_ ((buildT vs.length fs).ed) i).A)
 rw [← hw133] at sp139
 have sp140 := SepMv.rest sp96 ((at_ ((buildT vs.length fs).ed) i).A)
 refine STR.op rfl rfl (.inl ⟨rfl, fun H1 f' H' hf hN hM => AOp.load (w132) rfl ((hf 77 rfl).trans rfl) ty_22 (hM _ _ h131) (by rw [hw133]; exact gldv (by omega) (by omega)) ⟨rfl, hN⟩⟩) ?_
 refine STR.op rfl rfl (.inl ⟨rfl, fun H1 f' H' hf hN hM => AOp.fieldAddrF rfl ((hf 2 rfl).trans s85) fl_26_0 ⟨rfl, hN⟩⟩) ?_
 refine STR.op rfl rfl (.inl ⟨rfl, fun H1 f' H' hf hN hM => AOp.loadF (.sl vs.length (vs.flatMap eV)) rfl ((hf 79 rfl).trans rfl) ty_22 rfl ⟨rfl, hN⟩⟩) ?_
 refine STR.op rfl rfl (.inl ⟨rfl, fun H1 f' H' hf hN hM => AOp.fieldAddrF rfl ((hf 14 rfl).trans rfl) fl_47_1 ⟨rfl, hN⟩⟩) ?_
 refine STR.op rfl rfl (.inl ⟨rfl, fun H1 f' H' hf hN hM => AOp.loadF (.int .i64 ((at_ ((buildT vs.length fs).ed) i).B)) rfl ((hf 81 rfl).trans rfl) ty_3 rfl ⟨rfl, hN⟩⟩) ?_
 refine STR.op rfl rfl (.inl ⟨rfl, fun H1 f' H' hf hN hM => AOp.indexAddrS rfl ((hf 80 rfl).trans rfl) ((hf 82 rfl).trans rfl) sl_22 (by omega) (by omega) ⟨rfl, hN⟩⟩) ?_
 refine STR.op rfl rfl (.inl ⟨rfl, fun H1 f' H' hf hN hM => AOp.loadF (.agg (eV (at_ vs ((at_ ((buildT vs.length fs).ed) i).B)))) rfl ((hf 83 rfl).trans rfl) ty_42 (ldM eV_len (by omega) (by omega)) ⟨rfl, hN⟩⟩) ?_
 refine STR.eff rfl rfl rfl fun f141 H142 hf143 m144 => ?_
 have h145 := m144 _ _ h124
 have o146 := Own.mono o125 m144
 have o147 := MOv.mono oB135 m144
 have o148 := Own.mono oA134 m144
 have m149 := m122.trans m144
 refine AOp.buildSlice (cells := (eV (at_ vs ((at_ ((buildT vs.length fs).ed) i).B)))) rfl u_22 ts_42 tz_42 rfl (lconsP ((hf143 84 rfl).trans rfl) rfl) rfl ?_
 intro i150 H151 n152 h153 k154
 have h157 := keep k154 (ne_new h145 n152) h145
 have o158 := Own.keep o146 k154 (Own.notnew o146 n152)
 have o160 := MOv.keep o147 k154 (MOv.notnew o147 n152)
 have o162 := Own.keep o148 k154 (Own.notnew o148 n152)
 have m164 := Mono.new m149 n152 k154
 refine ⟨_, rfl, .inl (Mono.new (Mono.refl _) n152 k154), ?_⟩
 refine STR.eff rfl rfl rfl fun f165 H166 hf167 m168 => ?_
 have h169 := m168 _ _ h157
 have h170 := m168 _ _ h153
 have o171 := Own.mono o158 m168
 have o172 := MOv.mono o160 m168
 have o173 := Own.mono o162 m168
 have m174 := m164.trans m168
 refine AOp.append_own (es := 3) (m := 1) (len := (((getMv L ((at_ ((buildT vs.length fs).ed) i).A)).2).length)) (old := ((getMv L ((at_ ((buildT vs.length fs).ed) i).A)).2).flatMap eV) (cells := (eV (at_ vs ((at_ ((buildT vs.length fs).ed) i).B)))) rfl u_22 ts_42 tzn_42 tb_42 (by decide) ni_22 ((hf167 78 rfl).trans rfl) o173 m174 ((hf167 85 rfl).trans rfl) (.slm h170 rfl) (one_of rfl) (by decide) (by first | omega | (simp only [List.length_append, List.length_cons, List.length_nil]; omega)) ?_
 intro v175 H176 o177 m178 k179 j180
 have o181 := Own.snocM (xs := (((getMv L ((at_ ((buildT vs.length fs).ed) i).A)).2) : List VT)) (y := (at_ vs ((at_ ((buildT vs.length fs).ed) i).B))) (e := eV) (by simp) o177
 have h182 := (k179 _ no137 (by rw [h169]; simp)).trans h169
 have no183 := j180 _ no137 (by rw [h169]; simp)
 have sp185 := Own.sep o171 (Sep.symm sp139) j180
 have o184 := Own.stay o171 (Sep.symm sp139) k179
 have sp187 := MOv.sep o172 oC136 j180
 have o186 := MOv.stay o172 oC136 k179
 refine ⟨_, rfl, .inr (RevR.skip rfl (RevR.skip rfl (RevR.skip rfl (RevR.skip rfl (RevR.skip rfl (RevR.skip rfl (RevR.skip rfl (RevR.skip rfl (RevR.skip rfl (RevR.skip rfl (RevR.skip rfl (RevR.skip rfl (RevR.skip rfl (RevR.skip rfl (RevR.skip rfl (RevR.cons rfl (.inl ⟨rfl, fun H1 f' H' hf hN hM => AOp.loadF (.int .i64 ((at_ ((buildT vs.length fs).ed) i).A)) rfl ((hf 69 rfl).trans rfl) ty_3 rfl ⟨rfl, hN⟩⟩) (RevR.cons rfl (.inl ⟨rfl, fun H1 f' H' hf hN hM => AOp.fieldAddrF rfl ((hf 14 rfl).trans rfl) fl_47_0 ⟨rfl, hN⟩⟩) (RevR.cons rfl (.inl ⟨rfl, fun H1 f' H' hf hN hM => AOp.load (w12_7) rfl ((hf 67 rfl).trans rfl) ty_102 (hM _ _ h182) rfl ⟨rfl, hN⟩⟩) (RevR.cons rfl (.inl ⟨rfl, fun H1 f' H' hf hN hM => AOp.fieldAddr rfl ((hf 66 rfl).trans rfl) fl_104_3 ⟨rfl, hN⟩ (hid := ⟨_, (hM _ _ h182)⟩)⟩) (RevR.cons rfl (.inl ⟨rfl, fun H1 f' H' hf hN hM => AOp.nilCheck (.ptr i71 0 0) rfl ((hf 65 rfl).trans rfl) rfl ⟨rfl, hN⟩⟩) (RevR.cons rfl (.inl ⟨rfl, fun H1 f' H' hf hN hM => AOp.move (.ptr i71 0 0) rfl ((hf 12 rfl).trans s89) ⟨rfl, hN⟩⟩) RevR.nil))))))))))))))))))))), ?_⟩
 refine STR.done fun H188 m189 => ?_
 have h190 := m189 _ _ h182
 have o191 := Own.mono o184 m189
 have o192 := MOv.mono o186 m189
 have o193 := Own.mono o181 m189
 have m194 := m178.trans m189
 obtain ⟨i195, ver196, e197, h198, _, _⟩ := Own.pos o191 (by first | omega | (rw [gvalsv_len]; omega))
 refine AOps.cons rfl rfl (AOp.indexAddrO rfl (Eq.trans rfl e197) rfl sl_102 (by first | omega | (rw [gvalsv_len]; omega)) (by first | omega | (rw [gvalsv_len]; omega)) h198 (AOps.cons rfl rfl (AOp.storeO (cells' := ((gvalsv L vs.length).set ((at_ ((buildT vs.length fs).ed) i).A).toNat v175).map eA) rfl rfl o193 ts_22 (Own.at_ e197 o191).1 (blelen (by rw [List.length_map]) (by rw [gvalsv_len]; omega)) (wr_set1 (e := eA) (by omega) (by rw [gvalsv_len]; omega)) ?_)))
 intro H199 h200 k201
 have h202 := (k201 _ (NotId.ne no93 e197)).trans h190
 have o203 := Own.store e197 o191 h200 (len' := ((gvalsv L vs.length).set ((at_ ((buildT vs.length fs).ed) i).A).toNat v175).length) (by rw [List.length_set]) (by rw [List.length_map, Nat.mul_one, List.length_set])
 have m204 := Mono.set m194 (Own.at_ e197 o191).2.1 k201
 have o205 := MOv.stay o192 sp140 (fun i hi _ => k201 i (NotId.ne hi e197))
 have o206 := Own.stay o193 (Sep.symm sp185) (fun i hi _ => k201 i (NotId.ne hi e197))
 have o207 := MOv.put (L := L) o205 o206 sp187
 have hg208 := gvalsv_set (L := L) (n := vs.length) (x := (at_ ((buildT vs.length fs).ed) i).A) (w := v175) (xs := (((getMv L ((at_ ((buildT vs.length fs).ed) i).A)).2) ++ [(at_ vs ((at_ ((buildT vs.length fs).ed) i).B))])) (by omega) (by omega)
 have o209 := Own.re o203 (congrArg List.length hg208) (congrArg (fun l : List AV => l.map eA) hg208)
 have no210 := NotIdMv.put (xs := (((getMv L ((at_ ((buildT vs.length fs).ed) i).A)).2) ++ [(at_ vs ((at_ ((buildT vs.length fs).ed) i).B))])) no138 no183
 have sp211 := SepMv.put_ (xs := (((getMv L ((at_ ((buildT vs.length fs).ed) i).A)).2) ++ [(at_ vs ((at_ ((buildT vs.length fs).ed) i).B))])) sp140 (Sep.symm sp185)
 refine AOps.nil ?_
 change AWP _ _ _ _ _ _
 have hG1 := hd_A (w := v175) (xs := (((getMv L ((at_ ((buildT vs.length fs).ed) i).A)).2) ++ [(at_ vs ((at_ ((buildT vs.length fs).ed) i).B))])) hG rfl
 have hl2 := hdM_len (vs := vs) (ed := (buildT vs.length fs).ed) (sh := (sharpR (buildT vs.length fs) cr).1) (k := i) (at_ (buildT vs.length fs).ed i).B
 rw [← hG1] at hl2
 skip
 refine AWP.region_str mixed (by kernel_rfl) [(0, none), (1, none), (2, none), (3, none), (4, none), (5, none), (6, none), (7, none), (8, none), (9, none), (10, none), (11, none), (12, none), (13, none), (14, none), (15, none), (16, none), (17, none), (18, none), (19, none), (20, some [0, 1, 2, 3, 4, 5, 6, 7, 8, 9, 10, 11, 12, 13]), (21, some [0, 1, 2, 3, 4, 5])] [22, 23] (by kernel_rfl) ?_
 refine STR.op rfl rfl (.inl ⟨rfl, fun H1 f' H' hf hN hM => AOp.move (.ptr i71 0 0) rfl ((hf 12 rfl).trans s89) ⟨rfl, hN⟩⟩) ?_
 refine STR.op rfl rfl (.inl ⟨rfl, fun H1 f' H' hf hN hM => AOp.nilCheck (.ptr i71 0 0) rfl ((hf 88 rfl).trans rfl) rfl ⟨rfl, hN⟩⟩) ?_
 refine STR.op rfl rfl (.inl ⟨rfl, fun H1 f' H' hf hN hM => AOp.fieldAddr rfl ((hf 89 rfl).trans rfl) fl_104_3 ⟨rfl, hN⟩ (hid := ⟨_, (hM _ _ h202)⟩)⟩) ?_
 refine STR.op rfl rfl (.inl ⟨rfl, fun H1 f' H' hf hN hM => AOp.load (w12_7) rfl ((hf 90 rfl).trans rfl) ty_102 (hM _ _ h202) rfl ⟨rfl, hN⟩⟩) ?_
 refine STR.op rfl rfl (.inl ⟨rfl, fun H1 f' H' hf hN hM => AOp.fieldAddrF rfl ((hf 14 rfl).trans rfl) fl_47_1 ⟨rfl, hN⟩⟩) ?_
 refine STR.op rfl rfl (.inl ⟨rfl, fun H1 f' H' hf hN hM => AOp.loadF (.int .i64 ((at_ ((buildT vs.length fs).ed) i).B)) rfl ((hf 92 rfl).trans rfl) ty_3 rfl ⟨rfl, hN⟩⟩) ?_
 refine STR.op rfl rfl (.inl ⟨rfl, fun H1 f' H' hf hN hM => AOp.move (.ptr i71 0 0) rfl ((hf 12 rfl).trans s89) ⟨rfl, hN⟩⟩) ?_
 refine STR.op rfl rfl (.inl ⟨rfl, fun H1 f' H' hf hN hM => AOp.nilCheck (.ptr i71 0 0) rfl ((hf 94 rfl).trans rfl) rfl ⟨rfl, hN⟩⟩) ?_
 refine STR.op rfl rfl (.inl ⟨rfl, fun H1 f' H' hf hN hM => AOp.fieldAddr rfl ((hf 95 rfl).trans rfl) fl_104_3 ⟨rfl, hN⟩ (hid := ⟨_, (hM _ _ h202)⟩)⟩) ?_
 refine STR.op rfl rfl (.inl ⟨rfl, fun H1 f' H' hf hN hM => AOp.load (w12_7) rfl ((hf 96 rfl).trans rfl) ty_102 (hM _ _ h202) rfl ⟨rfl, hN⟩⟩) ?_
 refine STR.op rfl rfl (.inl ⟨rfl, fun H1 f' H' hf hN hM => AOp.fieldAddrF rfl ((hf 14 rfl).trans rfl) fl_47_1 ⟨rfl, hN⟩⟩) ?_
 refine STR.op rfl rfl (.inl ⟨rfl, fun H1 f' H' hf hN hM => AOp.loadF (.int .i64 ((at_ ((buildT vs.length fs).ed) i).B)) rfl ((hf 98 rfl).trans rfl) ty_3 rfl ⟨rfl, hN⟩⟩) ?_
 obtain ⟨i212, ver213, e214, h215, _, _⟩ := Own.pos o209 (by first | omega | (rw [gvalsv_len]; omega))
 refine STR.op rfl rfl (.inl ⟨rfl, fun H1 f' H' hf hN hM => AOp.indexAddrO rfl (Eq.trans ((hf 97 rfl).trans rfl) e214) ((hf 99 rfl).trans rfl) sl_102 (by first | omega | (rw [gvalsv_len]; omega)) (by first | omega | (rw [gvalsv_len]; omega)) (hM _ _ h215) ⟨rfl, hN⟩⟩) ?_
 obtain ⟨w216, hw217⟩ : ∃ w, w = (getMv (putMv L ((at_ ((buildT vs.length fs).ed) i).A) v175 (((getMv L ((at_ ((buildT vs.length fs).ed) i).A)).2) ++ [(at_ vs ((at_ ((buildT vs.length fs).ed) i).B))])) ((at_ ((buildT vs.length fs).ed) i).B)).1 := ⟨_, rfl⟩
 obtain ⟨oA218, oB219, oC220⟩ := MOv.take o207 ((at_ ((buildT vs.length fs).ed) i).B)
 rw [← hw217] at oA218 oC220
 have no221 := NotIdMv.get no210 ((at_ ((buildT vs.length fs).ed) i).B)
 rw [← hw217] at no221
 have no222 := NotIdMv.rest no210 ((at_ ((buildT vs.length fs).ed) i).B)
 have sp223 := SepMv.get sp211 ((at_ ((buildT vs.length fs).ed) i).B)
 rw [← hw217] at sp223
 have sp224 := SepMv.rest sp211 ((at_ ((buildT vs.length fs).ed) i).B)
 refine STR.op rfl rfl (.inl ⟨rfl, fun H1 f' H' hf hN hM => AOp.load (w216) rfl ((hf 100 rfl).trans rfl) ty_22 (hM _ _ h215) (by rw [hw217]; exact gldv (by omega) (by omega)) ⟨rfl, hN⟩⟩) ?_
 refine STR.op rfl rfl (.inl ⟨rfl, fun H1 f' H' hf hN hM => AOp.fieldAddrF rfl ((hf 2 rfl).trans s85) fl_26_0 ⟨rfl, hN⟩⟩) ?_
 refine STR.op rfl rfl (.inl ⟨rfl, fun H1 f' H' hf hN hM => AOp.loadF (.sl vs.length (vs.flatMap eV)) rfl ((hf 102 rfl).trans rfl) ty_22 rfl ⟨rfl, hN⟩⟩) ?_
 refine STR.op rfl rfl (.inl ⟨rfl, fun H1 f' H' hf hN hM => AOp.fieldAddrF rfl ((hf 14 rfl).trans rfl) fl_47_0 ⟨rfl, hN⟩⟩) ?_
 refine STR.op rfl rfl (.inl ⟨rfl, fun H1 f' H' hf hN hM => AOp.loadF (.int .i64 ((at_ ((buildT vs.length fs).ed) i).A)) rfl ((hf 104 rfl).trans rfl) ty_3 rfl ⟨rfl, hN⟩⟩) ?_
 refine STR.op rfl rfl (.inl ⟨rfl, fun H1 f' H' hf hN hM => AOp.indexAddrS rfl ((hf 103 rfl).trans rfl) ((hf 105 rfl).trans rfl) sl_22 (by omega) (by omega) ⟨rfl, hN⟩⟩) ?_
 refine STR.op rfl rfl (.inl ⟨rfl, fun H1 f' H' hf hN hM => AOp.loadF (.agg (eV (at_ vs ((at_ ((buildT vs.length fs).ed) i).A)))) rfl ((hf 106 rfl).trans rfl) ty_42 (ldM eV_len (by omega) (by omega)) ⟨rfl, hN⟩⟩) ?_
 refine STR.eff rfl rfl rfl fun f225 H226 hf227 m228 => ?_
 have h229 := m228 _ _ h202
 have o230 := Own.mono o209 m228
 have o231 := MOv.mono oB219 m228
 have o232 := Own.mono oA218 m228
 have m233 := m204.trans m228
 refine AOp.buildSlice (cells := (eV (at_ vs ((at_ ((buildT vs.length fs).ed) i).A)))) rfl u_22 ts_42 tz_42 rfl (lconsP ((hf227 107 rfl).trans rfl) rfl) rfl ?_
 intro i234 H235 n236 h237 k238
 have h241 := keep k238 (ne_new h229 n236) h229
 have o242 := Own.keep o230 k238 (Own.notnew o230 n236)
 have o244 := MOv.keep o231 k238 (MOv.notnew o231 n236)
 have o246 := Own.keep o232 k238 (Own.notnew o232 n236)
 have m248 := Mono.new m233 n236 k238
 refine ⟨_, rfl, .inl (Mono.new (Mono.refl _) n236 k238), ?_⟩
 refine STR.eff rfl rfl rfl fun f249 H250 hf251 m252 => ?_
 have h253 := m252 _ _ h241
 have h254 := m252 _ _ h237
 have o255 := Own.mono o242 m252
 have o256 := MOv.mono o244 m252
 have o257 := Own.mono o246 m252
 have m258 := m248.trans m252
 refine AOp.append_own (es := 3) (m := 1) (len := (((getMv (putMv L ((at_ ((buildT vs.length fs).ed) i).A) v175 (((getMv L ((at_ ((buildT vs.length fs).ed) i).A)).2) ++ [(at_ vs ((at_ ((buildT vs.length fs).ed) i).B))])) ((at_ ((buildT vs.length fs).ed) i).B)).2).length)) (old := ((getMv (putMv L ((at_ ((buildT vs.length fs).ed) i).A) v175 (((getMv L ((at_ ((buildT vs.length fs).ed) i).A)).2) ++ [(at_ vs ((at_ ((buildT vs.length fs).ed) i).B))])) ((at_ ((buildT vs.length fs).ed) i).B)).2).flatMap eV) (cells := (eV (at_ vs ((at_ ((buildT vs.length fs).ed) i).A)))) rfl u_22 ts_42 tzn_42 tb_42 (by decide) ni_22 ((hf251 101 rfl).trans rfl) o257 m258 ((hf251 108 rfl).trans rfl) (.slm h254 rfl) (one_of rfl) (by decide) (by first | omega | (simp only [List.length_append, List.length_cons, List.length_nil]; omega)) ?_
 intro v259 H260 o261 m262 k263 j264
 have o265 := Own.snocM (xs := (((getMv (putMv L ((at_ ((buildT vs.length fs).ed) i).A) v175 (((getMv L ((at_ ((buildT vs.length fs).ed) i).A)).2) ++ [(at_ vs ((at_ ((buildT vs.length fs).ed) i).B))])) ((at_ ((buildT vs.length fs).ed) i).B)).2) : List VT)) (y := (at_ vs ((at_ ((buildT vs.length fs).ed) i).A))) (e := eV) (by simp) o261
 have h266 := (k263 _ no221 (by rw [h253]; simp)).trans h253
 have no267 := j264 _ no221 (by rw [h253]; simp)
 have sp269 := Own.sep o255 (Sep.symm sp223) j264
 have o268 := Own.stay o255 (Sep.symm sp223) k263
 have sp271 := MOv.sep o256 oC220 j264
 have o270 := MOv.stay o256 oC220 k263
 refine ⟨_, rfl, .inr (RevR.skip rfl (RevR.skip rfl (RevR.skip rfl (RevR.skip rfl (RevR.skip rfl (RevR.skip rfl (RevR.skip rfl (RevR.skip rfl (RevR.skip rfl (RevR.skip rfl (RevR.skip rfl (RevR.skip rfl (RevR.skip rfl (RevR.skip rfl (RevR.skip rfl (RevR.cons rfl (.inl ⟨rfl, fun H1 f' H' hf hN hM => AOp.loadF (.int .i64 ((at_ ((buildT vs.length fs).ed) i).B)) rfl ((hf 92 rfl).trans rfl) ty_3 rfl ⟨rfl, hN⟩⟩) (RevR.cons rfl (.inl ⟨rfl, fun H1 f' H' hf hN hM => AOp.fieldAddrF rfl ((hf 14 rfl).trans rfl) fl_47_1 ⟨rfl, hN⟩⟩) (RevR.cons rfl (.inl ⟨rfl, fun H1 f' H' hf hN hM => AOp.load (w12_7) rfl ((hf 90 rfl).trans rfl) ty_102 (hM _ _ h266) rfl ⟨rfl, hN⟩⟩) (RevR.cons rfl (.inl ⟨rfl, fun H1 f' H' hf hN hM => AOp.fieldAddr rfl ((hf 89 rfl).trans rfl) fl_104_3 ⟨rfl, hN⟩ (hid := ⟨_, (hM _ _ h266)⟩)⟩) (RevR.cons rfl (.inl ⟨rfl, fun H1 f' H' hf hN hM => AOp.nilCheck (.ptr i71 0 0) rfl ((hf 88 rfl).trans rfl) rfl ⟨rfl, hN⟩⟩) (RevR.cons rfl (.inl ⟨rfl, fun H1 f' H' hf hN hM => AOp.move (.ptr i71 0 0) rfl ((hf 12 rfl).trans s89) ⟨rfl, hN⟩⟩) RevR.nil))))))))))))))))))))), ?_⟩
 refine STR.done fun H272 m273 => ?_
 have h274 := m273 _ _ h266
 have o275 := Own.mono o268 m273
 have o276 := MOv.mono o270 m273
 have o277 := Own.mono o265 m273
 have m278 := m262.trans m273
 obtain ⟨i279, ver280, e281, h282, _, _⟩ := Own.pos o275 (by first | omega | (rw [gvalsv_len]; omega))
 refine AOps.cons rfl rfl (AOp.indexAddrO rfl (Eq.trans rfl e281) rfl sl_102 (by first | omega | (rw [gvalsv_len]; omega)) (by first | omega | (rw [gvalsv_len]; omega)) h282 (AOps.cons rfl rfl (AOp.storeO (cells' := ((gvalsv (putMv L ((at_ ((buildT vs.length fs).ed) i).A) v175 (((getMv L ((at_ ((buildT vs.length fs).ed) i).A)).2) ++ [(at_ vs ((at_ ((buildT vs.length fs).ed) i).B))])) vs.length).set ((at_ ((buildT vs.length fs).ed) i).B).toNat v259).map eA) rfl rfl o277 ts_22 (Own.at_ e281 o275).1 (blelen (by rw [List.length_map]) (by rw [gvalsv_len]; omega)) (wr_set1 (e := eA) (by omega) (by rw [gvalsv_len]; omega)) ?_)))
 intro H283 h284 k285
 have h286 := (k285 _ (NotId.ne no93 e281)).trans h274
 have o287 := Own.store e281 o275 h284 (len' := ((gvalsv (putMv L ((at_ ((buildT vs.length fs).ed) i).A) v175 (((getMv L ((at_ ((buildT vs.length fs).ed) i).A)).2) ++ [(at_ vs ((at_ ((buildT vs.length fs).ed) i).B))])) vs.length).set ((at_ ((buildT vs.length fs).ed) i).B).toNat v259).length) (by rw [List.length_set]) (by rw [List.length_map, Nat.mul_one, List.length_set])
 have m288 := Mono.set m278 (Own.at_ e281 o275).2.1 k285
 have o289 := MOv.stay o276 sp224 (fun i hi _ => k285 i (NotId.ne hi e281))
 have o290 := Own.stay o277 (Sep.symm sp269) (fun i hi _ => k285 i (NotId.ne hi e281))
 have o291 := MOv.put (L := (putMv L ((at_ ((buildT vs.length fs).ed) i).A) v175 (((getMv L ((at_ ((buildT vs.length fs).ed) i).A)).2) ++ [(at_ vs ((at_ ((buildT vs.length fs).ed) i).B))]))) o289 o290 sp271
 have hg292 := gvalsv_set (L := (putMv L ((at_ ((buildT vs.length fs).ed) i).A) v175 (((getMv L ((at_ ((buildT vs.length fs).ed) i).A)).2) ++ [(at_ vs ((at_ ((buildT vs.length fs).ed) i).B))]))) (n := vs.length) (x := (at_ ((buildT vs.length fs).ed) i).B) (w := v259) (xs := (((getMv (putMv L ((at_ ((buildT vs.length fs).ed) i).A) v175 (((getMv L ((at_ ((buildT vs.length fs).ed) i).A)).2) ++ [(at_ vs ((at_ ((buildT vs.length fs).ed) i).B))])) ((at_ ((buildT vs.length fs).ed) i).B)).2) ++ [(at_ vs ((at_ ((buildT vs.length fs).ed) i).A))])) (by omega) (by omega)
 have o293 := Own.re o287 (congrArg List.length hg292) (congrArg (fun l : List AV => l.map eA) hg292)
 have no294 := NotIdMv.put (xs := (((getMv (putMv L ((at_ ((buildT vs.length fs).ed) i).A) v175 (((getMv L ((at_ ((buildT vs.length fs).ed) i).A)).2) ++ [(at_ vs ((at_ ((buildT vs.length fs).ed) i).B))])) ((at_ ((buildT vs.length fs).ed) i).B)).2) ++ [(at_ vs ((at_ ((buildT vs.length fs).ed) i).A))])) no222 no267
 have sp295 := SepMv.put_ (xs := (((getMv (putMv L ((at_ ((buildT vs.length fs).ed) i).A) v175 (((getMv L ((at_ ((buildT vs.length fs).ed) i).A)).2) ++ [(at_ vs ((at_ ((buildT vs.length fs).ed) i).B))])) ((at_ ((buildT vs.length fs).ed) i).B)).2) ++ [(at_ vs ((at_ ((buildT vs.length fs).ed) i).A))])) sp224 (Sep.symm sp269)
 refine AWP.region rfl ?_
 refine AOps.cons rfl rfl (AOp.bin (.int .i64 (i + 1)) rfl s83 rfl (iadd (by omega)) (AOps.cons rfl rfl (AOp.move (.int .i64 (i + 1)) rfl rfl ?_)))
 refine AOps.nil ?_
 exact ⟨_, by omega, i + 1, (putMv (putMv L ((at_ ((buildT vs.length fs).ed) i).A) v175 (((getMv L ((at_ ((buildT vs.length fs).ed) i).A)).2) ++ [(at_ vs ((at_ ((buildT vs.length fs).ed) i).B))])) ((at_ ((buildT vs.length fs).ed) i).B) v259 (((getMv (putMv L ((at_ ((buildT vs.length fs).ed) i).A) v175 (((getMv L ((at_ ((buildT vs.length fs).ed) i).A)).2) ++ [(at_ vs ((at_ ((buildT vs.length fs).ed) i).B))])) ((at_ ((buildT vs.length fs).ed) i).B)).2) ++ [(at_ vs ((at_ ((buildT vs.length fs).ed) i).A))])), w12_7, rfl, rfl, s84, s85, s86, s87, s88, s89, s90, s91, o293, no93, o291, no294, sp295, h286, m288, by omega, by omega, by exact hd_B hi0 b127 hG1 rfl⟩
 refine AWP.condF rfl (decide_eq_false b99) ?_
 refine AWP.exit ?_
 change AWP _ _ _ _ _ _
 refine AWP.seq ?_
 refine AWP.frzGroupv (L := L) (N := vs.length) o94 (Own.re o92 (gvalsv_len _ _) rfl) sp96 m98 fun H296 o297 m298 k299 => ?_
 have h300 := (k299 _ no93 no95).trans h97
 have hgf := gF_hd hG (show i = ((buildT vs.length fs).ed.length : Int) by omega)
 have o301 := Own.re (k := (hdR vs (buildT vs.length fs).ed (sharpR (buildT vs.length fs) cr).1).length) (cs := (hdR vs (buildT vs.length fs).ed (sharpR (buildT vs.length fs) cr).1).map eVs) o297 (hdR_len _ _ _).symm (by rw [hgf])
 refine AWP.frzCell 7 o301 h300 z76 rfl no93 m298 fun H302 h303 m304 k305 => ?_
 have h306 : H302 i71 = some (.row 0 ([.sl vs.length (vs.flatMap eV), .sl fs.length (fs.map eF), .sl cr.length (cr.flatMap eCr), .sl ((buildT vs.length fs).ed).length (((buildT vs.length fs).ed).flatMap eE), .sl ((buildT vs.length fs).fan).length (((buildT vs.length fs).fan).map eF), .sl ((buildT vs.length fs).rnd).length (((buildT vs.length fs).rnd).map eBo), .sl ((sharpR (buildT vs.length fs) cr).1).length (((sharpR (buildT vs.length fs) cr).1).map eI), .sl (hdR vs (buildT vs.length fs).ed (sharpR (buildT vs.length fs) cr).1).length ((hdR vs (buildT vs.length fs).ed (sharpR (buildT vs.length fs) cr).1).map eVs)])) := h303
 have hhr := hdR_len vs (buildT vs.length fs).ed (sharpR (buildT vs.length fs) cr).1
 refine AWP.region rfl ?_
 refine AOps.cons rfl rfl (AOp.assign (.snil) rfl rfl ?_)
 refine AWP.seq ?_
 refine AWP.seq (AWP.region rfl ?_)
 refine AOps.cons rfl rfl (AOp.fieldAddrF rfl s85 fl_26_1 (AOps.cons rfl rfl (AOp.loadF (.sl fs.length (fs.map eF)) rfl rfl ty_23 rfl (AOps.cons rfl rfl (AOp.len (m := fs.length) rfl rfl (.inr (.inl ⟨_, rfl⟩)) u_23 (AOps.cons rfl rfl (AOp.move (.int .i64 0) rfl rfl ?_)))))))
 refine AWP.block ?_
 refine AWP.loop (fun q307 fq Hq => ∃ (f : Int) (w15 : AV), q307 = (((fs.length : Int) : Int) - f).toNat ∧ fq 115 = .int .i64 f ∧ fq 1 = .int .i64 skin ∧ fq 4 = .snil ∧ fq 5 = .int .i64 0 ∧ fq 12 = .ptr i71 0 0 ∧ fq 114 = .int .i64 (fs.length : Int) ∧ fq 15 = w15 ∧ Own H0 Hq 65 w15 (U_ (fun q => patchQ vs fs (buildT vs.length fs) (sharpR (buildT vs.length fs) cr).1 (hdR vs (buildT vs.length fs).ed (sharpR (buildT vs.length fs) cr).1) q skin) f).length ((U_ (fun q => patchQ vs fs (buildT vs.length fs) (sharpR (buildT vs.length fs) cr).1 (hdR vs (buildT vs.length fs).ed (sharpR (buildT vs.length fs) cr).1) q skin) f).flatMap ePatch) ∧ NotId w15 i71 ∧ Hq i71 = some (.row 0 ([.sl vs.length (vs.flatMap eV), .sl fs.length (fs.map eF), .sl cr.length (cr.flatMap eCr), .sl ((buildT vs.length fs).ed).length (((buildT vs.length fs).ed).flatMap eE), .sl ((buildT vs.length fs).fan).length (((buildT vs.length fs).fan).map eF), .sl ((buildT vs.length fs).rnd).length (((buildT vs.length fs).rnd).map eBo), .sl ((sharpR (buildT vs.length fs) cr).1).length (((sharpR (buildT vs.length fs) cr).1).map eI), .sl (hdR vs (buildT vs.length fs).ed (sharpR (buildT vs.length fs) cr).1).length ((hdR vs (buildT vs.length fs).ed (sharpR (buildT vs.length fs) cr).1).map eVs)])) ∧ Mono H0 Hq ∧ (0 ≤ f) ∧ (f ≤ (fs.length : Int))) (k := (((fs.length : Int) : Int) - 0).toNat) ?_ ?_
 exact ⟨0, .snil, rfl, rfl, s84, s86, s87, s89, rfl, rfl, Own.nil _ _ _, (NotId.nil _), h306, m304, by omega, by omega⟩
 rintro _ f309 H308 ⟨f, w15, rfl, s310, s311, s312, s313, s314, s315, s316, o317, no318, h319, m320, hf0, hf1⟩
 refine AWP.seq (AWP.region rfl ?_)
 refine AOps.cons rfl rfl (AOp.bin (.bool (decide (f < (fs.length : Int)))) rfl s310 s315 rfl ?_)
 refine AWP.seq ?_
 by_cases b321 : f < (fs.length : Int)
 refine AWP.condT rfl (decide_eq_true b321) ?_
 refine AWP.skip ?_
 refine AWP.seq ?_
 refine AWP.block ?_
 refine AWP.seq (AWP.region rfl ?_)
 refine AOps.cons rfl rfl (AOp.move (.int .i64 f) rfl s310 (AOps.cons rfl rfl (AOp.assign (.int .i64 f) rfl rfl ?_)))
 refine AOps.nil ?_
 change AWP _ _ _ _ _ _
 have hpul : (U_ (fun q => patchQ vs fs (buildT vs.length fs) (sharpR (buildT vs.length fs) cr).1 (hdR vs (buildT vs.length fs).ed (sharpR (buildT vs.length fs) cr).1) q skin) f).length = f.toNat := U_len _ _
 refine AWP.region rfl ?_
 refine AOps.cons rfl rfl (AOp.move (w15) rfl s316 (AOps.cons rfl rfl (AOp.move (.ptr i71 0 0) rfl s314 (AOps.cons rfl rfl (AOp.move (.int .i64 f) rfl rfl (AOps.cons rfl rfl (AOp.move (.int .i64 skin) rfl s311 (AOps.cons rfl rfl (AOp.pcallH («as» := [.ptr i71 0 0, .int .i64 f, .int .i64 skin]) rfl rfl (rfl) tf_52 (c_patch vs fs cr (buildT vs.length fs) (sharpR (buildT vs.length fs) cr).1 (hdR vs (buildT vs.length fs).ed (sharpR (buildT vs.length fs) cr).1) S f skin hf0 (by omega) h319) ?_)))))))))
 intro H322 m323
 have h324 := m323 _ _ h319
 have o325 := Own.mono o317 m323
 have m326 := m320.trans m323
 refine AOps.cons rfl rfl (AOp.buildSlice (cells := ePatch (patchQ vs fs (buildT vs.length fs) (sharpR (buildT vs.length fs) cr).1 (hdR vs (buildT vs.length fs).ed (sharpR (buildT vs.length fs) cr).1) f skin)) rfl u_63 ts_70 tz_70 rfl rfl (fill_patch (patchQ vs fs (buildT vs.length fs) (sharpR (buildT vs.length fs) cr).1 (hdR vs (buildT vs.length fs).ed (sharpR (buildT vs.length fs) cr).1) f skin) rfl) ?_)
 intro i327 H328 n329 h330 k331
 have h334 := keep k331 (ne_new h324 n329) h324
 have o335 := Own.keep o325 k331 (Own.notnew o325 n329)
 have m337 := Mono.new m326 n329 k331
 refine AOps.cons rfl rfl (AOp.append_own (es := 65) (m := 1) (len := ((U_ (fun q => patchQ vs fs (buildT vs.length fs) (sharpR (buildT vs.length fs) cr).1 (hdR vs (buildT vs.length fs).ed (sharpR (buildT vs.length fs) cr).1) q skin) f).length)) (old := (U_ (fun q => patchQ vs fs (buildT vs.length fs) (sharpR (buildT vs.length fs) cr).1 (hdR vs (buildT vs.length fs).ed (sharpR (buildT vs.length fs) cr).1) q skin) f).flatMap ePatch) (cells := ePatch (patchQ vs fs (buildT vs.length fs) (sharpR (buildT vs.length fs) cr).1 (hdR vs (buildT vs.length fs).ed (sharpR (buildT vs.length fs) cr).1) f skin)) rfl u_63 ts_70 tzn_70 tb_70 (by decide) ni_63 rfl o335 m337 rfl (src_patch (x := (patchQ vs fs (buildT vs.length fs) (sharpR (buildT vs.length fs) cr).1 (hdR vs (buildT vs.length fs).ed (sharpR (buildT vs.length fs) cr).1) f skin)) h330) (one_of (ePatch_one (patchQ vs fs (buildT vs.length fs) (sharpR (buildT vs.length fs) cr).1 (hdR vs (buildT vs.length fs).ed (sharpR (buildT vs.length fs) cr).1) f skin))) (by decide) (by first | omega | (simp only [List.length_append, List.length_cons, List.length_nil]; omega)) ?_)
 intro v338 H339 o340 m341 k342 j343
 have o344 := Own.snocM (xs := ((U_ (fun q => patchQ vs fs (buildT vs.length fs) (sharpR (buildT vs.length fs) cr).1 (hdR vs (buildT vs.length fs).ed (sharpR (buildT vs.length fs) cr).1) q skin) f) : List PatchT)) (y := (patchQ vs fs (buildT vs.length fs) (sharpR (buildT vs.length fs) cr).1 (hdR vs (buildT vs.length fs).ed (sharpR (buildT vs.length fs) cr).1) f skin)) (e := ePatch) (by simp) o340
 have h345 := (k342 _ no318 (by rw [h334]; simp)).trans h334
 have no346 := j343 _ no318 (by rw [h334]; simp)
 refine AOps.cons rfl rfl (AOp.assign (v338) rfl rfl ?_)
 refine AWP.region rfl ?_
 refine AOps.cons rfl rfl (AOp.bin (.int .i64 (f + 1)) rfl s310 rfl (iadd (by omega)) (AOps.cons rfl rfl (AOp.move (.int .i64 (f + 1)) rfl rfl ?_)))
 refine AOps.nil ?_
 exact ⟨_, by omega, f + 1, v338, rfl, rfl, s311, s312, s313, s314, s315, rfl, (have hx : (((U_ (fun q => patchQ vs fs (buildT vs.length fs) (sharpR (buildT vs.length fs) cr).1 (hdR vs (buildT vs.length fs).ed (sharpR (buildT vs.length fs) cr).1) q skin) f) ++ [(patchQ vs fs (buildT vs.length fs) (sharpR (buildT vs.length fs) cr).1 (hdR vs (buildT vs.length fs).ed (sharpR (buildT vs.length fs) cr).1) f skin)]) : List PatchT) = U_ (fun q => patchQ vs fs (buildT vs.length fs) (sharpR (buildT vs.length fs) cr).1 (hdR vs (buildT vs.length fs).ed (sharpR (buildT vs.length fs) cr).1) q skin) (f + 1) := (by exact U_step hf0); Own.re o344 (congrArg List.length hx) (congrArg (fun l : List PatchT => l.flatMap ePatch) hx)), no346, h345, m341, by omega, by omega⟩
 refine AWP.condF rfl (decide_eq_false b321) ?_
 refine AWP.exit ?_
 change AWP _ _ _ _ _ _
 refine AWP.seq (AWP.region rfl ?_)
 refine AOps.cons rfl rfl (AOp.move (w15) rfl s316 (AOps.cons rfl rfl (AOp.assign (w15) rfl rfl (AOps.cons rfl rfl (AOp.assign (.int .i64 0) rfl rfl ?_)))))
 refine AWP.ret ?_
 have hx : ((U_ (fun q => patchQ vs fs (buildT vs.length fs) (sharpR (buildT vs.length fs) cr).1 (hdR vs (buildT vs.length fs).ed (sharpR (buildT vs.length fs) cr).1) q skin) f) : List PatchT) = (patR vs fs cr skin).1 := (by (first | (rw [pat_3 b29 b33]; rw [show f = (fs.length : Int) by omega]) | rw [pat_3 b29 b33]))
 refine ⟨_, _, Ghost.refl, .inr rfl, _, Res.two rfl rfl rfl, _, Own.re o317 (congrArg List.length hx) (congrArg (fun l : List PatchT => l.flatMap ePatch) hx), ?_, m320⟩
 exact congrArg AV.tup (lc rfl (lc (congrArg (AV.int .i64) (show (0 : Int) = (patR vs fs cr skin).2 from by (first | (rw [pat_3 b29 b33]; rw [show f = (fs.length : Int) by omega]) | rw [pat_3 b29 b33]))) rfl))
 refine AWP.condT rfl (nb (decide_eq_false b29)) ?_
 refine AWP.seq (AWP.region rfl ?_)
 refine AOps.cons rfl rfl (AOp.move (.int .i64 ((levelR vs fs cr).2)) rfl rfl (AOps.cons rfl rfl (AOp.assign (.snil) rfl rfl (AOps.cons rfl rfl (AOp.assign (.int .i64 ((levelR vs fs cr).2)) rfl rfl ?_)))))
 refine AWP.ret ?_
 have hx : ([] : List PatchT) = (patR vs fs cr skin).1 := (by rw [pat_1 b29])
 refine ⟨_, _, Ghost.refl, .inr rfl, _, Res.two rfl rfl rfl, _, Own.re (Own.nil H0 _ 65) (congrArg List.length hx) (congrArg (fun l : List PatchT => l.flatMap ePatch) hx), ?_, m27⟩
 exact congrArg AV.tup (lc rfl (lc (congrArg (AV.int .i64) (show ((levelR vs fs cr).2 : Int) = (patR vs fs cr skin).2 from by rw [pat_1 b29])) rfl))
theorem c_PatchMoved (vs : List VT) (fs : List (List Int)) (cr : List CrT) (hvl : vs.length ≤ 1048576) (hfl : fs.length ≤ 1048576) (hfs : ∀ l ∈ fs, l.length ≤ 1048576) (hcl : cr.length ≤ 1048576) (hcS : ∀ c ∈ cr, c.S ≤ 9223372036854775807) (by_ : VT) : PC Try.prog 11 [.agg [.sl vs.length (vs.flatMap eV), .sl fs.length (fs.map eF), .sl cr.length (cr.flatMap eCr)], .agg [.int .i64 by_.X, .int .i64 by_.Y, .int .i64 by_.Z]] (.bool true) := by
 intro H0
 refine ACalls.of_body' (n := 113) rfl rfl rfl rfl ?_
 have m0 := Mono.refl H0
 refine AWP.seq (AWP.region rfl ?_)
 refine AOps.cons rfl rfl (AOp.box (.agg [.sl vs.length (vs.flatMap eV), .sl fs.length (fs.map eF), .sl cr.length (cr.flatMap eCr)]) rfl rfl rfl ?_)
 intro i1 H2 n3 h4 k5
 have z6 := Mono.free m0 n3
 have m7 := Mono.new m0 n3 k5
 refine AOps.cons rfl rfl (AOp.box (.agg (eV by_)) rfl rfl rfl ?_)
 intro i8 H9 n10 h11 k12
 have e13 := ne_new h4 n10
 have z14 := Mono.free m7 n10
 have h15 := keep k12 (ne_new h4 n10) h4
 have m16 := Mono.new m7 n10 k12
 refine AOps.cons rfl rfl (AOp.assign _ rfl rfl ?_)
 refine AWP.seq ?_
 refine AWP.seq ?_
 refine AWP.frzP 2 h15 z6 rfl m16 fun H17 m18 k19 => ?_
 have h20 := (k19 _ (Ne.symm e13)).trans h11
 refine AWP.frzP 3 h20 z14 rfl m18 fun H21 m22 k23 => ?_
 refine AWP.region rfl ?_
 refine AOps.cons rfl rfl (AOp.pcall («as» := []) rfl rfl (rfl) tf_28 (c_palive) ?_)
 intro H24 m25
 have m26 := m22.trans m25
 refine AOps.cons rfl rfl (AOp.not rfl rfl ?_)
 refine AWP.condF rfl rfl ?_
 refine AWP.skip ?_
 refine AWP.seq (AWP.region rfl ?_)
 refine AOps.cons rfl rfl (AOp.loadF _ rfl rfl ty_26 rfl (AOps.cons rfl rfl (AOp.pcall («as» := [.agg [.sl vs.length (vs.flatMap eV), .sl fs.length (fs.map eF), .sl cr.length (cr.flatMap eCr)]]) rfl rfl (rfl) tf_29 (c_quads vs fs cr (by omega) (by omega) (by assumption) (by omega) hcS) ?_)))
 intro H27 m28
 have m29 := m26.trans m28
 refine AOps.cons rfl rfl (AOp.move _ rfl rfl (AOps.cons rfl rfl (AOp.extract _ rfl rfl rfl (AOps.cons rfl rfl (AOp.extract _ rfl rfl rfl (AOps.cons rfl rfl (AOp.alloc rfl tz_26 ?_)))))))
 intro i30 H31 n32 h33 k34
 have z35 := Mono.free m29 n32
 have m36 := Mono.new m29 n32 k34
 refine AOps.cons rfl rfl (AOp.store' (cells' := [.sl ((quadR vs fs cr).1.Verts).length (((quadR vs fs cr).1.Verts).flatMap eV), .sl ((quadR vs fs cr).1.Faces).length (((quadR vs fs cr).1.Faces).map eF), .sl ((quadR vs fs cr).1.Creases).length (((quadR vs fs cr).1.Creases).flatMap eCr)]) (.agg [.sl ((quadR vs fs cr).1.Verts).length (((quadR vs fs cr).1.Verts).flatMap eV), .sl ((quadR vs fs cr).1.Faces).length (((quadR vs fs cr).1.Faces).map eF), .sl ((quadR vs fs cr).1.Creases).length (((quadR vs fs cr).1.Creases).flatMap eCr)]) rfl rfl ts_26 h33 rfl rfl rfl rfl ?_)
 intro H37 h38 k39
 have m41 := Mono.set m36 z35 k39
 refine AOps.cons rfl rfl (AOp.assign _ rfl rfl ?_)
 refine AWP.seq ?_
 refine AWP.seq ?_
 refine AWP.frzP 5 h38 z35 rfl m41 fun H42 m43 k44 => ?_
 refine AWP.region rfl ?_
 refine AOps.cons rfl rfl (AOp.move _ rfl rfl (AOps.cons rfl rfl (AOp.not rfl rfl (AOps.cons rfl rfl (AOp.move _ rfl rfl ?_)))))
 rcases Bool.eq_false_or_eq_true ((quadR vs fs cr).2) with b45 | b45
 refine AOps.yes rfl rfl rfl rfl rfl rfl rfl (nb b45) (AOp.loadF _ rfl rfl ty_42 rfl (AOps.yes rfl rfl rfl rfl rfl rfl rfl (nb b45) (AOp.pcall («as» := [.agg (eV by_), .int .i64 16384]) rfl rfl (rfl) tf_21 (c_vWithin by_ 16384 (by omega)) ?_)))
 intro H46 m47
 have m48 := m43.trans m47
 refine AOps.yes rfl rfl rfl rfl rfl rfl rfl (nb b45) (AOp.not rfl rfl (AOps.cons rfl rfl (AOp.pickF _ rfl rfl (nb b45) rfl ?_)))
 refine AOps.nil ?_
 change AWP _ _ _ _ _ _
 by_cases b49 : inV 16384 by_
 refine AWP.condF rfl (nb (decide_eq_true b49)) ?_
 refine AWP.skip ?_
 refine AWP.seq ?_
 have Q := quF hcS b45
 have hbi : inV 16384 by_ := b49
 have hqf := Q.mid.f
 have hqv := Q.mid.v
 have hqs := Q.mid.s
 have hqc := Q.mid.cl
 have hqfs : ∀ l ∈ (quadR vs fs cr).1.Faces, l.length ≤ 1048576 := fun l hl => Nat.le_trans (Q.mid.fs l hl) (by decide)
 have hB12 : inV 2305843009213693952 by_ := inV_le hbi (by decide)
 refine AWP.region rfl ?_
 refine AOps.cons rfl rfl (AOp.loadF _ rfl rfl ty_26 rfl (AOps.cons rfl rfl (AOp.xcall («as» := [.agg [.sl ((quadR vs fs cr).1.Verts).length (((quadR vs fs cr).1.Verts).flatMap eV), .sl ((quadR vs fs cr).1.Faces).length (((quadR vs fs cr).1.Faces).map eF), .sl ((quadR vs fs cr).1.Creases).length (((quadR vs fs cr).1.Creases).flatMap eCr)]]) rfl rfl (rfl) tf_22 (c_CopyCageO ((quadR vs fs cr).1.Verts) ((quadR vs fs cr).1.Faces) ((quadR vs fs cr).1.Creases) (by omega) (by omega) (by assumption) (by omega)) ?_)))
 rintro _ H51 ⟨v50, o52, rfl, m53⟩
 have o54 := Own.base o52 m48
 have m55 := m48.trans m53
 refine AOps.cons rfl rfl (AOp.alloc rfl tz_26 ?_)
 intro i56 H57 n58 h59 k60
 have z61 := Mono.free m55 n58
 have o62 := Own.keep o54 k60 (Own.notnew o54 n58)
 have no63 := Own.notnew o54 n58
 have m64 := Mono.new m55 n58 k60
 refine AOps.cons rfl rfl (AOp.store' (cells' := [v50, .sl ((quadR vs fs cr).1.Faces).length (((quadR vs fs cr).1.Faces).map eF), .sl ((quadR vs fs cr).1.Creases).length (((quadR vs fs cr).1.Creases).flatMap eCr)]) (.agg [v50, .sl ((quadR vs fs cr).1.Faces).length (((quadR vs fs cr).1.Faces).map eF), .sl ((quadR vs fs cr).1.Creases).length (((quadR vs fs cr).1.Creases).flatMap eCr)]) rfl rfl ts_26 h59 (by simp only [AV.cells, List.all_cons, List.all_nil, Own.one_ o62]; rfl) rfl rfl rfl ?_)
 intro H65 h66 k67
 have o69 := Own.keep o62 k67 no63
 have m70 := Mono.set m64 z61 k67
 refine AWP.seq ?_
 refine AWP.seq (AWP.region rfl ?_)
 refine AOps.cons rfl rfl (AOp.assign _ rfl rfl ?_)
 refine AWP.block ?_
 refine AWP.loop (fun q71 fq Hq => ∃ (i : Int) (w7_0 : AV), q71 = ((((quadR vs fs cr).1.Verts.length : Int) : Int) - i).toNat ∧ fq 8 = .int .i64 i ∧ fq 3 = .fptr (eV by_) 0 ∧ fq 5 = .fptr [.sl ((quadR vs fs cr).1.Verts).length (((quadR vs fs cr).1.Verts).flatMap eV), .sl ((quadR vs fs cr).1.Faces).length (((quadR vs fs cr).1.Faces).map eF), .sl ((quadR vs fs cr).1.Creases).length (((quadR vs fs cr).1.Creases).flatMap eCr)] 0 ∧ fq 7 = .ptr i56 0 0 ∧ Own H0 Hq 3 w7_0 ((updU (movG by_) (quadR vs fs cr).1.Verts i)).length (((updU (movG by_) (quadR vs fs cr).1.Verts i)).flatMap eV) ∧ NotId w7_0 i56 ∧ Hq i56 = some (.row 0 ([w7_0, .sl ((quadR vs fs cr).1.Faces).length (((quadR vs fs cr).1.Faces).map eF), .sl ((quadR vs fs cr).1.Creases).length (((quadR vs fs cr).1.Creases).flatMap eCr)])) ∧ Mono H0 Hq ∧ (0 ≤ i) ∧ (i ≤ ((quadR vs fs cr).1.Verts.length : Int)) ∧ (∀ j : Int, 0 ≤ j → j < i → inV 32768 (at_ (quadR vs fs cr).1.Verts j))) (k := ((((quadR vs fs cr).1.Verts.length : Int) : Int) - 0).toNat) ?_ ?_
 exact ⟨0, v50, rfl, rfl, rfl, rfl, rfl, (have hx : (((quadR vs fs cr).1.Verts) : List VT) = (updU (movG by_) (quadR vs fs cr).1.Verts 0) := (by exact upd_0 _ _); Own.re o69 (congrArg List.length hx) (congrArg (fun l : List VT => l.flatMap eV) hx)), no63, h66, m70, by omega, by omega, by intro j; omega⟩
 rintro _ f73 H72 ⟨i, w7_0, rfl, s74, s75, s76, s77, o78, no79, h80, m81, hi0, hi1, hq⟩
 refine AWP.seq ?_
 refine AWP.seq (AWP.region rfl ?_)
 refine AOps.cons rfl rfl (AOp.move _ rfl s74 (AOps.cons rfl rfl (AOp.fieldAddrF rfl s76 fl_26_0 (AOps.cons rfl rfl (AOp.loadF _ rfl rfl ty_22 rfl (AOps.cons rfl rfl (AOp.len (m := ((quadR vs fs cr).1.Verts).length) rfl rfl (.inr (.inl ⟨_, rfl⟩)) u_22 (AOps.cons rfl rfl (AOp.bin _ rfl rfl rfl rfl ?_)))))))))
 refine AOps.nil ?_
 change AWP _ _ _ _ _ _
 by_cases b82 : i < ((((quadR vs fs cr).1.Verts).length) : Int)
 refine AWP.condT rfl (decide_eq_true b82) ?_
 refine AWP.skip ?_
 refine AWP.seq ?_
 refine AWP.block ?_
 refine AWP.seq ?_
 refine AWP.seq (AWP.region rfl ?_)
 refine AOps.cons rfl rfl (AOp.fieldAddrF rfl s76 fl_26_0 (AOps.cons rfl rfl (AOp.loadF _ rfl rfl ty_22 rfl (AOps.cons rfl rfl (AOp.move _ rfl s74 (AOps.cons rfl rfl (AOp.indexAddrS rfl rfl rfl sl_22 (by omega) (by omega) (AOps.cons rfl rfl (AOp.loadF _ rfl rfl ty_42 (ldM eV_len (by omega) (by omega)) (AOps.cons rfl rfl (AOp.pcall («as» := [.agg (eV (at_ ((quadR vs fs cr).1.Verts) i)), .int .i64 32768]) rfl rfl (rfl) tf_21 (c_vWithin (at_ ((quadR vs fs cr).1.Verts) i) 32768 (by omega)) ?_)))))))))))
 intro H83 m84
 have h85 := m84 _ _ h80
 have o86 := Own.mono o78 m84
 have m87 := m81.trans m84
 refine AOps.cons rfl rfl (AOp.not rfl rfl ?_)
 refine AOps.nil ?_
 change AWP _ _ _ _ _ _
 by_cases b88 : inV 32768 (at_ ((quadR vs fs cr).1.Verts) i)
 refine AWP.condF rfl (nb (decide_eq_true b88)) ?_
 refine AWP.skip ?_
 change AWP _ _ _ _ _ _
 have hml := upd_len (movG by_) (quadR vs fs cr).1.Verts i
 have hvi : inV 32768 (at_ (quadR vs fs cr).1.Verts i) := b88
 have hA12 : inV 2305843009213693952 (at_ (quadR vs fs cr).1.Verts i) := inV_le hvi (by decide)
 refine AWP.region_quiet mixed (by kernel_rfl) 11 [11] rfl (by kernel_rfl) (Mono H83) (Mono.refl _) ?_
 refine QE.op rfl rfl (.inl ⟨rfl, fun f' H' hf hM => AOp.fieldAddr rfl ((hf 7 rfl).trans s77) fl_26_0 ⟨rfl, hM⟩ (hid := ⟨_, (hM _ _ h85)⟩)⟩) ?_
 refine QE.op rfl rfl (.inl ⟨rfl, fun f' H' hf hM => AOp.load _ rfl ((hf 45 rfl).trans rfl) ty_22 (hM _ _ h85) rfl ⟨rfl, hM⟩⟩) ?_
 refine QE.op rfl rfl (.inl ⟨rfl, fun f' H' hf hM => AOp.move _ rfl ((hf 8 rfl).trans s74) ⟨rfl, hM⟩⟩) ?_
 refine QE.op rfl rfl (.inl ⟨rfl, fun f' H' hf hM => AOp.fieldAddrF rfl ((hf 5 rfl).trans s76) fl_26_0 ⟨rfl, hM⟩⟩) ?_
 refine QE.op rfl rfl (.inl ⟨rfl, fun f' H' hf hM => AOp.loadF _ rfl ((hf 48 rfl).trans rfl) ty_22 rfl ⟨rfl, hM⟩⟩) ?_
 refine QE.op rfl rfl (.inl ⟨rfl, fun f' H' hf hM => AOp.move _ rfl ((hf 8 rfl).trans s74) ⟨rfl, hM⟩⟩) ?_
 refine QE.op rfl rfl (.inl ⟨rfl, fun f' H' hf hM => AOp.indexAddrS rfl ((hf 49 rfl).trans rfl) ((hf 50 rfl).trans rfl) sl_22 (by omega) (by omega) ⟨rfl, hM⟩⟩) ?_
 refine QE.op rfl rfl (.inl ⟨rfl, fun f' H' hf hM => AOp.loadF _ rfl ((hf 51 rfl).trans rfl) ty_42 (ldM eV_len (by omega) (by omega)) ⟨rfl, hM⟩⟩) ?_
 refine QE.op rfl rfl (.inl ⟨rfl, fun f' H' hf hM => AOp.loadF _ rfl ((hf 3 rfl).trans s75) ty_42 rfl ⟨rfl, hM⟩⟩) ?_
 refine QE.op rfl rfl (.inl ⟨rfl, fun f' H' hf hM => AOp.pcall («as» := [.agg (eV (at_ ((quadR vs fs cr).1.Verts) i)), .agg (eV by_)]) rfl rfl (lapp (lcons ((hf 52 rfl).trans rfl) (lcons ((hf 53 rfl).trans rfl) rfl)) rfl) tf_18 (c_rAdd (at_ ((quadR vs fs cr).1.Verts) i) by_ (by assumption) (by assumption)) fun H2 m2 => ⟨rfl, hM.trans m2⟩⟩) ?_
 obtain ⟨i89, ver90, e91, h92, _, _⟩ := Own.pos o86 (by omega)
 refine QE.op rfl rfl (.inl ⟨rfl, fun f' H' hf hM => AOp.indexAddrO rfl (Eq.trans ((hf 46 rfl).trans rfl) e91) ((hf 47 rfl).trans rfl) sl_22 (by omega) (by omega) (hM _ _ h92) ⟨rfl, hM⟩⟩) ?_
 refine QE.done fun H93 m94 => ?_
 have h95 := m94 _ _ h85
 have o96 := Own.mono o86 m94
 have m97 := m87.trans m94
 refine AOps.cons rfl rfl (AOp.store' (cells' := (((updU (movG by_) (quadR vs fs cr).1.Verts i)).set i.toNat (addV (at_ ((quadR vs fs cr).1.Verts) i) by_)).flatMap eV) (.agg (eV (addV (at_ ((quadR vs fs cr).1.Verts) i) by_))) rfl rfl ts_42 (Own.at_ e91 o96).1 rfl rfl (blelen (flatMap_length eV_len _) (by omega)) (wr_setM (xs := ((updU (movG by_) (quadR vs fs cr).1.Verts i))) (i := i) (v := (addV (at_ ((quadR vs fs cr).1.Verts) i) by_)) eV_len (by omega) (by omega)) ?_)
 intro H98 h99 k100
 have h101 := (k100 _ (NotId.ne no79 e91)).trans h95
 have o102 := Own.store e91 o96 h99 (len' := ((((updU (movG by_) (quadR vs fs cr).1.Verts i)).set i.toNat (addV (at_ ((quadR vs fs cr).1.Verts) i) by_))).length) (by rw [List.length_set]) (by rw [flatMap_length eV_len, List.length_set])
 have m103 := Mono.set m97 (Own.at_ e91 o96).2.1 k100
 refine AWP.region rfl ?_
 refine AOps.cons rfl rfl (AOp.move _ rfl s74 (AOps.cons rfl rfl (AOp.bin _ rfl rfl rfl (iadd (by omega)) (AOps.cons rfl rfl (AOp.assign _ rfl rfl ?_)))))
 refine AOps.nil ?_
 exact ⟨_, by omega, i + 1, w7_0, rfl, rfl, s75, s76, s77, (have hx : (((((updU (movG by_) (quadR vs fs cr).1.Verts i)).set i.toNat (addV (at_ ((quadR vs fs cr).1.Verts) i) by_))) : List VT) = (updU (movG by_) (quadR vs fs cr).1.Verts (i + 1)) := (by exact upd_stepV (g := movG by_) hi0 (by omega)); Own.re o102 (congrArg List.length hx) (congrArg (fun l : List VT => l.flatMap eV) hx)), no79, h101, m103, by omega, by omega, by exact fun j j0 j1 => if e : j = i then e ▸ hvi else hq j j0 (by omega)⟩
 refine AWP.condT rfl (nb (decide_eq_false b88)) ?_
 refine AWP.seq (AWP.region rfl ?_)
 refine AOps.cons rfl rfl (AOp.assign _ rfl rfl ?_)
 refine AWP.ret ?_
 refine ⟨_, _, Ghost.refl, .inr rfl, _, Res.one rfl rfl, ?_, m87⟩
 exact rfl
 refine AWP.condF rfl (decide_eq_false b82) ?_
 refine AWP.exit ?_
 change AWP _ _ _ _ _ _
 refine AWP.seq ?_
 have MO_ := moF (k := i) Q hbi hq (by omega)
 have PF := paF Q 1
 have hpl := PF.l
 have hml2 := MO_.l
 have hme := MO_.e
 have hpe := PF.e
 refine AWP.region rfl ?_
 refine AOps.cons rfl rfl (AOp.loadF _ rfl s76 ty_26 rfl (AOps.cons rfl rfl (AOp.xcall («as» := [.agg [.sl ((quadR vs fs cr).1.Verts).length (((quadR vs fs cr).1.Verts).flatMap eV), .sl ((quadR vs fs cr).1.Faces).length (((quadR vs fs cr).1.Faces).map eF), .sl ((quadR vs fs cr).1.Creases).length (((quadR vs fs cr).1.Creases).flatMap eCr)], .int .i64 1]) rfl rfl (rfl) tf_30 (c_PatchesO _ _ _ Q.mid _) ?_)))
 rintro _ H105 ⟨v104, o106, rfl, m107⟩
 have no108 : NotId v104 i56 := Own.free o106 h80
 have sp109 : Sep v104 w7_0 := (Sep.fresh o78 o106).symm
 have o110 := Own.base o106 m81
 have h111 := m107 _ _ h80
 have o112 := Own.mono o78 m107
 have m113 := m81.trans m107
 refine AOps.cons rfl rfl (AOp.move _ rfl rfl (AOps.cons rfl rfl (AOp.extract _ rfl rfl rfl (AOps.cons rfl rfl (AOp.extract _ rfl rfl rfl (AOps.cons rfl rfl (AOp.assign _ rfl rfl (AOps.cons rfl rfl (AOp.assign _ rfl rfl ?_)))))))))
 refine AWP.seq ?_
 refine AWP.frzCell 0 o112 h111 z61 rfl no79 m113 fun H114 h115 m116 k117 => ?_
 have o118 := Own.stay2 o110 sp109 no108 k117
 have h119 : H114 i56 = some (.row 0 ([.sl ((updU (movG by_) (quadR vs fs cr).1.Verts i)).length (((updU (movG by_) (quadR vs fs cr).1.Verts i)).flatMap eV), .sl ((quadR vs fs cr).1.Faces).length (((quadR vs fs cr).1.Faces).map eF), .sl ((quadR vs fs cr).1.Creases).length (((quadR vs fs cr).1.Creases).flatMap eCr)])) := h115
 skip
 refine AWP.region rfl ?_
 refine AOps.cons rfl rfl (AOp.load _ rfl s77 ty_26 h119 rfl (AOps.cons rfl rfl (AOp.pcall («as» := [.agg [.sl ((updU (movG by_) (quadR vs fs cr).1.Verts i)).length (((updU (movG by_) (quadR vs fs cr).1.Verts i)).flatMap eV), .sl ((quadR vs fs cr).1.Faces).length (((quadR vs fs cr).1.Faces).map eF), .sl ((quadR vs fs cr).1.Creases).length (((quadR vs fs cr).1.Creases).flatMap eCr)], .int .i64 1]) rfl rfl (rfl) tf_30 (c_Patches _ _ _ MO_.mid _) ?_)))
 intro H120 m121
 have h122 := m121 _ _ h119
 have o123 := Own.mono o118 m121
 have m124 := m116.trans m121
 refine AOps.cons rfl rfl (AOp.move _ rfl rfl (AOps.cons rfl rfl (AOp.extract _ rfl rfl rfl (AOps.cons rfl rfl (AOp.extract _ rfl rfl rfl (AOps.cons rfl rfl (AOp.assign _ rfl rfl (AOps.cons rfl rfl (AOp.assign _ rfl rfl ?_)))))))))
 refine AWP.seq ?_
 refine AWP.seq ?_
 refine AWP.frzP 7 h122 z61 s77 m124 fun H125 m126 k127 => ?_
 have o128 := Own.keep o123 k127 no108
 refine AWP.region rfl ?_
 refine AOps.cons rfl rfl (AOp.move _ rfl rfl (AOps.cons rfl rfl (AOp.bin _ rfl rfl rfl ine (AOps.cons rfl rfl (AOp.move _ rfl rfl (AOps.yes rfl rfl rfl rfl rfl rfl rfl (nb (decide_eq_true (hpe))) (AOp.move _ rfl rfl (AOps.yes rfl rfl rfl rfl rfl rfl rfl (nb (decide_eq_true (hpe))) (AOp.bin _ rfl rfl rfl ine (AOps.cons rfl rfl (AOp.pickF _ rfl rfl (nb (decide_eq_true (hpe))) rfl ?_)))))))))))
 refine AOps.cons rfl rfl (AOp.move _ rfl rfl (AOps.yes rfl rfl rfl rfl rfl rfl rfl (nb (decide_eq_true (hme))) (AOp.move _ rfl rfl (AOps.yes rfl rfl rfl rfl rfl rfl rfl (nb (decide_eq_true (hme))) (AOp.len_own (m := (((patR ((quadR vs fs cr).1.Verts) ((quadR vs fs cr).1.Faces) ((quadR vs fs cr).1.Creases) 1).1).length)) rfl rfl o128 u_63 (AOps.yes rfl rfl rfl rfl rfl rfl rfl (nb (decide_eq_true (hme))) (AOp.move _ rfl rfl (AOps.yes rfl rfl rfl rfl rfl rfl rfl (nb (decide_eq_true (hme))) (AOp.len (m := ((patR ((updU (movG by_) (quadR vs fs cr).1.Verts i)) ((quadR vs fs cr).1.Faces) ((quadR vs fs cr).1.Creases) 1).1).length) rfl rfl (.inr (.inl ⟨_, rfl⟩)) u_63 (AOps.yes rfl rfl rfl rfl rfl rfl rfl (nb (decide_eq_true (hme))) (AOp.bin _ rfl rfl rfl ine ?_)))))))))))
 refine AOps.cons rfl rfl (AOp.pickF _ rfl rfl (nb (decide_eq_true (hme))) rfl ?_)
 refine AWP.condF rfl (nb (decide_eq_true ((by omega)))) ?_
 refine AWP.skip ?_
 refine AWP.seq ?_
 refine AWP.seq ?_
 have V0 : MvF (patR (quadR vs fs cr).1.Verts (quadR vs fs cr).1.Faces (quadR vs fs cr).1.Creases 1).1 (patR (quadR vs fs cr).1.Verts (quadR vs fs cr).1.Faces (quadR vs fs cr).1.Creases 1).1 by_ 0 0 := mvF_0 fun h => MO_.n 0 (by decide) (by omega)
 refine AWP.region rfl ?_
 refine AOps.cons rfl rfl (AOp.assign _ rfl rfl ?_)
 refine AWP.block ?_
 refine AWP.loop (fun q129 fq Hq => ∃ (j : Int) (ps : List PatchT) (w9 : AV), q129 = ((ps.length : Int) - j).toNat ∧ fq 13 = .int .i64 j ∧ fq 3 = .fptr (eV by_) 0 ∧ fq 11 = .sl ((patR ((updU (movG by_) (quadR vs fs cr).1.Verts i)) ((quadR vs fs cr).1.Faces) ((quadR vs fs cr).1.Creases) 1).1).length (((patR ((updU (movG by_) (quadR vs fs cr).1.Verts i)) ((quadR vs fs cr).1.Faces) ((quadR vs fs cr).1.Creases) 1).1).flatMap ePatch) ∧ fq 9 = w9 ∧ Own H0 Hq 65 w9 (ps).length ((ps).flatMap ePatch) ∧ Mono H0 Hq ∧ (0 ≤ j) ∧ (j ≤ (ps.length : Int)) ∧ (MvF (patR (quadR vs fs cr).1.Verts (quadR vs fs cr).1.Faces (quadR vs fs cr).1.Creases 1).1 ps by_ j 0)) (k := ((((patR (quadR vs fs cr).1.Verts (quadR vs fs cr).1.Faces (quadR vs fs cr).1.Creases 1).1).length : Int) - 0).toNat) ?_ ?_
 exact ⟨0, (patR (quadR vs fs cr).1.Verts (quadR vs fs cr).1.Faces (quadR vs fs cr).1.Creases 1).1, v104, rfl, rfl, s75, rfl, rfl, o128, m126, by omega, by omega, by exact V0⟩
 rintro _ f131 H130 ⟨j, ps, w9, rfl, s132, s133, s134, s135, o136, m137, hj0, hj1, V⟩
 refine AWP.seq ?_
 refine AWP.seq (AWP.region rfl ?_)
 refine AOps.cons rfl rfl (AOp.move _ rfl s132 (AOps.cons rfl rfl (AOp.move _ rfl s135 (AOps.cons rfl rfl (AOp.len_own (m := ((ps).length)) rfl rfl o136 u_63 (AOps.cons rfl rfl (AOp.bin _ rfl rfl rfl rfl ?_)))))))
 refine AOps.nil ?_
 change AWP _ _ _ _ _ _
 by_cases b138 : j < (((ps).length) : Int)
 refine AWP.condT rfl (decide_eq_true b138) ?_
 refine AWP.skip ?_
 refine AWP.seq ?_
 refine AWP.block ?_
 refine AWP.seq ?_
 refine AWP.seq ?_
 have hvl_ := V.l
 refine AWP.region rfl ?_
 refine AOps.cons rfl rfl (AOp.assign _ rfl rfl ?_)
 refine AWP.block ?_
 refine AWP.loop (fun q139 fq Hq => ∃ (k : Int) (rs : List PatchT) (w9 : AV), q139 = ((16 : Int) - k).toNat ∧ fq 14 = .int .i64 k ∧ fq 13 = .int .i64 j ∧ fq 3 = .fptr (eV by_) 0 ∧ fq 11 = .sl ((patR ((updU (movG by_) (quadR vs fs cr).1.Verts i)) ((quadR vs fs cr).1.Faces) ((quadR vs fs cr).1.Creases) 1).1).length (((patR ((updU (movG by_) (quadR vs fs cr).1.Verts i)) ((quadR vs fs cr).1.Faces) ((quadR vs fs cr).1.Creases) 1).1).flatMap ePatch) ∧ fq 9 = w9 ∧ Own H0 Hq 65 w9 (rs).length ((rs).flatMap ePatch) ∧ Mono H0 Hq ∧ (0 ≤ k) ∧ (k ≤ 16) ∧ (MvF (patR (quadR vs fs cr).1.Verts (quadR vs fs cr).1.Faces (quadR vs fs cr).1.Creases 1).1 rs by_ j k)) (k := ((16 : Int) - 0).toNat) ?_ ?_
 exact ⟨0, ps, w9, rfl, rfl, s132, s133, s134, s135, o136, m137, by omega, by omega, by exact V⟩
 rintro _ f141 H140 ⟨k, rs, w9, rfl, s142, s143, s144, s145, s146, o147, m148, hk0, hk1, W_⟩
 refine AWP.seq ?_
 refine AWP.seq (AWP.region rfl ?_)
 refine AOps.cons rfl rfl (AOp.move _ rfl s142 (AOps.cons rfl rfl (AOp.bin _ rfl rfl rfl rfl ?_)))
 refine AOps.nil ?_
 change AWP _ _ _ _ _ _
 by_cases b149 : k < 16
 refine AWP.condT rfl (decide_eq_true b149) ?_
 refine AWP.skip ?_
 refine AWP.seq ?_
 refine AWP.block ?_
 have hwl := W_.l
 have hwe := W_.eq (by omega)
 have hA23 : inV 2305843009213693952 (at_ (at_ rs j).aP k) := inV_le (mv_in W_ (by omega) hk0 (by omega) (MO_.q j hj0 (by omega) k hk0 (by omega))) (by decide)
 refine AWP.region_quiet mixed (by kernel_rfl) 15 [15] rfl (by kernel_rfl) (Mono H140) (Mono.refl _) ?_
 refine QE.op rfl rfl (.inl ⟨rfl, fun f' H' hf hM => AOp.move _ rfl ((hf 9 rfl).trans s146) ⟨rfl, hM⟩⟩) ?_
 refine QE.op rfl rfl (.inl ⟨rfl, fun f' H' hf hM => AOp.move _ rfl ((hf 13 rfl).trans s143) ⟨rfl, hM⟩⟩) ?_
 refine QE.op rfl rfl (.inl ⟨rfl, fun f' H' hf hM => AOp.move _ rfl ((hf 14 rfl).trans s142) ⟨rfl, hM⟩⟩) ?_
 refine QE.op rfl rfl (.inl ⟨rfl, fun f' H' hf hM => AOp.move _ rfl ((hf 9 rfl).trans s146) ⟨rfl, hM⟩⟩) ?_
 refine QE.op rfl rfl (.inl ⟨rfl, fun f' H' hf hM => AOp.move _ rfl ((hf 13 rfl).trans s143) ⟨rfl, hM⟩⟩) ?_
 refine QE.op rfl rfl (.inl ⟨rfl, fun f' H' hf hM => AOp.move _ rfl ((hf 14 rfl).trans s142) ⟨rfl, hM⟩⟩) ?_
 obtain ⟨i150, ver151, e152, h153, _, _⟩ := Own.pos o147 (by omega)
 refine QE.op rfl rfl (.inl ⟨rfl, fun f' H' hf hM => AOp.indexAddrO rfl (Eq.trans ((hf 92 rfl).trans rfl) e152) ((hf 93 rfl).trans rfl) sl_63 (by omega) (by omega) (hM _ _ h153) ⟨rfl, hM⟩⟩) ?_
 refine QE.op rfl rfl (.inl ⟨rfl, fun f' H' hf hM => AOp.fieldAddr rfl ((hf 95 rfl).trans rfl) fl_70_0 ⟨rfl, hM⟩ (hid := ⟨_, (hM _ _ h153)⟩)⟩) ?_
 refine QE.op rfl rfl (.inl ⟨rfl, fun f' H' hf hM => AOp.indexAddrA rfl ((hf 96 rfl).trans rfl) ((hf 94 rfl).trans rfl) ar_66 (by omega) (by omega) ⟨_, (hM _ _ h153)⟩ ⟨rfl, hM⟩⟩) ?_
 refine QE.op rfl rfl (.inl ⟨rfl, fun f' H' hf hM => AOp.load _ rfl ((hf 97 rfl).trans rfl) ty_42 (hM _ _ h153) (ld_off (o := j.toNat * 65 + 0 + k.toNat * 3) (o' := j.toNat * 65 + (0 + k.toNat * 3)) (by omega) (ldE ePatch_len (i := j) (by omega) (by omega) (fun h => by first | rfl | cases h) (ld_off (o := 0 + k.toNat * 3) (by omega) (ld_fst (fun h => by first | rfl | cases h) (ldM eV_len (i := k) (by omega) (by first | (have := (at_ (rs) j).lP; omega) | (simp; omega))))))) ⟨rfl, hM⟩⟩) ?_
 refine QE.op rfl rfl (.inl ⟨rfl, fun f' H' hf hM => AOp.loadF _ rfl ((hf 3 rfl).trans s144) ty_42 rfl ⟨rfl, hM⟩⟩) ?_
 refine QE.op rfl rfl (.inl ⟨rfl, fun f' H' hf hM => AOp.pcall («as» := [.agg (eV (at_ ((at_ (rs) j).aP) k)), .agg (eV by_)]) rfl rfl (lapp (lcons ((hf 98 rfl).trans rfl) (lcons ((hf 99 rfl).trans rfl) rfl)) rfl) tf_18 (c_rAdd (at_ ((at_ (rs) j).aP) k) by_ (by assumption) (by assumption)) fun H2 m2 => ⟨rfl, hM.trans m2⟩⟩) ?_
 obtain ⟨i154, ver155, e156, h157, _, _⟩ := Own.pos o147 (by omega)
 refine QE.op rfl rfl (.inl ⟨rfl, fun f' H' hf hM => AOp.indexAddrO rfl (Eq.trans ((hf 89 rfl).trans rfl) e156) ((hf 90 rfl).trans rfl) sl_63 (by omega) (by omega) (hM _ _ h157) ⟨rfl, hM⟩⟩) ?_
 refine QE.op rfl rfl (.inl ⟨rfl, fun f' H' hf hM => AOp.fieldAddr rfl ((hf 101 rfl).trans rfl) fl_70_0 ⟨rfl, hM⟩ (hid := ⟨_, (hM _ _ h157)⟩)⟩) ?_
 refine QE.op rfl rfl (.inl ⟨rfl, fun f' H' hf hM => AOp.indexAddrA rfl ((hf 102 rfl).trans rfl) ((hf 91 rfl).trans rfl) ar_66 (by omega) (by omega) ⟨_, (hM _ _ h157)⟩ ⟨rfl, hM⟩⟩) ?_
 refine QE.done fun H158 m159 => ?_
 have o160 := Own.mono o147 m159
 have m161 := m148.trans m159
 refine AOps.cons rfl rfl (AOp.store' (cells' := ((rs).set j.toNat (setP (at_ (rs) j) k (addV (at_ ((at_ (rs) j).aP) k) by_))).flatMap ePatch) (.agg (eV (addV (at_ ((at_ (rs) j).aP) k) by_))) rfl rfl ts_42 (Own.at_ e156 o160).1 rfl rfl (blelen (flatMap_length ePatch_len _) (by omega)) (wr_off (o' := j.toNat * 65 + k.toNat * 3) (by omega) (wr_fldM ePatch_len (i := j) (by omega) (by omega) (show k.toNat * 3 + 3 ≤ 65 by omega) (setP_wr (by omega) (by omega)))) ?_)
 intro H162 h163 k164
 have o165 := Own.store e156 o160 h163 (len' := (((rs).set j.toNat (setP (at_ (rs) j) k (addV (at_ ((at_ (rs) j).aP) k) by_)))).length) (by rw [List.length_set]) (by rw [flatMap_length ePatch_len, List.length_set])
 have m166 := Mono.set m161 (Own.at_ e156 o160).2.1 k164
 refine AWP.region rfl ?_
 refine AOps.cons rfl rfl (AOp.move _ rfl s142 (AOps.cons rfl rfl (AOp.bin _ rfl rfl rfl (iadd (by omega)) (AOps.cons rfl rfl (AOp.assign _ rfl rfl ?_)))))
 refine AOps.nil ?_
 exact ⟨_, by omega, k + 1, (rs.set j.toNat (setP (at_ rs j) k (addV (at_ (at_ rs j).aP k) by_))), w9, rfl, rfl, s143, s144, s145, s146, o165, m166, by omega, by omega, by exact MvF.step W_ hj0 (by omega) hk0 (by omega)⟩
 refine AWP.condF rfl (decide_eq_false b149) ?_
 refine AWP.exit ?_
 change AWP _ _ _ _ _ _
 refine AWP.seq ?_
 have hwl := W_.l
 have hke : k = 16 := by omega
 have hsame : at_ rs j = at_ (patR (updU (movG by_) (quadR vs fs cr).1.Verts i) (quadR vs fs cr).1.Faces (quadR vs fs cr).1.Creases 1).1 j := by rw [W_.eq (by omega), hke]; exact MO_.p j hj0 (by omega)
 refine AWP.region_quiet mixed (by kernel_rfl) 9 [] rfl (by kernel_rfl) (Mono H140) (Mono.refl _) ?_
 refine QE.op rfl rfl (.inl ⟨rfl, fun f' H' hf hM => AOp.move _ rfl ((hf 9 rfl).trans s146) ⟨rfl, hM⟩⟩) ?_
 refine QE.op rfl rfl (.inl ⟨rfl, fun f' H' hf hM => AOp.move _ rfl ((hf 13 rfl).trans s143) ⟨rfl, hM⟩⟩) ?_
 obtain ⟨i167, ver168, e169, h170, _, _⟩ := Own.pos o147 (by omega)
 refine QE.op rfl rfl (.inl ⟨rfl, fun f' H' hf hM => AOp.indexAddrO rfl (Eq.trans ((hf 104 rfl).trans rfl) e169) ((hf 105 rfl).trans rfl) sl_63 (by omega) (by omega) (hM _ _ h170) ⟨rfl, hM⟩⟩) ?_
 refine QE.op rfl rfl (.inl ⟨rfl, fun f' H' hf hM => AOp.load _ rfl ((hf 106 rfl).trans rfl) ty_70 (hM _ _ h170) (ldM ePatch_len (by omega) (by omega)) ⟨rfl, hM⟩⟩) ?_
 refine QE.op rfl rfl (.inl ⟨rfl, fun f' H' hf hM => AOp.move _ rfl ((hf 11 rfl).trans s145) ⟨rfl, hM⟩⟩) ?_
 refine QE.op rfl rfl (.inl ⟨rfl, fun f' H' hf hM => AOp.move _ rfl ((hf 13 rfl).trans s143) ⟨rfl, hM⟩⟩) ?_
 refine QE.op rfl rfl (.inl ⟨rfl, fun f' H' hf hM => AOp.indexAddrS rfl ((hf 108 rfl).trans rfl) ((hf 109 rfl).trans rfl) sl_63 (by omega) (by omega) ⟨rfl, hM⟩⟩) ?_
 refine QE.op rfl rfl (.inl ⟨rfl, fun f' H' hf hM => AOp.loadF _ rfl ((hf 110 rfl).trans rfl) ty_70 (ldM ePatch_len (by omega) (by omega)) ⟨rfl, hM⟩⟩) ?_
 refine QE.op rfl rfl (.inl ⟨rfl, fun f' H' hf hM => AOp.neAggD (p := True) rfl ((hf 107 rfl).trans rfl) ((hf 111 rfl).trans rfl) teq70 (by have hk := kokP (MO_.r j hj0 (by omega)); rw [← hsame] at hk; exact hk) (kokP (MO_.r j hj0 (by omega))) (iff_of_true trivial (congrArg ePatch hsame)) ⟨rfl, hM⟩⟩) ?_
 refine QE.done fun H171 m172 => ?_
 have o173 := Own.mono o147 m172
 have m174 := m148.trans m172
 refine AWP.condF rfl rfl ?_
 refine AWP.skip ?_
 refine AWP.region rfl ?_
 refine AOps.cons rfl rfl (AOp.move _ rfl s143 (AOps.cons rfl rfl (AOp.bin _ rfl rfl rfl (iadd (by omega)) (AOps.cons rfl rfl (AOp.assign _ rfl rfl ?_)))))
 refine AOps.nil ?_
 exact ⟨_, by omega, j + 1, rs, w9, rfl, rfl, s144, s145, s146, o173, m174, by omega, by omega, by exact MvF.next (by rw [← hke]; exact W_) hj0 (by omega) fun h => MO_.n (j + 1) (by omega) (by omega)⟩
 refine AWP.condF rfl (decide_eq_false b138) ?_
 refine AWP.exit ?_
 change AWP _ _ _ _ _ _
 refine AWP.seq (AWP.region rfl ?_)
 refine AOps.cons rfl rfl (AOp.assign _ rfl rfl ?_)
 refine AWP.ret ?_
 refine ⟨_, _, Ghost.refl, .inr rfl, _, Res.one rfl rfl, ?_, m137⟩
 exact rfl
 refine AWP.condT rfl (nb (decide_eq_false b49)) ?_
 refine AWP.seq (AWP.region rfl ?_)
 refine AOps.cons rfl rfl (AOp.assign _ rfl rfl ?_)
 refine AWP.ret ?_
 refine ⟨_, _, Ghost.refl, .inr rfl, _, Res.one rfl rfl, ?_, m48⟩
 exact rfl
 refine AOps.no rfl rfl rfl rfl rfl rfl rfl (ble_of (nb b45) (by decide)) (AOps.no rfl rfl rfl rfl rfl rfl rfl (ble_of (nb b45) (by decide)) (AOps.no rfl rfl rfl rfl rfl rfl rfl (ble_of (nb b45) (by decide)) (AOps.cons rfl rfl (AOp.pickT _ rfl rfl (nb b45) rfl ?_))))
 refine AWP.condT rfl rfl ?_
 refine AWP.seq (AWP.region rfl ?_)
 refine AOps.cons rfl rfl (AOp.assign _ rfl rfl ?_)
 refine AWP.ret ?_
 refine ⟨_, _, Ghost.refl, .inr rfl, _, Res.one rfl rfl, ?_, m43⟩
 exact rfl
end Go.Proofs.U
