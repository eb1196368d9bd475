/- A part of the proof that a law answers true for every input of its row: own work, by an AI agent. -/
import Derived.Test.YtfeafldgohceaaaB05
import Derived.Test.YtfeafldgohceaaaB01
import Derived.KernelRfl
import Derived.Test.YtfeafldgohceaaaB04
set_option linter.unusedSimpArgs false
set_option linter.unusedVariables false
set_option linter.defProp false
namespace Go.Proofs.U
open Go Go.AH Go.Proofs.T
set_option maxRecDepth 20000
def rowI (a k : Int) : Int := if a = 0 then k else if a = 1 then 3 + 4 * k else if a = 2 then 15 - k else 12 - 4 * k
def alongP (p : PatchT) (a k : Int) : VT := at_ p.aP (rowI a k)
structure Q4 where
  a : VT
  b : VT
  c : VT
  d : VT
  deriving DecidableEq
instance instQ4 : Inhabited Q4 := ⟨⟨default, default, default, default⟩⟩
def e4 (q : Q4) : List AV := [.int .i64 q.a.X, .int .i64 q.a.Y, .int .i64 q.a.Z, .int .i64 q.b.X, .int .i64 q.b.Y, .int .i64 q.b.Z, .int .i64 q.c.X, .int .i64 q.c.Y, .int .i64 q.c.Z, .int .i64 q.d.X, .int .i64 q.d.Y, .int .i64 q.d.Z]
theorem e4_iff (a b : Q4) : a = b ↔ e4 a = e4 b := by
  refine ⟨fun h => by rw [h], fun h => ?_⟩
  obtain ⟨⟨_, _, _⟩, ⟨_, _, _⟩, ⟨_, _, _⟩, ⟨_, _, _⟩⟩ := a; obtain ⟨⟨_, _, _⟩, ⟨_, _, _⟩, ⟨_, _, _⟩, ⟨_, _, _⟩⟩ := b
  simp [e4] at h
  simp [h]
def inR4 (q : Q4) : Prop := inV 65536 q.a ∧ inV 65536 q.b ∧ inV 65536 q.c ∧ inV 65536 q.d
theorem kok4 {q : Q4} (h : inR4 q) : KOK Try.prog 68 (.agg (e4 q)) := KOK.flat (xs := [q.a.X, q.a.Y, q.a.Z, q.b.X, q.b.Y, q.b.Z, q.c.X, q.c.Y, q.c.Z, q.d.X, q.d.Y, q.d.Z]) 6 (by kernel_rfl) (by kernel_rfl) (by kernel_rfl) (by kernel_rfl) (by kernel_rfl) (by
  obtain ⟨h1, h2, h3, h4⟩ := h
  intro x hx
  simp only [List.mem_cons, List.not_mem_nil, or_false] at hx
  unfold inV at h1 h2 h3 h4
  unfold inR
  rcases hx with rfl | rfl | rfl | rfl | rfl | rfl | rfl | rfl | rfl | rfl | rfl | rfl <;> omega)
theorem teq68 : TEq Try.prog 68 := TEq.mk' laid (m := 5) (by decide) (row_lt (by kernel_rfl)) (by kernel_rfl) (by kernel_rfl) (by kernel_rfl)
section
variable {vs : List VT} {fs : List (List Int)} {t : Tp} {sh : List Int} {hd : List (List VT)} {f g skin a b A B : Int}
theorem cases4 {P : Int → Prop} (h0 : P 0) (h1 : P 1) (h2 : P 2) (h3 : P 3) {a : Int} (a0 : 0 ≤ a) (a1 : a < 4) : P a := by
  have : a = 0 ∨ a = 1 ∨ a = 2 ∨ a = 3 := by omega
  rcases this with rfl | rfl | rfl | rfl <;> assumption
theorem along_q (a0 : 0 ≤ a) (a1 : a < 4) (hA : at_ (patchQ vs fs t sh hd f skin).aCorners a = A) (hB : at_ (patchQ vs fs t sh hd f skin).aCorners ((a + 1) % 4) = B) :
    (alongP (patchQ vs fs t sh hd f skin) a 0 = cornerQ vs fs t hd A ∧ alongP (patchQ vs fs t sh hd f skin) a 1 = edgeQ vs fs t sh hd A B ∧ alongP (patchQ vs fs t sh hd f skin) a 2 = edgeQ vs fs t sh hd B A ∧ alongP (patchQ vs fs t sh hd f skin) a 3 = cornerQ vs fs t hd B) ∧
    at_ (patchQ vs fs t sh hd f skin).aNormals a = normalQ vs fs t A ∧ at_ (patchQ vs fs t sh hd f skin).aNormals ((a + 1) % 4) = normalQ vs fs t B := by
  subst hA hB
  revert a0 a1
  intro a0 a1
  refine cases4 (P := fun a => (alongP (patchQ vs fs t sh hd f skin) a 0 = cornerQ vs fs t hd (at_ (patchQ vs fs t sh hd f skin).aCorners a) ∧ alongP (patchQ vs fs t sh hd f skin) a 1 = edgeQ vs fs t sh hd (at_ (patchQ vs fs t sh hd f skin).aCorners a) (at_ (patchQ vs fs t sh hd f skin).aCorners ((a + 1) % 4)) ∧ alongP (patchQ vs fs t sh hd f skin) a 2 = edgeQ vs fs t sh hd (at_ (patchQ vs fs t sh hd f skin).aCorners ((a + 1) % 4)) (at_ (patchQ vs fs t sh hd f skin).aCorners a) ∧ alongP (patchQ vs fs t sh hd f skin) a 3 = cornerQ vs fs t hd (at_ (patchQ vs fs t sh hd f skin).aCorners ((a + 1) % 4))) ∧
    at_ (patchQ vs fs t sh hd f skin).aNormals a = normalQ vs fs t (at_ (patchQ vs fs t sh hd f skin).aCorners a) ∧ at_ (patchQ vs fs t sh hd f skin).aNormals ((a + 1) % 4) = normalQ vs fs t (at_ (patchQ vs fs t sh hd f skin).aCorners ((a + 1) % 4))) ?_ ?_ ?_ ?_ a0 a1
  · exact ⟨⟨rfl, rfl, rfl, rfl⟩, rfl, rfl⟩
  · exact ⟨⟨rfl, rfl, rfl, rfl⟩, rfl, rfl⟩
  · exact ⟨⟨rfl, rfl, rfl, rfl⟩, rfl, rfl⟩
  · exact ⟨⟨rfl, rfl, rfl, rfl⟩, rfl, rfl⟩
end
section
variable {vs : List VT} {fs : List (List Int)} {cr : List CrT} {skin f g a b A B : Int}
theorem share_law (Q : QuF vs fs cr) (f0 : 0 ≤ f) (f1 : f < fs.length) (g0 : 0 ≤ g) (g1 : g < fs.length) (a0 : 0 ≤ a) (a1 : a < 4) (b0 : 0 ≤ b) (b1 : b < 4)
    (h1 : at_ (at_ (patR vs fs cr skin).1 f).aCorners a = A) (h2 : at_ (at_ (patR vs fs cr skin).1 f).aCorners ((a + 1) % 4) = B) (h3 : at_ (at_ (patR vs fs cr skin).1 g).aCorners b = B) (h4 : at_ (at_ (patR vs fs cr skin).1 g).aCorners ((b + 1) % 4) = A) :
    (alongP (at_ (patR vs fs cr skin).1 f) a 0 = alongP (at_ (patR vs fs cr skin).1 g) b 3 ∧ alongP (at_ (patR vs fs cr skin).1 f) a 1 = alongP (at_ (patR vs fs cr skin).1 g) b 2 ∧ alongP (at_ (patR vs fs cr skin).1 f) a 2 = alongP (at_ (patR vs fs cr skin).1 g) b 1 ∧ alongP (at_ (patR vs fs cr skin).1 f) a 3 = alongP (at_ (patR vs fs cr skin).1 g) b 0) ∧
    at_ (at_ (patR vs fs cr skin).1 f).aNormals a = at_ (at_ (patR vs fs cr skin).1 g).aNormals ((b + 1) % 4) ∧ at_ (at_ (patR vs fs cr skin).1 f).aNormals ((a + 1) % 4) = at_ (at_ (patR vs fs cr skin).1 g).aNormals b := by
  rw [pat_3 (skin := skin) Q.l0 Q.four] at *
  simp only at *
  rw [U_at f0 f1] at *
  rw [U_at g0 g1] at *
  have p := along_q a0 a1 h1 h2
  have q := along_q b0 b1 h3 h4
  rw [p.1.1, p.1.2.1, p.1.2.2.1, p.1.2.2.2, p.2.1, p.2.2, q.1.1, q.1.2.1, q.1.2.2.1, q.1.2.2.2, q.2.1, q.2.2]
  exact ⟨⟨rfl, rfl, rfl, rfl⟩, rfl, rfl⟩
theorem share_in (Q : QuF vs fs cr) (f0 : 0 ≤ f) (f1 : f < fs.length) (a0 : 0 ≤ a) (a1 : a < 4) : (∀ k : Int, 0 ≤ k → k < 4 → inV 65536 (alongP (at_ (patR vs fs cr skin).1 f) a k)) ∧ inV 65536 (at_ (at_ (patR vs fs cr skin).1 f).aNormals a) := by
  have S := shpF Q.mid Q.l0 Q.four
  rw [pat_3 (skin := skin) Q.l0 Q.four]
  simp only
  rw [U_at f0 f1]
  refine ⟨fun k k0 k1 => boxes_in.1 (S.pointB S.boxes f0 f1 _ ?_ ?_), inV_le (S.normalI f0 f1 a a0 a1) (by decide)⟩
  · unfold rowI; split <;> (try split) <;> (try split) <;> omega
  · unfold rowI; split <;> (try split) <;> (try split) <;> omega
end
end Go.Proofs.U
namespace Go.Proofs.U
open Go Go.AH Go.Proofs.T
set_option maxRecDepth 4000
set_option linter.unusedSimpArgs false
set_option linter.unusedVariables false
set_option maxHeartbeats 4000000
theorem c_along0 (p : PatchT) : PC Try.prog 31 [.agg (p.aP.flatMap eV ++ (p.aCorners.map eI ++ (p.aNormals.flatMap eV ++ [.int .i64 p.Skin]))), .int .i64 0] (.agg [.int .i64 ((alongP p 0 0).X), .int .i64 ((alongP p 0 0).Y), .int .i64 ((alongP p 0 0).Z), .int .i64 ((alongP p 0 1).X), .int .i64 ((alongP p 0 1).Y), .int .i64 ((alongP p 0 1).Z), .int .i64 ((alongP p 0 2).X), .int .i64 ((alongP p 0 2).Y), .int .i64 ((alongP p 0 2).Z), .int .i64 ((alongP p 0 3).X), .int .i64 ((alongP p 0 3).Y), .int .i64 ((alongP p 0 3).Z)]) := by
 intro H0
 refine ACalls.of_body' (n := 29) rfl rfl rfl rfl ?_
 have m0 := Mono.refl H0
 refine Sr ?_
 refine C rfl (bx_ (.agg (p.aP.flatMap eV ++ (p.aCorners.map eI ++ (p.aNormals.flatMap eV ++ [.int .i64 p.Skin])))) rfl rfl rfl ?_)
 intro i1 H2 n3 h4 k5
 have z6 := Mono.free m0 n3
 have m7 := Mono.new m0 n3 k5
 refine C rfl (al_ rfl tz_68 ?_)
 intro i8 H9 n10 h11 k12
 have e13 := ne_new h4 n10
 have z14 := Mono.free m7 n10
 have h15 := keep k12 (ne_new h4 n10) h4
 have m16 := Mono.new m7 n10 k12
 refine AWP.seq ?_
 refine fz_ 2 h15 z6 rfl m16 fun H17 m18 k19 => ?_
 have h20 := (k19 _ (Ne.symm e13)).trans h11
 refine AWP.region rfl ?_
 refine C rfl (Bl (cells := [.int .i64 0, .int .i64 1, .int .i64 2, .int .i64 3]) rfl tz_67 pl_67 rfl rfl (C rfl (Bl (cells := [.int .i64 3, .int .i64 7, .int .i64 11, .int .i64 15]) rfl tz_67 pl_67 rfl rfl (C rfl (Bl (cells := [.int .i64 15, .int .i64 14, .int .i64 13, .int .i64 12]) rfl tz_67 pl_67 rfl rfl (C rfl (Bl (cells := [.int .i64 12, .int .i64 8, .int .i64 4, .int .i64 0]) rfl tz_67 pl_67 rfl rfl (C rfl (Bl (cells := [.int .i64 0, .int .i64 1, .int .i64 2, .int .i64 3, .int .i64 3, .int .i64 7, .int .i64 11, .int .i64 15, .int .i64 15, .int .i64 14, .int .i64 13, .int .i64 12, .int .i64 12, .int .i64 8, .int .i64 4, .int .i64 0]) rfl tz_72 pl_72 rfl rfl (C rfl (al_ rfl tz_72 ?_)))))))))))
 intro i21 H22 n23 h24 k25
 have e26 := ne_new h20 n23
 have z27 := Mono.free m18 n23
 have h28 := keep k25 (ne_new h20 n23) h20
 have m29 := Mono.new m18 n23 k25
 refine C rfl (Sw rfl rfl ts_72 h24 rfl rfl rfl ?_)
 intro H30 h31 k32
 have h33 := keep k32 e26 h28
 have m35 := Mono.set m29 z27 k32
 refine AWP.seq ?_
 refine fz_ 5 h31 z27 rfl m35 fun H36 m37 k38 => ?_
 have h39 := (k38 _ e26).trans h33
 refine AWP.region rfl ?_
 refine C rfl (Bl (cells := (z3 (z3 (z3 (z3 ([])))))) rfl tz_68 pl_68 rfl rfl (C rfl (al_ rfl tz_68 ?_)))
 intro i40 H41 n42 h43 k44
 have e45 := ne_new h39 n42
 have z46 := Mono.free m37 n42
 have h47 := keep k44 (ne_new h39 n42) h39
 have m48 := Mono.new m37 n42 k44
 refine C rfl (Sw rfl rfl ts_68 h43 rfl rfl rfl ?_)
 intro H49 h50 k51
 have h52 := keep k51 e45 h47
 have m54 := Mono.set m48 z46 k51
 refine AWP.seq ?_
 refine Sr ?_
 refine A rfl rfl ?_
 refine bk_ ?_
 refine AWP.unroll 20 ?_
 refine UN.step ?_
 refine AWP.seq ?_
 refine Sr ?_
 refine V rfl rfl (B rfl rfl rfl rfl ?_)
 refine ct_ rfl (decide_eq_true (by decide)) ?_
 refine AWP.skip ?_
 refine AWP.seq ?_
 refine bk_ ?_
 refine AWP.region rfl ?_
 refine V rfl rfl (V rfl rfl (V rfl rfl (C rfl (iF_ rfl rfl rfl ar_72 (by omega) (by omega) (C rfl (iF_ rfl rfl rfl ar_67 (by omega) (by omega) (L rfl rfl ty_3 rfl (F rfl rfl fl_70_0 (C rfl (iF_ rfl rfl rfl ar_66 (by omega) (by omega) (L rfl rfl ty_42 (ld_fst (fun h => by first | rfl | cases h) (ldM eV_len (i := 0) (by omega) (by have := p.lP; omega))) (C rfl (iA_ rfl rfl rfl ar_68 (by omega) (by omega) ⟨_, h50⟩ (C rfl (So (cells' := (v3 (at_ p.aP 0) (z3 (z3 (z3 ([])))))) (.agg (eV (at_ p.aP 0))) rfl rfl ts_42 h50 rfl rfl rfl rfl ?_)))))))))))))))
 intro H55 h56 k57
 have h58 := keep k57 e45 h52
 have m60 := Mono.set m54 z46 k57
 refine AWP.region rfl ?_
 refine V rfl rfl (B rfl rfl rfl (iadd (by omega)) (A rfl rfl ?_))
 refine AOps.nil ?_
 refine UN.step ?_
 refine AWP.seq ?_
 refine Sr ?_
 refine V rfl rfl (B rfl rfl rfl rfl ?_)
 refine ct_ rfl (decide_eq_true (by decide)) ?_
 refine AWP.skip ?_
 refine AWP.seq ?_
 refine bk_ ?_
 refine AWP.region rfl ?_
 refine V rfl rfl (V rfl rfl (V rfl rfl (C rfl (iF_ rfl rfl rfl ar_72 (by omega) (by omega) (C rfl (iF_ rfl rfl rfl ar_67 (by omega) (by omega) (L rfl rfl ty_3 rfl (F rfl rfl fl_70_0 (C rfl (iF_ rfl rfl rfl ar_66 (by omega) (by omega) (L rfl rfl ty_42 (ld_fst (fun h => by first | rfl | cases h) (ldM eV_len (i := 1) (by omega) (by have := p.lP; omega))) (C rfl (iA_ rfl rfl rfl ar_68 (by omega) (by omega) ⟨_, h56⟩ (C rfl (So (cells' := (v3 (at_ p.aP 0) (v3 (at_ p.aP 1) (z3 (z3 ([])))))) (.agg (eV (at_ p.aP 1))) rfl rfl ts_42 h56 rfl rfl rfl rfl ?_)))))))))))))))
 intro H61 h62 k63
 have h64 := keep k63 e45 h58
 have m66 := Mono.set m60 z46 k63
 refine AWP.region rfl ?_
 refine V rfl rfl (B rfl rfl rfl (iadd (by omega)) (A rfl rfl ?_))
 refine AOps.nil ?_
 refine UN.step ?_
 refine AWP.seq ?_
 refine Sr ?_
 refine V rfl rfl (B rfl rfl rfl rfl ?_)
 refine ct_ rfl (decide_eq_true (by decide)) ?_
 refine AWP.skip ?_
 refine AWP.seq ?_
 refine bk_ ?_
 refine AWP.region rfl ?_
 refine V rfl rfl (V rfl rfl (V rfl rfl (C rfl (iF_ rfl rfl rfl ar_72 (by omega) (by omega) (C rfl (iF_ rfl rfl rfl ar_67 (by omega) (by omega) (L rfl rfl ty_3 rfl (F rfl rfl fl_70_0 (C rfl (iF_ rfl rfl rfl ar_66 (by omega) (by omega) (L rfl rfl ty_42 (ld_fst (fun h => by first | rfl | cases h) (ldM eV_len (i := 2) (by omega) (by have := p.lP; omega))) (C rfl (iA_ rfl rfl rfl ar_68 (by omega) (by omega) ⟨_, h62⟩ (C rfl (So (cells' := (v3 (at_ p.aP 0) (v3 (at_ p.aP 1) (v3 (at_ p.aP 2) (z3 ([])))))) (.agg (eV (at_ p.aP 2))) rfl rfl ts_42 h62 rfl rfl rfl rfl ?_)))))))))))))))
 intro H67 h68 k69
 have h70 := keep k69 e45 h64
 have m72 := Mono.set m66 z46 k69
 refine AWP.region rfl ?_
 refine V rfl rfl (B rfl rfl rfl (iadd (by omega)) (A rfl rfl ?_))
 refine AOps.nil ?_
 refine UN.step ?_
 refine AWP.seq ?_
 refine Sr ?_
 refine V rfl rfl (B rfl rfl rfl rfl ?_)
 refine ct_ rfl (decide_eq_true (by decide)) ?_
 refine AWP.skip ?_
 refine AWP.seq ?_
 refine bk_ ?_
 refine AWP.region rfl ?_
 refine V rfl rfl (V rfl rfl (V rfl rfl (C rfl (iF_ rfl rfl rfl ar_72 (by omega) (by omega) (C rfl (iF_ rfl rfl rfl ar_67 (by omega) (by omega) (L rfl rfl ty_3 rfl (F rfl rfl fl_70_0 (C rfl (iF_ rfl rfl rfl ar_66 (by omega) (by omega) (L rfl rfl ty_42 (ld_fst (fun h => by first | rfl | cases h) (ldM eV_len (i := 3) (by omega) (by have := p.lP; omega))) (C rfl (iA_ rfl rfl rfl ar_68 (by omega) (by omega) ⟨_, h68⟩ (C rfl (So (cells' := (v3 (at_ p.aP 0) (v3 (at_ p.aP 1) (v3 (at_ p.aP 2) (v3 (at_ p.aP 3) ([])))))) (.agg (eV (at_ p.aP 3))) rfl rfl ts_42 h68 rfl rfl rfl rfl ?_)))))))))))))))
 intro H73 h74 k75
 have h76 := keep k75 e45 h70
 have m78 := Mono.set m72 z46 k75
 refine AWP.region rfl ?_
 refine V rfl rfl (B rfl rfl rfl (iadd (by omega)) (A rfl rfl ?_))
 refine AOps.nil ?_
 refine UN.step ?_
 refine AWP.seq ?_
 refine Sr ?_
 refine V rfl rfl (B rfl rfl rfl rfl ?_)
 refine cf_ rfl (decide_eq_false (by decide)) ?_
 refine AWP.exit ?_
 change AWP _ _ _ _ _ _
 refine Sr ?_
 refine C rfl (Ld _ rfl rfl ty_68 h74 rfl (C rfl (Sw rfl rfl ts_68 h76 rfl rfl rfl ?_)))
 intro H79 h80 k81
 have m84 := Mono.set m78 z14 k81
 refine rt_ ?_
 refine Rr (Res.list1 rfl (.cell (v := .agg (v3 (at_ p.aP 0) (v3 (at_ p.aP 1) (v3 (at_ p.aP 2) (v3 (at_ p.aP 3) ([])))))) rfl ty_68 h80 rfl (.nil))) ?_ m84
 exact (congrArg AV.agg (lc (congrArg (AV.int .i64) (show ((at_ p.aP 0).X : Int) = (alongP p 0 0).X from by rfl)) (lc (congrArg (AV.int .i64) (show ((at_ p.aP 0).Y : Int) = (alongP p 0 0).Y from by rfl)) (lc (congrArg (AV.int .i64) (show ((at_ p.aP 0).Z : Int) = (alongP p 0 0).Z from by rfl)) (lc (congrArg (AV.int .i64) (show ((at_ p.aP 1).X : Int) = (alongP p 0 1).X from by rfl)) (lc (congrArg (AV.int .i64) (show ((at_ p.aP 1).Y : Int) = (alongP p 0 1).Y from by rfl)) (lc (congrArg (AV.int .i64) (show ((at_ p.aP 1).Z : Int) = (alongP p 0 1).Z from by rfl)) (lc (congrArg (AV.int .i64) (show ((at_ p.aP 2).X : Int) = (alongP p 0 2).X from by rfl)) (lc (congrArg (AV.int .i64) (show ((at_ p.aP 2).Y : Int) = (alongP p 0 2).Y from by rfl)) (lc (congrArg (AV.int .i64) (show ((at_ p.aP 2).Z : Int) = (alongP p 0 2).Z from by rfl)) (lc (congrArg (AV.int .i64) (show ((at_ p.aP 3).X : Int) = (alongP p 0 3).X from by rfl)) (lc (congrArg (AV.int .i64) (show ((at_ p.aP 3).Y : Int) = (alongP p 0 3).Y from by rfl)) (lc (congrArg (AV.int .i64) (show ((at_ p.aP 3).Z : Int) = (alongP p 0 3).Z from by rfl)) rfl)))))))))))))
theorem c_along1 (p : PatchT) : PC Try.prog 31 [.agg (p.aP.flatMap eV ++ (p.aCorners.map eI ++ (p.aNormals.flatMap eV ++ [.int .i64 p.Skin]))), .int .i64 1] (.agg [.int .i64 ((alongP p 1 0).X), .int .i64 ((alongP p 1 0).Y), .int .i64 ((alongP p 1 0).Z), .int .i64 ((alongP p 1 1).X), .int .i64 ((alongP p 1 1).Y), .int .i64 ((alongP p 1 1).Z), .int .i64 ((alongP p 1 2).X), .int .i64 ((alongP p 1 2).Y), .int .i64 ((alongP p 1 2).Z), .int .i64 ((alongP p 1 3).X), .int .i64 ((alongP p 1 3).Y), .int .i64 ((alongP p 1 3).Z)]) := by
 intro H0
 refine ACalls.of_body' (n := 29) rfl rfl rfl rfl ?_
 have m0 := Mono.refl H0
 refine Sr ?_
 refine C rfl (bx_ (.agg (p.aP.flatMap eV ++ (p.aCorners.map eI ++ (p.aNormals.flatMap eV ++ [.int .i64 p.Skin])))) rfl rfl rfl ?_)
 intro i1 H2 n3 h4 k5
 have z6 := Mono.free m0 n3
 have m7 := Mono.new m0 n3 k5
 refine C rfl (al_ rfl tz_68 ?_)
 intro i8 H9 n10 h11 k12
 have e13 := ne_new h4 n10
 have z14 := Mono.free m7 n10
 have h15 := keep k12 (ne_new h4 n10) h4
 have m16 := Mono.new m7 n10 k12
 refine AWP.seq ?_
 refine fz_ 2 h15 z6 rfl m16 fun H17 m18 k19 => ?_
 have h20 := (k19 _ (Ne.symm e13)).trans h11
 refine AWP.region rfl ?_
 refine C rfl (Bl (cells := [.int .i64 0, .int .i64 1, .int .i64 2, .int .i64 3]) rfl tz_67 pl_67 rfl rfl (C rfl (Bl (cells := [.int .i64 3, .int .i64 7, .int .i64 11, .int .i64 15]) rfl tz_67 pl_67 rfl rfl (C rfl (Bl (cells := [.int .i64 15, .int .i64 14, .int .i64 13, .int .i64 12]) rfl tz_67 pl_67 rfl rfl (C rfl (Bl (cells := [.int .i64 12, .int .i64 8, .int .i64 4, .int .i64 0]) rfl tz_67 pl_67 rfl rfl (C rfl (Bl (cells := [.int .i64 0, .int .i64 1, .int .i64 2, .int .i64 3, .int .i64 3, .int .i64 7, .int .i64 11, .int .i64 15, .int .i64 15, .int .i64 14, .int .i64 13, .int .i64 12, .int .i64 12, .int .i64 8, .int .i64 4, .int .i64 0]) rfl tz_72 pl_72 rfl rfl (C rfl (al_ rfl tz_72 ?_)))))))))))
 intro i21 H22 n23 h24 k25
 have e26 := ne_new h20 n23
 have z27 := Mono.free m18 n23
 have h28 := keep k25 (ne_new h20 n23) h20
 have m29 := Mono.new m18 n23 k25
 refine C rfl (Sw rfl rfl ts_72 h24 rfl rfl rfl ?_)
 intro H30 h31 k32
 have h33 := keep k32 e26 h28
 have m35 := Mono.set m29 z27 k32
 refine AWP.seq ?_
 refine fz_ 5 h31 z27 rfl m35 fun H36 m37 k38 => ?_
 have h39 := (k38 _ e26).trans h33
 refine AWP.region rfl ?_
 refine C rfl (Bl (cells := (z3 (z3 (z3 (z3 ([])))))) rfl tz_68 pl_68 rfl rfl (C rfl (al_ rfl tz_68 ?_)))
 intro i40 H41 n42 h43 k44
 have e45 := ne_new h39 n42
 have z46 := Mono.free m37 n42
 have h47 := keep k44 (ne_new h39 n42) h39
 have m48 := Mono.new m37 n42 k44
 refine C rfl (Sw rfl rfl ts_68 h43 rfl rfl rfl ?_)
 intro H49 h50 k51
 have h52 := keep k51 e45 h47
 have m54 := Mono.set m48 z46 k51
 refine AWP.seq ?_
 refine Sr ?_
 refine A rfl rfl ?_
 refine bk_ ?_
 refine AWP.unroll 20 ?_
 refine UN.step ?_
 refine AWP.seq ?_
 refine Sr ?_
 refine V rfl rfl (B rfl rfl rfl rfl ?_)
 refine ct_ rfl (decide_eq_true (by decide)) ?_
 refine AWP.skip ?_
 refine AWP.seq ?_
 refine bk_ ?_
 refine AWP.region rfl ?_
 refine V rfl rfl (V rfl rfl (V rfl rfl (C rfl (iF_ rfl rfl rfl ar_72 (by omega) (by omega) (C rfl (iF_ rfl rfl rfl ar_67 (by omega) (by omega) (L rfl rfl ty_3 rfl (F rfl rfl fl_70_0 (C rfl (iF_ rfl rfl rfl ar_66 (by omega) (by omega) (L rfl rfl ty_42 (ld_fst (fun h => by first | rfl | cases h) (ldM eV_len (i := 3) (by omega) (by have := p.lP; omega))) (C rfl (iA_ rfl rfl rfl ar_68 (by omega) (by omega) ⟨_, h50⟩ (C rfl (So (cells' := (v3 (at_ p.aP 3) (z3 (z3 (z3 ([])))))) (.agg (eV (at_ p.aP 3))) rfl rfl ts_42 h50 rfl rfl rfl rfl ?_)))))))))))))))
 intro H55 h56 k57
 have h58 := keep k57 e45 h52
 have m60 := Mono.set m54 z46 k57
 refine AWP.region rfl ?_
 refine V rfl rfl (B rfl rfl rfl (iadd (by omega)) (A rfl rfl ?_))
 refine AOps.nil ?_
 refine UN.step ?_
 refine AWP.seq ?_
 refine Sr ?_
 refine V rfl rfl (B rfl rfl rfl rfl ?_)
 refine ct_ rfl (decide_eq_true (by decide)) ?_
 refine AWP.skip ?_
 refine AWP.seq ?_
 refine bk_ ?_
 refine AWP.region rfl ?_
 refine V rfl rfl (V rfl rfl (V rfl rfl (C rfl (iF_ rfl rfl rfl ar_72 (by omega) (by omega) (C rfl (iF_ rfl rfl rfl ar_67 (by omega) (by omega) (L rfl rfl ty_3 rfl (F rfl rfl fl_70_0 (C rfl (iF_ rfl rfl rfl ar_66 (by omega) (by omega) (L rfl rfl ty_42 (ld_fst (fun h => by first | rfl | cases h) (ldM eV_len (i := 7) (by omega) (by have := p.lP; omega))) (C rfl (iA_ rfl rfl rfl ar_68 (by omega) (by omega) ⟨_, h56⟩ (C rfl (So (cells' := (v3 (at_ p.aP 3) (v3 (at_ p.aP 7) (z3 (z3 ([])))))) (.agg (eV (at_ p.aP 7))) rfl rfl ts_42 h56 rfl rfl rfl rfl ?_)))))))))))))))
 intro H61 h62 k63
 have h64 := keep k63 e45 h58
 have m66 := Mono.set m60 z46 k63
 refine AWP.region rfl ?_
 refine V rfl rfl (B rfl rfl rfl (iadd (by omega)) (A rfl rfl ?_))
 refine AOps.nil ?_
 refine UN.step ?_
 refine AWP.seq ?_
 refine Sr ?_
 refine V rfl rfl (B rfl rfl rfl rfl ?_)
 refine ct_ rfl (decide_eq_true (by decide)) ?_
 refine AWP.skip ?_
 refine AWP.seq ?_
 refine bk_ ?_
 refine AWP.region rfl ?_
 refine V rfl rfl (V rfl rfl (V rfl rfl (C rfl (iF_ rfl rfl rfl ar_72 (by omega) (by omega) (C rfl (iF_ rfl rfl rfl ar_67 (by omega) (by omega) (L rfl rfl ty_3 rfl (F rfl rfl fl_70_0 (C rfl (iF_ rfl rfl rfl ar_66 (by omega) (by omega) (L rfl rfl ty_42 (ld_fst (fun h => by first | rfl | cases h) (ldM eV_len (i := 11) (by omega) (by have := p.lP; omega))) (C rfl (iA_ rfl rfl rfl ar_68 (by omega) (by omega) ⟨_, h62⟩ (C rfl (So (cells' := (v3 (at_ p.aP 3) (v3 (at_ p.aP 7) (v3 (at_ p.aP 11) (z3 ([])))))) (.agg (eV (at_ p.aP 11))) rfl rfl ts_42 h62 rfl rfl rfl rfl ?_)))))))))))))))
 intro H67 h68 k69
 have h70 := keep k69 e45 h64
 have m72 := Mono.set m66 z46 k69
 refine AWP.region rfl ?_
 refine V rfl rfl (B rfl rfl rfl (iadd (by omega)) (A rfl rfl ?_))
 refine AOps.nil ?_
 refine UN.step ?_
 refine AWP.seq ?_
 refine Sr ?_
 refine V rfl rfl (B rfl rfl rfl rfl ?_)
 refine ct_ rfl (decide_eq_true (by decide)) ?_
 refine AWP.skip ?_
 refine AWP.seq ?_
 refine bk_ ?_
 refine AWP.region rfl ?_
 refine V rfl rfl (V rfl rfl (V rfl rfl (C rfl (iF_ rfl rfl rfl ar_72 (by omega) (by omega) (C rfl (iF_ rfl rfl rfl ar_67 (by omega) (by omega) (L rfl rfl ty_3 rfl (F rfl rfl fl_70_0 (C rfl (iF_ rfl rfl rfl ar_66 (by omega) (by omega) (L rfl rfl ty_42 (ld_fst (fun h => by first | rfl | cases h) (ldM eV_len (i := 15) (by omega) (by have := p.lP; omega))) (C rfl (iA_ rfl rfl rfl ar_68 (by omega) (by omega) ⟨_, h68⟩ (C rfl (So (cells' := (v3 (at_ p.aP 3) (v3 (at_ p.aP 7) (v3 (at_ p.aP 11) (v3 (at_ p.aP 15) ([])))))) (.agg (eV (at_ p.aP 15))) rfl rfl ts_42 h68 rfl rfl rfl rfl ?_)))))))))))))))
 intro H73 h74 k75
 have h76 := keep k75 e45 h70
 have m78 := Mono.set m72 z46 k75
 refine AWP.region rfl ?_
 refine V rfl rfl (B rfl rfl rfl (iadd (by omega)) (A rfl rfl ?_))
 refine AOps.nil ?_
 refine UN.step ?_
 refine AWP.seq ?_
 refine Sr ?_
 refine V rfl rfl (B rfl rfl rfl rfl ?_)
 refine cf_ rfl (decide_eq_false (by decide)) ?_
 refine AWP.exit ?_
 change AWP _ _ _ _ _ _
 refine Sr ?_
 refine C rfl (Ld _ rfl rfl ty_68 h74 rfl (C rfl (Sw rfl rfl ts_68 h76 rfl rfl rfl ?_)))
 intro H79 h80 k81
 have m84 := Mono.set m78 z14 k81
 refine rt_ ?_
 refine Rr (Res.list1 rfl (.cell (v := .agg (v3 (at_ p.aP 3) (v3 (at_ p.aP 7) (v3 (at_ p.aP 11) (v3 (at_ p.aP 15) ([])))))) rfl ty_68 h80 rfl (.nil))) ?_ m84
 exact (congrArg AV.agg (lc (congrArg (AV.int .i64) (show ((at_ p.aP 3).X : Int) = (alongP p 1 0).X from by rfl)) (lc (congrArg (AV.int .i64) (show ((at_ p.aP 3).Y : Int) = (alongP p 1 0).Y from by rfl)) (lc (congrArg (AV.int .i64) (show ((at_ p.aP 3).Z : Int) = (alongP p 1 0).Z from by rfl)) (lc (congrArg (AV.int .i64) (show ((at_ p.aP 7).X : Int) = (alongP p 1 1).X from by rfl)) (lc (congrArg (AV.int .i64) (show ((at_ p.aP 7).Y : Int) = (alongP p 1 1).Y from by rfl)) (lc (congrArg (AV.int .i64) (show ((at_ p.aP 7).Z : Int) = (alongP p 1 1).Z from by rfl)) (lc (congrArg (AV.int .i64) (show ((at_ p.aP 11).X : Int) = (alongP p 1 2).X from by rfl)) (lc (congrArg (AV.int .i64) (show ((at_ p.aP 11).Y : Int) = (alongP p 1 2).Y from by rfl)) (lc (congrArg (AV.int .i64) (show ((at_ p.aP 11).Z : Int) = (alongP p 1 2).Z from by rfl)) (lc (congrArg (AV.int .i64) (show ((at_ p.aP 15).X : Int) = (alongP p 1 3).X from by rfl)) (lc (congrArg (AV.int .i64) (show ((at_ p.aP 15).Y : Int) = (alongP p 1 3).Y from by rfl)) (lc (congrArg (AV.int .i64) (show ((at_ p.aP 15).Z : Int) = (alongP p 1 3).Z from by rfl)) rfl)))))))))))))
theorem c_along2 (p : PatchT) : PC Try.prog 31 [.agg (p.aP.flatMap eV ++ (p.aCorners.map eI ++ (p.aNormals.flatMap eV ++ [.int .i64 p.Skin]))), .int .i64 2] (.agg [.int .i64 ((alongP p 2 0).X), .int .i64 ((alongP p 2 0).Y), .int .i64 ((alongP p 2 0).Z), .int .i64 ((alongP p 2 1).X), .int .i64 ((alongP p 2 1).Y), .int .i64 ((alongP p 2 1).Z), .int .i64 ((alongP p 2 2).X), .int .i64 ((alongP p 2 2).Y), .int .i64 ((alongP p 2 2).Z), .int .i64 ((alongP p 2 3).X), .int .i64 ((alongP p 2 3).Y), .int .i64 ((alongP p 2 3).Z)]) := by
 intro H0
 refine ACalls.of_body' (n := 29) rfl rfl rfl rfl ?_
 have m0 := Mono.refl H0
 refine Sr ?_
 refine C rfl (bx_ (.agg (p.aP.flatMap eV ++ (p.aCorners.map eI ++ (p.aNormals.flatMap eV ++ [.int .i64 p.Skin])))) rfl rfl rfl ?_)
 intro i1 H2 n3 h4 k5
 have z6 := Mono.free m0 n3
 have m7 := Mono.new m0 n3 k5
 refine C rfl (al_ rfl tz_68 ?_)
 intro i8 H9 n10 h11 k12
 have e13 := ne_new h4 n10
 have z14 := Mono.free m7 n10
 have h15 := keep k12 (ne_new h4 n10) h4
 have m16 := Mono.new m7 n10 k12
 refine AWP.seq ?_
 refine fz_ 2 h15 z6 rfl m16 fun H17 m18 k19 => ?_
 have h20 := (k19 _ (Ne.symm e13)).trans h11
 refine AWP.region rfl ?_
 refine C rfl (Bl (cells := [.int .i64 0, .int .i64 1, .int .i64 2, .int .i64 3]) rfl tz_67 pl_67 rfl rfl (C rfl (Bl (cells := [.int .i64 3, .int .i64 7, .int .i64 11, .int .i64 15]) rfl tz_67 pl_67 rfl rfl (C rfl (Bl (cells := [.int .i64 15, .int .i64 14, .int .i64 13, .int .i64 12]) rfl tz_67 pl_67 rfl rfl (C rfl (Bl (cells := [.int .i64 12, .int .i64 8, .int .i64 4, .int .i64 0]) rfl tz_67 pl_67 rfl rfl (C rfl (Bl (cells := [.int .i64 0, .int .i64 1, .int .i64 2, .int .i64 3, .int .i64 3, .int .i64 7, .int .i64 11, .int .i64 15, .int .i64 15, .int .i64 14, .int .i64 13, .int .i64 12, .int .i64 12, .int .i64 8, .int .i64 4, .int .i64 0]) rfl tz_72 pl_72 rfl rfl (C rfl (al_ rfl tz_72 ?_)))))))))))
 intro i21 H22 n23 h24 k25
 have e26 := ne_new h20 n23
 have z27 := Mono.free m18 n23
 have h28 := keep k25 (ne_new h20 n23) h20
 have m29 := Mono.new m18 n23 k25
 refine C rfl (Sw rfl rfl ts_72 h24 rfl rfl rfl ?_)
 intro H30 h31 k32
 have h33 := keep k32 e26 h28
 have m35 := Mono.set m29 z27 k32
 refine AWP.seq ?_
 refine fz_ 5 h31 z27 rfl m35 fun H36 m37 k38 => ?_
 have h39 := (k38 _ e26).trans h33
 refine AWP.region rfl ?_
 refine C rfl (Bl (cells := (z3 (z3 (z3 (z3 ([])))))) rfl tz_68 pl_68 rfl rfl (C rfl (al_ rfl tz_68 ?_)))
 intro i40 H41 n42 h43 k44
 have e45 := ne_new h39 n42
 have z46 := Mono.free m37 n42
 have h47 := keep k44 (ne_new h39 n42) h39
 have m48 := Mono.new m37 n42 k44
 refine C rfl (Sw rfl rfl ts_68 h43 rfl rfl rfl ?_)
 intro H49 h50 k51
 have h52 := keep k51 e45 h47
 have m54 := Mono.set m48 z46 k51
 refine AWP.seq ?_
 refine Sr ?_
 refine A rfl rfl ?_
 refine bk_ ?_
 refine AWP.unroll 20 ?_
 refine UN.step ?_
 refine AWP.seq ?_
 refine Sr ?_
 refine V rfl rfl (B rfl rfl rfl rfl ?_)
 refine ct_ rfl (decide_eq_true (by decide)) ?_
 refine AWP.skip ?_
 refine AWP.seq ?_
 refine bk_ ?_
 refine AWP.region rfl ?_
 refine V rfl rfl (V rfl rfl (V rfl rfl (C rfl (iF_ rfl rfl rfl ar_72 (by omega) (by omega) (C rfl (iF_ rfl rfl rfl ar_67 (by omega) (by omega) (L rfl rfl ty_3 rfl (F rfl rfl fl_70_0 (C rfl (iF_ rfl rfl rfl ar_66 (by omega) (by omega) (L rfl rfl ty_42 (ld_fst (fun h => by first | rfl | cases h) (ldM eV_len (i := 15) (by omega) (by have := p.lP; omega))) (C rfl (iA_ rfl rfl rfl ar_68 (by omega) (by omega) ⟨_, h50⟩ (C rfl (So (cells' := (v3 (at_ p.aP 15) (z3 (z3 (z3 ([])))))) (.agg (eV (at_ p.aP 15))) rfl rfl ts_42 h50 rfl rfl rfl rfl ?_)))))))))))))))
 intro H55 h56 k57
 have h58 := keep k57 e45 h52
 have m60 := Mono.set m54 z46 k57
 refine AWP.region rfl ?_
 refine V rfl rfl (B rfl rfl rfl (iadd (by omega)) (A rfl rfl ?_))
 refine AOps.nil ?_
 refine UN.step ?_
 refine AWP.seq ?_
 refine Sr ?_
 refine V rfl rfl (B rfl rfl rfl rfl ?_)
 refine ct_ rfl (decide_eq_true (by decide)) ?_
 refine AWP.skip ?_
 refine AWP.seq ?_
 refine bk_ ?_
 refine AWP.region rfl ?_
 refine V rfl rfl (V rfl rfl (V rfl rfl (C rfl (iF_ rfl rfl rfl ar_72 (by omega) (by omega) (C rfl (iF_ rfl rfl rfl ar_67 (by omega) (by omega) (L rfl rfl ty_3 rfl (F rfl rfl fl_70_0 (C rfl (iF_ rfl rfl rfl ar_66 (by omega) (by omega) (L rfl rfl ty_42 (ld_fst (fun h => by first | rfl | cases h) (ldM eV_len (i := 14) (by omega) (by have := p.lP; omega))) (C rfl (iA_ rfl rfl rfl ar_68 (by omega) (by omega) ⟨_, h56⟩ (C rfl (So (cells' := (v3 (at_ p.aP 15) (v3 (at_ p.aP 14) (z3 (z3 ([])))))) (.agg (eV (at_ p.aP 14))) rfl rfl ts_42 h56 rfl rfl rfl rfl ?_)))))))))))))))
 intro H61 h62 k63
 have h64 := keep k63 e45 h58
 have m66 := Mono.set m60 z46 k63
 refine AWP.region rfl ?_
 refine V rfl rfl (B rfl rfl rfl (iadd (by omega)) (A rfl rfl ?_))
 refine AOps.nil ?_
 refine UN.step ?_
 refine AWP.seq ?_
 refine Sr ?_
 refine V rfl rfl (B rfl rfl rfl rfl ?_)
 refine ct_ rfl (decide_eq_true (by decide)) ?_
 refine AWP.skip ?_
 refine AWP.seq ?_
 refine bk_ ?_
 refine AWP.region rfl ?_
 refine V rfl rfl (V rfl rfl (V rfl rfl (C rfl (iF_ rfl rfl rfl ar_72 (by omega) (by omega) (C rfl (iF_ rfl rfl rfl ar_67 (by omega) (by omega) (L rfl rfl ty_3 rfl (F rfl rfl fl_70_0 (C rfl (iF_ rfl rfl rfl ar_66 (by omega) (by omega) (L rfl rfl ty_42 (ld_fst (fun h => by first | rfl | cases h) (ldM eV_len (i := 13) (by omega) (by have := p.lP; omega))) (C rfl (iA_ rfl rfl rfl ar_68 (by omega) (by omega) ⟨_, h62⟩ (C rfl (So (cells' := (v3 (at_ p.aP 15) (v3 (at_ p.aP 14) (v3 (at_ p.aP 13) (z3 ([])))))) (.agg (eV (at_ p.aP 13))) rfl rfl ts_42 h62 rfl rfl rfl rfl ?_)))))))))))))))
 intro H67 h68 k69
 have h70 := keep k69 e45 h64
 have m72 := Mono.set m66 z46 k69
 refine AWP.region rfl ?_
 refine V rfl rfl (B rfl rfl rfl (iadd (by omega)) (A rfl rfl ?_))
 refine AOps.nil ?_
 refine UN.step ?_
 refine AWP.seq ?_
 refine Sr ?_
 refine V rfl rfl (B rfl rfl rfl rfl ?_)
 refine ct_ rfl (decide_eq_true (by decide)) ?_
 refine AWP.skip ?_
 refine AWP.seq ?_
 refine bk_ ?_
 refine AWP.region rfl ?_
 refine V rfl rfl (V rfl rfl (V rfl rfl (C rfl (iF_ rfl rfl rfl ar_72 (by omega) (by omega) (C rfl (iF_ rfl rfl rfl ar_67 (by omega) (by omega) (L rfl rfl ty_3 rfl (F rfl rfl fl_70_0 (C rfl (iF_ rfl rfl rfl ar_66 (by omega) (by omega) (L rfl rfl ty_42 (ld_fst (fun h => by first | rfl | cases h) (ldM eV_len (i := 12) (by omega) (by have := p.lP; omega))) (C rfl (iA_ rfl rfl rfl ar_68 (by omega) (by omega) ⟨_, h68⟩ (C rfl (So (cells' := (v3 (at_ p.aP 15) (v3 (at_ p.aP 14) (v3 (at_ p.aP 13) (v3 (at_ p.aP 12) ([])))))) (.agg (eV (at_ p.aP 12))) rfl rfl ts_42 h68 rfl rfl rfl rfl ?_)))))))))))))))
 intro H73 h74 k75
 have h76 := keep k75 e45 h70
 have m78 := Mono.set m72 z46 k75
 refine AWP.region rfl ?_
 refine V rfl rfl (B rfl rfl rfl (iadd (by omega)) (A rfl rfl ?_))
 refine AOps.nil ?_
 refine UN.step ?_
 refine AWP.seq ?_
 refine Sr ?_
 refine V rfl rfl (B rfl rfl rfl rfl ?_)
 refine cf_ rfl (decide_eq_false (by decide)) ?_
 refine AWP.exit ?_
 change AWP _ _ _ _ _ _
 refine Sr ?_
 refine C rfl (Ld _ rfl rfl ty_68 h74 rfl (C rfl (Sw rfl rfl ts_68 h76 rfl rfl rfl ?_)))
 intro H79 h80 k81
 have m84 := Mono.set m78 z14 k81
 refine rt_ ?_
 refine Rr (Res.list1 rfl (.cell (v := .agg (v3 (at_ p.aP 15) (v3 (at_ p.aP 14) (v3 (at_ p.aP 13) (v3 (at_ p.aP 12) ([])))))) rfl ty_68 h80 rfl (.nil))) ?_ m84
 exact (congrArg AV.agg (lc (congrArg (AV.int .i64) (show ((at_ p.aP 15).X : Int) = (alongP p 2 0).X from by rfl)) (lc (congrArg (AV.int .i64) (show ((at_ p.aP 15).Y : Int) = (alongP p 2 0).Y from by rfl)) (lc (congrArg (AV.int .i64) (show ((at_ p.aP 15).Z : Int) = (alongP p 2 0).Z from by rfl)) (lc (congrArg (AV.int .i64) (show ((at_ p.aP 14).X : Int) = (alongP p 2 1).X from by rfl)) (lc (congrArg (AV.int .i64) (show ((at_ p.aP 14).Y : Int) = (alongP p 2 1).Y from by rfl)) (lc (congrArg (AV.int .i64) (show ((at_ p.aP 14).Z : Int) = (alongP p 2 1).Z from by rfl)) (lc (congrArg (AV.int .i64) (show ((at_ p.aP 13).X : Int) = (alongP p 2 2).X from by rfl)) (lc (congrArg (AV.int .i64) (show ((at_ p.aP 13).Y : Int) = (alongP p 2 2).Y from by rfl)) (lc (congrArg (AV.int .i64) (show ((at_ p.aP 13).Z : Int) = (alongP p 2 2).Z from by rfl)) (lc (congrArg (AV.int .i64) (show ((at_ p.aP 12).X : Int) = (alongP p 2 3).X from by rfl)) (lc (congrArg (AV.int .i64) (show ((at_ p.aP 12).Y : Int) = (alongP p 2 3).Y from by rfl)) (lc (congrArg (AV.int .i64) (show ((at_ p.aP 12).Z : Int) = (alongP p 2 3).Z from by rfl)) rfl)))))))))))))
theorem c_along3 (p : PatchT) : PC Try.prog 31 [.agg (p.aP.flatMap eV ++ (p.aCorners.map eI ++ (p.aNormals.flatMap eV ++ [.int .i64 p.Skin]))), .int .i64 3] (.agg [.int .i64 ((alongP p 3 0).X), .int .i64 ((alongP p 3 0).Y), .int .i64 ((alongP p 3 0).Z), .int .i64 ((alongP p 3 1).X), .int .i64 ((alongP p 3 1).Y), .int .i64 ((alongP p 3 1).Z), .int .i64 ((alongP p 3 2).X), .int .i64 ((alongP p 3 2).Y), .int .i64 ((alongP p 3 2).Z), .int .i64 ((alongP p 3 3).X), .int .i64 ((alongP p 3 3).Y), .int .i64 ((alongP p 3 3).Z)]) := by
 intro H0
 refine ACalls.of_body' (n := 29) rfl rfl rfl rfl ?_
 have m0 := Mono.refl H0
 refine Sr ?_
 refine C rfl (bx_ (.agg (p.aP.flatMap eV ++ (p.aCorners.map eI ++ (p.aNormals.flatMap eV ++ [.int .i64 p.Skin])))) rfl rfl rfl ?_)
 intro i1 H2 n3 h4 k5
 have z6 := Mono.free m0 n3
 have m7 := Mono.new m0 n3 k5
 refine C rfl (al_ rfl tz_68 ?_)
 intro i8 H9 n10 h11 k12
 have e13 := ne_new h4 n10
 have z14 := Mono.free m7 n10
 have h15 := keep k12 (ne_new h4 n10) h4
 have m16 := Mono.new m7 n10 k12
 refine AWP.seq ?_
 refine fz_ 2 h15 z6 rfl m16 fun H17 m18 k19 => ?_
 have h20 := (k19 _ (Ne.symm e13)).trans h11
 refine AWP.region rfl ?_
 refine C rfl (Bl (cells := [.int .i64 0, .int .i64 1, .int .i64 2, .int .i64 3]) rfl tz_67 pl_67 rfl rfl (C rfl (Bl (cells := [.int .i64 3, .int .i64 7, .int .i64 11, .int .i64 15]) rfl tz_67 pl_67 rfl rfl (C rfl (Bl (cells := [.int .i64 15, .int .i64 14, .int .i64 13, .int .i64 12]) rfl tz_67 pl_67 rfl rfl (C rfl (Bl (cells := [.int .i64 12, .int .i64 8, .int .i64 4, .int .i64 0]) rfl tz_67 pl_67 rfl rfl (C rfl (Bl (cells := [.int .i64 0, .int .i64 1, .int .i64 2, .int .i64 3, .int .i64 3, .int .i64 7, .int .i64 11, .int .i64 15, .int .i64 15, .int .i64 14, .int .i64 13, .int .i64 12, .int .i64 12, .int .i64 8, .int .i64 4, .int .i64 0]) rfl tz_72 pl_72 rfl rfl (C rfl (al_ rfl tz_72 ?_)))))))))))
 intro i21 H22 n23 h24 k25
 have e26 := ne_new h20 n23
 have z27 := Mono.free m18 n23
 have h28 := keep k25 (ne_new h20 n23) h20
 have m29 := Mono.new m18 n23 k25
 refine C rfl (Sw rfl rfl ts_72 h24 rfl rfl rfl ?_)
 intro H30 h31 k32
 have h33 := keep k32 e26 h28
 have m35 := Mono.set m29 z27 k32
 refine AWP.seq ?_
 refine fz_ 5 h31 z27 rfl m35 fun H36 m37 k38 => ?_
 have h39 := (k38 _ e26).trans h33
 refine AWP.region rfl ?_
 refine C rfl (Bl (cells := (z3 (z3 (z3 (z3 ([])))))) rfl tz_68 pl_68 rfl rfl (C rfl (al_ rfl tz_68 ?_)))
 intro i40 H41 n42 h43 k44
 have e45 := ne_new h39 n42
 have z46 := Mono.free m37 n42
 have h47 := keep k44 (ne_new h39 n42) h39
 have m48 := Mono.new m37 n42 k44
 refine C rfl (Sw rfl rfl ts_68 h43 rfl rfl rfl ?_)
 intro H49 h50 k51
 have h52 := keep k51 e45 h47
 have m54 := Mono.set m48 z46 k51
 refine AWP.seq ?_
 refine Sr ?_
 refine A rfl rfl ?_
 refine bk_ ?_
 refine AWP.unroll 20 ?_
 refine UN.step ?_
 refine AWP.seq ?_
 refine Sr ?_
 refine V rfl rfl (B rfl rfl rfl rfl ?_)
 refine ct_ rfl (decide_eq_true (by decide)) ?_
 refine AWP.skip ?_
 refine AWP.seq ?_
 refine bk_ ?_
 refine AWP.region rfl ?_
 refine V rfl rfl (V rfl rfl (V rfl rfl (C rfl (iF_ rfl rfl rfl ar_72 (by omega) (by omega) (C rfl (iF_ rfl rfl rfl ar_67 (by omega) (by omega) (L rfl rfl ty_3 rfl (F rfl rfl fl_70_0 (C rfl (iF_ rfl rfl rfl ar_66 (by omega) (by omega) (L rfl rfl ty_42 (ld_fst (fun h => by first | rfl | cases h) (ldM eV_len (i := 12) (by omega) (by have := p.lP; omega))) (C rfl (iA_ rfl rfl rfl ar_68 (by omega) (by omega) ⟨_, h50⟩ (C rfl (So (cells' := (v3 (at_ p.aP 12) (z3 (z3 (z3 ([])))))) (.agg (eV (at_ p.aP 12))) rfl rfl ts_42 h50 rfl rfl rfl rfl ?_)))))))))))))))
 intro H55 h56 k57
 have h58 := keep k57 e45 h52
 have m60 := Mono.set m54 z46 k57
 refine AWP.region rfl ?_
 refine V rfl rfl (B rfl rfl rfl (iadd (by omega)) (A rfl rfl ?_))
 refine AOps.nil ?_
 refine UN.step ?_
 refine AWP.seq ?_
 refine Sr ?_
 refine V rfl rfl (B rfl rfl rfl rfl ?_)
 refine ct_ rfl (decide_eq_true (by decide)) ?_
 refine AWP.skip ?_
 refine AWP.seq ?_
 refine bk_ ?_
 refine AWP.region rfl ?_
 refine V rfl rfl (V rfl rfl (V rfl rfl (C rfl (iF_ rfl rfl rfl ar_72 (by omega) (by omega) (C rfl (iF_ rfl rfl rfl ar_67 (by omega) (by omega) (L rfl rfl ty_3 rfl (F rfl rfl fl_70_0 (C rfl (iF_ rfl rfl rfl ar_66 (by omega) (by omega) (L rfl rfl ty_42 (ld_fst (fun h => by first | rfl | cases h) (ldM eV_len (i := 8) (by omega) (by have := p.lP; omega))) (C rfl (iA_ rfl rfl rfl ar_68 (by omega) (by omega) ⟨_, h56⟩ (C rfl (So (cells' := (v3 (at_ p.aP 12) (v3 (at_ p.aP 8) (z3 (z3 ([])))))) (.agg (eV (at_ p.aP 8))) rfl rfl ts_42 h56 rfl rfl rfl rfl ?_)))))))))))))))
 intro H61 h62 k63
 have h64 := keep k63 e45 h58
 have m66 := Mono.set m60 z46 k63
 refine AWP.region rfl ?_
 refine V rfl rfl (B rfl rfl rfl (iadd (by omega)) (A rfl rfl ?_))
 refine AOps.nil ?_
 refine UN.step ?_
 refine AWP.seq ?_
 refine Sr ?_
 refine V rfl rfl (B rfl rfl rfl rfl ?_)
 refine ct_ rfl (decide_eq_true (by decide)) ?_
 refine AWP.skip ?_
 refine AWP.seq ?_
 refine bk_ ?_
 refine AWP.region rfl ?_
 refine V rfl rfl (V rfl rfl (V rfl rfl (C rfl (iF_ rfl rfl rfl ar_72 (by omega) (by omega) (C rfl (iF_ rfl rfl rfl ar_67 (by omega) (by omega) (L rfl rfl ty_3 rfl (F rfl rfl fl_70_0 (C rfl (iF_ rfl rfl rfl ar_66 (by omega) (by omega) (L rfl rfl ty_42 (ld_fst (fun h => by first | rfl | cases h) (ldM eV_len (i := 4) (by omega) (by have := p.lP; omega))) (C rfl (iA_ rfl rfl rfl ar_68 (by omega) (by omega) ⟨_, h62⟩ (C rfl (So (cells' := (v3 (at_ p.aP 12) (v3 (at_ p.aP 8) (v3 (at_ p.aP 4) (z3 ([])))))) (.agg (eV (at_ p.aP 4))) rfl rfl ts_42 h62 rfl rfl rfl rfl ?_)))))))))))))))
 intro H67 h68 k69
 have h70 := keep k69 e45 h64
 have m72 := Mono.set m66 z46 k69
 refine AWP.region rfl ?_
 refine V rfl rfl (B rfl rfl rfl (iadd (by omega)) (A rfl rfl ?_))
 refine AOps.nil ?_
 refine UN.step ?_
 refine AWP.seq ?_
 refine Sr ?_
 refine V rfl rfl (B rfl rfl rfl rfl ?_)
 refine ct_ rfl (decide_eq_true (by decide)) ?_
 refine AWP.skip ?_
 refine AWP.seq ?_
 refine bk_ ?_
 refine AWP.region rfl ?_
 refine V rfl rfl (V rfl rfl (V rfl rfl (C rfl (iF_ rfl rfl rfl ar_72 (by omega) (by omega) (C rfl (iF_ rfl rfl rfl ar_67 (by omega) (by omega) (L rfl rfl ty_3 rfl (F rfl rfl fl_70_0 (C rfl (iF_ rfl rfl rfl ar_66 (by omega) (by omega) (L rfl rfl ty_42 (ld_fst (fun h => by first | rfl | cases h) (ldM eV_len (i := 0) (by omega) (by have := p.lP; omega))) (C rfl (iA_ rfl rfl rfl ar_68 (by omega) (by omega) ⟨_, h68⟩ (C rfl (So (cells' := (v3 (at_ p.aP 12) (v3 (at_ p.aP 8) (v3 (at_ p.aP 4) (v3 (at_ p.aP 0) ([])))))) (.agg (eV (at_ p.aP 0))) rfl rfl ts_42 h68 rfl rfl rfl rfl ?_)))))))))))))))
 intro H73 h74 k75
 have h76 := keep k75 e45 h70
 have m78 := Mono.set m72 z46 k75
 refine AWP.region rfl ?_
 refine V rfl rfl (B rfl rfl rfl (iadd (by omega)) (A rfl rfl ?_))
 refine AOps.nil ?_
 refine UN.step ?_
 refine AWP.seq ?_
 refine Sr ?_
 refine V rfl rfl (B rfl rfl rfl rfl ?_)
 refine cf_ rfl (decide_eq_false (by decide)) ?_
 refine AWP.exit ?_
 change AWP _ _ _ _ _ _
 refine Sr ?_
 refine C rfl (Ld _ rfl rfl ty_68 h74 rfl (C rfl (Sw rfl rfl ts_68 h76 rfl rfl rfl ?_)))
 intro H79 h80 k81
 have m84 := Mono.set m78 z14 k81
 refine rt_ ?_
 refine Rr (Res.list1 rfl (.cell (v := .agg (v3 (at_ p.aP 12) (v3 (at_ p.aP 8) (v3 (at_ p.aP 4) (v3 (at_ p.aP 0) ([])))))) rfl ty_68 h80 rfl (.nil))) ?_ m84
 exact (congrArg AV.agg (lc (congrArg (AV.int .i64) (show ((at_ p.aP 12).X : Int) = (alongP p 3 0).X from by rfl)) (lc (congrArg (AV.int .i64) (show ((at_ p.aP 12).Y : Int) = (alongP p 3 0).Y from by rfl)) (lc (congrArg (AV.int .i64) (show ((at_ p.aP 12).Z : Int) = (alongP p 3 0).Z from by rfl)) (lc (congrArg (AV.int .i64) (show ((at_ p.aP 8).X : Int) = (alongP p 3 1).X from by rfl)) (lc (congrArg (AV.int .i64) (show ((at_ p.aP 8).Y : Int) = (alongP p 3 1).Y from by rfl)) (lc (congrArg (AV.int .i64) (show ((at_ p.aP 8).Z : Int) = (alongP p 3 1).Z from by rfl)) (lc (congrArg (AV.int .i64) (show ((at_ p.aP 4).X : Int) = (alongP p 3 2).X from by rfl)) (lc (congrArg (AV.int .i64) (show ((at_ p.aP 4).Y : Int) = (alongP p 3 2).Y from by rfl)) (lc (congrArg (AV.int .i64) (show ((at_ p.aP 4).Z : Int) = (alongP p 3 2).Z from by rfl)) (lc (congrArg (AV.int .i64) (show ((at_ p.aP 0).X : Int) = (alongP p 3 3).X from by rfl)) (lc (congrArg (AV.int .i64) (show ((at_ p.aP 0).Y : Int) = (alongP p 3 3).Y from by rfl)) (lc (congrArg (AV.int .i64) (show ((at_ p.aP 0).Z : Int) = (alongP p 3 3).Z from by rfl)) rfl)))))))))))))
end Go.Proofs.U
namespace Go.Proofs.U
open Go Go.AH Go.Proofs.T
set_option maxRecDepth 4000
theorem c_along (p : PatchT) (a : Int) (a0 : 0 ≤ a) (a1 : a < 4) : PC Try.prog 31 [.agg (p.aP.flatMap eV ++ (p.aCorners.map eI ++ (p.aNormals.flatMap eV ++ [.int .i64 p.Skin]))), .int .i64 a] (.agg (e4 (Q4.mk (alongP p a 0) (alongP p a 1) (alongP p a 2) (alongP p a 3)))) :=
  cases4 (P := fun a => PC Try.prog 31 [.agg (p.aP.flatMap eV ++ (p.aCorners.map eI ++ (p.aNormals.flatMap eV ++ [.int .i64 p.Skin]))), .int .i64 a] (.agg (e4 (Q4.mk (alongP p a 0) (alongP p a 1) (alongP p a 2) (alongP p a 3))))) (c_along0 p) (c_along1 p) (c_along2 p) (c_along3 p) a0 a1
theorem edge_fg {n : Int} {fs : List (List Int)} (h : okS n fs) {i : Int} (h0 : 0 ≤ i) (h1 : i < (buildT n fs).ed.length) : (0 ≤ (at_ (buildT n fs).ed i).F → (at_ (buildT n fs).ed i).F < fs.length) ∧ (0 ≤ (at_ (buildT n fs).ed i).G → (at_ (buildT n fs).ed i).G < fs.length) := by
  have hm := at_mem h0 h1
  generalize at_ (buildT n fs).ed i = e at hm
  rw [(build_ok h).1] at hm
  obtain ⟨_, _, _, hF, hG, _⟩ := mem_eOut.1 hm
  exact ⟨fun g => by rw [hF] at g ⊢; exact (along_some g).1, fun g => by rw [hG] at g ⊢; exact (along_some g).1⟩
end Go.Proofs.U
namespace Go.Proofs.U
open Go Go.AH Go.Proofs.T
set_option maxRecDepth 4000
set_option linter.unusedSimpArgs false
set_option linter.unusedVariables false
set_option maxHeartbeats 4000000
theorem c_palive : PC Try.prog 28 [] (.bool true) := by
 intro H0
 have hav := pal_l
 refine ACalls.of_body' (n := 56) rfl rfl rfl rfl ?_
 have m0 := Mono.refl H0
 refine Sr ?_
 refine A rfl rfl ?_
 refine Sr ?_
 refine C rfl (Bl (cells := [.int .i64 0, .int .i64 0, .int .i64 0]) rfl tz_42 pl_42 rfl rfl (C rfl (Bl (cells := [.int .i64 18, .int .i64 0, .int .i64 0]) rfl tz_42 pl_42 rfl rfl (C rfl (Bl (cells := [.int .i64 18, .int .i64 18, .int .i64 0]) rfl tz_42 pl_42 rfl rfl (C rfl (Bl (cells := [.int .i64 0, .int .i64 18, .int .i64 0]) rfl tz_42 pl_42 rfl rfl (C rfl (AOp.buildSlice (cells := [.int .i64 0, .int .i64 0, .int .i64 0, .int .i64 18, .int .i64 0, .int .i64 0, .int .i64 18, .int .i64 18, .int .i64 0, .int .i64 0, .int .i64 18, .int .i64 0]) rfl u_22 ts_42 tz_42 rfl rfl rfl ?_)))))))))
 intro i1 H2 n3 h4 k5
 have z6 := Mono.free m0 n3
 have m7 := Mono.new m0 n3 k5
 refine C rfl (AOp.buildSlice (cells := [.int .i64 0, .int .i64 1, .int .i64 2, .int .i64 3]) rfl u_38 ts_3 tz_3 rfl rfl rfl ?_)
 intro i8 H9 n10 h11 k12
 have e13 := ne_new h4 n10
 have z14 := Mono.free m7 n10
 have h15 := keep k12 (ne_new h4 n10) h4
 have m16 := Mono.new m7 n10 k12
 obtain ⟨v17, e18⟩ : ∃ v : AV, v = .slm i8 0 1 0 4 := ⟨_, rfl⟩
 have o19 : Own H0 H9 1 v17 4 [.int .i64 0, .int .i64 1, .int .i64 2, .int .i64 3] := .inr ⟨_, _, e18, h11, z14, rfl⟩
 have no20 : NotId v17 i1 := by rw [e18]; exact NotId.slm e13
 refine C rfl ?_
 refine AOp.frz 9 (o19) e18.symm m16 fun H21 m22 k23 => ?_
 have h24 := (k23 _ no20).trans h15
 refine AOp.buildSlice (cells := [.sl ([0, 1, 2, 3] : List Int).length (([0, 1, 2, 3] : List Int).map eI)]) rfl u_23 ts_38 tz_38 rfl rfl rfl ?_
 intro i25 H26 n27 h28 k29
 have e30 := ne_new h24 n27
 have z31 := Mono.free m22 n27
 have h32 := keep k29 (ne_new h24 n27) h24
 have m33 := Mono.new m22 n27 k29
 obtain ⟨v34, e35⟩ : ∃ v : AV, v = .slm i1 0 3 0 4 := ⟨_, rfl⟩
 have o36 : Own H0 H26 3 v34 4 [.int .i64 0, .int .i64 0, .int .i64 0, .int .i64 18, .int .i64 0, .int .i64 0, .int .i64 18, .int .i64 18, .int .i64 0, .int .i64 0, .int .i64 18, .int .i64 0] := .inr ⟨_, _, e35, h32, z6, rfl⟩
 have no37 : NotId v34 i25 := by rw [e35]; exact NotId.slm (Ne.symm e30)
 refine C rfl ?_
 refine AOp.frz 8 (o36) e35.symm m33 fun H38 m39 k40 => ?_
 have h41 := (k40 _ no37).trans h28
 obtain ⟨v42, e43⟩ : ∃ v : AV, v = .slm i25 0 1 0 1 := ⟨_, rfl⟩
 have o44 : Own H0 H38 1 v42 1 [.sl ([0, 1, 2, 3] : List Int).length (([0, 1, 2, 3] : List Int).map eI)] := .inr ⟨_, _, e43, h41, z31, rfl⟩
 refine AOp.frz 10 (o44) e43.symm m39 fun H45 m46 k47 => ?_
 refine Bl (cells := [.sl ([(VT.mk 0 0 0), (VT.mk 18 0 0), (VT.mk 18 18 0), (VT.mk 0 18 0)] : List VT).length (([(VT.mk 0 0 0), (VT.mk 18 0 0), (VT.mk 18 18 0), (VT.mk 0 18 0)] : List VT).flatMap eV), .sl ([([0, 1, 2, 3] : List Int)] : List (List Int)).length (([([0, 1, 2, 3] : List Int)] : List (List Int)).map eF), .snil]) rfl tz_26 pl_26 rfl rfl ?_
 refine C rfl (Pc («as» := [.agg [.sl ([(VT.mk 0 0 0), (VT.mk 18 0 0), (VT.mk 18 18 0), (VT.mk 0 18 0)] : List VT).length (([(VT.mk 0 0 0), (VT.mk 18 0 0), (VT.mk 18 18 0), (VT.mk 0 18 0)] : List VT).flatMap eV), .sl ([([0, 1, 2, 3] : List Int)] : List (List Int)).length (([([0, 1, 2, 3] : List Int)] : List (List Int)).map eF), .snil], .int .i64 3]) rfl rfl (rfl) tf_30 (c_PatchesN AV18 AF4 mid18 3) ?_)
 intro H48 m49
 have m50 := m46.trans m49
 refine V rfl rfl (E rfl rfl rfl (E rfl rfl rfl (A rfl rfl (A rfl rfl ?_))))
 refine Sr ?_
 refine V rfl rfl (B rfl rfl rfl ieq (V rfl rfl (Y rfl rfl rfl (decide_eq_true (pal_2)) (Mv _ rfl rfl (Y rfl rfl rfl (decide_eq_true (pal_2)) (AOp.len (m := ((patR AV18 AF4 [] 3).1).length) rfl rfl (.inr (.inl ⟨_, rfl⟩)) u_63 (Y rfl rfl rfl (decide_eq_true (pal_2)) (Bi _ rfl rfl rfl ieq (C rfl (Pt _ rfl rfl (decide_eq_true (pal_2)) rfl (V rfl rfl (Y rfl rfl rfl (decide_eq_true (pal_l)) (Mv _ rfl rfl (Y rfl rfl rfl (decide_eq_true (pal_l)) (iS_ rfl rfl rfl sl_63 (by omega) (by omega) (Y rfl rfl rfl (decide_eq_true (pal_l)) (Ff rfl rfl fl_70_0 (Y rfl rfl rfl (decide_eq_true (pal_l)) (iF_ rfl rfl rfl ar_66 (by omega) (by omega) (Y rfl rfl rfl (decide_eq_true (pal_l)) (Lf _ rfl rfl ty_42 (ld_off (o := (0 : Int).toNat * 65 + 0 + (0 : Int).toNat * 3) (o' := (0 : Int).toNat * 65 + (0)) (by omega) (ldE ePatch_len (i := 0) (by omega) (by omega) (fun h => by first | rfl | cases h) (ld_fst (fun h => by first | rfl | cases h) (ldM eV_len (i := 0) (by omega) (by have := (at_ ((patR AV18 AF4 [] 3).1) 0).lP; omega))))) (Y rfl rfl rfl (decide_eq_true (pal_l)) (Bl (cells := [.int .i64 3, .int .i64 3, .int .i64 0]) rfl tz_42 pl_42 rfl rfl (Y rfl rfl rfl (decide_eq_true (pal_l)) (AOp.eqAggD rfl rfl rfl teq42 (kokV (v := (at_ ((at_ ((patR AV18 AF4 [] 3).1) 0).aP) 0)) (by rw [pal_p0]; exact ⟨by unfold inR; decide, by unfold inR; decide, by unfold inR; decide⟩)) (kokV (v := (VT.mk 3 3 0)) (by exact ⟨by unfold inR; decide, by unfold inR; decide, by unfold inR; decide⟩)) (eV_iff (at_ ((at_ ((patR AV18 AF4 [] 3).1) 0).aP) 0) (VT.mk 3 3 0)) (C rfl (Pt _ rfl rfl (decide_eq_true (pal_l)) rfl (V rfl rfl (Y rfl rfl rfl (decide_eq_true (pal_p0)) (Mv _ rfl rfl ?_))))))))))))))))))))))))))))))
 refine Y rfl rfl rfl (decide_eq_true (pal_p0)) (iS_ rfl rfl rfl sl_63 (by omega) (by omega) (Y rfl rfl rfl (decide_eq_true (pal_p0)) (Ff rfl rfl fl_70_0 (Y rfl rfl rfl (decide_eq_true (pal_p0)) (iF_ rfl rfl rfl ar_66 (by omega) (by omega) (Y rfl rfl rfl (decide_eq_true (pal_p0)) (Lf _ rfl rfl ty_42 (ld_off (o := (0 : Int).toNat * 65 + 0 + (1 : Int).toNat * 3) (o' := (0 : Int).toNat * 65 + (3)) (by omega) (ldE ePatch_len (i := 0) (by omega) (by omega) (fun h => by first | rfl | cases h) (ld_fst (fun h => by first | rfl | cases h) (ldM eV_len (i := 1) (by omega) (by have := (at_ ((patR AV18 AF4 [] 3).1) 0).lP; omega))))) (Y rfl rfl rfl (decide_eq_true (pal_p0)) (Bl (cells := [.int .i64 6, .int .i64 0, .int .i64 0]) rfl tz_42 pl_42 rfl rfl (Y rfl rfl rfl (decide_eq_true (pal_p0)) (AOp.eqAggD rfl rfl rfl teq42 (kokV (v := (at_ ((at_ ((patR AV18 AF4 [] 3).1) 0).aP) 1)) (by rw [pal_p1]; exact ⟨by unfold inR; decide, by unfold inR; decide, by unfold inR; decide⟩)) (kokV (v := (VT.mk 6 0 0)) (by exact ⟨by unfold inR; decide, by unfold inR; decide, by unfold inR; decide⟩)) (eV_iff (at_ ((at_ ((patR AV18 AF4 [] 3).1) 0).aP) 1) (VT.mk 6 0 0)) (C rfl (Pt _ rfl rfl (decide_eq_true (pal_p0)) rfl (V rfl rfl (Y rfl rfl rfl (decide_eq_true (pal_p1)) (Mv _ rfl rfl (Y rfl rfl rfl (decide_eq_true (pal_p1)) (iS_ rfl rfl rfl sl_63 (by omega) (by omega) (Y rfl rfl rfl (decide_eq_true (pal_p1)) (Ff rfl rfl fl_70_0 (Y rfl rfl rfl (decide_eq_true (pal_p1)) (iF_ rfl rfl rfl ar_66 (by omega) (by omega) (Y rfl rfl rfl (decide_eq_true (pal_p1)) (Lf _ rfl rfl ty_42 (ld_off (o := (0 : Int).toNat * 65 + 0 + (4 : Int).toNat * 3) (o' := (0 : Int).toNat * 65 + (12)) (by omega) (ldE ePatch_len (i := 0) (by omega) (by omega) (fun h => by first | rfl | cases h) (ld_fst (fun h => by first | rfl | cases h) (ldM eV_len (i := 4) (by omega) (by have := (at_ ((patR AV18 AF4 [] 3).1) 0).lP; omega))))) (Y rfl rfl rfl (decide_eq_true (pal_p1)) (Bl (cells := [.int .i64 0, .int .i64 6, .int .i64 0]) rfl tz_42 pl_42 rfl rfl (Y rfl rfl rfl (decide_eq_true (pal_p1)) (AOp.eqAggD rfl rfl rfl teq42 (kokV (v := (at_ ((at_ ((patR AV18 AF4 [] 3).1) 0).aP) 4)) (by rw [pal_p4]; exact ⟨by unfold inR; decide, by unfold inR; decide, by unfold inR; decide⟩)) (kokV (v := (VT.mk 0 6 0)) (by exact ⟨by unfold inR; decide, by unfold inR; decide, by unfold inR; decide⟩)) (eV_iff (at_ ((at_ ((patR AV18 AF4 [] 3).1) 0).aP) 4) (VT.mk 0 6 0)) (C rfl (Pt _ rfl rfl (decide_eq_true (pal_p1)) rfl (V rfl rfl (Y rfl rfl rfl (decide_eq_true (pal_p4)) (Mv _ rfl rfl ?_)))))))))))))))))))))))))))))))))
 refine Y rfl rfl rfl (decide_eq_true (pal_p4)) (iS_ rfl rfl rfl sl_63 (by omega) (by omega) (Y rfl rfl rfl (decide_eq_true (pal_p4)) (Ff rfl rfl fl_70_3 (Y rfl rfl rfl (decide_eq_true (pal_p4)) (Lf _ rfl rfl ty_3 (ld_off (o := (0 : Int).toNat * 65 + 64) (o' := (0 : Int).toNat * 65 + (64)) (by omega) (ldE ePatch_len (i := 0) (by omega) (by omega) (fun h => by first | rfl | cases h) (ld_skip (off' := 16) (lenM eV_len (at_ ((patR AV18 AF4 [] 3).1) 0).lP rfl) (by omega) (ld_skip (off' := 12) (len1 (at_ ((patR AV18 AF4 [] 3).1) 0).lCorners) (by omega) (ld_skip (off' := 0) (lenM eV_len (at_ ((patR AV18 AF4 [] 3).1) 0).lNormals rfl) (by omega) rfl))))) (Y rfl rfl rfl (decide_eq_true (pal_p4)) (Bi _ rfl rfl rfl ieq (C rfl (Pt _ rfl rfl (decide_eq_true (pal_p4)) rfl (A rfl rfl ?_))))))))))
 refine rt_ ?_
 refine Rr (Res.one rfl rfl) ?_ m50
 exact (congrArg AV.bool (show (decide ((at_ ((patR AV18 AF4 [] 3).1) 0).Skin = 3) : Bool) = true from by first | rfl | exact decide_eq_true pal_s))
theorem c_quads (vs : List VT) (fs : List (List Int)) (cr : List CrT) (hvl : vs.length ≤ 1048576) (hfl : fs.length ≤ 1048576) (hfs : ∀ l ∈ fs, l.length ≤ 1048576) (hcl : cr.length ≤ 1048576) (hcS : ∀ c ∈ cr, c.S ≤ 9223372036854775807)  : PC Try.prog 29 [.agg [.sl vs.length (vs.flatMap eV), .sl fs.length (fs.map eF), .sl cr.length (cr.flatMap eCr)]] (.tup [.agg [.sl ((quadR vs fs cr).1.Verts).length (((quadR vs fs cr).1.Verts).flatMap eV), .sl ((quadR vs fs cr).1.Faces).length (((quadR vs fs cr).1.Faces).map eF), .sl ((quadR vs fs cr).1.Creases).length (((quadR vs fs cr).1.Creases).flatMap eCr)], .bool ((quadR vs fs cr).2)]) := by
 intro H0
 refine ACalls.of_body' (n := 17) rfl rfl rfl rfl ?_
 have m0 := Mono.refl H0
 refine Sr ?_
 refine C rfl (bx_ (.agg [.sl vs.length (vs.flatMap eV), .sl fs.length (fs.map eF), .sl cr.length (cr.flatMap eCr)]) rfl rfl rfl ?_)
 intro i1 H2 n3 h4 k5
 have z6 := Mono.free m0 n3
 have m7 := Mono.new m0 n3 k5
 refine C rfl (al_ rfl tz_26 ?_)
 intro i8 H9 n10 h11 k12
 have e13 := ne_new h4 n10
 have z14 := Mono.free m7 n10
 have h15 := keep k12 (ne_new h4 n10) h4
 have m16 := Mono.new m7 n10 k12
 refine A rfl rfl ?_
 refine AWP.seq ?_
 refine AWP.seq ?_
 refine fz_ 1 h15 z6 rfl m16 fun H17 m18 k19 => ?_
 have h20 := (k19 _ (Ne.symm e13)).trans h11
 refine AWP.region rfl ?_
 refine L rfl rfl ty_26 rfl (C rfl (Pc («as» := [.agg [.sl vs.length (vs.flatMap eV), .sl fs.length (fs.map eF), .sl cr.length (cr.flatMap eCr)]]) rfl rfl (rfl) tf_14 (c_Great _ _ _ (by omega) (by omega) (by assumption) (by omega)) ?_))
 intro H21 m22
 have h23 := m22 _ _ h20
 have m24 := m18.trans m22
 refine AOps.nil ?_
 change AWP _ _ _ _ _ _
 by_cases b25 : greatP vs fs cr
 refine ct_ rfl (decide_eq_true b25) ?_
 refine Sr ?_
 refine C rfl (Bl (cells := [.snil, .snil, .snil]) rfl tz_26 pl_26 rfl rfl (C rfl (Sw rfl rfl ts_26 h23 rfl rfl rfl ?_)))
 intro H26 h27 k28
 have m30 := Mono.set m24 z14 k28
 refine A rfl rfl ?_
 refine rt_ ?_
 refine Fin.frzCell 0 (Own.nil H0 H26 1) h27 z14 rfl (NotId.nil _) m30 fun H31 h32 m33 k34 => ?_
 have h35 : H31 i8 = some (.row 0 ([.sl 0 ([]), .snil, .snil])) := h32
 refine Fin.frzCell 1 (Own.nil H0 H31 1) h35 z14 rfl (NotId.nil _) m33 fun H36 h37 m38 k39 => ?_
 have h40 : H36 i8 = some (.row 0 ([.sl 0 ([]), .sl 0 ([]), .snil])) := h37
 refine Fin.frzCell 2 (Own.nil H0 H36 1) h40 z14 rfl (NotId.nil _) m38 fun H41 h42 m43 k44 => ?_
 have h45 : H41 i8 = some (.row 0 ([.sl 0 ([]), .sl 0 ([]), .sl 0 ([])])) := h42
 refine Rr (Res.list rfl rfl (.cell (v := .agg [.sl 0 ([]), .sl 0 ([]), .sl 0 ([])]) rfl ty_26 h45 rfl (.tmp rfl (.nil)))) ?_ m43
 exact congrArg AV.tup (lc (congrArg AV.agg (lc (congrArg (fun l : List VT => AV.sl l.length (l.flatMap eV)) (show ([] : List VT) = (quadR vs fs cr).1.Verts from by rw [quad_1 b25])) (lc (congrArg (fun l : List (List Int) => AV.sl l.length (l.map eF)) (show ([] : List (List Int)) = (quadR vs fs cr).1.Faces from by rw [quad_1 b25])) (lc (congrArg (fun l : List CrT => AV.sl l.length (l.flatMap eCr)) (show ([] : List CrT) = (quadR vs fs cr).1.Creases from by rw [quad_1 b25])) rfl)))) (lc (congrArg AV.bool (show (false : Bool) = (quadR vs fs cr).2 from by rw [quad_1 b25])) rfl))
 refine cf_ rfl (decide_eq_false b25) ?_
 refine AWP.skip ?_
 refine AWP.seq ?_
 obtain ⟨s1, s2, s3, s4, s5⟩ := great_small b25
 refine AWP.region rfl ?_
 refine L rfl rfl ty_26 rfl (C rfl (Pc («as» := [.agg [.sl vs.length (vs.flatMap eV), .sl fs.length (fs.map eF), .sl cr.length (cr.flatMap eCr)]]) rfl rfl (rfl) tf_15 (c_Level vs fs cr (by omega) (by omega) (fun l hl => Nat.le_trans (s5 l hl) (by decide)) (by omega) (by omega) hcS) ?_))
 intro H46 m47
 have h48 := m47 _ _ h23
 have m49 := m24.trans m47
 refine V rfl rfl (E rfl rfl rfl (E rfl rfl rfl (C rfl (al_ rfl tz_26 ?_))))
 intro i50 H51 n52 h53 k54
 have e55 := ne_new h48 n52
 have z56 := Mono.free m49 n52
 have h57 := keep k54 (ne_new h48 n52) h48
 have m58 := Mono.new m49 n52 k54
 refine C rfl (Sw rfl rfl ts_26 h53 rfl rfl rfl ?_)
 intro H59 h60 k61
 have h62 := keep k61 e55 h57
 have m64 := Mono.set m58 z56 k61
 refine A rfl rfl ?_
 refine AWP.seq ?_
 refine fz_ 4 h60 z56 rfl m64 fun H65 m66 k67 => ?_
 have h68 := (k67 _ e55).trans h62
 refine AWP.region rfl ?_
 refine L rfl rfl ty_26 rfl (V rfl rfl (B rfl rfl rfl ieq (C rfl (Sw rfl rfl ts_26 h68 rfl rfl rfl ?_))))
 intro H69 h70 k71
 have m73 := Mono.set m66 z14 k71
 refine A rfl rfl ?_
 refine rt_ ?_
 refine Rr (Res.list rfl rfl (.cell (v := .agg [.sl ((levelR vs fs cr).1.Verts).length (((levelR vs fs cr).1.Verts).flatMap eV), .sl ((levelR vs fs cr).1.Faces).length (((levelR vs fs cr).1.Faces).map eF), .sl ((levelR vs fs cr).1.Creases).length (((levelR vs fs cr).1.Creases).flatMap eCr)]) rfl ty_26 h70 rfl (.tmp rfl (.nil)))) ?_ m73
 exact congrArg AV.tup (lc (congrArg AV.agg (lc (congrArg (fun l : List VT => AV.sl l.length (l.flatMap eV)) (show ((levelR vs fs cr).1.Verts : List VT) = (quadR vs fs cr).1.Verts from by rw [quad_2 b25])) (lc (congrArg (fun l : List (List Int) => AV.sl l.length (l.map eF)) (show ((levelR vs fs cr).1.Faces : List (List Int)) = (quadR vs fs cr).1.Faces from by rw [quad_2 b25])) (lc (congrArg (fun l : List CrT => AV.sl l.length (l.flatMap eCr)) (show ((levelR vs fs cr).1.Creases : List CrT) = (quadR vs fs cr).1.Creases from by rw [quad_2 b25])) rfl)))) (lc (congrArg AV.bool (show (decide ((levelR vs fs cr).2 = 0) : Bool) = (quadR vs fs cr).2 from by rw [quad_2 b25])) rfl))
end Go.Proofs.U
namespace Go.Proofs.U
open Go Go.AH Go.Proofs.T
set_option maxRecDepth 4000
set_option linter.unusedSimpArgs false
set_option linter.unusedVariables false
set_option maxHeartbeats 4000000
theorem c_PatchShares (vs : List VT) (fs : List (List Int)) (cr : List CrT) (hvl : vs.length ≤ 1048576) (hfl : fs.length ≤ 1048576) (hfs : ∀ l ∈ fs, l.length ≤ 1048576) (hcl : cr.length ≤ 1048576) (hcS : ∀ c ∈ cr, c.S ≤ 9223372036854775807)  : PC Try.prog 9 [.agg [.sl vs.length (vs.flatMap eV), .sl fs.length (fs.map eF), .sl cr.length (cr.flatMap eCr)]] (.bool true) := by
 intro H0
 refine ACalls.of_body' (n := 173) rfl rfl rfl rfl ?_
 have m0 := Mono.refl H0
 refine AWP.seq (AWP.region rfl ?_)
 refine AOps.cons rfl rfl (AOp.box (.agg [.sl vs.length (vs.flatMap eV), .sl fs.length (fs.map eF), .sl cr.length (cr.flatMap eCr)]) rfl rfl rfl ?_)
 intro i1 H2 n3 h4 k5
 have z6 := Mono.free m0 n3
 have m7 := Mono.new m0 n3 k5
 refine AOps.cons rfl rfl (AOp.assign _ rfl rfl ?_)
 refine AWP.seq ?_
 refine AWP.seq ?_
 refine AWP.frzP 1 h4 z6 rfl m7 fun H8 m9 k10 => ?_
 refine AWP.region rfl ?_
 refine AOps.cons rfl rfl (AOp.pcall («as» := []) rfl rfl (rfl) tf_28 (c_palive) ?_)
 intro H11 m12
 have m13 := m9.trans m12
 refine AOps.cons rfl rfl (AOp.not rfl rfl ?_)
 refine AWP.condF rfl rfl ?_
 refine AWP.skip ?_
 refine AWP.seq (AWP.region rfl ?_)
 refine AOps.cons rfl rfl (AOp.loadF _ rfl rfl ty_26 rfl (AOps.cons rfl rfl (AOp.pcall («as» := [.agg [.sl vs.length (vs.flatMap eV), .sl fs.length (fs.map eF), .sl cr.length (cr.flatMap eCr)]]) rfl rfl (rfl) tf_29 (c_quads vs fs cr (by omega) (by omega) (by assumption) (by omega) hcS) ?_)))
 intro H14 m15
 have m16 := m13.trans m15
 refine AOps.cons rfl rfl (AOp.move _ rfl rfl (AOps.cons rfl rfl (AOp.extract _ rfl rfl rfl (AOps.cons rfl rfl (AOp.extract _ rfl rfl rfl (AOps.cons rfl rfl (AOp.alloc rfl tz_26 ?_)))))))
 intro i17 H18 n19 h20 k21
 have z22 := Mono.free m16 n19
 have m23 := Mono.new m16 n19 k21
 refine AOps.cons rfl rfl (AOp.store' (cells' := [.sl ((quadR vs fs cr).1.Verts).length (((quadR vs fs cr).1.Verts).flatMap eV), .sl ((quadR vs fs cr).1.Faces).length (((quadR vs fs cr).1.Faces).map eF), .sl ((quadR vs fs cr).1.Creases).length (((quadR vs fs cr).1.Creases).flatMap eCr)]) (.agg [.sl ((quadR vs fs cr).1.Verts).length (((quadR vs fs cr).1.Verts).flatMap eV), .sl ((quadR vs fs cr).1.Faces).length (((quadR vs fs cr).1.Faces).map eF), .sl ((quadR vs fs cr).1.Creases).length (((quadR vs fs cr).1.Creases).flatMap eCr)]) rfl rfl ts_26 h20 rfl rfl rfl rfl ?_)
 intro H24 h25 k26
 have m28 := Mono.set m23 z22 k26
 refine AOps.cons rfl rfl (AOp.assign _ rfl rfl ?_)
 refine AWP.seq ?_
 refine AWP.seq ?_
 refine AWP.frzP 3 h25 z22 rfl m28 fun H29 m30 k31 => ?_
 refine AWP.region rfl ?_
 refine AOps.cons rfl rfl (AOp.move _ rfl rfl (AOps.cons rfl rfl (AOp.not rfl rfl ?_)))
 refine AOps.nil ?_
 change AWP _ _ _ _ _ _
 rcases Bool.eq_false_or_eq_true ((quadR vs fs cr).2) with b32 | b32
 refine AWP.condF rfl (nb b32) ?_
 refine AWP.skip ?_
 refine AWP.seq ?_
 have Q := quF hcS b32
 have PF := paF Q 0
 have hpl := PF.l
 have hqf := Q.mid.f
 have hqv := Q.mid.v
 have hqs := Q.mid.s
 have qok := (level_ok Q.l0).1
 have hbe := (build_ok qok).2
 have tf := topo_facts qok (by omega) hqf hqs
 have hel := tf.el
 have hpe := PF.e
 refine AWP.region rfl ?_
 refine AOps.cons rfl rfl (AOp.loadF _ rfl rfl ty_26 rfl (AOps.cons rfl rfl (AOp.pcall («as» := [.agg [.sl ((quadR vs fs cr).1.Verts).length (((quadR vs fs cr).1.Verts).flatMap eV), .sl ((quadR vs fs cr).1.Faces).length (((quadR vs fs cr).1.Faces).map eF), .sl ((quadR vs fs cr).1.Creases).length (((quadR vs fs cr).1.Creases).flatMap eCr)], .int .i64 0]) rfl rfl (rfl) tf_30 (c_Patches _ _ _ Q.mid _) ?_)))
 intro H33 m34
 have m35 := m30.trans m34
 refine AOps.cons rfl rfl (AOp.move _ rfl rfl (AOps.cons rfl rfl (AOp.extract _ rfl rfl rfl (AOps.cons rfl rfl (AOp.extract _ rfl rfl rfl (AOps.cons rfl rfl (AOp.assign _ rfl rfl (AOps.cons rfl rfl (AOp.assign _ rfl rfl ?_)))))))))
 refine AWP.seq (AWP.region rfl ?_)
 refine AOps.cons rfl rfl (AOp.fieldAddrF rfl rfl fl_26_0 (AOps.cons rfl rfl (AOp.loadF _ rfl rfl ty_22 rfl (AOps.cons rfl rfl (AOp.len (m := ((quadR vs fs cr).1.Verts).length) rfl rfl (.inr (.inl ⟨_, rfl⟩)) u_22 (AOps.cons rfl rfl (AOp.fieldAddrF rfl rfl fl_26_1 (AOps.cons rfl rfl (AOp.loadF _ rfl rfl ty_23 rfl (AOps.cons rfl rfl (AOp.pcall («as» := [.int .i64 ((((quadR vs fs cr).1.Verts).length) : Int), .sl ((quadR vs fs cr).1.Faces).length (((quadR vs fs cr).1.Faces).map eF)]) rfl rfl (rfl) tf_16 (c12 _ (by omega) (fun l hl => Nat.le_trans (Q.mid.fs l hl) (by decide)) _ (by omega) (by omega)) ?_)))))))))))
 intro H36 m37
 have m38 := m35.trans m37
 refine AOps.cons rfl rfl (AOp.move _ rfl rfl (AOps.cons rfl rfl (AOp.extract _ rfl rfl rfl (AOps.cons rfl rfl (AOp.extract _ rfl rfl rfl (AOps.cons rfl rfl (AOp.alloc rfl tz_35 ?_)))))))
 intro i39 H40 n41 h42 k43
 have z44 := Mono.free m38 n41
 have m45 := Mono.new m38 n41 k43
 refine AOps.cons rfl rfl (AOp.store' (cells' := [.sl ((buildT ((quadR vs fs cr).1.Verts.length : Int) (quadR vs fs cr).1.Faces).ed).length (((buildT ((quadR vs fs cr).1.Verts.length : Int) (quadR vs fs cr).1.Faces).ed).flatMap eE), .sl ((buildT ((quadR vs fs cr).1.Verts.length : Int) (quadR vs fs cr).1.Faces).fan).length (((buildT ((quadR vs fs cr).1.Verts.length : Int) (quadR vs fs cr).1.Faces).fan).map eF), .sl ((buildT ((quadR vs fs cr).1.Verts.length : Int) (quadR vs fs cr).1.Faces).rnd).length (((buildT ((quadR vs fs cr).1.Verts.length : Int) (quadR vs fs cr).1.Faces).rnd).map eBo)]) (.agg [.sl ((buildT ((quadR vs fs cr).1.Verts.length : Int) (quadR vs fs cr).1.Faces).ed).length (((buildT ((quadR vs fs cr).1.Verts.length : Int) (quadR vs fs cr).1.Faces).ed).flatMap eE), .sl ((buildT ((quadR vs fs cr).1.Verts.length : Int) (quadR vs fs cr).1.Faces).fan).length (((buildT ((quadR vs fs cr).1.Verts.length : Int) (quadR vs fs cr).1.Faces).fan).map eF), .sl ((buildT ((quadR vs fs cr).1.Verts.length : Int) (quadR vs fs cr).1.Faces).rnd).length (((buildT ((quadR vs fs cr).1.Verts.length : Int) (quadR vs fs cr).1.Faces).rnd).map eBo)]) rfl rfl ts_35 h42 rfl rfl rfl rfl ?_)
 intro H46 h47 k48
 have m50 := Mono.set m45 z44 k48
 refine AOps.cons rfl rfl (AOp.assign _ rfl rfl ?_)
 refine AWP.seq ?_
 refine AWP.seq ?_
 refine AWP.frzP 7 h47 z44 rfl m50 fun H51 m52 k53 => ?_
 refine AWP.region rfl ?_
 refine AOps.cons rfl rfl (AOp.move _ rfl rfl (AOps.cons rfl rfl (AOp.bin _ rfl rfl rfl ine (AOps.cons rfl rfl (AOp.move _ rfl rfl (AOps.yes rfl rfl rfl rfl rfl rfl rfl (nb (decide_eq_true (hpe))) (AOp.move _ rfl rfl (AOps.yes rfl rfl rfl rfl rfl rfl rfl (nb (decide_eq_true (hpe))) (AOp.bin _ rfl rfl rfl ine (AOps.cons rfl rfl (AOp.pickF _ rfl rfl (nb (decide_eq_true (hpe))) rfl ?_)))))))))))
 refine AOps.cons rfl rfl (AOp.move _ rfl rfl (AOps.yes rfl rfl rfl rfl rfl rfl rfl (nb (decide_eq_true (hbe))) (AOp.move _ rfl rfl (AOps.yes rfl rfl rfl rfl rfl rfl rfl (nb (decide_eq_true (hbe))) (AOp.len (m := ((patR ((quadR vs fs cr).1.Verts) ((quadR vs fs cr).1.Faces) ((quadR vs fs cr).1.Creases) 0).1).length) rfl rfl (.inr (.inl ⟨_, rfl⟩)) u_63 (AOps.yes rfl rfl rfl rfl rfl rfl rfl (nb (decide_eq_true (hbe))) (AOp.fieldAddrF rfl rfl fl_26_1 (AOps.yes rfl rfl rfl rfl rfl rfl rfl (nb (decide_eq_true (hbe))) (AOp.loadF _ rfl rfl ty_23 rfl (AOps.yes rfl rfl rfl rfl rfl rfl rfl (nb (decide_eq_true (hbe))) (AOp.len (m := ((quadR vs fs cr).1.Faces).length) rfl rfl (.inr (.inl ⟨_, rfl⟩)) u_23 ?_)))))))))))
 refine AOps.yes rfl rfl rfl rfl rfl rfl rfl (nb (decide_eq_true (hbe))) (AOp.bin _ rfl rfl rfl ine (AOps.cons rfl rfl (AOp.pickF _ rfl rfl (nb (decide_eq_true (hbe))) rfl ?_)))
 refine AWP.condF rfl (nb (decide_eq_true ((by omega)))) ?_
 refine AWP.skip ?_
 refine AWP.seq ?_
 refine AWP.seq (AWP.region rfl ?_)
 refine AOps.cons rfl rfl (AOp.assign _ rfl rfl ?_)
 refine AWP.block ?_
 refine AWP.loop (fun q54 fq Hq => ∃ (i : Int), q54 = ((((buildT ((quadR vs fs cr).1.Verts.length : Int) (quadR vs fs cr).1.Faces).ed.length : Int) : Int) - i).toNat ∧ fq 9 = .int .i64 i ∧ fq 5 = .sl ((patR ((quadR vs fs cr).1.Verts) ((quadR vs fs cr).1.Faces) ((quadR vs fs cr).1.Creases) 0).1).length (((patR ((quadR vs fs cr).1.Verts) ((quadR vs fs cr).1.Faces) ((quadR vs fs cr).1.Creases) 0).1).flatMap ePatch) ∧ fq 7 = .fptr [.sl ((buildT ((quadR vs fs cr).1.Verts.length : Int) (quadR vs fs cr).1.Faces).ed).length (((buildT ((quadR vs fs cr).1.Verts.length : Int) (quadR vs fs cr).1.Faces).ed).flatMap eE), .sl ((buildT ((quadR vs fs cr).1.Verts.length : Int) (quadR vs fs cr).1.Faces).fan).length (((buildT ((quadR vs fs cr).1.Verts.length : Int) (quadR vs fs cr).1.Faces).fan).map eF), .sl ((buildT ((quadR vs fs cr).1.Verts.length : Int) (quadR vs fs cr).1.Faces).rnd).length (((buildT ((quadR vs fs cr).1.Verts.length : Int) (quadR vs fs cr).1.Faces).rnd).map eBo)] 0 ∧ Mono H0 Hq ∧ (0 ≤ i) ∧ (i ≤ ((buildT ((quadR vs fs cr).1.Verts.length : Int) (quadR vs fs cr).1.Faces).ed.length : Int))) (k := ((((buildT ((quadR vs fs cr).1.Verts.length : Int) (quadR vs fs cr).1.Faces).ed.length : Int) : Int) - 0).toNat) ?_ ?_
 exact ⟨0, rfl, rfl, rfl, rfl, m52, by omega, by omega⟩
 rintro _ f56 H55 ⟨i, rfl, s57, s58, s59, m60, hi0, hi1⟩
 refine AWP.seq ?_
 refine AWP.seq (AWP.region rfl ?_)
 refine AOps.cons rfl rfl (AOp.move _ rfl s57 (AOps.cons rfl rfl (AOp.fieldAddrF rfl s59 fl_35_0 (AOps.cons rfl rfl (AOp.loadF _ rfl rfl ty_32 rfl (AOps.cons rfl rfl (AOp.len (m := ((buildT ((quadR vs fs cr).1.Verts.length : Int) (quadR vs fs cr).1.Faces).ed).length) rfl rfl (.inr (.inl ⟨_, rfl⟩)) u_32 (AOps.cons rfl rfl (AOp.bin _ rfl rfl rfl rfl ?_)))))))))
 refine AOps.nil ?_
 change AWP _ _ _ _ _ _
 by_cases b61 : i < ((((buildT ((quadR vs fs cr).1.Verts.length : Int) (quadR vs fs cr).1.Faces).ed).length) : Int)
 refine AWP.condT rfl (decide_eq_true b61) ?_
 refine AWP.skip ?_
 refine AWP.seq ?_
 refine AWP.block ?_
 refine AWP.seq (AWP.region rfl ?_)
 refine AOps.cons rfl rfl (AOp.fieldAddrF rfl s59 fl_35_0 (AOps.cons rfl rfl (AOp.loadF _ rfl rfl ty_32 rfl (AOps.cons rfl rfl (AOp.move _ rfl s57 (AOps.cons rfl rfl (AOp.indexAddrS rfl rfl rfl sl_32 (by omega) (by omega) (AOps.cons rfl rfl (AOp.loadF _ rfl rfl ty_47 (ldM eE_len (by omega) (by omega)) (AOps.cons rfl rfl (AOp.alloc rfl tz_47 ?_)))))))))))
 intro i62 H63 n64 h65 k66
 have z67 := Mono.free m60 n64
 have m68 := Mono.new m60 n64 k66
 refine AOps.cons rfl rfl (AOp.store' (cells' := [.int .i64 ((at_ ((buildT ((quadR vs fs cr).1.Verts.length : Int) (quadR vs fs cr).1.Faces).ed) i).A), .int .i64 ((at_ ((buildT ((quadR vs fs cr).1.Verts.length : Int) (quadR vs fs cr).1.Faces).ed) i).B), .int .i64 ((at_ ((buildT ((quadR vs fs cr).1.Verts.length : Int) (quadR vs fs cr).1.Faces).ed) i).F), .int .i64 ((at_ ((buildT ((quadR vs fs cr).1.Verts.length : Int) (quadR vs fs cr).1.Faces).ed) i).G)]) (.agg [.int .i64 ((at_ ((buildT ((quadR vs fs cr).1.Verts.length : Int) (quadR vs fs cr).1.Faces).ed) i).A), .int .i64 ((at_ ((buildT ((quadR vs fs cr).1.Verts.length : Int) (quadR vs fs cr).1.Faces).ed) i).B), .int .i64 ((at_ ((buildT ((quadR vs fs cr).1.Verts.length : Int) (quadR vs fs cr).1.Faces).ed) i).F), .int .i64 ((at_ ((buildT ((quadR vs fs cr).1.Verts.length : Int) (quadR vs fs cr).1.Faces).ed) i).G)]) rfl rfl ts_47 h65 rfl rfl rfl rfl ?_)
 intro H69 h70 k71
 have m73 := Mono.set m68 z67 k71
 refine AWP.seq ?_
 refine AWP.seq ?_
 refine AWP.frzP 10 h70 z67 rfl m73 fun H74 m75 k76 => ?_
 refine AWP.region rfl ?_
 refine AOps.cons rfl rfl (AOp.fieldAddrF rfl rfl fl_47_2 (AOps.cons rfl rfl (AOp.loadF _ rfl rfl ty_3 rfl (AOps.cons rfl rfl (AOp.bin _ rfl rfl rfl rfl (AOps.cons rfl rfl (AOp.move _ rfl rfl ?_)))))))
 by_cases b77 : (at_ ((buildT ((quadR vs fs cr).1.Verts.length : Int) (quadR vs fs cr).1.Faces).ed) i).F < 0
 refine AOps.no rfl rfl rfl rfl rfl rfl rfl (ble_of (decide_eq_true b77) (by decide)) (AOps.no rfl rfl rfl rfl rfl rfl rfl (ble_of (decide_eq_true b77) (by decide)) (AOps.no rfl rfl rfl rfl rfl rfl rfl (ble_of (decide_eq_true b77) (by decide)) (AOps.cons rfl rfl (AOp.pickT _ rfl rfl (decide_eq_true b77) rfl ?_))))
 refine AWP.condT rfl rfl ?_
 refine AWP.exit ?_
 change AWP _ _ _ _ _ _
 refine AWP.region rfl ?_
 refine AOps.cons rfl rfl (AOp.move _ rfl s57 (AOps.cons rfl rfl (AOp.bin _ rfl rfl rfl (iadd (by omega)) (AOps.cons rfl rfl (AOp.assign _ rfl rfl ?_)))))
 refine AOps.nil ?_
 exact ⟨_, by omega, i + 1, rfl, rfl, s58, s59, m75, by omega, by omega⟩
 refine AOps.yes rfl rfl rfl rfl rfl rfl rfl (decide_eq_false b77) (AOp.fieldAddrF rfl rfl fl_47_3 (AOps.yes rfl rfl rfl rfl rfl rfl rfl (decide_eq_false b77) (AOp.loadF _ rfl rfl ty_3 rfl (AOps.yes rfl rfl rfl rfl rfl rfl rfl (decide_eq_false b77) (AOp.bin _ rfl rfl rfl rfl (AOps.cons rfl rfl (AOp.pickF _ rfl rfl (decide_eq_false b77) rfl ?_)))))))
 refine AOps.nil ?_
 change AWP _ _ _ _ _ _
 by_cases b78 : (at_ ((buildT ((quadR vs fs cr).1.Verts.length : Int) (quadR vs fs cr).1.Faces).ed) i).G < 0
 refine AWP.condT rfl (decide_eq_true b78) ?_
 refine AWP.exit ?_
 change AWP _ _ _ _ _ _
 refine AWP.region rfl ?_
 refine AOps.cons rfl rfl (AOp.move _ rfl s57 (AOps.cons rfl rfl (AOp.bin _ rfl rfl rfl (iadd (by omega)) (AOps.cons rfl rfl (AOp.assign _ rfl rfl ?_)))))
 refine AOps.nil ?_
 exact ⟨_, by omega, i + 1, rfl, rfl, s58, s59, m75, by omega, by omega⟩
 refine AWP.condF rfl (decide_eq_false b78) ?_
 refine AWP.skip ?_
 refine AWP.seq ?_
 have hfg1 : 0 ≤ (at_ (buildT ((quadR vs fs cr).1.Verts.length : Int) (quadR vs fs cr).1.Faces).ed i).F := by omega
 have hfg3 : 0 ≤ (at_ (buildT ((quadR vs fs cr).1.Verts.length : Int) (quadR vs fs cr).1.Faces).ed i).G := by omega
 have hfg := edge_fg qok hi0 (by omega)
 have hfg2 := hfg.1 hfg1
 have hfg4 := hfg.2 hfg3
 refine AWP.region rfl ?_
 refine AOps.cons rfl rfl (AOp.move _ rfl s58 (AOps.cons rfl rfl (AOp.fieldAddrF rfl rfl fl_47_2 (AOps.cons rfl rfl (AOp.loadF _ rfl rfl ty_3 rfl (AOps.cons rfl rfl (AOp.indexAddrS rfl rfl rfl sl_63 (by omega) (by omega) (AOps.cons rfl rfl (AOp.loadF _ rfl rfl ty_70 (ldM ePatch_len (by omega) (by omega)) (AOps.cons rfl rfl (AOp.alloc rfl tz_70 ?_)))))))))))
 intro i79 H80 n81 h82 k83
 have z84 := Mono.free m75 n81
 have m85 := Mono.new m75 n81 k83
 refine AOps.cons rfl rfl (AOp.store' (cells' := ((at_ ((patR ((quadR vs fs cr).1.Verts) ((quadR vs fs cr).1.Faces) ((quadR vs fs cr).1.Creases) 0).1) ((at_ ((buildT ((quadR vs fs cr).1.Verts.length : Int) (quadR vs fs cr).1.Faces).ed) i).F)).aP).flatMap eV ++ (((at_ ((patR ((quadR vs fs cr).1.Verts) ((quadR vs fs cr).1.Faces) ((quadR vs fs cr).1.Creases) 0).1) ((at_ ((buildT ((quadR vs fs cr).1.Verts.length : Int) (quadR vs fs cr).1.Faces).ed) i).F)).aCorners).map eI ++ (((at_ ((patR ((quadR vs fs cr).1.Verts) ((quadR vs fs cr).1.Faces) ((quadR vs fs cr).1.Creases) 0).1) ((at_ ((buildT ((quadR vs fs cr).1.Verts.length : Int) (quadR vs fs cr).1.Faces).ed) i).F)).aNormals).flatMap eV ++ [.int .i64 ((at_ ((patR ((quadR vs fs cr).1.Verts) ((quadR vs fs cr).1.Faces) ((quadR vs fs cr).1.Creases) 0).1) ((at_ ((buildT ((quadR vs fs cr).1.Verts.length : Int) (quadR vs fs cr).1.Faces).ed) i).F)).Skin)]))) (.agg (((at_ ((patR ((quadR vs fs cr).1.Verts) ((quadR vs fs cr).1.Faces) ((quadR vs fs cr).1.Creases) 0).1) ((at_ ((buildT ((quadR vs fs cr).1.Verts.length : Int) (quadR vs fs cr).1.Faces).ed) i).F)).aP).flatMap eV ++ (((at_ ((patR ((quadR vs fs cr).1.Verts) ((quadR vs fs cr).1.Faces) ((quadR vs fs cr).1.Creases) 0).1) ((at_ ((buildT ((quadR vs fs cr).1.Verts.length : Int) (quadR vs fs cr).1.Faces).ed) i).F)).aCorners).map eI ++ (((at_ ((patR ((quadR vs fs cr).1.Verts) ((quadR vs fs cr).1.Faces) ((quadR vs fs cr).1.Creases) 0).1) ((at_ ((buildT ((quadR vs fs cr).1.Verts.length : Int) (quadR vs fs cr).1.Faces).ed) i).F)).aNormals).flatMap eV ++ [.int .i64 ((at_ ((patR ((quadR vs fs cr).1.Verts) ((quadR vs fs cr).1.Faces) ((quadR vs fs cr).1.Creases) 0).1) ((at_ ((buildT ((quadR vs fs cr).1.Verts.length : Int) (quadR vs fs cr).1.Faces).ed) i).F)).Skin)])))) rfl rfl ts_70 h82 (by simp only [AV.cells, List.all_append, List.all_cons, List.all_nil, Bool.and_true, Bool.and_eq_true]; exact ⟨(all_one eV_one _), ⟨(all_one1 eI_one _), ⟨(all_one eV_one _), rfl⟩⟩⟩) (show (AV.cells (.agg (((at_ ((patR ((quadR vs fs cr).1.Verts) ((quadR vs fs cr).1.Faces) ((quadR vs fs cr).1.Creases) 0).1) ((at_ ((buildT ((quadR vs fs cr).1.Verts.length : Int) (quadR vs fs cr).1.Faces).ed) i).F)).aP).flatMap eV ++ (((at_ ((patR ((quadR vs fs cr).1.Verts) ((quadR vs fs cr).1.Faces) ((quadR vs fs cr).1.Creases) 0).1) ((at_ ((buildT ((quadR vs fs cr).1.Verts.length : Int) (quadR vs fs cr).1.Faces).ed) i).F)).aCorners).map eI ++ (((at_ ((patR ((quadR vs fs cr).1.Verts) ((quadR vs fs cr).1.Faces) ((quadR vs fs cr).1.Creases) 0).1) ((at_ ((buildT ((quadR vs fs cr).1.Verts.length : Int) (quadR vs fs cr).1.Faces).ed) i).F)).aNormals).flatMap eV ++ [.int .i64 ((at_ ((patR ((quadR vs fs cr).1.Verts) ((quadR vs fs cr).1.Faces) ((quadR vs fs cr).1.Creases) 0).1) ((at_ ((buildT ((quadR vs fs cr).1.Verts.length : Int) (quadR vs fs cr).1.Faces).ed) i).F)).Skin)]))))).length = 65 from (len_app (m := 48) (n := 17) (k := 65) (lenM eV_len (at_ ((patR ((quadR vs fs cr).1.Verts) ((quadR vs fs cr).1.Faces) ((quadR vs fs cr).1.Creases) 0).1) ((at_ ((buildT ((quadR vs fs cr).1.Verts.length : Int) (quadR vs fs cr).1.Faces).ed) i).F)).lP rfl) (len_app (m := 4) (n := 13) (k := 17) (len1 (at_ ((patR ((quadR vs fs cr).1.Verts) ((quadR vs fs cr).1.Faces) ((quadR vs fs cr).1.Creases) 0).1) ((at_ ((buildT ((quadR vs fs cr).1.Verts.length : Int) (quadR vs fs cr).1.Faces).ed) i).F)).lCorners) (len_app (m := 12) (n := 1) (k := 13) (lenM eV_len (at_ ((patR ((quadR vs fs cr).1.Verts) ((quadR vs fs cr).1.Faces) ((quadR vs fs cr).1.Creases) 0).1) ((at_ ((buildT ((quadR vs fs cr).1.Verts.length : Int) (quadR vs fs cr).1.Faces).ed) i).F)).lNormals rfl) rfl rfl) rfl) rfl)) rfl (wr_all rfl (len_app (m := 48) (n := 17) (k := 65) (lenM eV_len (at_ ((patR ((quadR vs fs cr).1.Verts) ((quadR vs fs cr).1.Faces) ((quadR vs fs cr).1.Creases) 0).1) ((at_ ((buildT ((quadR vs fs cr).1.Verts.length : Int) (quadR vs fs cr).1.Faces).ed) i).F)).lP rfl) (len_app (m := 4) (n := 13) (k := 17) (len1 (at_ ((patR ((quadR vs fs cr).1.Verts) ((quadR vs fs cr).1.Faces) ((quadR vs fs cr).1.Creases) 0).1) ((at_ ((buildT ((quadR vs fs cr).1.Verts.length : Int) (quadR vs fs cr).1.Faces).ed) i).F)).lCorners) (len_app (m := 12) (n := 1) (k := 13) (lenM eV_len (at_ ((patR ((quadR vs fs cr).1.Verts) ((quadR vs fs cr).1.Faces) ((quadR vs fs cr).1.Creases) 0).1) ((at_ ((buildT ((quadR vs fs cr).1.Verts.length : Int) (quadR vs fs cr).1.Faces).ed) i).F)).lNormals rfl) rfl rfl) rfl) rfl)) ?_)
 intro H86 h87 k88
 have m90 := Mono.set m85 z84 k88
 refine AWP.seq ?_
 refine AWP.frzP 11 h87 z84 rfl m90 fun H91 m92 k93 => ?_
 refine AWP.region rfl ?_
 refine AOps.cons rfl rfl (AOp.move _ rfl s58 (AOps.cons rfl rfl (AOp.fieldAddrF rfl rfl fl_47_3 (AOps.cons rfl rfl (AOp.loadF _ rfl rfl ty_3 rfl (AOps.cons rfl rfl (AOp.indexAddrS rfl rfl rfl sl_63 (by omega) (by omega) (AOps.cons rfl rfl (AOp.loadF _ rfl rfl ty_70 (ldM ePatch_len (by omega) (by omega)) (AOps.cons rfl rfl (AOp.alloc rfl tz_70 ?_)))))))))))
 intro i94 H95 n96 h97 k98
 have z99 := Mono.free m92 n96
 have m100 := Mono.new m92 n96 k98
 refine AOps.cons rfl rfl (AOp.store' (cells' := ((at_ ((patR ((quadR vs fs cr).1.Verts) ((quadR vs fs cr).1.Faces) ((quadR vs fs cr).1.Creases) 0).1) ((at_ ((buildT ((quadR vs fs cr).1.Verts.length : Int) (quadR vs fs cr).1.Faces).ed) i).G)).aP).flatMap eV ++ (((at_ ((patR ((quadR vs fs cr).1.Verts) ((quadR vs fs cr).1.Faces) ((quadR vs fs cr).1.Creases) 0).1) ((at_ ((buildT ((quadR vs fs cr).1.Verts.length : Int) (quadR vs fs cr).1.Faces).ed) i).G)).aCorners).map eI ++ (((at_ ((patR ((quadR vs fs cr).1.Verts) ((quadR vs fs cr).1.Faces) ((quadR vs fs cr).1.Creases) 0).1) ((at_ ((buildT ((quadR vs fs cr).1.Verts.length : Int) (quadR vs fs cr).1.Faces).ed) i).G)).aNormals).flatMap eV ++ [.int .i64 ((at_ ((patR ((quadR vs fs cr).1.Verts) ((quadR vs fs cr).1.Faces) ((quadR vs fs cr).1.Creases) 0).1) ((at_ ((buildT ((quadR vs fs cr).1.Verts.length : Int) (quadR vs fs cr).1.Faces).ed) i).G)).Skin)]))) (.agg (((at_ ((patR ((quadR vs fs cr).1.Verts) ((quadR vs fs cr).1.Faces) ((quadR vs fs cr).1.Creases) 0).1) ((at_ ((buildT ((quadR vs fs cr).1.Verts.length : Int) (quadR vs fs cr).1.Faces).ed) i).G)).aP).flatMap eV ++ (((at_ ((patR ((quadR vs fs cr).1.Verts) ((quadR vs fs cr).1.Faces) ((quadR vs fs cr).1.Creases) 0).1) ((at_ ((buildT ((quadR vs fs cr).1.Verts.length : Int) (quadR vs fs cr).1.Faces).ed) i).G)).aCorners).map eI ++ (((at_ ((patR ((quadR vs fs cr).1.Verts) ((quadR vs fs cr).1.Faces) ((quadR vs fs cr).1.Creases) 0).1) ((at_ ((buildT ((quadR vs fs cr).1.Verts.length : Int) (quadR vs fs cr).1.Faces).ed) i).G)).aNormals).flatMap eV ++ [.int .i64 ((at_ ((patR ((quadR vs fs cr).1.Verts) ((quadR vs fs cr).1.Faces) ((quadR vs fs cr).1.Creases) 0).1) ((at_ ((buildT ((quadR vs fs cr).1.Verts.length : Int) (quadR vs fs cr).1.Faces).ed) i).G)).Skin)])))) rfl rfl ts_70 h97 (by simp only [AV.cells, List.all_append, List.all_cons, List.all_nil, Bool.and_true, Bool.and_eq_true]; exact ⟨(all_one eV_one _), ⟨(all_one1 eI_one _), ⟨(all_one eV_one _), rfl⟩⟩⟩) (show (AV.cells (.agg (((at_ ((patR ((quadR vs fs cr).1.Verts) ((quadR vs fs cr).1.Faces) ((quadR vs fs cr).1.Creases) 0).1) ((at_ ((buildT ((quadR vs fs cr).1.Verts.length : Int) (quadR vs fs cr).1.Faces).ed) i).G)).aP).flatMap eV ++ (((at_ ((patR ((quadR vs fs cr).1.Verts) ((quadR vs fs cr).1.Faces) ((quadR vs fs cr).1.Creases) 0).1) ((at_ ((buildT ((quadR vs fs cr).1.Verts.length : Int) (quadR vs fs cr).1.Faces).ed) i).G)).aCorners).map eI ++ (((at_ ((patR ((quadR vs fs cr).1.Verts) ((quadR vs fs cr).1.Faces) ((quadR vs fs cr).1.Creases) 0).1) ((at_ ((buildT ((quadR vs fs cr).1.Verts.length : Int) (quadR vs fs cr).1.Faces).ed) i).G)).aNormals).flatMap eV ++ [.int .i64 ((at_ ((patR ((quadR vs fs cr).1.Verts) ((quadR vs fs cr).1.Faces) ((quadR vs fs cr).1.Creases) 0).1) ((at_ ((buildT ((quadR vs fs cr).1.Verts.length : Int) (quadR vs fs cr).1.Faces).ed) i).G)).Skin)]))))).length = 65 from (len_app (m := 48) (n := 17) (k := 65) (lenM eV_len (at_ ((patR ((quadR vs fs cr).1.Verts) ((quadR vs fs cr).1.Faces) ((quadR vs fs cr).1.Creases) 0).1) ((at_ ((buildT ((quadR vs fs cr).1.Verts.length : Int) (quadR vs fs cr).1.Faces).ed) i).G)).lP rfl) (len_app (m := 4) (n := 13) (k := 17) (len1 (at_ ((patR ((quadR vs fs cr).1.Verts) ((quadR vs fs cr).1.Faces) ((quadR vs fs cr).1.Creases) 0).1) ((at_ ((buildT ((quadR vs fs cr).1.Verts.length : Int) (quadR vs fs cr).1.Faces).ed) i).G)).lCorners) (len_app (m := 12) (n := 1) (k := 13) (lenM eV_len (at_ ((patR ((quadR vs fs cr).1.Verts) ((quadR vs fs cr).1.Faces) ((quadR vs fs cr).1.Creases) 0).1) ((at_ ((buildT ((quadR vs fs cr).1.Verts.length : Int) (quadR vs fs cr).1.Faces).ed) i).G)).lNormals rfl) rfl rfl) rfl) rfl)) rfl (wr_all rfl (len_app (m := 48) (n := 17) (k := 65) (lenM eV_len (at_ ((patR ((quadR vs fs cr).1.Verts) ((quadR vs fs cr).1.Faces) ((quadR vs fs cr).1.Creases) 0).1) ((at_ ((buildT ((quadR vs fs cr).1.Verts.length : Int) (quadR vs fs cr).1.Faces).ed) i).G)).lP rfl) (len_app (m := 4) (n := 13) (k := 17) (len1 (at_ ((patR ((quadR vs fs cr).1.Verts) ((quadR vs fs cr).1.Faces) ((quadR vs fs cr).1.Creases) 0).1) ((at_ ((buildT ((quadR vs fs cr).1.Verts.length : Int) (quadR vs fs cr).1.Faces).ed) i).G)).lCorners) (len_app (m := 12) (n := 1) (k := 13) (lenM eV_len (at_ ((patR ((quadR vs fs cr).1.Verts) ((quadR vs fs cr).1.Faces) ((quadR vs fs cr).1.Creases) 0).1) ((at_ ((buildT ((quadR vs fs cr).1.Verts.length : Int) (quadR vs fs cr).1.Faces).ed) i).G)).lNormals rfl) rfl rfl) rfl) rfl)) ?_)
 intro H101 h102 k103
 have m105 := Mono.set m100 z99 k103
 refine AWP.seq ?_
 refine AWP.frzP 12 h102 z99 rfl m105 fun H106 m107 k108 => ?_
 refine AWP.region rfl ?_
 refine AOps.cons rfl rfl (AOp.assign _ rfl rfl ?_)
 refine AWP.block ?_
 refine AWP.loop (fun q109 fq Hq => ∃ (a : Int), q109 = ((4 : Int) - a).toNat ∧ fq 13 = .int .i64 a ∧ fq 9 = .int .i64 i ∧ fq 5 = .sl ((patR ((quadR vs fs cr).1.Verts) ((quadR vs fs cr).1.Faces) ((quadR vs fs cr).1.Creases) 0).1).length (((patR ((quadR vs fs cr).1.Verts) ((quadR vs fs cr).1.Faces) ((quadR vs fs cr).1.Creases) 0).1).flatMap ePatch) ∧ fq 7 = .fptr [.sl ((buildT ((quadR vs fs cr).1.Verts.length : Int) (quadR vs fs cr).1.Faces).ed).length (((buildT ((quadR vs fs cr).1.Verts.length : Int) (quadR vs fs cr).1.Faces).ed).flatMap eE), .sl ((buildT ((quadR vs fs cr).1.Verts.length : Int) (quadR vs fs cr).1.Faces).fan).length (((buildT ((quadR vs fs cr).1.Verts.length : Int) (quadR vs fs cr).1.Faces).fan).map eF), .sl ((buildT ((quadR vs fs cr).1.Verts.length : Int) (quadR vs fs cr).1.Faces).rnd).length (((buildT ((quadR vs fs cr).1.Verts.length : Int) (quadR vs fs cr).1.Faces).rnd).map eBo)] 0 ∧ fq 10 = .fptr [.int .i64 ((at_ ((buildT ((quadR vs fs cr).1.Verts.length : Int) (quadR vs fs cr).1.Faces).ed) i).A), .int .i64 ((at_ ((buildT ((quadR vs fs cr).1.Verts.length : Int) (quadR vs fs cr).1.Faces).ed) i).B), .int .i64 ((at_ ((buildT ((quadR vs fs cr).1.Verts.length : Int) (quadR vs fs cr).1.Faces).ed) i).F), .int .i64 ((at_ ((buildT ((quadR vs fs cr).1.Verts.length : Int) (quadR vs fs cr).1.Faces).ed) i).G)] 0 ∧ fq 11 = .fptr ((((at_ ((patR ((quadR vs fs cr).1.Verts) ((quadR vs fs cr).1.Faces) ((quadR vs fs cr).1.Creases) 0).1) ((at_ ((buildT ((quadR vs fs cr).1.Verts.length : Int) (quadR vs fs cr).1.Faces).ed) i).F)).aP).flatMap eV) ++ ((((at_ ((patR ((quadR vs fs cr).1.Verts) ((quadR vs fs cr).1.Faces) ((quadR vs fs cr).1.Creases) 0).1) ((at_ ((buildT ((quadR vs fs cr).1.Verts.length : Int) (quadR vs fs cr).1.Faces).ed) i).F)).aCorners).map eI) ++ ((((at_ ((patR ((quadR vs fs cr).1.Verts) ((quadR vs fs cr).1.Faces) ((quadR vs fs cr).1.Creases) 0).1) ((at_ ((buildT ((quadR vs fs cr).1.Verts.length : Int) (quadR vs fs cr).1.Faces).ed) i).F)).aNormals).flatMap eV) ++ ([.int .i64 ((at_ ((patR ((quadR vs fs cr).1.Verts) ((quadR vs fs cr).1.Faces) ((quadR vs fs cr).1.Creases) 0).1) ((at_ ((buildT ((quadR vs fs cr).1.Verts.length : Int) (quadR vs fs cr).1.Faces).ed) i).F)).Skin)] : List AV)))) 0 ∧ fq 12 = .fptr ((((at_ ((patR ((quadR vs fs cr).1.Verts) ((quadR vs fs cr).1.Faces) ((quadR vs fs cr).1.Creases) 0).1) ((at_ ((buildT ((quadR vs fs cr).1.Verts.length : Int) (quadR vs fs cr).1.Faces).ed) i).G)).aP).flatMap eV) ++ ((((at_ ((patR ((quadR vs fs cr).1.Verts) ((quadR vs fs cr).1.Faces) ((quadR vs fs cr).1.Creases) 0).1) ((at_ ((buildT ((quadR vs fs cr).1.Verts.length : Int) (quadR vs fs cr).1.Faces).ed) i).G)).aCorners).map eI) ++ ((((at_ ((patR ((quadR vs fs cr).1.Verts) ((quadR vs fs cr).1.Faces) ((quadR vs fs cr).1.Creases) 0).1) ((at_ ((buildT ((quadR vs fs cr).1.Verts.length : Int) (quadR vs fs cr).1.Faces).ed) i).G)).aNormals).flatMap eV) ++ ([.int .i64 ((at_ ((patR ((quadR vs fs cr).1.Verts) ((quadR vs fs cr).1.Faces) ((quadR vs fs cr).1.Creases) 0).1) ((at_ ((buildT ((quadR vs fs cr).1.Verts.length : Int) (quadR vs fs cr).1.Faces).ed) i).G)).Skin)] : List AV)))) 0 ∧ Mono H0 Hq ∧ (0 ≤ a) ∧ (a ≤ 4)) (k := ((4 : Int) - 0).toNat) ?_ ?_
 exact ⟨0, rfl, rfl, s57, s58, s59, rfl, rfl, rfl, m107, by omega, by omega⟩
 rintro _ f111 H110 ⟨a, rfl, s112, s113, s114, s115, s116, s117, s118, m119, ha0, ha1⟩
 refine AWP.seq ?_
 refine AWP.seq (AWP.region rfl ?_)
 refine AOps.cons rfl rfl (AOp.move _ rfl s112 (AOps.cons rfl rfl (AOp.bin _ rfl rfl rfl rfl ?_)))
 refine AOps.nil ?_
 change AWP _ _ _ _ _ _
 by_cases b120 : a < 4
 refine AWP.condT rfl (decide_eq_true b120) ?_
 refine AWP.skip ?_
 refine AWP.seq ?_
 refine AWP.block ?_
 refine AWP.seq (AWP.region rfl ?_)
 refine AOps.cons rfl rfl (AOp.assign _ rfl rfl ?_)
 refine AWP.block ?_
 refine AWP.loop (fun q121 fq Hq => ∃ (b : Int), q121 = ((4 : Int) - b).toNat ∧ fq 14 = .int .i64 b ∧ fq 13 = .int .i64 a ∧ fq 9 = .int .i64 i ∧ fq 5 = .sl ((patR ((quadR vs fs cr).1.Verts) ((quadR vs fs cr).1.Faces) ((quadR vs fs cr).1.Creases) 0).1).length (((patR ((quadR vs fs cr).1.Verts) ((quadR vs fs cr).1.Faces) ((quadR vs fs cr).1.Creases) 0).1).flatMap ePatch) ∧ fq 7 = .fptr [.sl ((buildT ((quadR vs fs cr).1.Verts.length : Int) (quadR vs fs cr).1.Faces).ed).length (((buildT ((quadR vs fs cr).1.Verts.length : Int) (quadR vs fs cr).1.Faces).ed).flatMap eE), .sl ((buildT ((quadR vs fs cr).1.Verts.length : Int) (quadR vs fs cr).1.Faces).fan).length (((buildT ((quadR vs fs cr).1.Verts.length : Int) (quadR vs fs cr).1.Faces).fan).map eF), .sl ((buildT ((quadR vs fs cr).1.Verts.length : Int) (quadR vs fs cr).1.Faces).rnd).length (((buildT ((quadR vs fs cr).1.Verts.length : Int) (quadR vs fs cr).1.Faces).rnd).map eBo)] 0 ∧ fq 10 = .fptr [.int .i64 ((at_ ((buildT ((quadR vs fs cr).1.Verts.length : Int) (quadR vs fs cr).1.Faces).ed) i).A), .int .i64 ((at_ ((buildT ((quadR vs fs cr).1.Verts.length : Int) (quadR vs fs cr).1.Faces).ed) i).B), .int .i64 ((at_ ((buildT ((quadR vs fs cr).1.Verts.length : Int) (quadR vs fs cr).1.Faces).ed) i).F), .int .i64 ((at_ ((buildT ((quadR vs fs cr).1.Verts.length : Int) (quadR vs fs cr).1.Faces).ed) i).G)] 0 ∧ fq 11 = .fptr ((((at_ ((patR ((quadR vs fs cr).1.Verts) ((quadR vs fs cr).1.Faces) ((quadR vs fs cr).1.Creases) 0).1) ((at_ ((buildT ((quadR vs fs cr).1.Verts.length : Int) (quadR vs fs cr).1.Faces).ed) i).F)).aP).flatMap eV) ++ ((((at_ ((patR ((quadR vs fs cr).1.Verts) ((quadR vs fs cr).1.Faces) ((quadR vs fs cr).1.Creases) 0).1) ((at_ ((buildT ((quadR vs fs cr).1.Verts.length : Int) (quadR vs fs cr).1.Faces).ed) i).F)).aCorners).map eI) ++ ((((at_ ((patR ((quadR vs fs cr).1.Verts) ((quadR vs fs cr).1.Faces) ((quadR vs fs cr).1.Creases) 0).1) ((at_ ((buildT ((quadR vs fs cr).1.Verts.length : Int) (quadR vs fs cr).1.Faces).ed) i).F)).aNormals).flatMap eV) ++ ([.int .i64 ((at_ ((patR ((quadR vs fs cr).1.Verts) ((quadR vs fs cr).1.Faces) ((quadR vs fs cr).1.Creases) 0).1) ((at_ ((buildT ((quadR vs fs cr).1.Verts.length : Int) (quadR vs fs cr).1.Faces).ed) i).F)).Skin)] : List AV)))) 0 ∧ fq 12 = .fptr ((((at_ ((patR ((quadR vs fs cr).1.Verts) ((quadR vs fs cr).1.Faces) ((quadR vs fs cr).1.Creases) 0).1) ((at_ ((buildT ((quadR vs fs cr).1.Verts.length : Int) (quadR vs fs cr).1.Faces).ed) i).G)).aP).flatMap eV) ++ ((((at_ ((patR ((quadR vs fs cr).1.Verts) ((quadR vs fs cr).1.Faces) ((quadR vs fs cr).1.Creases) 0).1) ((at_ ((buildT ((quadR vs fs cr).1.Verts.length : Int) (quadR vs fs cr).1.Faces).ed) i).G)).aCorners).map eI) ++ ((((at_ ((patR ((quadR vs fs cr).1.Verts) ((quadR vs fs cr).1.Faces) ((quadR vs fs cr).1.Creases) 0).1) ((at_ ((buildT ((quadR vs fs cr).1.Verts.length : Int) (quadR vs fs cr).1.Faces).ed) i).G)).aNormals).flatMap eV) ++ ([.int .i64 ((at_ ((patR ((quadR vs fs cr).1.Verts) ((quadR vs fs cr).1.Faces) ((quadR vs fs cr).1.Creases) 0).1) ((at_ ((buildT ((quadR vs fs cr).1.Verts.length : Int) (quadR vs fs cr).1.Faces).ed) i).G)).Skin)] : List AV)))) 0 ∧ Mono H0 Hq ∧ (0 ≤ b) ∧ (b ≤ 4)) (k := ((4 : Int) - 0).toNat) ?_ ?_
 exact ⟨0, rfl, rfl, s112, s113, s114, s115, s116, s117, s118, m119, by omega, by omega⟩
 rintro _ f123 H122 ⟨b, rfl, s124, s125, s126, s127, s128, s129, s130, s131, m132, hb0, hb1⟩
 refine AWP.seq ?_
 refine AWP.seq (AWP.region rfl ?_)
 refine AOps.cons rfl rfl (AOp.move _ rfl s124 (AOps.cons rfl rfl (AOp.bin _ rfl rfl rfl rfl ?_)))
 refine AOps.nil ?_
 change AWP _ _ _ _ _ _
 by_cases b133 : b < 4
 refine AWP.condT rfl (decide_eq_true b133) ?_
 refine AWP.skip ?_
 refine AWP.seq ?_
 refine AWP.block ?_
 refine AWP.seq ?_
 refine AWP.seq ?_
 refine AWP.region_quiet mixed (by kernel_rfl) 38 [] rfl (by kernel_rfl) (Mono H122) (Mono.refl _) ?_
 refine QE.op rfl rfl (.inl ⟨rfl, fun f' H' hf hM => AOp.move _ rfl ((hf 13 rfl).trans s125) ⟨rfl, hM⟩⟩) ?_
 refine QE.op rfl rfl (.inl ⟨rfl, fun f' H' hf hM => AOp.fieldAddrF rfl ((hf 11 rfl).trans s130) fl_70_1 ⟨rfl, hM⟩⟩) ?_
 refine QE.op rfl rfl (.inl ⟨rfl, fun f' H' hf hM => AOp.indexAddrFA rfl ((hf 93 rfl).trans rfl) ((hf 92 rfl).trans rfl) ar_67 (by omega) (by omega) ⟨rfl, hM⟩⟩) ?_
 refine QE.op rfl rfl (.inl ⟨rfl, fun f' H' hf hM => AOp.loadF _ rfl ((hf 94 rfl).trans rfl) ty_3 (ld_skip (off' := (a).toNat * 1) (lenM eV_len (at_ ((patR ((quadR vs fs cr).1.Verts) ((quadR vs fs cr).1.Faces) ((quadR vs fs cr).1.Creases) 0).1) ((at_ ((buildT ((quadR vs fs cr).1.Verts.length : Int) (quadR vs fs cr).1.Faces).ed) i).F)).lP rfl) (by omega) (ld_fst (fun h => by first | rfl | cases h) (ld1 (i := a) (by omega) (by first | (have := (at_ ((patR ((quadR vs fs cr).1.Verts) ((quadR vs fs cr).1.Faces) ((quadR vs fs cr).1.Creases) 0).1) ((at_ ((buildT ((quadR vs fs cr).1.Verts.length : Int) (quadR vs fs cr).1.Faces).ed) i).F)).lCorners; omega) | (simp; omega))))) ⟨rfl, hM⟩⟩) ?_
 refine QE.op rfl rfl (.inl ⟨rfl, fun f' H' hf hM => AOp.fieldAddrF rfl ((hf 10 rfl).trans s129) fl_47_0 ⟨rfl, hM⟩⟩) ?_
 refine QE.op rfl rfl (.inl ⟨rfl, fun f' H' hf hM => AOp.loadF _ rfl ((hf 96 rfl).trans rfl) ty_3 rfl ⟨rfl, hM⟩⟩) ?_
 refine QE.op rfl rfl (.inl ⟨rfl, fun f' H' hf hM => AOp.bin _ rfl ((hf 95 rfl).trans rfl) ((hf 97 rfl).trans rfl) ine ⟨rfl, hM⟩⟩) ?_
 refine QE.op rfl rfl (.inl ⟨rfl, fun f' H' hf hM => AOp.move _ rfl ((hf 98 rfl).trans rfl) ⟨rfl, hM⟩⟩) ?_
 by_cases b134 : at_ ((at_ ((patR ((quadR vs fs cr).1.Verts) ((quadR vs fs cr).1.Faces) ((quadR vs fs cr).1.Creases) 0).1) ((at_ ((buildT ((quadR vs fs cr).1.Verts.length : Int) (quadR vs fs cr).1.Faces).ed) i).F)).aCorners) a = (at_ ((buildT ((quadR vs fs cr).1.Verts.length : Int) (quadR vs fs cr).1.Faces).ed) i).A
 refine QE.op rfl rfl (QOp.yes rfl rfl rfl rfl (nb (decide_eq_true b134)) fun f' H' hf hM => AOp.move _ rfl ((hf 13 rfl).trans s125) ⟨rfl, hM⟩) ?_
 refine QE.op rfl rfl (QOp.yes rfl rfl rfl rfl (nb (decide_eq_true b134)) fun f' H' hf hM => AOp.bin _ rfl ((hf 100 rfl).trans rfl) rfl (iadd (by omega)) ⟨rfl, hM⟩) ?_
 refine QE.op rfl rfl (QOp.yes rfl rfl rfl rfl (nb (decide_eq_true b134)) fun f' H' hf hM => AOp.remP rfl ((hf 101 rfl).trans rfl) rfl (by omega) (by omega) ⟨rfl, hM⟩) ?_
 refine QE.op rfl rfl (QOp.yes rfl rfl rfl rfl (nb (decide_eq_true b134)) fun f' H' hf hM => AOp.fieldAddrF rfl ((hf 11 rfl).trans s130) fl_70_1 ⟨rfl, hM⟩) ?_
 refine QE.op rfl rfl (QOp.yes rfl rfl rfl rfl (nb (decide_eq_true b134)) fun f' H' hf hM => AOp.indexAddrFA rfl ((hf 103 rfl).trans rfl) ((hf 102 rfl).trans rfl) ar_67 (by omega) (by omega) ⟨rfl, hM⟩) ?_
 refine QE.op rfl rfl (QOp.yes rfl rfl rfl rfl (nb (decide_eq_true b134)) fun f' H' hf hM => AOp.loadF _ rfl ((hf 104 rfl).trans rfl) ty_3 (ld_skip (off' := ((a + 1) % 4).toNat * 1) (lenM eV_len (at_ ((patR ((quadR vs fs cr).1.Verts) ((quadR vs fs cr).1.Faces) ((quadR vs fs cr).1.Creases) 0).1) ((at_ ((buildT ((quadR vs fs cr).1.Verts.length : Int) (quadR vs fs cr).1.Faces).ed) i).F)).lP rfl) (by omega) (ld_fst (fun h => by first | rfl | cases h) (ld1 (i := (a + 1) % 4) (by omega) (by first | (have := (at_ ((patR ((quadR vs fs cr).1.Verts) ((quadR vs fs cr).1.Faces) ((quadR vs fs cr).1.Creases) 0).1) ((at_ ((buildT ((quadR vs fs cr).1.Verts.length : Int) (quadR vs fs cr).1.Faces).ed) i).F)).lCorners; omega) | (simp; omega))))) ⟨rfl, hM⟩) ?_
 refine QE.op rfl rfl (QOp.yes rfl rfl rfl rfl (nb (decide_eq_true b134)) fun f' H' hf hM => AOp.fieldAddrF rfl ((hf 10 rfl).trans s129) fl_47_1 ⟨rfl, hM⟩) ?_
 refine QE.op rfl rfl (QOp.yes rfl rfl rfl rfl (nb (decide_eq_true b134)) fun f' H' hf hM => AOp.loadF _ rfl ((hf 106 rfl).trans rfl) ty_3 rfl ⟨rfl, hM⟩) ?_
 refine QE.op rfl rfl (QOp.yes rfl rfl rfl rfl (nb (decide_eq_true b134)) fun f' H' hf hM => AOp.bin _ rfl ((hf 105 rfl).trans rfl) ((hf 107 rfl).trans rfl) ine ⟨rfl, hM⟩) ?_
 refine QE.op rfl rfl (.inl ⟨rfl, fun f' H' hf hM => AOp.pickF _ rfl ((hf 99 rfl).trans rfl) (nb (decide_eq_true b134)) ((hf 108 rfl).trans rfl) ⟨rfl, hM⟩⟩) ?_
 refine QE.op rfl rfl (.inl ⟨rfl, fun f' H' hf hM => AOp.move _ rfl ((hf 109 rfl).trans rfl) ⟨rfl, hM⟩⟩) ?_
 by_cases b135 : at_ ((at_ ((patR ((quadR vs fs cr).1.Verts) ((quadR vs fs cr).1.Faces) ((quadR vs fs cr).1.Creases) 0).1) ((at_ ((buildT ((quadR vs fs cr).1.Verts.length : Int) (quadR vs fs cr).1.Faces).ed) i).F)).aCorners) ((a + 1) % 4) = (at_ ((buildT ((quadR vs fs cr).1.Verts.length : Int) (quadR vs fs cr).1.Faces).ed) i).B
 refine QE.op rfl rfl (QOp.yes rfl rfl rfl rfl (nb (decide_eq_true b135)) fun f' H' hf hM => AOp.move _ rfl ((hf 14 rfl).trans s124) ⟨rfl, hM⟩) ?_
 refine QE.op rfl rfl (QOp.yes rfl rfl rfl rfl (nb (decide_eq_true b135)) fun f' H' hf hM => AOp.fieldAddrF rfl ((hf 12 rfl).trans s131) fl_70_1 ⟨rfl, hM⟩) ?_
 refine QE.op rfl rfl (QOp.yes rfl rfl rfl rfl (nb (decide_eq_true b135)) fun f' H' hf hM => AOp.indexAddrFA rfl ((hf 112 rfl).trans rfl) ((hf 111 rfl).trans rfl) ar_67 (by omega) (by omega) ⟨rfl, hM⟩) ?_
 refine QE.op rfl rfl (QOp.yes rfl rfl rfl rfl (nb (decide_eq_true b135)) fun f' H' hf hM => AOp.loadF _ rfl ((hf 113 rfl).trans rfl) ty_3 (ld_skip (off' := (b).toNat * 1) (lenM eV_len (at_ ((patR ((quadR vs fs cr).1.Verts) ((quadR vs fs cr).1.Faces) ((quadR vs fs cr).1.Creases) 0).1) ((at_ ((buildT ((quadR vs fs cr).1.Verts.length : Int) (quadR vs fs cr).1.Faces).ed) i).G)).lP rfl) (by omega) (ld_fst (fun h => by first | rfl | cases h) (ld1 (i := b) (by omega) (by first | (have := (at_ ((patR ((quadR vs fs cr).1.Verts) ((quadR vs fs cr).1.Faces) ((quadR vs fs cr).1.Creases) 0).1) ((at_ ((buildT ((quadR vs fs cr).1.Verts.length : Int) (quadR vs fs cr).1.Faces).ed) i).G)).lCorners; omega) | (simp; omega))))) ⟨rfl, hM⟩) ?_
 refine QE.op rfl rfl (QOp.yes rfl rfl rfl rfl (nb (decide_eq_true b135)) fun f' H' hf hM => AOp.fieldAddrF rfl ((hf 10 rfl).trans s129) fl_47_1 ⟨rfl, hM⟩) ?_
 refine QE.op rfl rfl (QOp.yes rfl rfl rfl rfl (nb (decide_eq_true b135)) fun f' H' hf hM => AOp.loadF _ rfl ((hf 115 rfl).trans rfl) ty_3 rfl ⟨rfl, hM⟩) ?_
 refine QE.op rfl rfl (QOp.yes rfl rfl rfl rfl (nb (decide_eq_true b135)) fun f' H' hf hM => AOp.bin _ rfl ((hf 114 rfl).trans rfl) ((hf 116 rfl).trans rfl) ine ⟨rfl, hM⟩) ?_
 refine QE.op rfl rfl (.inl ⟨rfl, fun f' H' hf hM => AOp.pickF _ rfl ((hf 110 rfl).trans rfl) (nb (decide_eq_true b135)) ((hf 117 rfl).trans rfl) ⟨rfl, hM⟩⟩) ?_
 refine QE.op rfl rfl (.inl ⟨rfl, fun f' H' hf hM => AOp.move _ rfl ((hf 118 rfl).trans rfl) ⟨rfl, hM⟩⟩) ?_
 by_cases b136 : at_ ((at_ ((patR ((quadR vs fs cr).1.Verts) ((quadR vs fs cr).1.Faces) ((quadR vs fs cr).1.Creases) 0).1) ((at_ ((buildT ((quadR vs fs cr).1.Verts.length : Int) (quadR vs fs cr).1.Faces).ed) i).G)).aCorners) b = (at_ ((buildT ((quadR vs fs cr).1.Verts.length : Int) (quadR vs fs cr).1.Faces).ed) i).B
 refine QE.op rfl rfl (QOp.yes rfl rfl rfl rfl (nb (decide_eq_true b136)) fun f' H' hf hM => AOp.move _ rfl ((hf 14 rfl).trans s124) ⟨rfl, hM⟩) ?_
 refine QE.op rfl rfl (QOp.yes rfl rfl rfl rfl (nb (decide_eq_true b136)) fun f' H' hf hM => AOp.bin _ rfl ((hf 120 rfl).trans rfl) rfl (iadd (by omega)) ⟨rfl, hM⟩) ?_
 refine QE.op rfl rfl (QOp.yes rfl rfl rfl rfl (nb (decide_eq_true b136)) fun f' H' hf hM => AOp.remP rfl ((hf 121 rfl).trans rfl) rfl (by omega) (by omega) ⟨rfl, hM⟩) ?_
 refine QE.op rfl rfl (QOp.yes rfl rfl rfl rfl (nb (decide_eq_true b136)) fun f' H' hf hM => AOp.fieldAddrF rfl ((hf 12 rfl).trans s131) fl_70_1 ⟨rfl, hM⟩) ?_
 refine QE.op rfl rfl (QOp.yes rfl rfl rfl rfl (nb (decide_eq_true b136)) fun f' H' hf hM => AOp.indexAddrFA rfl ((hf 123 rfl).trans rfl) ((hf 122 rfl).trans rfl) ar_67 (by omega) (by omega) ⟨rfl, hM⟩) ?_
 refine QE.op rfl rfl (QOp.yes rfl rfl rfl rfl (nb (decide_eq_true b136)) fun f' H' hf hM => AOp.loadF _ rfl ((hf 124 rfl).trans rfl) ty_3 (ld_skip (off' := ((b + 1) % 4).toNat * 1) (lenM eV_len (at_ ((patR ((quadR vs fs cr).1.Verts) ((quadR vs fs cr).1.Faces) ((quadR vs fs cr).1.Creases) 0).1) ((at_ ((buildT ((quadR vs fs cr).1.Verts.length : Int) (quadR vs fs cr).1.Faces).ed) i).G)).lP rfl) (by omega) (ld_fst (fun h => by first | rfl | cases h) (ld1 (i := (b + 1) % 4) (by omega) (by first | (have := (at_ ((patR ((quadR vs fs cr).1.Verts) ((quadR vs fs cr).1.Faces) ((quadR vs fs cr).1.Creases) 0).1) ((at_ ((buildT ((quadR vs fs cr).1.Verts.length : Int) (quadR vs fs cr).1.Faces).ed) i).G)).lCorners; omega) | (simp; omega))))) ⟨rfl, hM⟩) ?_
 refine QE.op rfl rfl (QOp.yes rfl rfl rfl rfl (nb (decide_eq_true b136)) fun f' H' hf hM => AOp.fieldAddrF rfl ((hf 10 rfl).trans s129) fl_47_0 ⟨rfl, hM⟩) ?_
 refine QE.op rfl rfl (QOp.yes rfl rfl rfl rfl (nb (decide_eq_true b136)) fun f' H' hf hM => AOp.loadF _ rfl ((hf 126 rfl).trans rfl) ty_3 rfl ⟨rfl, hM⟩) ?_
 refine QE.op rfl rfl (QOp.yes rfl rfl rfl rfl (nb (decide_eq_true b136)) fun f' H' hf hM => AOp.bin _ rfl ((hf 125 rfl).trans rfl) ((hf 127 rfl).trans rfl) ine ⟨rfl, hM⟩) ?_
 refine QE.op rfl rfl (.inl ⟨rfl, fun f' H' hf hM => AOp.pickF _ rfl ((hf 119 rfl).trans rfl) (nb (decide_eq_true b136)) ((hf 128 rfl).trans rfl) ⟨rfl, hM⟩⟩) ?_
 refine QE.done fun H137 m138 => ?_
 have m139 := m132.trans m138
 refine AOps.nil ?_
 change AWP _ _ _ _ _ _
 by_cases b140 : at_ ((at_ ((patR ((quadR vs fs cr).1.Verts) ((quadR vs fs cr).1.Faces) ((quadR vs fs cr).1.Creases) 0).1) ((at_ ((buildT ((quadR vs fs cr).1.Verts.length : Int) (quadR vs fs cr).1.Faces).ed) i).G)).aCorners) ((b + 1) % 4) = (at_ ((buildT ((quadR vs fs cr).1.Verts.length : Int) (quadR vs fs cr).1.Faces).ed) i).A
 refine AWP.condF rfl (nb (decide_eq_true b140)) ?_
 refine AWP.skip ?_
 refine AWP.seq ?_
 have SL := share_law (skin := 0) Q hfg1 hfg2 hfg3 hfg4 ha0 (by omega) hb0 (by omega) b134 b135 b136 b140
 have hma := mod_in (x := a + 1) (y := 4) (by decide)
 have hmb := mod_in (x := b + 1) (y := 4) (by decide)
 have hinF := share_in (skin := 0) Q hfg1 hfg2 ha0 (by omega)
 have hinG := share_in (skin := 0) Q hfg3 hfg4 hb0 (by omega)
 have hinF2 := share_in (skin := 0) Q hfg1 hfg2 hma.1 hma.2
 have hinG2 := share_in (skin := 0) Q hfg3 hfg4 hmb.1 hmb.2
 refine AWP.region rfl ?_
 refine AOps.cons rfl rfl (AOp.loadF _ rfl s130 ty_70 (ld_all (len_app (m := 48) (n := 17) (k := 65) (lenM eV_len (at_ ((patR ((quadR vs fs cr).1.Verts) ((quadR vs fs cr).1.Faces) ((quadR vs fs cr).1.Creases) 0).1) ((at_ ((buildT ((quadR vs fs cr).1.Verts.length : Int) (quadR vs fs cr).1.Faces).ed) i).F)).lP rfl) (len_app (m := 4) (n := 13) (k := 17) (len1 (at_ ((patR ((quadR vs fs cr).1.Verts) ((quadR vs fs cr).1.Faces) ((quadR vs fs cr).1.Creases) 0).1) ((at_ ((buildT ((quadR vs fs cr).1.Verts.length : Int) (quadR vs fs cr).1.Faces).ed) i).F)).lCorners) (len_app (m := 12) (n := 1) (k := 13) (lenM eV_len (at_ ((patR ((quadR vs fs cr).1.Verts) ((quadR vs fs cr).1.Faces) ((quadR vs fs cr).1.Creases) 0).1) ((at_ ((buildT ((quadR vs fs cr).1.Verts.length : Int) (quadR vs fs cr).1.Faces).ed) i).F)).lNormals rfl) rfl rfl) rfl) rfl)) (AOps.cons rfl rfl (AOp.move _ rfl s125 (AOps.cons rfl rfl (AOp.pcall («as» := [.agg (((at_ ((patR ((quadR vs fs cr).1.Verts) ((quadR vs fs cr).1.Faces) ((quadR vs fs cr).1.Creases) 0).1) ((at_ ((buildT ((quadR vs fs cr).1.Verts.length : Int) (quadR vs fs cr).1.Faces).ed) i).F)).aP).flatMap eV ++ (((at_ ((patR ((quadR vs fs cr).1.Verts) ((quadR vs fs cr).1.Faces) ((quadR vs fs cr).1.Creases) 0).1) ((at_ ((buildT ((quadR vs fs cr).1.Verts.length : Int) (quadR vs fs cr).1.Faces).ed) i).F)).aCorners).map eI ++ (((at_ ((patR ((quadR vs fs cr).1.Verts) ((quadR vs fs cr).1.Faces) ((quadR vs fs cr).1.Creases) 0).1) ((at_ ((buildT ((quadR vs fs cr).1.Verts.length : Int) (quadR vs fs cr).1.Faces).ed) i).F)).aNormals).flatMap eV ++ [.int .i64 ((at_ ((patR ((quadR vs fs cr).1.Verts) ((quadR vs fs cr).1.Faces) ((quadR vs fs cr).1.Creases) 0).1) ((at_ ((buildT ((quadR vs fs cr).1.Verts.length : Int) (quadR vs fs cr).1.Faces).ed) i).F)).Skin)]))), .int .i64 a]) rfl rfl (rfl) tf_31 (c_along (at_ ((patR ((quadR vs fs cr).1.Verts) ((quadR vs fs cr).1.Faces) ((quadR vs fs cr).1.Creases) 0).1) ((at_ ((buildT ((quadR vs fs cr).1.Verts.length : Int) (quadR vs fs cr).1.Faces).ed) i).F)) a (by omega) (by omega)) ?_)))))
 intro H141 m142
 have m143 := m139.trans m142
 refine AOps.cons rfl rfl (AOp.alloc rfl tz_68 ?_)
 intro i144 H145 n146 h147 k148
 have z149 := Mono.free m143 n146
 have m150 := Mono.new m143 n146 k148
 refine AOps.cons rfl rfl (AOp.store' (cells' := (v3 (alongP (at_ ((patR ((quadR vs fs cr).1.Verts) ((quadR vs fs cr).1.Faces) ((quadR vs fs cr).1.Creases) 0).1) ((at_ ((buildT ((quadR vs fs cr).1.Verts.length : Int) (quadR vs fs cr).1.Faces).ed) i).F)) a 0) (v3 (alongP (at_ ((patR ((quadR vs fs cr).1.Verts) ((quadR vs fs cr).1.Faces) ((quadR vs fs cr).1.Creases) 0).1) ((at_ ((buildT ((quadR vs fs cr).1.Verts.length : Int) (quadR vs fs cr).1.Faces).ed) i).F)) a 1) (v3 (alongP (at_ ((patR ((quadR vs fs cr).1.Verts) ((quadR vs fs cr).1.Faces) ((quadR vs fs cr).1.Creases) 0).1) ((at_ ((buildT ((quadR vs fs cr).1.Verts.length : Int) (quadR vs fs cr).1.Faces).ed) i).F)) a 2) (v3 (alongP (at_ ((patR ((quadR vs fs cr).1.Verts) ((quadR vs fs cr).1.Faces) ((quadR vs fs cr).1.Creases) 0).1) ((at_ ((buildT ((quadR vs fs cr).1.Verts.length : Int) (quadR vs fs cr).1.Faces).ed) i).F)) a 3) ([])))))) (.agg (v3 (alongP (at_ ((patR ((quadR vs fs cr).1.Verts) ((quadR vs fs cr).1.Faces) ((quadR vs fs cr).1.Creases) 0).1) ((at_ ((buildT ((quadR vs fs cr).1.Verts.length : Int) (quadR vs fs cr).1.Faces).ed) i).F)) a 0) (v3 (alongP (at_ ((patR ((quadR vs fs cr).1.Verts) ((quadR vs fs cr).1.Faces) ((quadR vs fs cr).1.Creases) 0).1) ((at_ ((buildT ((quadR vs fs cr).1.Verts.length : Int) (quadR vs fs cr).1.Faces).ed) i).F)) a 1) (v3 (alongP (at_ ((patR ((quadR vs fs cr).1.Verts) ((quadR vs fs cr).1.Faces) ((quadR vs fs cr).1.Creases) 0).1) ((at_ ((buildT ((quadR vs fs cr).1.Verts.length : Int) (quadR vs fs cr).1.Faces).ed) i).F)) a 2) (v3 (alongP (at_ ((patR ((quadR vs fs cr).1.Verts) ((quadR vs fs cr).1.Faces) ((quadR vs fs cr).1.Creases) 0).1) ((at_ ((buildT ((quadR vs fs cr).1.Verts.length : Int) (quadR vs fs cr).1.Faces).ed) i).F)) a 3) ([])))))) rfl rfl ts_68 h147 rfl rfl rfl rfl ?_)
 intro H151 h152 k153
 have m155 := Mono.set m150 z149 k153
 refine AWP.seq ?_
 refine AWP.frzP 15 h152 z149 rfl m155 fun H156 m157 k158 => ?_
 refine AWP.region rfl ?_
 refine AOps.cons rfl rfl (AOp.loadF _ rfl s131 ty_70 (ld_all (len_app (m := 48) (n := 17) (k := 65) (lenM eV_len (at_ ((patR ((quadR vs fs cr).1.Verts) ((quadR vs fs cr).1.Faces) ((quadR vs fs cr).1.Creases) 0).1) ((at_ ((buildT ((quadR vs fs cr).1.Verts.length : Int) (quadR vs fs cr).1.Faces).ed) i).G)).lP rfl) (len_app (m := 4) (n := 13) (k := 17) (len1 (at_ ((patR ((quadR vs fs cr).1.Verts) ((quadR vs fs cr).1.Faces) ((quadR vs fs cr).1.Creases) 0).1) ((at_ ((buildT ((quadR vs fs cr).1.Verts.length : Int) (quadR vs fs cr).1.Faces).ed) i).G)).lCorners) (len_app (m := 12) (n := 1) (k := 13) (lenM eV_len (at_ ((patR ((quadR vs fs cr).1.Verts) ((quadR vs fs cr).1.Faces) ((quadR vs fs cr).1.Creases) 0).1) ((at_ ((buildT ((quadR vs fs cr).1.Verts.length : Int) (quadR vs fs cr).1.Faces).ed) i).G)).lNormals rfl) rfl rfl) rfl) rfl)) (AOps.cons rfl rfl (AOp.move _ rfl s124 (AOps.cons rfl rfl (AOp.pcall («as» := [.agg (((at_ ((patR ((quadR vs fs cr).1.Verts) ((quadR vs fs cr).1.Faces) ((quadR vs fs cr).1.Creases) 0).1) ((at_ ((buildT ((quadR vs fs cr).1.Verts.length : Int) (quadR vs fs cr).1.Faces).ed) i).G)).aP).flatMap eV ++ (((at_ ((patR ((quadR vs fs cr).1.Verts) ((quadR vs fs cr).1.Faces) ((quadR vs fs cr).1.Creases) 0).1) ((at_ ((buildT ((quadR vs fs cr).1.Verts.length : Int) (quadR vs fs cr).1.Faces).ed) i).G)).aCorners).map eI ++ (((at_ ((patR ((quadR vs fs cr).1.Verts) ((quadR vs fs cr).1.Faces) ((quadR vs fs cr).1.Creases) 0).1) ((at_ ((buildT ((quadR vs fs cr).1.Verts.length : Int) (quadR vs fs cr).1.Faces).ed) i).G)).aNormals).flatMap eV ++ [.int .i64 ((at_ ((patR ((quadR vs fs cr).1.Verts) ((quadR vs fs cr).1.Faces) ((quadR vs fs cr).1.Creases) 0).1) ((at_ ((buildT ((quadR vs fs cr).1.Verts.length : Int) (quadR vs fs cr).1.Faces).ed) i).G)).Skin)]))), .int .i64 b]) rfl rfl (rfl) tf_31 (c_along (at_ ((patR ((quadR vs fs cr).1.Verts) ((quadR vs fs cr).1.Faces) ((quadR vs fs cr).1.Creases) 0).1) ((at_ ((buildT ((quadR vs fs cr).1.Verts.length : Int) (quadR vs fs cr).1.Faces).ed) i).G)) b (by omega) (by omega)) ?_)))))
 intro H159 m160
 have m161 := m157.trans m160
 refine AOps.cons rfl rfl (AOp.alloc rfl tz_68 ?_)
 intro i162 H163 n164 h165 k166
 have z167 := Mono.free m161 n164
 have m168 := Mono.new m161 n164 k166
 refine AOps.cons rfl rfl (AOp.store' (cells' := (v3 (alongP (at_ ((patR ((quadR vs fs cr).1.Verts) ((quadR vs fs cr).1.Faces) ((quadR vs fs cr).1.Creases) 0).1) ((at_ ((buildT ((quadR vs fs cr).1.Verts.length : Int) (quadR vs fs cr).1.Faces).ed) i).G)) b 0) (v3 (alongP (at_ ((patR ((quadR vs fs cr).1.Verts) ((quadR vs fs cr).1.Faces) ((quadR vs fs cr).1.Creases) 0).1) ((at_ ((buildT ((quadR vs fs cr).1.Verts.length : Int) (quadR vs fs cr).1.Faces).ed) i).G)) b 1) (v3 (alongP (at_ ((patR ((quadR vs fs cr).1.Verts) ((quadR vs fs cr).1.Faces) ((quadR vs fs cr).1.Creases) 0).1) ((at_ ((buildT ((quadR vs fs cr).1.Verts.length : Int) (quadR vs fs cr).1.Faces).ed) i).G)) b 2) (v3 (alongP (at_ ((patR ((quadR vs fs cr).1.Verts) ((quadR vs fs cr).1.Faces) ((quadR vs fs cr).1.Creases) 0).1) ((at_ ((buildT ((quadR vs fs cr).1.Verts.length : Int) (quadR vs fs cr).1.Faces).ed) i).G)) b 3) ([])))))) (.agg (v3 (alongP (at_ ((patR ((quadR vs fs cr).1.Verts) ((quadR vs fs cr).1.Faces) ((quadR vs fs cr).1.Creases) 0).1) ((at_ ((buildT ((quadR vs fs cr).1.Verts.length : Int) (quadR vs fs cr).1.Faces).ed) i).G)) b 0) (v3 (alongP (at_ ((patR ((quadR vs fs cr).1.Verts) ((quadR vs fs cr).1.Faces) ((quadR vs fs cr).1.Creases) 0).1) ((at_ ((buildT ((quadR vs fs cr).1.Verts.length : Int) (quadR vs fs cr).1.Faces).ed) i).G)) b 1) (v3 (alongP (at_ ((patR ((quadR vs fs cr).1.Verts) ((quadR vs fs cr).1.Faces) ((quadR vs fs cr).1.Creases) 0).1) ((at_ ((buildT ((quadR vs fs cr).1.Verts.length : Int) (quadR vs fs cr).1.Faces).ed) i).G)) b 2) (v3 (alongP (at_ ((patR ((quadR vs fs cr).1.Verts) ((quadR vs fs cr).1.Faces) ((quadR vs fs cr).1.Creases) 0).1) ((at_ ((buildT ((quadR vs fs cr).1.Verts.length : Int) (quadR vs fs cr).1.Faces).ed) i).G)) b 3) ([])))))) rfl rfl ts_68 h165 rfl rfl rfl rfl ?_)
 intro H169 h170 k171
 have m173 := Mono.set m168 z167 k171
 refine AWP.seq ?_
 refine AWP.frzP 16 h170 z167 rfl m173 fun H174 m175 k176 => ?_
 refine AWP.region_quiet mixed (by kernel_rfl) 37 [] rfl (by kernel_rfl) (Mono H174) (Mono.refl _) ?_
 refine QE.op rfl rfl (.inl ⟨rfl, fun f' H' hf hM => AOp.loadF _ rfl ((hf 15 rfl).trans rfl) ty_68 rfl ⟨rfl, hM⟩⟩) ?_
 refine QE.op rfl rfl (.inl ⟨rfl, fun f' H' hf hM => AOp.indexAddrFA rfl ((hf 16 rfl).trans rfl) rfl ar_68 (by omega) (by omega) ⟨rfl, hM⟩⟩) ?_
 refine QE.op rfl rfl (.inl ⟨rfl, fun f' H' hf hM => AOp.loadF _ rfl ((hf 137 rfl).trans rfl) ty_42 rfl ⟨rfl, hM⟩⟩) ?_
 refine QE.op rfl rfl (.inl ⟨rfl, fun f' H' hf hM => AOp.indexAddrFA rfl ((hf 16 rfl).trans rfl) rfl ar_68 (by omega) (by omega) ⟨rfl, hM⟩⟩) ?_
 refine QE.op rfl rfl (.inl ⟨rfl, fun f' H' hf hM => AOp.loadF _ rfl ((hf 139 rfl).trans rfl) ty_42 rfl ⟨rfl, hM⟩⟩) ?_
 refine QE.op rfl rfl (.inl ⟨rfl, fun f' H' hf hM => AOp.indexAddrFA rfl ((hf 16 rfl).trans rfl) rfl ar_68 (by omega) (by omega) ⟨rfl, hM⟩⟩) ?_
 refine QE.op rfl rfl (.inl ⟨rfl, fun f' H' hf hM => AOp.loadF _ rfl ((hf 141 rfl).trans rfl) ty_42 rfl ⟨rfl, hM⟩⟩) ?_
 refine QE.op rfl rfl (.inl ⟨rfl, fun f' H' hf hM => AOp.indexAddrFA rfl ((hf 16 rfl).trans rfl) rfl ar_68 (by omega) (by omega) ⟨rfl, hM⟩⟩) ?_
 refine QE.op rfl rfl (.inl ⟨rfl, fun f' H' hf hM => AOp.loadF _ rfl ((hf 143 rfl).trans rfl) ty_42 rfl ⟨rfl, hM⟩⟩) ?_
 refine QE.op rfl rfl (.inl ⟨rfl, fun f' H' hf hM => AOp.build (cells := (v3 (alongP (at_ ((patR ((quadR vs fs cr).1.Verts) ((quadR vs fs cr).1.Faces) ((quadR vs fs cr).1.Creases) 0).1) ((at_ ((buildT ((quadR vs fs cr).1.Verts.length : Int) (quadR vs fs cr).1.Faces).ed) i).G)) b 3) (v3 (alongP (at_ ((patR ((quadR vs fs cr).1.Verts) ((quadR vs fs cr).1.Faces) ((quadR vs fs cr).1.Creases) 0).1) ((at_ ((buildT ((quadR vs fs cr).1.Verts.length : Int) (quadR vs fs cr).1.Faces).ed) i).G)) b 2) (v3 (alongP (at_ ((patR ((quadR vs fs cr).1.Verts) ((quadR vs fs cr).1.Faces) ((quadR vs fs cr).1.Creases) 0).1) ((at_ ((buildT ((quadR vs fs cr).1.Verts.length : Int) (quadR vs fs cr).1.Faces).ed) i).G)) b 1) (v3 (alongP (at_ ((patR ((quadR vs fs cr).1.Verts) ((quadR vs fs cr).1.Faces) ((quadR vs fs cr).1.Creases) 0).1) ((at_ ((buildT ((quadR vs fs cr).1.Verts.length : Int) (quadR vs fs cr).1.Faces).ed) i).G)) b 0) ([])))))) rfl tz_68 pl_68 (lconsP ((hf 138 rfl).trans rfl) (lconsP ((hf 140 rfl).trans rfl) (lconsP ((hf 142 rfl).trans rfl) (lconsP ((hf 144 rfl).trans rfl) rfl)))) rfl ⟨rfl, hM⟩⟩) ?_
 refine QE.op rfl rfl (.inl ⟨rfl, fun f' H' hf hM => AOp.neAggD rfl ((hf 136 rfl).trans rfl) ((hf 145 rfl).trans rfl) teq68 (kok4 (q := Q4.mk (alongP (at_ ((patR ((quadR vs fs cr).1.Verts) ((quadR vs fs cr).1.Faces) ((quadR vs fs cr).1.Creases) 0).1) ((at_ ((buildT ((quadR vs fs cr).1.Verts.length : Int) (quadR vs fs cr).1.Faces).ed) i).F)) a 0) (alongP (at_ ((patR ((quadR vs fs cr).1.Verts) ((quadR vs fs cr).1.Faces) ((quadR vs fs cr).1.Creases) 0).1) ((at_ ((buildT ((quadR vs fs cr).1.Verts.length : Int) (quadR vs fs cr).1.Faces).ed) i).F)) a 1) (alongP (at_ ((patR ((quadR vs fs cr).1.Verts) ((quadR vs fs cr).1.Faces) ((quadR vs fs cr).1.Creases) 0).1) ((at_ ((buildT ((quadR vs fs cr).1.Verts.length : Int) (quadR vs fs cr).1.Faces).ed) i).F)) a 2) (alongP (at_ ((patR ((quadR vs fs cr).1.Verts) ((quadR vs fs cr).1.Faces) ((quadR vs fs cr).1.Creases) 0).1) ((at_ ((buildT ((quadR vs fs cr).1.Verts.length : Int) (quadR vs fs cr).1.Faces).ed) i).F)) a 3)) ⟨hinF.1 0 (by decide) (by decide), hinF.1 1 (by decide) (by decide), hinF.1 2 (by decide) (by decide), hinF.1 3 (by decide) (by decide)⟩) (kok4 (q := Q4.mk (alongP (at_ ((patR ((quadR vs fs cr).1.Verts) ((quadR vs fs cr).1.Faces) ((quadR vs fs cr).1.Creases) 0).1) ((at_ ((buildT ((quadR vs fs cr).1.Verts.length : Int) (quadR vs fs cr).1.Faces).ed) i).G)) b 3) (alongP (at_ ((patR ((quadR vs fs cr).1.Verts) ((quadR vs fs cr).1.Faces) ((quadR vs fs cr).1.Creases) 0).1) ((at_ ((buildT ((quadR vs fs cr).1.Verts.length : Int) (quadR vs fs cr).1.Faces).ed) i).G)) b 2) (alongP (at_ ((patR ((quadR vs fs cr).1.Verts) ((quadR vs fs cr).1.Faces) ((quadR vs fs cr).1.Creases) 0).1) ((at_ ((buildT ((quadR vs fs cr).1.Verts.length : Int) (quadR vs fs cr).1.Faces).ed) i).G)) b 1) (alongP (at_ ((patR ((quadR vs fs cr).1.Verts) ((quadR vs fs cr).1.Faces) ((quadR vs fs cr).1.Creases) 0).1) ((at_ ((buildT ((quadR vs fs cr).1.Verts.length : Int) (quadR vs fs cr).1.Faces).ed) i).G)) b 0)) ⟨hinG.1 3 (by decide) (by decide), hinG.1 2 (by decide) (by decide), hinG.1 1 (by decide) (by decide), hinG.1 0 (by decide) (by decide)⟩) (e4_iff (Q4.mk (alongP (at_ ((patR ((quadR vs fs cr).1.Verts) ((quadR vs fs cr).1.Faces) ((quadR vs fs cr).1.Creases) 0).1) ((at_ ((buildT ((quadR vs fs cr).1.Verts.length : Int) (quadR vs fs cr).1.Faces).ed) i).F)) a 0) (alongP (at_ ((patR ((quadR vs fs cr).1.Verts) ((quadR vs fs cr).1.Faces) ((quadR vs fs cr).1.Creases) 0).1) ((at_ ((buildT ((quadR vs fs cr).1.Verts.length : Int) (quadR vs fs cr).1.Faces).ed) i).F)) a 1) (alongP (at_ ((patR ((quadR vs fs cr).1.Verts) ((quadR vs fs cr).1.Faces) ((quadR vs fs cr).1.Creases) 0).1) ((at_ ((buildT ((quadR vs fs cr).1.Verts.length : Int) (quadR vs fs cr).1.Faces).ed) i).F)) a 2) (alongP (at_ ((patR ((quadR vs fs cr).1.Verts) ((quadR vs fs cr).1.Faces) ((quadR vs fs cr).1.Creases) 0).1) ((at_ ((buildT ((quadR vs fs cr).1.Verts.length : Int) (quadR vs fs cr).1.Faces).ed) i).F)) a 3)) (Q4.mk (alongP (at_ ((patR ((quadR vs fs cr).1.Verts) ((quadR vs fs cr).1.Faces) ((quadR vs fs cr).1.Creases) 0).1) ((at_ ((buildT ((quadR vs fs cr).1.Verts.length : Int) (quadR vs fs cr).1.Faces).ed) i).G)) b 3) (alongP (at_ ((patR ((quadR vs fs cr).1.Verts) ((quadR vs fs cr).1.Faces) ((quadR vs fs cr).1.Creases) 0).1) ((at_ ((buildT ((quadR vs fs cr).1.Verts.length : Int) (quadR vs fs cr).1.Faces).ed) i).G)) b 2) (alongP (at_ ((patR ((quadR vs fs cr).1.Verts) ((quadR vs fs cr).1.Faces) ((quadR vs fs cr).1.Creases) 0).1) ((at_ ((buildT ((quadR vs fs cr).1.Verts.length : Int) (quadR vs fs cr).1.Faces).ed) i).G)) b 1) (alongP (at_ ((patR ((quadR vs fs cr).1.Verts) ((quadR vs fs cr).1.Faces) ((quadR vs fs cr).1.Creases) 0).1) ((at_ ((buildT ((quadR vs fs cr).1.Verts.length : Int) (quadR vs fs cr).1.Faces).ed) i).G)) b 0))) ⟨rfl, hM⟩⟩) ?_
 refine QE.op rfl rfl (.inl ⟨rfl, fun f' H' hf hM => AOp.move _ rfl ((hf 146 rfl).trans rfl) ⟨rfl, hM⟩⟩) ?_
 refine QE.op rfl rfl (QOp.yes rfl rfl rfl rfl (nb (decide_eq_true ((by rw [SL.1.1, SL.1.2.1, SL.1.2.2.1, SL.1.2.2.2])))) fun f' H' hf hM => AOp.move _ rfl ((hf 13 rfl).trans s125) ⟨rfl, hM⟩) ?_
 refine QE.op rfl rfl (QOp.yes rfl rfl rfl rfl (nb (decide_eq_true ((by rw [SL.1.1, SL.1.2.1, SL.1.2.2.1, SL.1.2.2.2])))) fun f' H' hf hM => AOp.fieldAddrF rfl ((hf 11 rfl).trans s130) fl_70_2 ⟨rfl, hM⟩) ?_
 refine QE.op rfl rfl (QOp.yes rfl rfl rfl rfl (nb (decide_eq_true ((by rw [SL.1.1, SL.1.2.1, SL.1.2.2.1, SL.1.2.2.2])))) fun f' H' hf hM => AOp.indexAddrFA rfl ((hf 149 rfl).trans rfl) ((hf 148 rfl).trans rfl) ar_68 (by omega) (by omega) ⟨rfl, hM⟩) ?_
 refine QE.op rfl rfl (QOp.yes rfl rfl rfl rfl (nb (decide_eq_true ((by rw [SL.1.1, SL.1.2.1, SL.1.2.2.1, SL.1.2.2.2])))) fun f' H' hf hM => AOp.loadF _ rfl ((hf 150 rfl).trans rfl) ty_42 (ld_skip (off' := 4 + ((a).toNat * 3)) (lenM eV_len (at_ ((patR ((quadR vs fs cr).1.Verts) ((quadR vs fs cr).1.Faces) ((quadR vs fs cr).1.Creases) 0).1) ((at_ ((buildT ((quadR vs fs cr).1.Verts.length : Int) (quadR vs fs cr).1.Faces).ed) i).F)).lP rfl) (by omega) (ld_skip (off' := (a).toNat * 3) (len1 (at_ ((patR ((quadR vs fs cr).1.Verts) ((quadR vs fs cr).1.Faces) ((quadR vs fs cr).1.Creases) 0).1) ((at_ ((buildT ((quadR vs fs cr).1.Verts.length : Int) (quadR vs fs cr).1.Faces).ed) i).F)).lCorners) (by omega) (ld_fst (fun h => by first | rfl | cases h) (ldM eV_len (i := a) (by omega) (by first | (have := (at_ ((patR ((quadR vs fs cr).1.Verts) ((quadR vs fs cr).1.Faces) ((quadR vs fs cr).1.Creases) 0).1) ((at_ ((buildT ((quadR vs fs cr).1.Verts.length : Int) (quadR vs fs cr).1.Faces).ed) i).F)).lNormals; omega) | (simp; omega)))))) ⟨rfl, hM⟩) ?_
 refine QE.op rfl rfl (QOp.yes rfl rfl rfl rfl (nb (decide_eq_true ((by rw [SL.1.1, SL.1.2.1, SL.1.2.2.1, SL.1.2.2.2])))) fun f' H' hf hM => AOp.move _ rfl ((hf 14 rfl).trans s124) ⟨rfl, hM⟩) ?_
 refine QE.op rfl rfl (QOp.yes rfl rfl rfl rfl (nb (decide_eq_true ((by rw [SL.1.1, SL.1.2.1, SL.1.2.2.1, SL.1.2.2.2])))) fun f' H' hf hM => AOp.bin _ rfl ((hf 152 rfl).trans rfl) rfl (iadd (by omega)) ⟨rfl, hM⟩) ?_
 refine QE.op rfl rfl (QOp.yes rfl rfl rfl rfl (nb (decide_eq_true ((by rw [SL.1.1, SL.1.2.1, SL.1.2.2.1, SL.1.2.2.2])))) fun f' H' hf hM => AOp.remP rfl ((hf 153 rfl).trans rfl) rfl (by omega) (by omega) ⟨rfl, hM⟩) ?_
 refine QE.op rfl rfl (QOp.yes rfl rfl rfl rfl (nb (decide_eq_true ((by rw [SL.1.1, SL.1.2.1, SL.1.2.2.1, SL.1.2.2.2])))) fun f' H' hf hM => AOp.fieldAddrF rfl ((hf 12 rfl).trans s131) fl_70_2 ⟨rfl, hM⟩) ?_
 refine QE.op rfl rfl (QOp.yes rfl rfl rfl rfl (nb (decide_eq_true ((by rw [SL.1.1, SL.1.2.1, SL.1.2.2.1, SL.1.2.2.2])))) fun f' H' hf hM => AOp.indexAddrFA rfl ((hf 155 rfl).trans rfl) ((hf 154 rfl).trans rfl) ar_68 (by omega) (by omega) ⟨rfl, hM⟩) ?_
 refine QE.op rfl rfl (QOp.yes rfl rfl rfl rfl (nb (decide_eq_true ((by rw [SL.1.1, SL.1.2.1, SL.1.2.2.1, SL.1.2.2.2])))) fun f' H' hf hM => AOp.loadF _ rfl ((hf 156 rfl).trans rfl) ty_42 (ld_skip (off' := 4 + (((b + 1) % 4).toNat * 3)) (lenM eV_len (at_ ((patR ((quadR vs fs cr).1.Verts) ((quadR vs fs cr).1.Faces) ((quadR vs fs cr).1.Creases) 0).1) ((at_ ((buildT ((quadR vs fs cr).1.Verts.length : Int) (quadR vs fs cr).1.Faces).ed) i).G)).lP rfl) (by omega) (ld_skip (off' := ((b + 1) % 4).toNat * 3) (len1 (at_ ((patR ((quadR vs fs cr).1.Verts) ((quadR vs fs cr).1.Faces) ((quadR vs fs cr).1.Creases) 0).1) ((at_ ((buildT ((quadR vs fs cr).1.Verts.length : Int) (quadR vs fs cr).1.Faces).ed) i).G)).lCorners) (by omega) (ld_fst (fun h => by first | rfl | cases h) (ldM eV_len (i := (b + 1) % 4) (by omega) (by first | (have := (at_ ((patR ((quadR vs fs cr).1.Verts) ((quadR vs fs cr).1.Faces) ((quadR vs fs cr).1.Creases) 0).1) ((at_ ((buildT ((quadR vs fs cr).1.Verts.length : Int) (quadR vs fs cr).1.Faces).ed) i).G)).lNormals; omega) | (simp; omega)))))) ⟨rfl, hM⟩) ?_
 refine QE.op rfl rfl (QOp.yes rfl rfl rfl rfl (nb (decide_eq_true ((by rw [SL.1.1, SL.1.2.1, SL.1.2.2.1, SL.1.2.2.2])))) fun f' H' hf hM => AOp.neAggD rfl ((hf 151 rfl).trans rfl) ((hf 157 rfl).trans rfl) teq42 (kokV (v := (at_ ((at_ ((patR ((quadR vs fs cr).1.Verts) ((quadR vs fs cr).1.Faces) ((quadR vs fs cr).1.Creases) 0).1) ((at_ ((buildT ((quadR vs fs cr).1.Verts.length : Int) (quadR vs fs cr).1.Faces).ed) i).F)).aNormals) a)) (by have h := hinF.2; unfold inV at h; exact ⟨by unfold inR; omega, by unfold inR; omega, by unfold inR; omega⟩)) (kokV (v := (at_ ((at_ ((patR ((quadR vs fs cr).1.Verts) ((quadR vs fs cr).1.Faces) ((quadR vs fs cr).1.Creases) 0).1) ((at_ ((buildT ((quadR vs fs cr).1.Verts.length : Int) (quadR vs fs cr).1.Faces).ed) i).G)).aNormals) ((b + 1) % 4))) (by have h := hinG2.2; unfold inV at h; exact ⟨by unfold inR; omega, by unfold inR; omega, by unfold inR; omega⟩)) (eV_iff (at_ ((at_ ((patR ((quadR vs fs cr).1.Verts) ((quadR vs fs cr).1.Faces) ((quadR vs fs cr).1.Creases) 0).1) ((at_ ((buildT ((quadR vs fs cr).1.Verts.length : Int) (quadR vs fs cr).1.Faces).ed) i).F)).aNormals) a) (at_ ((at_ ((patR ((quadR vs fs cr).1.Verts) ((quadR vs fs cr).1.Faces) ((quadR vs fs cr).1.Creases) 0).1) ((at_ ((buildT ((quadR vs fs cr).1.Verts.length : Int) (quadR vs fs cr).1.Faces).ed) i).G)).aNormals) ((b + 1) % 4))) ⟨rfl, hM⟩) ?_
 refine QE.op rfl rfl (.inl ⟨rfl, fun f' H' hf hM => AOp.pickF _ rfl ((hf 147 rfl).trans rfl) (nb (decide_eq_true ((by rw [SL.1.1, SL.1.2.1, SL.1.2.2.1, SL.1.2.2.2])))) ((hf 158 rfl).trans rfl) ⟨rfl, hM⟩⟩) ?_
 refine QE.op rfl rfl (.inl ⟨rfl, fun f' H' hf hM => AOp.move _ rfl ((hf 159 rfl).trans rfl) ⟨rfl, hM⟩⟩) ?_
 refine QE.op rfl rfl (QOp.yes rfl rfl rfl rfl (nb (decide_eq_true (SL.2.1))) fun f' H' hf hM => AOp.move _ rfl ((hf 13 rfl).trans s125) ⟨rfl, hM⟩) ?_
 refine QE.op rfl rfl (QOp.yes rfl rfl rfl rfl (nb (decide_eq_true (SL.2.1))) fun f' H' hf hM => AOp.bin _ rfl ((hf 161 rfl).trans rfl) rfl (iadd (by omega)) ⟨rfl, hM⟩) ?_
 refine QE.op rfl rfl (QOp.yes rfl rfl rfl rfl (nb (decide_eq_true (SL.2.1))) fun f' H' hf hM => AOp.remP rfl ((hf 162 rfl).trans rfl) rfl (by omega) (by omega) ⟨rfl, hM⟩) ?_
 refine QE.op rfl rfl (QOp.yes rfl rfl rfl rfl (nb (decide_eq_true (SL.2.1))) fun f' H' hf hM => AOp.fieldAddrF rfl ((hf 11 rfl).trans s130) fl_70_2 ⟨rfl, hM⟩) ?_
 refine QE.op rfl rfl (QOp.yes rfl rfl rfl rfl (nb (decide_eq_true (SL.2.1))) fun f' H' hf hM => AOp.indexAddrFA rfl ((hf 164 rfl).trans rfl) ((hf 163 rfl).trans rfl) ar_68 (by omega) (by omega) ⟨rfl, hM⟩) ?_
 refine QE.op rfl rfl (QOp.yes rfl rfl rfl rfl (nb (decide_eq_true (SL.2.1))) fun f' H' hf hM => AOp.loadF _ rfl ((hf 165 rfl).trans rfl) ty_42 (ld_skip (off' := 4 + (((a + 1) % 4).toNat * 3)) (lenM eV_len (at_ ((patR ((quadR vs fs cr).1.Verts) ((quadR vs fs cr).1.Faces) ((quadR vs fs cr).1.Creases) 0).1) ((at_ ((buildT ((quadR vs fs cr).1.Verts.length : Int) (quadR vs fs cr).1.Faces).ed) i).F)).lP rfl) (by omega) (ld_skip (off' := ((a + 1) % 4).toNat * 3) (len1 (at_ ((patR ((quadR vs fs cr).1.Verts) ((quadR vs fs cr).1.Faces) ((quadR vs fs cr).1.Creases) 0).1) ((at_ ((buildT ((quadR vs fs cr).1.Verts.length : Int) (quadR vs fs cr).1.Faces).ed) i).F)).lCorners) (by omega) (ld_fst (fun h => by first | rfl | cases h) (ldM eV_len (i := (a + 1) % 4) (by omega) (by first | (have := (at_ ((patR ((quadR vs fs cr).1.Verts) ((quadR vs fs cr).1.Faces) ((quadR vs fs cr).1.Creases) 0).1) ((at_ ((buildT ((quadR vs fs cr).1.Verts.length : Int) (quadR vs fs cr).1.Faces).ed) i).F)).lNormals; omega) | (simp; omega)))))) ⟨rfl, hM⟩) ?_
 refine QE.op rfl rfl (QOp.yes rfl rfl rfl rfl (nb (decide_eq_true (SL.2.1))) fun f' H' hf hM => AOp.move _ rfl ((hf 14 rfl).trans s124) ⟨rfl, hM⟩) ?_
 refine QE.op rfl rfl (QOp.yes rfl rfl rfl rfl (nb (decide_eq_true (SL.2.1))) fun f' H' hf hM => AOp.fieldAddrF rfl ((hf 12 rfl).trans s131) fl_70_2 ⟨rfl, hM⟩) ?_
 refine QE.op rfl rfl (QOp.yes rfl rfl rfl rfl (nb (decide_eq_true (SL.2.1))) fun f' H' hf hM => AOp.indexAddrFA rfl ((hf 168 rfl).trans rfl) ((hf 167 rfl).trans rfl) ar_68 (by omega) (by omega) ⟨rfl, hM⟩) ?_
 refine QE.op rfl rfl (QOp.yes rfl rfl rfl rfl (nb (decide_eq_true (SL.2.1))) fun f' H' hf hM => AOp.loadF _ rfl ((hf 169 rfl).trans rfl) ty_42 (ld_skip (off' := 4 + ((b).toNat * 3)) (lenM eV_len (at_ ((patR ((quadR vs fs cr).1.Verts) ((quadR vs fs cr).1.Faces) ((quadR vs fs cr).1.Creases) 0).1) ((at_ ((buildT ((quadR vs fs cr).1.Verts.length : Int) (quadR vs fs cr).1.Faces).ed) i).G)).lP rfl) (by omega) (ld_skip (off' := (b).toNat * 3) (len1 (at_ ((patR ((quadR vs fs cr).1.Verts) ((quadR vs fs cr).1.Faces) ((quadR vs fs cr).1.Creases) 0).1) ((at_ ((buildT ((quadR vs fs cr).1.Verts.length : Int) (quadR vs fs cr).1.Faces).ed) i).G)).lCorners) (by omega) (ld_fst (fun h => by first | rfl | cases h) (ldM eV_len (i := b) (by omega) (by first | (have := (at_ ((patR ((quadR vs fs cr).1.Verts) ((quadR vs fs cr).1.Faces) ((quadR vs fs cr).1.Creases) 0).1) ((at_ ((buildT ((quadR vs fs cr).1.Verts.length : Int) (quadR vs fs cr).1.Faces).ed) i).G)).lNormals; omega) | (simp; omega)))))) ⟨rfl, hM⟩) ?_
 refine QE.op rfl rfl (QOp.yes rfl rfl rfl rfl (nb (decide_eq_true (SL.2.1))) fun f' H' hf hM => AOp.neAggD rfl ((hf 166 rfl).trans rfl) ((hf 170 rfl).trans rfl) teq42 (kokV (v := (at_ ((at_ ((patR ((quadR vs fs cr).1.Verts) ((quadR vs fs cr).1.Faces) ((quadR vs fs cr).1.Creases) 0).1) ((at_ ((buildT ((quadR vs fs cr).1.Verts.length : Int) (quadR vs fs cr).1.Faces).ed) i).F)).aNormals) ((a + 1) % 4))) (by have h := hinF2.2; unfold inV at h; exact ⟨by unfold inR; omega, by unfold inR; omega, by unfold inR; omega⟩)) (kokV (v := (at_ ((at_ ((patR ((quadR vs fs cr).1.Verts) ((quadR vs fs cr).1.Faces) ((quadR vs fs cr).1.Creases) 0).1) ((at_ ((buildT ((quadR vs fs cr).1.Verts.length : Int) (quadR vs fs cr).1.Faces).ed) i).G)).aNormals) b)) (by have h := hinG.2; unfold inV at h; exact ⟨by unfold inR; omega, by unfold inR; omega, by unfold inR; omega⟩)) (eV_iff (at_ ((at_ ((patR ((quadR vs fs cr).1.Verts) ((quadR vs fs cr).1.Faces) ((quadR vs fs cr).1.Creases) 0).1) ((at_ ((buildT ((quadR vs fs cr).1.Verts.length : Int) (quadR vs fs cr).1.Faces).ed) i).F)).aNormals) ((a + 1) % 4)) (at_ ((at_ ((patR ((quadR vs fs cr).1.Verts) ((quadR vs fs cr).1.Faces) ((quadR vs fs cr).1.Creases) 0).1) ((at_ ((buildT ((quadR vs fs cr).1.Verts.length : Int) (quadR vs fs cr).1.Faces).ed) i).G)).aNormals) b)) ⟨rfl, hM⟩) ?_
 refine QE.op rfl rfl (.inl ⟨rfl, fun f' H' hf hM => AOp.pickF _ rfl ((hf 160 rfl).trans rfl) (nb (decide_eq_true (SL.2.1))) ((hf 171 rfl).trans rfl) ⟨rfl, hM⟩⟩) ?_
 refine QE.done fun H179 m180 => ?_
 have m181 := m175.trans m180
 refine AWP.condF rfl (nb (decide_eq_true (SL.2.2))) ?_
 refine AWP.skip ?_
 refine AWP.region rfl ?_
 refine AOps.cons rfl rfl (AOp.move _ rfl s124 (AOps.cons rfl rfl (AOp.bin _ rfl rfl rfl (iadd (by omega)) (AOps.cons rfl rfl (AOp.assign _ rfl rfl ?_)))))
 refine AOps.nil ?_
 exact ⟨_, by omega, b + 1, rfl, rfl, s125, s126, s127, s128, s129, s130, s131, m181, by omega, by omega⟩
 refine AWP.condT rfl (nb (decide_eq_false b140)) ?_
 refine AWP.exit ?_
 change AWP _ _ _ _ _ _
 refine AWP.region rfl ?_
 refine AOps.cons rfl rfl (AOp.move _ rfl s124 (AOps.cons rfl rfl (AOp.bin _ rfl rfl rfl (iadd (by omega)) (AOps.cons rfl rfl (AOp.assign _ rfl rfl ?_)))))
 refine AOps.nil ?_
 exact ⟨_, by omega, b + 1, rfl, rfl, s125, s126, s127, s128, s129, s130, s131, m139, by omega, by omega⟩
 refine QE.op rfl rfl (QOp.no rfl rfl rfl rfl (ble_of (nb (decide_eq_false b136)) (by decide)) rfl) ?_
 refine QE.op rfl rfl (QOp.no rfl rfl rfl rfl (ble_of (nb (decide_eq_false b136)) (by decide)) rfl) ?_
 refine QE.op rfl rfl (QOp.no rfl rfl rfl rfl (ble_of (nb (decide_eq_false b136)) (by decide)) rfl) ?_
 refine QE.op rfl rfl (QOp.no rfl rfl rfl rfl (ble_of (nb (decide_eq_false b136)) (by decide)) rfl) ?_
 refine QE.op rfl rfl (QOp.no rfl rfl rfl rfl (ble_of (nb (decide_eq_false b136)) (by decide)) rfl) ?_
 refine QE.op rfl rfl (QOp.no rfl rfl rfl rfl (ble_of (nb (decide_eq_false b136)) (by decide)) rfl) ?_
 refine QE.op rfl rfl (QOp.no rfl rfl rfl rfl (ble_of (nb (decide_eq_false b136)) (by decide)) rfl) ?_
 refine QE.op rfl rfl (QOp.no rfl rfl rfl rfl (ble_of (nb (decide_eq_false b136)) (by decide)) rfl) ?_
 refine QE.op rfl rfl (QOp.no rfl rfl rfl rfl (ble_of (nb (decide_eq_false b136)) (by decide)) rfl) ?_
 refine QE.op rfl rfl (.inl ⟨rfl, fun f' H' hf hM => AOp.pickT _ rfl ((hf 119 rfl).trans rfl) (nb (decide_eq_false b136)) rfl ⟨rfl, hM⟩⟩) ?_
 refine QE.done fun H182 m183 => ?_
 have m184 := m132.trans m183
 refine AWP.condT rfl rfl ?_
 refine AWP.exit ?_
 change AWP _ _ _ _ _ _
 refine AWP.region rfl ?_
 refine AOps.cons rfl rfl (AOp.move _ rfl s124 (AOps.cons rfl rfl (AOp.bin _ rfl rfl rfl (iadd (by omega)) (AOps.cons rfl rfl (AOp.assign _ rfl rfl ?_)))))
 refine AOps.nil ?_
 exact ⟨_, by omega, b + 1, rfl, rfl, s125, s126, s127, s128, s129, s130, s131, m184, by omega, by omega⟩
 refine QE.op rfl rfl (QOp.no rfl rfl rfl rfl (ble_of (nb (decide_eq_false b135)) (by decide)) rfl) ?_
 refine QE.op rfl rfl (QOp.no rfl rfl rfl rfl (ble_of (nb (decide_eq_false b135)) (by decide)) rfl) ?_
 refine QE.op rfl rfl (QOp.no rfl rfl rfl rfl (ble_of (nb (decide_eq_false b135)) (by decide)) rfl) ?_
 refine QE.op rfl rfl (QOp.no rfl rfl rfl rfl (ble_of (nb (decide_eq_false b135)) (by decide)) rfl) ?_
 refine QE.op rfl rfl (QOp.no rfl rfl rfl rfl (ble_of (nb (decide_eq_false b135)) (by decide)) rfl) ?_
 refine QE.op rfl rfl (QOp.no rfl rfl rfl rfl (ble_of (nb (decide_eq_false b135)) (by decide)) rfl) ?_
 refine QE.op rfl rfl (QOp.no rfl rfl rfl rfl (ble_of (nb (decide_eq_false b135)) (by decide)) rfl) ?_
 refine QE.op rfl rfl (.inl ⟨rfl, fun f' H' hf hM => AOp.pickT _ rfl ((hf 110 rfl).trans rfl) (nb (decide_eq_false b135)) rfl ⟨rfl, hM⟩⟩) ?_
 refine QE.op rfl rfl (.inl ⟨rfl, fun f' H' hf hM => AOp.move _ rfl ((hf 118 rfl).trans rfl) ⟨rfl, hM⟩⟩) ?_
 refine QE.op rfl rfl (QOp.no rfl rfl rfl rfl (ble_of rfl (by decide)) rfl) ?_
 refine QE.op rfl rfl (QOp.no rfl rfl rfl rfl (ble_of rfl (by decide)) rfl) ?_
 refine QE.op rfl rfl (QOp.no rfl rfl rfl rfl (ble_of rfl (by decide)) rfl) ?_
 refine QE.op rfl rfl (QOp.no rfl rfl rfl rfl (ble_of rfl (by decide)) rfl) ?_
 refine QE.op rfl rfl (QOp.no rfl rfl rfl rfl (ble_of rfl (by decide)) rfl) ?_
 refine QE.op rfl rfl (QOp.no rfl rfl rfl rfl (ble_of rfl (by decide)) rfl) ?_
 refine QE.op rfl rfl (QOp.no rfl rfl rfl rfl (ble_of rfl (by decide)) rfl) ?_
 refine QE.op rfl rfl (QOp.no rfl rfl rfl rfl (ble_of rfl (by decide)) rfl) ?_
 refine QE.op rfl rfl (QOp.no rfl rfl rfl rfl (ble_of rfl (by decide)) rfl) ?_
 refine QE.op rfl rfl (.inl ⟨rfl, fun f' H' hf hM => AOp.pickT _ rfl ((hf 119 rfl).trans rfl) rfl rfl ⟨rfl, hM⟩⟩) ?_
 refine QE.done fun H185 m186 => ?_
 have m187 := m132.trans m186
 refine AWP.condT rfl rfl ?_
 refine AWP.exit ?_
 change AWP _ _ _ _ _ _
 refine AWP.region rfl ?_
 refine AOps.cons rfl rfl (AOp.move _ rfl s124 (AOps.cons rfl rfl (AOp.bin _ rfl rfl rfl (iadd (by omega)) (AOps.cons rfl rfl (AOp.assign _ rfl rfl ?_)))))
 refine AOps.nil ?_
 exact ⟨_, by omega, b + 1, rfl, rfl, s125, s126, s127, s128, s129, s130, s131, m187, by omega, by omega⟩
 refine QE.op rfl rfl (QOp.no rfl rfl rfl rfl (ble_of (nb (decide_eq_false b134)) (by decide)) rfl) ?_
 refine QE.op rfl rfl (QOp.no rfl rfl rfl rfl (ble_of (nb (decide_eq_false b134)) (by decide)) rfl) ?_
 refine QE.op rfl rfl (QOp.no rfl rfl rfl rfl (ble_of (nb (decide_eq_false b134)) (by decide)) rfl) ?_
 refine QE.op rfl rfl (QOp.no rfl rfl rfl rfl (ble_of (nb (decide_eq_false b134)) (by decide)) rfl) ?_
 refine QE.op rfl rfl (QOp.no rfl rfl rfl rfl (ble_of (nb (decide_eq_false b134)) (by decide)) rfl) ?_
 refine QE.op rfl rfl (QOp.no rfl rfl rfl rfl (ble_of (nb (decide_eq_false b134)) (by decide)) rfl) ?_
 refine QE.op rfl rfl (QOp.no rfl rfl rfl rfl (ble_of (nb (decide_eq_false b134)) (by decide)) rfl) ?_
 refine QE.op rfl rfl (QOp.no rfl rfl rfl rfl (ble_of (nb (decide_eq_false b134)) (by decide)) rfl) ?_
 refine QE.op rfl rfl (QOp.no rfl rfl rfl rfl (ble_of (nb (decide_eq_false b134)) (by decide)) rfl) ?_
 refine QE.op rfl rfl (.inl ⟨rfl, fun f' H' hf hM => AOp.pickT _ rfl ((hf 99 rfl).trans rfl) (nb (decide_eq_false b134)) rfl ⟨rfl, hM⟩⟩) ?_
 refine QE.op rfl rfl (.inl ⟨rfl, fun f' H' hf hM => AOp.move _ rfl ((hf 109 rfl).trans rfl) ⟨rfl, hM⟩⟩) ?_
 refine QE.op rfl rfl (QOp.no rfl rfl rfl rfl (ble_of rfl (by decide)) rfl) ?_
 refine QE.op rfl rfl (QOp.no rfl rfl rfl rfl (ble_of rfl (by decide)) rfl) ?_
 refine QE.op rfl rfl (QOp.no rfl rfl rfl rfl (ble_of rfl (by decide)) rfl) ?_
 refine QE.op rfl rfl (QOp.no rfl rfl rfl rfl (ble_of rfl (by decide)) rfl) ?_
 refine QE.op rfl rfl (QOp.no rfl rfl rfl rfl (ble_of rfl (by decide)) rfl) ?_
 refine QE.op rfl rfl (QOp.no rfl rfl rfl rfl (ble_of rfl (by decide)) rfl) ?_
 refine QE.op rfl rfl (QOp.no rfl rfl rfl rfl (ble_of rfl (by decide)) rfl) ?_
 refine QE.op rfl rfl (.inl ⟨rfl, fun f' H' hf hM => AOp.pickT _ rfl ((hf 110 rfl).trans rfl) rfl rfl ⟨rfl, hM⟩⟩) ?_
 refine QE.op rfl rfl (.inl ⟨rfl, fun f' H' hf hM => AOp.move _ rfl ((hf 118 rfl).trans rfl) ⟨rfl, hM⟩⟩) ?_
 refine QE.op rfl rfl (QOp.no rfl rfl rfl rfl (ble_of rfl (by decide)) rfl) ?_
 refine QE.op rfl rfl (QOp.no rfl rfl rfl rfl (ble_of rfl (by decide)) rfl) ?_
 refine QE.op rfl rfl (QOp.no rfl rfl rfl rfl (ble_of rfl (by decide)) rfl) ?_
 refine QE.op rfl rfl (QOp.no rfl rfl rfl rfl (ble_of rfl (by decide)) rfl) ?_
 refine QE.op rfl rfl (QOp.no rfl rfl rfl rfl (ble_of rfl (by decide)) rfl) ?_
 refine QE.op rfl rfl (QOp.no rfl rfl rfl rfl (ble_of rfl (by decide)) rfl) ?_
 refine QE.op rfl rfl (QOp.no rfl rfl rfl rfl (ble_of rfl (by decide)) rfl) ?_
 refine QE.op rfl rfl (QOp.no rfl rfl rfl rfl (ble_of rfl (by decide)) rfl) ?_
 refine QE.op rfl rfl (QOp.no rfl rfl rfl rfl (ble_of rfl (by decide)) rfl) ?_
 refine QE.op rfl rfl (.inl ⟨rfl, fun f' H' hf hM => AOp.pickT _ rfl ((hf 119 rfl).trans rfl) rfl rfl ⟨rfl, hM⟩⟩) ?_
 refine QE.done fun H188 m189 => ?_
 have m190 := m132.trans m189
 refine AWP.condT rfl rfl ?_
 refine AWP.exit ?_
 change AWP _ _ _ _ _ _
 refine AWP.region rfl ?_
 refine AOps.cons rfl rfl (AOp.move _ rfl s124 (AOps.cons rfl rfl (AOp.bin _ rfl rfl rfl (iadd (by omega)) (AOps.cons rfl rfl (AOp.assign _ rfl rfl ?_)))))
 refine AOps.nil ?_
 exact ⟨_, by omega, b + 1, rfl, rfl, s125, s126, s127, s128, s129, s130, s131, m190, by omega, by omega⟩
 refine AWP.condF rfl (decide_eq_false b133) ?_
 refine AWP.exit ?_
 change AWP _ _ _ _ _ _
 refine AWP.region rfl ?_
 refine AOps.cons rfl rfl (AOp.move _ rfl s125 (AOps.cons rfl rfl (AOp.bin _ rfl rfl rfl (iadd (by omega)) (AOps.cons rfl rfl (AOp.assign _ rfl rfl ?_)))))
 refine AOps.nil ?_
 exact ⟨_, by omega, a + 1, rfl, rfl, s126, s127, s128, s129, s130, s131, m132, by omega, by omega⟩
 refine AWP.condF rfl (decide_eq_false b120) ?_
 refine AWP.exit ?_
 change AWP _ _ _ _ _ _
 refine AWP.region rfl ?_
 refine AOps.cons rfl rfl (AOp.move _ rfl s113 (AOps.cons rfl rfl (AOp.bin _ rfl rfl rfl (iadd (by omega)) (AOps.cons rfl rfl (AOp.assign _ rfl rfl ?_)))))
 refine AOps.nil ?_
 exact ⟨_, by omega, i + 1, rfl, rfl, s114, s115, m119, by omega, by omega⟩
 refine AWP.condF rfl (decide_eq_false b61) ?_
 refine AWP.exit ?_
 change AWP _ _ _ _ _ _
 refine AWP.seq (AWP.region rfl ?_)
 refine AOps.cons rfl rfl (AOp.assign _ rfl rfl ?_)
 refine AWP.ret ?_
 refine ⟨_, _, Ghost.refl, .inr rfl, _, Res.one rfl rfl, ?_, m60⟩
 exact rfl
 refine AWP.condT rfl (nb b32) ?_
 refine AWP.seq (AWP.region rfl ?_)
 refine AOps.cons rfl rfl (AOp.assign _ rfl rfl ?_)
 refine AWP.ret ?_
 refine ⟨_, _, Ghost.refl, .inr rfl, _, Res.one rfl rfl, ?_, m30⟩
 exact rfl
end Go.Proofs.U
