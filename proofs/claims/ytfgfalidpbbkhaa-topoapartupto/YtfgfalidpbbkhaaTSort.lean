/- A part of the proof that a law of the edges and fans of faces answers true for every input of its bulk: own work, by an AI agent. -/
import Derived.Test.YtfgfalidpbbkhaaT4
import Derived.Test.YtfgfalidpbbkhaaAH14
import Derived.Ground.SlsfProg
set_option linter.unusedVariables false
set_option linter.unusedSimpArgs false
namespace Go.Proofs
open Go.Shelf Go.RowKit Go.Lib Go.Sort
def T.sortE_ren : Go.Shelf.Ren := ⟨fun | 6 => 36 | 15 => 43 | 14 => 42 | 28 => 52 | 29 => 53 | 20 => 44 | 21 => 45 | 22 => 46 | 23 => 47 | 24 => 48 | 25 => 49 | 26 => 50 | 27 => 51 | 46 => 54 | 47 => 55 | 48 => 56 | 49 => 57 | 50 => 58 | 57 => 59 | n => n, fun | 22 => 26 | 24 => 37 | 25 => 73 | 3 => 3 | 39 => 76 | 0 => 0 | 53 => 89 | 55 => 91 | 4 => 4 | 46 => 83 | 45 => 82 | 50 => 42 | 5 => 5 | 9 => 9 | 66 => 92 | 70 => 96 | 76 => 98 | 77 => 99 | n => n, fun | n => n⟩
theorem T.sortE : Go.Proofs.SlLaysF0.n6 Try.prog T.sortE_ren := {
  mixed := by kernel_rfl
  f6 := ⟨Try.f36.name, by decide, Try.func36.trans (congrArg some (by kernel_rfl))⟩
  f14 := ⟨Try.f42.name, by decide, Try.func42.trans (congrArg some (by kernel_rfl))⟩
  f15 := Try.func43.trans (congrArg some (by kernel_rfl))
  f20 := ⟨Try.f44.name, by decide, Try.func44.trans (congrArg some (by kernel_rfl))⟩
  f21 := ⟨Try.f45.name, by decide, Try.func45.trans (congrArg some (by kernel_rfl))⟩
  f22 := ⟨Try.f46.name, by decide, Try.func46.trans (congrArg some (by kernel_rfl))⟩
  f23 := ⟨Try.f47.name, by decide, Try.func47.trans (congrArg some (by kernel_rfl))⟩
  f24 := ⟨Try.f48.name, by decide, Try.func48.trans (congrArg some (by kernel_rfl))⟩
  f25 := ⟨Try.f49.name, by decide, Try.func49.trans (congrArg some (by kernel_rfl))⟩
  f26 := ⟨Try.f50.name, by decide, Try.func50.trans (congrArg some (by kernel_rfl))⟩
  f27 := ⟨Try.f51.name, by decide, Try.func51.trans (congrArg some (by kernel_rfl))⟩
  f28 := Try.func52.trans (congrArg some (by kernel_rfl))
  f29 := Try.func53.trans (congrArg some (by kernel_rfl))
  f46 := ⟨Try.f54.name, by decide, Try.func54.trans (congrArg some (by kernel_rfl))⟩
  f47 := Try.func55.trans (congrArg some (by kernel_rfl))
  f48 := Try.func56.trans (congrArg some (by kernel_rfl))
  f49 := ⟨Try.f57.name, by decide, Try.func57.trans (congrArg some (by kernel_rfl))⟩
  f50 := ⟨Try.f58.name, by decide, Try.func58.trans (congrArg some (by kernel_rfl))⟩
  f57 := ⟨Try.f59.name, by decide, Try.func59.trans (congrArg some (by kernel_rfl))⟩
  t0 := Try.underlying0
  a0 := Try.isAgg0
  z0 := Try.sizeOf0
  v0 := Try.zeroValue0
  t3 := Try.underlying3
  a3 := Try.isAgg3
  z3 := Try.sizeOf3
  v3 := Try.zeroValue3
  t4 := Try.underlying4
  a4 := Try.isAgg4
  z4 := Try.sizeOf4
  v4 := Try.zeroValue4
  t5 := Try.underlying5
  a5 := Try.isAgg5
  z5 := Try.sizeOf5
  v5 := Try.zeroValue5
  t9 := Try.underlying9
  a9 := Try.isAgg9
  z9 := Try.sizeOf9
  v9 := Try.zeroValue9
  t22 := Try.underlying26
  a22 := Try.isAgg26
  z22 := Try.sizeOf26
  v22 := Try.zeroValue26
  t25 := Try.underlying73
  a25 := Try.isAgg73
  z25 := Try.sizeOf73
  v25 := Try.zeroValue73
  t39 := Try.underlying76
  a39 := Try.isAgg76
  z39 := Try.sizeOf76
  v39 := Try.zeroValue76
  t45 := Try.underlying82
  a45 := Try.isAgg82
  z45 := Try.sizeOf82
  v45 := Try.zeroValue82
  t46 := Try.underlying83
  a46 := Try.isAgg83
  z46 := Try.sizeOf83
  v46 := Try.zeroValue83
  t50 := Try.underlying42
  a50 := Try.isAgg42
  z50 := Try.sizeOf42
  v50 := Try.zeroValue42
  t53 := Try.underlying89
  a53 := Try.isAgg89
  z53 := Try.sizeOf89
  v53 := Try.zeroValue89
  t55 := Try.underlying91
  a55 := Try.isAgg91
  z55 := Try.sizeOf91
  v55 := Try.zeroValue91
  t66 := Try.underlying92
  a66 := Try.isAgg92
  z66 := Try.sizeOf92
  v66 := Try.zeroValue92
  t70 := Try.underlying96
  a70 := Try.isAgg96
  z70 := Try.sizeOf96
  v70 := Try.zeroValue96
  t76 := Try.underlying98
  a76 := Try.isAgg98
  z76 := Try.sizeOf98
  v76 := Try.zeroValue98
  t77 := Try.underlying99
  a77 := Try.isAgg99
  z77 := Try.sizeOf99
  v77 := Try.zeroValue99 }
end Go.Proofs
namespace Go.Proofs.T
open Go Go.AH Go.Sort Go.Shelf Go.RowKit Go.Proofs
def encE (e : Ed) : List Value := [.int .i64 e.A, .int .i64 e.B, .int .i64 e.F, .int .i64 e.G]
def cmpE (x y : Ed) : Int := cE x (y.A, y.B)
def lessE (x y : Ed) : Bool := ltOf cmpE x y
theorem lessE_iff (x y : Ed) : lessE x y = true ↔ ltE x y := by
  unfold lessE ltOf cmpE ltE; rw [decide_eq_true_eq, cE_neg]
theorem swoE : SWO (ltOf cmpE) where
  irrefl x := by
    have := lessE_iff x x; unfold lessE ltE at this
    cases h : ltOf cmpE x x with
    | false => rfl
    | true => rw [h] at this; have := this.1 rfl; omega
  trans x y z h1 h2 := by
    have a := (lessE_iff x y).1 h1
    have b := (lessE_iff y z).1 h2
    refine (lessE_iff x z).2 ?_
    unfold ltE at *; omega
  ntrans x y z h1 h2 := by
    have a : ¬ ltE x y := fun h => by rw [show ltOf cmpE x y = true from (lessE_iff x y).2 h] at h1; cases h1
    have b : ¬ ltE y z := fun h => by rw [show ltOf cmpE y z = true from (lessE_iff y z).2 h] at h2; cases h2
    cases h : ltOf cmpE x z with
    | false => rfl
    | true => have := (lessE_iff x z).1 h; unfold ltE at *; omega
theorem lays37 (blk off size : Nat) (w : World) : CmpLays Try.prog 37 #[] encE 4 cmpE blk off size w := fun m os dk _ x y => by
  refine (c37 x y).plain ⟨rfl, ?_⟩ (fun w' μ' H' z h => by cases h; rfl)
  have hag : ∀ (e : Ed) W, VR W (fun i => i) noHeap (.agg [.int .i64 e.A, .int .i64 e.B, .int .i64 e.F, .int .i64 e.G]) (.agg (encE e).toArray) := fun e W => .agg rfl fun j a b ha hb => by
    match j, ha, hb with
    | 0, ha, hb => cases ha; cases hb; exact .int _ _
    | 1, ha, hb => cases ha; cases hb; exact .int _ _
    | 2, ha, hb => cases ha; cases hb; exact .int _ _
    | 3, ha, hb => cases ha; cases hb; exact .int _ _
    | n + 4, ha, _ => simp at ha
  intro j a b ha hb
  match j, ha, hb with
  | 0, ha, hb => cases ha; cases hb; exact hag x _
  | 1, ha, hb => cases ha; cases hb; exact hag y _
  | n + 2, ha, _ => simp at ha
theorem agg24 : ∀ w, (isAgg 37).run Try.prog w = .ok true w := fun w => ty_37.run w
theorem size24 : ∀ w, (Go.sizeOf 37).run Try.prog w = .ok 4 w := fun w => ts_37.run w
theorem c36 {H0 H : Heap} {v : AV} {l : List Ed} (ho : Own H0 H 4 v l.length (l.flatMap eE)) (hm : Mono H0 H) (hbig : l.length < 4611686018427387904) :
    ACalls Try.prog 36 [v, .fn 37 []] H fun r H' => r = .tup [] ∧ Mono H0 H' ∧ (∀ i, NotId v i → H' i = H i) ∧ ∃ l' : List Ed, Own H0 H' 4 v l'.length (l'.flatMap eE) ∧ l'.Perm l ∧ l'.Pairwise (fun x y => lessE y x = false) := by
  have eg : ∀ args w, (callFunc 37 args).run Try.prog w = .ok (.enter 37 args) w := enters_of (by rfl) (by kernel_rfl) rfl
  refine sort_calls (k := 4) (enc := encE) (by decide) (fun _ => rfl) (fun _ => rfl) (fun x j a h => ?_) concVR (fun blk off cap d w hH hb hs => ?_) (fun p cap w => ?_) ho hm hbig
  · match j, h with
    | 0, h => cases h; exact ⟨_, rfl, rfl⟩
    | 1, h => cases h; exact ⟨_, rfl, rfl⟩
    | 2, h => cases h; exact ⟨_, rfl, rfl⟩
    | 3, h => cases h; exact ⟨_, rfl, rfl⟩
    | n + 4, h => simp [eE] at h
  · exact AnyQ.slices_SortFunc T.sortE 4 agg24 size24 encE (fun _ => rfl) (fun x v hv => by simp [encE] at hv; rcases hv with rfl | rfl | rfl | rfl <;> rfl) cmpE swoE 37 #[] blk off cap d w eg (lays37 blk off d.size w) hH hb hs
  · exact AnyF.slices_SortFunc_none T.sortE p cap _ w
end Go.Proofs.T
