/- A part of the proof that a law of the edges and fans of faces answers true for every input of its bulk: own work, by an AI agent. -/
import Derived.Test.YtfgfalidpbbkhaaT4
import Derived.Test.YtfgfalidpbbkhaaAH14
import Derived.Shelf.Lay
import Derived.Ground.SlsfProg
namespace Go.Proofs
open Go.Shelf Go.RowKit Go.Lib Go.Sort
shelf_lay_g SlLaysF0.n6 Slsf 6 at Try 36 as T.sortE
end Go.Proofs
namespace Go.Proofs.T
open Go Go.AH Go.Sort Go.Shelf Go.RowKit Go.Proofs
def encE (e : Ed) : List Value := [.int .i64 e.A, .int .i64 e.B, .int .i64 e.F, .int .i64 e.G]
def cmpE (x y : Ed) : Int := cE x (y.A, y.B)
def lessE (x y : Ed) : Bool := ltOf cmpE x y
theorem lessE_iff (x y : Ed) : lessE x y = true ↔ ltE x y := by
  unfold lessE ltOf cmpE ltE; rw [decide_eq_true_eq, cE_neg]
theorem swoE : SWO (ltOf cmpE) where
  irrefl x := by
    have := lessE_iff x x; unfold lessE ltE at this
    cases h : ltOf cmpE x x with
    | false => rfl
    | true => rw [h] at this; have := this.1 rfl; omega
  trans x y z h1 h2 := by
    have a := (lessE_iff x y).1 h1
    have b := (lessE_iff y z).1 h2
    refine (lessE_iff x z).2 ?_
    unfold ltE at *; omega
  ntrans x y z h1 h2 := by
    have a : ¬ ltE x y := fun h => by rw [show ltOf cmpE x y = true from (lessE_iff x y).2 h] at h1; cases h1
    have b : ¬ ltE y z := fun h => by rw [show ltOf cmpE y z = true from (lessE_iff y z).2 h] at h2; cases h2
    cases h : ltOf cmpE x z with
    | false => rfl
    | true => have := (lessE_iff x z).1 h; unfold ltE at *; omega
theorem lays37 (blk off size : Nat) (w : World) : CmpLays Try.prog 37 #[] encE 4 cmpE blk off size w := fun m os dk _ x y => by
  refine (c37 x y).plain ⟨rfl, ?_⟩ (fun w' μ' H' z h => by cases h; rfl)
  have hag : ∀ (e : Ed) W, VR W (fun i => i) noHeap (.agg [.int .i64 e.A, .int .i64 e.B, .int .i64 e.F, .int .i64 e.G]) (.agg (encE e).toArray) := fun e W => .agg rfl fun j a b ha hb => by
    match j, ha, hb with
    | 0, ha, hb => cases ha; cases hb; exact .int _ _
    | 1, ha, hb => cases ha; cases hb; exact .int _ _
    | 2, ha, hb => cases ha; cases hb; exact .int _ _
    | 3, ha, hb => cases ha; cases hb; exact .int _ _
    | n + 4, ha, _ => simp at ha
  intro j a b ha hb
  match j, ha, hb with
  | 0, ha, hb => cases ha; cases hb; exact hag x _
  | 1, ha, hb => cases ha; cases hb; exact hag y _
  | n + 2, ha, _ => simp at ha
theorem agg24 : ∀ w, (isAgg 37).run Try.prog w = .ok true w := fun w => ty_37.run w
theorem size24 : ∀ w, (Go.sizeOf 37).run Try.prog w = .ok 4 w := fun w => ts_37.run w
theorem c36 {H0 H : Heap} {v : AV} {l : List Ed} (ho : Own H0 H 4 v l.length (l.flatMap eE)) (hm : Mono H0 H) (hbig : l.length < 4611686018427387904) :
    ACalls Try.prog 36 [v, .fn 37 []] H fun r H' => r = .tup [] ∧ Mono H0 H' ∧ (∀ i, NotId v i → H' i = H i) ∧ ∃ l' : List Ed, Own H0 H' 4 v l'.length (l'.flatMap eE) ∧ l'.Perm l ∧ l'.Pairwise (fun x y => lessE y x = false) := by
  have eg : ∀ args w, (callFunc 37 args).run Try.prog w = .ok (.enter 37 args) w := enters_of (by rfl) (by kernel_rfl) rfl
  refine sort_calls (k := 4) (enc := encE) (by decide) (fun _ => rfl) (fun _ => rfl) (fun x j a h => ?_) concVR (fun blk off cap d w hH hb hs => ?_) (fun p cap w => ?_) ho hm hbig
  · match j, h with
    | 0, h => cases h; exact ⟨_, rfl, rfl⟩
    | 1, h => cases h; exact ⟨_, rfl, rfl⟩
    | 2, h => cases h; exact ⟨_, rfl, rfl⟩
    | 3, h => cases h; exact ⟨_, rfl, rfl⟩
    | n + 4, h => simp [eE] at h
  · exact AnyQ.slices_SortFunc T.sortE 4 agg24 size24 encE (fun _ => rfl) (fun x v hv => by simp [encE] at hv; rcases hv with rfl | rfl | rfl | rfl <;> rfl) cmpE swoE 37 #[] blk off cap d w eg (lays37 blk off d.size w) hH hb hs
  · exact AnyF.slices_SortFunc_none T.sortE p cap _ w
end Go.Proofs.T
