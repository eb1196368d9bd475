/- A part of the proof that a law of the edges and fans of faces answers true for every input of its bulk: own work, by an AI agent. -/
import Derived.Test.YtfgfalidpbbkhaaAH12
set_option linter.unusedVariables false
set_option linter.unusedSimpArgs false
namespace Go.AH
open Go Go.Maps
section
variable {P : Program} {n : Nat} {f : Nat → AV} {H : Heap} {K : (Nat → AV) → Heap → Prop} {ty : TypeId} {pos : String} {after : Array Edge} {guard : Option (Nat × Bool)} {d : Nat}
theorem AOp.lookupOk' {t kt et : TypeId} {x ix : Operand} {id : Nat} {es : List (AV × AV)} {kv z r : AV} {b : Bool} (hn : Nat.ble (d + 1) n = true) (hx : ev f x = .map id) (hid : H id = some (.map es)) (hk : ev f ix = kv) (hkv : KOK P kt kv) (hes : ∀ e ∈ es, KOK P kt e.1)
    (ht : TMap P t kt et) (hz : TZeroV P et z) (hr : (mget es kv).getD z = r ∧ (mget es kv).isSome = b) (hK : K (upd f d (.tup [r, .bool b])) H) : AOp P n ⟨some d, .lookup t x ix true, ty, pos, after, guard⟩ K f H :=
  .lookupOk hn hx hid hk hkv hes ht hz (by rw [hr.1, hr.2]; exact hK)
theorem AOp.lookup' {t kt et : TypeId} {x ix : Operand} {id : Nat} {es : List (AV × AV)} {kv z r : AV} (hn : Nat.ble (d + 1) n = true) (hx : ev f x = .map id) (hid : H id = some (.map es)) (hk : ev f ix = kv) (hkv : KOK P kt kv) (hes : ∀ e ∈ es, KOK P kt e.1)
    (ht : TMap P t kt et) (hz : TZeroV P et z) (hr : (mget es kv).getD z = r) (hK : K (upd f d r) H) : AOp P n ⟨some d, .lookup t x ix false, ty, pos, after, guard⟩ K f H :=
  .lookup hn hx hid hk hkv hes ht hz (by rw [hr]; exact hK)
theorem AOp.mapUpdate2 {t kt et : TypeId} {m ix y : Operand} {id : Nat} {es es' : List (AV × AV)} {kv v : AV} (hx : ev f m = .map id) (hid : H id = some (.map es)) (hk : ev f ix = kv) (hkv : KOK P kt kv) (hes : ∀ e ∈ es, KOK P kt e.1)
    (ht : TMap P t kt et) (hy : ev f y = v) (hput : mput es kv v = es') (hK : ∀ H', H' id = some (.map es') → (∀ i, i ≠ id → H' i = H i) → K f H') : AOp P n ⟨none, .mapUpdate t m ix y, ty, pos, after, guard⟩ K f H :=
  .mapUpdate' hx hid hk hkv hes ht hy (by rw [hput]; exact hK)
end
end Go.AH
namespace Go.AH
open Go
theorem AOp.xcall {P : Program} {n : Nat} {f : Nat → AV} {H : Heap} {K : (Nat → AV) → Heap → Prop} {ty : TypeId} {pos : String} {after : Array Edge} {guard : Option (Nat × Bool)} {d : Nat} {g : FuncId} {c : Operand} {args : Array Operand} {at_ : Array TypeId} {caps as : List AV} {R : AV → Heap → Prop} (hn : Nat.ble (d + 1) n = true) (hc : ev f c = .fn g caps) (has : args.toList.map (ev f) ++ caps = as) (ht : TFun P g)
    (hC : ACalls P g as H R) (hK : ∀ r H', R r H' → K (upd f d r) H') : AOp P n ⟨some d, .call { callee := .value c, args, argTypes := at_ }, ty, pos, after, guard⟩ K f H :=
  .call hn hc rfl ht (by rw [has]; exact hC) hK
end Go.AH
