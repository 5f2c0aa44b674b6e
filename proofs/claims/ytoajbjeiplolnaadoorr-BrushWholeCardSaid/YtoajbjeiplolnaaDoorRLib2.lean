/- More lemmas of my own on memory. No program is named. -/
import Derived.Test.YtoajbjeiplolnaaDoorRLib
namespace Go.Proofs.YtoajbjeiplolnaaDoorR
open Go.RowKit

/-- A call that leaves the world as it is, in a region that draws its order. -/
theorem quiet_left {P : Program} {f : FuncId} {args : Array Value} {w : World} {n : Nat} {v : Value}
    (h : Calls P f args (w.drewN n) fun e w' => e = .returned v ∧ w.drewN n = w') : Calls P f args (w.drewN n) fun e w'' => e = .returned v ∧ ∃ m, w'' = w.drewN m :=
  h.mono fun _ _ ⟨he, hm⟩ => ⟨he, n, hm.symm⟩
end Go.Proofs.YtoajbjeiplolnaaDoorR
