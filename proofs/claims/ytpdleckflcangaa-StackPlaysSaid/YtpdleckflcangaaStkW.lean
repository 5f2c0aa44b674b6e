/- The walk of besomlaw13.StackPlays, in one. -/
import Derived.Test.YtpdleckflcangaaWStackPlays
namespace Go.Proofs.Ytpdleckflcangaa.StackPlays
open Go.RowKit Stk
theorem walk (p q : Int) (A : Option Addr) (n c : Nat) (l : List (Int × Int × Int)) (r s : Int) (w : World) (_w0 : (Lit.int .i64 p).wf = true) (_w1 : (Lit.int .i64 q).wf = true) (hl : l.length = n) (_wl : ∀ x ∈ l, (Lit.int .i64 x.1).wf = true ∧ (Lit.int .i64 x.2.1).wf = true ∧ (Lit.int .i64 x.2.2).wf = true) (hR : Reads w w.heap.size 3 A n c (tripCells l)) (_w3 : (Lit.int .i64 r).wf = true) (_w4 : (Lit.int .i64 s).wf = true) :
    Calls Try.prog 10 #[.int .i64 p, .int .i64 q, .slice A n c, .int .i64 r, .int .i64 s] w fun e w' => e = .returned (.bool true) ∧ Below w.heap.size w w' := by
  by_cases h : 60 < n ∨ 300 < q
  · exact early p q r s A n c w h
  · exact core p q r s A n c l w hl hR (by omega) (by omega)
end Go.Proofs.Ytpdleckflcangaa.StackPlays
