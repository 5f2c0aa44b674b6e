/- Package arena: the contract of All. -/
import Derived.Test.YtoajbjeiplolnaaDoorRAr7
namespace Go.Proofs.YtoajbjeiplolnaaDoorR.Ar
open Go.RowKit Pg
set_option linter.unusedSimpArgs false
set_option linter.unusedVariables false

/-- Where a page's used slots begin. -/
def begins (ps : List (Option PM)) (j : Nat) : List Int :=
  match get ps (j : Int) with
  | none => []
  | some p => (Bit.bl p.U).map fun (s : Nat) => base ps j (s : Int)
/-- Where the used slots of the first pages begin. -/
def allOf (ps : List (Option PM)) : Nat → List Int
  | 0 => []
  | j + 1 => allOf ps j ++ begins ps j
def ints' (l : List Int) : List Value := l.map (Value.int .i64)
def ListsI (l : List Int) (w : World) (e : Ending) (w' : World) : Prop :=
  ∃ a c, e = .returned (.slice a l.length c) ∧ w'.ownsRow w.heap.size 3 1 (.slice a l.length c) l.length (ints' l) ∧ Below w.heap.size w w'
theorem all_nil (w : World) : Calls Tryd.prog 25 #[.pointer none] w fun e w' => e = .returned (.slice none 0 0) ∧ w = w' := by
  go_enter Tryd.func25, Tryd.ntmps25
  go_wp2_with fail
  go_ret
  exact ⟨rfl, rfl⟩
theorem begins_len (ps : List (Option PM)) (j : Nat) : (begins ps j).length ≤ 32 := by
  unfold begins
  split
  · simp
  · rename_i p _
    rw [List.length_map]
    exact Bit.sl_len 32 p.U.testBit
theorem allOf_len (ps : List (Option PM)) : ∀ j, (allOf ps j).length ≤ 32 * j
  | 0 => by simp [allOf]
  | j + 1 => by
    have h1 := allOf_len ps j
    have h2 := begins_len ps j
    rw [allOf, List.length_append]
    omega
end Go.Proofs.YtoajbjeiplolnaaDoorR.Ar
