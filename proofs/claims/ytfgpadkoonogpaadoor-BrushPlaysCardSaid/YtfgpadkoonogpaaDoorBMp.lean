/- Maps from int to bool that the program made: the keys that stand in them, and what they say. -/
import Derived.Test.YtfgpadkoonogpaaDoorProg
import Derived.Test.YtfgpadkoonogpaaDoorGn
import Derived.Maps.OwnOps
import Derived.Maps.OwnSet
import Derived.Maps.Views
namespace Go.Proofs.YtfgpadkoonogpaaDoor
open Go.RowKit Go.Maps

theorem lawIntB : Keyed Tryd.prog 3 := int_keyed Tryd.underlying3
theorem zeroBool (w : World) : (zeroValue 4).run Tryd.prog w = .ok (.bool false) w := by kernel_rfl
theorem elem_bool_inv {v : Value} {x : Bool} {ps : List MemPlace} (h : plainElem (H := Unit) Tryd.prog 4 v = some (.lit (.bool x), ps)) : v = .bool x := by
  cases v with
  | bool y =>
    have := (plainElem_bool (H := Unit) Tryd.underlying4 y).symm.trans h
    simp at this
    rw [this.1]
  | _ => simp [plainElem, Tryd.underlying4] at h
/-- Block b is a map with just the keys T (each once); asked for v it answers f v. -/
def BMap (w : World) (b : Nat) (T : List Int) (f : Int → Bool) : Prop :=
  ∃ D : DataW Unit, w.ownsMap Tryd.prog 3 (plainElem Tryd.prog 4) b T.length D ∧ Maps.size D = T.length ∧ (∀ v : Int, Maps.has D (.int .i64 v) = decide (v ∈ T)) ∧ ∀ v : Int, D.atKey (.int .i64 v) (.lit (.bool false)) = .lit (.bool (f v))
theorem own_tight {w : World} {b n : Nat} {k : TypeId} {R : Value → Option (DataW Unit × List MemPlace)} {D : DataW Unit} (h : w.ownsMap Tryd.prog k R b n D) : w.ownsMap Tryd.prog k R b (Maps.size D) D := by
  obtain ⟨es, clock, hb, F, hs, rfl⟩ := h
  exact ⟨es, clock, hb, F, by rw [size_eq, length_read]; exact Nat.le_refl _, rfl⟩
def addT (T : List Int) (v : Int) : List Int := if v ∈ T then T else v :: T
theorem mem_addT {T : List Int} {v x : Int} : x ∈ addT T v ↔ x = v ∨ x ∈ T := by
  unfold addT
  split
  · rename_i h
    constructor
    · exact .inr
    · rintro (rfl | h')
      · exact h
      · exact h'
  · simp
theorem addT_nodup {T : List Int} {v : Int} (h : T.Pairwise (· ≠ ·)) : (addT T v).Pairwise (· ≠ ·) := by
  unfold addT
  split
  · exact h
  · rename_i hv
    exact List.Pairwise.cons (fun x hx e => hv (e ▸ hx)) h
theorem addT_len (T : List Int) (v : Int) : (addT T v).length ≤ T.length + 1 := by
  unfold addT
  split
  · omega
  · simp
section
variable {w w' : World} {b : Nat} {T : List Int} {f : Int → Bool}
theorem BMap.made (w : World) : BMap (w.alloc (.map #[] 0)) w.heap.size [] fun _ => false := ⟨_, World.ownsMap_made _ _ _ _, rfl, fun _ => rfl, fun _ => rfl⟩
theorem BMap.lt (h : BMap w b T f) : b < w.heap.size := by obtain ⟨D, h1, _⟩ := h; exact h1.lt
theorem BMap.block (h : BMap w b T f) (hb : w'.heap[b]? = w.heap[b]?) : BMap w' b T f := by
  obtain ⟨D, ⟨es, clock, h1, h2, h3⟩, h4⟩ := h
  exact ⟨D, ⟨es, clock, hb.trans h1, h2, h3⟩, h4⟩
theorem BMap.ne_blk {b' : Nat} {cs : Array Value} {t : TypeId} (h : BMap w b T f) (h' : Blk w b' cs t) : b ≠ b' := by
  obtain ⟨D, ⟨es, clock, h1, _⟩, _⟩ := h
  rintro rfl
  have h2 : w.heap[b]? = some (.cells cs t (0, 0)) := h'
  rw [h1] at h2
  cases h2
end
end Go.Proofs.YtfgpadkoonogpaaDoor
