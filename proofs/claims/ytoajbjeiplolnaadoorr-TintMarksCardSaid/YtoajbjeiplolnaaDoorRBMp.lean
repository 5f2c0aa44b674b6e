/- Maps from int to bool that the program made: the keys that stand in them, and what they say. -/
import Derived.Test.YtoajbjeiplolnaaDoorRProg
import Derived.Test.YtoajbjeiplolnaaDoorRGn
import Derived.Maps.OwnOps
import Derived.Maps.OwnSet
import Derived.Maps.Views
namespace Go.Proofs.YtoajbjeiplolnaaDoorR
open Go.RowKit Go.Maps

theorem lawIntB : Keyed Tryd.prog 3 := int_keyed Tryd.underlying3
theorem zeroBool (w : World) : (zeroValue 4).run Tryd.prog w = .ok (.bool false) w := by kernel_rfl
theorem elem_bool_inv {v : Value} {x : Bool} {ps : List MemPlace} (h : plainElem (H := Unit) Tryd.prog 4 v = some (.lit (.bool x), ps)) : v = .bool x := by
  cases v with
  | bool y =>
    have := (plainElem_bool (H := Unit) Tryd.underlying4 y).symm.trans h
    simp at this
    rw [this.1]
  | _ => simp [plainElem, Tryd.underlying4] at h
/-- Block b is a map with just the keys T (each once); asked for v it answers f v. -/
def BMap (w : World) (b : Nat) (T : List Int) (f : Int → Bool) : Prop :=
  ∃ D : DataW Unit, w.ownsMap Tryd.prog 3 (plainElem Tryd.prog 4) b T.length D ∧ Maps.size D = T.length ∧ (∀ v : Int, Maps.has D (.int .i64 v) = decide (v ∈ T)) ∧ ∀ v : Int, D.atKey (.int .i64 v) (.lit (.bool false)) = .lit (.bool (f v))
theorem own_tight {w : World} {b n : Nat} {k : TypeId} {R : Value → Option (DataW Unit × List MemPlace)} {D : DataW Unit} (h : w.ownsMap Tryd.prog k R b n D) : w.ownsMap Tryd.prog k R b (Maps.size D) D := by
  obtain ⟨es, clock, hb, F, hs, rfl⟩ := h
  exact ⟨es, clock, hb, F, by rw [size_eq, length_read]; exact Nat.le_refl _, rfl⟩
def addT (T : List Int) (v : Int) : List Int := if v ∈ T then T else v :: T
theorem mem_addT {T : List Int} {v x : Int} : x ∈ addT T v ↔ x = v ∨ x ∈ T := by
  unfold addT
  split
  · rename_i h
    constructor
    · exact .inr
    · rintro (rfl | h')
      · exact h
      · exact h'
  · simp
theorem addT_nodup {T : List Int} {v : Int} (h : T.Pairwise (· ≠ ·)) : (addT T v).Pairwise (· ≠ ·) := by
  unfold addT
  split
  · exact h
  · rename_i hv
    exact List.Pairwise.cons (fun x hx e => hv (e ▸ hx)) h
theorem addT_len (T : List Int) (v : Int) : (addT T v).length ≤ T.length + 1 := by
  unfold addT
  split
  · omega
  · simp
section
variable {w w' : World} {b : Nat} {T : List Int} {f : Int → Bool}
theorem BMap.made (w : World) : BMap (w.alloc (.map #[] 0)) w.heap.size [] fun _ => false := ⟨_, World.ownsMap_made _ _ _ _, rfl, fun _ => rfl, fun _ => rfl⟩
theorem BMap.lt (h : BMap w b T f) : b < w.heap.size := by obtain ⟨D, h1, _⟩ := h; exact h1.lt
theorem BMap.block (h : BMap w b T f) (hb : w'.heap[b]? = w.heap[b]?) : BMap w' b T f := by
  obtain ⟨D, ⟨es, clock, h1, h2, h3⟩, h4⟩ := h
  exact ⟨D, ⟨es, clock, hb.trans h1, h2, h3⟩, h4⟩
theorem BMap.ne_blk {b' : Nat} {cs : Array Value} {t : TypeId} (h : BMap w b T f) (h' : Blk w b' cs t) : b ≠ b' := by
  obtain ⟨D, ⟨es, clock, h1, _⟩, _⟩ := h
  rintro rfl
  have h2 : w.heap[b]? = some (.cells cs t (0, 0)) := h'
  rw [h1] at h2
  cases h2
/-- 'm[k]'. -/
theorem BMap.look (h : BMap w b T f) (v : Int) (wv : (Lit.int .i64 v).wf = true) :
    (Instr.lookup 77 (.map (some b)) (.int .i64 v) false).run Tryd.prog w = .ok (.bool (f v)) w := by
  obtain ⟨D, h1, _, _, h3⟩ := h
  obtain ⟨x, ps, hrun, hR⟩ := h1.lookup lawIntB Tryd.underlying77 (zeroBool w) (plainElem_bool Tryd.underlying4 false) (keyOf_int_mk Tryd.underlying3 wv)
  rw [h3 v] at hR
  rw [elem_bool_inv hR] at hrun
  exact hrun
/-- 'len(m)'. -/
theorem BMap.len (h : BMap w b T f) (ty : TypeId) : (Builtin.len_ #[77] ty #[.map (some b)]).run Tryd.prog w = .ok (.int .i64 T.length) w := by
  obtain ⟨D, h1, h2, _⟩ := h
  rw [← h2]
  exact h1.len Tryd.underlying77 ty
/-- 'm[k] = z'. -/
theorem BMap.upd (h : BMap w b T f) (hN : T.length < maxLen) (v : Int) (z : Bool) (wv : (Lit.int .i64 v).wf = true) :
    ∃ w', (Instr.mapUpdate 77 (.map (some b)) (.int .i64 v) (.bool z)).run Tryd.prog w = .ok () w' ∧ BMap w' b (addT T v) (fun x => if x = v then z else f x) ∧ w.grownBy w' (some b) := by
  obtain ⟨D, h1, h2, h3, h4⟩ := h
  obtain ⟨w', hrun, r1, r2⟩ := h1.update lawIntB Tryd.underlying77 hN (keyOf_int_mk Tryd.underlying3 wv) (plainElem_bool Tryd.underlying4 z)
  have hsz : Maps.size (D.put (.int .i64 v) (.lit (.bool z))) = (addT T v).length := by
    rw [size_put (h1.tidy lawIntB), h3 v, h2]
    unfold addT
    by_cases hv : v ∈ T <;> simp [hv]
  refine ⟨w', hrun, ⟨_, hsz ▸ own_tight r1, hsz, fun x => ?_, fun x => ?_⟩, r2⟩
  · by_cases hx : x = v
    · subst hx
      rw [has_put_same h1.isMap (by simp [WideAt.IsKeyLit])]
      exact (decide_eq_true (mem_addT.2 (.inl rfl))).symm
    · rw [has_put_other (by simp [hx]), h3 x]
      exact decide_eq_decide.2 ⟨fun h => mem_addT.2 (.inr h), fun h => (mem_addT.1 h).resolve_left hx⟩
  · by_cases hx : x = v
    · subst hx
      rw [atKey_put_same h1.isMap (by simp [WideAt.IsKeyLit])]
      simp
    · rw [atKey_put_other (by simp [hx]), h4 x]
      simp [hx]
/-- 'm[k] = z' as the walk takes it. -/
theorem wpList_updB {ops : Array Oper} {rest : List Oper} {o : Oper} {a : Act} {Q : Exit → Act → World → Prop}
    (hg : o.guard = none) (m x u : Operand) (hop : o.op = Op.mapUpdate 77 m x u) (v : Int) (z : Bool)
    (hm : a.eval m = .map (some b)) (hx : a.eval x = .int .i64 v) (hu : a.eval u = .bool z) (h : BMap w b T f) (hN : T.length < maxLen) (wv : (Lit.int .i64 v).wf = true)
    (hK : ∀ w', BMap w' b (addT T v) (fun x => if x = v then z else f x) → w.grownBy w' (some b) → wpList Tryd.prog ops Q rest (a.put o.dst undef) w') :
    wpList Tryd.prog ops Q (o :: rest) a w := by
  refine wpList_plain hg fun K' hK' => ?_
  obtain ⟨w', hrun, r1, r2⟩ := h.upd hN v z wv
  unfold Oper.wp
  simp [execOp, hop, hm, hx, hu, hrun, Result.andThen]
  exact hK' _ _ (hK w' r1 r2)
/-- 'len(m)' as the walk takes it. -/
theorem wpList_lenB {ops : Array Oper} {rest : List Oper} {o : Oper} {a : Act} {Q : Exit → Act → World → Prop}
    (hg : o.guard = none) (m : Operand) (hop : o.op = Op.call { callee := Callee.builtin Builtin.len, args := #[m], argTypes := #[77] })
    (hm : a.eval m = .map (some b)) (h : BMap w b T f) (hK : wpList Tryd.prog ops Q rest (a.put o.dst (.int .i64 T.length)) w) :
    wpList Tryd.prog ops Q (o :: rest) a w := by
  obtain ⟨D, h1, h2, _⟩ := h
  exact wpList_len_own w hg m _ hop _ _ Tryd.underlying77 _ b _ D hm h1 (by rw [h2]; exact hK)
end
end Go.Proofs.YtoajbjeiplolnaaDoorR
