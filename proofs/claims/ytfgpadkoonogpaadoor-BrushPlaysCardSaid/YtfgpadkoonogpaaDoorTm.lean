/- Maps from a place (two numbers) to a thing (three numbers) that the program made, as functions of a page and a slot. No counter: there are at most 2048 places. -/
import Derived.Test.YtfgpadkoonogpaaDoorProg
import Derived.Test.YtfgpadkoonogpaaDoorGn
import Derived.Maps.OwnSet
import Derived.DeepKeys4
namespace Go.Proofs.YtfgpadkoonogpaaDoor.Tm
open Go.RowKit Go.Maps
set_option linter.unusedVariables false
set_option linter.unusedSimpArgs false

theorem laidOut : laidOutB Tryd.prog = true := by kernel_rfl
theorem law : Keyed Tryd.prog 121 := Keyed.of_law (deep_law_laid laidOut (m := 2) (by omega) (of_decide_eq_true (by kernel_rfl)) (by kernel_rfl) (by rw [Tryd.underlying121]))
/-- What a place reads as. -/
def kl (k s : Nat) : Lit := .string (keyBytes [.int .i64 k, .int .i64 s])
theorem wf_nat {k : Nat} (h : k < 64) : (Lit.int .i64 (k : Int)).wf = true := by
  show (decide (IntKind.i64.min ≤ (k : Int)) && decide ((k : Int) ≤ IntKind.i64.max)) = true
  rw [show IntKind.i64.min = -9223372036854775808 by decide, show IntKind.i64.max = 9223372036854775807 by decide]
  simp only [Bool.and_eq_true, decide_eq_true_eq]
  omega
theorem key_is {k s : Nat} (hk : k < 64) (hs : s < 64) : keyOf Tryd.prog 121 (.agg #[.int .i64 k, .int .i64 s]) = some (kl k s) := by
  have wk := wf_nat hk
  have ws := wf_nat hs
  obtain ⟨m, hm⟩ : ∃ m, Tryd.prog.types.size = m + 1 := ⟨Tryd.prog.types.size - 1, by have : 0 < Tryd.prog.types.size := of_decide_eq_true (by kernel_rfl); omega⟩
  have hkt : Tryd.prog.keyType 121 = true := by kernel_rfl
  have hc : Tryd.prog.cellsOf 121 = 2 := by kernel_rfl
  have hci : Tryd.prog.cellsOf 3 = 1 := by kernel_rfl
  unfold keyOf
  simp only [Tryd.underlying121]
  rw [if_pos (by simp [hkt, Value.formed, Tryd.underlying121, hc]), hm]
  unfold Program.keyLits
  simp only [Tryd.underlying121, Value.cells]
  rw [if_pos (by rw [hc]; simp)]
  simp [List.mapM_cons, List.mapM_nil, Program.keyLits, Tryd.underlying3, wk, ws, hci, kl]
theorem kl_inj {k s k' s' : Nat} (h1 : k < 64) (h2 : s < 64) (h3 : k' < 64) (h4 : s' < 64) (h : kl k s = kl k' s') : k = k' ∧ s = s' := by
  have := law.inj (key_is h1 h2) (h ▸ key_is h3 h4)
  simp at this
  omega
theorem kl_ne {k s k' s' : Nat} (h1 : k < 64) (h2 : s < 64) (h3 : k' < 64) (h4 : s' < 64) (h : ¬ (k' = k ∧ s' = s)) : kl k' s' ≠ kl k s := fun e => h (kl_inj h3 h4 h1 h2 e)
theorem kl_key (k s : Nat) : WideAt.IsKeyLit (kl k s) := by simp [WideAt.IsKeyLit, kl]
/-- A thing: its shape, its number, its color. -/
abbrev Thing := Int × Int × Int
def tv (t : Thing) : Value := .agg #[.int .i64 t.1, .int .i64 t.2.1, .int .i64 t.2.2]
def enc (t : Thing) : DataW Unit := .agg [.lit (.int .i64 t.1), .lit (.int .i64 t.2.1), .lit (.int .i64 t.2.2)]
theorem enc_inj {t u : Thing} (h : enc t = enc u) : t = u := by
  obtain ⟨a, b, c⟩ := t
  obtain ⟨a', b', c'⟩ := u
  simpa [enc] using h
def trl : List Value → Option (DataW Unit × List MemPlace)
  | [.int .i64 a, .int .i64 b, .int .i64 c] => some (enc (a, b, c), [])
  | _ => none
def TR : Value → Option (DataW Unit × List MemPlace)
  | .agg cs => trl cs.toList
  | _ => none
theorem tr_tv (t : Thing) : TR (tv t) = some (enc t, []) := rfl
theorem trl_inv {l : List Value} {t : Thing} {ps : List MemPlace} (h : trl l = some (enc t, ps)) : l = [.int .i64 t.1, .int .i64 t.2.1, .int .i64 t.2.2] := by
  unfold trl at h
  split at h
  · injection h with h
    injection h with h _
    have := enc_inj h
    subst this
    rfl
  · cases h
theorem tr_inv {v : Value} {t : Thing} {ps : List MemPlace} (h : TR v = some (enc t, ps)) : v = tv t := by
  unfold TR at h
  split at h
  · rename_i cs
    have := trl_inv h
    obtain ⟨l⟩ := cs
    simp at this
    subst this
    rfl
  · cases h
/-- All places. -/
def box : List Lit := (List.range 64).flatMap fun k => (List.range 32).map fun s => kl k s
theorem box_len : box.length = 2048 := by
  unfold box
  rw [List.length_flatMap]
  simp
  rfl
theorem box_mem {k s : Nat} (hk : k < 64) (hs : s < 32) : kl k s ∈ box := by
  unfold box
  rw [List.mem_flatMap]
  exact ⟨k, by simpa using hk, by rw [List.mem_map]; exact ⟨s, by simpa using hs, rfl⟩⟩
theorem nodup_len {α : Type} : ∀ (l L : List α), l.Pairwise (· ≠ ·) → (∀ x ∈ l, x ∈ L) → l.length ≤ L.length
  | [], _, _, _ => by simp
  | x :: r, L, h, hs => by
    haveI : DecidableEq α := fun a b => Classical.propDecidable (a = b)
    obtain ⟨h1, h2⟩ := List.pairwise_cons.1 h
    have hx := hs x (by simp)
    have := nodup_len r (L.erase x) h2 (fun y hy => (List.mem_erase_of_ne (h1 y hy).symm).2 (hs y (by simp [hy])))
    have hl := List.length_erase_of_mem hx
    have := List.length_pos_of_mem hx
    simp
    omega
/-- Block b is a map; at a page's slot it holds what M says. -/
def TMap (w : World) (b : Nat) (M : Nat → Nat → Option Thing) : Prop :=
  ∃ D : DataW Unit, w.ownsMap Tryd.prog 121 TR b 2048 D ∧ (∀ l, has D l = true → l ∈ box) ∧ ∀ k s, k < 64 → s < 32 → has D (kl k s) = (M k s).isSome ∧ ∀ z, D.atKey (kl k s) (enc z) = enc ((M k s).getD z)
theorem tight {w : World} {b n : Nat} {D : DataW Unit} (h : w.ownsMap Tryd.prog 121 TR b n D) (hD : ∀ l, has D l = true → l ∈ box) : w.ownsMap Tryd.prog 121 TR b 2048 D := by
  have ht := h.tidy law
  obtain ⟨es, clock, hb, F, hs, hd⟩ := h
  refine ⟨es, clock, hb, F, ?_, hd⟩
  obtain ⟨es', rfl, hp⟩ := ht
  injection hd with hd
  have e1 : es.size = es'.length := by rw [hd, length_sorted]; simp
  have hkeys : ∀ p ∈ es', WideAt.IsKeyLit p.1 := by
    intro p hp'
    rw [hd] at hp'
    have := Maps.fit_keys F p ((WideShapes.sorted_perm _).mem_iff.1 hp')
    exact law.one.key this
  have := nodup_len (es'.map (·.1)) box (List.pairwise_map.2 hp) (fun x hx => by
    obtain ⟨p, hp', rfl⟩ := List.mem_map.1 hx
    refine hD _ ?_
    rw [has_eq, List.any_eq_true]
    exact ⟨p, hp', WideAt.sameKey_self (hkeys p hp')⟩)
  rw [box_len] at this
  simp at this
  omega
section
variable {w w' : World} {b : Nat} {M : Nat → Nat → Option Thing}
theorem TMap.made (w : World) : TMap (w.alloc (.map #[] 0)) w.heap.size fun _ _ => none :=
  ⟨_, (World.ownsMap_made _ _ _ _).mono (by omega), fun l h => by simp [has_eq] at h, fun k s _ _ => ⟨by simp [has_eq], fun z => by rw [atKey_of_not_has (by simp [has_eq])]; rfl⟩⟩
theorem TMap.lt (h : TMap w b M) : b < w.heap.size := by obtain ⟨D, h1, _⟩ := h; exact h1.lt
theorem TMap.block (h : TMap w b M) (hb : w'.heap[b]? = w.heap[b]?) : TMap w' b M := by
  obtain ⟨D, ⟨es, clock, h1, h2⟩, h3⟩ := h
  exact ⟨D, ⟨es, clock, hb.trans h1, h2⟩, h3⟩
theorem TMap.ne_blk {b' : Nat} {cs : Array Value} {T : TypeId} (h : TMap w b M) (h' : Blk w b' cs T) : b ≠ b' := by
  obtain ⟨D, ⟨es, clock, h1, _⟩, _⟩ := h
  rintro rfl
  have h2 : w.heap[b]? = some (.cells cs T (0, 0)) := h'
  rw [h1] at h2
  cases h2
theorem zeroThing (w : World) : (zeroValue 118).run Tryd.prog w = .ok (tv (0, 0, 0)) w := by kernel_rfl
theorem wf64 {k : Nat} (h : k < 64) : k < 64 := h
/-- 'm[p]'. -/
theorem TMap.look (h : TMap w b M) {k s : Nat} (hk : k < 64) (hs : s < 32) :
    (Instr.lookup 114 (.map (some b)) (.agg #[.int .i64 k, .int .i64 s]) false).run Tryd.prog w = .ok (tv ((M k s).getD (0, 0, 0))) w := by
  obtain ⟨D, h1, _, h3⟩ := h
  obtain ⟨v, ps, hrun, hv⟩ := h1.lookup law Tryd.underlying114 (zeroThing w) (tr_tv (0, 0, 0)) (key_is (k := k) (s := s) hk (by omega))
  rw [(h3 k s hk hs).2] at hv
  rw [hrun, tr_inv hv]
/-- 'v, ok := m[p]'. -/
theorem TMap.look_ok (h : TMap w b M) {k s : Nat} (hk : k < 64) (hs : s < 32) :
    (Instr.lookup 114 (.map (some b)) (.agg #[.int .i64 k, .int .i64 s]) true).run Tryd.prog w = .ok (.tuple #[tv ((M k s).getD (0, 0, 0)), .bool (M k s).isSome]) w := by
  obtain ⟨D, h1, _, h3⟩ := h
  obtain ⟨v, ps, hrun, hv⟩ := h1.look_ok law Tryd.underlying114 (zeroThing w) (tr_tv (0, 0, 0)) (key_is (k := k) (s := s) hk (by omega))
  rw [(h3 k s hk hs).2] at hv
  rw [hrun, tr_inv hv, (h3 k s hk hs).1]
/-- The function turned at a place. -/
def put (M : Nat → Nat → Option Thing) (k s : Nat) (t : Option Thing) : Nat → Nat → Option Thing := fun i j => if i = k ∧ j = s then t else M i j
/-- 'm[p] = t'. -/
theorem TMap.upd (h : TMap w b M) {k s : Nat} (hk : k < 64) (hs : s < 32) (t : Thing) :
    ∃ w', (Instr.mapUpdate 114 (.map (some b)) (.agg #[.int .i64 k, .int .i64 s]) (tv t)).run Tryd.prog w = .ok () w' ∧ TMap w' b (put M k s (some t)) ∧ w.grownBy w' (some b) := by
  obtain ⟨D, h1, h2, h3⟩ := h
  obtain ⟨w', hrun, r1, r2⟩ := h1.update law Tryd.underlying114 (by unfold maxLen; omega) (key_is (k := k) (s := s) hk (by omega)) (tr_tv t)
  have hb : ∀ l, has (D.put (kl k s) (enc t)) l = true → l ∈ box := by
    intro l hl
    by_cases e : l = kl k s
    · rw [e]; exact box_mem hk hs
    · rw [has_put_other e] at hl
      exact h2 l hl
  refine ⟨w', hrun, ⟨_, tight r1 hb, hb, fun i j hi hj => ?_⟩, r2⟩
  unfold put
  by_cases e : i = k ∧ j = s
  · obtain ⟨rfl, rfl⟩ := e
    rw [if_pos ⟨rfl, rfl⟩]
    exact ⟨has_put_same h1.isMap (kl_key _ _) _, fun z => atKey_put_same h1.isMap (kl_key _ _) _ _⟩
  · rw [if_neg e]
    have hne := kl_ne hk (by omega) hi (by omega) e
    exact ⟨by rw [has_put_other hne]; exact (h3 i j hi hj).1, fun z => by rw [atKey_put_other hne]; exact (h3 i j hi hj).2 z⟩
/-- 'delete(m, p)'. -/
theorem TMap.del (h : TMap w b M) {k s : Nat} (hk : k < 64) (hs : s < 32) (ty : TypeId) :
    ∃ w', (Builtin.delete_ #[114, 121] ty #[.map (some b), .agg #[.int .i64 k, .int .i64 s]]).run Tryd.prog w = .ok (.tuple #[]) w' ∧ TMap w' b (put M k s none) ∧ w.grownBy w' (some b) := by
  obtain ⟨D, h1, h2, h3⟩ := h
  obtain ⟨w', hrun, r1, r2⟩ := h1.drop law Tryd.underlying114 (key_is (k := k) (s := s) hk (by omega)) ty
  refine ⟨w', hrun, ⟨_, r1, ?_, fun i j hi hj => ?_⟩, r2.grown⟩
  · intro l hl
    by_cases e : l = kl k s
    · rw [e, has_del_same] at hl; cases hl
    · rw [has_del_other e] at hl
      exact h2 l hl
  unfold put
  by_cases e : i = k ∧ j = s
  · obtain ⟨rfl, rfl⟩ := e
    rw [if_pos ⟨rfl, rfl⟩]
    exact ⟨has_del_same, fun z => atKey_del_same _⟩
  · rw [if_neg e]
    have hne := kl_ne hk (by omega) hi (by omega) e
    exact ⟨by rw [has_del_other hne]; exact (h3 i j hi hj).1, fun z => by rw [atKey_del_other hne]; exact (h3 i j hi hj).2 z⟩
/-- 'm[p] = t' as the walk takes it. -/
theorem wpList_put {ops : Array Oper} {rest : List Oper} {o : Oper} {a : Act} {Q : Exit → Act → World → Prop}
    (hg : o.guard = none) (m x u : Operand) (hop : o.op = Op.mapUpdate 114 m x u) {k s : Nat} (t : Thing)
    (hm : a.eval m = .map (some b)) (hx : a.eval x = .agg #[.int .i64 k, .int .i64 s]) (hu : a.eval u = tv t) (h : TMap w b M) (hk : k < 64) (hs : s < 32)
    (hK : ∀ w', TMap w' b (put M k s (some t)) → w.grownBy w' (some b) → wpList Tryd.prog ops Q rest (a.put o.dst undef) w') :
    wpList Tryd.prog ops Q (o :: rest) a w := by
  refine wpList_plain hg fun K' hK' => ?_
  obtain ⟨w', hrun, r1, r2⟩ := h.upd hk hs t
  unfold Oper.wp
  simp [execOp, hop, hm, hx, hu, hrun, Result.andThen]
  exact hK' _ _ (hK w' r1 r2)
/-- 'delete(m, p)' as the walk takes it. -/
theorem wpList_del {ops : Array Oper} {rest : List Oper} {o : Oper} {a : Act} {Q : Exit → Act → World → Prop}
    (hg : o.guard = none) (m x : Operand) (hop : o.op = Op.call { callee := Callee.builtin Builtin.delete, args := #[m, x], argTypes := #[114, 121] }) {k s : Nat}
    (hm : a.eval m = .map (some b)) (hx : a.eval x = .agg #[.int .i64 k, .int .i64 s]) (h : TMap w b M) (hk : k < 64) (hs : s < 32)
    (hK : ∀ w', TMap w' b (put M k s none) → w.grownBy w' (some b) → wpList Tryd.prog ops Q rest (a.put o.dst (.tuple #[])) w') :
    wpList Tryd.prog ops Q (o :: rest) a w := by
  refine wpList_plain hg fun K' hK' => ?_
  obtain ⟨w', hrun, r1, r2⟩ := h.del hk hs o.type
  unfold Oper.wp
  simp [execOp, hop, resolve, invoke, builtin, hm, hx, hrun, Result.andThen]
  exact hK' _ _ (hK w' r1 r2)
end
end Go.Proofs.YtfgpadkoonogpaaDoor.Tm
