/- Package arena: the contract of Take. -/
import Derived.Test.YtoajbjeiplolnaaDoorRAr5
import Derived.Lib.SliceRun
import Derived.Deep.RegionLaw
namespace Go.Proofs.YtoajbjeiplolnaaDoorR.Ar
open Go.RowKit Pg
set_option linter.unusedSimpArgs false
set_option linter.unusedVariables false

/-- Numbers from one on are 0. -/
def clr (ws : List Int) (o : Nat) : Nat → List Int
  | 0 => ws
  | n + 1 => clr (ws.set o 0) (o + 1) n
theorem clr_len : ∀ (n : Nat) (ws : List Int) (o : Nat), (clr ws o n).length = ws.length
  | 0, _, _ => rfl
  | n + 1, ws, o => by rw [clr, clr_len n, List.length_set]
theorem clr_get : ∀ (n : Nat) (ws : List Int) (o i : Nat), (clr ws o n)[i]? = if o ≤ i ∧ i < o + n ∧ i < ws.length then some 0 else ws[i]?
  | 0, ws, o, i => by rw [clr, if_neg (by omega)]
  | n + 1, ws, o, i => by
    rw [clr, clr_get n, List.length_set, List.getElem?_set]
    by_cases h : o = i
    · subst h
      rw [if_neg (by omega), if_pos rfl]
      by_cases h2 : o < ws.length
      · rw [if_pos h2, if_pos (by omega)]
      · rw [if_neg h2, if_neg (by omega), List.getElem?_eq_none (by omega)]
    · rw [if_neg h]
      by_cases h2 : o ≤ i ∧ i < o + (n + 1) ∧ i < ws.length
      · rw [if_pos h2, if_pos (by omega)]
      · rw [if_neg h2, if_neg (by omega)]
theorem blk_setCells (g : Nat) : ∀ (n o : Nat) (ws : List Int) (w : World), Blk w g (cells ws) 3 → Blk (w.setCells g o (List.replicate n (.int .i64 0))) g (cells (clr ws o n)) 3
  | 0, _, _, _, h => h
  | n + 1, o, ws, w, h => blk_setCells g n (o + 1) (ws.set o 0) _ ((h.set o (.int .i64 0)).of_eq (cells_set ws o 0))
theorem kept_setCells (g : Nat) {a : World} : ∀ (vs : List Value) (o : Nat) (w : World) {S : Nat → Prop}, S g → Kept S a w → Kept S a (w.setCells g o vs)
  | [], _, _, _, _, h => h
  | v :: r, o, w, S, hs, h => kept_setCells g r (o + 1) _ hs (h.set (p := ⟨g, o, none⟩) (.inl hs) v)
theorem ArenaAt.clear {w w' : World} {b gp gw : Nat} {ps : List (Option PM)} {ws ws' : List Int} (h : ArenaAt w b gp gw ps ws) (hb : Blk w' gw (cells ws') 3) (hl : ws'.length = ws.length) (hK : Kept (fun i => i = gw) w w') : ArenaAt w' b gp gw ps ws' :=
  ⟨by rw [hl]; exact hK.blk h.blk (blk_ne h.blk h.roww (by decide)), hK.blk h.rowp (blk_ne h.rowp h.roww (by decide)), hb, h.hn, by rw [hl]; exact h.hw,
    fun k p hk => ⟨(h.page k p hk).1.keep (hK.block _ (h.page k p hk).1.blk.lt (blk_ne (h.page k p hk).1.blk h.roww (by decide))), (h.page k p hk).2⟩, h.inj⟩
theorem zero_int (w : World) : (zeroValue 3).run Tryd.prog w = .ok (.int .i64 0) w := by kernel_rfl
theorem run_clear {w : World} {g o n c : Nat} {ws : List Int} (h : Blk w g (cells ws) 3) (hn : 0 < n) (hfit : o + n ≤ ws.length) (ty : TypeId) :
    (Builtin.clear_ #[27] ty #[.slice (some ⟨g, o, none⟩) n c]).run Tryd.prog w = .ok (.tuple #[]) (w.setCells g o (List.replicate n (.int .i64 0))) :=
  Lib.run_clear_slice w 27 3 ty (.int .i64 0) Tryd.underlying27 zero_int rfl rfl g o n c hn
    (fun j hj => by rw [h.cell, Array.getElem?_eq_getElem (by rw [cells_size]; omega)]; rfl) (fun j hj => h.free _)
/-- No slot of a class is free in the first pages. -/
def Full (ps : List (Option PM)) (c : Int) (k : Nat) : Prop := ∀ i, i < k → ∀ p, ps[i]? = some (some p) → p.c = c → ∀ s, s < p.n → p.U.testBit s = true
def Took (b gp gw : Nat) (ps : List (Option PM)) (ws : List Int) (c : Int) (w : World) (e : Ending) (w' : World) : Prop :=
  (e = .returned (.tuple #[.int .i64 0, .bool false]) ∧ Full ps c ps.length ∧ w = w') ∨
  (∃ (k : Nat) (p : PM) (s z : Nat), e = .returned (.tuple #[.int .i64 (1048576 + 32 * k + s * z : Nat), .bool true]) ∧ Full ps c k ∧ ps[k]? = some (some p) ∧ p.c = c ∧ Cls.csz c = z ∧ s < p.n ∧ p.U.testBit s = false ∧ (∀ i, i < s → p.U.testBit i = true) ∧
    ArenaAt w' b gp gw (ps.set k (some ⟨p.b, p.c, p.n, ins p.U s, del p.M s⟩)) (clr ws (32 * k + s * z) z) ∧ Kept (fun i => i = p.b ∨ i = gw) w w')
/-- The least number that is not in a word, if there is one below a bound. -/
theorem least (U n : Nat) : (∀ s, s < n → U.testBit s = true) ∨ ∃ s, s < n ∧ U.testBit s = false ∧ ∀ i, i < s → U.testBit i = true := by
  induction n with
  | zero => exact .inl fun s hs => by omega
  | succ n ih =>
    rcases ih with h | ⟨s, h1, h2, h3⟩
    · cases e : U.testBit n with
      | true =>
        exact .inl fun s hs => by
          rcases Nat.lt_succ_iff_lt_or_eq.1 hs with hs | rfl
          · exact h s hs
          · exact e
      | false => exact .inr ⟨n, by omega, e, h⟩
    · exact .inr ⟨s, by omega, h2, h3⟩
/-- A page's slots fit in it. -/
theorem fit {c : Int} {n s z : Nat} (hn : Cls.csl c = (n : Int)) (hz : Cls.csz c = (z : Int)) (hs : s < n) : s * z + z ≤ 32 ∧ 0 < z := by
  rcases Cls.csz_cases c with h | h | rfl | rfl | rfl | rfl | rfl | rfl | rfl | rfl
  · rw [Cls.csl_out (.inl h)] at hn; omega
  · rw [Cls.csl_out (.inr h)] at hn; omega
  all_goals
    simp [Cls.csl] at hn
    simp [Cls.csz] at hz
    have hzz : z = 1 ∨ z = 2 ∨ z = 3 ∨ z = 4 ∨ z = 6 ∨ z = 8 ∨ z = 12 ∨ z = 16 := by omega
    rcases hzz with rfl | rfl | rfl | rfl | rfl | rfl | rfl | rfl <;> omega
theorem take_slot {c : Int} {n : Nat} (hc : Cls.csl c = (n : Int)) (h0 : 0 < n) : ∃ z : Nat, Cls.csz c = (z : Int) := ⟨(Cls.csz c).toNat, by have := (Cls.csz_bd c).1; omega⟩
theorem step_clear {P : Program} (w w' : World) {ops : Array Oper} {o : Oper} {a : Act} {K : Act → World → Prop} {Q : Exit → Act → World → Prop} {E : Prop} (hgd : o.guard = none) (x : Operand) (t : TypeId) (v : Value)
    (ho : o.op = .call { callee := .builtin .clear, args := #[x], argTypes := #[t] }) (hx : a.eval x = v) (hrun : (Builtin.clear_ #[t] o.type #[v]).run P w = .ok (.tuple #[]) w')
    (h : K (a.put o.dst (.tuple #[])) w') :
    if Region.wanted o (yielded ops a.tmps) = true then Oper.wp P o a w K Q else E := by
  have hw : Region.wanted o (yielded ops a.tmps) = true := by simp [Region.wanted, hgd]
  rw [if_pos hw]
  unfold Oper.wp
  simp [execOp, ho, resolve, invoke, builtin, hx, hrun, Result.andThen]
  exact h
end Go.Proofs.YtoajbjeiplolnaaDoorR.Ar
