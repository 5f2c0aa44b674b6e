/- besomlaw19.AskNext: plain laws, and a row of hands of the call's own with a hand's variable beside it. -/
import Derived.Test.YtpdleckflcangaaAsk4
import Derived.Test.YtpdleckflcangaaArgs5
import Derived.Test.YtpdleckflcangaaApp2
import Derived.Deep.OwnRows
namespace Go.Proofs.Ytpdleckflcangaa.AskNext
open Go.RowKit Go.Proofs.Ytpdleckflcangaa.Ask
set_option linter.unusedSimpArgs false
set_option linter.unusedVariables false

theorem hc_length (l : List (Int × Bool)) : (hc l).length = l.length * 2 := by unfold hc; rw [pairCells_length, List.length_map]
theorem hc_cons (q : Int × Bool) (l : List (Int × Bool)) : hc (q :: l) = .int .i64 q.1 :: .bool q.2 :: hc l := rfl
theorem hc_one (l : List (Int × Bool)) : ∀ u ∈ hc l, u.oneCell' = true := by
  induction l with
  | nil => intro u hu; cases hu
  | cons q l ih =>
    intro u hu
    rw [hc_cons] at hu
    simp only [List.mem_cons] at hu
    rcases hu with rfl | rfl | hu
    · rfl
    · rfl
    · exact ih u hu
theorem hc_idx {l : List (Int × Bool)} {i : Nat} {q : Int × Bool} (hq : l[i]? = some q) : (hc l)[i * 2]? = some (.int .i64 q.1) ∧ (hc l)[i * 2 + 1]? = some (.bool q.2) :=
  pairCells_at (l := l.map fun q : Int × Bool => ((Value.int .i64 q.1, Value.bool q.2) : Value × Value)) (i := i) (p := (Value.int .i64 q.1, Value.bool q.2)) (by rw [List.getElem?_map, hq]; rfl)
theorem hc_set (l : List (Int × Bool)) (k : Nat) (x : Int) (y : Bool) : ((hc l).set (k * 2) (.int .i64 x)).set (k * 2 + 1) (.bool y) = hc (l.set k (x, y)) := by
  induction l generalizing k with
  | nil => rfl
  | cons q l ih =>
    cases k with
    | zero => rfl
    | succ k =>
      rw [hc_cons, List.set_cons_succ, hc_cons, ← ih k, show (k + 1) * 2 = (k * 2 + 1) + 1 by omega]
      rfl

/-- Loop 1's answer from place m on. -/
def wi (l : List (Int × Bool)) (m : Nat) : Int := match (l.drop m).findIdx? waits with | none => -1 | some k => ((m + k : Nat) : Int)
theorem wi_end {l : List (Int × Bool)} {n : Nat} (h : l.length = n) : wi l n = -1 := by unfold wi; rw [List.drop_of_length_le (by omega)]; rfl
theorem wi_step {l : List (Int × Bool)} {m : Nat} {q : Int × Bool} (h : l[m]? = some q) : wi l m = if waits q then (m : Int) else wi l (m + 1) := by
  obtain ⟨hm, rfl⟩ := List.getElem?_eq_some_iff.1 h
  unfold wi
  rw [List.drop_eq_getElem_cons hm, List.findIdx?_cons]
  cases hw : waits l[m]
  · simp only [Bool.false_eq_true, if_false]
    cases (l.drop (m + 1)).findIdx? waits with
    | none => rfl
    | some k => simp only [Option.map_some]; omega
  · simp
theorem wi_zero (l : List (Int × Bool)) : wi l 0 = match nextI l with | none => -1 | some k => (k : Int) := by
  unfold wi nextI
  rw [List.drop_zero]
  cases l.findIdx? waits with
  | none => rfl
  | some k => simp
theorem next_some {l : List (Int × Bool)} {k : Nat} (h : nextI l = some k) : ∃ st, l[k]? = some (st, false) ∧ st ≠ 4 := by
  unfold nextI at h
  rw [List.findIdx?_eq_some_iff_getElem] at h
  obtain ⟨hk, hw, _⟩ := h
  refine ⟨l[k].1, ?_, ?_⟩
  · rw [List.getElem?_eq_getElem hk]
    obtain ⟨⟨a, b⟩, hx⟩ : ∃ q, l[k] = q := ⟨_, rfl⟩
    rw [hx] at hw ⊢
    cases b
    · rfl
    · simp [waits] at hw
  · unfold waits at hw
    intro e
    rw [e] at hw
    simp at hw
theorem cnt_set {l : List (Int × Bool)} {k : Nat} {st : Int} (h : l[k]? = some (st, false)) (hs : st ≠ 4) : (l.set k (0, true)).countP waits + 1 = l.countP waits := by
  induction l generalizing k with
  | nil => simp at h
  | cons q l ih =>
    cases k with
    | zero =>
      simp at h
      subst h
      rw [List.set_cons_zero, List.countP_cons, List.countP_cons]
      simp [waits, hs]
    | succ k =>
      rw [List.set_cons_succ, List.countP_cons, List.countP_cons, ← ih (by simpa using h)]
      omega
theorem cnt_le (l : List (Int × Bool)) : l.countP waits ≤ l.length := List.countP_le_length
theorem mem_set_ok {l : List (Int × Bool)} {k : Nat} (h : ∀ x ∈ l, 0 ≤ x.1 ∧ x.1 ≤ 4) : ∀ x ∈ l.set k (0, true), 0 ≤ x.1 ∧ x.1 ≤ 4 := by
  intro x hx
  rcases List.mem_or_eq_of_mem_set hx with h1 | rfl
  · exact h x h1
  · simp

/-- What the signs make of a hand. -/
theorem way1 {st : Int} (h0 : 0 ≤ st) (h4 : st ≤ 4) (hn : st ≠ 4) : nx st 0 = 1 ∨ nx st 0 = 2 ∨ nx st 0 = 3 := by
  have : st = 0 ∨ st = 1 ∨ st = 2 ∨ st = 3 := by omega
  rcases this with rfl | rfl | rfl | rfl <;> decide
theorem way2 {s : Int} (h : s = 1 ∨ s = 2 ∨ s = 3) : nx s 2 = 1 ∨ nx s 2 = 2 ∨ nx s 2 = 3 := by rcases h with rfl | rfl | rfl <;> decide
theorem way3 {s : Int} (h : s = 1 ∨ s = 2 ∨ s = 3) : nx s 1 = 2 ∨ nx s 1 = 3 := by rcases h with rfl | rfl | rfl <;> decide
theorem way4 {s : Int} (h : s = 2 ∨ s = 3) : nx s 3 = 0 ∧ (stepF s 3).isSome = true := by rcases h with rfl | rfl <;> decide
theorem way_wf {s : Int} (h : s = 1 ∨ s = 2 ∨ s = 3) : (Lit.int .i64 s).wf = true := by rcases h with rfl | rfl | rfl <;> decide
theorem way_wf2 {s : Int} (h : s = 2 ∨ s = 3) : (Lit.int .i64 s).wf = true := by rcases h with rfl | rfl <;> decide
theorem small_wf {s : Int} (h0 : 0 ≤ s) (h4 : s ≤ 4) : (Lit.int .i64 s).wf = true := by
  have : s = 0 ∨ s = 1 ∨ s = 2 ∨ s = 3 ∨ s = 4 := by omega
  rcases this with rfl | rfl | rfl | rfl | rfl <;> decide

/-- The row of hands, in a world behind the call's own. -/
structure Hs (w w' : World) (A : Option Addr) (n c : Nat) (l : List (Int × Bool)) : Prop where
  own : w'.ownsRow w.heap.size 32 2 (.slice A n c) n (hc l)
  len : l.length = n
  bel : Below w.heap.size w w'
namespace Hs
variable {w w' w'' : World} {A : Option Addr} {n c g : Nat} {l : List (Int × Bool)}
theorem call (h : Hs w w' A n c l) (hb : Below w'.heap.size w' w'') : Hs w w'' A n c l := ⟨own_block h.own fun k hk => hb.block k (h.own.lt k hk).2, h.len, fresh_call h.bel hb⟩
theorem drew (h : Hs w w' A n c l) : Hs w w'.drew A n c l := h.call (Below.refl _ _).drew
theorem reads (h : Hs w w' A n c l) : Reads w' w'.heap.size 2 A n c (hc l) := Reads.of_own h.own
theorem at_ (h : Hs w w' A n c l) {k : Nat} {q : Int × Bool} (hq : l[k]? = some q) : ∃ g, A = some ⟨g, 0, none⟩ ∧ w.heap.size ≤ g ∧ g < w'.heap.size ∧ w'.cell? ⟨g, k * 2, none⟩ = some (.int .i64 q.1) ∧ w'.cell? ⟨g, k * 2 + 1, none⟩ = some (.bool q.2) ∧ ∀ i, w'.frozen? ⟨g, i, none⟩ = false := by
  have hk := (List.getElem?_eq_some_iff.1 hq).1
  have hl := h.len
  obtain ⟨e0, e1⟩ := hc_idx hq
  rcases h.own.2 with ⟨_, h0⟩ | ⟨g, cap, cur, he, hb, hh, hn, hm, hs, ht⟩
  · omega
  · injection he with h3 h4 h5
    subst h3 h5
    have h1 := h.own
    have hcl := hc_length l
    exact ⟨g, rfl, hb, (h1.lt g rfl).2, by rw [h1.cellAt _ (by omega)]; exact e0, by rw [h1.cellAt _ (by omega)]; exact e1, fun i => h1.frozenAt i⟩
theorem put (h : Hs w w' (some ⟨g, 0, none⟩) n c l) (k : Nat) (x : Int) (y : Bool) : Hs w ((w'.setCell ⟨g, k * 2, none⟩ (.int .i64 x)).setCell ⟨g, k * 2 + 1, none⟩ (.bool y)) (some ⟨g, 0, none⟩) n c (l.set k (x, y)) := by
  have hge := (h.own.lt g rfl).1
  have h1 := (h.own.stored (k * 2) (.int .i64 x)).1
  have h2 := (h1.stored (k * 2 + 1) (.bool y)).1
  rw [hc_set] at h2
  exact ⟨h2, by rw [List.length_set]; exact h.len, bset (bset h.bel hge _) hge _⟩
end Hs
/-- The row, and a hand's variable made behind it. -/
structure Hv (w w' : World) (A : Option Addr) (n c : Nat) (l : List (Int × Bool)) (b : Nat) (s : Int) (bl : Bool) : Prop where
  hs : Hs w w' A n c l
  blk : Blk w' b #[.int .i64 s, .bool bl] 32
  ne : some b ≠ (Value.slice A n c).ownBlock
  new : w.heap.size ≤ b
namespace Hv
variable {w w' w'' : World} {A : Option Addr} {n c g b : Nat} {l : List (Int × Bool)} {s : Int} {bl : Bool}
theorem start (h : Hs w w' A n c l) (s : Int) (bl : Bool) : Hv w (w'.alloc (.cells #[.int .i64 s, .bool bl] 32)) A n c l w'.heap.size s bl :=
  ⟨h.call ((Below.refl _ _).alloc (Nat.le_refl _) _), Blk.new w' _ _, fun e => Nat.lt_irrefl _ (h.own.lt _ e.symm).2, h.bel.size⟩
theorem call (h : Hv w w' A n c l b s bl) (hb : Below w'.heap.size w' w'') : Hv w w'' A n c l b s bl := ⟨h.hs.call hb, h.blk.call hb, h.ne, h.new⟩
theorem set (h : Hv w w' A n c l b s bl) (x : Int) (y : Bool) : Hv w ((w'.setCell ⟨b, 0, none⟩ (.int .i64 x)).setCell ⟨b, 1, none⟩ (.bool y)) A n c l b x y :=
  ⟨⟨(h.hs.own.kept (grown_set w' b 0 _) (.inr h.ne.symm)).kept (grown_set _ b 1 _) (.inr h.ne.symm), h.hs.len, bset (bset h.hs.bel h.new _) h.new _⟩, hset h.blk, h.ne, h.new⟩
end Hv
end Go.Proofs.Ytpdleckflcangaa.AskNext
