/- besomlaw13.StackPlays: the stack, the own row that mirrors it, and the operation's own variable. -/
import Derived.Test.YtpdleckflcangaaStkP
namespace Go.Proofs.Ytpdleckflcangaa.Stk
open Go.RowKit
set_option linter.unusedSimpArgs false
set_option linter.unusedVariables false

/-- A stack with the words ws, a row of the call's own with the words rs, and the variable of an operation. -/
structure PQ (w w' : World) (b g gw : Nat) (base : Int) (ws rs : List Int) (bo : Nat) (cs : Array Value) : Prop where
  st : StackAt w' b g base ws
  row : Blk w' gw (cells rs) 3
  len : rs.length = ws.length
  ne1 : g ≠ gw
  ne2 : b ≠ gw
  o : Blk w' bo cs 59
  nb : w.heap.size ≤ b
  ng : w.heap.size ≤ g
  nw : w.heap.size ≤ gw
  no : w.heap.size ≤ bo
  hb : 0 ≤ base ∧ base ≤ 4000000000
  bel : Below w.heap.size w w'
theorem blk_ne {w : World} {b c : Nat} {x y : Array Value} {S T : TypeId} (h : Blk w b x S) (k : Blk w c y T) (hne : S ≠ T) : b ≠ c := by
  rintro rfl
  have h1 : w.heap[b]? = some (.cells x S (0, 0)) := h
  have h2 : w.heap[b]? = some (.cells y T (0, 0)) := k
  rw [h1] at h2
  injection h2 with h2
  injection h2 with _ h2
  exact hne h2
/-- Behind a step that writes the block c, and new blocks, alone. -/
theorem below_grown {B : Nat} {a W w1 : World} {c : Nat} (h : Below B a W) (hB : B ≤ W.heap.size) (hg : W.grownBy w1 (some c)) (hc : B ≤ c) : Below B a w1 :=
  ⟨hg.os.trans h.os, hg.tape.trans h.tape, hg.output.trans h.output, Nat.le_trans h.size hg.size, fun k hk => (hg.block k (Nat.lt_of_lt_of_le hk hB) (fun e => by injection e with e; omega)).trans (h.block k hk)⟩
theorem blk_grown {w w' : World} {b c : Nat} {cs : Array Value} {T : TypeId} (h : Blk w b cs T) (hg : w.grownBy w' (some c)) (hne : b ≠ c) : Blk w' b cs T :=
  (hg.block b h.lt (fun e => hne (Option.some.inj e))).trans h
namespace PQ
variable {w w' w'' : World} {b g gw bo : Nat} {base : Int} {ws rs : List Int} {cs : Array Value}
theorem call (h : PQ w w' b g gw base ws rs bo cs) (hb : Below w'.heap.size w' w'') : PQ w w'' b g gw base ws rs bo cs :=
  ⟨h.st.below hb, h.row.call hb, h.len, h.ne1, h.ne2, h.o.call hb, h.nb, h.ng, h.nw, h.no, h.hb, fresh_call h.bel hb⟩
theorem drewN (h : PQ w w' b g gw base ws rs bo cs) (n : Nat) : PQ w (w'.drewN n) b g gw base ws rs bo cs := h.call (below_drewN (Below.refl _ _) n)
theorem alloc (h : PQ w w' b g gw base ws rs bo cs) (o : Obj) : PQ w (w'.alloc o) b g gw base ws rs bo cs := h.call ((Below.refl _ _).alloc (Nat.le_refl _) o)
theorem neo1 (h : PQ w w' b g gw base ws rs bo cs) : bo ≠ g := blk_ne h.o h.st.2.1 (by decide)
theorem neo2 (h : PQ w w' b g gw base ws rs bo cs) : bo ≠ gw := blk_ne h.o h.row (by decide)
theorem neo3 (h : PQ w w' b g gw base ws rs bo cs) : bo ≠ b := blk_ne h.o h.st.1 (by decide)
/-- The stack has other words. -/
theorem stack (h : PQ w w' b g gw base ws rs bo cs) {ws' : List Int} (hs : StackAt w'' b g base ws') (hg : w'.grownBy w'' (some g)) (hl : ws'.length = ws.length) : PQ w w'' b g gw base ws' rs bo cs :=
  ⟨hs, blk_grown h.row hg h.ne1.symm, h.len.trans hl.symm, h.ne1, h.ne2, blk_grown h.o hg h.neo1, h.nb, h.ng, h.nw, h.no, h.hb, below_grown h.bel h.bel.size hg h.ng⟩
/-- The own row has another word. -/
theorem put (h : PQ w w' b g gw base ws rs bo cs) (j : Nat) (x : Int) : PQ w (w'.setCell ⟨gw, j, none⟩ (.int .i64 x)) b g gw base ws (rs.set j x) bo cs :=
  ⟨⟨h.st.1.other (a := ⟨gw, j, none⟩) h.ne2 _, h.st.2.1.other (a := ⟨gw, j, none⟩) h.ne1 _, h.st.2.2⟩, by rw [← cells_set]; exact h.row.set j _, by simp [h.len], h.ne1, h.ne2, h.o.other (a := ⟨gw, j, none⟩) h.neo2 _, h.nb, h.ng, h.nw, h.no, h.hb,
   below_grown h.bel h.bel.size (grown_set w' gw j _) h.nw⟩
/-- The operation's variable has another value. -/
theorem oset (h : PQ w w' b g gw base ws rs bo cs) (j : Nat) (x : Value) : PQ w (w'.setCell ⟨bo, j, none⟩ x) b g gw base ws rs bo (cs.setIfInBounds j x) :=
  ⟨⟨h.st.1.other (a := ⟨bo, j, none⟩) h.neo3.symm _, h.st.2.1.other (a := ⟨bo, j, none⟩) h.neo1.symm _, h.st.2.2⟩, h.row.other (a := ⟨bo, j, none⟩) h.neo2.symm _, h.len, h.ne1, h.ne2, h.o.set j _, h.nb, h.ng, h.nw, h.no, h.hb,
   below_grown h.bel h.bel.size (grown_set w' bo j _) h.no⟩
theorem done (h : PQ w w' b g gw base ws ws bo cs) : PS w w' b g gw base ws := ⟨h.st, h.row, h.ne1, h.ne2, h.nb, h.ng, h.nw, h.hb, h.bel⟩
theorem rcell (h : PQ w w' b g gw base ws rs bo cs) {j : Nat} (hj : j < rs.length) : w'.cell? ⟨gw, j, none⟩ = some (.int .i64 rs[j]) ∧ w'.frozen? ⟨gw, j, none⟩ = false :=
  ⟨(h.row.cell j).trans (cells_get rs j _ (List.getElem?_eq_getElem hj)), h.row.free j⟩
end PQ
theorem PS.pq {w w' : World} {b g gw : Nat} {base : Int} {ws : List Int} (h : PS w w' b g gw base ws) (cs : Array Value) : PQ w (w'.alloc (.cells cs 59)) b g gw base ws ws w'.heap.size cs :=
  ⟨h.st.below ((Below.refl _ _).alloc (Nat.le_refl _) _), h.row.alloc _, rfl, h.ne1, h.ne2, Blk.new w' cs _, h.nb, h.ng, h.nw, h.bel.size, h.hb, fresh_alloc h.bel _⟩
theorem cp_cells' (ws : List Int) (n : Nat) : (List.take (ws.length.min n) (List.map (Value.int IntKind.i64) ws) ++ List.drop (ws.length.min n) (cells (List.replicate n 0)).toList).toArray = cells (cp ws n) := by
  have h := cp_cells ws n
  rw [List.take_zero, List.nil_append, Nat.zero_add] at h
  exact h
theorem StackAt.grown {w w' : World} {b g c : Nat} {base : Int} {ws : List Int} (h : StackAt w b g base ws) (hg : w.grownBy w' (some c)) (h1 : b ≠ c) (h2 : g ≠ c) : StackAt w' b g base ws :=
  ⟨blk_grown h.1 hg h1, blk_grown h.2.1 hg h2, h.2.2⟩
/-- Besides, the copy that takes its place. -/
structure PT (w w' : World) (b g gw : Nat) (base : Int) (ws : List Int) (bo : Nat) (cs : Array Value) (g2 : Nat) (B1 : Int) (n1 : Nat) : Prop where
  q : PQ w w' b g gw base ws ws bo cs
  t : StackAt w' (g2 + 1) g2 B1 (cp ws n1)
namespace PT
variable {w w' w'' : World} {b g gw bo g2 n1 : Nat} {base B1 : Int} {ws : List Int} {cs : Array Value}
theorem call (h : PT w w' b g gw base ws bo cs g2 B1 n1) (hb : Below w'.heap.size w' w'') : PT w w'' b g gw base ws bo cs g2 B1 n1 := ⟨h.q.call hb, h.t.below hb⟩
theorem drewN (h : PT w w' b g gw base ws bo cs g2 B1 n1) (n : Nat) : PT w (w'.drewN n) b g gw base ws bo cs g2 B1 n1 := ⟨h.q.drewN n, h.t.drewN n⟩
theorem alloc (h : PT w w' b g gw base ws bo cs g2 B1 n1) (o : Obj) : PT w (w'.alloc o) b g gw base ws bo cs g2 B1 n1 := h.call ((Below.refl _ _).alloc (Nat.le_refl _) o)
/-- The copy takes its place, with a row of its own that mirrors it. -/
theorem swap (h : PT w w' b g gw base ws bo cs g2 B1 n1) (hlt : b < g2 ∧ g < g2 ∧ gw < g2 ∧ bo < g2) (hsz : w.heap.size ≤ g2) (hB : 0 ≤ B1 ∧ B1 ≤ 4000000000) {w3 w4 w5 : World} {ws' : List Int}
    (hs : StackAt w3 b g base ws') (hg : w'.grownBy w3 (some g)) (h4 : w4 = w3.alloc (.cells (cells (List.replicate n1 0)) 3)) (h5 : Blk w5 w3.heap.size (cells (cp ws n1)) 3) (hg5 : w4.grownBy w5 (some w3.heap.size)) :
    PS w w5 (g2 + 1) g2 w3.heap.size B1 (cp ws n1) := by
  subst h4
  have t3 := h.t.grown hg (by omega) (by omega)
  have t4 : StackAt (w3.alloc (.cells (cells (List.replicate n1 0)) 3)) (g2 + 1) g2 B1 (cp ws n1) := t3.below ((Below.refl _ _).alloc (Nat.le_refl _) _)
  have l1 := t3.1.lt
  have l2 := t3.2.1.lt
  have b3 := below_grown h.q.bel h.q.bel.size hg h.q.ng
  have b4 := fresh_alloc b3 (.cells (cells (List.replicate n1 0)) 3)
  exact ⟨t4.grown hg5 (by omega) (by omega), h5, by omega, by omega, by omega, hsz, b3.size, hB, below_grown b4 b4.size hg5 b3.size⟩
end PT
theorem PS.rcell {w w' : World} {b g gw : Nat} {base : Int} {ws : List Int} (h : PS w w' b g gw base ws) {j : Nat} (hj : j < ws.length) : w'.cell? ⟨gw, j, none⟩ = some (.int .i64 ws[j]) ∧ w'.frozen? ⟨gw, j, none⟩ = false :=
  ⟨(h.row.cell j).trans (cells_get ws j _ (List.getElem?_eq_getElem hj)), h.row.free j⟩
end Go.Proofs.Ytpdleckflcangaa.Stk
