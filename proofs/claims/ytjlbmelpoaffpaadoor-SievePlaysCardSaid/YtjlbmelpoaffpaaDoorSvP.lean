/- besomlaw1.SievePlays: the sieve, the row of bools that mirrors it, the book. -/
import Derived.Test.YtjlbmelpoaffpaaDoorSv8
import Derived.Test.YtjlbmelpoaffpaaDoorBook12
import Derived.Test.YtjlbmelpoaffpaaDoorBookI
import Derived.Test.YtjlbmelpoaffpaaDoorBRow
namespace Go.Proofs.YtjlbmelpoaffpaaDoor.Sv
open Go.RowKit Bit Wd
set_option linter.unusedSimpArgs false
set_option linter.unusedVariables false

/-- A sieve, a row of bools, a book; what the book has is a set S from block z on, none of it the sieve's or the row's. -/
structure SP (w wr : World) (b g n : Nat) (W : List Nat) (bi : Nat) (f : Nat → Bool) (z bk : Nat) (S : Nat → Prop) : Prop where
  sw : SW w wr b g n W
  ib : Blk wr bi (bcf n f) 4
  ni : w.heap.size ≤ bi
  book : Book.BookIn wr S z bk
  dis : ∀ k, S k → k ≠ b ∧ k ≠ g ∧ k ≠ bi ∧ w.heap.size ≤ k
  zz : z ≤ wr.heap.size
namespace SP
variable {w wr w' : World} {b g n bi bi' z bk : Nat} {W W' : List Nat} {f f' : Nat → Bool} {S S' : Nat → Prop}
theorem call (h : SP w wr b g n W bi f z bk S) (hb : Below wr.heap.size wr w') : SP w w' b g n W bi f z bk S :=
  ⟨h.sw.call hb, h.ib.call hb, h.ni, h.book.call hb, h.dis, Nat.le_trans h.zz hb.size⟩
theorem drewN (h : SP w wr b g n W bi f z bk S) (k : Nat) : SP w (wr.drewN k) b g n W bi f z bk S := h.call (below_drewN (Below.refl _ _) k)
theorem gi (h : SP w wr b g n W bi f z bk S) : g ≠ bi := blk_ne h.sw.sv.row h.ib (by decide)
theorem bi_ (h : SP w wr b g n W bi f z bk S) : b ≠ bi := blk_ne h.sw.sv.blk h.ib (by decide)
/-- The sieve has turned. -/
theorem sieve (h : SP w wr b g n W bi f z bk S) (h0 : 0 < w.heap.size) (hs : SieveAt w' b g n W') (hk : Kept (fun i => i = g) wr w') : SP w w' b g n W' bi f z bk S :=
  ⟨h.sw.step h0 hs hk, hk.blk h.ib (fun e => h.gi e.symm), h.ni, h.book.kept hk (fun k hs e => (h.dis k hs).2.1 e), h.dis, Nat.le_trans h.zz hk.size⟩
/-- The row has turned. -/
theorem row (h : SP w wr b g n W bi f z bk S) (h0 : 0 < w.heap.size) (j : Nat) (v : Bool) : SP w (wr.setCell ⟨bi, j, none⟩ (.bool v)) b g n W bi (fun i => if i = j then v else f i) z bk S := by
  have hk : Kept (fun i => i = bi) wr (wr.setCell ⟨bi, j, none⟩ (.bool v)) := (Kept.refl (fun i => i = bi) wr).set (p := ⟨bi, j, none⟩) (.inl rfl) _
  exact ⟨⟨h.sw.sv.kept hk ⟨h.bi_, h.gi⟩, h.sw.new, h.sw.bel.trans (hk.below h.sw.bel.size (fun i hi e => by have := h.ni; omega)), h.sw.tab.kept hk (fun e => by have := h.ni; omega)⟩,
    (h.ib.set j _).of_eq (bcf_set f v), h.ni, h.book.kept hk (fun k hs e => (h.dis k hs).2.2.1 e), h.dis, Nat.le_trans h.zz hk.size⟩
theorem congr (h : SP w wr b g n W bi f z bk S) (hf : ∀ i, i < n → f i = f' i) : SP w wr b g n W bi f' z bk S := { h with ib := h.ib.of_eq (bcf_congr hf) }
/-- Another row. -/
theorem other (h : SP w wr b g n W bi f z bk S) (hi : Blk wr bi' (bcf n f') 4) (hn : w.heap.size ≤ bi') (hS : ∀ k, S k → k ≠ bi') : SP w wr b g n W bi' f' z bk S :=
  ⟨h.sw, hi, hn, h.book, fun k hk => ⟨(h.dis k hk).1, (h.dis k hk).2.1, hS k hk, (h.dis k hk).2.2.2⟩, h.zz⟩
/-- The book has turned. -/
theorem told (h : SP w wr b g n W bi f z bk S) (h0 : 0 < w.heap.size) {q : Nat} (hk : Kept (fun k => S k ∨ q ≤ k) wr w') (hq : b < q ∧ g < q ∧ bi < q ∧ w.heap.size ≤ q) (hb : Book.BookIn w' S' z bk) (hS : ∀ k, S' k → S k ∨ q ≤ k) : SP w w' b g n W bi f z bk S' := by
  have hd : ∀ k, (S k ∨ q ≤ k) → k ≠ b ∧ k ≠ g ∧ k ≠ bi ∧ w.heap.size ≤ k := by
    rintro k (hk | hk)
    · exact h.dis k hk
    · exact ⟨by omega, by omega, by omega, by omega⟩
  exact ⟨⟨h.sw.sv.kept hk ⟨fun e => (hd _ e).1 rfl, fun e => (hd _ e).2.1 rfl⟩, h.sw.new, h.sw.bel.trans (hk.below h.sw.bel.size (fun i hi e => by have := (hd _ e).2.2.2; omega)), h.sw.tab.kept hk (fun e => by have := (hd _ e).2.2.2; omega)⟩,
    hk.blk h.ib (fun e => (hd _ e).2.2.1 rfl), h.ni, hb, fun k hk => hd k (hS k hk), Nat.le_trans h.zz hk.size⟩
end SP
/-- The least number from a bound on and below another one of which p is true, so far. -/
def Far (p : Nat → Bool) (x : Int) (v : Nat) (r : Int) : Prop := (r = -1 ∧ ∀ j : Nat, x ≤ (j : Int) → j < v → p j = false) ∨ ∃ j : Nat, r = (j : Int) ∧ x ≤ (j : Int) ∧ j < v ∧ p j = true ∧ ∀ i : Nat, x ≤ (i : Int) → i < j → p i = false
theorem Far.start (p : Nat → Bool) (x : Int) : Far p x 0 (-1) := .inl ⟨rfl, fun j _ h => by omega⟩
theorem Far.skip {p : Nat → Bool} {x r : Int} {v : Nat} (h : Far p x v r) (hp : p v = false ∨ (v : Int) < x ∨ 0 ≤ r) : Far p x (v + 1) r := by
  rcases h with ⟨rfl, h⟩ | ⟨j, rfl, h1, h2, h3, h4⟩
  · refine .inl ⟨rfl, fun j hj hlt => ?_⟩
    by_cases e : j = v
    · subst e
      rcases hp with hp | hp | hp
      · exact hp
      · omega
      · omega
    · exact h j hj (by omega)
  · exact .inr ⟨j, rfl, h1, by omega, h3, h4⟩
theorem Far.found {p : Nat → Bool} {x r : Int} {v : Nat} (h : Far p x v r) (hr : r < 0) (hx : x ≤ (v : Int)) (hp : p v = true) : Far p x (v + 1) (v : Int) := by
  rcases h with ⟨rfl, h⟩ | ⟨j, rfl, h1, h2, h3, h4⟩
  · exact .inr ⟨v, rfl, hx, by omega, hp, fun i h1 h2 => h i h1 h2⟩
  · omega
theorem Far.done {p : Nat → Bool} {x r : Int} {v f : Nat} (h : Far p x v r) (hf : max x 0 = (f : Int)) (hp : ∀ j, v ≤ j → p j = false) : Nxt p f r := by
  rcases h with ⟨rfl, h⟩ | ⟨j, rfl, h1, h2, h3, h4⟩
  · refine .inl ⟨rfl, fun j hj => ?_⟩
    by_cases e : j < v
    · exact h j (by omega) e
    · exact hp j (by omega)
  · exact .inr ⟨j, rfl, by omega, h3, fun i hi hlt => h4 i (by omega) hlt⟩
/-- The bits of one word, so far. -/
def Bits (p : Nat → Bool) (k : Int) (v : Nat) (y : Nat) : Prop := y < 18446744073709551616 ∧ ∀ i, i < 64 → y.testBit i = (decide (0 ≤ k) && (decide (64 * k.toNat + i < v) && p (64 * k.toNat + i)))
theorem Bits.start (p : Nat → Bool) (k : Int) : Bits p k 0 0 := ⟨by omega, fun i _ => by simp⟩
theorem Bits.skip {p : Nat → Bool} {k : Int} {v y : Nat} (h : Bits p k v y) (hp : p v = false ∨ k < 0 ∨ (v / 64 : Nat) ≠ k.toNat) : Bits p k (v + 1) y := by
  refine ⟨h.1, fun i hi => ?_⟩
  rw [h.2 i hi]
  by_cases h0 : 0 ≤ k
  · by_cases e : 64 * k.toNat + i = v
    · rw [e]
      rcases hp with hp | hp | hp
      · simp [hp]
      · omega
      · omega
    · have : (64 * k.toNat + i < v + 1) ↔ (64 * k.toNat + i < v) := by omega
      simp [this]
  · simp [h0]
theorem Bits.put {p : Nat → Bool} {k : Int} {v y : Nat} (h : Bits p k v y) (hp : p v = true) (h0 : 0 ≤ k) (hv : v / 64 = k.toNat) : Bits p k (v + 1) (y ||| 2 ^ (v % 64)) := by
  have hm := Nat.mod_lt v (show 0 < 64 by omega)
  refine ⟨or_lt h.1 (pow_lt hm), fun i hi => ?_⟩
  rw [Nat.testBit_or, h.2 i hi, pow_bit]
  have e0 : decide (0 ≤ k) = true := by simpa using h0
  rw [e0]
  by_cases e : 64 * k.toNat + i = v
  · have : v % 64 = i := by omega
    rw [e]
    simp [this, hp]
  · have h1 : ¬ v % 64 = i := by omega
    have h2 : (64 * k.toNat + i < v + 1) ↔ (64 * k.toNat + i < v) := by omega
    simp [h1, h2]
theorem Bits.done {n : Nat} {W : List Nat} {k : Int} {v y : Nat} (h : Bits (has W) k v y) (ho : Ok n W) (hv : n ≤ v) : y = wordI W k := by
  have hw : wordI W k < 18446744073709551616 := by
    unfold wordI
    split
    · cases e : W[k.toNat]? with
      | none => simp [List.getD, e]
      | some x => simp [List.getD, e]; exact ho.lt _ _ e
    · omega
  apply Nat.eq_of_testBit_eq
  intro i
  by_cases hi : i < 64
  · rw [h.2 i hi]
    unfold wordI
    by_cases h0 : 0 ≤ k
    · rw [if_pos h0]
      have e0 : decide (0 ≤ k) = true := by simpa using h0
      rw [e0]
      have e1 : has W (64 * k.toNat + i) = (W.getD k.toNat 0).testBit i := by
        unfold has
        rw [show (64 * k.toNat + i) / 64 = k.toNat by omega, show (64 * k.toNat + i) % 64 = i by omega]
      rw [← e1]
      cases e2 : has W (64 * k.toNat + i)
      · simp
      · have := ho.inn _ e2
        have : 64 * k.toNat + i < v := by omega
        simp [this]
    · rw [if_neg h0]
      simp [h0]
  · rw [Wd.high_bit h.1 (by omega), Wd.high_bit hw (by omega)]
end Go.Proofs.YtjlbmelpoaffpaaDoor.Sv
