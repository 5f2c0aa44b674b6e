/- A row of ints that is taken from in front and appended to. -/
import Derived.Test.YtoajbjeiplolnaaDoorRTb
import Derived.ArgAppend
import Derived.Deep.LoopGhost
namespace Go.Proofs.YtoajbjeiplolnaaDoorR.Td
open Go.RowKit Ar Hp Tn
set_option linter.unusedSimpArgs false
set_option linter.unusedVariables false

structure TD (z : Nat) (w : World) (A : Option Addr) (c : Nat) (td : List Int) : Prop where
  le : td.length ≤ c
  ow : ∀ g, (Value.slice A 0 0).ownBlock = some g → g < w.heap.size
  row : c = 0 ∨ ∃ g off cur, A = some ⟨g, off, none⟩ ∧ z ≤ g ∧ Blk w g cur 3 ∧ off + c ≤ cur.size ∧ ∀ j x, td[j]? = some x → cur[off + j]? = some (.int .i64 x)
section
variable {z n : Nat} {w w' : World} {A : Option Addr} {c : Nat} {td : List Int} {x y : Int}
theorem TD.keep (h : TD z w A c td) (hsz : w.heap.size ≤ w'.heap.size) (hk : ∀ g cur, Blk w g cur 3 → w'.heap[g]? = w.heap[g]?) : TD z w' A c td :=
  ⟨h.le, fun g hg => Nat.lt_of_lt_of_le (h.ow g hg) hsz, by
    rcases h.row with h1 | ⟨g, off, cur, rfl, h2, h3, h4⟩
    · exact .inl h1
    · exact .inr ⟨g, off, cur, rfl, h2, (hk g cur h3).trans h3, h4⟩⟩
theorem TD.call (h : TD z w A c td) (hb : Below w.heap.size w w') : TD z w' A c td := h.keep hb.size fun g _ hg => hb.block g hg.lt
theorem TD.upd {mb : Nat} {T : List Int} {f : Int → Bool} (h : TD z w A c td) (hm : BMap w mb T f) (hg : w.grownBy w' (some mb)) : TD z w' A c td := h.keep hg.size fun g _ hb => hg.block g hb.lt fun e => hm.ne_blk hb (Option.some.inj e).symm
/-- The first. -/
theorem TD.head (h : TD z w A c (x :: td)) : ∃ g off, A = some ⟨g, off, none⟩ ∧ g < w.heap.size ∧ w.cell? ⟨g, off, none⟩ = some (.int .i64 x) := by
  have hle := h.le
  rw [List.length_cons] at hle
  rcases h.row with h1 | ⟨g, off, cur, rfl, h2, h3, h4, h5⟩
  · omega
  · exact ⟨g, off, rfl, h3.lt, (h3.cell off).trans (by simpa using h5 0 x rfl)⟩
/-- All but the first. -/
theorem TD.tail1 (h : TD z w A 1 (x :: td)) : td = [] ∧ TD z w A 0 td := by
  have hle := h.le
  rw [List.length_cons] at hle
  have h0 : td.length = 0 := by omega
  have h1 := List.eq_nil_of_length_eq_zero h0
  exact ⟨h1, by omega, h.ow, .inl rfl⟩
theorem TD.tail {g off : Nat} (h : TD z w (some ⟨g, off, none⟩) c (x :: td)) : TD z w (some ⟨g, off + 1, none⟩) (c - 1) td := by
  have hle := h.le
  rw [List.length_cons] at hle
  refine ⟨by omega, fun g' hg' => h.ow g' hg', ?_⟩
  rcases h.row with h1 | ⟨g', off', cur, e, h2, h3, h4, h5⟩
  · omega
  · injection e with e
    injection e with e1 e2
    subst e1 e2
    refine .inr ⟨g, off + 1, cur, rfl, h2, h3, by omega, fun j y hy => ?_⟩
    rw [show off + 1 + j = off + (j + 1) by omega]
    exact h5 (j + 1) y (by simpa using hy)
theorem TD.of_own (h : w.ownsRow z 3 1 (.slice A td.length c) td.length (ints' td)) : TD z w A c td := by
  rcases h.2 with ⟨h1, h2⟩ | ⟨g, cap, cur, h1, h2, h3, h4, h5, h6, h7⟩
  · injection h1 with h8 _ h1
    subst h1 h8
    exact ⟨by omega, (fun g hg => by cases hg), .inl rfl⟩
  · injection h1 with h1 _ h8
    subst h1 h8
    refine ⟨h4, (fun g' hg' => by cases hg'; exact Blk.lt h3), .inr ⟨g, 0, cur, rfl, h2, h3, by omega, fun j x hx => ?_⟩⟩
    have hj : j < td.length := (List.getElem?_eq_some_iff.1 hx).1
    have h9 : (ints' td)[j]? = some (.int .i64 x) := by simp [ints', hx]
    rw [← h7, List.getElem?_take_of_lt (by omega)] at h9
    rw [Nat.zero_add]
    simpa using h9
/-- append of one. -/
theorem wpList_td {ops : Array Oper} {rest : List Oper} {o : Oper} {a : Act} {Q : Exit → Act → World → Prop} (hgd : o.guard = none) (s r : Operand)
    (ho : o.op = .call { callee := .builtin .append, args := #[s, r], argTypes := #[27, 27] }) (i : TypeInfo) (hi : Tryd.prog.info? 3 = some i) (hz : i.zero = some (.int .i64 0)) (hs1 : i.size = 1) (hby : i.bytes = 8)
    (hs : a.eval s = .slice A n c) (hn : td.length = n) (hT : TD z w A c td) (hm : n ≤ 1000000) (b : Nat) (hx : a.eval r = .slice (some ⟨b, 0, none⟩) 1 1) (hc : w.cell? ⟨b, 0, none⟩ = some (.int .i64 y)) (hz2 : z ≤ w.heap.size)
    (h : ∀ A' c' w', TD z w' A' c' (td ++ [y]) → (∃ row, w.grownBy w' row ∧ ∀ g, row = some g → z ≤ g ∧ (∃ cur, Blk w g cur 3) ∧ (Value.slice A 0 0).ownBlock = some g) → (∀ g, (Value.slice A' 0 0).ownBlock = some g → (Value.slice A 0 0).ownBlock = some g ∨ w.heap.size ≤ g) → wpList Tryd.prog ops Q rest (a.put o.dst (.slice A' (n + 1) c')) w') :
    wpList Tryd.prog ops Q (o :: rest) a w := by
  subst hn
  have hcell : ∀ j u, [Value.int .i64 y][j]? = some u → w.cell? ((⟨b, 0, none⟩ : Addr).add j) = some u := fun j u hu => by
    rcases j with _ | j
    · simp at hu
      subst hu
      exact hc
    · simp at hu
  have hone : ∀ u ∈ [Value.int .i64 y], u.oneCell' = true := fun u hu => by
    rw [List.mem_singleton.1 hu]
    rfl
  have hlo : (ints' td).length = td.length * 1 := by simp [ints']
  have hap : ints' td ++ [Value.int .i64 y] = ints' (td ++ [y]) := by simp [ints']
  have hgrown : ∀ v' w', w'.ownsRow w.heap.size 3 1 v' (td.length + 1) (ints' td ++ [.int .i64 y]) → w.grownBy w' none → wpList Tryd.prog ops Q rest (a.put o.dst v') w' := by
    intro v' w' h1 h2
    rw [hap] at h1
    have h3 := h1
    rcases h3.2 with ⟨_, h4⟩ | ⟨g, cap, cur, rfl, h5, _⟩
    · omega
    · refine h _ _ w' ?_ ⟨none, h2, fun g hg => by cases hg⟩ fun g' hg' => .inr ?_
      · have h6 : TD w.heap.size w' (some ⟨g, 0, none⟩) cap (td ++ [y]) := TD.of_own (by simpa using h1)
        refine ⟨h6.le, h6.ow, ?_⟩
        rcases h6.row with h7 | ⟨g2, off, cur2, e, h8, h9⟩
        · exact .inl h7
        · exact .inr ⟨g2, off, cur2, e, Nat.le_trans hz2 h8, h9⟩
      · obtain rfl : g = g' := Option.some.inj hg'
        exact h5
  by_cases hcap : td.length + 1 ≤ c
  · rcases hT.row with h0 | ⟨g, off, cur, rfl, h2, h3, h4, h5⟩
    · omega
    · refine wpList_append_arg w hgd s r 27 ho 3 i (.int .i64 0) 1 8 Tryd.underlying27 hi hz hs1 hby rfl (by decide) g off td.length c (ints' td) hs hlo (fun j u hu => ?_) ⟨b, 0, none⟩ 1 1 [.int .i64 y] hx rfl hcell hone (fun _ j hj => ?_) (by unfold maxLen; omega) (by omega) (fun _ => ?_) (fun h9 => by omega)
      · have hj : j < td.length := by
          have := (List.getElem?_eq_some_iff.1 hu).1
          omega
        have hu2 : u = .int .i64 td[j] := by
          have h9 : (ints' td)[j]? = some (.int .i64 td[j]) := by simp [ints', hj]
          rw [hu] at h9
          exact Option.some.inj h9
        rw [h3.cell, hu2]
        exact h5 j _ (List.getElem?_eq_getElem hj)
      · have hj : j = 0 := by simpa using hj
        subst hj
        refine ⟨?_, h3.free _⟩
        rw [h3.cell, Array.getElem?_eq_getElem (by omega)]
        rfl
      · refine h _ _ _ ⟨by simpa using hcap, (fun g' hg' => by show g' < (w.setCell ⟨g, off + td.length * 1, none⟩ (.int .i64 y)).heap.size; simpa [World.setCell] using hT.ow g' hg'), .inr ⟨g, off, _, rfl, h2, h3.set (off + td.length * 1) (.int .i64 y), by simpa using h4, fun j x hx => ?_⟩⟩ ⟨_, grown_set w g _ _, fun g' hg' => by cases hg'; exact ⟨h2, ⟨cur, h3⟩, rfl⟩⟩ fun g' hg' => .inl hg'
        by_cases e : j = td.length
        · subst e
          have hxy : x = y := by simpa using hx.symm
          subst hxy
          rw [Nat.mul_one, Array.getElem?_setIfInBounds_self_of_lt (by omega)]
        · have hj := (List.getElem?_eq_some_iff.1 hx).1
          rw [List.length_append, List.length_singleton] at hj
          rw [List.getElem?_append_left (by omega)] at hx
          rw [Array.getElem?_setIfInBounds_ne (by omega)]
          exact h5 j x hx
  · refine wpList_append_grows w hgd s r 27 ho 3 i (.int .i64 0) 1 8 Tryd.underlying27 hi hz hs1 hby rfl (by decide) A td.length c (ints' td) hs (fun h1 => ?_) hlo (fun b' hb' j u hu => ?_) ⟨b, 0, none⟩ 1 1 [.int .i64 y] hx rfl hcell hone (by omega) (by unfold maxLen; omega) (by omega) hgrown
    · have hle := hT.le
      rcases hT.row with h0 | ⟨g, off, cur, e, _⟩
      · omega
      · rw [h1] at e
        cases e
    · have hj : j < td.length := by
        have := (List.getElem?_eq_some_iff.1 hu).1
        omega
      have hle := hT.le
      rcases hT.row with h0 | ⟨g, off, cur, rfl, h2, h3, h4, h5⟩
      · omega
      · obtain rfl : (⟨g, off, none⟩ : Addr) = b' := Option.some.inj hb'
        have hu2 : u = .int .i64 td[j] := by
          have h9 : (ints' td)[j]? = some (.int .i64 td[j]) := by simp [ints', hj]
          rw [hu] at h9
          exact Option.some.inj h9
        rw [Addr.add_lit, h3.cell, hu2]
        exact h5 j _ (List.getElem?_eq_getElem hj)
end
end Go.Proofs.YtoajbjeiplolnaaDoorR.Td
